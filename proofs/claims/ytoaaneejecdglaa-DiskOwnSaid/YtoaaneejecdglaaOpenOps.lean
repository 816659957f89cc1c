/-
  PROVED: a slice of steps among the arguments, opened.
-/
import Derived.Test.YtoaaneejecdglaaOps
import Derived.Test.YtoaaneejecdglaaOpen
namespace Go.Proofs.Ytoaaneejecdglaa
open Go.RowKit Go.ChangeShapes Go.WideShapes Go.Deep

theorem ops_arg {H : Type} {enc : TypeId × Value → H} {w : World} {base : Nat} {spare : Nat → Bool} {held : Bool} {r : Reach} {b0 : Nat} {v : Value} {d : DataW H} {p : List MemPlace}
    (hv : Value.okWide Try.prog w r b0 41 v) (h : DataW.Trod enc Try.prog w base spare held 41 v d p) (hsz : (d.weights Try.prog 41).all (· ≤ reachBytes) = true) :
    ∃ (A : Option Addr) (ops : List GOp) (c : Nat), v = .slice A ops.length c ∧ OpsAt w A ops ∧ ops.length * 64 ≤ 140737488351232 := by
  obtain ⟨a0, len0, cap0, rfl⟩ := okWide_slice Try.underlying41 hv
  obtain ⟨fuel, hf⟩ := h
  obtain ⟨A, n, c, hvv, hnc, hcm, hel, hby⟩ := open_structs Try.underlying41 Try.underlying44 (by kernel_rfl) (by kernel_rfl) (show DataW.trod enc Try.prog w base spare held fuel 41 [Value.slice a0 len0 cap0] = some (d, p) from hf)
  have hn := hby hsz
  rw [show Try.prog.bytesOf 44 = 64 by kernel_rfl] at hn
  have each : ∀ i, i < n → ∃ o : GOp, (∃ ad, A = some ad ∧ ∀ j u, o.cells[j]? = some u → w.cell? ((ad.add (i * 6)).add j) = some u) ∧ o.Ok w := by
    intro i hi
    obtain ⟨ad, cs, ys, m, hA, hcl, hyl, hcell, hfs⟩ := hel i hi
    obtain ⟨c0, y0, hc0, _, t0, _⟩ := hfs 0 _ rfl
    obtain ⟨c1, y1, hc1, _, t1, _⟩ := hfs 1 _ rfl
    obtain ⟨c2, y2, hc2, _, t2, _⟩ := hfs 2 _ rfl
    obtain ⟨c3, y3, hc3, _, t3, _⟩ := hfs 3 _ rfl
    obtain ⟨c4, y4, hc4, _, t4, _⟩ := hfs 4 _ rfl
    obtain ⟨c5, y5, hc5, _, t5, z5⟩ := hfs 5 _ rfl
    obtain ⟨k0, e0, _, _⟩ := DataW.trod_int Try.underlying3 t0
    obtain ⟨k1, e1, _, _⟩ := DataW.trod_int Try.underlying3 t1
    obtain ⟨k2, e2, _, _⟩ := DataW.trod_int Try.underlying3 t2
    obtain ⟨k3, e3, _, _⟩ := DataW.trod_int Try.underlying3 t3
    obtain ⟨k4, e4, _, _⟩ := DataW.trod_int Try.underlying3 t4
    obtain ⟨B, nb, cb, bs, rfl, hb, _, _, _, hsb⟩ := open_row Try.underlying25 Try.underlying5 (by kernel_rfl) t5
    simp only [List.cons.injEq, and_true] at e0 e1 e2 e3 e4
    subst e0 e1 e2 e3 e4
    have hl := list6 hcl hc0 hc1 hc2 hc3 hc4 hc5
    have hnb := hsb (z5 hsz)
    rw [show Try.prog.bytesOf 5 = 1 by kernel_rfl] at hnb
    refine ⟨⟨k0, k1, k2, k3, k4, B, nb, cb, bs⟩, ⟨ad, hA, fun j u hu => ?_⟩, hb, by simpa [reachBytes] using hnb⟩
    rw [add_add]
    exact hcell j u (by rw [hl]; exact hu)
  obtain ⟨ops, hl, hops⟩ := list_of n each
  subst hl
  refine ⟨A, ops, c, by simpa using hvv, ⟨fun h0 => ?_, fun o ho => ?_⟩, by simpa [reachBytes] using hn⟩
  · obtain ⟨⟨ad, hA, _⟩, _⟩ := hops 0 _ (List.getElem?_eq_getElem h0)
    refine ⟨ad, hA, fun i o ho j u hu => ?_⟩
    obtain ⟨⟨ad', hA', hc⟩, _⟩ := hops i o ho
    obtain rfl : ad = ad' := by rw [hA] at hA'; exact Option.some.inj hA'
    exact hc j u hu
  · obtain ⟨i, hi, he⟩ := List.mem_iff_getElem.1 ho
    exact (hops i o (by rw [← he]; exact List.getElem?_eq_getElem hi)).2
end Go.Proofs.Ytoaaneejecdglaa
