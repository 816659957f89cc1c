/-
  PROVED: a slice of steps, or of ints, among the arguments, opened.
-/
import Derived.Test.YtphbhmppjafhkaaD
import Derived.Test.YtphbhmppjafhkaaOpen
namespace Go.Proofs.Ytphbhmppjafhkaa
open Go.RowKit Go.ChangeShapes Go.WideShapes Go.Deep

set_option maxRecDepth 100000 in
theorem ops_arg {H : Type} {enc : TypeId × Value → H} {w : World} {base : Nat} {spare : Nat → Bool} {held : Bool} {r : Reach} {b0 : Nat} {v : Value} {d : DataW H} {p : List MemPlace}
    (hv : Value.okWide Try.prog w r b0 23 v) (h : DataW.Trod enc Try.prog w base spare held 23 v d p) (hsz : (d.weights Try.prog 23).all (· ≤ reachBytes) = true) :
    ∃ (A : Option Addr) (ops : List GOp) (c : Nat), v = .slice A ops.length c ∧ OpsAt w A ops ∧ ops.length * 24 ≤ 140737488351232 := by
  obtain ⟨a0, len0, cap0, rfl⟩ := okWide_slice Try.underlying23 hv
  obtain ⟨fuel, hf⟩ := h
  obtain ⟨A, n, c, hvv, hnc, hcm, hel, hby⟩ := open_structs Try.underlying23 Try.underlying32 (by kernel_rfl) (by kernel_rfl) (show DataW.trod enc Try.prog w base spare held fuel 23 [Value.slice a0 len0 cap0] = some (d, p) from hf)
  have hn := hby hsz
  rw [show Try.prog.bytesOf 32 = 24 by kernel_rfl] at hn
  have each : ∀ i, i < n → ∃ o : GOp, ∃ ad, A = some ad ∧ ∀ j u, o.cells[j]? = some u → w.cell? ((ad.add (i * 3)).add j) = some u := by
    intro i hi
    obtain ⟨ad, cs, ys, m, hA, hcl, hyl, hcell, hfs⟩ := hel i hi
    obtain ⟨c0, y0, hc0, _, t0, _⟩ := hfs 0 _ rfl
    obtain ⟨c1, y1, hc1, _, t1, _⟩ := hfs 1 _ rfl
    obtain ⟨c2, y2, hc2, _, t2, _⟩ := hfs 2 _ rfl
    obtain ⟨k0, e0, _, _⟩ := DataW.trod_int Try.underlying3 t0
    obtain ⟨k1, e1, _, _⟩ := DataW.trod_int Try.underlying3 t1
    obtain ⟨k2, e2, _, _⟩ := DataW.trod_int Try.underlying3 t2
    simp only [List.cons.injEq, and_true] at e0 e1 e2
    subst e0 e1 e2
    have hl := list3 hcl hc0 hc1 hc2
    refine ⟨⟨k0, k1, k2⟩, ad, hA, fun j u hu => ?_⟩
    rw [add_add]
    exact hcell j u (by rw [hl]; exact hu)
  obtain ⟨ops, hl, hops⟩ := list_of n each
  subst hl
  refine ⟨A, ops, c, by simpa using hvv, fun h0 => ?_, by simpa [reachBytes] using hn⟩
  obtain ⟨ad, hA, _⟩ := hops 0 _ (List.getElem?_eq_getElem h0)
  refine ⟨ad, hA, fun i o ho j u hu => ?_⟩
  obtain ⟨ad', hA', hc⟩ := hops i o ho
  obtain rfl : ad = ad' := by rw [hA] at hA'; exact Option.some.inj hA'
  exact hc j u hu

set_option maxRecDepth 100000 in
theorem ints_arg {H : Type} {enc : TypeId × Value → H} {w : World} {base : Nat} {spare : Nat → Bool} {held : Bool} {r : Reach} {b0 : Nat} {v : Value} {d : DataW H} {p : List MemPlace}
    (hv : Value.okWide Try.prog w r b0 22 v) (h : DataW.Trod enc Try.prog w base spare held 22 v d p) (hsz : (d.weights Try.prog 22).all (· ≤ reachBytes) = true) :
    ∃ (A : Option Addr) (xs : List Int) (c : Nat), v = .slice A xs.length c ∧ Reads w 1 A xs.length (ev cI xs) ∧ xs.length * 8 ≤ 140737488351232 := by
  obtain ⟨A, n, c, xs, rfl, hx, _, _, _, hs⟩ := open_row_arg Try.underlying22 Try.underlying3 (by kernel_rfl) hv h
  have := hs hsz
  rw [show Try.prog.bytesOf 3 = 8 by kernel_rfl] at this
  have hl : xs.length = n := by have := hx.1; simpa using this
  subst hl
  exact ⟨A, xs, c, rfl, by rw [ev_cI_map]; exact hx, by simpa [reachBytes] using this⟩
end Go.Proofs.Ytphbhmppjafhkaa
