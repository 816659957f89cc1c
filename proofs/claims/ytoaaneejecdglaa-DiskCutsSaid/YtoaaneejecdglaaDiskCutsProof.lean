/-
  PROVED: 'jotterlaw02.DiskCuts' returns true at every input, and each argument reads afterwards as before. No condition.
-/
import Derived.Test.YtoaaneejecdglaaCuts3
import Derived.Test.YtoaaneejecdglaaRows
import Derived.Test.YtoaaneejecdglaaOpen
import Derived.ProofKit
import Derived.OpenShut
import Derived.ChangeOld
import Derived.SizedLaws
namespace Go.Proofs.Ytoaaneejecdglaa.diskCuts
open Go.ChangeShapes Go.WideShapes Go.ChangeAt Go.RowKit Go.Deep

theorem own : ownKnob Try.prog.godebug = none := by kernel_rfl
theorem laidOut : laidOutB Try.prog = true := by kernel_rfl

theorem walk (A B E : Option Addr) (n c m d e ec : Nat) (k : Int) (hs ts ms : List Int) (w : World) (hx : Reads w 1 A n (bv hs)) (hy : Reads w 1 B m (bv ts)) (hz : Reads w 1 E e (bv ms)) (he : e ≤ 140737488351232) :
    Calls Try.prog 8 #[.agg #[.slice A n c, .slice B m d, .int .i64 k, .slice E e ec]] w fun e w' => e = .returned (.bool true) ∧ Below w.heap.size w w' := by
  have all : Calls Try.prog 8 #[.agg #[.slice A n c, .slice B m d, .int .i64 k, .slice E e ec]] w fun e w' => e = .returned (.bool true) ∧ Chg [] w w' := by
    by_cases hl : n + m ≤ 262144
    · by_cases hk : k < 0 ∨ (n : Int) + m < k
      · exact cuts_no A B E n c m d e ec k w hs ts hx hy hl hk
      · obtain ⟨k, rfl⟩ := Int.eq_ofNat_of_zero_le (show 0 ≤ k by omega)
        by_cases hks : k < n
        · by_cases hke : k + e ≤ 262144
          · exact cuts_in1 A B E n c m d e ec k w hs ts ms hx hy hz he hl (by omega) hks hke
          · exact cuts_full1 A B E n c m d e ec k w hs ts ms hx hy hz he hl (by omega) hks (by omega)
        · by_cases hke : k + e ≤ 262144
          · exact cuts_in2 A B E n c m d e ec k w hs ts ms hx hy hz he hl (by omega) (by omega) hke
          · exact cuts_full2 A B E n c m d e ec k w hs ts ms hx hy hz he hl (by omega) (by omega) (by omega)
    · exact cuts_long A B E n c m d e ec k w (by omega)
  exact all.mono fun e w' ⟨he, hc⟩ => ⟨he, hc.below (by simp) (Nat.le_refl _)⟩

set_option maxRecDepth 100000 in
theorem lifted (os : Os) (started : os.Started) (H : Type) (enc : TypeId × Value → H) :
    ReturnsInHanded {} Try.checked os 8 .any (Rows.diskCutsSpec.pre6 enc Try.prog Try.f8 Rows.diskCutsRow.domain false) (Rows.diskCutsSpec.post enc Try.prog Try.f8 false true false false) := by
  refine returnsInHanded_of_change_sized (C := Try.checked) own started (by kernel_rfl) Try.func8
    (ChangeSpec.witness6 (enc := enc) (C := Try.checked) false ⟨#[], #[.agg #[.slice none 0 0, .slice none 0 0, .int .i64 0, .slice none 0 0]], []⟩ 8 (by kernel_rfl) (by kernel_rfl) (by kernel_rfl) (by kernel_rfl)) ?_
  intro W base args ds gs before hval0 hW hcnd hsz0 _
  have hval : ∀ (j : Nat) t v, Try.f8.params[j]? = some t → args[j]? = some v → Value.okWide Try.prog W .any base t v := hval0
  have hsz : (DataW.weightsEach Try.prog (Try.f8.params.toList ++ Rows.diskCutsSpec.plain.varTypes Try.prog) (ds ++ gs)).all (· ≤ reachBytes) = true := hsz0
  have hW' := hW
  obtain ⟨p, q, hA0, hV, rfl, hfz, hnd⟩ := hW
  have hA : DataW.TrodAll enc Try.prog W 0 (fun _ => true) true Try.f8.params.toList args.toList ds p := hA0
  rw [Try.params8] at hA hval hsz
  obtain ⟨v0, vs0, d0, ds0, p0, q0, hargs, rfl, rfl, h0, r0⟩ := trodAll_cons hA
  obtain ⟨rfl, rfl, rfl⟩ := trodAll_nil r0
  obtain rfl : args = #[v0] := by cases args; simp_all
  obtain ⟨rfl, rfl⟩ := trodVars_none hV
  have k0 := h0
  have lt0 : ∀ x ∈ p0, x.block < W.heap.size := by obtain ⟨m, hm⟩ := k0; exact DataW.trod_lt m _ _ _ hm
  obtain ⟨cs, ys, n, rfl, hcl, rfl, hyl, hf⟩ := open_struct Try.underlying49 (by kernel_rfl) (by kernel_rfl) (hval 0 49 v0 rfl rfl) h0
  obtain ⟨c0, y0, hc0, hy0, t0⟩ := hf 0 _ rfl
  obtain ⟨c1, y1, hc1, hy1, t1⟩ := hf 1 _ rfl
  obtain ⟨c2, y2, hc2, hy2, t2⟩ := hf 2 _ rfl
  obtain ⟨c3, y3, hc3, hy3, t3⟩ := hf 3 _ rfl
  obtain ⟨A, n, c, hs, rfl, hx, _⟩ := open_row Try.underlying25 Try.underlying5 (by kernel_rfl) t0
  obtain ⟨B, m, d, ts, rfl, hy, _⟩ := open_row Try.underlying25 Try.underlying5 (by kernel_rfl) t1
  obtain ⟨k, e2, _, _⟩ := DataW.trod_int Try.underlying3 t2
  obtain ⟨E, e, ec, ms, rfl, hz, _, _, _, sz3⟩ := open_row Try.underlying25 Try.underlying5 (by kernel_rfl) t3
  have he : e ≤ 140737488351232 := by
    have h49 := weights_at hsz (j := 0) (t := 49) rfl rfl
    have hw : (y3.1.weights Try.prog 25).all (· ≤ reachBytes) = true := by
      refine List.all_eq_true.2 fun b hb => List.all_eq_true.1 h49 b ?_
      simp only [DataW.weights, Try.underlying49]
      exact DataW.weights_mem_each (j := 3) (t := 25) (d := y3.1) rfl (by simp [hy3]) b hb
    have := sz3 hw
    rw [show Try.prog.bytesOf 5 = 1 by kernel_rfl] at this
    simpa [reachBytes] using this
  obtain rfl : c2 = .int .i64 k := by simpa using e2
  obtain rfl := list4 hcl hc0 hc1 hc2 hc3
  clear hA0 hval0 hsz0
  refine (walk A B E n c m d e ec k hs ts ms W hx hy hz he).mono fun e W' ⟨he, bel⟩ => ?_
  subst he
  exact ⟨_, rfl, _, _, _, [], _, [], hW', trodAll_mk1 (shut_bool Try.underlying4 _), (trodAll_cons_mk (Below.trod laidOut (by kernel_rfl) (of_decide_eq_true (by kernel_rfl)) k0 bel lt0) trodAll_mk0), rfl, bel.frame _, fun h => by cases h⟩

theorem over : Rows.diskCutsRow.holds Try.pinned (OpenSpec.ofChange Rows.diskCutsSpec) :=
  OpenClaim.holds_of_wide 8 Try.f8 rfl rfl rfl rfl rfl rfl rfl ⟨rfl, rfl, rfl, rfl, rfl⟩ rfl rfl rfl rfl rfl (by kernel_rfl) Try.func8 (by kernel_rfl)
    (of_decide_eq_true (by kernel_rfl)) (by unfold Func.isWrapper; first | (rw [if_pos (by decide +kernel)]; kernel_rfl) | (rw [if_neg (by decide +kernel)]; exact ⟨rfl, rfl⟩))
    (fun os started H enc _ => lifted os started H enc)

theorem proved : Rows.DiskCutsSaid := over
#print axioms proved
end Go.Proofs.Ytoaaneejecdglaa.diskCuts
