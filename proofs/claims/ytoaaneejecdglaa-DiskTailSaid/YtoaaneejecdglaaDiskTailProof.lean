/-
  PROVED: 'jotterlaw02.DiskTail' returns true at every input, and each argument reads afterwards as before. No condition.
-/
import Derived.Test.YtoaaneejecdglaaTail3
import Derived.Test.YtoaaneejecdglaaRows
import Derived.Test.YtoaaneejecdglaaOpen
import Derived.ProofKit
import Derived.OpenShut
import Derived.ChangeOld
import Derived.SizedLaws
namespace Go.Proofs.Ytoaaneejecdglaa.diskTail
open Go.ChangeShapes Go.WideShapes Go.ChangeAt Go.RowKit Go.Deep

theorem own : ownKnob Try.prog.godebug = none := by kernel_rfl
theorem laidOut : laidOutB Try.prog = true := by kernel_rfl

theorem walk (A B : Option Addr) (n c m d : Nat) (k a ma : Int) (hs ts : List Int) (w : World) (hx : Reads w 1 A n (bv hs)) (hy : Reads w 1 B m (bv ts)) :
    Calls Try.prog 4 #[.agg #[.slice A n c, .slice B m d, .int .i64 k, .int .i64 a, .int .i64 ma]] w fun e w' => e = .returned (.bool true) ∧ Below w.heap.size w w' := by
  have all : Calls Try.prog 4 #[.agg #[.slice A n c, .slice B m d, .int .i64 k, .int .i64 a, .int .i64 ma]] w fun e w' => e = .returned (.bool true) ∧ Chg [] w w' := by
    by_cases hl : n + m ≤ 262144
    · by_cases hk : k < 0 ∨ (m : Int) < k
      · exact tail_keep A B n c m d k a ma w hs ts hx hy hl hk
      · by_cases hm : ma = 0
        · subst hm
          obtain ⟨k, rfl⟩ := Int.eq_ofNat_of_zero_le (show 0 ≤ k by omega)
          exact tail_plain A B n c m d k a w hs ts hx hy hl (by omega)
        · by_cases hg : ma < 0 ∨ 255 < ma ∨ a < 0 ∨ k ≤ a
          · exact tail_garble A B n c m d k a ma w hs ts hx hy hl (by omega) (by omega) hm hg
          · obtain ⟨k, rfl⟩ := Int.eq_ofNat_of_zero_le (show 0 ≤ k by omega)
            obtain ⟨a, rfl⟩ := Int.eq_ofNat_of_zero_le (show 0 ≤ a by omega)
            exact tail_mask A B n c m d k a ma w hs ts hx hy hl (by omega) (by omega) (by omega) (by omega)
    · exact tail_long A B n c m d k a ma w (by omega)
  exact all.mono fun e w' ⟨he, hc⟩ => ⟨he, hc.below (by simp) (Nat.le_refl _)⟩

set_option maxRecDepth 100000 in
theorem lifted (os : Os) (started : os.Started) (H : Type) (enc : TypeId × Value → H) :
    ReturnsInHanded {} Try.checked os 4 .any (Rows.diskTailSpec.pre6 enc Try.prog Try.f4 Rows.diskTailRow.domain false) (Rows.diskTailSpec.post enc Try.prog Try.f4 false true false false) := by
  refine returnsInHanded_of_change_sized (C := Try.checked) own started (by kernel_rfl) Try.func4
    (ChangeSpec.witness6 (enc := enc) (C := Try.checked) false ⟨#[], #[.agg #[.slice none 0 0, .slice none 0 0, .int .i64 0, .int .i64 0, .int .i64 0]], []⟩ 8 (by kernel_rfl) (by kernel_rfl) (by kernel_rfl) (by kernel_rfl)) ?_
  intro W base args ds gs before hval0 hW hcnd hsz0 _
  have hval : ∀ (j : Nat) t v, Try.f4.params[j]? = some t → args[j]? = some v → Value.okWide Try.prog W .any base t v := hval0
  have hsz : (DataW.weightsEach Try.prog (Try.f4.params.toList ++ Rows.diskTailSpec.plain.varTypes Try.prog) (ds ++ gs)).all (· ≤ reachBytes) = true := hsz0
  have hW' := hW
  obtain ⟨p, q, hA0, hV, rfl, hfz, hnd⟩ := hW
  have hA : DataW.TrodAll enc Try.prog W 0 (fun _ => true) true Try.f4.params.toList args.toList ds p := hA0
  rw [Try.params4] at hA hval hsz
  obtain ⟨v0, vs0, d0, ds0, p0, q0, hargs, rfl, rfl, h0, r0⟩ := trodAll_cons hA
  obtain ⟨rfl, rfl, rfl⟩ := trodAll_nil r0
  obtain rfl : args = #[v0] := by cases args; simp_all
  obtain ⟨rfl, rfl⟩ := trodVars_none hV
  have k0 := h0
  have lt0 : ∀ x ∈ p0, x.block < W.heap.size := by obtain ⟨m, hm⟩ := k0; exact DataW.trod_lt m _ _ _ hm
  obtain ⟨cs, ys, n, rfl, hcl, rfl, hyl, hf⟩ := open_struct Try.underlying34 (by kernel_rfl) (by kernel_rfl) (hval 0 34 v0 rfl rfl) h0
  obtain ⟨c0, y0, hc0, hy0, t0⟩ := hf 0 _ rfl
  obtain ⟨c1, y1, hc1, hy1, t1⟩ := hf 1 _ rfl
  obtain ⟨c2, y2, hc2, hy2, t2⟩ := hf 2 _ rfl
  obtain ⟨c3, y3, hc3, hy3, t3⟩ := hf 3 _ rfl
  obtain ⟨c4, y4, hc4, hy4, t4⟩ := hf 4 _ rfl
  obtain ⟨A, n, c, hs, rfl, hx, _⟩ := open_row Try.underlying25 Try.underlying5 (by kernel_rfl) t0
  obtain ⟨B, m, d, ts, rfl, hy, _⟩ := open_row Try.underlying25 Try.underlying5 (by kernel_rfl) t1
  obtain ⟨k, e2, _, _⟩ := DataW.trod_int Try.underlying3 t2
  obtain ⟨a, e3, _, _⟩ := DataW.trod_int Try.underlying3 t3
  obtain ⟨ma, e4, _, _⟩ := DataW.trod_int Try.underlying3 t4
  obtain rfl : c2 = .int .i64 k := by simpa using e2
  obtain rfl : c3 = .int .i64 a := by simpa using e3
  obtain rfl : c4 = .int .i64 ma := by simpa using e4
  obtain rfl := list5 hcl hc0 hc1 hc2 hc3 hc4
  clear hA0 hval0 hsz0
  refine (walk A B n c m d k a ma hs ts W hx hy).mono fun e W' ⟨he, bel⟩ => ?_
  subst he
  exact ⟨_, rfl, _, _, _, [], _, [], hW', trodAll_mk1 (shut_bool Try.underlying4 _), (trodAll_cons_mk (Below.trod laidOut (by kernel_rfl) (of_decide_eq_true (by kernel_rfl)) k0 bel lt0) trodAll_mk0), rfl, bel.frame _, fun h => by cases h⟩

theorem over : Rows.diskTailRow.holds Try.pinned (OpenSpec.ofChange Rows.diskTailSpec) :=
  OpenClaim.holds_of_wide 4 Try.f4 rfl rfl rfl rfl rfl rfl rfl ⟨rfl, rfl, rfl, rfl, rfl⟩ rfl rfl rfl rfl rfl (by kernel_rfl) Try.func4 (by kernel_rfl)
    (of_decide_eq_true (by kernel_rfl)) (by unfold Func.isWrapper; first | (rw [if_pos (by decide +kernel)]; kernel_rfl) | (rw [if_neg (by decide +kernel)]; exact ⟨rfl, rfl⟩))
    (fun os started H enc _ => lifted os started H enc)

theorem proved : Rows.DiskTailSaid := over
#print axioms proved
end Go.Proofs.Ytoaaneejecdglaa.diskTail
