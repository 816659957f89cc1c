/-
  PROVED: 'jotterlaw02.DiskApart' returns true at every input, and each argument reads afterwards as before. No condition.
-/
import Derived.Test.YtoaaneejecdglaaApart
import Derived.Test.YtoaaneejecdglaaOpenOps
import Derived.Test.YtoaaneejecdglaaRows
import Derived.Test.YtoaaneejecdglaaOpen
import Derived.ProofKit
import Derived.OpenShut
import Derived.ChangeOld
import Derived.SizedLaws
namespace Go.Proofs.Ytoaaneejecdglaa.diskApart
open Go.ChangeShapes Go.WideShapes Go.ChangeAt Go.RowKit Go.Deep

theorem own : ownKnob Try.prog.godebug = none := by kernel_rfl
theorem laidOut : laidOutB Try.prog = true := by kernel_rfl

theorem walk (A B D : Option Addr) (n c m d e : Nat) (w : World) (fs gs : List Int) (ops : List GOp) (hx : Reads w 1 A n (bv fs)) (hz : Reads w 1 B m (bv gs)) (hy : OpsAt w D ops) (hm : ops.length * 64 ≤ 140737488351232) :
    Calls Try.prog 10 #[.slice A n c, .slice B m d, .slice D ops.length e] w fun e w' => e = .returned (.bool true) ∧ Below w.heap.size w w' := by
  have all : Calls Try.prog 10 #[.slice A n c, .slice B m d, .slice D ops.length e] w fun e w' => e = .returned (.bool true) ∧ Chg [] w w' := by
    by_cases hn : n ≤ 262144 ∧ m ≤ 262144
    · exact apart_in A B D n c m d e w fs gs ops hx hz hy (by omega) hn.1 hn.2
    · exact apart_long A B D n c m d ops.length e w (by omega)
  exact all.mono fun e w' ⟨he, hc⟩ => ⟨he, hc.below (by simp) (Nat.le_refl _)⟩

set_option maxRecDepth 100000 in
theorem lifted (os : Os) (started : os.Started) (H : Type) (enc : TypeId × Value → H) :
    ReturnsInHanded {} Try.checked os 10 .any (Rows.diskApartSpec.pre6 enc Try.prog Try.f10 Rows.diskApartRow.domain false) (Rows.diskApartSpec.post enc Try.prog Try.f10 false true false false) := by
  refine returnsInHanded_of_change_sized (C := Try.checked) own started (by kernel_rfl) Try.func10
    (ChangeSpec.witness6 (enc := enc) (C := Try.checked) false ⟨#[], #[.slice none 0 0, .slice none 0 0, .slice none 0 0], []⟩ 8 (by kernel_rfl) (by kernel_rfl) (by kernel_rfl) (by kernel_rfl)) ?_
  intro W base args ds gs before hval0 hW hcnd hsz0 _
  have hval : ∀ (j : Nat) t v, Try.f10.params[j]? = some t → args[j]? = some v → Value.okWide Try.prog W .any base t v := hval0
  have hsz : (DataW.weightsEach Try.prog (Try.f10.params.toList ++ Rows.diskApartSpec.plain.varTypes Try.prog) (ds ++ gs)).all (· ≤ reachBytes) = true := hsz0
  have hW' := hW
  obtain ⟨p, q, hA0, hV, rfl, hfz, hnd⟩ := hW
  have hA : DataW.TrodAll enc Try.prog W 0 (fun _ => true) true Try.f10.params.toList args.toList ds p := hA0
  rw [Try.params10] at hA hval hsz
  obtain ⟨v0, vs0, d0, ds0, p0, q0, hargs, rfl, rfl, h0, r0⟩ := trodAll_cons hA
  obtain ⟨v1, vs1, d1, ds1, p1, q1, rfl, rfl, rfl, h1, r1⟩ := trodAll_cons r0
  obtain ⟨v2, vs2, d2, ds2, p2, q2, rfl, rfl, rfl, h2, r2⟩ := trodAll_cons r1
  obtain ⟨rfl, rfl, rfl⟩ := trodAll_nil r2
  obtain rfl : args = #[v0, v1, v2] := by cases args; simp_all
  obtain ⟨rfl, rfl⟩ := trodVars_none hV
  have k0 := h0
  have lt0 : ∀ x ∈ p0, x.block < W.heap.size := by obtain ⟨m, hm⟩ := k0; exact DataW.trod_lt m _ _ _ hm
  have k1 := h1
  have lt1 : ∀ x ∈ p1, x.block < W.heap.size := by obtain ⟨m, hm⟩ := k1; exact DataW.trod_lt m _ _ _ hm
  have k2 := h2
  have lt2 : ∀ x ∈ p2, x.block < W.heap.size := by obtain ⟨m, hm⟩ := k2; exact DataW.trod_lt m _ _ _ hm
  obtain ⟨A, n, c, fs, rfl, hx, _, _, _, _⟩ := open_row_arg Try.underlying25 Try.underlying5 (by kernel_rfl) (hval 0 25 v0 rfl rfl) h0
  obtain ⟨B, m, d, gs, rfl, hz, _, _, _, _⟩ := open_row_arg Try.underlying25 Try.underlying5 (by kernel_rfl) (hval 1 25 v1 rfl rfl) h1
  obtain ⟨D, ops, e, rfl, hy, hm⟩ := ops_arg (hval 2 41 v2 rfl rfl) h2 (weights_at hsz (j := 2) (t := 41) rfl rfl)
  clear hA0 hval0 hsz0
  refine (walk A B D n c m d e W fs gs ops hx hz hy hm).mono fun e W' ⟨he, bel⟩ => ?_
  subst he
  exact ⟨_, rfl, _, _, _, [], _, [], hW', trodAll_mk1 (shut_bool Try.underlying4 _), (trodAll_cons_mk (Below.trod laidOut (by kernel_rfl) (of_decide_eq_true (by kernel_rfl)) k0 bel lt0) (trodAll_cons_mk (Below.trod laidOut (by kernel_rfl) (of_decide_eq_true (by kernel_rfl)) k1 bel lt1) (trodAll_cons_mk (Below.trod laidOut (by kernel_rfl) (of_decide_eq_true (by kernel_rfl)) k2 bel lt2) trodAll_mk0))), rfl, bel.frame _, fun h => by cases h⟩

theorem over : Rows.diskApartRow.holds Try.pinned (OpenSpec.ofChange Rows.diskApartSpec) :=
  OpenClaim.holds_of_wide 10 Try.f10 rfl rfl rfl rfl rfl rfl rfl ⟨rfl, rfl, rfl, rfl, rfl⟩ rfl rfl rfl rfl rfl (by kernel_rfl) Try.func10 (by kernel_rfl)
    (of_decide_eq_true (by kernel_rfl)) (by unfold Func.isWrapper; first | (rw [if_pos (by decide +kernel)]; kernel_rfl) | (rw [if_neg (by decide +kernel)]; exact ⟨rfl, rfl⟩))
    (fun os started H enc _ => lifted os started H enc)

theorem proved : Rows.DiskApartSaid := over
#print axioms proved
end Go.Proofs.Ytoaaneejecdglaa.diskApart
