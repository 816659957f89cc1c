/-
  PROVED: 'jottertop.TopLinkOnce' returns true at every slice of moves, and the slice reads afterwards as before; its tied card.
-/
import Derived.Test.YtgockfjhokocbaaGreatDoorLO
import Derived.Test.YtgockfjhokocbaaGreatDoorTie
import Derived.Test.YtgockfjhokocbaaGreatDoorCards
import Derived.ChangeSame
import Derived.ChangeVars
import Derived.JoinedOf
import Derived.RowKitTokens
import Derived.ChangeOld
import Derived.SizedLaws
import Derived.Stop.Joined
import Derived.SevenTiedAt
import Derived.DataWitness
namespace Go.Proofs.YtgockfjhokocbaaGreatDoor
open Go.ChangeShapes Go.WideShapes Go.ChangeAt Go.RowKit Go.Deep

theorem Tryz.own : ownKnob Tryz.prog.godebug = none := by kernel_rfl
theorem Tryz.laidOut : laidOutB Tryz.prog = true := by kernel_rfl

/-- A world that meets the condition: the settled one, the four variables laid. -/
noncomputable def laidWorld (os : Os) : World :=
  let w0 := World.holding Tryz.prog os ⟨#[], #[], []⟩
  let row (ns : List Nat) : Obj := .cells (iv ns).toArray 3
  { w0 with heap := ((((((((((w0.heap.modify 0 fun
      | .cells _ t frozen => .cells #[.slice none 0 0, .slice (some ⟨9, 0, none⟩) 4 4, .slice (some ⟨10, 0, none⟩) 10 10, .slice (some ⟨11, 0, none⟩) 3 3, .slice (some ⟨12, 0, none⟩) 2 2, .slice (some ⟨13, 0, none⟩) 10 10, .slice (some ⟨14, 0, none⟩) 3 3] t frozen
      | o => o).modify 1 fun
      | .cells _ t frozen => .cells ((nats sizeL).map (Value.int .i64)).toArray t frozen
      | o => o).modify 2 fun
      | .cells _ t frozen => .cells ((nats tabL).map (Value.int .u32)).toArray t frozen
      | o => o).modify 3 fun
      | .cells _ t frozen => .cells #[.iface 163 (.agg #[.pointer (some ⟨4, 61, none⟩)])] t frozen
      | o => o).push (row [1, 2, 3, 4])).push (row editShape)).push (row [1, 2, 6])).push (row [1, 2])).push (row [1, 2, 5, 6, 7, 9, 10, 11, 12, 13])).push (row beatShape)) }
theorem laidWorld_met (os : Os) (args : Array Value) : laidMetH Tryz.prog Rows.topLinkOnceRow.laid ((laidWorld os).forCall (fun _ _ => 0) ⟨#[], args, []⟩).memory := by
  refine laidMetH_of_parts ?_ ?_
  · rw [laid_data]
    exact laidMet_of_run' 8 (by kernel_rfl) (by kernel_rfl)
  · rw [laid_hand]
    kernel_rfl
/-- The variables' test, slices looked up in memory. -/
def varsB (P : Program) (w : World) : Bool :=
  (List.range P.globals.size).all fun g =>
    match ((begin P (fun _ _ => 0) default).world.heap[g]?).bind Obj.row? with
    | none => true
    | some (zero, t) =>
      match w.heap[g]? with
      | some (.cells cs t' frozen) => decide (t' = t) && decide (frozen = (0, 0)) && cs.size == zero.size && (!P.buildable t || Row.okRefB P w t cs)
      | _ => false
theorem shaped_of {P : Program} {w : World} (hv : varsB P w = true)
    (hr : (w.heap.toList.drop P.globals.size).take ((begin P (fun _ _ => 0) default).world.heap.size - P.globals.size) = (begin P (fun _ _ => 0) default).world.heap.toList.drop P.globals.size) : w.Shaped P := by
  refine ⟨fun g zero t hg hz => ?_, fun k h1 h2 => ?_⟩
  · unfold varsB at hv
    simp only [List.all_eq_true, List.mem_range] at hv
    have := hv g hg
    rw [hz] at this
    simp only at this
    split at this
    · rename_i cs t' fr hw
      simp only [Bool.and_eq_true, decide_eq_true_eq, beq_iff_eq, Bool.or_eq_true, Bool.not_eq_true'] at this
      obtain ⟨⟨⟨rfl, rfl⟩, hs⟩, hb⟩ := this
      refine ⟨cs, hw, hs, fun hbd => ?_⟩
      rcases hb with hb | hb
      · rw [hbd] at hb; cases hb
      · exact Row.ok_of_okRefB hb
    · cases this
  · have := congrArg (·[k - P.globals.size]?) hr
    simp only [List.getElem?_take, List.getElem?_drop, Array.getElem?_toList] at this
    rw [if_pos (by omega), Nat.add_sub_cancel' h1] at this
    exact this

set_option maxRecDepth 100000 in
/-- The slice of moves among the arguments. -/
theorem moves_of {H : Type} {enc : TypeId × Value → H} {W : World} {base : Nat} {sp : Nat → Bool} {held : Bool} {v : Value} {d : DataW H} {p : List MemPlace} {b0 : Nat} (hv : Value.okWide Tryz.prog W .any b0 22 v) (h : DataW.Trod enc Tryz.prog W base sp held 22 v d p) (hw : (d.weights Tryz.prog 22).all (· ≤ reachBytes) = true) :
    ∃ A n c, v = .slice A n c ∧ n ≤ 288230376151711744 ∧ MovesAt W A n := by
  obtain ⟨a0, len0, cap0, rfl⟩ := okWide_slice Tryz.underlying22 hv
  obtain ⟨fuel, hf⟩ := h
  obtain ⟨A, n, c, e, -, -, h3, h4⟩ := open_structs (t := 22) (e := 28) Tryz.underlying22 Tryz.underlying28 (by kernel_rfl) (by kernel_rfl) (show DataW.trod enc Tryz.prog W base sp held fuel 22 [Value.slice a0 len0 cap0] = some (d, p) from hf)
  have h5 := h4 hw
  rw [show Tryz.prog.bytesOf 28 = 32 by kernel_rfl] at h5
  refine ⟨A, n, c, e, by unfold reachBytes at h5; omega, fun k hk => ?_⟩
  obtain ⟨ad, cs, ys, m, hA, hl, -, hc, hj⟩ := h3 k hk
  have one : ∀ (j : Nat) (f : Field), (#[{ name := "Kind", type := 3, offset := 0, embedded := false, tag := "", pkgPath := "", byteOffset := 0 },
        { name := "A", type := 3, offset := 1, embedded := false, tag := "", pkgPath := "", byteOffset := 8 },
        { name := "B", type := 3, offset := 2, embedded := false, tag := "", pkgPath := "", byteOffset := 16 },
        { name := "C", type := 3, offset := 3, embedded := false, tag := "", pkgPath := "", byteOffset := 24 }] : Array Field)[j]? = some f → f.type = 3 → ∃ z, cs[j]? = some (.int .i64 z) := by
    intro j f hf h3
    obtain ⟨u, z, hu, -, ht, -⟩ := hj j f hf
    rw [h3] at ht
    obtain ⟨x, hx, -⟩ := DataW.trod_int Tryz.underlying3 ht
    exact ⟨x, by rw [hu]; simpa using hx⟩
  obtain ⟨K, hK⟩ := one 0 _ rfl rfl
  obtain ⟨M, hM⟩ := one 1 _ rfl rfl
  obtain ⟨B, hB⟩ := one 2 _ rfl rfl
  obtain ⟨C, hC⟩ := one 3 _ rfl rfl
  refine ⟨ad, K, M, B, C, hA, fun j u hu => ?_⟩
  have h4 : cs = mvC K M B C := by
    match cs, hl with
    | [a, b, c, d], _ => simp at hK hM hB hC; subst hK hM hB hC; rfl
  have := hc j u (by rw [h4]; exact hu)
  rw [add_add]
  exact this

set_option maxRecDepth 100000 in
theorem law_lifted (os : Os) (started : os.Started) (H : Type) (enc : TypeId × Value → H) :
    ReturnsInHanded {} Tryz.checked os 3 .any (fun w args => (Rows.topLinkOnceSpec.pre enc Tryz.prog Tryz.f3 [] false w args ∧ laidMetH Tryz.prog Rows.topLinkOnceRow.laid w) ∧ sizedMet enc Tryz.prog Tryz.f3 (OpenSpec.ofChange Rows.topLinkOnceSpec) false w args)
      (Rows.topLinkOnceSpec.post enc Tryz.prog Tryz.f3 false true false false) := by
  refine returnsInHanded_of_change_and (C := Tryz.checked) (X := fun w _ => laidMetH Tryz.prog Rows.topLinkOnceRow.laid w) (fun _ _ _ hh h => h.of_heap hh) Tryz.own started (by kernel_rfl) Tryz.func3
    ⟨laidWorld os, fun _ _ => 0, ⟨#[], #[.slice none 0 0], []⟩, rfl, shaped_of (by kernel_rfl) (by kernel_rfl), rfl, (Input.okWide_of_okWideB (by kernel_rfl)).2,
      ⟨⟨ChangeSpec.pre_of_preB (fuel := 8) (by kernel_rfl), laidWorld_met os _⟩, sizedMet_of_sizedB (fuel := 8) (by kernel_rfl)⟩, by
        simp [Assume.holds]⟩ ?_
  intro W base args ds gs before hval0 hW _ hsz0 hL _
  have hsz : (DataW.weightsEach Tryz.prog (Tryz.f3.params.toList ++ Rows.topLinkOnceSpec.plain.varTypes Tryz.prog) (ds ++ gs)).all (· ≤ reachBytes) = true := hsz0
  have hval : ∀ (j : Nat) t v, Tryz.f3.params[j]? = some t → args[j]? = some v → Value.okWide Tryz.prog W .any base t v := hval0
  have hW' := hW
  obtain ⟨p, q, hA0, hV, rfl, hfz, hnd⟩ := hW
  have hA : DataW.TrodAll enc Tryz.prog W 0 (fun _ => true) true Tryz.f3.params.toList args.toList ds p := hA0
  rw [Tryz.params3] at hA hval hsz
  obtain ⟨v0, vs0, d0, ds0, p0, q0, hargs, rfl, rfl, h0, r0⟩ := trodAll_cons hA
  obtain ⟨rfl, rfl, rfl⟩ := trodAll_nil r0
  obtain rfl : args = #[v0] := by cases args; simp_all
  obtain ⟨rfl, rfl⟩ := trodVars_none hV
  have k0 := h0
  have lt0 : ∀ x ∈ p0, x.block < W.heap.size := by obtain ⟨m, hm⟩ := k0; exact DataW.trod_lt m _ _ _ hm
  obtain ⟨A, n, c, rfl, hn, hM⟩ := moves_of (hval 0 22 v0 rfl rfl) h0 (weights_at hsz (j := 0) (t := 22) rfl rfl)
  have hl := laid_of hL
  refine (link_once hl hM hn).mono fun e W' ⟨he, bel⟩ => ?_
  subst he
  exact ⟨_, rfl, _, _, _, [], _, [], hW', trodAll_mk1 (shut_bool Tryz.underlying4 _), (trodAll_cons_mk (Below.trod Tryz.laidOut (by kernel_rfl) (of_decide_eq_true (by kernel_rfl)) k0 bel lt0) trodAll_mk0), rfl, bel.frame _, fun h => by cases h⟩

theorem row_holds : Rows.TopLinkOnceSaid :=
  OpenClaim.holds_of_wide 3 Tryz.f3 rfl rfl rfl rfl rfl rfl rfl ⟨rfl, rfl, rfl, rfl, rfl⟩ rfl rfl rfl rfl rfl (by kernel_rfl) Tryz.func3 (by kernel_rfl)
    (of_decide_eq_true (by kernel_rfl)) (by unfold Func.isWrapper; first | (rw [if_pos (by decide +kernel)]; kernel_rfl) | (rw [if_neg (by decide +kernel)]; exact ⟨rfl, rfl⟩))
    (fun os started H enc _ => law_lifted os started H enc)
end Go.Proofs.YtgockfjhokocbaaGreatDoor
