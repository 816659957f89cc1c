/-
  PROVED: the contracts of an inbox of ints: New, Put, Head, Toss, Pop, Cum.
-/
import Derived.Test.YtgockfjhokocbaaGreatDoorOA
import Derived.Test.YtgockfjhokocbaaGreatDoorMM
namespace Go.Proofs.YtgockfjhokocbaaGreatDoor
open Go.RowKit

theorem zero3 (w : World) : (zeroValue 3).run Tryz.prog w = .ok (.int .i64 0) w := by kernel_rfl

/-- An inbox: its block p, its map b; reorder 8. -/
def InAt (w : World) (p b cum : Nat) (l : List (Nat × Value)) : Prop :=
  Blk w p 73 #[.int .i64 8, .int .i64 cum, .map (some b)] ∧ MapAt Tryz.prog 3 w b l ∧ cum ≤ 4096

namespace InAt
variable {w w' : World} {p b cum : Nat} {l : List (Nat × Value)} {S : List Nat}
theorem keep (h : InAt w p b cum l) (hc : Chg S w w') (hp : p ∉ S) (hb : b ∉ S) : InAt w' p b cum l := ⟨h.1.keep hc hp, h.2.1.keep hc hb, h.2.2⟩
theorem ne (h : InAt w p b cum l) : b ≠ p := h.2.1.ne_blk h.1
end InAt

/-- What Put makes of what is held. -/
def inPut (cum : Nat) (l : List (Nat × Value)) (num : Nat) (v : Value) : List (Nat × Value) :=
  if (get num l).isSome ∨ num ≤ cum ∨ cum + 8 < num then l else ins num v l

theorem in_new (w : World) : Calls Tryz.prog 16 #[.int .i64 8] w fun e w' => ∃ p b, e = .returned (.tuple #[.pointer (some ⟨p, 0, none⟩), .int .i64 0]) ∧ InAt w' p b 0 [] ∧ Chg [] w w' ∧ w.heap.size ≤ p ∧ w.heap.size ≤ b := by
  have hmm := @run_makeMap Tryz.prog
  go_enter Tryz.func16, Tryz.ntmps16
  go_wp2
  go_ret2
  refine ⟨w.heap.size + 1, w.heap.size, by simp, ⟨by simpa using Blk.new (w.alloc (.map #[] 0)) 73 #[.int .i64 8, .int .i64 0, .map (some w.heap.size)], ?_, by omega⟩, ((Chg.refl _ _).alloc _).alloc _, by omega, by omega⟩
  exact (MapAt.made w Tryz.prog 3).keep (S := []) ((Chg.refl _ _).alloc _) (by simp)

theorem in_cum {w : World} {p b cum : Nat} {l : List (Nat × Value)} (h : InAt w p b cum l) : Calls Tryz.prog 12 #[.pointer (some ⟨p, 0, none⟩)] w fun e w' => e = .returned (.int .i64 cum) ∧ w = w' := by
  have c1 := h.1.cell 1
  go_enter Tryz.func12, Tryz.ntmps12
  go_wp2
  go_ret
  exact ⟨rfl, rfl⟩

set_option maxRecDepth 100000 in
theorem in_put {w : World} {p b cum num : Nat} {v : Int} {l : List (Nat × Value)} (h : InAt w p b cum l) (h1 : 1 ≤ num) (h2 : num ≤ 4096) (hl : l.length ≤ 4096) :
    Calls Tryz.prog 34 #[.pointer (some ⟨p, 0, none⟩), .int .i64 num, .int .i64 v] w fun e w' => (∃ c, e = .returned (.int .i64 c)) ∧ InAt w' p b cum (inPut cum l num (.int .i64 v)) ∧ Chg [b] w w' := by
  obtain ⟨hb, hm, hc⟩ := h
  have H := Lib.hid hm
  have HB := Lib.hid hb
  have n1 : ¬ (num : Int) < 1 := by omega
  have n2 : ¬ (4096 : Int) < num := by omega
  have c0 := hb.cell 0
  have c1 := hb.cell 1
  have c2 := hb.cell 2
  have e1 : IntKind.i64.wrap ((cum : Int) + 8) = cum + 8 := IntWalk.i64_in _ (by omega)
  by_cases hg : (get num l).isSome = true
  · have E : Hid (inPut cum l num (.int .i64 v) = l) := by simp [Hid, inPut, hg]
    go_enter Tryz.func34, Tryz.ntmps34
    go_wp2_with (at_lookup; refine wpList_of _ rfl (wp_map_look_ok _ Tryz.underlying3 Tryz.underlying71 H.out (.tmp 19) (.tmp 20) rfl (zero3 _) num rfl rfl (by omega) ?_); rw [hg])
    go_ret
    rw [E.out]
    exact ⟨⟨_, rfl⟩, ⟨HB.out, H.out, hc⟩, Chg.refl _ _⟩
  · have hg' : (get num l).isSome = false := by simpa using hg
    by_cases hle : num ≤ cum
    · have E : Hid (inPut cum l num (.int .i64 v) = l) := by simp [Hid, inPut, hle]
      have hle' : (num : Int) ≤ cum := by omega
      go_enter Tryz.func34, Tryz.ntmps34
      go_wp2_with (at_lookup; refine wpList_of _ rfl (wp_map_look_ok _ Tryz.underlying3 Tryz.underlying71 H.out (.tmp 19) (.tmp 20) rfl (zero3 _) num rfl rfl (by omega) ?_); rw [hg'])
      go_ret
      rw [E.out]
      exact ⟨⟨_, rfl⟩, ⟨HB.out, H.out, hc⟩, Chg.refl _ _⟩
    · have hle' : ¬ (num : Int) ≤ cum := by omega
      by_cases hfar : cum + 8 < num
      · have E : Hid (inPut cum l num (.int .i64 v) = l) := by simp [Hid, inPut, hfar]
        have hfar' : (cum : Int) + 8 < num := by omega
        go_enter Tryz.func34, Tryz.ntmps34
        go_wp2_with (at_lookup; refine wpList_of _ rfl (wp_map_look_ok _ Tryz.underlying3 Tryz.underlying71 H.out (.tmp 19) (.tmp 20) rfl (zero3 _) num rfl rfl (by omega) ?_); rw [hg'])
        go_quiet (fail)
        go_wp2_with fail
        go_ret
        rw [E.out]
        exact ⟨⟨_, rfl⟩, ⟨HB.out.drewN _, H.out.keep ((Chg.refl [] _).drewN _) (by simp), hc⟩, (Chg.refl _ _).drewN _⟩
      · have E : Hid (inPut cum l num (.int .i64 v) = ins num (.int .i64 v) l) := by simp [Hid, inPut, hg, hle, hfar]
        have hfar' : ¬ (cum : Int) + 8 < num := by omega
        go_enter Tryz.func34, Tryz.ntmps34
        go_wp2_with (at_lookup; refine wpList_of _ rfl (wp_map_look_ok _ Tryz.underlying3 Tryz.underlying71 H.out (.tmp 19) (.tmp 20) rfl (zero3 _) num rfl rfl (by omega) ?_); rw [hg'])
        go_quiet (fail)
        have hmq := H.out.keep ((Chg.refl [] w).drewN nq) (by simp)
        go_wp2_with (at_mapUpdate; refine wpList_of _ rfl (wp_map_store _ Tryz.underlying3 Tryz.underlying71 hmq (.tmp 47) (.tmp 48) (.tmp 49) rfl num (.int .i64 v) rfl rfl rfl (by omega) (by unfold maxLen; omega) ?_); intro w2 hm2 hc2)
        go_ret
        rw [E.out]
        have hcc : Chg [b] w w2 := ((Chg.refl [b] w).drewN nq).trans hc2 (fun i hi => .inl hi)
        exact ⟨⟨_, rfl⟩, ⟨HB.out.keep hcc (by simpa using fun e => (H.out.ne_blk HB.out) e.symm), hm2, hc⟩, hcc⟩

theorem in_head {w : World} {p b cum : Nat} {l : List (Nat × Value)} (h : InAt w p b cum l) :
    Calls Tryz.prog 35 #[.pointer (some ⟨p, 0, none⟩)] w fun e w' => e = .returned (.tuple #[(get (cum + 1) l).getD (.int .i64 0), .bool (get (cum + 1) l).isSome]) ∧ ∃ q, w' = w.drewN q := by
  obtain ⟨hb, hm, hc⟩ := h
  have c1 := hb.cell 1
  have c2 := hb.cell 2
  have e1 : IntKind.i64.wrap ((cum : Int) + 1) = ((cum + 1 : Nat) : Int) := IntWalk.i64_in _ (by omega)
  have hlk : ∀ q, (Instr.lookup 71 (.map (some b)) (.int .i64 ((cum + 1 : Nat) : Int)) true).run Tryz.prog (w.drewN q) = .ok (.tuple #[(get (cum + 1) l).getD (.int .i64 0), .bool (get (cum + 1) l).isSome]) (w.drewN q) := fun q =>
    (hm.keep ((Chg.refl [] w).drewN q) (by simp)).look_ok Tryz.underlying3 Tryz.underlying71 (zero3 _) (by omega)
  generalize ((cum + 1 : Nat) : Int) = C1 at *
  generalize get (cum + 1) l = G at *
  go_enter Tryz.func35, Tryz.ntmps35
  go_wp2_with fail
  go_quiet (fail)
  go_wp2_with fail
  go_ret2
  exact ⟨rfl, _, rfl⟩

set_option maxRecDepth 100000 in
theorem in_pop {w : World} {p b cum : Nat} {v : Value} {l : List (Nat × Value)} (h : InAt w p b cum l) (hg : get (cum + 1) l = some v) (hlt : cum < 4096) :
    Calls Tryz.prog 36 #[.pointer (some ⟨p, 0, none⟩)] w fun e w' => e = .returned (.int .i64 0) ∧ InAt w' p b (cum + 1) (del (cum + 1) l) ∧ Chg [p, b] w w' := by
  have hH := Lib.hid (in_head h)
  obtain ⟨hb, hm, hc⟩ := h
  have H := Lib.hid hm
  have HB := Lib.hid hb
  have hne := Lib.hid (hm.ne_blk hb)
  have c1 := hb.cell 1
  have c2 := hb.cell 2
  have e1 : IntKind.i64.wrap ((cum : Int) + 1) = ((cum + 1 : Nat) : Int) := IntWalk.i64_in _ (by omega)
  clear hb hm
  have hT : Calls Tryz.prog 53 #[.pointer (some ⟨p, 0, none⟩)] w fun e w' => e = .returned (.int .i64 0) ∧ MapAt Tryz.prog 3 w' b (del (cum + 1) l) ∧ Chg [b] w w' := by
    rw [hg] at hH
    go_enter Tryz.func53, Tryz.ntmps53
    go_wp2_with (go_at_call 35; refine hH.out.mono ?_; rintro e w1 ⟨rfl, q, rfl⟩)
    have hmq : ∀ n, MapAt Tryz.prog 3 (w.drewN n) b l := fun n => H.out.keep ((Chg.refl [] w).drewN n) (by simp)
    obtain ⟨C1, hC⟩ : ∃ C1, C1 = ((cum + 1 : Nat) : Int) := ⟨_, rfl⟩
    rw [← hC] at e1
    have hC1 := Lib.hid hC
    clear hC
    go_region_law (refine step_of _ rfl (wp_map_delete _ Tryz.underlying3 Tryz.underlying71 (hmq _) (.tmp 15) (.tmp 20) rfl (cum + 1) rfl (by rw [← hC1.out]; rfl) (by omega) ?_)
                   intro w2 hm2 hc2)
    all_goals
      go_wp2_with fail
      go_ret
      exact ⟨rfl, hm2, ((Chg.refl [b] w).drewN _).trans hc2 (fun i hi => .inl hi)⟩
  have HT := Lib.hid hT
  clear hT hH hg
  go_enter Tryz.func36, Tryz.ntmps36
  go_wp2_with (go_at_call 53; refine HT.out.mono ?_; rintro e w1 ⟨rfl, hm1, hc1⟩; have hb1 := HB.out.keep hc1 (by simpa using fun e => hne.out e.symm); have c11 := hb1.cell 1; have f11 := hb1.frozen 1)
  go_ret
  refine ⟨rfl, ⟨?_, hm1.keep (S := [p]) ((Chg.refl _ _).setCell (.inl (by simp)) _) (by simpa using hne.out), by omega⟩, (hc1.mono (T := [p, b]) (fun i hi => .inl (by simp at hi; simp [hi]))).setCell (.inl (by simp)) _⟩
  have := hb1.set_ 1 (.int .i64 ((cum + 1 : Nat) : Int))
  simpa using this
end Go.Proofs.YtgockfjhokocbaaGreatDoor
