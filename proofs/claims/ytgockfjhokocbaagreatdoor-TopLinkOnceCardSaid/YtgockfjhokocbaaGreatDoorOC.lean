/-
  PROVED: the contracts of Due, Left and their helper of an outbox of ints; of act.
-/
import Derived.Test.YtgockfjhokocbaaGreatDoorOB
namespace Go.Proofs.YtgockfjhokocbaaGreatDoor
open Go.RowKit

theorem ev_cI_get {xs : List Int} {k : Nat} (hk : k < xs.length) : (ev cI xs)[k]? = some (.int .i64 xs[k]) := by
  have := ev_get cI_len (xs := xs) hk (j := 0) (u := .int .i64 xs[k]) rfl
  simpa using this

set_option maxRecDepth 100000 in
set_option maxHeartbeats 1000000 in
theorem first_calls {w : World} {p win n : Nat} {S : List Nat} {t : St} (h : Box w p S win t) (hn : n ≤ t.xs.length) :
    Calls Tryz.prog 27 #[.pointer (some ⟨p, 0, none⟩), .int .i64 n] w fun e w' => ∃ z, e = .returned (.slice (some ⟨z, 0, none⟩) n n) ∧ Row w' 54 2 (some ⟨z, 0, none⟩) n n (itv cI (items (t.a + 1) (t.xs.take n))) ∧ Chg [] w w' ∧ w.heap.size ≤ z := by
  obtain ⟨i0, hi, hz0, hz1, hz2⟩ := info_parts Tryz.info54
  obtain ⟨A, cap, rfl, hb, hr, ⟨o1, o2, o3⟩, hw⟩ := h
  obtain ⟨a, s, xs⟩ := t
  simp only at *
  have hcap := hr.le
  have HB := Lib.hid hb
  have HR := Lib.hid hr
  have hn4 : n ≤ 4096 := by omega
  clear hb hr
  go_enter Tryz.func27, Tryz.ntmps27
  go_wp2_with (at_make; refine wpList_make_row _ rfl (.const (.int .i64 0)) (.tmp 8) 36 rfl 54 i0 (.agg #[.int .i64 0, .int .i64 0]) 2 16 Tryz.underlying36 hi hz0 hz1 hz2 .i64 .i64 _ _ 0 n rfl rfl rfl rfl (Nat.zero_le _) (by omega) (by unfold maxLen; omega) ?_)
  intro w1 hrow hch hsz
  have hb1 := hch.blk' HB.out (by simp)
  have c13 := hb1.cell 3
  have hncap : n ≤ cap := by omega
  go_wp2_with fail
  go_loopw [5, 17] (fun l i wr => ∃ k, k ≤ n ∧ i = .int .i64 k ∧ l = .slice (some ⟨w.heap.size, 0, none⟩) k n ∧ Row wr 54 2 (some ⟨w.heap.size, 0, none⟩) k n (itv cI (items (a + 1) (xs.take k))) ∧ Chg [] w wr) (fun _ i _ => n - (intOf i).toNat)
  case atStart => exact ⟨0, Nat.zero_le _, rfl, rfl, by simpa [items, itv] using hrow, hch⟩
  case round =>
    obtain ⟨k, hk, rfl, rfl, hrw, hcw⟩ := hrel
    clear hrow hch hsz hb1 c13
    by_cases hlt : k < n
    · have hkx : k < xs.length := by omega
      obtain ⟨ad, u, rfl, hu, hcell⟩ := (HR.out.keep hcw (by simp)).reads.at_ hkx
      rw [ev_cI_get hkx] at hu
      obtain rfl : Value.int .i64 xs[k] = u := by injection hu
      have hbw := hcw.blk' HB.out (by simp)
      have c1 := hbw.cell 1
      have e1 : IntKind.i64.wrap ((a : Int) + 1) = a + 1 := IntWalk.i64_in _ (by omega)
      have e2 : IntKind.i64.wrap ((a : Int) + 1 + k) = a + 1 + k := IntWalk.i64_in _ (by omega)
      have hrX := hrw.alloc (.cells #[.int .i64 ((a : Int) + 1 + k), .int .i64 xs[k]] 54)
      have hone := built_reads' wr 54 [.int .i64 ((a : Int) + 1 + k), .int .i64 xs[k]] 1 2 rfl
      clear hbw hu
      go_wp2_with (at_builtin; refine wpList_append_row _ rfl (.tmp 22) (.tmp 32) 36 rfl 54 i0 (.agg #[.int .i64 0, .int .i64 0]) 2 16 Tryz.underlying36 hi hz0 hz1 hz2 rfl _ k n _ rfl hrX _ 1 1 [.int .i64 ((a : Int) + 1 + k), .int .i64 xs[k]] rfl hone (by simp [Value.oneCell']) (by unfold maxLen; omega) (grow_ok (by omega)) ?_)
      intro A' cap' w2 hr2 hc2 hcase
      obtain ⟨rfl, rfl⟩ := hcase.room (by omega)
      clear hcase hrX hone
      go_wp2_with fail
      go_roundw
      case rel =>
        refine ⟨k + 1, by omega, by go_num, rfl, ?_, ?_⟩
        · rw [items_snoc (a + 1) k xs hkx, itv_append, itv_one]
          have e : (((a + 1 + k : Nat) : Int)) = (a : Int) + 1 + k := by omega
          rw [e]
          exact hr2
        · exact ((hcw.alloc _).trans hc2 (fun i hi => by simp [ob] at hi; subst hi; exact .inr (Nat.le_refl _)))
      case measure => simp [intOf]; omega
    · obtain rfl : k = n := by omega
      go_wp2
      go_ret
      exact ⟨_, rfl, hrw, hcw, Nat.le_refl _⟩

theorem left_calls {w : World} {p win : Nat} {S : List Nat} {t : St} (h : Box w p S win t) :
    Calls Tryz.prog 10 #[.pointer (some ⟨p, 0, none⟩)] w fun e w' => ∃ z, e = .returned (.slice (some ⟨z, 0, none⟩) t.xs.length t.xs.length) ∧ Row w' 54 2 (some ⟨z, 0, none⟩) t.xs.length t.xs.length (itv cI (items (t.a + 1) t.xs)) ∧ Chg [] w w' ∧ w.heap.size ≤ z := by
  have H := Lib.hid h
  obtain ⟨A, cap, rfl, hb, hr, hok, hw⟩ := h
  have c3 := hb.cell 3
  go_enter Tryz.func10, Tryz.ntmps10
  go_wp2_with (go_at_call 27; refine (first_calls H.out (Nat.le_refl _)).mono ?_; rintro e w1 ⟨z, rfl, hr1, hc1, hz1⟩; rw [List.take_length] at hr1)
  go_ret
  exact ⟨z, rfl, hr1, hc1, hz1⟩

set_option maxRecDepth 100000 in
set_option maxHeartbeats 1000000 in
theorem due_calls {w : World} {p win : Nat} {S : List Nat} {t : St} (h : Box w p S win t) :
    Calls Tryz.prog 24 #[.pointer (some ⟨p, 0, none⟩)] w fun e w' => ∃ z, e = .returned (.slice (some ⟨z, 0, none⟩) (min win t.xs.length) (min win t.xs.length)) ∧ Row w' 54 2 (some ⟨z, 0, none⟩) (min win t.xs.length) (min win t.xs.length) (itv cI (items (t.a + 1) (t.xs.take (min win t.xs.length)))) ∧
      Left w p S win (t.due win) w' ∧ w.heap.size ≤ z := by
  have hok := Lib.hid h.ok
  obtain ⟨A, cap, rfl, hb, hr, ⟨o1, o2, o3⟩, hw⟩ := h
  obtain ⟨a, s, xs⟩ := t
  simp only at *
  have HB := Lib.hid hb
  have HR := Lib.hid hr
  have c0 := hb.cell 0
  have c1 := hb.cell 1
  have c2 := hb.cell 2
  have c3 := hb.cell 3
  have f2 := hb.frozen 2
  clear hb hr
  by_cases hm : xs.length < win
  · by_cases hM : s < a + xs.length
    · have hM' : (s : Int) < (a : Int) + xs.length := by omega
      have e1 : IntKind.i64.wrap ((a : Int) + (xs.length : Nat)) = a + (xs.length : Nat) := IntWalk.i64_in _ (by omega)
      have em : Hid (min win xs.length = xs.length) := by unfold Hid; omega
      have eD : Hid (St.due ⟨a, s, xs⟩ win = ⟨a, a + xs.length, xs⟩) := by
        rw [Hid, St.due, em.out]
        simp only [St.mk.injEq, true_and, and_true]
        omega
      have hbox : ∀ W : World, Blk W p 67 #[.int .i64 win, .int .i64 a, .int .i64 s, .slice A xs.length cap] → Row W 3 1 A xs.length cap (ev cI xs) → Box (W.setCell ⟨p, 2, none⟩ (.int .i64 ((a : Int) + xs.length))) p (p :: ob A) win ⟨a, a + xs.length, xs⟩ := by
        intro W hbW hrW
        refine ⟨A, cap, rfl, ?_, hrW.keep (S := [p]) ((Chg.refl _ _).setCell (.inl (by simp)) _) (fun i hi hm => ?_), ⟨show a ≤ a + xs.length by omega, show a + xs.length ≤ a + xs.length by omega, o3⟩, hw⟩
        · have := hbW.set_ 2 (.int .i64 ((a : Int) + xs.length))
          simpa using this
        · simp at hm; subst hm; exact hrW.ne_blk hbW (by decide) _ hi rfl
      have HX := Lib.hid hbox
      clear hbox
      go_enter Tryz.func24, Tryz.ntmps24
      go_wp2_with fail
      go_quiet (fail)
      go_wp2_with fail
      have hb2 := HB.out.drewN nq
      have hr2 := HR.out.drewN nq
      go_region_law (fail)
      all_goals
        go_wp2_with fail
        refine Calls.mono (first_calls (HX.out _ ?_ ?_) (n := xs.length) ?_) ?_
        · exact hb2
        · exact hr2
        · show xs.length ≤ xs.length
          omega
        rintro e w4 ⟨z, rfl, hr4, hc4, hz4⟩
        go_wp2_with fail
        go_ret
        rw [em.out, eD.out]
        refine ⟨z, rfl, hr4, ⟨p :: ob A, (HX.out _ ?_ ?_).keep hc4 (by simp), ?_, fun k hk => .inl hk⟩, ?_⟩
        · exact hb2
        · exact hr2
        · refine Chg.next ?_ hc4
          first
            | exact (((Chg.refl (p :: ob A) w).drewN _).drew).setCell (.inl (by simp)) _
            | exact (((Chg.refl (p :: ob A) w).drewN _).drewN _).setCell (.inl (by simp)) _
            | exact ((Chg.refl (p :: ob A) w).drewN _).setCell (.inl (by simp)) _
        · simpa using hz4
    · have hM' : ¬ (s : Int) < (a : Int) + xs.length := by omega
      have e1 : IntKind.i64.wrap ((a : Int) + (xs.length : Nat)) = a + (xs.length : Nat) := IntWalk.i64_in _ (by omega)
      have em : Hid (min win xs.length = xs.length) := by unfold Hid; omega
      have eD : Hid (St.due ⟨a, s, xs⟩ win = ⟨a, s, xs⟩) := by
        rw [Hid, St.due, em.out]
        simp only [St.mk.injEq, true_and, and_true]
        omega
      have hbox : ∀ W : World, Blk W p 67 #[.int .i64 win, .int .i64 a, .int .i64 s, .slice A xs.length cap] → Row W 3 1 A xs.length cap (ev cI xs) → Box (W.setCell ⟨p, 2, none⟩ (.int .i64 ((s : Int)))) p (p :: ob A) win ⟨a, s, xs⟩ := by
        intro W hbW hrW
        refine ⟨A, cap, rfl, ?_, hrW.keep (S := [p]) ((Chg.refl _ _).setCell (.inl (by simp)) _) (fun i hi hm => ?_), ⟨show a ≤ s by omega, show s ≤ a + xs.length by omega, o3⟩, hw⟩
        · have := hbW.set_ 2 (.int .i64 ((s : Int)))
          simpa using this
        · simp at hm; subst hm; exact hrW.ne_blk hbW (by decide) _ hi rfl
      have HX := Lib.hid hbox
      clear hbox
      go_enter Tryz.func24, Tryz.ntmps24
      go_wp2_with fail
      go_quiet (fail)
      go_wp2_with fail
      have hb2 := HB.out.drewN nq
      have hr2 := HR.out.drewN nq
      go_region_law (fail)
      all_goals
        go_wp2_with fail
        refine Calls.mono (first_calls (HX.out _ ?_ ?_) (n := xs.length) ?_) ?_
        · exact hb2
        · exact hr2
        · show xs.length ≤ xs.length
          omega
        rintro e w4 ⟨z, rfl, hr4, hc4, hz4⟩
        go_wp2_with fail
        go_ret
        rw [em.out, eD.out]
        refine ⟨z, rfl, hr4, ⟨p :: ob A, (HX.out _ ?_ ?_).keep hc4 (by simp), ?_, fun k hk => .inl hk⟩, ?_⟩
        · exact hb2
        · exact hr2
        · refine Chg.next ?_ hc4
          first
            | exact (((Chg.refl (p :: ob A) w).drewN _).drew).setCell (.inl (by simp)) _
            | exact (((Chg.refl (p :: ob A) w).drewN _).drewN _).setCell (.inl (by simp)) _
            | exact ((Chg.refl (p :: ob A) w).drewN _).setCell (.inl (by simp)) _
        · simpa using hz4
  · by_cases hM : s < a + win
    · have hM' : (s : Int) < (a : Int) + win := by omega
      have e1 : IntKind.i64.wrap ((a : Int) + (win : Nat)) = a + (win : Nat) := IntWalk.i64_in _ (by omega)
      have em : Hid (min win xs.length = win) := by unfold Hid; omega
      have eD : Hid (St.due ⟨a, s, xs⟩ win = ⟨a, a + win, xs⟩) := by
        rw [Hid, St.due, em.out]
        simp only [St.mk.injEq, true_and, and_true]
        omega
      have hbox : ∀ W : World, Blk W p 67 #[.int .i64 win, .int .i64 a, .int .i64 s, .slice A xs.length cap] → Row W 3 1 A xs.length cap (ev cI xs) → Box (W.setCell ⟨p, 2, none⟩ (.int .i64 ((a : Int) + win))) p (p :: ob A) win ⟨a, a + win, xs⟩ := by
        intro W hbW hrW
        refine ⟨A, cap, rfl, ?_, hrW.keep (S := [p]) ((Chg.refl _ _).setCell (.inl (by simp)) _) (fun i hi hm => ?_), ⟨show a ≤ a + win by omega, show a + win ≤ a + xs.length by omega, o3⟩, hw⟩
        · have := hbW.set_ 2 (.int .i64 ((a : Int) + win))
          simpa using this
        · simp at hm; subst hm; exact hrW.ne_blk hbW (by decide) _ hi rfl
      have HX := Lib.hid hbox
      clear hbox
      go_enter Tryz.func24, Tryz.ntmps24
      go_wp2_with fail
      go_quiet (fail)
      go_wp2_with fail
      have hb2 := HB.out.drewN nq
      have hr2 := HR.out.drewN nq
      go_region_law (fail)
      all_goals
        go_wp2_with fail
        refine Calls.mono (first_calls (HX.out _ ?_ ?_) (n := win) ?_) ?_
        · exact hb2
        · exact hr2
        · show win ≤ xs.length
          omega
        rintro e w4 ⟨z, rfl, hr4, hc4, hz4⟩
        go_wp2_with fail
        go_ret
        rw [em.out, eD.out]
        refine ⟨z, rfl, hr4, ⟨p :: ob A, (HX.out _ ?_ ?_).keep hc4 (by simp), ?_, fun k hk => .inl hk⟩, ?_⟩
        · exact hb2
        · exact hr2
        · refine Chg.next ?_ hc4
          first
            | exact (((Chg.refl (p :: ob A) w).drewN _).drew).setCell (.inl (by simp)) _
            | exact (((Chg.refl (p :: ob A) w).drewN _).drewN _).setCell (.inl (by simp)) _
            | exact ((Chg.refl (p :: ob A) w).drewN _).setCell (.inl (by simp)) _
        · simpa using hz4
    · have hM' : ¬ (s : Int) < (a : Int) + win := by omega
      have e1 : IntKind.i64.wrap ((a : Int) + (win : Nat)) = a + (win : Nat) := IntWalk.i64_in _ (by omega)
      have em : Hid (min win xs.length = win) := by unfold Hid; omega
      have eD : Hid (St.due ⟨a, s, xs⟩ win = ⟨a, s, xs⟩) := by
        rw [Hid, St.due, em.out]
        simp only [St.mk.injEq, true_and, and_true]
        omega
      have hbox : ∀ W : World, Blk W p 67 #[.int .i64 win, .int .i64 a, .int .i64 s, .slice A xs.length cap] → Row W 3 1 A xs.length cap (ev cI xs) → Box (W.setCell ⟨p, 2, none⟩ (.int .i64 ((s : Int)))) p (p :: ob A) win ⟨a, s, xs⟩ := by
        intro W hbW hrW
        refine ⟨A, cap, rfl, ?_, hrW.keep (S := [p]) ((Chg.refl _ _).setCell (.inl (by simp)) _) (fun i hi hm => ?_), ⟨show a ≤ s by omega, show s ≤ a + xs.length by omega, o3⟩, hw⟩
        · have := hbW.set_ 2 (.int .i64 ((s : Int)))
          simpa using this
        · simp at hm; subst hm; exact hrW.ne_blk hbW (by decide) _ hi rfl
      have HX := Lib.hid hbox
      clear hbox
      go_enter Tryz.func24, Tryz.ntmps24
      go_wp2_with fail
      go_quiet (fail)
      go_wp2_with fail
      have hb2 := HB.out.drewN nq
      have hr2 := HR.out.drewN nq
      go_region_law (fail)
      all_goals
        go_wp2_with fail
        refine Calls.mono (first_calls (HX.out _ ?_ ?_) (n := win) ?_) ?_
        · exact hb2
        · exact hr2
        · show win ≤ xs.length
          omega
        rintro e w4 ⟨z, rfl, hr4, hc4, hz4⟩
        go_wp2_with fail
        go_ret
        rw [em.out, eD.out]
        refine ⟨z, rfl, hr4, ⟨p :: ob A, (HX.out _ ?_ ?_).keep hc4 (by simp), ?_, fun k hk => .inl hk⟩, ?_⟩
        · exact hb2
        · exact hr2
        · refine Chg.next ?_ hc4
          first
            | exact (((Chg.refl (p :: ob A) w).drewN _).drew).setCell (.inl (by simp)) _
            | exact (((Chg.refl (p :: ob A) w).drewN _).drewN _).setCell (.inl (by simp)) _
            | exact ((Chg.refl (p :: ob A) w).drewN _).setCell (.inl (by simp)) _
        · simpa using hz4

end Go.Proofs.YtgockfjhokocbaaGreatDoor
