/-
  PROVED: the contracts of an outbox of things.
-/
import Derived.Test.YtphbhmppjafhkaaTB
import Derived.Laws.BytesArg
namespace Go.Proofs.Ytphbhmppjafhkaa
open Go.RowKit

set_option maxRecDepth 100000 in
set_option maxHeartbeats 2000000 in
theorem first_callsT {w : World} {p win n : Nat} {S : List Nat} {t : St} (h : BoxT w p S win t) (hn : n ≤ t.xs.length) :
    Calls Try.prog 54 #[.pointer (some ⟨p, 0, none⟩), .int .i64 n] w fun e w' => ∃ z, e = .returned (.slice (some ⟨z, 0, none⟩) n n) ∧ Row w' 98 7 (some ⟨z, 0, none⟩) n n (itv cT (items (t.a + 1) (t.xs.take n))) ∧ Chg [] w w' ∧ w.heap.size ≤ z := by
  obtain ⟨i0, hi, hz0, hz1, hz2⟩ := info_parts Try.info98
  obtain ⟨A, cap, rfl, hb, hr, ⟨o1, o2, o3⟩, hw⟩ := h
  obtain ⟨a, s, xs⟩ := t
  simp only at *
  have hcap := hr.le
  have HB := Lib.hid hb
  have HR := Lib.hid hr
  have hn4 : n ≤ 4096 := by omega
  clear hb hr
  go_enter Try.func54, Try.ntmps54
  go_wp2_with (at_make; refine wpList_make_row _ rfl (.const (.int .i64 0)) (.tmp 8) 67 rfl 98 i0 zIT 7 64 Try.underlying67 hi hz0 hz1 hz2 .i64 .i64 _ _ 0 n rfl rfl rfl rfl (Nat.zero_le _) (by omega) (by unfold maxLen; omega) ?_)
  intro w1 hrow hch hsz
  have hb1 := hch.blk' HB.out (by simp)
  have c13 := hb1.cell 3
  have hncap : n ≤ cap := by omega
  go_wp2_with fail
  go_loopw [5, 17] (fun l i wr => ∃ k, k ≤ n ∧ i = .int .i64 k ∧ l = .slice (some ⟨w.heap.size, 0, none⟩) k n ∧ Row wr 98 7 (some ⟨w.heap.size, 0, none⟩) k n (itv cT (items (a + 1) (xs.take k))) ∧ Chg [] w wr) (fun _ i _ => n - (intOf i).toNat)
  case atStart => exact ⟨0, Nat.zero_le _, rfl, rfl, by simpa [items, itv] using hrow, hch⟩
  case round =>
    obtain ⟨k, hk, rfl, rfl, hrw, hcw⟩ := hrel
    clear hrow hch hsz hb1 c13
    by_cases hlt : k < n
    · have hkx : k < xs.length := by omega
      have hrr := (HR.out.keep hcw (by simp)).reads
      obtain ⟨ad, rfl, hcell⟩ := hrr.2 (by omega)
      have hcells : ∀ j u, (cT xs[k])[j]? = some u → wr.cell? ((ad.add (k * 6)).add j) = some u := fun j u hu => by
        rw [add_add]
        exact hcell _ u (ev_get cT_len hkx hu)
      have HC := Lib.hid hcells
      have hbw := hcw.blk' HB.out (by simp)
      have e1 : IntKind.i64.wrap ((a : Int) + 1) = a + 1 := IntWalk.i64_in _ (by omega)
      have e2 : IntKind.i64.wrap ((a : Int) + 1 + k) = a + 1 + k := IntWalk.i64_in _ (by omega)
      have eC : Hid (cT xs[k] = [.string (strT xs[k]), .int .i64 0, .int .i64 xs[k], .int .u8 0, .int .i64 0, .int .i64 (wrap64 (-xs[k]))]) := rfl
      have HBW := Lib.hid hbw
      have HRW := Lib.hid hrw
      clear hbw hcells hcell hrr hrw
      rw [Hid, eC.out] at HC
      have HCC := Lib.hid HC
      clear HC
      generalize strT xs[k] = sx at *
      generalize wrap64 (-xs[k]) = nx at *
      generalize hxk : xs[k] = x at *
      have HXK := Lib.hid hxk
      clear hxk
      have hca := (Chg.refl [] wr).alloc (.cells #[.string sx, .int .i64 0, .int .i64 x, .int .u8 0, .int .i64 0, .int .i64 nx] 58)
      have hbv := Blk.new wr 58 #[.string sx, .int .i64 0, .int .i64 x, .int .u8 0, .int .i64 0, .int .i64 nx]
      have hb0 := HBW.out.alloc (.cells #[.string sx, .int .i64 0, .int .i64 x, .int .u8 0, .int .i64 0, .int .i64 nx] 58)
      have hr0 := HRW.out.alloc (.cells #[.string sx, .int .i64 0, .int .i64 x, .int .u8 0, .int .i64 0, .int .i64 nx] 58)
      go_wp2_with (with_reducible refine wpList_load_cells _ rfl 58 (.tmp 20) rfl (ad.add (k * 6)) rfl _ HCC.out (.struct _) Try.underlying58 rfl (by kernel_rfl) ?_)
      generalize wr.alloc (.cells #[.string sx, .int .i64 0, .int .i64 x, .int .u8 0, .int .i64 0, .int .i64 nx] 58) = w0 at *
      have c1 := hb0.cell 1
      have v0 := hbv.cell 0
      have v1 := hbv.cell 1
      have v2 := hbv.cell 2
      have v3 := hbv.cell 3
      have v4 := hbv.cell 4
      have v5 := hbv.cell 5
      have hcA := Lib.hid hca
      have hrX := hr0.alloc (.cells #[.int .i64 ((a : Int) + 1 + k), .string sx, .int .i64 0, .int .i64 x, .int .u8 0, .int .i64 0, .int .i64 nx] 98)
      have hone := built_reads' w0 98 [.int .i64 ((a : Int) + 1 + k), .string sx, .int .i64 0, .int .i64 x, .int .u8 0, .int .i64 0, .int .i64 nx] 1 7 rfl
      clear hb0 hca hr0 hbv
      go_region_law (first
        | (refine step_append_row _ rfl (.tmp 22) (.tmp 32) 67 rfl 98 i0 zIT 7 64 Try.underlying67 hi hz0 hz1 hz2 rfl _ k n _ rfl hrX _ 1 1 [.int .i64 ((a : Int) + 1 + k), .string sx, .int .i64 0, .int .i64 x, .int .u8 0, .int .i64 0, .int .i64 nx] rfl hone (by simp [Value.oneCell']) (by unfold maxLen; omega) (grow_ok (by omega)) ?_
           intro A' cap' w2 hr2 hc2 hcase))
      all_goals
        obtain ⟨rfl, rfl⟩ := hcase.room (by omega)
        have HR2 := Lib.hid hr2
        have hc02 : Chg [] w w2 := by
          have hcw0 : Chg [] w w0 := hcw.next hcA.out
          have hobz : ∀ i ∈ ob (some (⟨w.heap.size, 0, none⟩ : Addr)), i ∈ ([] : List Nat) ∨ w.heap.size ≤ i := fun i hi => by simp [ob] at hi; subst hi; exact .inr (Nat.le_refl _)
          first
            | exact (hcw0.alloc _).trans hc2 hobz
            | exact (hcw0.drew.alloc _).trans hc2 hobz
            | exact ((hcw0.drewN _).alloc _).trans hc2 hobz
            | exact (hcw0.alloc _).drew.trans hc2 hobz
        clear hcase hrX hone hr2 hc2
        go_wp2_with fail
        go_roundw
        case rel =>
          refine ⟨k + 1, by omega, by go_num, rfl, ?_, hc02⟩
          rw [items_snoc (a + 1) k xs hkx, itv_append, itv_one]
          have e : (((a + 1 + k : Nat) : Int)) = (a : Int) + 1 + k := by omega
          rw [e, HXK.out]
          have hcx : cT x = [.string sx, .int .i64 0, .int .i64 x, .int .u8 0, .int .i64 0, .int .i64 nx] := eC.out
          rw [hcx]
          exact HR2.out
        case measure => simp [intOf]; omega
    · obtain rfl : k = n := by omega
      go_wp2
      go_ret
      exact ⟨_, rfl, hrw, hcw, Nat.le_refl _⟩

theorem left_callsT {w : World} {p win : Nat} {S : List Nat} {t : St} (h : BoxT w p S win t) :
    Calls Try.prog 38 #[.pointer (some ⟨p, 0, none⟩)] w fun e w' => ∃ z, e = .returned (.slice (some ⟨z, 0, none⟩) t.xs.length t.xs.length) ∧ Row w' 98 7 (some ⟨z, 0, none⟩) t.xs.length t.xs.length (itv cT (items (t.a + 1) t.xs)) ∧ Chg [] w w' ∧ w.heap.size ≤ z := by
  have H := Lib.hid h
  obtain ⟨A, cap, rfl, hb, hr, hok, hw⟩ := h
  have c3 := hb.cell 3
  go_enter Try.func38, Try.ntmps38
  go_wp2_with (go_at_call 54; refine (first_callsT H.out (Nat.le_refl _)).mono ?_; rintro e w1 ⟨z, rfl, hr1, hc1, hz1⟩; rw [List.take_length] at hr1)
  go_ret
  exact ⟨z, rfl, hr1, hc1, hz1⟩


set_option maxRecDepth 100000 in
set_option maxHeartbeats 1000000 in
theorem due_callsT {w : World} {p win : Nat} {S : List Nat} {t : St} (h : BoxT w p S win t) :
    Calls Try.prog 33 #[.pointer (some ⟨p, 0, none⟩)] w fun e w' => ∃ z, e = .returned (.slice (some ⟨z, 0, none⟩) (min win t.xs.length) (min win t.xs.length)) ∧ Row w' 98 7 (some ⟨z, 0, none⟩) (min win t.xs.length) (min win t.xs.length) (itv cT (items (t.a + 1) (t.xs.take (min win t.xs.length)))) ∧
      LeftT w p S win (t.due win) w' ∧ w.heap.size ≤ z := by
  have hok := Lib.hid h.ok
  obtain ⟨A, cap, rfl, hb, hr, ⟨o1, o2, o3⟩, hw⟩ := h
  obtain ⟨a, s, xs⟩ := t
  simp only at *
  have HB := Lib.hid hb
  have HR := Lib.hid hr
  have c0 := hb.cell 0
  have c1 := hb.cell 1
  have c2 := hb.cell 2
  have c3 := hb.cell 3
  have f2 := hb.frozen 2
  clear hb hr
  by_cases hm : xs.length < win
  · by_cases hM : s < a + xs.length
    · have hM' : (s : Int) < (a : Int) + xs.length := by omega
      have e1 : IntKind.i64.wrap ((a : Int) + (xs.length : Nat)) = a + (xs.length : Nat) := IntWalk.i64_in _ (by omega)
      have em : Hid (min win xs.length = xs.length) := by unfold Hid; omega
      have eD : Hid (St.due ⟨a, s, xs⟩ win = ⟨a, a + xs.length, xs⟩) := by
        rw [Hid, St.due, em.out]
        simp only [St.mk.injEq, true_and, and_true]
        omega
      have hbox : ∀ W : World, Blk W p 92 #[.int .i64 win, .int .i64 a, .int .i64 s, .slice A xs.length cap] → Row W 58 6 A xs.length cap (ev cT xs) → BoxT (W.setCell ⟨p, 2, none⟩ (.int .i64 ((a : Int) + xs.length))) p (p :: ob A) win ⟨a, a + xs.length, xs⟩ := by
        intro W hbW hrW
        refine ⟨A, cap, rfl, ?_, hrW.keep (S := [p]) ((Chg.refl _ _).setCell (.inl (by simp)) _) (fun i hi hm => ?_), ⟨show a ≤ a + xs.length by omega, show a + xs.length ≤ a + xs.length by omega, o3⟩, hw⟩
        · have := hbW.set_ 2 (.int .i64 ((a : Int) + xs.length))
          simpa using this
        · simp at hm; subst hm; exact hrW.ne_blk hbW (by decide) _ hi rfl
      have HX := Lib.hid hbox
      clear hbox
      go_enter Try.func33, Try.ntmps33
      go_wp2_with fail
      go_quiet (fail)
      go_wp2_with fail
      have hb2 := HB.out.drewN nq
      have hr2 := HR.out.drewN nq
      go_region_law (fail)
      all_goals
        go_wp2_with fail
        refine Calls.mono (first_callsT (HX.out _ ?_ ?_) (n := xs.length) ?_) ?_
        · exact hb2
        · exact hr2
        · show xs.length ≤ xs.length
          omega
        rintro e w4 ⟨z, rfl, hr4, hc4, hz4⟩
        go_wp2_with fail
        go_ret
        rw [em.out, eD.out]
        refine ⟨z, rfl, hr4, ⟨p :: ob A, (HX.out _ ?_ ?_).keep hc4 (by simp), ?_, fun k hk => .inl hk⟩, ?_⟩
        · exact hb2
        · exact hr2
        · refine Chg.next ?_ hc4
          first
            | exact (((Chg.refl (p :: ob A) w).drewN _).drew).setCell (.inl (by simp)) _
            | exact (((Chg.refl (p :: ob A) w).drewN _).drewN _).setCell (.inl (by simp)) _
            | exact ((Chg.refl (p :: ob A) w).drewN _).setCell (.inl (by simp)) _
        · simpa using hz4
    · have hM' : ¬ (s : Int) < (a : Int) + xs.length := by omega
      have e1 : IntKind.i64.wrap ((a : Int) + (xs.length : Nat)) = a + (xs.length : Nat) := IntWalk.i64_in _ (by omega)
      have em : Hid (min win xs.length = xs.length) := by unfold Hid; omega
      have eD : Hid (St.due ⟨a, s, xs⟩ win = ⟨a, s, xs⟩) := by
        rw [Hid, St.due, em.out]
        simp only [St.mk.injEq, true_and, and_true]
        omega
      have hbox : ∀ W : World, Blk W p 92 #[.int .i64 win, .int .i64 a, .int .i64 s, .slice A xs.length cap] → Row W 58 6 A xs.length cap (ev cT xs) → BoxT (W.setCell ⟨p, 2, none⟩ (.int .i64 ((s : Int)))) p (p :: ob A) win ⟨a, s, xs⟩ := by
        intro W hbW hrW
        refine ⟨A, cap, rfl, ?_, hrW.keep (S := [p]) ((Chg.refl _ _).setCell (.inl (by simp)) _) (fun i hi hm => ?_), ⟨show a ≤ s by omega, show s ≤ a + xs.length by omega, o3⟩, hw⟩
        · have := hbW.set_ 2 (.int .i64 ((s : Int)))
          simpa using this
        · simp at hm; subst hm; exact hrW.ne_blk hbW (by decide) _ hi rfl
      have HX := Lib.hid hbox
      clear hbox
      go_enter Try.func33, Try.ntmps33
      go_wp2_with fail
      go_quiet (fail)
      go_wp2_with fail
      have hb2 := HB.out.drewN nq
      have hr2 := HR.out.drewN nq
      go_region_law (fail)
      all_goals
        go_wp2_with fail
        refine Calls.mono (first_callsT (HX.out _ ?_ ?_) (n := xs.length) ?_) ?_
        · exact hb2
        · exact hr2
        · show xs.length ≤ xs.length
          omega
        rintro e w4 ⟨z, rfl, hr4, hc4, hz4⟩
        go_wp2_with fail
        go_ret
        rw [em.out, eD.out]
        refine ⟨z, rfl, hr4, ⟨p :: ob A, (HX.out _ ?_ ?_).keep hc4 (by simp), ?_, fun k hk => .inl hk⟩, ?_⟩
        · exact hb2
        · exact hr2
        · refine Chg.next ?_ hc4
          first
            | exact (((Chg.refl (p :: ob A) w).drewN _).drew).setCell (.inl (by simp)) _
            | exact (((Chg.refl (p :: ob A) w).drewN _).drewN _).setCell (.inl (by simp)) _
            | exact ((Chg.refl (p :: ob A) w).drewN _).setCell (.inl (by simp)) _
        · simpa using hz4
  · by_cases hM : s < a + win
    · have hM' : (s : Int) < (a : Int) + win := by omega
      have e1 : IntKind.i64.wrap ((a : Int) + (win : Nat)) = a + (win : Nat) := IntWalk.i64_in _ (by omega)
      have em : Hid (min win xs.length = win) := by unfold Hid; omega
      have eD : Hid (St.due ⟨a, s, xs⟩ win = ⟨a, a + win, xs⟩) := by
        rw [Hid, St.due, em.out]
        simp only [St.mk.injEq, true_and, and_true]
        omega
      have hbox : ∀ W : World, Blk W p 92 #[.int .i64 win, .int .i64 a, .int .i64 s, .slice A xs.length cap] → Row W 58 6 A xs.length cap (ev cT xs) → BoxT (W.setCell ⟨p, 2, none⟩ (.int .i64 ((a : Int) + win))) p (p :: ob A) win ⟨a, a + win, xs⟩ := by
        intro W hbW hrW
        refine ⟨A, cap, rfl, ?_, hrW.keep (S := [p]) ((Chg.refl _ _).setCell (.inl (by simp)) _) (fun i hi hm => ?_), ⟨show a ≤ a + win by omega, show a + win ≤ a + xs.length by omega, o3⟩, hw⟩
        · have := hbW.set_ 2 (.int .i64 ((a : Int) + win))
          simpa using this
        · simp at hm; subst hm; exact hrW.ne_blk hbW (by decide) _ hi rfl
      have HX := Lib.hid hbox
      clear hbox
      go_enter Try.func33, Try.ntmps33
      go_wp2_with fail
      go_quiet (fail)
      go_wp2_with fail
      have hb2 := HB.out.drewN nq
      have hr2 := HR.out.drewN nq
      go_region_law (fail)
      all_goals
        go_wp2_with fail
        refine Calls.mono (first_callsT (HX.out _ ?_ ?_) (n := win) ?_) ?_
        · exact hb2
        · exact hr2
        · show win ≤ xs.length
          omega
        rintro e w4 ⟨z, rfl, hr4, hc4, hz4⟩
        go_wp2_with fail
        go_ret
        rw [em.out, eD.out]
        refine ⟨z, rfl, hr4, ⟨p :: ob A, (HX.out _ ?_ ?_).keep hc4 (by simp), ?_, fun k hk => .inl hk⟩, ?_⟩
        · exact hb2
        · exact hr2
        · refine Chg.next ?_ hc4
          first
            | exact (((Chg.refl (p :: ob A) w).drewN _).drew).setCell (.inl (by simp)) _
            | exact (((Chg.refl (p :: ob A) w).drewN _).drewN _).setCell (.inl (by simp)) _
            | exact ((Chg.refl (p :: ob A) w).drewN _).setCell (.inl (by simp)) _
        · simpa using hz4
    · have hM' : ¬ (s : Int) < (a : Int) + win := by omega
      have e1 : IntKind.i64.wrap ((a : Int) + (win : Nat)) = a + (win : Nat) := IntWalk.i64_in _ (by omega)
      have em : Hid (min win xs.length = win) := by unfold Hid; omega
      have eD : Hid (St.due ⟨a, s, xs⟩ win = ⟨a, s, xs⟩) := by
        rw [Hid, St.due, em.out]
        simp only [St.mk.injEq, true_and, and_true]
        omega
      have hbox : ∀ W : World, Blk W p 92 #[.int .i64 win, .int .i64 a, .int .i64 s, .slice A xs.length cap] → Row W 58 6 A xs.length cap (ev cT xs) → BoxT (W.setCell ⟨p, 2, none⟩ (.int .i64 ((s : Int)))) p (p :: ob A) win ⟨a, s, xs⟩ := by
        intro W hbW hrW
        refine ⟨A, cap, rfl, ?_, hrW.keep (S := [p]) ((Chg.refl _ _).setCell (.inl (by simp)) _) (fun i hi hm => ?_), ⟨show a ≤ s by omega, show s ≤ a + xs.length by omega, o3⟩, hw⟩
        · have := hbW.set_ 2 (.int .i64 ((s : Int)))
          simpa using this
        · simp at hm; subst hm; exact hrW.ne_blk hbW (by decide) _ hi rfl
      have HX := Lib.hid hbox
      clear hbox
      go_enter Try.func33, Try.ntmps33
      go_wp2_with fail
      go_quiet (fail)
      go_wp2_with fail
      have hb2 := HB.out.drewN nq
      have hr2 := HR.out.drewN nq
      go_region_law (fail)
      all_goals
        go_wp2_with fail
        refine Calls.mono (first_callsT (HX.out _ ?_ ?_) (n := win) ?_) ?_
        · exact hb2
        · exact hr2
        · show win ≤ xs.length
          omega
        rintro e w4 ⟨z, rfl, hr4, hc4, hz4⟩
        go_wp2_with fail
        go_ret
        rw [em.out, eD.out]
        refine ⟨z, rfl, hr4, ⟨p :: ob A, (HX.out _ ?_ ?_).keep hc4 (by simp), ?_, fun k hk => .inl hk⟩, ?_⟩
        · exact hb2
        · exact hr2
        · refine Chg.next ?_ hc4
          first
            | exact (((Chg.refl (p :: ob A) w).drewN _).drew).setCell (.inl (by simp)) _
            | exact (((Chg.refl (p :: ob A) w).drewN _).drewN _).setCell (.inl (by simp)) _
            | exact ((Chg.refl (p :: ob A) w).drewN _).setCell (.inl (by simp)) _
        · simpa using hz4
end Go.Proofs.Ytphbhmppjafhkaa
