/-
  PROVED: the contracts of Ack and Reset of an outbox of ints.
-/
import Derived.Test.YtgockfjhokocbaaGreatDoorOA
namespace Go.Proofs.YtgockfjhokocbaaGreatDoor
open Go.RowKit

set_option maxRecDepth 100000 in
theorem ack_no {w : World} {p win : Nat} {S : List Nat} {t : St} (h : Box w p S win t) (n : Int) (hn : n < 0 ∨ (t.s : Int) < n) :
    Calls Tryz.prog 33 #[.pointer (some ⟨p, 0, none⟩), .int .i64 n] w fun e w' => e = .returned (.int .i64 82) ∧ w = w' := by
  obtain ⟨A, cap, rfl, hb, hr, hok, hw⟩ := h
  have c2 := hb.cell 2
  by_cases h0 : n < 0
  · go_enter Tryz.func33, Tryz.ntmps33
    go_wp2
    go_ret
    exact ⟨rfl, rfl⟩
  · have h1 : (t.s : Int) < n := by omega
    clear hn
    go_enter Tryz.func33, Tryz.ntmps33
    go_wp2
    go_ret
    exact ⟨rfl, rfl⟩
set_option maxRecDepth 100000 in
theorem ack_old {w : World} {p win : Nat} {S : List Nat} {t : St} (h : Box w p S win t) (n : Int) (h0 : ¬ n < 0) (h1 : ¬ (t.s : Int) < n) (h2 : n ≤ t.a) :
    Calls Tryz.prog 33 #[.pointer (some ⟨p, 0, none⟩), .int .i64 n] w fun e w' => e = .returned (.int .i64 0) ∧ w = w' := by
  obtain ⟨A, cap, rfl, hb, hr, hok, hw⟩ := h
  have c1 := hb.cell 1
  have c2 := hb.cell 2
  have h3 : ¬ (t.a : Int) < n := by omega
  go_enter Tryz.func33, Tryz.ntmps33
  go_wp2
  go_ret
  exact ⟨rfl, rfl⟩

set_option maxRecDepth 100000 in
set_option maxHeartbeats 1000000 in
theorem ack_ok {w : World} {p win k : Nat} {S : List Nat} {t : St} (h : Box w p S win t) (hk : 0 < k) (h1 : t.a + k ≤ t.s) :
    Calls Tryz.prog 33 #[.pointer (some ⟨p, 0, none⟩), .int .i64 ((t.a : Int) + k)] w fun e w' => e = .returned (.int .i64 0) ∧ Left w p S win ⟨t.a + k, t.s, t.xs.drop k⟩ w' := by
  obtain ⟨i0, hi, hz0, hz1, hz2⟩ := info_parts Tryz.info3
  obtain ⟨A, cap, rfl, hb, hr, ⟨o1, o2, o3⟩, hw⟩ := h
  obtain ⟨a, s, xs⟩ := t
  simp only at *
  have c1 := hb.cell 1
  have c2 := hb.cell 2
  have c3 := hb.cell 3
  have f3 := hb.frozen 3
  have g0 : ¬ (a : Int) + k < 0 := by omega
  have g1 : ¬ (s : Int) < (a : Int) + k := by omega
  have g2 : (a : Int) < (a : Int) + k := by omega
  have hkx : k ≤ xs.length := by omega
  have hcap := hr.le
  have e1 : IntKind.i64.wrap ((a : Int) + k - a) = (k : Int) := by rw [IntWalk.i64_in _ (by omega)]; omega
  have hcut := (hr.drewN 1).reads.cut (cap := cap) hkx hcap
  rw [ev_drop cI_len, Nat.mul_one] at hcut
  have hone := cI_one (xs.drop k)
  have HB := Lib.hid hb
  go_enter Tryz.func33, Tryz.ntmps33
  go_wp2_with fail
  go_region_law (refine step_append_row _ rfl (.const (.slice none 0 0)) (.tmp 32) 33 rfl 3 i0 (.int .i64 0) 1 8 Tryz.underlying33 hi hz0 hz1 hz2 rfl none 0 0 [] rfl (Row.nil _ _ _) _ (xs.length - k) (cap - k) (ev cI (xs.drop k)) rfl hcut hone (by unfold maxLen; omega) (grow_ok (by omega)) ?_
                 intro A' cap' w2 hr2 hc2 hcase
                 have hb2 := hc2.blk' HB.out (by simp [ob])
                 have c21 := hb2.cell 1
                 have c23 := hb2.cell 3
                 have f21 := hb2.frozen 1
                 have f23 := hb2.frozen 3)
  all_goals (go_wp2_with fail)
  all_goals
    go_ret
    have hp : p ∉ ob A' := fun hm => hr2.ne_blk hb2 (by decide) _ hm rfl
    have hc2' : Chg [] w w2 := by
      first
        | exact (Chg.refl [] w).drew.next hc2
        | exact ((Chg.refl [] w).drewN _).next hc2
    rw [Nat.zero_add, List.nil_append] at hr2
    have hlen : xs.length - k = (xs.drop k).length := by simp
    refine ⟨rfl, p :: ob A', ⟨A', cap', rfl, ?_, ?_, ⟨by simp; omega, by simp; omega, by simp; omega⟩, hw⟩, (((hc2'.mono (T := p :: ob A) (by simp)).setCell (.inl (by simp)) _).setCell (.inl (by simp)) _), ?_⟩
    · have := (hb2.set_ 3 (.slice A' (xs.length - k) cap')).set_ 1 (.int .i64 ((a : Int) + k))
      simpa using this
    · have := hr2.keep (S := [p]) (((Chg.refl _ w2).setCell (p := ⟨p, 3, none⟩) (.inl (by simp)) (.slice A' (xs.length - k) cap')).setCell (p := ⟨p, 1, none⟩) (.inl (by simp)) (.int .i64 ((a : Int) + k))) (fun i hi hm => by simp at hm; subst hm; exact hp hi)
      simpa using this
    · intro i hi
      rcases List.mem_cons.1 hi with rfl | hi
      · exact .inl (by simp)
      · rcases hcase.ob_ i hi with h | h
        · simp [ob] at h
        · exact .inr h

theorem ack_calls {w : World} {p win : Nat} {S : List Nat} {t : St} (h : Box w p S win t) (n : Int) :
    Calls Tryz.prog 33 #[.pointer (some ⟨p, 0, none⟩), .int .i64 n] w fun e w' => e = .returned (.int .i64 (t.ack n).1) ∧ Left w p S win (t.ack n).2 w' := by
  unfold St.ack
  by_cases h1 : n < 0 ∨ (t.s : Int) < n
  · rw [if_pos h1]
    exact (ack_no h n h1).mono fun e w' ⟨he, hw⟩ => ⟨he, by subst hw; exact Left.same h (Chg.refl _ _)⟩
  · rw [if_neg h1]
    by_cases h2 : n ≤ t.a
    · rw [if_pos h2]
      exact (ack_old h n (by omega) (by omega) h2).mono fun e w' ⟨he, hw⟩ => ⟨he, by subst hw; exact Left.same h (Chg.refl _ _)⟩
    · rw [if_neg h2]
      obtain ⟨m, rfl⟩ := Int.eq_ofNat_of_zero_le (show 0 ≤ n by omega)
      have e : (m : Int) = (t.a : Int) + ((m - t.a : Nat) : Int) := by omega
      have e2 : m = t.a + (m - t.a) := by omega
      have key := ack_ok h (k := m - t.a) (by omega) (by omega)
      rw [← e, ← e2] at key
      rw [Int.toNat_natCast]
      exact key
end Go.Proofs.YtgockfjhokocbaaGreatDoor
