/-
  PROVED: the contract of wants: the error that the step must have is the one that it has.
-/
import Derived.Test.YtoaaneejecdglaaAct
namespace Go.Proofs.Ytoaaneejecdglaa
open Go.RowKit

theorem putF_err (ys bs : List Int) (s : Nat) : (putF ys bs s).1 = if (262144 : Int) - bs.length < ys.length then 20 else 0 := by
  unfold putF
  by_cases h : bs.length + ys.length ≤ 262144
  · rw [if_pos h, if_neg (by omega)]
  · rw [if_neg h, if_pos (by omega)]

set_option maxHeartbeats 2000000 in
theorem wants_calls {w : World} {s : Nat} {bs : List Int} (o : GOp) (ho : o.Ok w) (hs : s ≤ bs.length) (hl : bs.length ≤ 262144) :
    Calls Try.prog 26 #[o.val, .int .i64 bs.length, .int .i64 s] w fun e w' => e = .returned (.int .i64 (actF o bs s).1) ∧ Chg [] w w' := by
  obtain ⟨k, st, a, b, c, A, n, cap, ys⟩ := o
  obtain ⟨hy, hn⟩ := ho
  have q0 : Chg [] w (w.alloc (.cells #[.int .i64 k, .int .i64 st, .int .i64 a, .int .i64 b, .int .i64 c, .slice A n cap] 44)) := (Chg.refl _ _).alloc _
  have hyl := Lib.hid (Reads.len hy)
  unfold GOp.val
  simp only at hy hn ⊢
  have s1 : (s : Int) ≤ bs.length := by omega
  by_cases k3 : k = 3
  · have E : Hid ((actF ⟨k, st, a, b, c, A, n, cap, ys⟩ bs s).1 = if (262144 : Int) - bs.length < n then 20 else 0) := by
      have := putF_err ys bs s
      rw [hyl.out] at this
      simpa [Hid, actF, k3] using this
    subst k3
    rw [E.out]
    by_cases h : (262144 : Int) - bs.length < n
    · rw [if_pos h]
      go_enter Try.func26, Try.ntmps26
      go_wp2_with fail
      go_ret
      exact ⟨rfl, q0⟩
    · rw [if_neg h]
      go_enter Try.func26, Try.ntmps26
      go_wp2_with fail
      go_ret
      exact ⟨rfl, q0⟩
  by_cases k10 : k = 10
  · have E : Hid ((actF ⟨k, st, a, b, c, A, n, cap, ys⟩ bs s).1 = if (262144 : Int) - bs.length < fillN a then 20 else 0) := by
      have := putF_err (List.replicate (fillN a) (b % 256)) bs s
      rw [List.length_replicate] at this
      simpa [Hid, actF, k10] using this
    subst k10
    clear k3
    rw [E.out]
    by_cases h : (262144 : Int) - bs.length < fillN a
    · rw [if_pos h]
      go_enter Try.func26, Try.ntmps26
      go_wp2_with (go_at_call 13; refine (filled_calls _ _ _).mono ?_; rintro e w1 ⟨rfl, hr1, hc1⟩)
      go_ret
      exact ⟨rfl, q0.next hc1⟩
    · rw [if_neg h]
      go_enter Try.func26, Try.ntmps26
      go_wp2_with (go_at_call 13; refine (filled_calls _ _ _).mono ?_; rintro e w1 ⟨rfl, hr1, hc1⟩)
      go_ret
      exact ⟨rfl, q0.next hc1⟩
  by_cases k5 : k = 5
  · have E : Hid ((actF ⟨k, st, a, b, c, A, n, cap, ys⟩ bs s).1 = if a < 0 ∨ (bs.length : Int) < a then 23 else 0) := by
      simp only [Hid, actF, cutF, k5]
      simp only [show ¬ (5 : Int) = 3 by omega, show ¬ (5 : Int) = 10 by omega, show ¬ (5 : Int) = 4 by omega, if_false, if_true]
      split <;> rfl
    subst k5
    clear k3 k10
    rw [E.out]
    by_cases h : a < 0
    · rw [if_pos (.inl h)]
      go_enter Try.func26, Try.ntmps26
      go_wp2_with fail
      go_ret
      exact ⟨rfl, q0⟩
    · by_cases h2 : (bs.length : Int) < a
      · rw [if_pos (.inr h2)]
        go_enter Try.func26, Try.ntmps26
        go_wp2_with fail
        go_ret
        exact ⟨rfl, q0⟩
      · rw [if_neg (by omega)]
        go_enter Try.func26, Try.ntmps26
        go_wp2_with fail
        go_ret
        exact ⟨rfl, q0⟩
  by_cases k6 : k = 6
  · have E : Hid ((actF ⟨k, st, a, b, c, A, n, cap, ys⟩ bs s).1 = if a < 0 ∨ (bs.length : Int) - s < a then 21 else if c ≠ 0 ∧ (c < 0 ∨ 255 < c ∨ b < 0 ∨ a ≤ b) then 22 else 0) := by
      simp only [Hid, actF, crashF, k6]
      simp only [show ¬ (6 : Int) = 3 by omega, show ¬ (6 : Int) = 10 by omega, show ¬ (6 : Int) = 4 by omega, show ¬ (6 : Int) = 5 by omega, if_false, if_true]
      split
      · rfl
      · split
        · rfl
        · split <;> rfl
    subst k6
    clear k3 k10 k5
    rw [E.out]
    by_cases h : a < 0
    · rw [if_pos (.inl h)]
      go_enter Try.func26, Try.ntmps26
      go_wp2_with fail
      go_ret
      exact ⟨rfl, q0⟩
    · by_cases h2 : (bs.length : Int) - s < a
      · rw [if_pos (.inr h2)]
        go_enter Try.func26, Try.ntmps26
        go_wp2_with fail
        go_ret
        exact ⟨rfl, q0⟩
      · rw [if_neg (by omega)]
        by_cases c0 : c = 0
        · rw [if_neg (fun hh => hh.1 c0)]
          subst c0
          go_enter Try.func26, Try.ntmps26
          go_wp2_with fail
          go_ret
          exact ⟨rfl, q0⟩
        · have cb : (c != 0) = true := by rw [bne_iff_ne]; exact c0
          by_cases g1 : c < 0
          · rw [if_pos ⟨c0, .inl g1⟩]
            clear c0
            go_enter Try.func26, Try.ntmps26
            go_wp2_with fail
            go_ret
            exact ⟨rfl, q0⟩
          · by_cases g2 : 255 < c
            · rw [if_pos ⟨c0, .inr (.inl g2)⟩]
              clear c0
              go_enter Try.func26, Try.ntmps26
              go_wp2_with fail
              go_ret
              exact ⟨rfl, q0⟩
            · by_cases g3 : b < 0
              · rw [if_pos ⟨c0, .inr (.inr (.inl g3))⟩]
                clear c0
                go_enter Try.func26, Try.ntmps26
                go_wp2_with fail
                go_ret
                exact ⟨rfl, q0⟩
              · by_cases g4 : a ≤ b
                · rw [if_pos ⟨c0, .inr (.inr (.inr g4))⟩]
                  clear c0
                  go_enter Try.func26, Try.ntmps26
                  go_wp2_with fail
                  go_ret
                  exact ⟨rfl, q0⟩
                · rw [if_neg (by omega)]
                  clear c0
                  go_enter Try.func26, Try.ntmps26
                  go_wp2_with fail
                  go_ret
                  exact ⟨rfl, q0⟩
  · have E : Hid ((actF ⟨k, st, a, b, c, A, n, cap, ys⟩ bs s).1 = 0) := by
      simp only [Hid, actF, k3, k10, k5, k6, if_false]
      split <;> rfl
    have b3 : (k == 3) = false := by simpa using k3
    have b10 : (k == 10) = false := by simpa using k10
    have b5 : (k == 5) = false := by simpa using k5
    have b6 : (k == 6) = false := by simpa using k6
    clear k3 k10 k5 k6
    rw [E.out]
    go_enter Try.func26, Try.ntmps26
    go_wp2_with fail
    go_ret
    exact ⟨rfl, q0⟩

theorem actF_refused (o : GOp) (bs : List Int) (s : Nat) (h : (actF o bs s).1 ≠ 0) : (actF o bs s).2 = (bs, s) := by
  have put : ∀ ys, (putF ys bs s).1 ≠ 0 → (putF ys bs s).2 = (bs, s) := by
    intro ys hp
    unfold putF at hp ⊢
    split
    · rename_i hh; rw [if_pos hh] at hp; exact absurd rfl hp
    · rfl
  have cut : ∀ a, (cutF a bs s).1 ≠ 0 → (cutF a bs s).2 = (bs, s) := by
    intro a hp
    unfold cutF at hp ⊢
    split
    · rfl
    · rename_i hh; rw [if_neg hh] at hp; exact absurd rfl hp
  have crash : ∀ a b c, (crashF a b c bs s).1 ≠ 0 → (crashF a b c bs s).2 = (bs, s) := by
    intro a b c hp
    unfold crashF at hp ⊢
    split
    · rfl
    · rename_i h1
      rw [if_neg h1] at hp
      split
      · rfl
      · rename_i h2
        rw [if_neg h2] at hp
        split at hp <;> exact absurd rfl hp
  unfold actF at h ⊢
  split
  · rename_i hk; rw [if_pos hk] at h; exact put _ h
  · rename_i hk
    rw [if_neg hk] at h
    split
    · rename_i hk; rw [if_pos hk] at h; exact put _ h
    · rename_i hk
      rw [if_neg hk] at h
      split
      · rename_i hk; rw [if_pos hk] at h; exact absurd rfl h
      · rename_i hk
        rw [if_neg hk] at h
        split
        · rename_i hk; rw [if_pos hk] at h; exact cut _ h
        · rename_i hk
          rw [if_neg hk] at h
          split
          · rename_i hk; rw [if_pos hk] at h; exact crash _ _ _ h
          · rfl
end Go.Proofs.Ytoaaneejecdglaa
