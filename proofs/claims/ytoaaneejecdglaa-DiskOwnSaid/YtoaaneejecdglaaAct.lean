/-
  PROVED: the contract of act: the step on one file, as a function on lists.
-/
import Derived.Test.YtoaaneejecdglaaBorn
namespace Go.Proofs.Ytoaaneejecdglaa
open Go.RowKit

/-- A step as it lies in memory: five numbers and a slice of bytes. -/
structure GOp where
  kind : Int
  site : Int
  a : Int
  b : Int
  c : Int
  A : Option Addr
  n : Nat
  cap : Nat
  bs : List Int

def GOp.cells (o : GOp) : List Value := [.int .i64 o.kind, .int .i64 o.site, .int .i64 o.a, .int .i64 o.b, .int .i64 o.c, .slice o.A o.n o.cap]
def GOp.val (o : GOp) : Value := .agg #[.int .i64 o.kind, .int .i64 o.site, .int .i64 o.a, .int .i64 o.b, .int .i64 o.c, .slice o.A o.n o.cap]
/-- Its bytes read, and are not more than the form's reach lets in. -/
def GOp.Ok (w : World) (o : GOp) : Prop := Reads w 1 o.A o.n (bv o.bs) ∧ o.n ≤ 140737488351232
theorem GOp.Ok.keep {w w' : World} {o : GOp} {S : List Nat} (h : o.Ok w) (hc : Chg S w w') (hS : ∀ i ∈ ob o.A, i ∉ S) : o.Ok w' := ⟨h.1.keep hc hS, h.2⟩

/-- What a step answers, and what the file holds behind it. -/
def putF (ys bs : List Int) (s : Nat) : Int × List Int × Nat := if bs.length + ys.length ≤ 262144 then (0, bs ++ ys, s) else (20, bs, s)
def cutF (a : Int) (bs : List Int) (s : Nat) : Int × List Int × Nat := if a < 0 ∨ (bs.length : Int) < a then (23, bs, s) else (0, bs.take a.toNat, min s a.toNat)
def crashF (a b c : Int) (bs : List Int) (s : Nat) : Int × List Int × Nat :=
  if a < 0 ∨ (bs.length : Int) - s < a then (21, bs, s)
  else if c ≠ 0 ∧ (c < 0 ∨ 255 < c ∨ b < 0 ∨ a ≤ b) then (22, bs, s)
  else if c = 0 then (0, bs.take (s + a.toNat), s + a.toNat)
  else (0, (bs.take (s + a.toNat)).set (s + b.toNat) (masked (bs.getD (s + b.toNat) 0) c), s + a.toNat)
def actF (o : GOp) (bs : List Int) (s : Nat) : Int × List Int × Nat :=
  if o.kind = 3 then putF o.bs bs s
  else if o.kind = 10 then putF (List.replicate (fillN o.a) (o.b % 256)) bs s
  else if o.kind = 4 then (0, bs, bs.length)
  else if o.kind = 5 then cutF o.a bs s
  else if o.kind = 6 then crashF o.a o.b o.c bs s
  else (0, bs, s)

/-- What each call leaves: the file, of other bytes it may be, in blocks of its own or new ones. -/
def Left (w : World) (p : Nat) (S : List Nat) (r : List Int × Nat) (w' : World) : Prop :=
  ∃ S', Disk w' p S' r.1 r.2 ∧ Chg S w w' ∧ ∀ k ∈ S', k ∈ S ∨ w.heap.size ≤ k

theorem Left.same {w w' : World} {p s : Nat} {S : List Nat} {bs : List Int} (h : Disk w p S bs s) (hc : Chg [] w w') : Left w p S (bs, s) w' :=
  ⟨S, h.keep hc (by simp), hc.mono (by simp), fun k hk => .inl hk⟩
/-- Steps of nobody's ahead. -/
theorem Left.after {w w1 w' : World} {p : Nat} {S : List Nat} {r : List Int × Nat} (hc : Chg [] w w1) (h : Left w1 p S r w') : Left w p S r w' := by
  obtain ⟨S', hd, hc', hS⟩ := h
  refine ⟨S', hd, (hc.mono (T := S) (by simp)).trans hc' (fun i hi => .inl hi), fun k hk => ?_⟩
  rcases hS k hk with h | h
  · exact .inl h
  · exact .inr (Nat.le_trans hc.size h)

theorem put_calls {w : World} {p s n c : Nat} {S : List Nat} {bs ys : List Int} {B : Option Addr} (h : Disk w p S bs s) (hy : Reads w 1 B n (bv ys)) :
    Calls Try.prog 15 #[.pointer (some ⟨p, 0, none⟩), .slice B n c] w fun e w' => e = .returned (.int .i64 (putF ys bs s).1) ∧ Left w p S (putF ys bs s).2 w' := by
  have hl := hy.len
  by_cases hn : bs.length + n ≤ 262144
  · refine (append_ok h hy hn).mono fun e w' ⟨he, hl'⟩ => ?_
    unfold putF
    rw [if_pos (by omega)]
    exact ⟨he, hl'⟩
  · refine (append_full h (by omega)).mono fun e w' ⟨he, hw⟩ => ?_
    unfold putF
    rw [if_neg (by omega)]
    subst hw
    exact ⟨he, Left.same h (Chg.refl _ _)⟩

theorem cutF_calls {w : World} {p s : Nat} {S : List Nat} {bs : List Int} (h : Disk w p S bs s) (a : Int) :
    Calls Try.prog 27 #[.pointer (some ⟨p, 0, none⟩), .int .i64 a] w fun e w' => e = .returned (.int .i64 (cutF a bs s).1) ∧ Left w p S (cutF a bs s).2 w' := by
  unfold cutF
  by_cases hn : a < 0 ∨ (bs.length : Int) < a
  · rw [if_pos hn]
    refine (cut_no h a hn).mono fun e w' ⟨he, hw⟩ => ?_
    subst hw
    exact ⟨he, Left.same h (Chg.refl _ _)⟩
  · rw [if_neg hn]
    obtain ⟨n, rfl⟩ := Int.eq_ofNat_of_zero_le (show 0 ≤ a by omega)
    rw [Int.toNat_natCast]
    exact (cut_ok h n (by omega)).mono fun e w' ⟨he, hd, hc⟩ => ⟨he, S, hd, hc, fun k hk => .inl hk⟩

theorem crashF_calls {w : World} {p s : Nat} {S : List Nat} {bs : List Int} (h : Disk w p S bs s) (a b c : Int) :
    Calls Try.prog 20 #[.pointer (some ⟨p, 0, none⟩), .int .i64 a, .int .i64 b, .int .i64 c] w fun e w' => e = .returned (.int .i64 (crashF a b c bs s).1) ∧ Left w p S (crashF a b c bs s).2 w' := by
  have hle := h.le
  unfold crashF
  by_cases hk : a < 0 ∨ (bs.length : Int) - s < a
  · rw [if_pos hk]
    exact (crash_keep h a b c hk).mono fun e w' ⟨he, q, hw⟩ => ⟨he, by subst hw; exact Left.same h ((Chg.refl _ _).drewN _)⟩
  · rw [if_neg hk]
    by_cases hg : c ≠ 0 ∧ (c < 0 ∨ 255 < c ∨ b < 0 ∨ a ≤ b)
    · rw [if_pos hg]
      exact (crash_garble h a b c (by omega) (by omega) hg.1 hg.2).mono fun e w' ⟨he, q, hw⟩ => ⟨he, by subst hw; exact Left.same h ((Chg.refl _ _).drewN _)⟩
    · rw [if_neg hg]
      obtain ⟨n, rfl⟩ := Int.eq_ofNat_of_zero_le (show 0 ≤ a by omega)
      by_cases hc : c = 0
      · rw [if_pos hc]
        subst hc
        rw [Int.toNat_natCast]
        exact crash_ok h n b (by omega)
      · rw [if_neg hc]
        obtain ⟨b, rfl⟩ := Int.eq_ofNat_of_zero_le (show 0 ≤ b by omega)
        rw [Int.toNat_natCast, Int.toNat_natCast]
        exact crash_mask h n b c (by omega) (by omega) (by omega) (by omega)

set_option maxHeartbeats 1000000 in
theorem act_calls {w : World} {p s : Nat} {S : List Nat} {bs : List Int} (h : Disk w p S bs s) (o : GOp) (ho : o.Ok w) :
    Calls Try.prog 25 #[.pointer (some ⟨p, 0, none⟩), o.val] w fun e w' => e = .returned (.int .i64 (actF o bs s).1) ∧ Left w p S (actF o bs s).2 w' := by
  obtain ⟨k, st, a, b, c, A, n, cap, ys⟩ := o
  obtain ⟨hy, hn⟩ := ho
  have q0 : Chg [] w (w.alloc (.cells #[.int .i64 k, .int .i64 st, .int .i64 a, .int .i64 b, .int .i64 c, .slice A n cap] 44)) := (Chg.refl _ _).alloc _
  have hd0 := h.keep q0 (by simp)
  have hy0 := Reads.keep hy q0 (by simp)
  unfold GOp.val
  simp only at hy hn hy0 ⊢
  by_cases k3 : k = 3
  · have E : Hid (actF ⟨k, st, a, b, c, A, n, cap, ys⟩ bs s = putF ys bs s) := by simp [Hid, actF, k3]
    subst k3
    go_enter Try.func25, Try.ntmps25
    go_wp2_with fail
    generalize w.alloc (.cells #[.int .i64 3, .int .i64 st, .int .i64 a, .int .i64 b, .int .i64 c, .slice A n cap] 44) = w0 at *
    go_wp2_with (first
      | (go_at_call 19; refine (copied_calls hy0 hn).mono ?_; rintro e w1 ⟨rfl, hr1, hc1⟩)
      | (go_at_call 15; refine (put_calls (hd0.keep hc1 (by simp)) hr1.reads).mono ?_; rintro e w2 ⟨rfl, hl2⟩)
      | (go_at_call 14; refine (num_calls _ _).mono ?_; rintro e w' ⟨rfl, rfl⟩))
    go_ret
    rw [E.out]
    exact ⟨rfl, Left.after (q0.next hc1) hl2⟩
  by_cases k10 : k = 10
  · have E : Hid (actF ⟨k, st, a, b, c, A, n, cap, ys⟩ bs s = putF (List.replicate (fillN a) (b % 256)) bs s) := by simp [Hid, actF, k10]
    subst k10
    clear k3
    go_enter Try.func25, Try.ntmps25
    go_wp2_with fail
    generalize w.alloc (.cells #[.int .i64 10, .int .i64 st, .int .i64 a, .int .i64 b, .int .i64 c, .slice A n cap] 44) = w0 at *
    go_wp2_with (first
      | (go_at_call 13; refine (filled_calls _ _ _).mono ?_; rintro e w1 ⟨rfl, hr1, hc1⟩)
      | (go_at_call 15; refine (put_calls (hd0.keep hc1 (by simp)) hr1.reads).mono ?_; rintro e w2 ⟨rfl, hl2⟩)
      | (go_at_call 14; refine (num_calls _ _).mono ?_; rintro e w' ⟨rfl, rfl⟩))
    go_ret
    rw [E.out]
    exact ⟨rfl, Left.after (q0.next hc1) hl2⟩
  by_cases k4 : k = 4
  · have E : Hid (actF ⟨k, st, a, b, c, A, n, cap, ys⟩ bs s = (0, bs, bs.length)) := by simp [Hid, actF, k4]
    subst k4
    clear k3 k10
    go_enter Try.func25, Try.ntmps25
    go_wp2_with fail
    generalize w.alloc (.cells #[.int .i64 4, .int .i64 st, .int .i64 a, .int .i64 b, .int .i64 c, .slice A n cap] 44) = w0 at *
    go_wp2_with (first
      | (go_at_call 34; refine (sync_calls hd0).mono ?_; rintro e w1 ⟨rfl, hd1, hc1⟩))
    go_ret
    rw [E.out]
    exact ⟨rfl, Left.after q0 ⟨S, hd1, hc1, fun k hk => .inl hk⟩⟩
  by_cases k5 : k = 5
  · have E : Hid (actF ⟨k, st, a, b, c, A, n, cap, ys⟩ bs s = cutF a bs s) := by simp [Hid, actF, k5]
    subst k5
    clear k3 k10 k4
    go_enter Try.func25, Try.ntmps25
    go_wp2_with fail
    generalize w.alloc (.cells #[.int .i64 5, .int .i64 st, .int .i64 a, .int .i64 b, .int .i64 c, .slice A n cap] 44) = w0 at *
    go_wp2_with (first
      | (go_at_call 27; refine (cutF_calls hd0 _).mono ?_; rintro e w1 ⟨rfl, hl1⟩)
      | (go_at_call 14; refine (num_calls _ _).mono ?_; rintro e w' ⟨rfl, rfl⟩))
    go_ret
    rw [E.out]
    exact ⟨rfl, Left.after q0 hl1⟩
  by_cases k6 : k = 6
  · have E : Hid (actF ⟨k, st, a, b, c, A, n, cap, ys⟩ bs s = crashF a b c bs s) := by simp [Hid, actF, k6]
    subst k6
    clear k3 k10 k4 k5
    go_enter Try.func25, Try.ntmps25
    go_wp2_with fail
    generalize w.alloc (.cells #[.int .i64 6, .int .i64 st, .int .i64 a, .int .i64 b, .int .i64 c, .slice A n cap] 44) = w0 at *
    go_wp2_with (first
      | (go_at_call 20; refine (crashF_calls hd0 _ _ _).mono ?_; rintro e w1 ⟨rfl, hl1⟩)
      | (go_at_call 14; refine (num_calls _ _).mono ?_; rintro e w' ⟨rfl, rfl⟩))
    go_ret
    rw [E.out]
    exact ⟨rfl, Left.after q0 hl1⟩
  · have E : Hid (actF ⟨k, st, a, b, c, A, n, cap, ys⟩ bs s = (0, bs, s)) := by simp [Hid, actF, k3, k10, k4, k5, k6]
    have b3 : (k == 3) = false := by simpa using k3
    have b10 : (k == 10) = false := by simpa using k10
    have b4 : (k == 4) = false := by simpa using k4
    have b5 : (k == 5) = false := by simpa using k5
    have b6 : (k == 6) = false := by simpa using k6
    clear k3 k10 k4 k5 k6
    go_enter Try.func25, Try.ntmps25
    go_wp2_with fail
    go_ret
    rw [E.out]
    exact ⟨rfl, Left.same h q0⟩

end Go.Proofs.Ytoaaneejecdglaa
