/-
  PROVED: the walk of DiskTail: whatever the crash, it returns true and turns nothing that was there.
-/
import Derived.Test.YtoaaneejecdglaaBorn
namespace Go.Proofs.Ytoaaneejecdglaa
open Go.RowKit

theorem same_yes {w : World} {n c m d : Nat} {A B : Option Addr} {xs ys : List Int} (hx : Reads w 1 A n (bv xs)) (hy : Reads w 1 B m (bv ys)) (hn : n ≤ 140737488351232) (h : xs = ys) :
    Calls Try.prog 22 #[.slice A n c, .slice B m d] w fun e w' => e = .returned (.bool true) ∧ ∃ q, w' = w.drewN q :=
  (same_calls hx hy hn).mono fun _ _ ⟨he, hw⟩ => ⟨by rw [he, decide_eq_true h], hw⟩
theorem begins_yes {w : World} {n c m d : Nat} {A B : Option Addr} {xs ys : List Int} (hx : Reads w 1 A n (bv xs)) (hc : n ≤ c) (hy : Reads w 1 B m (bv ys)) (hm : m ≤ 140737488351232) (h : xs.take ys.length = ys) :
    Calls Try.prog 21 #[.slice A n c, .slice B m d] w fun e w' => e = .returned (.bool true) ∧ ∃ q, w' = w.drewN q :=
  (begins_calls hx hc hy hm).mono fun _ _ ⟨he, hw⟩ => ⟨by rw [he, decide_eq_true h], hw⟩

/-- 'b[k:]' of a row, as the walk spells its address. -/
theorem Row.from_ {w : World} {g n k : Nat} {xs : List Int} (h : Row w 5 1 (some ⟨g, 0, none⟩) n n (bv xs)) (hk : k ≤ n) :
    Reads w 1 (if n = k then some ⟨g, 0, none⟩ else some ⟨g, k, none⟩) (n - k) (bv (xs.drop k)) := by
  have := h.reads.cut hk (Nat.le_refl n)
  rw [bv_drop, Option.map_some, add_head, Nat.mul_one] at this
  exact this

def boxed (w : World) (A B : Option Addr) (n c m d : Nat) (k a ma : Int) : World := w.alloc (.cells #[.slice A n c, .slice B m d, .int .i64 k, .int .i64 a, .int .i64 ma] 34)

set_option maxHeartbeats 2000000 in
set_option maxRecDepth 100000 in
theorem tail_long (A B : Option Addr) (n c m d : Nat) (k a ma : Int) (w : World) (h : 262144 < n ∨ 262144 < n + m) :
    Calls Try.prog 4 #[.agg #[.slice A n c, .slice B m d, .int .i64 k, .int .i64 a, .int .i64 ma]] w fun e w' => e = .returned (.bool true) ∧ Chg [] w w' := by
  by_cases h1 : 262144 < n
  · have h2 : (262144 : Int) < n := by omega
    clear h h1
    go_enter Try.func4, Try.ntmps4
    go_wp2
    go_quiet (fail)
    go_wp2_with fail
    go_ret
    exact ⟨rfl, ((Chg.refl _ _).alloc _).drewN _⟩
  · have h2 : ¬ (262144 : Int) < n := by omega
    have h3 : (262144 : Int) - n < m := by omega
    clear h h1
    go_enter Try.func4, Try.ntmps4
    go_wp2
    go_quiet (fail)
    go_wp2_with fail
    go_ret
    exact ⟨rfl, ((Chg.refl _ _).alloc _).drewN _⟩

set_option maxHeartbeats 2000000 in
set_option maxRecDepth 100000 in
theorem tail_keep (A B : Option Addr) (n c m d : Nat) (k a ma : Int) (w : World) (hs ts : List Int) (hx : Reads w 1 A n (bv hs)) (hy : Reads w 1 B m (bv ts)) (h : n + m ≤ 262144) (hk : k < 0 ∨ (m : Int) < k) :
    Calls Try.prog 4 #[.agg #[.slice A n c, .slice B m d, .int .i64 k, .int .i64 a, .int .i64 ma]] w fun e w' => e = .returned (.bool true) ∧ Chg [] w w' := by
  have h2 : ¬ (262144 : Int) < n := by omega
  have h3 : ¬ (262144 : Int) - n < m := by omega
  have lx := Lib.hid hx.len
  have ly := Lib.hid hy.len
  rcases hk with hk | hk
  all_goals
    go_enter Try.func4, Try.ntmps4
    go_wp2
    go_quiet (fail)
    have q0 : Chg [] w ((w.alloc (.cells #[.slice A n c, .slice B m d, .int .i64 k, .int .i64 a, .int .i64 ma] 34)).drewN nq) := ((Chg.refl _ _).alloc _).drewN _
    have hx0 := hx.keep q0 (by simp)
    have hy0 := hy.keep q0 (by simp)
    generalize (w.alloc (.cells #[.slice A n c, .slice B m d, .int .i64 k, .int .i64 a, .int .i64 ma] 34)).drewN nq = w0 at *
    go_wp2_with (first
      | (go_at_call 12; refine (born_calls hx0 (by omega)).mono ?_; rintro e w1 ⟨p, S, rfl, hd1, hc1, hS1⟩)
      | (go_at_call 19; refine (copied_calls (hy0.keep hc1 (by simp)) (by omega)).mono ?_; rintro e w2 ⟨rfl, hr2, hc2⟩)
      | (go_at_call 14; refine (num_calls _ _).mono ?_; rintro e w' ⟨rfl, rfl⟩)
      | (go_at_call 15; refine (append_ok (hd1.keep hc2 (by simp)) hr2.reads (by have := lx.out; omega)).mono ?_; rintro e w3 ⟨rfl, S3, hd3, hc3, hS3⟩))
    have hbs : Hid ((hs ++ ts).length = n + m ∧ (hs ++ ts).take n = hs ∧ (hs ++ ts).drop n = ts) := by
      have e1 := lx.out
      have e2 := ly.out
      subst e1 e2
      exact ⟨by simp, by simp, by simp⟩
    have q3 : Chg [] w0 w3 := (hc1.next hc2).trans hc3 (fun i hi => .inr (hS1 i hi))
    have hB3 : ∀ i ∈ S3, w0.heap.size ≤ i := fun i hi => by
      have := (hc1.next hc2).size
      rcases hS3 i hi with h | h
      · exact hS1 i h
      · omega
    clear hc1 hc2 hc3 hS1 hS3 hd1 hr2
    generalize hs ++ ts = bs at *
    have b1 : bs.length ≤ n + m := by have := hbs.out; omega
    have b2 : n + m ≤ bs.length := by have := hbs.out; omega
    go_wp2_with (first
      | (go_at_call 20; refine (crash_keep hd3 _ _ _ (by omega)).mono ?_; rintro e w4 ⟨rfl, q, rfl⟩; have hd4 := hd3.drewN q; have q4 := q3.drewN q)
      | (go_at_call 14; refine (num_calls _ _).mono ?_; rintro e w' ⟨rfl, rfl⟩)
      | (go_at_call 17; refine (bytes_calls hd4).mono ?_; rintro e w5 ⟨rfl, hr5, hc5⟩; have hd5 := hd4.keep hc5 (by simp); have hx5 := hx0.keep (q4.next hc5) (by simp); have hy5 := hy0.keep (q4.next hc5) (by simp); have hcut := hr5.from_ (k := n) (by omega))
      | (go_at_call 18; refine (synced_calls hd5).mono ?_; rintro e w' ⟨rfl, rfl⟩)
      | (go_at_call 21; refine (begins_yes hr5.reads (Nat.le_refl _) hx5 (by omega) (by rw [lx.out]; exact hbs.out.2.1)).mono ?_; rintro e w6 ⟨rfl, q2, rfl⟩)
      | (go_at_call 22; refine (same_yes (hcut.drewN q2) (hy5.drewN q2) (by omega) hbs.out.2.2).mono ?_; rintro e w7 ⟨rfl, q3, rfl⟩))
    all_goals
      go_ret
      exact ⟨rfl, (q0.next (q4.next hc5)).drewN _⟩

set_option maxHeartbeats 2000000 in
set_option maxRecDepth 100000 in
theorem tail_garble (A B : Option Addr) (n c m d : Nat) (k a ma : Int) (w : World) (hs ts : List Int) (hx : Reads w 1 A n (bv hs)) (hy : Reads w 1 B m (bv ts)) (h : n + m ≤ 262144) (hk0 : 0 ≤ k) (hk1 : k ≤ m) (hm : ma ≠ 0) (hg : ma < 0 ∨ 255 < ma ∨ a < 0 ∨ k ≤ a) :
    Calls Try.prog 4 #[.agg #[.slice A n c, .slice B m d, .int .i64 k, .int .i64 a, .int .i64 ma]] w fun e w' => e = .returned (.bool true) ∧ Chg [] w w' := by
  have h2 : ¬ (262144 : Int) < n := by omega
  have h3 : ¬ (262144 : Int) - n < m := by omega
  have h4 : ¬ k < 0 := by omega
  have h5 : ¬ (m : Int) < k := by omega
  have lx := Lib.hid hx.len
  have ly := Lib.hid hy.len
  have hmb : (ma != 0) = true := by rw [bne_iff_ne]; exact hm
  have hmn := Lib.hid hm
  clear hm
  have G := Lib.hid hg
  clear hg
  rcases (show ma < 0 ∨ (¬ ma < 0 ∧ 255 < ma) ∨ (¬ ma < 0 ∧ ¬ 255 < ma ∧ a < 0) ∨ (¬ ma < 0 ∧ ¬ 255 < ma ∧ ¬ a < 0 ∧ k ≤ a) by have := G.out; omega) with g1 | ⟨g1, g2⟩ | ⟨g1, g2, g3⟩ | ⟨g1, g2, g3, g4⟩
  all_goals
    go_enter Try.func4, Try.ntmps4
    go_wp2
    go_quiet (fail)
    have q0 : Chg [] w ((w.alloc (.cells #[.slice A n c, .slice B m d, .int .i64 k, .int .i64 a, .int .i64 ma] 34)).drewN nq) := ((Chg.refl _ _).alloc _).drewN _
    have hx0 := hx.keep q0 (by simp)
    have hy0 := hy.keep q0 (by simp)
    generalize (w.alloc (.cells #[.slice A n c, .slice B m d, .int .i64 k, .int .i64 a, .int .i64 ma] 34)).drewN nq = w0 at *
    go_wp2_with (first
      | (go_at_call 12; refine (born_calls hx0 (by omega)).mono ?_; rintro e w1 ⟨p, S, rfl, hd1, hc1, hS1⟩)
      | (go_at_call 19; refine (copied_calls (hy0.keep hc1 (by simp)) (by omega)).mono ?_; rintro e w2 ⟨rfl, hr2, hc2⟩)
      | (go_at_call 14; refine (num_calls _ _).mono ?_; rintro e w' ⟨rfl, rfl⟩)
      | (go_at_call 15; refine (append_ok (hd1.keep hc2 (by simp)) hr2.reads (by have := lx.out; omega)).mono ?_; rintro e w3 ⟨rfl, S3, hd3, hc3, hS3⟩))
    have hbs : Hid ((hs ++ ts).length = n + m ∧ (hs ++ ts).take n = hs ∧ (hs ++ ts).drop n = ts) := by
      have e1 := lx.out
      have e2 := ly.out
      subst e1 e2
      exact ⟨by simp, by simp, by simp⟩
    have q3 : Chg [] w0 w3 := (hc1.next hc2).trans hc3 (fun i hi => .inr (hS1 i hi))
    have hB3 : ∀ i ∈ S3, w0.heap.size ≤ i := fun i hi => by
      have := (hc1.next hc2).size
      rcases hS3 i hi with h | h
      · exact hS1 i h
      · omega
    clear hc1 hc2 hc3 hS1 hS3 hd1 hr2
    generalize hs ++ ts = bs at *
    have b1 : bs.length ≤ n + m := by have := hbs.out; omega
    have b2 : n + m ≤ bs.length := by have := hbs.out; omega
    go_wp2_with (first
      | (go_at_call 20; refine (crash_garble hd3 _ _ _ hk0 (by omega) hmn.out G.out).mono ?_; rintro e w4 ⟨rfl, q, rfl⟩; have hd4 := hd3.drewN q; have q4 := q3.drewN q)
      | (go_at_call 14; refine (num_calls _ _).mono ?_; rintro e w' ⟨rfl, rfl⟩)
      | (go_at_call 17; refine (bytes_calls hd4).mono ?_; rintro e w5 ⟨rfl, hr5, hc5⟩; have hd5 := hd4.keep hc5 (by simp); have hx5 := hx0.keep (q4.next hc5) (by simp); have hy5 := hy0.keep (q4.next hc5) (by simp); have hcut := hr5.from_ (k := n) (by omega))
      | (go_at_call 18; refine (synced_calls hd5).mono ?_; rintro e w' ⟨rfl, rfl⟩)
      | (go_at_call 21; refine (begins_yes hr5.reads (Nat.le_refl _) hx5 (by omega) (by rw [lx.out]; exact hbs.out.2.1)).mono ?_; rintro e w6 ⟨rfl, q2, rfl⟩)
      | (go_at_call 22; refine (same_yes (hcut.drewN q2) (hy5.drewN q2) (by omega) hbs.out.2.2).mono ?_; rintro e w7 ⟨rfl, q3, rfl⟩))
    all_goals
      go_ret
      exact ⟨rfl, (q0.next (q4.next hc5)).drewN _⟩

end Go.Proofs.Ytoaaneejecdglaa
