/-
  PROVED: the walk of DiskTail where the crash garbles a byte.
-/
import Derived.Test.YtoaaneejecdglaaTail2
namespace Go.Proofs.Ytoaaneejecdglaa
open Go.RowKit

set_option maxHeartbeats 2000000 in
set_option maxRecDepth 100000 in
theorem tail_mask (A B : Option Addr) (n c m d : Nat) (k a : Nat) (ma : Int) (w : World) (hs ts : List Int) (hx : Reads w 1 A n (bv hs)) (hy : Reads w 1 B m (bv ts)) (h : n + m ≤ 262144) (hk1 : k ≤ m) (ha : a < k) (hm1 : 0 < ma) (hm2 : ma ≤ 255) :
    Calls Try.prog 4 #[.agg #[.slice A n c, .slice B m d, .int .i64 k, .int .i64 a, .int .i64 ma]] w fun e w' => e = .returned (.bool true) ∧ Chg [] w w' := by
  have h2 : ¬ (262144 : Int) < n := by omega
  have h3 : ¬ (262144 : Int) - n < m := by omega
  have h4 : ¬ (k : Int) < 0 := by omega
  have h5 : ¬ (m : Int) < k := by omega
  have h6 : (ma != 0) = true := by rw [bne_iff_ne]; omega
  have h7 : ¬ (a : Int) < 0 := by omega
  have h8 : ¬ (k : Int) ≤ a := by omega
  have lx := Lib.hid hx.len
  have ly := Lib.hid hy.len
  go_enter Try.func4, Try.ntmps4
  go_wp2
  go_quiet (fail)
  have q0 : Chg [] w ((w.alloc (.cells #[.slice A n c, .slice B m d, .int .i64 k, .int .i64 a, .int .i64 ma] 34)).drewN nq) := ((Chg.refl _ _).alloc _).drewN _
  have hx0 := hx.keep q0 (by simp)
  have hy0 := hy.keep q0 (by simp)
  generalize (w.alloc (.cells #[.slice A n c, .slice B m d, .int .i64 k, .int .i64 a, .int .i64 ma] 34)).drewN nq = w0 at *
  go_wp2_with (first
    | (go_at_call 12; refine (born_calls hx0 (by omega)).mono ?_; rintro e w1 ⟨p, S, rfl, hd1, hc1, hS1⟩)
    | (go_at_call 19; refine (copied_calls (hy0.keep hc1 (by simp)) (by omega)).mono ?_; rintro e w2 ⟨rfl, hr2, hc2⟩)
    | (go_at_call 14; refine (num_calls _ _).mono ?_; rintro e w' ⟨rfl, rfl⟩)
    | (go_at_call 15; refine (append_ok (hd1.keep hc2 (by simp)) hr2.reads (by have := lx.out; omega)).mono ?_; rintro e w3 ⟨rfl, S3, hd3, hc3, hS3⟩))
  have hbs : Hid ((hs ++ ts).length = n + m ∧ (hs ++ ts).take n = hs ∧ (hs ++ ts).drop n = ts) := by
    have e1 := lx.out
    have e2 := ly.out
    subst e1 e2
    exact ⟨by simp, by simp, by simp⟩
  have q3 : Chg [] w0 w3 := (hc1.next hc2).trans hc3 (fun i hi => .inr (hS1 i hi))
  have hB3 : ∀ i ∈ S3, w0.heap.size ≤ i := fun i hi => by
    have := (hc1.next hc2).size
    rcases hS3 i hi with h | h
    · exact hS1 i h
    · omega
  clear hc1 hc2 hc3 hS1 hS3 hd1 hr2
  generalize hs ++ ts = bs at *
  have b1 : bs.length ≤ n + m := by have := hbs.out; omega
  have b2 : n + m ≤ bs.length := by have := hbs.out; omega
  have hz : Hid (((bs.take (n + k)).set (n + a) (masked (bs.getD (n + a) 0) ma)).length = n + k ∧ ((bs.take (n + k)).set (n + a) (masked (bs.getD (n + a) 0) ma)).take n = hs ∧
      ∀ i, i < k → ((bs.take (n + k)).set (n + a) (masked (bs.getD (n + a) 0) ma))[n + i]? = some (if i = a then masked (ts.getD i 0) ma else ts.getD i 0)) := by
    obtain ⟨e1, e2, e3⟩ := hbs.out
    refine ⟨by simp; omega, ?_, fun i hi => ?_⟩
    · rw [List.take_set_of_le (by omega), List.take_take, Nat.min_eq_left (by omega)]; exact e2
    · have e4 : ∀ i, ts.getD i 0 = bs.getD (n + i) 0 := fun i => by simp [List.getD, ← e3]
      rw [e4]
      rw [List.getElem?_set]
      by_cases hia : i = a
      · subst hia
        simp; omega
      · rw [if_neg (by omega), if_neg hia, List.getElem?_take, if_pos (by omega)]
        simp [List.getD, show n + i < bs.length by omega]
  go_wp2_with (first
    | (go_at_call 20; refine (crash_mask hd3 _ _ _ (by omega) ha hm1 hm2).mono ?_; rintro e w4 ⟨rfl, S4, hd4, hc4, hS4⟩; have q4 := q3.trans hc4 (fun i hi => .inr (hB3 i hi)))
    | (go_at_call 14; refine (num_calls _ _).mono ?_; rintro e w' ⟨rfl, rfl⟩))
  generalize (bs.take (n + k)).set (n + a) (masked (bs.getD (n + a) 0) ma) = cs at *
  have c1 : cs.length ≤ n + k := by have := hz.out; omega
  have c2 : n + k ≤ cs.length := by have := hz.out; omega
  have c3 : ((cs.length : Int) != n + k) = false := by simp; omega
  have c4 : ((n : Int) + k != cs.length) = false := by simp; omega
  go_wp2_with (first
    | (go_at_call 17; refine (bytes_calls hd4).mono ?_; rintro e w5 ⟨rfl, hr5, hc5⟩; have hd5 := hd4.keep hc5 (by simp); have hx5 := hx0.keep (q4.next hc5) (by simp); have hy5 := hy0.keep (q4.next hc5) (by simp))
    | (go_at_call 18; refine (synced_calls hd5).mono ?_; rintro e w' ⟨rfl, rfl⟩)
    | (go_at_call 16; refine (size_calls hd5).mono ?_; rintro e w' ⟨rfl, rfl⟩)
    | (go_at_call 21; refine (begins_yes hr5.reads (Nat.le_refl _) hx5 (by omega) (by rw [lx.out]; exact hz.out.2.1)).mono ?_; rintro e w6 ⟨rfl, q2, rfl⟩))
  go_loop [12] (fun i => ∃ j : Nat, j ≤ k ∧ i = .int .i64 j) (fun i => k - (intOf i).toNat)
  case atStart => exact ⟨0, Nat.zero_le _, rfl⟩
  case round =>
    obtain ⟨j, hj, rfl⟩ := hrel
    by_cases hlt : j < k
    · obtain ⟨ad, u, hA, hu, hc⟩ := hr5.reads.at_ (k := n + j) (by omega)
      obtain rfl := Option.some.inj hA
      rw [add_head] at hc
      obtain ⟨bd, v, rfl, hv, hd⟩ := hy5.at_ (k := j) (by omega)
      have hbj := hz.out.2.2 j hlt
      have hlj : j < ts.length := by have := ly.out; omega
      have hv' : v = .int .u8 (ts.getD j 0) := by simpa [bv, hlj, List.getD] using hv.symm
      have hu' : u = .int .u8 (if j = a then masked (ts.getD j 0) ma else ts.getD j 0) := by
        unfold bv at hu
        rw [List.getElem?_map, hbj] at hu
        simpa using hu.symm
      subst hv'
      have j1 : (j : Int) < k := by omega
      have j2 : (j : Int) < m := by omega
      have j3 : (n : Int) + j < cs.length := by omega
      clear hv hbj hlj hu
      generalize ts.getD j 0 = x at *
      by_cases hja : j = a
      · rw [if_pos hja] at hu'
        subst hu'
        have j4 : ((j : Int) == a) = true := by simp; omega
        clear hja
        unfold masked at hc
        generalize ex : bits .xor .u8 x ma = y at hc
        go_wp2
        go_round
        case rel => exact ⟨j + 1, by omega, by go_num⟩
        case measure => simp [intOf]; omega
      · rw [if_neg hja] at hu'
        subst hu'
        have j4 : ((j : Int) == a) = false := by simp; omega
        clear hja
        go_wp2
        go_round
        case rel => exact ⟨j + 1, by omega, by go_num⟩
        case measure => simp [intOf]; omega
    · go_wp2
      go_ret
      exact ⟨rfl, (q0.next (q4.next hc5)).drewN _⟩

end Go.Proofs.Ytoaaneejecdglaa
