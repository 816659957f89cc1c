/-
  PROVED: the walk of DiskFull: whatever room and c, it returns true and turns nothing that was there.
-/
import Derived.Test.YtoaaneejecdglaaBorn
namespace Go.Proofs.Ytoaaneejecdglaa
open Go.RowKit

set_option maxHeartbeats 2000000 in
theorem full_in (r : Nat) (c : Int) (hr : r ≤ 262144) (w : World) :
    Calls Try.prog 3 #[.int .i64 r, .int .u8 c] w fun e w' => e = .returned (.bool true) ∧ Chg [] w w' := by
  obtain ⟨n0, hn0⟩ : ∃ n0, n0 + r = 262144 := ⟨262144 - r, by omega⟩
  have a1 : (n0 : Int) + r ≤ 262144 := by omega
  have a2 : 262144 ≤ (n0 : Int) + r := by omega
  clear hn0 hr
  have a3 : (0 : Int) ≤ r := by omega
  have a4 : ¬ (262144 : Int) < r := by omega
  go_enter Try.func3, Try.ntmps3
  go_wp2_with (first
    | (go_at_call 13; refine (filled_at _ _ _ n0 (by omega)).mono ?_; rintro e w1 ⟨rfl, hr1, hc1⟩)
    | (go_at_call 12; refine (born_calls hr1.reads (by omega)).mono ?_; rintro e w2 ⟨p, S, rfl, hd2, hc2, hS2⟩))
  have l2 : (List.replicate n0 c).length = n0 := List.length_replicate
  obtain ⟨ys, hys⟩ : ∃ ys, ys = List.replicate n0 c := ⟨_, rfl⟩
  rw [← hys] at hd2 l2
  have hly := Lib.hid l2
  have hys' := Lib.hid hys
  clear l2 hys
  have b1 : ((ys.length : Int) != 262144 - r) = false := by have := hly.out; simp; omega
  have b2 : ys.length ≤ 262144 := by have := hly.out; omega
  have b3 : 262144 < ys.length + (r + 1) := by have := hly.out; omega
  have b4 : ys.length + r ≤ 262144 := by have := hly.out; omega
  have b5 : 262144 ≤ ys.length + r := by have := hly.out; omega
  have b6 : n0 ≤ ys.length := by have := hly.out; omega
  have b7 : ys.length ≤ n0 := by have := hly.out; omega
  go_wp2_with (first
    | (go_at_call 13; refine (filled_at _ _ _ (r + 1) (by omega)).mono ?_; rintro e w3 ⟨rfl, hr3, hc3⟩; have hd3 := hd2.keep hc3 (by simp))
    | (go_at_call 15; refine (append_full hd3 b3).mono ?_; rintro e w' ⟨rfl, rfl⟩)
    | (go_at_call 14; refine (num_calls _ _).mono ?_; rintro e w' ⟨rfl, rfl⟩)
    | (go_at_call 16; refine (size_calls hd3).mono ?_; rintro e w' ⟨rfl, rfl⟩))
  refine (filled_at _ _ _ r (by omega)).mono ?_
  rintro e w4 ⟨rfl, hr4, hc4⟩
  have hd4 := hd3.keep hc4 (by simp)
  go_wp2_with fail
  refine (append_ok hd4 hr4.reads (by omega)).mono ?_
  rintro e w5 ⟨rfl, S5, hd5, hc5, hS5⟩
  have l5 := hd5.le
  have hz : Hid (∀ k, (k < n0 → (ys ++ List.replicate r ((c + 1) % 256)).getD k 0 = c) ∧ (n0 ≤ k → k < n0 + r → (ys ++ List.replicate r ((c + 1) % 256)).getD k 0 = (c + 1) % 256)) := by
    have e1 := hys'.out
    have e2 := hly.out
    intro k
    subst e1
    constructor
    · intro hk
      simp [List.getD, List.getElem?_append, hk]
    · intro hk hk2
      simp [List.getD, List.getElem?_append, show ¬ k < n0 by omega, show k - n0 < r by omega]
  have hl : (ys ++ List.replicate r ((c + 1) % 256)).length = ys.length + r := by simp
  generalize ys ++ List.replicate r ((c + 1) % 256) = bs at *
  have d1 : 262144 ≤ bs.length := by omega
  have d2 : bs.length ≤ 262144 := by omega
  have d3 : ((bs.length : Int) != 262144) = false := by simp; omega
  have d4 : n0 ≤ bs.length := by omega
  have hlh := Lib.hid hl
  clear hl
  go_wp2_with (first
    | (go_at_call 14; refine (num_calls _ _).mono ?_; rintro e w' ⟨rfl, rfl⟩)
    | (go_at_call 16; refine (size_calls hd5).mono ?_; rintro e w' ⟨rfl, rfl⟩)
    | (go_at_call 15; refine (append_full (hd5.keep ((Chg.refl [] _).alloc _) (by simp)) (by omega)).mono ?_; rintro e w' ⟨rfl, rfl⟩))
  have hd6 := hd5.keep ((Chg.refl [] w5).alloc (.cells #[.int .u8 c] 5)) (by simp)
  refine (append_ok (ys := []) hd6 (Reads.nil _ _ _) (by omega)).mono ?_
  rintro e w7 ⟨rfl, S7, hd7, hc7, hS7⟩
  rw [List.append_nil] at hd7
  go_wp2_with (first
    | (go_at_call 14; refine (num_calls _ _).mono ?_; rintro e w' ⟨rfl, rfl⟩))
  have hd8 := hd7.keep ((Chg.refl [] w7).alloc (.cells #[] 5)) (by simp)
  refine (append_ok (ys := []) hd8 (Reads.nil _ _ _) (by omega)).mono ?_
  rintro e w9 ⟨rfl, S9, hd9, hc9, hS9⟩
  rw [List.append_nil] at hd9
  have d5 : ((n0 : Int) != 262144 - r) = false := by simp; omega
  go_wp2_with (first
    | (go_at_call 14; refine (num_calls _ _).mono ?_; rintro e w' ⟨rfl, rfl⟩)
    | (go_at_call 17; refine (bytes_calls hd9).mono ?_; rintro e w10 ⟨rfl, hr10, hc10⟩)
    | (go_at_call 18; refine (synced_calls (hd9.keep hc10 (by simp))).mono ?_; rintro e w' ⟨rfl, rfl⟩))
  go_loop [8] (fun i => ∃ k : Nat, k ≤ bs.length ∧ i = .int .i64 k) (fun i => bs.length - (intOf i).toNat)
  case atStart => exact ⟨0, Nat.zero_le _, rfl⟩
  case round =>
    obtain ⟨k, hk, rfl⟩ := hrel
    by_cases hlt : k < bs.length
    · have hv := hz.out k
      obtain ⟨ad, u, hA, hu, hc⟩ := hr10.reads.at_ hlt
      obtain rfl := Option.some.inj hA
      rw [add_head] at hc
      have hu' : u = .int .u8 (bs.getD k 0) := by simpa [bv, hlt, List.getD] using hu.symm
      by_cases hkn : k < n0
      · rw [hv.1 hkn] at hu'
        subst hu'
        have i1 : (k : Int) < 262144 - r := by omega
        clear hu hv
        go_wp2
        go_round
        case rel => exact ⟨k + 1, by omega, by go_num⟩
        case measure => simp [intOf]; omega
      · rw [hv.2 (by omega) (by omega)] at hu'
        subst hu'
        have i1 : ¬ (k : Int) < 262144 - r := by omega
        clear hu hv
        go_wp2
        go_round
        case rel => exact ⟨k + 1, by omega, by go_num⟩
        case measure => simp [intOf]; omega
    · go_wp2
      go_ret
      refine ⟨rfl, ?_⟩
      have q1 : Chg [] w w4 := ((hc1.next hc2).next hc3).next hc4
      have q5 : Chg [] w w5 := q1.trans hc5 (fun i hi => .inr (by have := hc1.size; have := hS2 i hi; omega))
      have hB5 : ∀ i ∈ S5, w.heap.size ≤ i := fun i hi => by
        have := q1.size; have := hc1.size
        rcases hS5 i hi with h | h
        · have := hS2 i h; omega
        · omega
      have q7 : Chg [] w w7 := (q5.alloc _).trans hc7 (fun i hi => .inr (hB5 i hi))
      have hB7 : ∀ i ∈ S7, w.heap.size ≤ i := fun i hi => by
        rcases hS7 i hi with h | h
        · exact hB5 i h
        · have := (q5.alloc (.cells #[.int .u8 c] 5)).size; omega
      exact ((q7.alloc _).trans hc9 (fun i hi => .inr (hB7 i hi))).next hc10

end Go.Proofs.Ytoaaneejecdglaa
