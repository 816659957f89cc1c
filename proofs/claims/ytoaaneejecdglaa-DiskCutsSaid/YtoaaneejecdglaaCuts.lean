/-
  PROVED: the walk of DiskCuts: whatever the file, the cut and what is appended, it returns true and turns nothing that was there.
-/
import Derived.Test.YtoaaneejecdglaaYes
import Derived.Deep.RegionWith
import Derived.Deep.RegionLaw
namespace Go.Proofs.Ytoaaneejecdglaa
open Go.RowKit

set_option maxHeartbeats 4000000 in
set_option maxRecDepth 100000 in
theorem cuts_long (A B E : Option Addr) (n c m d e ec : Nat) (k : Int) (w : World) (h : 262144 < n ∨ 262144 < n + m) :
    Calls Try.prog 8 #[.agg #[.slice A n c, .slice B m d, .int .i64 k, .slice E e ec]] w fun e w' => e = .returned (.bool true) ∧ Chg [] w w' := by
  by_cases h1 : 262144 < n
  · have h2 : (262144 : Int) < n := by omega
    clear h h1
    go_enter Try.func8, Try.ntmps8
    go_wp2
    go_quiet (fail)
    go_wp2_with fail
    go_ret
    exact ⟨rfl, ((Chg.refl _ _).alloc _).drewN _⟩
  · have h2 : ¬ (262144 : Int) < n := by omega
    have h3 : (262144 : Int) - n < m := by omega
    clear h h1
    go_enter Try.func8, Try.ntmps8
    go_wp2
    go_quiet (fail)
    go_wp2_with fail
    go_ret
    exact ⟨rfl, ((Chg.refl _ _).alloc _).drewN _⟩

set_option maxHeartbeats 4000000 in
set_option maxRecDepth 100000 in
theorem cuts_no (A B E : Option Addr) (n c m d e ec : Nat) (k : Int) (w : World) (hs ts : List Int) (hx : Reads w 1 A n (bv hs)) (hy : Reads w 1 B m (bv ts)) (h : n + m ≤ 262144) (hk : k < 0 ∨ (n : Int) + m < k) :
    Calls Try.prog 8 #[.agg #[.slice A n c, .slice B m d, .int .i64 k, .slice E e ec]] w fun e w' => e = .returned (.bool true) ∧ Chg [] w w' := by
  have h2 : ¬ (262144 : Int) < n := by omega
  have h3 : ¬ (262144 : Int) - n < m := by omega
  have lx := Lib.hid hx.len
  have ly := Lib.hid hy.len
  have K := Lib.hid hk
  clear hk
  rcases (show k < 0 ∨ (¬ k < 0 ∧ (n : Int) + m < k) by have := K.out; omega) with k1 | ⟨k1, k2⟩
  all_goals
    go_enter Try.func8, Try.ntmps8
    go_wp2
    go_quiet (fail)
    have q0 : Chg [] w ((w.alloc (.cells #[.slice A n c, .slice B m d, .int .i64 k, .slice E e ec] 49)).drewN nq) := ((Chg.refl _ _).alloc _).drewN _
    have hx0 := hx.keep q0 (by simp)
    have hy0 := hy.keep q0 (by simp)
    generalize (w.alloc (.cells #[.slice A n c, .slice B m d, .int .i64 k, .slice E e ec] 49)).drewN nq = w0 at *
    go_wp2_with (first
      | (go_at_call 12; refine (born_calls hx0 (by omega)).mono ?_; rintro e w1 ⟨p, S, rfl, hd1, hc1, hS1⟩)
      | (go_at_call 19; refine (copied_calls (hy0.keep hc1 (by simp)) (by omega)).mono ?_; rintro e w2 ⟨rfl, hr2, hc2⟩)
      | (go_at_call 14; refine (num_calls _ _).mono ?_; rintro e w' ⟨rfl, rfl⟩)
      | (go_at_call 15; refine (append_ok (hd1.keep hc2 (by simp)) hr2.reads (by have := lx.out; omega)).mono ?_; rintro e w3 ⟨rfl, S3, hd3, hc3, hS3⟩))
    have hbs : Hid ((hs ++ ts).length = n + m ∧ bv hs ++ bv ts = bv (hs ++ ts)) := by
      have e1 := lx.out
      have e2 := ly.out
      subst e1 e2
      exact ⟨by simp, by simp [bv]⟩
    have q3 : Chg [] w0 w3 := (hc1.next hc2).trans hc3 (fun i hi => .inr (hS1 i hi))
    have hB3 : ∀ i ∈ S3, w0.heap.size ≤ i := fun i hi => by
      have := (hc1.next hc2).size
      rcases hS3 i hi with h | h
      · exact hS1 i h
      · omega
    clear hc1 hc2 hc3 hS1 hS3 hd1 hr2
    generalize hs ++ ts = bs at *
    have b1 : bs.length ≤ n + m := by have := hbs.out; omega
    have b2 : n + m ≤ bs.length := by have := hbs.out; omega
    have b3 : ((bs.length : Int) == n + m) = true := by simp; omega

    go_wp2_with (first
      | (go_at_call 27; refine (cut_no hd3 _ (by have := K.out; omega)).mono ?_; rintro e w' ⟨rfl, rfl⟩)
      | (go_at_call 14; refine (num_calls _ _).mono ?_; rintro e w' ⟨rfl, rfl⟩)
      | (go_at_call 16; refine (size_calls hd3).mono ?_; rintro e w' ⟨rfl, rfl⟩)
      | (go_at_call 18; refine (synced_calls hd3).mono ?_; rintro e w' ⟨rfl, rfl⟩))
    go_ret
    exact ⟨rfl, q0.next q3⟩

set_option maxHeartbeats 4000000 in
set_option maxRecDepth 100000 in
theorem cuts_full1 (A B E : Option Addr) (n c m d e ec : Nat) (k : Nat) (w : World) (hs ts ms : List Int) (hx : Reads w 1 A n (bv hs)) (hy : Reads w 1 B m (bv ts)) (hz : Reads w 1 E e (bv ms)) (he : e ≤ 140737488351232) (h : n + m ≤ 262144) (hk : k ≤ n + m) (hks : k < n) (hl : 262144 < k + e) :
    Calls Try.prog 8 #[.agg #[.slice A n c, .slice B m d, .int .i64 k, .slice E e ec]] w fun e w' => e = .returned (.bool true) ∧ Chg [] w w' := by
  have h2 : ¬ (262144 : Int) < n := by omega
  have h3 : ¬ (262144 : Int) - n < m := by omega
  have lx := Lib.hid hx.len
  have ly := Lib.hid hy.len
  have k1 : ¬ (k : Int) < 0 := by omega
  have k2 : ¬ (n : Int) + m < k := by omega
  have k3 : Hid (min n k = k) := by unfold Hid; omega
  have k4 : (k : Int) < n := by omega
  obtain ⟨i0, hi, hz0, hz1, hz2⟩ := info_parts Try.info5
  go_enter Try.func8, Try.ntmps8
  go_wp2
  go_quiet (fail)
  have q0 : Chg [] w ((w.alloc (.cells #[.slice A n c, .slice B m d, .int .i64 k, .slice E e ec] 49)).drewN nq) := ((Chg.refl _ _).alloc _).drewN _
  have hx0 := hx.keep q0 (by simp)
  have hy0 := hy.keep q0 (by simp)
  have hm0 := hz.keep q0 (by simp)
  generalize (w.alloc (.cells #[.slice A n c, .slice B m d, .int .i64 k, .slice E e ec] 49)).drewN nq = w0 at *
  go_wp2_with (first
    | (go_at_call 12; refine (born_calls hx0 (by omega)).mono ?_; rintro e w1 ⟨p, S, rfl, hd1, hc1, hS1⟩)
    | (go_at_call 19; refine (copied_calls (hy0.keep hc1 (by simp)) (by omega)).mono ?_; rintro e w2 ⟨rfl, hr2, hc2⟩)
    | (go_at_call 14; refine (num_calls _ _).mono ?_; rintro e w' ⟨rfl, rfl⟩)
    | (go_at_call 15; refine (append_ok (hd1.keep hc2 (by simp)) hr2.reads (by have := lx.out; omega)).mono ?_; rintro e w3 ⟨rfl, S3, hd3, hc3, hS3⟩))
  have hbs : Hid ((hs ++ ts).length = n + m ∧ bv hs ++ bv ts = bv (hs ++ ts)) := by
    have e1 := lx.out
    have e2 := ly.out
    subst e1 e2
    exact ⟨by simp, by simp [bv]⟩
  have q3 : Chg [] w0 w3 := (hc1.next hc2).trans hc3 (fun i hi => .inr (hS1 i hi))
  have hB3 : ∀ i ∈ S3, w0.heap.size ≤ i := fun i hi => by
    have := (hc1.next hc2).size
    rcases hS3 i hi with h | h
    · exact hS1 i h
    · omega
  clear hc1 hc2 hc3 hS1 hS3 hd1 hr2
  generalize hs ++ ts = bs at *
  have b1 : bs.length ≤ n + m := by have := hbs.out; omega
  have b2 : n + m ≤ bs.length := by have := hbs.out; omega
  have b3 : ((bs.length : Int) == n + m) = true := by simp; omega
  have hlk : Hid ((bs.take k).length = k) := by unfold Hid; rw [List.length_take]; omega
  go_wp2_with (first
    | (go_at_call 27; refine (cut_ok hd3 k (by omega)).mono ?_; rintro e' w4 ⟨rfl, hd4, hc4⟩)
    | (go_at_call 14; refine (num_calls _ _).mono ?_; rintro e w' ⟨rfl, rfl⟩))
  rw [k3.out] at hd4
  have q4 : Chg [] w0 w4 := q3.trans hc4 (fun i hi => .inr (hB3 i hi))
  have e1 : (((bs.take k).length : Int) != k) = false := by have := hlk.out; simp [-List.length_take]; omega
  have hcs0 : Hid (bs.take k = bs.take k) := rfl
  generalize hcs : bs.take k = cs at *
  have HCS := Lib.hid hcs
  clear hcs hcs0
  have cl1 : cs.length ≤ k := by have := hlk.out; omega
  have cl2 : k ≤ cs.length := by have := hlk.out; omega
  have cl3 : ((cs.length : Int) == k) = true := by simp; omega
  go_wp2_with (first
    | (go_at_call 16; refine (size_calls hd4).mono ?_; rintro e w' ⟨rfl, rfl⟩)
    | (go_at_call 18; refine (synced_calls hd4).mono ?_; rintro e w' ⟨rfl, rfl⟩)
    | (go_at_call 19; refine (copied_calls (hx0.keep q4 (by simp)) (by omega)).mono ?_; rintro e w5 ⟨rfl, hr5, hc5⟩; have hy5 := (hy0.keep q4 (by simp)).keep hc5 (by simp))
    | (at_builtin; refine wpList_append_row _ rfl (.tmp 102) (.tmp 103) 25 rfl 5 i0 (.int .u8 0) 1 1 Try.underlying25 hi hz0 hz1 hz2 rfl _ n n (bv hs) rfl hr5 _ m d (bv ts) rfl hy5 (bv_one _) (by unfold maxLen; omega) (grow_ok (by omega)) ?_))
  intro A' cap' w6 hrow hc6 hgr
  obtain ⟨g, rfl, hg4⟩ : ∃ g, A' = some ⟨g, 0, none⟩ ∧ w4.heap.size ≤ g := by
    rcases hgr.at_ with hh | hh
    · exact ⟨_, hh, Nat.le_refl _⟩
    · exact ⟨_, hh, hc5.size⟩
  rw [hbs.out.2] at hrow
  have hcap := hrow.le
  have hkc : k ≤ cap' := by omega
  have hlt4 := hd4.lt
  have q6' : Chg [] w4 w6 := hc5.trans hc6 (fun i hi => .inr (by simp [ob] at hi; omega))
  have q6 : Chg [] w0 w6 := q4.next q6'
  have hd6 := hd4.keep q6' (by simp)
  have hB4 : ∀ i ∈ S3, w0.heap.size ≤ i := hB3
  clear hr5 hc5 hc6 hgr hy5 q6' hc4
  go_wp2_with fail
  go_region_law (first
    | (go_simp; go_at_call 17; refine (bytes_calls (w := w6.drew) hd6).mono ?_; rintro e' w7 ⟨rfl, hr7, hc7⟩; have hrow7 := Row.keep (w := w6.drew) hrow hc7 (by simp); have hd7 := Disk.keep (w := w6.drew) hd6 hc7 (by simp); have ht7 := (hrow7.take (k := k) (by omega)).reads)
    | (go_simp; go_at_call 22; rw [bv_take] at ht7; refine (same_yes hr7.reads ht7 (by omega) HCS.out.symm).mono ?_; rintro e' w8 ⟨rfl, q8, rfl⟩))
  have q8' : Chg [] w0 (w7.drewN q8) := ((q6.drew).next hc7).drewN q8
  have hd8 : Disk (w7.drewN q8) p S3 cs k := hd7.drewN q8
  have hrow8 : Row (w7.drewN q8) 5 1 (some ⟨g, 0, none⟩) (n + m) cap' (bv bs) := hrow7.drewN q8
  have hm8 := hm0.keep q8' (by simp)
  clear hr7 ht7 hrow7 hd7 hc7 hd6 hrow q6
  generalize w7.drewN q8 = w9 at *
  have l1 : (262144 : Int) - k < e := by omega
  go_wp2_with (first
    | (go_at_call 19; refine (copied_calls hm8 he).mono ?_; rintro e' w10 ⟨rfl, hr10, hc10⟩)
    | (go_at_call 15; refine (append_full (hd8.keep hc10 (by simp)) (by omega)).mono ?_; rintro e' w' ⟨rfl, rfl⟩)
    | (go_at_call 14; refine (num_calls _ _).mono ?_; rintro e' w' ⟨rfl, rfl⟩)
    | (go_at_call 16; refine (size_calls (hd8.keep hc10 (by simp))).mono ?_; rintro e' w' ⟨rfl, rfl⟩))
  go_ret
  exact ⟨rfl, (q0.next q8').next hc10⟩

set_option maxHeartbeats 4000000 in
set_option maxRecDepth 100000 in
theorem cuts_full2 (A B E : Option Addr) (n c m d e ec : Nat) (k : Nat) (w : World) (hs ts ms : List Int) (hx : Reads w 1 A n (bv hs)) (hy : Reads w 1 B m (bv ts)) (hz : Reads w 1 E e (bv ms)) (he : e ≤ 140737488351232) (h : n + m ≤ 262144) (hk : k ≤ n + m) (hks : n ≤ k) (hl : 262144 < k + e) :
    Calls Try.prog 8 #[.agg #[.slice A n c, .slice B m d, .int .i64 k, .slice E e ec]] w fun e w' => e = .returned (.bool true) ∧ Chg [] w w' := by
  have h2 : ¬ (262144 : Int) < n := by omega
  have h3 : ¬ (262144 : Int) - n < m := by omega
  have lx := Lib.hid hx.len
  have ly := Lib.hid hy.len
  have k1 : ¬ (k : Int) < 0 := by omega
  have k2 : ¬ (n : Int) + m < k := by omega
  have k3 : Hid (min n k = n) := by unfold Hid; omega
  have k4 : ¬ (k : Int) < n := by omega
  obtain ⟨i0, hi, hz0, hz1, hz2⟩ := info_parts Try.info5
  go_enter Try.func8, Try.ntmps8
  go_wp2
  go_quiet (fail)
  have q0 : Chg [] w ((w.alloc (.cells #[.slice A n c, .slice B m d, .int .i64 k, .slice E e ec] 49)).drewN nq) := ((Chg.refl _ _).alloc _).drewN _
  have hx0 := hx.keep q0 (by simp)
  have hy0 := hy.keep q0 (by simp)
  have hm0 := hz.keep q0 (by simp)
  generalize (w.alloc (.cells #[.slice A n c, .slice B m d, .int .i64 k, .slice E e ec] 49)).drewN nq = w0 at *
  go_wp2_with (first
    | (go_at_call 12; refine (born_calls hx0 (by omega)).mono ?_; rintro e w1 ⟨p, S, rfl, hd1, hc1, hS1⟩)
    | (go_at_call 19; refine (copied_calls (hy0.keep hc1 (by simp)) (by omega)).mono ?_; rintro e w2 ⟨rfl, hr2, hc2⟩)
    | (go_at_call 14; refine (num_calls _ _).mono ?_; rintro e w' ⟨rfl, rfl⟩)
    | (go_at_call 15; refine (append_ok (hd1.keep hc2 (by simp)) hr2.reads (by have := lx.out; omega)).mono ?_; rintro e w3 ⟨rfl, S3, hd3, hc3, hS3⟩))
  have hbs : Hid ((hs ++ ts).length = n + m ∧ bv hs ++ bv ts = bv (hs ++ ts)) := by
    have e1 := lx.out
    have e2 := ly.out
    subst e1 e2
    exact ⟨by simp, by simp [bv]⟩
  have q3 : Chg [] w0 w3 := (hc1.next hc2).trans hc3 (fun i hi => .inr (hS1 i hi))
  have hB3 : ∀ i ∈ S3, w0.heap.size ≤ i := fun i hi => by
    have := (hc1.next hc2).size
    rcases hS3 i hi with h | h
    · exact hS1 i h
    · omega
  clear hc1 hc2 hc3 hS1 hS3 hd1 hr2
  generalize hs ++ ts = bs at *
  have b1 : bs.length ≤ n + m := by have := hbs.out; omega
  have b2 : n + m ≤ bs.length := by have := hbs.out; omega
  have b3 : ((bs.length : Int) == n + m) = true := by simp; omega
  have hlk : Hid ((bs.take k).length = k) := by unfold Hid; rw [List.length_take]; omega
  go_wp2_with (first
    | (go_at_call 27; refine (cut_ok hd3 k (by omega)).mono ?_; rintro e' w4 ⟨rfl, hd4, hc4⟩)
    | (go_at_call 14; refine (num_calls _ _).mono ?_; rintro e w' ⟨rfl, rfl⟩))
  rw [k3.out] at hd4
  have q4 : Chg [] w0 w4 := q3.trans hc4 (fun i hi => .inr (hB3 i hi))
  have e1 : (((bs.take k).length : Int) != k) = false := by have := hlk.out; simp [-List.length_take]; omega
  have hcs0 : Hid (bs.take k = bs.take k) := rfl
  generalize hcs : bs.take k = cs at *
  have HCS := Lib.hid hcs
  clear hcs hcs0
  have cl1 : cs.length ≤ k := by have := hlk.out; omega
  have cl2 : k ≤ cs.length := by have := hlk.out; omega
  have cl3 : ((cs.length : Int) == k) = true := by simp; omega
  go_wp2_with (first
    | (go_at_call 16; refine (size_calls hd4).mono ?_; rintro e w' ⟨rfl, rfl⟩)
    | (go_at_call 18; refine (synced_calls hd4).mono ?_; rintro e w' ⟨rfl, rfl⟩)
    | (go_at_call 19; refine (copied_calls (hx0.keep q4 (by simp)) (by omega)).mono ?_; rintro e w5 ⟨rfl, hr5, hc5⟩; have hy5 := (hy0.keep q4 (by simp)).keep hc5 (by simp))
    | (at_builtin; refine wpList_append_row _ rfl (.tmp 102) (.tmp 103) 25 rfl 5 i0 (.int .u8 0) 1 1 Try.underlying25 hi hz0 hz1 hz2 rfl _ n n (bv hs) rfl hr5 _ m d (bv ts) rfl hy5 (bv_one _) (by unfold maxLen; omega) (grow_ok (by omega)) ?_))
  intro A' cap' w6 hrow hc6 hgr
  obtain ⟨g, rfl, hg4⟩ : ∃ g, A' = some ⟨g, 0, none⟩ ∧ w4.heap.size ≤ g := by
    rcases hgr.at_ with hh | hh
    · exact ⟨_, hh, Nat.le_refl _⟩
    · exact ⟨_, hh, hc5.size⟩
  rw [hbs.out.2] at hrow
  have hcap := hrow.le
  have hkc : k ≤ cap' := by omega
  have hnc : n ≤ cap' := by omega
  have hlt4 := hd4.lt
  have q6' : Chg [] w4 w6 := hc5.trans hc6 (fun i hi => .inr (by simp [ob] at hi; omega))
  have q6 : Chg [] w0 w6 := q4.next q6'
  have hd6 := hd4.keep q6' (by simp)
  have hB4 : ∀ i ∈ S3, w0.heap.size ≤ i := hB3
  clear hr5 hc5 hc6 hgr hy5 q6' hc4
  go_wp2_with fail
  go_region_law (first
    | (go_simp; go_at_call 17; refine (bytes_calls (w := w6.drew) hd6).mono ?_; rintro e' w7 ⟨rfl, hr7, hc7⟩; have hrow7 := Row.keep (w := w6.drew) hrow hc7 (by simp); have hd7 := Disk.keep (w := w6.drew) hd6 hc7 (by simp); have ht7 := (hrow7.take (k := k) (by omega)).reads)
    | (go_simp; go_at_call 22; rw [bv_take] at ht7; refine (same_yes hr7.reads ht7 (by omega) HCS.out.symm).mono ?_; rintro e' w8 ⟨rfl, q8, rfl⟩))
  have q8' : Chg [] w0 (w7.drewN q8) := ((q6.drew).next hc7).drewN q8
  have hd8 : Disk (w7.drewN q8) p S3 cs n := hd7.drewN q8
  have hrow8 : Row (w7.drewN q8) 5 1 (some ⟨g, 0, none⟩) (n + m) cap' (bv bs) := hrow7.drewN q8
  have hm8 := hm0.keep q8' (by simp)
  clear hr7 ht7 hrow7 hd7 hc7 hd6 hrow q6
  generalize w7.drewN q8 = w9 at *
  have l1 : (262144 : Int) - k < e := by omega
  go_wp2_with (first
    | (go_at_call 19; refine (copied_calls hm8 he).mono ?_; rintro e' w10 ⟨rfl, hr10, hc10⟩)
    | (go_at_call 15; refine (append_full (hd8.keep hc10 (by simp)) (by omega)).mono ?_; rintro e' w' ⟨rfl, rfl⟩)
    | (go_at_call 14; refine (num_calls _ _).mono ?_; rintro e' w' ⟨rfl, rfl⟩)
    | (go_at_call 16; refine (size_calls (hd8.keep hc10 (by simp))).mono ?_; rintro e' w' ⟨rfl, rfl⟩))
  go_ret
  exact ⟨rfl, (q0.next q8').next hc10⟩

end Go.Proofs.Ytoaaneejecdglaa
