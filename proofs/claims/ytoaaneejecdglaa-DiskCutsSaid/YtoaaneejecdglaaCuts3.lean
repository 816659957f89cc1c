/-
  PROVED: the walk of DiskCuts where all is taken behind the synced bytes: whatever the file, the cut and what is appended, it returns true and turns nothing that was there.
-/
import Derived.Test.YtoaaneejecdglaaCuts2
import Derived.Deep.RegionWith
import Derived.Deep.RegionLaw
namespace Go.Proofs.Ytoaaneejecdglaa
open Go.RowKit

set_option maxHeartbeats 4000000 in
set_option maxRecDepth 100000 in
theorem cuts_in2 (A B E : Option Addr) (n c m d e ec : Nat) (k : Nat) (w : World) (hs ts ms : List Int) (hx : Reads w 1 A n (bv hs)) (hy : Reads w 1 B m (bv ts)) (hz : Reads w 1 E e (bv ms)) (he : e ≤ 140737488351232) (h : n + m ≤ 262144) (hk : k ≤ n + m) (hks : n ≤ k) (hl : k + e ≤ 262144) :
    Calls Try.prog 8 #[.agg #[.slice A n c, .slice B m d, .int .i64 k, .slice E e ec]] w fun e w' => e = .returned (.bool true) ∧ Chg [] w w' := by
  have h2 : ¬ (262144 : Int) < n := by omega
  have h3 : ¬ (262144 : Int) - n < m := by omega
  have lx := Lib.hid hx.len
  have ly := Lib.hid hy.len
  have k1 : ¬ (k : Int) < 0 := by omega
  have k2 : ¬ (n : Int) + m < k := by omega
  have k3 : Hid (min n k = n) := by unfold Hid; omega
  have k4 : ¬ (k : Int) < n := by omega
  obtain ⟨i0, hi, hz0, hz1, hz2⟩ := info_parts Try.info5
  go_enter Try.func8, Try.ntmps8
  go_wp2
  go_quiet (fail)
  have q0 : Chg [] w ((w.alloc (.cells #[.slice A n c, .slice B m d, .int .i64 k, .slice E e ec] 49)).drewN nq) := ((Chg.refl _ _).alloc _).drewN _
  have hx0 := hx.keep q0 (by simp)
  have hy0 := hy.keep q0 (by simp)
  have hm0 := hz.keep q0 (by simp)
  generalize (w.alloc (.cells #[.slice A n c, .slice B m d, .int .i64 k, .slice E e ec] 49)).drewN nq = w0 at *
  go_wp2_with (first
    | (go_at_call 12; refine (born_calls hx0 (by omega)).mono ?_; rintro e w1 ⟨p, S, rfl, hd1, hc1, hS1⟩)
    | (go_at_call 19; refine (copied_calls (hy0.keep hc1 (by simp)) (by omega)).mono ?_; rintro e w2 ⟨rfl, hr2, hc2⟩)
    | (go_at_call 14; refine (num_calls _ _).mono ?_; rintro e w' ⟨rfl, rfl⟩)
    | (go_at_call 15; refine (append_ok (hd1.keep hc2 (by simp)) hr2.reads (by have := lx.out; omega)).mono ?_; rintro e w3 ⟨rfl, S3, hd3, hc3, hS3⟩))
  have hbs : Hid ((hs ++ ts).length = n + m ∧ bv hs ++ bv ts = bv (hs ++ ts)) := by
    have e1 := lx.out
    have e2 := ly.out
    subst e1 e2
    exact ⟨by simp, by simp [bv]⟩
  have q3 : Chg [] w0 w3 := (hc1.next hc2).trans hc3 (fun i hi => .inr (hS1 i hi))
  have hB3 : ∀ i ∈ S3, w0.heap.size ≤ i := fun i hi => by
    have := (hc1.next hc2).size
    rcases hS3 i hi with h | h
    · exact hS1 i h
    · omega
  clear hc1 hc2 hc3 hS1 hS3 hd1 hr2
  generalize hs ++ ts = bs at *
  have b1 : bs.length ≤ n + m := by have := hbs.out; omega
  have b2 : n + m ≤ bs.length := by have := hbs.out; omega
  have b3 : ((bs.length : Int) == n + m) = true := by simp; omega
  have hlk : Hid ((bs.take k).length = k) := by unfold Hid; rw [List.length_take]; omega
  go_wp2_with (first
    | (go_at_call 27; refine (cut_ok hd3 k (by omega)).mono ?_; rintro e' w4 ⟨rfl, hd4, hc4⟩)
    | (go_at_call 14; refine (num_calls _ _).mono ?_; rintro e w' ⟨rfl, rfl⟩))
  rw [k3.out] at hd4
  have q4 : Chg [] w0 w4 := q3.trans hc4 (fun i hi => .inr (hB3 i hi))
  have e1 : (((bs.take k).length : Int) != k) = false := by have := hlk.out; simp [-List.length_take]; omega
  have hcs0 : Hid (bs.take k = bs.take k) := rfl
  generalize hcs : bs.take k = cs at *
  have HCS := Lib.hid hcs
  clear hcs hcs0
  have cl1 : cs.length ≤ k := by have := hlk.out; omega
  have cl2 : k ≤ cs.length := by have := hlk.out; omega
  have cl3 : ((cs.length : Int) == k) = true := by simp; omega
  go_wp2_with (first
    | (go_at_call 16; refine (size_calls hd4).mono ?_; rintro e w' ⟨rfl, rfl⟩)
    | (go_at_call 18; refine (synced_calls hd4).mono ?_; rintro e w' ⟨rfl, rfl⟩)
    | (go_at_call 19; refine (copied_calls (hx0.keep q4 (by simp)) (by omega)).mono ?_; rintro e w5 ⟨rfl, hr5, hc5⟩; have hy5 := (hy0.keep q4 (by simp)).keep hc5 (by simp))
    | (at_builtin; refine wpList_append_row _ rfl (.tmp 102) (.tmp 103) 25 rfl 5 i0 (.int .u8 0) 1 1 Try.underlying25 hi hz0 hz1 hz2 rfl _ n n (bv hs) rfl hr5 _ m d (bv ts) rfl hy5 (bv_one _) (by unfold maxLen; omega) (grow_ok (by omega)) ?_))
  intro A' cap' w6 hrow hc6 hgr
  obtain ⟨g, rfl, hg4⟩ : ∃ g, A' = some ⟨g, 0, none⟩ ∧ w4.heap.size ≤ g := by
    rcases hgr.at_ with hh | hh
    · exact ⟨_, hh, Nat.le_refl _⟩
    · exact ⟨_, hh, hc5.size⟩
  rw [hbs.out.2] at hrow
  have hcap := hrow.le
  have hkc : k ≤ cap' := by omega
  have hnc : n ≤ cap' := by omega
  have hlt4 := hd4.lt
  have q6' : Chg [] w4 w6 := hc5.trans hc6 (fun i hi => .inr (by simp [ob] at hi; omega))
  have q6 : Chg [] w0 w6 := q4.next q6'
  have hd6 := hd4.keep q6' (by simp)
  have hB4 : ∀ i ∈ S3, w0.heap.size ≤ i := hB3
  clear hr5 hc5 hc6 hgr hy5 q6' hc4
  go_wp2_with fail
  go_region_law (first
    | (go_simp; go_at_call 17; refine (bytes_calls (w := w6.drew) hd6).mono ?_; rintro e' w7 ⟨rfl, hr7, hc7⟩; have hrow7 := Row.keep (w := w6.drew) hrow hc7 (by simp); have hd7 := Disk.keep (w := w6.drew) hd6 hc7 (by simp); have ht7 := (hrow7.take (k := k) (by omega)).reads)
    | (go_simp; go_at_call 22; rw [bv_take] at ht7; refine (same_yes hr7.reads ht7 (by omega) HCS.out.symm).mono ?_; rintro e' w8 ⟨rfl, q8, rfl⟩))
  have q8' : Chg [] w0 (w7.drewN q8) := ((q6.drew).next hc7).drewN q8
  have hd8 : Disk (w7.drewN q8) p S3 cs n := hd7.drewN q8
  have hrow8 : Row (w7.drewN q8) 5 1 (some ⟨g, 0, none⟩) (n + m) cap' (bv bs) := hrow7.drewN q8
  have hm8 := hm0.keep q8' (by simp)
  clear hr7 ht7 hrow7 hd7 hc7 hd6 hrow q6
  generalize w7.drewN q8 = w9 at *
  have l1 : ¬ (262144 : Int) - k < e := by omega
  go_wp2_with (first
    | (go_at_call 19; refine (copied_calls hm8 he).mono ?_; rintro e' w10 ⟨rfl, hr10, hc10⟩)
    | (go_at_call 15; refine (append_ok (hd8.keep hc10 (by simp)) hr10.reads (by omega)).mono ?_; rintro e' w11 ⟨rfl, S11, hd11, hc11, hS11⟩)
    | (go_at_call 14; refine (num_calls _ _).mono ?_; rintro e' w' ⟨rfl, rfl⟩))
  obtain ⟨ds, hds⟩ : ∃ ds, bs.take n = ds := ⟨_, rfl⟩
  have hz11 : Hid ((cs ++ ms).take k = cs ∧ (cs ++ ms).drop k = ms ∧ (cs ++ ms).take (n + 0) = ds ∧ (cs ++ ms).length = k + e ∧ bs.take k = cs ∧ bs.take n = ds) := by
    have z1 := hlk.out
    have z2 := hm8.len
    have z3 := HCS.out
    refine ⟨by rw [← z1]; simp, by rw [← z1]; simp, ?_, by rw [List.length_append]; omega, z3, hds⟩
    rw [Nat.add_zero, List.take_append_of_le_length (by omega), ← z3, List.take_take, Nat.min_eq_left (by omega), hds]
  clear hds
  have hlt8 := hd8.lt
  have hgS : ∀ i ∈ ob (some (⟨g, 0, none⟩ : Addr)), i ∉ S3 := fun i hi hm => by simp [ob] at hi; subst hi; have := hlt4 _ hm; omega
  have hrow11 := (hrow8.keep hc10 (by simp)).keep hc11 hgS
  have q11 : Chg [] w0 w11 := (q8'.next hc10).trans hc11 (fun i hi => .inr (hB4 i hi))
  have hS11w : ∀ i ∈ S11, w0.heap.size ≤ i := fun i hi => by
    rcases hS11 i hi with hh | hh
    · exact hB4 i hh
    · have := (q8'.next hc10).size; omega
  have hm11 := hm0.keep q11 (by simp)
  have hgS11 : g ∉ S11 := fun hm => by
    rcases hS11 g hm with hh | hh
    · exact hgS g (by simp [ob]) hh
    · have := hrow8.lt g (by simp [ob])
      have := hc10.size
      omega
  clear hm8 hrow8 hc10 hc11 hd8 hr10 hS11 hm0
  generalize cs ++ ms = zs at *
  have zl1 : zs.length ≤ k + e := by have := hz11.out; omega
  have zl2 : k + e ≤ zs.length := by have := hz11.out; omega
  refine (bytes_calls hd11).mono ?_
  rintro e' w12 ⟨rfl, hr12, hc12⟩
  have hd12 := hd11.keep hc12 (by simp)
  have hrow12 := hrow11.keep hc12 (by simp)
  have hm12 := hm11.keep hc12 (by simp)
  have hall := (hrow12.take (k := k) (by omega)).reads
  rw [bv_take, hz11.out.2.2.2.2.1] at hall
  have hcut := hr12.from_ (k := k) (by omega)
  go_wp2_with (first
    | (go_at_call 21; refine (begins_yes hr12.reads (Nat.le_refl _) hall (by omega) (by rw [hlk.out]; exact hz11.out.1)).mono ?_; rintro e' w13 ⟨rfl, q13, rfl⟩)
    | (go_at_call 22; refine (same_yes (hcut.drewN q13) (hm12.drewN q13) (by omega) hz11.out.2.1).mono ?_; rintro e' w14 ⟨rfl, q14, rfl⟩)
    | (go_at_call 18; refine (synced_calls (hd12.drewN _)).mono ?_; rintro e' w' ⟨rfl, rfl⟩))
  all_goals
    go_region_law (first
      | (go_simp; go_at_call 20; refine (crash_ok (hd12.drewN _) 0 0 (Nat.zero_le _)).mono ?_; rintro e' w15 ⟨rfl, S15, hd15, hc15, hS15⟩; rw [hz11.out.2.2.1] at hd15; have hrow15 := Row.keep (w := _) (by exact hrow12) hc15 (fun i hi hm => by simp [ob] at hi; subst hi; exact hgS11 hm); have q15 : Chg S11 w12 w15 := ⟨hc15.os, hc15.tape, hc15.output, hc15.size, hc15.block⟩)
      | (go_simp; go_at_call 14; refine (num_calls _ _).mono ?_; rintro e' w' ⟨rfl, rfl⟩)
      | (go_simp; go_at_call 17; refine (bytes_calls hd15).mono ?_; rintro e' w16 ⟨rfl, hr16, hc16⟩; have ht16 := ((hrow15.keep hc16 (by simp)).take (k := n) (by omega)).reads)
      | (go_simp; go_at_call 22; rw [bv_take, hz11.out.2.2.2.2.2] at ht16; refine (same_yes hr16.reads ht16 (by have := hd15.le; omega) rfl).mono ?_; rintro e' w17 ⟨rfl, q17, rfl⟩))
    go_wp2
    go_ret
    exact ⟨rfl, (((q0.next (q11.next hc12)).trans q15 (fun i hi => .inr (by have := hS11w i hi; have := q0.size; omega))).next hc16).drewN q17⟩

end Go.Proofs.Ytoaaneejecdglaa
