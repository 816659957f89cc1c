/-
  PROVED: contracts of begins, firm and Crash.
-/
import Derived.Test.YtoaaneejecdglaaB
import Derived.Deep.RegionWith
import Derived.Deep.RegionLaw
namespace Go.Proofs.Ytoaaneejecdglaa
open Go.RowKit

theorem bv_take (xs : List Int) (k : Nat) : (bv xs).take (k * 1) = bv (xs.take k) := by simp [bv, List.map_take]
theorem bv_drop (xs : List Int) (k : Nat) : (bv xs).drop (k * 1) = bv (xs.drop k) := by simp [bv, List.map_drop]

theorem begins_calls {w : World} {n c m d : Nat} {A B : Option Addr} {xs ys : List Int} (hx : Reads w 1 A n (bv xs)) (hc : n ≤ c) (hy : Reads w 1 B m (bv ys)) (hm : m ≤ 140737488351232) :
    Calls Try.prog 21 #[.slice A n c, .slice B m d] w fun e w' => e = .returned (.bool (decide (xs.take ys.length = ys))) ∧ ∃ q, w' = w.drewN q := by
  have hxl : xs.length = n := by have := hx.1; rw [bv_length] at this; omega
  have hyl : ys.length = m := by have := hy.1; rw [bv_length] at this; omega
  have HX := Lib.hid hxl
  have HY := Lib.hid hyl
  clear hxl hyl
  by_cases hl : m ≤ n
  · have ht := hx.take hl
    rw [bv_take] at ht
    have h0 : (m : Int) ≤ n := by omega
    go_enter Try.func21, Try.ntmps21
    go_wp2_with ((go_at_call 22; refine (same_calls ht hy hm).mono ?_; rintro e w' ⟨rfl, q, rfl⟩))
    go_ret
    exact ⟨by rw [HY.out]; rfl, _, rfl⟩
  · have h0 : ¬ (m : Int) ≤ n := by omega
    go_enter Try.func21, Try.ntmps21
    go_wp2_with fail
    go_ret
    refine ⟨?_, 0, rfl⟩
    rw [decide_eq_false (fun h => ?_)]
    · rfl
    · have := congrArg List.length h
      rw [List.length_take, HX.out, HY.out] at this
      omega

theorem firm_calls {w : World} {p s cap : Nat} {A : Option Addr} {bs : List Int} (h : DiskAt w p A cap bs s) :
    Calls Try.prog 35 #[.pointer (some ⟨p, 0, none⟩)] w fun e w' => e = .returned (.slice A s s) ∧ ∃ q, w' = w.drewN q := by
  obtain ⟨hb, hr, hs, hl⟩ := h
  have c0 := hb.cell 0
  have c1 := hb.cell 1
  have hcap := hr.le
  have h2 : s ≤ cap := by omega
  have h3 : (0 : Int) ≤ (s : Int) := by omega
  have h4 : (s : Int) ≤ (cap : Int) := by omega
  go_enter Try.func35, Try.ntmps35
  go_wp2
  go_quiet (fail)
  go_wp2
  go_ret
  exact ⟨rfl, _, rfl⟩

theorem crash_keep {w : World} {p s : Nat} {S : List Nat} {bs : List Int} (h : Disk w p S bs s) (k a m : Int) (hk : k < 0 ∨ (bs.length : Int) - s < k) :
    Calls Try.prog 20 #[.pointer (some ⟨p, 0, none⟩), .int .i64 k, .int .i64 a, .int .i64 m] w fun e w' => e = .returned (.int .i64 21) ∧ ∃ q, w' = w.drewN q := by
  obtain ⟨A, cap, rfl, hb, hr, hs, hl⟩ := h
  have c0 := hb.cell 0
  have c1 := hb.cell 1
  have hcap := hr.le
  have h3 : (0 : Int) ≤ (s : Int) := by omega
  have h4 : (s : Int) ≤ (bs.length : Int) := by omega
  rcases hk with hk | hk
  · go_enter Try.func20, Try.ntmps20
    go_wp2
    go_quiet (fail)
    go_wp2_with fail
    all_goals
      go_ret
      exact ⟨rfl, _, rfl⟩
  · have hk0 : 0 < k := by omega
    go_enter Try.func20, Try.ntmps20
    go_wp2
    go_quiet (fail)
    go_wp2_with fail
    all_goals
      go_ret
      exact ⟨rfl, _, rfl⟩


theorem crash_garble {w : World} {p s : Nat} {S : List Nat} {bs : List Int} (h : Disk w p S bs s) (k a m : Int) (hk0 : 0 ≤ k) (hk : k ≤ (bs.length : Int) - s) (hm : m ≠ 0) (hg : m < 0 ∨ 255 < m ∨ a < 0 ∨ k ≤ a) :
    Calls Try.prog 20 #[.pointer (some ⟨p, 0, none⟩), .int .i64 k, .int .i64 a, .int .i64 m] w fun e w' => e = .returned (.int .i64 22) ∧ ∃ q, w' = w.drewN q := by
  obtain ⟨A, cap, rfl, hb, hr, hs, hl⟩ := h
  have c0 := hb.cell 0
  have c1 := hb.cell 1
  have hcap := hr.le
  have h3 : (0 : Int) ≤ (s : Int) := by omega
  have h4 : (s : Int) ≤ (bs.length : Int) := by omega
  obtain ⟨kn, rfl⟩ := Int.eq_ofNat_of_zero_le hk0
  have hkn : kn ≤ bs.length - s := by omega
  have hmb : (m != 0) = true := by rw [bne_iff_ne]; exact hm
  have hmn : Hid (m ≠ 0) := hm
  clear hm
  have hq : (if 0 < kn then (kn : Int) else 0) = kn := by split <;> omega
  rcases (show m < 0 ∨ 255 < m ∨ (0 < m ∧ m ≤ 255 ∧ (a < 0 ∨ (0 ≤ a ∧ (kn : Int) ≤ a))) by have := hmn.out; omega) with hg | hg | ⟨hm1, hm2, hg⟩
  · go_enter Try.func20, Try.ntmps20
    go_wp2
    go_quiet (fail)
    go_wp2_with fail
    all_goals
      go_ret
      exact ⟨rfl, _, rfl⟩
  · have hg0 : 0 < m := by omega
    go_enter Try.func20, Try.ntmps20
    go_wp2
    go_quiet (fail)
    go_wp2_with fail
    all_goals
      go_ret
      exact ⟨rfl, _, rfl⟩
  · rcases hg with hg | ⟨hg0, hg⟩
    all_goals
      go_enter Try.func20, Try.ntmps20
      go_wp2
      go_quiet (fail)
      go_wp2_with fail
      all_goals
        go_ret
        exact ⟨rfl, _, rfl⟩

theorem DiskAt.drewN {w : World} {p s cap : Nat} {A : Option Addr} {bs : List Int} (h : DiskAt w p A cap bs s) (n : Nat) : DiskAt (w.drewN n) p A cap bs s := h
theorem Disk.drewN {w : World} {p s : Nat} {S : List Nat} {bs : List Int} (h : Disk w p S bs s) (n : Nat) : Disk (w.drewN n) p S bs s := h

theorem tail_reads {w : World} {p s cap : Nat} {A : Option Addr} {bs : List Int} (h : DiskAt w p A cap bs s) (k : Nat) (hk : k ≤ bs.length - s) :
    (cap = s ∧ k = 0) ∨ (¬ cap = s ∧ ∃ g, A = some ⟨g, 0, none⟩ ∧ Reads w 1 (some ⟨g, s, none⟩) k (bv ((bs.drop s).take k))) := by
  obtain ⟨hb, hr, hs, hl⟩ := h
  by_cases hc : cap = s
  · left
    have := hr.le
    omega
  · right
    refine ⟨hc, ?_⟩
    have htail := (hr.reads.cut hs hr.le).take hk
    rw [bv_drop, bv_take, if_neg hc] at htail
    rcases hr.2 with ⟨_, h1, h2⟩ | ⟨g, cur, rfl, _⟩
    · omega
    · refine ⟨g, rfl, ?_⟩
      rw [Option.map_some, add_head, Nat.mul_one] at htail
      exact htail

/-- Both cells of the struct stored: the file anew. -/
theorem disk_stored {w1 : World} {p cap' n s' : Nat} {N : Int} {A' : Option Addr} {v0 v1 : Value} {bs' : List Int} (hb1 : Blk w1 p 66 #[v0, v1]) (hrow : Row w1 5 1 A' n cap' (bv bs')) (hN : N = (s' : Int)) (hs : s' ≤ n) (hl : n ≤ 262144) :
    Disk ((w1.setCell ⟨p, 0, none⟩ (.slice A' n cap')).setCell ⟨p, 1, none⟩ (.int .i64 N)) p (p :: ob A') bs' s' := by
  have hn : bs'.length = n := by have := hrow.1; rw [bv_length] at this; omega
  subst hN hn
  refine ⟨A', cap', rfl, ?_, ?_, hs, hl⟩
  · have := (hb1.set_ 0 (.slice A' bs'.length cap')).set_ 1 (.int .i64 s')
    simpa using this
  · refine hrow.keep (S := [p]) (((Chg.refl _ _).setCell (.inl (by simp)) _).setCell (.inl (by simp)) _) (fun i hi hm => ?_)
    simp at hm
    exact hrow.ne_blk hb1 (by decide) i hi hm

theorem fresh_or {w : World} {p : Nat} {A A' : Option Addr} (h : A' = A ∨ A' = some ⟨w.heap.size, 0, none⟩) : ∀ k ∈ p :: ob A', k ∈ p :: ob A ∨ w.heap.size ≤ k := by
  intro k hk
  rcases h with rfl | rfl
  · exact .inl hk
  · simp [ob] at hk
    rcases hk with rfl | rfl
    · simp
    · exact .inr (Nat.le_refl _)

theorem chg_stored {w w1 : World} {p q : Nat} {A : Option Addr} {u v : Value} (hch : Chg (ob A) (w.drewN q) w1) : Chg (p :: ob A) w ((w1.setCell ⟨p, 0, none⟩ u).setCell ⟨p, 1, none⟩ v) :=
  (((((Chg.refl (p :: ob A) w).drewN q).trans hch (fun i hi => .inl (by simp [hi]))).setCell (.inl (by simp)) _).setCell (.inl (by simp)) _)

theorem take_two (bs : List Int) (s k : Nat) : bv (bs.take s) ++ bv ((bs.drop s).take k) = bv (bs.take (s + k)) := by
  rw [List.take_add]
  simp [bv]

set_option maxHeartbeats 1000000 in
theorem crash_ok {w : World} {p s : Nat} {S : List Nat} {bs : List Int} (h : Disk w p S bs s) (k : Nat) (a : Int) (hk : k ≤ bs.length - s) :
    Calls Try.prog 20 #[.pointer (some ⟨p, 0, none⟩), .int .i64 k, .int .i64 a, .int .i64 0] w fun e w' => e = .returned (.int .i64 0) ∧ ∃ S', Disk w' p S' (bs.take (s + k)) (s + k) ∧ Chg S w w' ∧ ∀ k ∈ S', k ∈ S ∨ w.heap.size ≤ k := by
  obtain ⟨A, cap, rfl, hda⟩ := h
  have hda' := hda
  obtain ⟨hb, hr, hs, hl⟩ := hda'
  obtain ⟨i0, hi, hz0, hz1, hz2⟩ := info_parts Try.info5
  have c0 := hb.cell 0
  have c1 := hb.cell 1
  have hcap := hr.le
  have h3 : (0 : Int) ≤ (s : Int) := by omega
  have h4 : (s : Int) ≤ (bs.length : Int) := by omega
  have h5 : s ≤ cap := by omega
  have h6 : k ≤ cap - s := by omega
  have hq : (if 0 < k then (k : Int) else 0) = k := by split <;> omega
  have hfirm := hr.take3 hs
  rw [bv_take] at hfirm
  have HD := Lib.hid hda
  have HF := Lib.hid hfirm
  have HR := Lib.hid hr
  clear hfirm hr
  rcases tail_reads hda k hk with ⟨hcs, hk0⟩ | ⟨hcs, g, rfl, htail⟩
  · subst hk0
    have h7 : bs.length - s ≤ 0 := by omega
    have h8 : ¬ 0 < bs.length - s := by omega
    have hcs' : (cap = s) = True := eq_true hcs
    clear hda hcs
    go_enter Try.func20, Try.ntmps20
    go_wp2
    go_quiet (fail)
    go_wp2_with fail
    go_region_law (first
      | (refine step_append_row _ rfl (.tmp 46) (.tmp 49) 25 rfl 5 i0 (.int .u8 0) 1 1 Try.underlying25 hi hz0 hz1 hz2 rfl A s s (bv (bs.take s)) rfl (HF.out.drewN _) _ 0 (cap - s) [] rfl (Reads.nil _ _ _) (by simp) (by unfold maxLen; omega) (grow_ok (by omega)) ?_
         intro A' cap' w1 hrow hch hcase
         have hb1 := (hb.drewN _).keep hch (fun hm => HR.out.ne_blk hb (by decide) _ hm rfl)
         have c10 := hb1.cell 0
         have c11 := hb1.cell 1
         have f10 := hb1.frozen 0
         have f11 := hb1.frozen 1)
      | (go_simp; go_at_call 35; refine (firm_calls (HD.out.drewN _)).mono ?_; rintro e w' ⟨rfl, q, rfl⟩))
    go_wp2
    go_ret
    rw [List.append_nil] at hrow
    exact ⟨rfl, _, disk_stored hb1 hrow (by simp) (by omega) (by omega), chg_stored hch, fresh_or hcase.at_⟩
  have HT := Lib.hid htail
  clear hda htail
  go_enter Try.func20, Try.ntmps20
  go_wp2
  go_quiet (fail)
  go_wp2_with fail
  go_region_law (first
      | (refine step_append_row _ rfl (.tmp 46) (.tmp 49) 25 rfl 5 i0 (.int .u8 0) 1 1 Try.underlying25 hi hz0 hz1 hz2 rfl (some ⟨g, 0, none⟩) s s (bv (bs.take s)) rfl (HF.out.drewN _) _ k (cap - s) (bv ((bs.drop s).take k)) rfl (HT.out.drewN _) (bv_one _) (by unfold maxLen; omega) (grow_ok (by omega)) ?_
         intro A' cap' w1 hrow hch hcase
         have hb1 := (hb.drewN _).keep hch (fun hm => HR.out.ne_blk hb (by decide) _ hm rfl)
         have c10 := hb1.cell 0
         have c11 := hb1.cell 1
         have f10 := hb1.frozen 0
         have f11 := hb1.frozen 1)
      | (go_simp; go_at_call 35; refine (firm_calls (HD.out.drewN _)).mono ?_; rintro e w' ⟨rfl, q, rfl⟩))
  go_wp2
  go_ret
  rw [take_two] at hrow
  exact ⟨rfl, _, disk_stored hb1 hrow (by simp) (by omega) (by omega), chg_stored hch, fresh_or hcase.at_⟩

/-- The byte that a mask makes of a byte. -/
def masked (x m : Int) : Int := bits .xor .u8 x m

set_option maxHeartbeats 1000000 in
theorem crash_mask {w : World} {p s : Nat} {S : List Nat} {bs : List Int} (h : Disk w p S bs s) (k a : Nat) (m : Int) (hk : k ≤ bs.length - s) (ha : a < k) (hm1 : 0 < m) (hm2 : m ≤ 255) :
    Calls Try.prog 20 #[.pointer (some ⟨p, 0, none⟩), .int .i64 k, .int .i64 a, .int .i64 m] w fun e w' => e = .returned (.int .i64 0) ∧ ∃ S', Disk w' p S' ((bs.take (s + k)).set (s + a) (masked (bs.getD (s + a) 0) m)) (s + k) ∧ Chg S w w' ∧ ∀ k ∈ S', k ∈ S ∨ w.heap.size ≤ k := by
  obtain ⟨A, cap, rfl, hda⟩ := h
  have hda' := hda
  obtain ⟨hb, hr, hs, hl⟩ := hda'
  obtain ⟨i0, hi, hz0, hz1, hz2⟩ := info_parts Try.info5
  have c0 := hb.cell 0
  have c1 := hb.cell 1
  have hcap := hr.le
  have h3 : (0 : Int) ≤ (s : Int) := by omega
  have h4 : (s : Int) ≤ (bs.length : Int) := by omega
  have h5 : s ≤ cap := by omega
  have h6 : k ≤ cap - s := by omega
  have h7 : (0 : Int) ≤ (a : Int) := by omega
  have h8 : (a : Int) < (k : Int) := by omega
  have hq : (if 0 < k then (k : Int) else 0) = k := by split <;> omega
  have hmb : (m != 0) = true := by rw [bne_iff_ne]; omega
  have hfirm := hr.take3 hs
  rw [bv_take] at hfirm
  have HD := Lib.hid hda
  have HF := Lib.hid hfirm
  have HR := Lib.hid hr
  clear hfirm hr
  rcases tail_reads hda k hk with ⟨hcs, hk0⟩ | ⟨hcs, g, rfl, htail⟩
  · omega
  have HT := Lib.hid htail
  clear hda htail
  go_enter Try.func20, Try.ntmps20
  go_wp2
  go_quiet (fail)
  go_wp2_with fail
  go_region_law (first
      | (refine step_append_row _ rfl (.tmp 46) (.tmp 49) 25 rfl 5 i0 (.int .u8 0) 1 1 Try.underlying25 hi hz0 hz1 hz2 rfl (some ⟨g, 0, none⟩) s s (bv (bs.take s)) rfl (HF.out.drewN _) _ k (cap - s) (bv ((bs.drop s).take k)) rfl (HT.out.drewN _) (bv_one _) (by unfold maxLen; omega) (grow_ok (by omega)) ?_
         intro A' cap' w1 hrow hch hcase
         have hb1 := (hb.drewN _).keep hch (fun hm => HR.out.ne_blk hb (by decide) _ hm rfl)
         have hA' : A' = some ⟨w.heap.size, 0, none⟩ := hcase.new (by omega)
         subst hA'
         rw [take_two] at hrow
         obtain ⟨gg, cur, hAg, hbk, _, hcz, hcut⟩ := hrow.blk (by omega)
         obtain rfl : w.heap.size = gg := by injection hAg with hAg; injection hAg
         have hrd := hrow.reads.at_ (k := s + a) (by omega)
         have c12 : w1.cell? ⟨w.heap.size, s + a, none⟩ = some (.int .u8 (bs.getD (s + a) 0)) := by
           obtain ⟨ad, u, hA, hu, hc⟩ := hrd
           obtain rfl := Option.some.inj hA
           rw [add_head] at hc
           rw [hc]
           have e : (bs.take (s + k))[s + a]? = some (bs.getD (s + a) 0) := by
             rw [List.getElem?_take, if_pos (by omega)]
             simp [List.getD, show s + a < bs.length by omega]
           unfold bv at hu
           rw [List.getElem?_map, e] at hu
           exact hu.symm
         have hcap' := hrow.le
         have hpl := hb.lt
         have f12 := hbk.frozen (s + a)
         have hrow' := Lib.hid hrow
         have c10 := hb1.cell 0
         have c11 := hb1.cell 1
         have f10 := hb1.frozen 0
         have f11 := hb1.frozen 1
         clear hrow hAg hbk hcut hrd)
      | (go_simp; go_at_call 35; refine (firm_calls (HD.out.drewN _)).mono ?_; rintro e w' ⟨rfl, q, rfl⟩))
  go_wp2
  go_ret
  have hset := hrow'.out.set_ (k := s + a) (by omega) (.int .u8 (bits .xor .u8 (bs.getD (s + a) 0) m))
  have e : (bv (bs.take (s + k))).set (s + a) (.int .u8 (bits .xor .u8 (bs.getD (s + a) 0) m)) = bv ((bs.take (s + k)).set (s + a) (masked (bs.getD (s + a) 0) m)) := by simp [bv, List.map_set, masked]
  rw [e] at hset
  have hb2 := hb1.far (p := ⟨w.heap.size, s + a, none⟩) (by simp; omega) (.int .u8 (bits .xor .u8 (bs.getD (s + a) 0) m))
  have hch0 : Chg (p :: ob (some ⟨g, 0, none⟩)) w w1 := ((Chg.refl _ w).drewN _).trans hch (fun i hi => .inl (by simp [hi]))
  refine ⟨rfl, _, ?_, ?_, fresh_or (.inr rfl)⟩
  · have := disk_stored hb2 hset (N := ↑s + ↑k) (s' := s + k) (by simp) (by omega) (by omega)
    simpa using this
  · exact ((hch0.setCell (.inr (Nat.le_refl _)) _).setCell (.inl (by simp)) _).setCell (.inl (by simp)) _

end Go.Proofs.Ytoaaneejecdglaa
