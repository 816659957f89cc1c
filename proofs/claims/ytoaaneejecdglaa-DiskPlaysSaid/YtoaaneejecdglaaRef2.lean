/-
  PROVED: contracts of package jotterref02: Crash where it answers OK, Append.
-/
import Derived.Test.YtoaaneejecdglaaRef
namespace Go.Proofs.Ytoaaneejecdglaa
open Go.RowKit

theorem RDisk.drew {w : World} {p s : Nat} {S : List Nat} {bs : List Int} (h : RDisk w p S bs s) : RDisk w.drew p S bs s := h

set_option maxHeartbeats 1000000 in
theorem rcrash_ok {w : World} {p s : Nat} {S : List Nat} {bs : List Int} (h : RDisk w p S bs s) (k : Nat) (a : Int) (hk : k ≤ bs.length - s) :
    Calls Try.prog 41 #[.pointer (some ⟨p, 0, none⟩), .int .i64 k, .int .i64 a, .int .i64 0] w fun e w' => e = .returned (.int .i64 0) ∧ RLeft w p S (bs.take (s + k), s + k) w' := by
  obtain ⟨A, cap, rfl, hb, hr, hs, hl⟩ := h
  have c0 := hb.cell 0
  have c1 := hb.cell 1
  have h3 : (0 : Int) ≤ (s : Int) := by omega
  have h4 : (s : Int) ≤ (bs.length : Int) := by omega
  have h5 : ¬ (k : Int) < 0 := by omega
  have h6 : ¬ (bs.length : Int) - s < k := by omega
  have hsk : s + k ≤ bs.length := by omega
  go_enter Try.func41, Try.ntmps41
  go_wp2
  go_quiet (fail)
  have hch0 : Chg (p :: ob A) w (w.drewN nq) := (Chg.refl _ _).drewN nq
  have hb0 := hb.drewN nq
  have hr0 := hr.drewN nq
  have hsz : Hid ((w.drewN nq).heap.size = w.heap.size) := rfl
  have d0 := hb0.cell 0
  have d1 := hb0.cell 1
  clear hb hr c0 c1
  generalize w.drewN nq = w0 at *
  have hp := fun (q : Nat) => part_calls (c := cap) (M := (s : Int) + k) (m := s + k) (hr0.drewN q).reads (by omega) hsk hl
  go_wp2_with fail
  go_region_law (first
    | (go_simp; rw [IntWalk.i64_in ((s : Int) + k) (by omega)]; go_at_call 46; refine (hp _).mono ?_; rintro e w' ⟨rfl, hrow, hch⟩
       have hb1 := (hb0.drewN _).keep hch (by simp)
       have c10 := hb1.cell 0
       have c11 := hb1.cell 1
       have f10 := hb1.frozen 0
       have f11 := hb1.frozen 1))
  all_goals
    go_wp2
    go_ret
    have hc2 := (hch0.drewN _).trans hch (by simp)
    have hrow1 : Row w' 5 1 (some ⟨w0.heap.size, 0, none⟩) (s + k) (s + k) (bv (List.take (s + k) bs)) := hrow
    exact ⟨rfl, _, rdisk_stored hb1 hrow1 (by simp) (Nat.le_refl _) (by omega), (hc2.setCell (.inl (by simp)) _).setCell (.inl (by simp)) _, fresh_or (.inr (by rw [hsz.out]))⟩

set_option maxHeartbeats 1000000 in
theorem rcrash_mask {w : World} {p s : Nat} {S : List Nat} {bs : List Int} (h : RDisk w p S bs s) (k a : Nat) (m : Int) (hk : k ≤ bs.length - s) (ha : a < k) (hm1 : 0 < m) (hm2 : m ≤ 255) :
    Calls Try.prog 41 #[.pointer (some ⟨p, 0, none⟩), .int .i64 k, .int .i64 a, .int .i64 m] w fun e w' => e = .returned (.int .i64 0) ∧ RLeft w p S ((bs.take (s + k)).set (s + a) (masked (bs.getD (s + a) 0) m), s + k) w' := by
  obtain ⟨A, cap, rfl, hb, hr, hs, hl⟩ := h
  have c0 := hb.cell 0
  have c1 := hb.cell 1
  have h3 : (0 : Int) ≤ (s : Int) := by omega
  have h4 : (s : Int) ≤ (bs.length : Int) := by omega
  have h5 : ¬ (k : Int) < 0 := by omega
  have h6 : ¬ (bs.length : Int) - s < k := by omega
  have h7 : (0 : Int) ≤ (a : Int) := by omega
  have h8 : (a : Int) < (k : Int) := by omega
  have hsk : s + k ≤ bs.length := by omega
  have hsa : s + a < s + k := by omega
  have hmb : (m != 0) = true := by rw [bne_iff_ne]; omega
  go_enter Try.func41, Try.ntmps41
  go_wp2
  go_quiet (fail)
  have hch0 : Chg (p :: ob A) w (w.drewN nq) := (Chg.refl _ _).drewN nq
  have hb0 := hb.drewN nq
  have hr0 := hr.drewN nq
  have hsz : Hid ((w.drewN nq).heap.size = w.heap.size) := rfl
  have d0 := hb0.cell 0
  have d1 := hb0.cell 1
  have hpl := hb0.lt
  clear hb hr c0 c1
  generalize w.drewN nq = w0 at *
  have hp := fun (q : Nat) => part_calls (c := cap) (M := (s : Int) + k) (m := s + k) (hr0.drewN q).reads (by omega) hsk hl
  go_wp2_with fail
  go_region_law (first
    | (go_simp; rw [IntWalk.i64_in ((s : Int) + k) (by omega)]; go_at_call 46; refine (hp _).mono ?_; rintro e w' ⟨rfl, hrow, hch⟩
       have hb1 := (hb0.drewN _).keep hch (by simp)
       have c10 := hb1.cell 0
       have c11 := hb1.cell 1
       have f10 := hb1.frozen 0
       have f11 := hb1.frozen 1))
  all_goals
    have hc2 := (hch0.drewN _).trans hch (by simp)
    have hrow1 : Row w' 5 1 (some ⟨w0.heap.size, 0, none⟩) (s + k) (s + k) (bv (List.take (s + k) bs)) := hrow
    obtain ⟨gg, cur, hAg, hbk, _, hcz, hcut⟩ := hrow1.blk (by omega)
    obtain rfl : w0.heap.size = gg := by injection hAg with hAg; injection hAg
    have c12 : w'.cell? ⟨w0.heap.size, s + a, none⟩ = some (.int .u8 (bs.getD (s + a) 0)) := by
      obtain ⟨ad, u, hA, hu, hc⟩ := hrow1.reads.at_ (k := s + a) (by omega)
      obtain rfl := Option.some.inj hA
      rw [add_head] at hc
      rw [hc]
      have e : (bs.take (s + k))[s + a]? = some (bs.getD (s + a) 0) := by
        rw [List.getElem?_take, if_pos (by omega)]
        simp [List.getD, show s + a < bs.length by omega]
      unfold bv at hu
      rw [List.getElem?_map, e] at hu
      exact hu.symm
    have f12 := hbk.frozen (s + a)
    have hpl2 := hbk.lt
    have hn0 : (0 : Int) ≤ (s : Int) + a := by omega
    have hn1 : ((s : Int) + a).toNat = s + a := by omega
    have hwr : IntKind.i64.wrap ((s : Int) + a) = ((s + a : Nat) : Int) := IntWalk.i64_in _ (by omega)
    have hrow' := Lib.hid hrow1
    clear hrow hAg hbk hcut hrow1
    generalize w0.heap.size = g0 at *
    go_wp2
    go_region_law (fail)
    all_goals
      go_wp2
      go_ret
      have hset := hrow'.out.set_ (k := s + a) (by omega) (.int .u8 (bits .xor .u8 (bs.getD (s + a) 0) m))
      have e : (bv (bs.take (s + k))).set (s + a) (.int .u8 (bits .xor .u8 (bs.getD (s + a) 0) m)) = bv ((bs.take (s + k)).set (s + a) (masked (bs.getD (s + a) 0) m)) := by simp [bv, List.map_set, masked]
      rw [e] at hset
      have hb2 := hb1.far (p := ⟨g0, s + a, none⟩) (by simp; omega) (.int .u8 (bits .xor .u8 (bs.getD (s + a) 0) m))
      have hg := hsz.out
      have := rdisk_stored hb2 hset (N := ↑s + ↑k) (s' := s + k) (by simp) (by omega) (by omega)
      refine ⟨rfl, _, by simpa using this.drew, ?_, fresh_or (.inr (by rw [hg]))⟩
      exact (((hc2.setCell (.inr (by simp [hg])) _).setCell (.inl (by simp)) _).setCell (.inl (by simp)) _).drew

theorem rcut_calls {w : World} {p s : Nat} {S : List Nat} {bs : List Int} (h : RDisk w p S bs s) (a : Int) :
    Calls Try.prog 40 #[.pointer (some ⟨p, 0, none⟩), .int .i64 a] w fun e w' => e = .returned (.int .i64 (cutF a bs s).1) ∧ RLeft w p S (cutF a bs s).2 w' := by
  unfold cutF
  by_cases hn : a < 0 ∨ (bs.length : Int) < a
  · rw [if_pos hn]
    refine (rcut_no h a hn).mono fun e w' ⟨he, hw⟩ => ?_
    subst hw
    exact ⟨he, RLeft.same h (Chg.refl _ _)⟩
  · rw [if_neg hn]
    obtain ⟨n, rfl⟩ := Int.eq_ofNat_of_zero_le (show 0 ≤ a by omega)
    rw [Int.toNat_natCast]
    exact rcut_ok h n (by omega)

theorem RDisk.le {w : World} {p s : Nat} {S : List Nat} {bs : List Int} (h : RDisk w p S bs s) : s ≤ bs.length ∧ bs.length ≤ 262144 := by
  obtain ⟨A, cap, rfl, hb, hr, hs, hl⟩ := h
  exact ⟨hs, hl⟩

theorem rcrash_calls {w : World} {p s : Nat} {S : List Nat} {bs : List Int} (h : RDisk w p S bs s) (a b c : Int) :
    Calls Try.prog 41 #[.pointer (some ⟨p, 0, none⟩), .int .i64 a, .int .i64 b, .int .i64 c] w fun e w' => e = .returned (.int .i64 (crashF a b c bs s).1) ∧ RLeft w p S (crashF a b c bs s).2 w' := by
  have hle := h.le
  unfold crashF
  by_cases hk : a < 0 ∨ (bs.length : Int) - s < a
  · rw [if_pos hk]
    exact (rcrash_keep h a b c hk).mono fun e w' ⟨he, q, hw⟩ => ⟨he, by subst hw; exact RLeft.same h ((Chg.refl _ _).drewN _)⟩
  · rw [if_neg hk]
    by_cases hg : c ≠ 0 ∧ (c < 0 ∨ 255 < c ∨ b < 0 ∨ a ≤ b)
    · rw [if_pos hg]
      exact (rcrash_garble h a b c (by omega) (by omega) hg.1 hg.2).mono fun e w' ⟨he, q, hw⟩ => ⟨he, by subst hw; exact RLeft.same h ((Chg.refl _ _).drewN _)⟩
    · rw [if_neg hg]
      obtain ⟨n, rfl⟩ := Int.eq_ofNat_of_zero_le (show 0 ≤ a by omega)
      by_cases hc : c = 0
      · rw [if_pos hc]
        subst hc
        rw [Int.toNat_natCast]
        exact rcrash_ok h n b (by omega)
      · rw [if_neg hc]
        obtain ⟨b, rfl⟩ := Int.eq_ofNat_of_zero_le (show 0 ≤ b by omega)
        rw [Int.toNat_natCast, Int.toNat_natCast]
        exact rcrash_mask h n b c (by omega) (by omega) (by omega) (by omega)

end Go.Proofs.Ytoaaneejecdglaa
