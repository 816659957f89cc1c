/-
  PROVED: contracts of package jotterref02: New, Size, Synced, Sync, part.
-/
import Derived.Test.YtoaaneejecdglaaAct
namespace Go.Proofs.Ytoaaneejecdglaa
open Go.RowKit

def RDiskAt (w : World) (p : Nat) (A : Option Addr) (cap : Nat) (bs : List Int) (s : Nat) : Prop :=
  Blk w p 76 #[.slice A bs.length cap, .int .i64 s] ∧ Row w 5 1 A bs.length cap (bv bs) ∧ s ≤ bs.length ∧ bs.length ≤ 262144

/-- A file of the document's behind the pointer to block p. -/
def RDisk (w : World) (p : Nat) (S : List Nat) (bs : List Int) (s : Nat) : Prop := ∃ A cap, S = p :: ob A ∧ RDiskAt w p A cap bs s
theorem RDisk.keep {w w' : World} {p s : Nat} {S T : List Nat} {bs : List Int} (h : RDisk w p S bs s) (hc : Chg T w w') (hS : ∀ i ∈ S, i ∉ T) : RDisk w' p S bs s := by
  obtain ⟨A, cap, rfl, hb, hr, hs, hl⟩ := h
  exact ⟨A, cap, rfl, hb.keep hc (hS p (by simp)), hr.keep hc (fun i hi => hS i (by simp [hi])), hs, hl⟩
theorem RDisk.lt {w : World} {p s : Nat} {S : List Nat} {bs : List Int} (h : RDisk w p S bs s) : ∀ i ∈ S, i < w.heap.size := by
  obtain ⟨A, cap, rfl, hb, hr, hs, hl⟩ := h
  intro i hi
  rcases List.mem_cons.1 hi with rfl | hi
  · exact hb.lt
  · exact hr.lt i hi
theorem RDisk.drewN {w : World} {p s : Nat} {S : List Nat} {bs : List Int} (h : RDisk w p S bs s) (n : Nat) : RDisk (w.drewN n) p S bs s := h

/-- What each call leaves of a file of the document's. -/
def RLeft (w : World) (p : Nat) (S : List Nat) (r : List Int × Nat) (w' : World) : Prop :=
  ∃ S', RDisk w' p S' r.1 r.2 ∧ Chg S w w' ∧ ∀ k ∈ S', k ∈ S ∨ w.heap.size ≤ k
theorem RLeft.same {w w' : World} {p s : Nat} {S : List Nat} {bs : List Int} (h : RDisk w p S bs s) (hc : Chg [] w w') : RLeft w p S (bs, s) w' :=
  ⟨S, h.keep hc (by simp), hc.mono (by simp), fun k hk => .inl hk⟩

theorem rnew_calls (w : World) : Calls Try.prog 36 #[] w fun e w' => e = .returned (.pointer (some ⟨w.heap.size, 0, none⟩)) ∧ RDisk w' w.heap.size [w.heap.size] [] 0 ∧ Chg [] w w' := by
  go_enter Try.func36, Try.ntmps36
  go_wp2
  go_ret
  exact ⟨rfl, ⟨none, 0, rfl, Blk.new _ _ _, Row.nil _ _ _, by simp, by simp⟩, (Chg.refl _ _).alloc _⟩

theorem rsize_calls {w : World} {p s : Nat} {S : List Nat} {bs : List Int} (h : RDisk w p S bs s) :
    Calls Try.prog 42 #[.pointer (some ⟨p, 0, none⟩)] w fun e w' => e = .returned (.int .i64 bs.length) ∧ w = w' := by
  obtain ⟨A, cap, rfl, hb, hr, hs, hl⟩ := h
  have c0 := hb.cell 0
  go_enter Try.func42, Try.ntmps42
  go_wp2
  go_ret
  exact ⟨rfl, rfl⟩

theorem rsynced_calls {w : World} {p s : Nat} {S : List Nat} {bs : List Int} (h : RDisk w p S bs s) :
    Calls Try.prog 43 #[.pointer (some ⟨p, 0, none⟩)] w fun e w' => e = .returned (.int .i64 s) ∧ w = w' := by
  obtain ⟨A, cap, rfl, hb, hr, hs, hl⟩ := h
  have c0 := hb.cell 1
  go_enter Try.func43, Try.ntmps43
  go_wp2
  go_ret
  exact ⟨rfl, rfl⟩

theorem rsync_calls {w : World} {p s : Nat} {S : List Nat} {bs : List Int} (h : RDisk w p S bs s) :
    Calls Try.prog 39 #[.pointer (some ⟨p, 0, none⟩)] w fun e w' => e = .returned (.int .i64 ((bs.length : Int) - s)) ∧ RDisk w' p S bs bs.length ∧ Chg S w w' := by
  obtain ⟨A, cap, rfl, hb, hr, hs, hl⟩ := h
  have c0 := hb.cell 0
  have c1 := hb.cell 1
  have f1 := hb.frozen 1
  go_enter Try.func39, Try.ntmps39
  go_wp2
  go_quiet (fail)
  go_wp2
  go_ret
  refine ⟨rfl, ⟨A, cap, rfl, ?_, hr.keep (S := [p]) (((Chg.refl _ _).drewN _).setCell (.inl (by simp)) _) (fun i hi hm => ?_), Nat.le_refl _, hl⟩, ((Chg.refl _ _).drewN _).setCell (.inl (by simp)) _⟩
  · exact (hb.drewN nq).set_ 1 _
  · simp at hm; exact hr.ne_blk hb (by decide) i hi hm

theorem one_reads (w : World) (u : Value) : Reads (w.alloc (.cells #[u] 5)) 1 (some ⟨w.heap.size, 0, none⟩) 1 [u] := by
  refine ⟨by simp, fun _ => ⟨_, rfl, fun j v hv => ?_⟩⟩
  rw [add_head, (Blk.new w 5 #[u]).cell]
  rcases j with _ | j
  · simpa using hv
  · simp at hv

theorem bv_succ (ys : List Int) (k : Nat) (hk : k < ys.length) : bv (ys.take k) ++ [.int .u8 ys[k]] = bv (ys.take (k + 1)) := by
  rw [List.take_succ_eq_append_getElem hk]
  unfold bv
  rw [List.map_append]
  rfl

theorem part_calls {w : World} {n c m : Nat} {M : Int} {B : Option Addr} {ys : List Int} (hy : Reads w 1 B n (bv ys)) (hM : M = (m : Int)) (hm : m ≤ n) (hn : n ≤ 262144) :
    Calls Try.prog 46 #[.slice B n c, .int .i64 0, .int .i64 M] w fun e w' => e = .returned (.slice (some ⟨w.heap.size, 0, none⟩) m m) ∧ Row w' 5 1 (some ⟨w.heap.size, 0, none⟩) m m (bv (ys.take m)) ∧ Chg [] w w' := by
  obtain ⟨i0, hi, hz0, hz1, hz2⟩ := info_parts Try.info5
  subst hM
  have hyl := Lib.hid hy.len
  have HY := Lib.hid hy
  clear hy
  go_enter Try.func46, Try.ntmps46
  go_wp2_with (at_make; refine wpList_make_row _ rfl (.const (.int .i64 0)) (.tmp 11) 25 rfl 5 i0 (.int .u8 0) 1 1 Try.underlying25 hi hz0 hz1 hz2 .i64 .i64 _ _ 0 m rfl rfl rfl (by omega) (Nat.zero_le _) (by omega) (by unfold maxLen; omega) ?_)
  intro w1 hrow hch hsz
  have hrow' : Row w1 5 1 (some ⟨w.heap.size, 0, none⟩) 0 m (bv (ys.take 0)) := by simpa [bv] using hrow
  clear hrow
  go_wp2
  go_loopw [7, 8] (fun l i wr => ∃ k : Nat, k ≤ m ∧ i = .int .i64 k ∧ l = .slice (some ⟨w.heap.size, 0, none⟩) k m ∧ Row wr 5 1 (some ⟨w.heap.size, 0, none⟩) k m (bv (ys.take k)) ∧ Chg [] w wr) (fun _ i _ => m - (intOf i).toNat)
  case atStart => exact ⟨0, Nat.zero_le _, rfl, rfl, hrow', hch⟩
  case round =>
    obtain ⟨k, hk, rfl, rfl, hrow, hcw⟩ := hrel
    by_cases hlt : k < m
    · have hky : k < ys.length := by have := hyl.out; omega
      have hkn : k < n := by omega
      obtain ⟨ad, u, rfl, hu, hc⟩ := (HY.out.keep hcw (by simp)).at_ hkn
      have hu' : u = .int .u8 ys[k] := by simpa [bv, hky] using hu.symm
      subst hu'
      have hs := bv_succ ys k hky
      generalize ys[k] = b at *
      have hr1 := one_reads wr (.int .u8 b)
      have hrow1 := hrow.alloc (.cells #[.int .u8 b] 5)
      have hc1 := (Chg.refl [] wr).alloc (.cells #[.int .u8 b] 5)
      generalize hys : bv (ys.take k) = xs at *
      clear hu
      have HS := Lib.hid hs
      have HYS := Lib.hid hys
      clear hs hys
      go_wp2_with (at_builtin; refine wpList_append_row _ rfl (.tmp 19) (.tmp 24) 25 rfl 5 i0 (.int .u8 0) 1 1 Try.underlying25 hi hz0 hz1 hz2 rfl _ k m xs rfl hrow1 (some ⟨wr.heap.size, 0, none⟩) 1 1 [.int .u8 b] rfl hr1 (by simp [Value.oneCell']) (by unfold maxLen; omega) (fun h => by omega) ?_)
      intro A' cap' w2 hrow2 hch2 hcase
      obtain ⟨rfl, rfl⟩ := hcase.room (by omega)
      clear hcase
      rw [HS.out] at hrow2
      have hcw2 := (hcw.next hc1).trans hch2 (fun i hi => .inr (by simp [ob] at hi; omega))
      go_wp2
      go_roundw
      case rel => exact ⟨k + 1, by omega, by go_num, rfl, hrow2, hcw2⟩
      case measure => simp [intOf]; omega
    · go_wp2
      go_ret
      have hk' : k = m := by omega
      subst hk'
      exact ⟨rfl, hrow, hcw⟩

theorem rbytes_calls {w : World} {p s : Nat} {S : List Nat} {bs : List Int} (h : RDisk w p S bs s) :
    Calls Try.prog 44 #[.pointer (some ⟨p, 0, none⟩)] w fun e w' => e = .returned (.slice (some ⟨w.heap.size, 0, none⟩) bs.length bs.length) ∧ Row w' 5 1 (some ⟨w.heap.size, 0, none⟩) bs.length bs.length (bv bs) ∧ Chg [] w w' := by
  obtain ⟨A, cap, rfl, hb, hr, hs, hl⟩ := h
  have c0 := hb.cell 0
  have hp := fun (w0 : World) (q : Row w0 5 1 A bs.length cap (bv bs)) => part_calls (c := cap) q.reads rfl (Nat.le_refl bs.length) hl
  have e1 : bs.take bs.length = bs := List.take_length
  go_enter Try.func44, Try.ntmps44
  go_wp2
  go_region_law (first
    | (go_simp; go_at_call 46; refine (hp _ (hr.drewN _)).mono ?_; rintro e w' ⟨rfl, hrow, hch⟩))
  all_goals
    go_wp2
    go_ret
    rw [e1] at hrow
    exact ⟨rfl, hrow, ((Chg.refl [] w).drewN _).trans hch (by simp)⟩

theorem rcut_no {w : World} {p s : Nat} {S : List Nat} {bs : List Int} (h : RDisk w p S bs s) (n : Int) (hn : n < 0 ∨ (bs.length : Int) < n) :
    Calls Try.prog 40 #[.pointer (some ⟨p, 0, none⟩), .int .i64 n] w fun e w' => e = .returned (.int .i64 23) ∧ w = w' := by
  obtain ⟨A, cap, rfl, hb, hr, hs, hl⟩ := h
  have c0 := hb.cell 0
  by_cases h0 : n < 0
  · go_enter Try.func40, Try.ntmps40
    go_wp2_with fail
    go_ret
    exact ⟨rfl, rfl⟩
  · have h1 : (bs.length : Int) < n := by omega
    go_enter Try.func40, Try.ntmps40
    go_wp2_with fail
    go_ret
    exact ⟨rfl, rfl⟩

/-- The slice's cell stored, then (or not) the number's. -/
theorem rdisk_stored {w1 : World} {p cap' n s' : Nat} {N : Int} {A' : Option Addr} {v0 v1 : Value} {bs' : List Int} (hb1 : Blk w1 p 76 #[v0, v1]) (hrow : Row w1 5 1 A' n cap' (bv bs')) (hN : N = (s' : Int)) (hs : s' ≤ n) (hl : n ≤ 262144) :
    RDisk ((w1.setCell ⟨p, 0, none⟩ (.slice A' n cap')).setCell ⟨p, 1, none⟩ (.int .i64 N)) p (p :: ob A') bs' s' := by
  have hn : bs'.length = n := by have := hrow.1; rw [bv_length] at this; omega
  subst hN hn
  refine ⟨A', cap', rfl, ?_, ?_, hs, hl⟩
  · have := (hb1.set_ 0 (.slice A' bs'.length cap')).set_ 1 (.int .i64 s')
    simpa using this
  · refine hrow.keep (S := [p]) (((Chg.refl _ _).setCell (.inl (by simp)) _).setCell (.inl (by simp)) _) (fun i hi hm => ?_)
    simp at hm
    exact hrow.ne_blk hb1 (by decide) i hi hm
theorem rdisk_stored1 {w1 : World} {p cap' n s' : Nat} {A' : Option Addr} {v0 : Value} {bs' : List Int} (hb1 : Blk w1 p 76 #[v0, .int .i64 s']) (hrow : Row w1 5 1 A' n cap' (bv bs')) (hs : s' ≤ n) (hl : n ≤ 262144) :
    RDisk (w1.setCell ⟨p, 0, none⟩ (.slice A' n cap')) p (p :: ob A') bs' s' := by
  have hn : bs'.length = n := by have := hrow.1; rw [bv_length] at this; omega
  subst hn
  refine ⟨A', cap', rfl, ?_, ?_, hs, hl⟩
  · have := hb1.set_ 0 (.slice A' bs'.length cap')
    simpa using this
  · refine hrow.keep (S := [p]) ((Chg.refl _ _).setCell (.inl (by simp)) _) (fun i hi hm => ?_)
    simp at hm
    exact hrow.ne_blk hb1 (by decide) i hi hm

theorem rcut_ok {w : World} {p s : Nat} {S : List Nat} {bs : List Int} (h : RDisk w p S bs s) (n : Nat) (hn : n ≤ bs.length) :
    Calls Try.prog 40 #[.pointer (some ⟨p, 0, none⟩), .int .i64 n] w fun e w' => e = .returned (.int .i64 0) ∧ RLeft w p S (bs.take n, min s n) w' := by
  obtain ⟨A, cap, rfl, hb, hr, hs, hl⟩ := h
  have c0 := hb.cell 0
  have h0 : ¬ (n : Int) < 0 := by omega
  have h1 : ¬ (bs.length : Int) < (n : Int) := by omega
  go_enter Try.func40, Try.ntmps40
  go_wp2_with (first
    | (go_at_call 46; refine (part_calls hr.reads rfl hn hl).mono ?_; rintro e w' ⟨rfl, hrow, hch⟩; have hb1 := hb.keep hch (by simp); have c1 := hb1.cell 1; have c10 := hb1.cell 0; have f0 := hb1.frozen 0; have f1 := hb1.frozen 1))
  · go_ret
    have := rdisk_stored hb1 hrow rfl (Nat.le_refl n) (by omega)
    rw [show min s n = n by omega]
    exact ⟨rfl, _, this, (((hch.mono (T := p :: ob A) (by simp)).setCell (.inl (by simp)) _).setCell (.inl (by simp)) _), fresh_or (.inr rfl)⟩
  · go_ret
    have := rdisk_stored1 hb1 hrow (s' := s) (by omega) (by omega)
    rw [show min s n = s by omega]
    exact ⟨rfl, _, this, ((hch.mono (T := p :: ob A) (by simp)).setCell (.inl (by simp)) _), fresh_or (.inr rfl)⟩

theorem rfrom_full (w : World) (n c : Nat) (B : Option Addr) (hn : 262144 < n) :
    Calls Try.prog 45 #[.slice B n c] w fun e w' => e = .returned (.tuple #[.pointer none, .int .i64 20]) ∧ w = w' := by
  have h1 : (262144 : Int) < n := by omega
  go_enter Try.func45, Try.ntmps45
  go_wp2_with fail
  go_ret2
  exact ⟨rfl, rfl⟩

theorem rfrom_ok {w : World} {n c : Nat} {B : Option Addr} {ys : List Int} (hy : Reads w 1 B n (bv ys)) (hn : n ≤ 262144) :
    Calls Try.prog 45 #[.slice B n c] w fun e w' => ∃ p S, e = .returned (.tuple #[.pointer (some ⟨p, 0, none⟩), .int .i64 0]) ∧ RDisk w' p S ys n ∧ Chg [] w w' ∧ ∀ k ∈ S, w.heap.size ≤ k := by
  have h1 : ¬ (262144 : Int) < n := by omega
  have hyl' := Lib.hid hy.len
  go_enter Try.func45, Try.ntmps45
  go_wp2_with (go_at_call 46; refine (part_calls hy rfl (Nat.le_refl n) hn).mono ?_; rintro e w' ⟨rfl, hrow, hch⟩)
  go_ret2
  have hyl := hyl'.out
  rw [← hyl, List.take_length] at hrow
  have hb1 := Blk.new w' 76 #[.slice (some ⟨w.heap.size, 0, none⟩) ys.length ys.length, .int .i64 ys.length]
  have hrow1 := hrow.alloc (.cells #[.slice (some ⟨w.heap.size, 0, none⟩) ys.length ys.length, .int .i64 ys.length] 76)
  subst hyl
  refine ⟨_, _, rfl, ⟨_, _, rfl, hb1, hrow1, Nat.le_refl _, hn⟩, hch.alloc _, fun k hk => ?_⟩
  have := hch.size
  simp [ob] at hk
  omega

theorem rcrash_keep {w : World} {p s : Nat} {S : List Nat} {bs : List Int} (h : RDisk w p S bs s) (k a m : Int) (hk : k < 0 ∨ (bs.length : Int) - s < k) :
    Calls Try.prog 41 #[.pointer (some ⟨p, 0, none⟩), .int .i64 k, .int .i64 a, .int .i64 m] w fun e w' => e = .returned (.int .i64 21) ∧ ∃ q, w' = w.drewN q := by
  obtain ⟨A, cap, rfl, hb, hr, hs, hl⟩ := h
  have c0 := hb.cell 0
  have c1 := hb.cell 1
  have h3 : (0 : Int) ≤ (s : Int) := by omega
  have h4 : (s : Int) ≤ (bs.length : Int) := by omega
  rcases hk with hk | hk
  · go_enter Try.func41, Try.ntmps41
    go_wp2
    go_quiet (fail)
    go_wp2_with fail
    all_goals
      go_ret
      exact ⟨rfl, _, rfl⟩
  · have hk0 : 0 < k := by omega
    go_enter Try.func41, Try.ntmps41
    go_wp2
    go_quiet (fail)
    go_wp2_with fail
    all_goals
      go_ret
      exact ⟨rfl, _, rfl⟩

theorem rcrash_garble {w : World} {p s : Nat} {S : List Nat} {bs : List Int} (h : RDisk w p S bs s) (k a m : Int) (hk0 : 0 ≤ k) (hk : k ≤ (bs.length : Int) - s) (hm : m ≠ 0) (hg : m < 0 ∨ 255 < m ∨ a < 0 ∨ k ≤ a) :
    Calls Try.prog 41 #[.pointer (some ⟨p, 0, none⟩), .int .i64 k, .int .i64 a, .int .i64 m] w fun e w' => e = .returned (.int .i64 22) ∧ ∃ q, w' = w.drewN q := by
  obtain ⟨A, cap, rfl, hb, hr, hs, hl⟩ := h
  have c0 := hb.cell 0
  have c1 := hb.cell 1
  have h3 : (0 : Int) ≤ (s : Int) := by omega
  have h4 : (s : Int) ≤ (bs.length : Int) := by omega
  have h5 : ¬ k < 0 := by omega
  have h6 : ¬ (bs.length : Int) - s < k := by omega
  have hmb : (m != 0) = true := by rw [bne_iff_ne]; exact hm
  clear hm
  rcases (show m < 0 ∨ 255 < m ∨ (0 ≤ m ∧ m ≤ 255 ∧ (a < 0 ∨ (0 ≤ a ∧ k ≤ a))) by omega) with hg | hg | ⟨hm1, hm2, hg⟩
  · go_enter Try.func41, Try.ntmps41
    go_wp2
    go_quiet (fail)
    go_wp2_with fail
    all_goals
      go_ret
      exact ⟨rfl, _, rfl⟩
  · have hg0 : 0 < m := by omega
    go_enter Try.func41, Try.ntmps41
    go_wp2
    go_quiet (fail)
    go_wp2_with fail
    all_goals
      go_ret
      exact ⟨rfl, _, rfl⟩
  · rcases hg with hg | ⟨hg0, hg⟩
    all_goals
      go_enter Try.func41, Try.ntmps41
      go_wp2
      go_quiet (fail)
      go_wp2_with fail
      all_goals
        go_ret
        exact ⟨rfl, _, rfl⟩

end Go.Proofs.Ytoaaneejecdglaa
