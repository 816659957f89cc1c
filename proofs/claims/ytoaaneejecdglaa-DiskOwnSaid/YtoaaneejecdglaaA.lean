/-
  PROVED: contracts of the small functions of package disk and of the statements' helpers: New, Size, Synced, num, Bytes, Append, Sync, Cut, From.
-/
import Derived.Test.YtoaaneejecdglaaProg
import Derived.Test.YtoaaneejecdglaaMem
import Derived.Deep.QuietTactic
import Derived.BigQuiet
import Derived.WalkLawsBesides
import Derived.WalkSpells
namespace Go.Proofs.Ytoaaneejecdglaa
open Go.RowKit

def bv (bs : List Int) : List Value := bs.map (Value.int .u8)
theorem bv_length (bs : List Int) : (bv bs).length = bs.length := by simp [bv]
theorem bv_one (bs : List Int) : ∀ u ∈ bv bs, u.oneCell' = true := by
  intro u hu
  obtain ⟨_, _, rfl⟩ := List.mem_map.1 hu
  rfl

theorem Try.info5 : (Try.prog.info? 5).map (fun i => (i.zero, i.size, i.bytes)) = some (some (.int .u8 0), 1, 1) := by kernel_rfl

def DiskAt (w : World) (p : Nat) (A : Option Addr) (cap : Nat) (bs : List Int) (s : Nat) : Prop :=
  Blk w p 66 #[.slice A bs.length cap, .int .i64 s] ∧ Row w 5 1 A bs.length cap (bv bs) ∧ s ≤ bs.length ∧ bs.length ≤ 262144

/-- A file of the program's behind the pointer to block p, its memory the blocks S: its bytes, and how many are synced. -/
def Disk (w : World) (p : Nat) (S : List Nat) (bs : List Int) (s : Nat) : Prop := ∃ A cap, S = p :: ob A ∧ DiskAt w p A cap bs s

theorem new_calls (w : World) : Calls Try.prog 24 #[] w fun e w' => e = .returned (.pointer (some ⟨w.heap.size, 0, none⟩)) ∧ Disk w' w.heap.size [w.heap.size] [] 0 ∧ Chg [] w w' := by
  go_enter Try.func24, Try.ntmps24
  go_wp2
  go_ret
  exact ⟨rfl, ⟨none, 0, rfl, Blk.new _ _ _, Row.nil _ _ _, by simp, by simp⟩, (Chg.refl _ _).alloc _⟩

theorem size_calls {w : World} {p s : Nat} {S : List Nat} {bs : List Int} (h : Disk w p S bs s) :
    Calls Try.prog 16 #[.pointer (some ⟨p, 0, none⟩)] w fun e w' => e = .returned (.int .i64 bs.length) ∧ w = w' := by
  obtain ⟨A, cap, rfl, hb, hr, hs, hl⟩ := h
  have c0 := hb.cell 0
  go_enter Try.func16, Try.ntmps16
  go_wp2
  go_ret
  exact ⟨rfl, rfl⟩

theorem synced_calls {w : World} {p s : Nat} {S : List Nat} {bs : List Int} (h : Disk w p S bs s) :
    Calls Try.prog 18 #[.pointer (some ⟨p, 0, none⟩)] w fun e w' => e = .returned (.int .i64 s) ∧ w = w' := by
  obtain ⟨A, cap, rfl, hb, hr, hs, hl⟩ := h
  have c0 := hb.cell 1
  go_enter Try.func18, Try.ntmps18
  go_wp2
  go_ret
  exact ⟨rfl, rfl⟩

theorem num_calls (w : World) (n : Int) : Calls Try.prog 14 #[.int .i64 n] w fun e w' => e = .returned (.int .i64 n) ∧ w = w' := by
  go_enter Try.func14, Try.ntmps14
  go_wp2
  go_ret
  exact ⟨rfl, rfl⟩

theorem sync_calls {w : World} {p s : Nat} {S : List Nat} {bs : List Int} (h : Disk w p S bs s) :
    Calls Try.prog 34 #[.pointer (some ⟨p, 0, none⟩)] w fun e w' => e = .returned (.int .i64 ((bs.length : Int) - s)) ∧ Disk w' p S bs bs.length ∧ Chg S w w' := by
  obtain ⟨A, cap, rfl, hb, hr, hs, hl⟩ := h
  have c0 := hb.cell 0
  have c1 := hb.cell 1
  have f1 := hb.frozen 1
  go_enter Try.func34, Try.ntmps34
  go_wp2
  go_quiet (fail)
  go_wp2
  go_ret
  refine ⟨rfl, ⟨A, cap, rfl, ?_, hr.keep (S := [p]) (((Chg.refl _ _).drewN _).setCell (.inl (by simp)) _) (fun i hi hm => ?_), Nat.le_refl _, hl⟩, ((Chg.refl _ _).drewN _).setCell (.inl (by simp)) _⟩
  · exact (hb.drewN nq).set_ 1 _
  · simp at hm; exact hr.ne_blk hb (by decide) i hi hm

theorem cut_no {w : World} {p s : Nat} {S : List Nat} {bs : List Int} (h : Disk w p S bs s) (n : Int) (hn : n < 0 ∨ (bs.length : Int) < n) :
    Calls Try.prog 27 #[.pointer (some ⟨p, 0, none⟩), .int .i64 n] w fun e w' => e = .returned (.int .i64 23) ∧ w = w' := by
  obtain ⟨A, cap, rfl, hb, hr, hs, hl⟩ := h
  have c0 := hb.cell 0
  by_cases h0 : n < 0
  · go_enter Try.func27, Try.ntmps27
    go_wp2
    go_ret
    exact ⟨rfl, rfl⟩
  · have h1 : (bs.length : Int) < n := by omega
    go_enter Try.func27, Try.ntmps27
    go_wp2
    go_ret
    exact ⟨rfl, rfl⟩

theorem cut_ok {w : World} {p s : Nat} {S : List Nat} {bs : List Int} (h : Disk w p S bs s) (n : Nat) (hn : n ≤ bs.length) :
    Calls Try.prog 27 #[.pointer (some ⟨p, 0, none⟩), .int .i64 n] w fun e w' => e = .returned (.int .i64 0) ∧ Disk w' p S (bs.take n) (min s n) ∧ Chg S w w' := by
  obtain ⟨A, cap, rfl, hb, hr, hs, hl⟩ := h
  have c0 := hb.cell 0
  have c1 := hb.cell 1
  have f0 := hb.frozen 0
  have f1 := hb.frozen 1
  have hcap := hr.le
  have h0 : ¬ (n : Int) < 0 := by omega
  have h1 : ¬ (bs.length : Int) < (n : Int) := by omega
  go_enter Try.func27, Try.ntmps27
  go_wp2
  all_goals
    go_ret
    refine ⟨rfl, ⟨A, cap, rfl, ?_, ?_, by simp; omega, by simp; omega⟩, ((Chg.refl _ _).setCell (.inl (by simp)) _).setCell (.inl (by simp)) _⟩
    · have := (hb.set_ 1 (.int .i64 (min s n : Nat))).set_ 0 (.slice A n cap)
      have e1 : min n bs.length = n := Nat.min_eq_left hn
      first
        | rw [show min s n = n by omega] at this ⊢
        | rw [show min s n = s by omega] at this ⊢
      simpa [e1] using this
    · have hk := (hr.take hn).keep (S := [p]) (((Chg.refl _ w).setCell (p := ⟨p, 1, none⟩) (.inl (by simp)) (.int .i64 (min s n : Nat))).setCell (p := ⟨p, 0, none⟩) (.inl (by simp)) (.slice A n cap)) (fun i hi hm => by simp at hm; exact hr.ne_blk hb (by decide) i hi hm)
      have e1 : min n bs.length = n := Nat.min_eq_left hn
      first
        | rw [show min s n = n by omega] at hk
        | rw [show min s n = s by omega] at hk
      simpa [e1, bv, List.map_take] using hk

theorem bytes_calls {w : World} {p s : Nat} {S : List Nat} {bs : List Int} (h : Disk w p S bs s) :
    Calls Try.prog 17 #[.pointer (some ⟨p, 0, none⟩)] w fun e w' => e = .returned (.slice (some ⟨w.heap.size, 0, none⟩) bs.length bs.length) ∧ Row w' 5 1 (some ⟨w.heap.size, 0, none⟩) bs.length bs.length (bv bs) ∧ Chg [] w w' := by
  obtain ⟨A, cap, rfl, hb, hr, hs, hl⟩ := h
  obtain ⟨i0, hi, hz0, hz1, hz2⟩ := info_parts Try.info5
  have c0 := hb.cell 0
  go_enter Try.func17, Try.ntmps17
  go_wp2_with (first
    | (at_make; refine wpList_make_row _ rfl (.tmp 8) (.tmp 8) 25 rfl 5 i0 (.int .u8 0) 1 1 Try.underlying25 hi hz0 hz1 hz2 .i64 .i64 _ _ bs.length bs.length rfl rfl rfl rfl (Nat.le_refl _) (by omega) (by unfold maxLen; omega) ?_))
  intro w1 hrow hch hsz
  have hb1 := hb.keep hch (by simp)
  have hr1 := (hr.keep hch (by simp)).reads
  have c1 := hb1.cell 0
  go_wp2_with (with_reducible refine wpList_copy_row _ rfl (.tmp 10) (.tmp 14) 25 25 rfl 5 Try.underlying25 (by kernel_rfl) _ A bs.length bs.length bs.length cap rfl rfl rfl _ (bv bs) hrow hr1 (bv_one _) ?_)
  intro w2 hrow2 hch2
  go_wp2
  go_ret
  exact ⟨rfl, hrow2, hch.trans hch2 (by simp [ob])⟩

theorem append_ok {w : World} {p s n c : Nat} {S : List Nat} {bs ys : List Int} {B : Option Addr} (h : Disk w p S bs s) (hy : Reads w 1 B n (bv ys)) (hn : bs.length + n ≤ 262144) :
    Calls Try.prog 15 #[.pointer (some ⟨p, 0, none⟩), .slice B n c] w fun e w' => e = .returned (.int .i64 0) ∧ ∃ S', Disk w' p S' (bs ++ ys) s ∧ Chg S w w' ∧ ∀ k ∈ S', k ∈ S ∨ w.heap.size ≤ k := by
  obtain ⟨A, cap, rfl, hb, hr, hs, hl⟩ := h
  obtain ⟨i0, hi, hz0, hz1, hz2⟩ := info_parts Try.info5
  have c0 := hb.cell 0
  have f0 := hb.frozen 0
  have h1 : ¬ (262144 : Int) - bs.length < n := by omega
  go_enter Try.func15, Try.ntmps15
  go_wp2_with (at_builtin; refine wpList_append_row _ rfl (.tmp 18) (.tmp 19) 25 rfl 5 i0 (.int .u8 0) 1 1 Try.underlying25 hi hz0 hz1 hz2 rfl A bs.length cap (bv bs) rfl hr B n c (bv ys) rfl hy (bv_one _) (by unfold maxLen; omega) (grow_ok (by omega)) ?_)
  intro A' cap' w1 hrow hch hcase
  have hb1 := hb.keep hch (fun hm => hr.ne_blk hb (by decide) _ hm rfl)
  have c1 := hb1.cell 0
  have f1 := hb1.frozen 0
  go_wp2
  go_ret
  have hyl : ys.length = n := by have := hy.1; rw [bv_length] at this; omega
  have hbl : (bs ++ ys).length = bs.length + n := by rw [List.length_append, hyl]
  have hbv : bv bs ++ bv ys = bv (bs ++ ys) := by simp [bv]
  rw [hbv] at hrow
  refine ⟨rfl, p :: ob A', ⟨A', cap', rfl, ?_, ?_, by omega, by omega⟩, ?_, ?_⟩
  · have := hb1.set_ 0 (.slice A' (bs.length + n) cap')
    rw [hbl]
    simpa using this
  · rw [hbl]
    refine hrow.keep (S := [p]) ((Chg.refl _ _).setCell (.inl (by simp)) _) (fun i hi hm => ?_)
    simp at hm
    exact hrow.ne_blk hb1 (by decide) i hi hm
  · exact (hch.mono (T := p :: ob A) (fun i hi => .inl (by simp [hi]))).setCell (.inl (by simp)) _
  · intro k hk
    rcases hcase.at_ with rfl | rfl
    · exact .inl hk
    · simp [ob] at hk
      rcases hk with rfl | rfl
      · simp
      · exact .inr (Nat.le_refl _)

theorem append_full {w : World} {p s n c : Nat} {S : List Nat} {bs : List Int} {B : Option Addr} (h : Disk w p S bs s) (hn : 262144 < bs.length + n) :
    Calls Try.prog 15 #[.pointer (some ⟨p, 0, none⟩), .slice B n c] w fun e w' => e = .returned (.int .i64 20) ∧ w = w' := by
  obtain ⟨A, cap, rfl, hb, hr, hs, hl⟩ := h
  have c0 := hb.cell 0
  have h1 : (262144 : Int) - bs.length < n := by omega
  go_enter Try.func15, Try.ntmps15
  go_wp2_with fail
  go_ret
  exact ⟨rfl, rfl⟩

theorem from_full (w : World) (n c : Nat) (B : Option Addr) (hn : 262144 < n) :
    Calls Try.prog 23 #[.slice B n c] w fun e w' => e = .returned (.tuple #[.pointer none, .int .i64 20]) ∧ w = w' := by
  have h1 : (262144 : Int) < n := by omega
  go_enter Try.func23, Try.ntmps23
  go_wp2_with fail
  go_ret2
  exact ⟨rfl, rfl⟩

theorem from_ok {w : World} {n c : Nat} {B : Option Addr} {ys : List Int} (hy : Reads w 1 B n (bv ys)) (hn : n ≤ 262144) :
    Calls Try.prog 23 #[.slice B n c] w fun e w' => ∃ p S, e = .returned (.tuple #[.pointer (some ⟨p, 0, none⟩), .int .i64 0]) ∧ Disk w' p S ys n ∧ Chg [] w w' ∧ ∀ k ∈ S, w.heap.size ≤ k := by
  obtain ⟨i0, hi, hz0, hz1, hz2⟩ := info_parts Try.info5
  have h1 : ¬ (262144 : Int) < n := by omega
  have hyl : ys.length = n := by have := hy.1; rw [bv_length] at this; omega
  have hyl' := Lib.hid hyl
  clear hyl
  go_enter Try.func23, Try.ntmps23
  go_wp2_with (at_make; refine wpList_make_row _ rfl (.tmp 9) (.tmp 9) 25 rfl 5 i0 (.int .u8 0) 1 1 Try.underlying25 hi hz0 hz1 hz2 .i64 .i64 _ _ n n rfl rfl rfl rfl (Nat.le_refl _) (by omega) (by unfold maxLen; omega) ?_)
  intro w1 hrow hch hsz
  have hbk : Blk (w1.alloc (.cells #[.slice (some ⟨w.heap.size, 0, none⟩) n n, .int .i64 n] 66)) w1.heap.size 66 #[.slice (some ⟨w.heap.size, 0, none⟩) n n, .int .i64 n] := Blk.new _ _ _
  have hrow' := hrow.alloc (.cells #[.slice (some ⟨w.heap.size, 0, none⟩) n n, .int .i64 n] 66)
  have hr1 := ((hy.keep hch (by simp)).keep ((Chg.refl [] _).alloc (.cells #[.slice (some ⟨w.heap.size, 0, none⟩) n n, .int .i64 n] 66)) (by simp))
  go_wp2_with (with_reducible refine wpList_copy_row _ rfl (.tmp 18) (.tmp 19) 25 25 rfl 5 Try.underlying25 (by kernel_rfl) _ B n n n c rfl rfl rfl _ (bv ys) hrow' hr1 (bv_one _) ?_)
  intro w2 hrow2 hch2
  have hne : w1.heap.size ∉ ob (some (⟨w.heap.size, 0, none⟩ : Addr)) := by simp [ob]; omega
  have hbk2 := hbk.keep hch2 hne
  go_wp2
  go_ret2
  have hyl := hyl'.out
  refine ⟨w1.heap.size, w1.heap.size :: ob (some ⟨w.heap.size, 0, none⟩), rfl, ⟨_, n, rfl, ?_, ?_, by omega, by omega⟩, ?_, ?_⟩
  · rw [hyl]; exact hbk2
  · rw [hyl]; exact hrow2
  · exact (hch.alloc _).trans hch2 (by simp [ob])
  · intro k hk
    have := hch.size
    simp [ob] at hk
    omega

end Go.Proofs.Ytoaaneejecdglaa
