/-
  PROVED: the contract of package jotterref02's Append.
-/
import Derived.Test.YtoaaneejecdglaaRef
namespace Go.Proofs.Ytoaaneejecdglaa
open Go.RowKit

theorem Chg.blk {S : List Nat} {w w' : World} {g : Nat} {t : TypeId} {cs : Array Value} (hc : Chg S w w') (h : Blk w g t cs) (hg : g ∉ S) : Blk w' g t cs := h.keep hc hg

theorem Chg.reads0 {w w' : World} {sz n : Nat} {A : Option Addr} {xs : List Value} {S : List Nat} (hc : Chg S w w') (h : Reads w sz A n xs) (hS : 0 < n → ∀ i ∈ ob A, i ∉ S) : Reads w' sz A n xs := by
  by_cases hn : n = 0
  · exact ⟨h.1, fun h0 => by omega⟩
  · exact h.keep hc (hS (by omega))

set_option maxHeartbeats 1000000 in
theorem rappend_ok {w : World} {p s n c : Nat} {S : List Nat} {bs ys : List Int} {B : Option Addr} (h : RDisk w p S bs s) (hy : Reads w 1 B n (bv ys)) (hB : 0 < n → ∀ i ∈ ob B, i ∉ S) (hn : bs.length + n ≤ 262144) :
    Calls Try.prog 38 #[.pointer (some ⟨p, 0, none⟩), .slice B n c] w fun e w' => e = .returned (.int .i64 0) ∧ RLeft w p S (bs ++ ys, s) w' := by
  obtain ⟨A, cap, rfl, hb, hr, hs, hl⟩ := h
  obtain ⟨i0, hi, hz0, hz1, hz2⟩ := info_parts Try.info5
  have hyl := Lib.hid hy.len
  have HY := Lib.hid hy
  have HB := Lib.hid hB
  have hlb : bs.length ≤ bs.length := Nat.le_refl _
  have c0 := hb.cell 0
  have h1 : ¬ (262144 : Int) - bs.length < n := by omega
  clear hy hB
  go_enter Try.func38, Try.ntmps38
  go_wp2
  generalize (262144 : Int) = N at *
  clear c0
  go_loopw [5] (fun i wr => ∃ k A' cap', k ≤ n ∧ i = .int .i64 (k : Nat) ∧ Hid (RDiskAt wr p A' cap' (bs ++ ys.take k) s) ∧ Chg (p :: ob A) w wr ∧ (∀ j ∈ p :: ob A', j ∈ p :: ob A ∨ w.heap.size ≤ j)) (fun i _ => n - (intOf i).toNat)
  case atStart => exact ⟨0, A, cap, Nat.zero_le _, rfl, by unfold Hid; simpa using ⟨hb, hr, hs, hl⟩, Chg.refl _ _, fun j hj => .inl hj⟩
  case round =>
    obtain ⟨k, A', cap', hk, rfl, hd, hcw, hfr⟩ := hrel
    by_cases hlt : k < n
    · have hky : k < ys.length := by have := hyl.out; omega
      have hB' : ∀ i ∈ ob B, i ∉ p :: ob A := HB.out (by omega)
      obtain ⟨ad, u, rfl, hu, hc⟩ := (HY.out.keep hcw hB').at_ hlt
      have hu' : u = .int .u8 ys[k] := by simpa [bv, hky] using hu.symm
      subst hu'
      obtain ⟨hb1, hr1, hs1, hl1⟩ := hd.out
      have hNext : Hid (bv (bs ++ ys.take k) ++ [.int .u8 ys[k]] = bv (bs ++ ys.take (k + 1))) := by
        have := bv_succ ys k hky
        unfold Hid bv at *
        rw [List.map_append, List.append_assoc, this, ← List.map_append]
      have hlen : (bs ++ ys.take k).length = bs.length + k := by rw [List.length_append, List.length_take]; omega
      rw [hlen] at hb1 hr1
      have hc0 := hb1.cell 0
      have hf0 := hb1.frozen 0
      have hle := hr1.le
      generalize ys[k] = b at *
      generalize hX : bv (bs ++ ys.take k) = xs at *
      have HX := Lib.hid hX
      clear hX hu
      go_wp2
      have hrowX := hr1.alloc (.cells #[.int .u8 b] 5)
      have hbX := hb1.alloc (.cells #[.int .u8 b] 5)
      have hcX0 := hbX.cell 0
      have hone := one_reads wr (.int .u8 b)
      have hcX := (Chg.refl [] wr).alloc (.cells #[.int .u8 b] 5)
      have hne := fun hm => hr1.ne_blk hb1 (by decide) p hm rfl
      have hsX : wr.heap.size ≤ (wr.alloc (.cells #[.int .u8 b] 5)).heap.size := hcX.size
      go_region_law (first
        | (refine step_append_row _ rfl (.tmp 25) (.tmp 30) 25 rfl 5 i0 (.int .u8 0) 1 1 Try.underlying25 hi hz0 hz1 hz2 rfl A' (bs.length + k) cap' xs rfl hrowX _ 1 1 [.int .u8 b] rfl hone (by simp [Value.oneCell']) (by unfold maxLen; omega) (grow_ok (by omega)) ?_
           intro A2 cap2 w2 hrow2 hch2 hcase
           have hb2 := hch2.blk hbX hne
           have hcw2 : Chg (p :: ob A) w w2 := by
             have hi : ∀ i ∈ ob A', i ∈ p :: ob A ∨ w.heap.size ≤ i := fun i hi => hfr i (by simp [hi])
             first
               | exact ((hcw.next hcX).drew).trans hch2 hi
               | exact ((hcw.next hcX).drew.drew).trans hch2 hi
           have hat : ∀ j ∈ p :: ob A2, j ∈ p :: ob A ∨ w.heap.size ≤ j := by
             intro j hj
             rcases List.mem_cons.1 hj with rfl | hj
             · simp
             · rcases hcase.ob_ j hj with h | h
               · exact hfr j (by simp [h])
               · exact .inr (Nat.le_trans hcw.size (Nat.le_trans hsX h))
           have hrow3 := Lib.hid hrow2
           have c20 := hb2.cell 0
           have f20 := hb2.frozen 0
           clear hrow2 hch2 hcase))
      all_goals
        go_wp2
        go_roundw
        case rel =>
          have hfin : Row w2 5 1 A2 (bs.length + k + 1) cap2 (bv (bs ++ ys.take (k + 1))) := by
            have := hrow3.out
            rw [hNext.out] at this
            exact this
          have hl2 : (bs ++ ys.take (k + 1)).length = bs.length + k + 1 := by rw [List.length_append, List.length_take]; omega
          have hb3 := hb2.set_ 0 (.slice A2 (bs.length + k + 1) cap2)
          refine ⟨k + 1, A2, cap2, by omega, by go_num, ?_, hcw2.setCell (.inl (by simp)) _, hat⟩
          refine ⟨?_, ?_, by omega, by omega⟩
          · rw [hl2]; simpa using hb3
          · rw [hl2]
            refine hfin.keep (S := [p]) ((Chg.refl _ _).setCell (.inl (by simp)) _) (fun i hi hm => ?_)
            simp at hm
            exact hfin.ne_blk hb2 (by decide) i hi hm
        case measure => simp [intOf]; omega
    · go_wp2
      go_ret
      have hk' : k = ys.length := by have := hyl.out; omega
      subst hk'
      have := hd.out
      rw [List.take_length] at this
      exact ⟨rfl, _, ⟨_, _, rfl, this⟩, hcw, hfr⟩

theorem rappend_full {w : World} {p s n c : Nat} {S : List Nat} {bs : List Int} {B : Option Addr} (h : RDisk w p S bs s) (hn : 262144 < bs.length + n) :
    Calls Try.prog 38 #[.pointer (some ⟨p, 0, none⟩), .slice B n c] w fun e w' => e = .returned (.int .i64 20) ∧ w = w' := by
  obtain ⟨A, cap, rfl, hb, hr, hs, hl⟩ := h
  have c0 := hb.cell 0
  have h1 : (262144 : Int) - bs.length < n := by omega
  go_enter Try.func38, Try.ntmps38
  go_wp2_with fail
  go_ret
  exact ⟨rfl, rfl⟩

theorem rput_calls {w : World} {p s n c : Nat} {S : List Nat} {bs ys : List Int} {B : Option Addr} (h : RDisk w p S bs s) (hy : Reads w 1 B n (bv ys)) (hB : 0 < n → ∀ i ∈ ob B, i ∉ S) :
    Calls Try.prog 38 #[.pointer (some ⟨p, 0, none⟩), .slice B n c] w fun e w' => e = .returned (.int .i64 (putF ys bs s).1) ∧ RLeft w p S (putF ys bs s).2 w' := by
  have hl := hy.len
  by_cases hn : bs.length + n ≤ 262144
  · refine (rappend_ok h hy hB hn).mono fun e w' ⟨he, hl'⟩ => ?_
    unfold putF
    rw [if_pos (by omega)]
    exact ⟨he, hl'⟩
  · refine (rappend_full h (by omega)).mono fun e w' ⟨he, hw⟩ => ?_
    unfold putF
    rw [if_neg (by omega)]
    subst hw
    exact ⟨he, RLeft.same h (Chg.refl _ _)⟩

end Go.Proofs.Ytoaaneejecdglaa
