/-
  PROVED: the walk of DiskFroms: whatever the two lists, it returns true and turns nothing that was there.
-/
import Derived.Test.YtoaaneejecdglaaTail
namespace Go.Proofs.Ytoaaneejecdglaa
open Go.RowKit

theorem bv_set (xs : List Int) (k : Nat) (x : Int) : (bv xs).set k (.int .u8 x) = bv (xs.set k x) := by simp [bv, List.map_set]

/-- The three marks behind the bytes. -/
def marks3 : List Int := [250, 251, 252]
/-- The block that holds them. -/
def marksObj : Obj := .cells #[.int .u8 250, .int .u8 251, .int .u8 252] 5
theorem marks_read (w : World) : Reads (w.alloc marksObj) 1 (some ⟨w.heap.size, 0, none⟩) 3 (bv marks3) :=
  ⟨rfl, fun _ => ⟨_, rfl, fun j u hu => by unfold marksObj; rw [add_head, World.cell?_alloc_new]; simp [bv, marks3] at hu ⊢; exact hu⟩⟩

set_option maxHeartbeats 4000000 in
set_option maxRecDepth 100000 in
theorem froms_full (A B : Option Addr) (n c m d : Nat) (w : World) (bs : List Int) (hx : Reads w 1 A n (bv bs)) (hr : n ≤ 140737488351232) (h : 262144 < n) :
    Calls Try.prog 5 #[.slice A n c, .slice B m d] w fun e w' => e = .returned (.bool true) ∧ Chg [] w w' := by
  have h2 : (262144 : Int) < n := by omega
  obtain ⟨i0, hi, hz0, hz1, hz2⟩ := info_parts Try.info5
  have lx := Lib.hid hx.len
  go_enter Try.func5, Try.ntmps5
  go_wp2_with (first
    | (go_at_call 19; refine (copied_calls hx hr).mono ?_; rintro e w1 ⟨rfl, hr1, hc1⟩; have hb1 : Reads (w1.alloc (.cells #[.int .u8 250, .int .u8 251, .int .u8 252] 5)) 1 (some ⟨w1.heap.size, 0, none⟩) 3 (bv marks3) := marks_read w1; have hr1' := hr1.alloc (.cells #[.int .u8 250, .int .u8 251, .int .u8 252] 5))
    | (at_builtin; refine wpList_append_row _ rfl (.tmp 11) (.tmp 12) 25 rfl 5 i0 (.int .u8 0) 1 1 Try.underlying25 hi hz0 hz1 hz2 rfl _ n n (bv bs) rfl hr1' _ 3 3 (bv marks3) rfl hb1 (bv_one _) (by unfold maxLen; omega) (grow_ok (by omega)) ?_))
  intro A' cap' w2 hrow hc2 hcase
  obtain ⟨g, hA, hgn⟩ : ∃ g, A' = some ⟨g, 0, none⟩ ∧ w.heap.size ≤ g := ⟨_, hcase.new (by omega), by have := hc1.size; simp; omega⟩
  subst hA
  have q2 : Chg [] w w2 := (hc1.alloc _).trans hc2 (fun i hi => .inr (by simp [ob] at hi; omega))
  have hcat : bv bs ++ bv marks3 = bv (bs ++ marks3) := by simp [bv]
  rw [hcat] at hrow
  have hin := (hrow.take (k := n) (by omega)).reads
  rw [bv_take] at hin
  have hcap := hrow.le
  have hmk := hrow.reads.cut (k := n) (by omega) hrow.le
  have hcn : ¬ cap' = n := by omega
  rw [bv_drop, if_neg hcn, Option.map_some, add_head, Nat.mul_one, show n + 3 - n = 3 by omega] at hmk
  have hE1 : Hid ((bs ++ marks3).take n = bs) := by unfold Hid; rw [← lx.out]; simp
  have hE2 : Hid ((bs ++ marks3).drop n = marks3) := by unfold Hid; rw [← lx.out]; simp
  rw [hE1.out] at hin
  have hlz : Hid ((bs ++ marks3).length = n + 3) := by unfold Hid; rw [List.length_append, lx.out]; rfl
  clear hcat hcase hc1 hc2 hr1 hr1' hb1
  generalize bs ++ marks3 = zs at *
  have hgw := hrow.lt g (by simp [ob])
  go_wp2_with (first
    | (go_at_call 23; refine (from_full _ _ _ _ h).mono ?_; rintro e w' ⟨rfl, rfl⟩)
    | (go_at_call 22; (with_reducible refine (same_yes (hin.keep (Chg.refl [] w2) (by simp)) (hx.keep (q2.next (Chg.refl [] w2)) (by simp)) (by omega) rfl).mono ?_); rintro e w4 ⟨rfl, q, rfl⟩; have hm5 : Reads ((w2.drewN q).alloc (.cells #[.int .u8 250, .int .u8 251, .int .u8 252] 5)) 1 (some ⟨w2.heap.size, 0, none⟩) 3 (bv marks3) := marks_read (w2.drewN q); have hm6 := (hmk.keep (Chg.refl [] w2) (by simp)).keep ((Chg.drewN (Chg.refl [] w2) q).alloc (.cells #[.int .u8 250, .int .u8 251, .int .u8 252] 5)) (by simp))
    | (go_at_call 22; (with_reducible refine (same_yes hm6 hm5 (by omega) hE2.out).mono ?_); rintro e w6 ⟨rfl, q', rfl⟩))
  have r7 : Chg [] w2 (((w2.drewN q).alloc (.cells #[.int .u8 250, .int .u8 251, .int .u8 252] 5)).drewN q') := ((((Chg.refl [] w2).drewN q).alloc _).drewN q')
  have s7 : Chg [] w2 (((w2.drewN q).alloc (.cells #[.int .u8 250, .int .u8 251, .int .u8 252] 5)).drewN q') := ((((Chg.refl [] w2).drewN q).alloc _).drewN q')
  have hrow7 := hrow.keep r7 (by simp)
  clear hm5 hm6 hmk hin hE1 hE2
  generalize (((w2.drewN q).alloc (.cells #[.int .u8 250, .int .u8 251, .int .u8 252] 5)).drewN q') = w7 at *
  go_loopw [9] (fun i wr => ∃ (k : Nat) (xs : List Int), k ≤ n + 3 ∧ i = .int .i64 k ∧ Row wr 5 1 (some ⟨g, 0, none⟩) (n + 3) cap' (bv xs) ∧ Chg [g] w7 wr) (fun i _ => n + 3 - (intOf i).toNat)
  case atStart => exact ⟨0, zs, Nat.zero_le _, rfl, hrow7, Chg.refl _ _⟩
  case round =>
    obtain ⟨k, xs, hk, rfl, hrw, hcw⟩ := hrel
    by_cases hlt : k < n + 3
    · obtain ⟨g', cur, hA, hbk, h1, h3, h4⟩ := hrw.blk (by omega)
      obtain rfl : g = g' := by injection hA with hA; injection hA
      have hxl := hrw.reads.len
      have hkx : k < xs.length := by omega
      have hd : wr.cell? ⟨g, k, none⟩ = some (.int .u8 (xs.getD k 0)) := by
        obtain ⟨ad, u, hA2, hu, hc⟩ := hrw.reads.at_ hlt
        obtain rfl := Option.some.inj hA2
        rw [add_head] at hc
        rw [hc]
        have : u = .int .u8 (xs.getD k 0) := by simpa [bv, hkx, List.getD] using hu.symm
        rw [this]
      have hf := hbk.frozen k
      have hset := fun x => hrw.set_ (k := k) (by omega) (.int .u8 x)
      simp only [bv_set] at hset
      have hset' := Lib.hid hset
      clear hset hbk h4 hA hrw hxl hkx hrow7 hrow
      generalize xs.getD k 0 = x0 at *
      have i1 : (k : Int) < n + 3 := by omega
      have i2 : (0 : Int) ≤ k := by omega
      go_wp2
      go_roundw
      case rel => exact ⟨k + 1, _, by omega, by go_num, hset'.out _, hcw.setCell (.inl (by simp)) _⟩
      case measure => simp [intOf]; omega
    · have i1 : ¬ (k : Int) < n + 3 := by omega
      go_wp2_with (go_at_call 14; refine (num_calls _ _).mono ?_; rintro e w' ⟨rfl, rfl⟩)
      go_ret
      exact ⟨rfl, (q2.next r7).trans hcw (fun i hi => .inr (by simp at hi; subst hi; exact hgn))⟩

set_option maxHeartbeats 4000000 in
set_option maxRecDepth 100000 in
theorem froms_more_full (A B : Option Addr) (n c m d : Nat) (w : World) (bs ms : List Int) (hx : Reads w 1 A n (bv bs)) (hy : Reads w 1 B m (bv ms)) (hr : n ≤ 140737488351232) (hr2 : m ≤ 140737488351232) (hn : n ≤ 262144) (h : 262144 < n + m) :
    Calls Try.prog 5 #[.slice A n c, .slice B m d] w fun e w' => e = .returned (.bool true) ∧ Chg [] w w' := by
  have h2 : ¬ (262144 : Int) < n := by omega
  have h3 : (262144 : Int) - n < m := by omega
  obtain ⟨i0, hi, hz0, hz1, hz2⟩ := info_parts Try.info5
  have lx := Lib.hid hx.len
  have b1 : ((bs.length : Int) != n) = false := by have := lx.out; simp; omega
  have b2 : bs.length ≤ n := by have := lx.out; omega
  have b3 : n ≤ bs.length := by have := lx.out; omega
  go_enter Try.func5, Try.ntmps5
  go_wp2_with (first
    | (go_at_call 19; refine (copied_calls hx hr).mono ?_; rintro e w1 ⟨rfl, hr1, hc1⟩; have hb1 : Reads (w1.alloc (.cells #[.int .u8 250, .int .u8 251, .int .u8 252] 5)) 1 (some ⟨w1.heap.size, 0, none⟩) 3 (bv marks3) := marks_read w1; have hr1' := hr1.alloc (.cells #[.int .u8 250, .int .u8 251, .int .u8 252] 5))
    | (at_builtin; refine wpList_append_row _ rfl (.tmp 11) (.tmp 12) 25 rfl 5 i0 (.int .u8 0) 1 1 Try.underlying25 hi hz0 hz1 hz2 rfl _ n n (bv bs) rfl hr1' _ 3 3 (bv marks3) rfl hb1 (bv_one _) (by unfold maxLen; omega) (grow_ok (by omega)) ?_))
  intro A' cap' w2 hrow hc2 hcase
  obtain ⟨g, hA, hgn⟩ : ∃ g, A' = some ⟨g, 0, none⟩ ∧ w.heap.size ≤ g := ⟨_, hcase.new (by omega), by have := hc1.size; simp; omega⟩
  subst hA
  have q2 : Chg [] w w2 := (hc1.alloc _).trans hc2 (fun i hi => .inr (by simp [ob] at hi; omega))
  have hcat : bv bs ++ bv marks3 = bv (bs ++ marks3) := by simp [bv]
  rw [hcat] at hrow
  have hin := (hrow.take (k := n) (by omega)).reads
  rw [bv_take] at hin
  have hcap := hrow.le
  have hmk := hrow.reads.cut (k := n) (by omega) hrow.le
  have hcn : ¬ cap' = n := by omega
  rw [bv_drop, if_neg hcn, Option.map_some, add_head, Nat.mul_one, show n + 3 - n = 3 by omega] at hmk
  have hE1 : Hid ((bs ++ marks3).take n = bs) := by unfold Hid; rw [← lx.out]; simp
  have hE2 : Hid ((bs ++ marks3).drop n = marks3) := by unfold Hid; rw [← lx.out]; simp
  rw [hE1.out] at hin
  have hlz : Hid ((bs ++ marks3).length = n + 3) := by unfold Hid; rw [List.length_append, lx.out]; rfl
  clear hcat hcase hc1 hc2 hr1 hr1' hb1
  generalize bs ++ marks3 = zs at *
  have hgw := hrow.lt g (by simp [ob])
  go_wp2_with (first
    | (go_at_call 23; refine (from_ok hin hn).mono ?_; rintro e w3 ⟨p, S, rfl, hd3, hc3, hS3⟩)
    | (go_at_call 22; (with_reducible refine (same_yes (hin.keep hc3 (by simp)) (hx.keep (q2.next hc3) (by simp)) (by omega) rfl).mono ?_); rintro e w4 ⟨rfl, q, rfl⟩; have hm5 : Reads ((w3.drewN q).alloc (.cells #[.int .u8 250, .int .u8 251, .int .u8 252] 5)) 1 (some ⟨w3.heap.size, 0, none⟩) 3 (bv marks3) := marks_read (w3.drewN q); have hm6 := (hmk.keep hc3 (by simp)).keep ((Chg.drewN (Chg.refl [] w3) q).alloc (.cells #[.int .u8 250, .int .u8 251, .int .u8 252] 5)) (by simp))
    | (go_at_call 22; (with_reducible refine (same_yes hm6 hm5 (by omega) hE2.out).mono ?_); rintro e w6 ⟨rfl, q', rfl⟩))
  have r7 : Chg [] w2 (((w3.drewN q).alloc (.cells #[.int .u8 250, .int .u8 251, .int .u8 252] 5)).drewN q') := (((hc3.drewN q).alloc _).drewN q')
  have s7 : Chg [] w3 (((w3.drewN q).alloc (.cells #[.int .u8 250, .int .u8 251, .int .u8 252] 5)).drewN q') := ((((Chg.refl [] w3).drewN q).alloc _).drewN q')
  have hrow7 := hrow.keep r7 (by simp)
  have hd7 := hd3.keep s7 (by simp)
  clear hd3
  clear hm5 hm6 hmk hin hE1 hE2
  generalize (((w3.drewN q).alloc (.cells #[.int .u8 250, .int .u8 251, .int .u8 252] 5)).drewN q') = w7 at *
  go_loopw [9] (fun i wr => ∃ (k : Nat) (xs : List Int), k ≤ n + 3 ∧ i = .int .i64 k ∧ Row wr 5 1 (some ⟨g, 0, none⟩) (n + 3) cap' (bv xs) ∧ Chg [g] w7 wr) (fun i _ => n + 3 - (intOf i).toNat)
  case atStart => exact ⟨0, zs, Nat.zero_le _, rfl, hrow7, Chg.refl _ _⟩
  case round =>
    obtain ⟨k, xs, hk, rfl, hrw, hcw⟩ := hrel
    by_cases hlt : k < n + 3
    · obtain ⟨g', cur, hA, hbk, h1, h3, h4⟩ := hrw.blk (by omega)
      obtain rfl : g = g' := by injection hA with hA; injection hA
      have hxl := hrw.reads.len
      have hkx : k < xs.length := by omega
      have hd : wr.cell? ⟨g, k, none⟩ = some (.int .u8 (xs.getD k 0)) := by
        obtain ⟨ad, u, hA2, hu, hc⟩ := hrw.reads.at_ hlt
        obtain rfl := Option.some.inj hA2
        rw [add_head] at hc
        rw [hc]
        have : u = .int .u8 (xs.getD k 0) := by simpa [bv, hkx, List.getD] using hu.symm
        rw [this]
      have hf := hbk.frozen k
      have hset := fun x => hrw.set_ (k := k) (by omega) (.int .u8 x)
      simp only [bv_set] at hset
      have hset' := Lib.hid hset
      clear hset hbk h4 hA hrw hxl hkx hrow7 hrow
      generalize xs.getD k 0 = x0 at *
      have i1 : (k : Int) < n + 3 := by omega
      have i2 : (0 : Int) ≤ k := by omega
      go_wp2
      go_roundw
      case rel => exact ⟨k + 1, _, by omega, by go_num, hset'.out _, hcw.setCell (.inl (by simp)) _⟩
      case measure => simp [intOf]; omega
    · have i1 : ¬ (k : Int) < n + 3 := by omega
      have q8 : Chg [] w wr := (q2.next r7).trans hcw (fun i hi => .inr (by simp at hi; subst hi; exact hgn))
      have hgS : ∀ k ∈ S, k ∉ [g] := fun k hk hm => by simp at hm; have := hS3 k hk; omega
      have hd8 := hd7.keep hcw hgS
      have hS8 : ∀ k ∈ S, w.heap.size ≤ k := fun k hk => by have := hS3 k hk; have := q2.size; omega
      have hx8 := hx.keep q8 (by simp)
      have hy8 := hy.keep q8 (by simp)
      clear hcw r7 s7 hrow7 hrw hd7
      go_wp2_with (first
        | (go_at_call 14; refine (num_calls _ _).mono ?_; rintro e w' ⟨rfl, rfl⟩)
        | (go_at_call 16; refine (size_calls hd8).mono ?_; rintro e w' ⟨rfl, rfl⟩)
        | (go_at_call 18; refine (synced_calls hd8).mono ?_; rintro e w' ⟨rfl, rfl⟩)
        | (go_at_call 17; refine (bytes_calls hd8).mono ?_; rintro e w9 ⟨rfl, hr9, hc9⟩)
        | (go_at_call 22; refine (same_yes hr9.reads (hx8.keep hc9 (by simp)) (by omega) rfl).mono ?_; rintro e w10 ⟨rfl, q10, rfl⟩))
      have q10' : Chg [] w (w9.drewN q10) := (q8.next hc9).drewN q10
      have hd10 : Disk (w9.drewN q10) p S bs n := (hd8.keep hc9 (by simp)).drewN q10
      have hx10 : Reads (w9.drewN q10) 1 A n (bv bs) := (hx8.keep hc9 (by simp)).drewN q10
      have hy10 : Reads (w9.drewN q10) 1 B m (bv ms) := (hy8.keep hc9 (by simp)).drewN q10
      generalize w9.drewN q10 = w11 at *
      go_wp2_with (first
        | (go_at_call 19; refine (copied_calls hy10 hr2).mono ?_; rintro e w12 ⟨rfl, hr12, hc12⟩)
        | (go_at_call 15; refine (append_full (hd10.keep hc12 (by simp)) (by omega)).mono ?_; rintro e w' ⟨rfl, rfl⟩)
        | (go_at_call 14; refine (num_calls _ _).mono ?_; rintro e w' ⟨rfl, rfl⟩)
        | (go_at_call 17; refine (bytes_calls (hd10.keep hc12 (by simp))).mono ?_; rintro e w13 ⟨rfl, hr13, hc13⟩)
        | (go_at_call 22; refine (same_yes hr13.reads ((hx10.keep hc12 (by simp)).keep hc13 (by simp)) (by omega) rfl).mono ?_; rintro e w14 ⟨rfl, q14, rfl⟩))
      go_ret
      exact ⟨rfl, ((q10'.next hc12).next hc13).drewN _⟩

set_option maxHeartbeats 4000000 in
set_option maxRecDepth 100000 in
theorem froms_more (A B : Option Addr) (n c m d : Nat) (w : World) (bs ms : List Int) (hx : Reads w 1 A n (bv bs)) (hy : Reads w 1 B m (bv ms)) (hr : n ≤ 140737488351232) (hr2 : m ≤ 140737488351232) (hn : n ≤ 262144) (h : n + m ≤ 262144) :
    Calls Try.prog 5 #[.slice A n c, .slice B m d] w fun e w' => e = .returned (.bool true) ∧ Chg [] w w' := by
  have h2 : ¬ (262144 : Int) < n := by omega
  have h3 : ¬ (262144 : Int) - n < m := by omega
  obtain ⟨i0, hi, hz0, hz1, hz2⟩ := info_parts Try.info5
  have lx := Lib.hid hx.len
  have b1 : ((bs.length : Int) != n) = false := by have := lx.out; simp; omega
  have b2 : bs.length ≤ n := by have := lx.out; omega
  have b3 : n ≤ bs.length := by have := lx.out; omega
  go_enter Try.func5, Try.ntmps5
  go_wp2_with (first
    | (go_at_call 19; refine (copied_calls hx hr).mono ?_; rintro e w1 ⟨rfl, hr1, hc1⟩; have hb1 : Reads (w1.alloc (.cells #[.int .u8 250, .int .u8 251, .int .u8 252] 5)) 1 (some ⟨w1.heap.size, 0, none⟩) 3 (bv marks3) := marks_read w1; have hr1' := hr1.alloc (.cells #[.int .u8 250, .int .u8 251, .int .u8 252] 5))
    | (at_builtin; refine wpList_append_row _ rfl (.tmp 11) (.tmp 12) 25 rfl 5 i0 (.int .u8 0) 1 1 Try.underlying25 hi hz0 hz1 hz2 rfl _ n n (bv bs) rfl hr1' _ 3 3 (bv marks3) rfl hb1 (bv_one _) (by unfold maxLen; omega) (grow_ok (by omega)) ?_))
  intro A' cap' w2 hrow hc2 hcase
  obtain ⟨g, hA, hgn⟩ : ∃ g, A' = some ⟨g, 0, none⟩ ∧ w.heap.size ≤ g := ⟨_, hcase.new (by omega), by have := hc1.size; simp; omega⟩
  subst hA
  have q2 : Chg [] w w2 := (hc1.alloc _).trans hc2 (fun i hi => .inr (by simp [ob] at hi; omega))
  have hcat : bv bs ++ bv marks3 = bv (bs ++ marks3) := by simp [bv]
  rw [hcat] at hrow
  have hin := (hrow.take (k := n) (by omega)).reads
  rw [bv_take] at hin
  have hcap := hrow.le
  have hmk := hrow.reads.cut (k := n) (by omega) hrow.le
  have hcn : ¬ cap' = n := by omega
  rw [bv_drop, if_neg hcn, Option.map_some, add_head, Nat.mul_one, show n + 3 - n = 3 by omega] at hmk
  have hE1 : Hid ((bs ++ marks3).take n = bs) := by unfold Hid; rw [← lx.out]; simp
  have hE2 : Hid ((bs ++ marks3).drop n = marks3) := by unfold Hid; rw [← lx.out]; simp
  rw [hE1.out] at hin
  have hlz : Hid ((bs ++ marks3).length = n + 3) := by unfold Hid; rw [List.length_append, lx.out]; rfl
  clear hcat hcase hc1 hc2 hr1 hr1' hb1
  generalize bs ++ marks3 = zs at *
  have hgw := hrow.lt g (by simp [ob])
  go_wp2_with (first
    | (go_at_call 23; refine (from_ok hin hn).mono ?_; rintro e w3 ⟨p, S, rfl, hd3, hc3, hS3⟩)
    | (go_at_call 22; (with_reducible refine (same_yes (hin.keep hc3 (by simp)) (hx.keep (q2.next hc3) (by simp)) (by omega) rfl).mono ?_); rintro e w4 ⟨rfl, q, rfl⟩; have hm5 : Reads ((w3.drewN q).alloc (.cells #[.int .u8 250, .int .u8 251, .int .u8 252] 5)) 1 (some ⟨w3.heap.size, 0, none⟩) 3 (bv marks3) := marks_read (w3.drewN q); have hm6 := (hmk.keep hc3 (by simp)).keep ((Chg.drewN (Chg.refl [] w3) q).alloc (.cells #[.int .u8 250, .int .u8 251, .int .u8 252] 5)) (by simp))
    | (go_at_call 22; (with_reducible refine (same_yes hm6 hm5 (by omega) hE2.out).mono ?_); rintro e w6 ⟨rfl, q', rfl⟩))
  have r7 : Chg [] w2 (((w3.drewN q).alloc (.cells #[.int .u8 250, .int .u8 251, .int .u8 252] 5)).drewN q') := (((hc3.drewN q).alloc _).drewN q')
  have s7 : Chg [] w3 (((w3.drewN q).alloc (.cells #[.int .u8 250, .int .u8 251, .int .u8 252] 5)).drewN q') := ((((Chg.refl [] w3).drewN q).alloc _).drewN q')
  have hrow7 := hrow.keep r7 (by simp)
  have hd7 := hd3.keep s7 (by simp)
  clear hd3
  clear hm5 hm6 hmk hin hE1 hE2
  generalize (((w3.drewN q).alloc (.cells #[.int .u8 250, .int .u8 251, .int .u8 252] 5)).drewN q') = w7 at *
  go_loopw [9] (fun i wr => ∃ (k : Nat) (xs : List Int), k ≤ n + 3 ∧ i = .int .i64 k ∧ Row wr 5 1 (some ⟨g, 0, none⟩) (n + 3) cap' (bv xs) ∧ Chg [g] w7 wr) (fun i _ => n + 3 - (intOf i).toNat)
  case atStart => exact ⟨0, zs, Nat.zero_le _, rfl, hrow7, Chg.refl _ _⟩
  case round =>
    obtain ⟨k, xs, hk, rfl, hrw, hcw⟩ := hrel
    by_cases hlt : k < n + 3
    · obtain ⟨g', cur, hA, hbk, h1, h3, h4⟩ := hrw.blk (by omega)
      obtain rfl : g = g' := by injection hA with hA; injection hA
      have hxl := hrw.reads.len
      have hkx : k < xs.length := by omega
      have hd : wr.cell? ⟨g, k, none⟩ = some (.int .u8 (xs.getD k 0)) := by
        obtain ⟨ad, u, hA2, hu, hc⟩ := hrw.reads.at_ hlt
        obtain rfl := Option.some.inj hA2
        rw [add_head] at hc
        rw [hc]
        have : u = .int .u8 (xs.getD k 0) := by simpa [bv, hkx, List.getD] using hu.symm
        rw [this]
      have hf := hbk.frozen k
      have hset := fun x => hrw.set_ (k := k) (by omega) (.int .u8 x)
      simp only [bv_set] at hset
      have hset' := Lib.hid hset
      clear hset hbk h4 hA hrw hxl hkx hrow7 hrow
      generalize xs.getD k 0 = x0 at *
      have i1 : (k : Int) < n + 3 := by omega
      have i2 : (0 : Int) ≤ k := by omega
      go_wp2
      go_roundw
      case rel => exact ⟨k + 1, _, by omega, by go_num, hset'.out _, hcw.setCell (.inl (by simp)) _⟩
      case measure => simp [intOf]; omega
    · have i1 : ¬ (k : Int) < n + 3 := by omega
      have q8 : Chg [] w wr := (q2.next r7).trans hcw (fun i hi => .inr (by simp at hi; subst hi; exact hgn))
      have hgS : ∀ k ∈ S, k ∉ [g] := fun k hk hm => by simp at hm; have := hS3 k hk; omega
      have hd8 := hd7.keep hcw hgS
      have hS8 : ∀ k ∈ S, w.heap.size ≤ k := fun k hk => by have := hS3 k hk; have := q2.size; omega
      have hx8 := hx.keep q8 (by simp)
      have hy8 := hy.keep q8 (by simp)
      clear hcw r7 s7 hrow7 hrw hd7
      go_wp2_with (first
        | (go_at_call 14; refine (num_calls _ _).mono ?_; rintro e w' ⟨rfl, rfl⟩)
        | (go_at_call 16; refine (size_calls hd8).mono ?_; rintro e w' ⟨rfl, rfl⟩)
        | (go_at_call 18; refine (synced_calls hd8).mono ?_; rintro e w' ⟨rfl, rfl⟩)
        | (go_at_call 17; refine (bytes_calls hd8).mono ?_; rintro e w9 ⟨rfl, hr9, hc9⟩)
        | (go_at_call 22; refine (same_yes hr9.reads (hx8.keep hc9 (by simp)) (by omega) rfl).mono ?_; rintro e w10 ⟨rfl, q10, rfl⟩))
      have q10' : Chg [] w (w9.drewN q10) := (q8.next hc9).drewN q10
      have hd10 : Disk (w9.drewN q10) p S bs n := (hd8.keep hc9 (by simp)).drewN q10
      have hx10 : Reads (w9.drewN q10) 1 A n (bv bs) := (hx8.keep hc9 (by simp)).drewN q10
      have hy10 : Reads (w9.drewN q10) 1 B m (bv ms) := (hy8.keep hc9 (by simp)).drewN q10
      generalize w9.drewN q10 = w11 at *
      go_wp2_with (first
        | (go_at_call 19; refine (copied_calls hy10 hr2).mono ?_; rintro e w12 ⟨rfl, hr12, hc12⟩)
        | (go_at_call 15; refine (append_ok (hd10.keep hc12 (by simp)) hr12.reads (by omega)).mono ?_; rintro e w13 ⟨rfl, S13, hd13, hc13, hS13⟩)
        | (go_at_call 14; refine (num_calls _ _).mono ?_; rintro e w' ⟨rfl, rfl⟩))
      have e13 : Hid ((bs ++ ms).length = n + m ∧ (bs ++ ms).take (n + 0) = bs) := by
        have e1 := lx.out
        have e2 := hy10.len
        subst e1 e2
        exact ⟨by simp, by simp⟩
      generalize bs ++ ms = zs2 at *
      have b4 : ((zs2.length : Int) != n + m) = false := by have := e13.out.1; simp; omega
      go_wp2_with (first
        | (go_at_call 14; refine (num_calls _ _).mono ?_; rintro e w' ⟨rfl, rfl⟩)
        | (go_at_call 16; refine (size_calls hd13).mono ?_; rintro e w' ⟨rfl, rfl⟩)
        | (go_at_call 18; refine (synced_calls hd13).mono ?_; rintro e w' ⟨rfl, rfl⟩)
        | (go_at_call 20; refine (crash_ok hd13 0 0 (Nat.zero_le _)).mono ?_; rintro e w14 ⟨rfl, S14, hd14, hc14, hS14⟩))
      have hSa : ∀ k ∈ S13, w.heap.size ≤ k := fun k hk => by
        rcases hS13 k hk with hh | hh
        · exact hS8 k hh
        · have := (q10'.next hc12).size; omega
      have q13 : Chg [] w w13 := (q10'.next hc12).trans hc13 (fun i hi => .inr (hS8 i hi))
      have q14 : Chg [] w w14 := q13.trans hc14 (fun i hi => .inr (hSa i hi))
      rw [e13.out.2] at hd14
      go_wp2_with (first
        | (go_at_call 14; refine (num_calls _ _).mono ?_; rintro e w' ⟨rfl, rfl⟩)
        | (go_at_call 17; refine (bytes_calls hd14).mono ?_; rintro e w15 ⟨rfl, hr15, hc15⟩)
        | (go_at_call 22; refine (same_yes hr15.reads ((hx.keep q14 (by simp)).keep hc15 (by simp)) (by omega) rfl).mono ?_; rintro e w16 ⟨rfl, q16, rfl⟩))
      go_ret
      exact ⟨rfl, (q14.next hc15).drewN _⟩

end Go.Proofs.Ytoaaneejecdglaa
