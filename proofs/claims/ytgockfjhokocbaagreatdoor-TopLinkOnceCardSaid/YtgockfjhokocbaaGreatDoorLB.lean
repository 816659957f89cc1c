/-
  PROVED: the contracts of at, newLink and push.
-/
import Derived.Test.YtgockfjhokocbaaGreatDoorLA
import Derived.Laws.Small
namespace Go.Proofs.YtgockfjhokocbaaGreatDoor
open Go.RowKit

theorem emod_neg {a n : Int} (hn : 0 < n) (ha : a < 0) : -n < a.tmod n ∧ a.tmod n ≤ 0 ∧ a % n = if a.tmod n < 0 then a.tmod n + n else a.tmod n := by
  rw [tmod_eq_if, if_neg (by omega)]
  have h1 := Int.emod_nonneg (-a) (show n ≠ 0 by omega)
  have h2 := Int.emod_lt_of_pos (-a) hn
  have hd := Int.mul_ediv_add_emod (-a) n
  generalize (-a) / n = Q at *
  generalize (-a) % n = r at *
  refine ⟨by omega, by omega, ?_⟩
  by_cases hr : r = 0
  · subst hr
    have e : a = n * (-Q) := by rw [Int.mul_neg]; omega
    rw [if_neg (by omega), e, Int.mul_emod_right]
    rfl
  · rw [if_pos (by omega)]
    have e : a = (n - r) + n * (-(Q + 1)) := by rw [Int.mul_neg, Int.mul_add]; omega
    rw [e, Int.add_mul_emod_self_left, Int.emod_eq_of_lt (by omega) (by omega)]
    omega
set_option maxRecDepth 100000 in
theorem at_calls (w : World) (a n : Int) (hn : 1 ≤ n) (hn2 : n ≤ 100000) :
    Calls Tryz.prog 17 #[.int .i64 a, .int .i64 n] w fun e w' => e = .returned (.int .i64 (a % n)) ∧ w = w' := by
  by_cases ha : 0 ≤ a
  · have hp := Int.emod_nonneg a (show n ≠ 0 by omega)
    go_enter Tryz.func17, Tryz.ntmps17
    go_wp2
    go_ret
    exact ⟨rfl, rfl⟩
  · obtain ⟨h3, h4, h5⟩ := emod_neg (show 0 < n by omega) (show a < 0 by omega)
    have H5 := Lib.hid h5
    clear h5
    by_cases ht : a.tmod n < 0
    · go_enter Tryz.func17, Tryz.ntmps17
      go_wp2
      go_ret
      exact ⟨ret_int (by rw [H5.out, if_pos ht]), rfl⟩
    · go_enter Tryz.func17, Tryz.ntmps17
      go_wp2
      go_ret
      exact ⟨ret_int (by rw [H5.out, if_neg (by omega)]), rfl⟩

def lk0 : Lk := ⟨0, 0, 0, [], [], [], 0⟩
theorem inv0 : Inv lk0 := ⟨Nat.le_refl _, Nat.le_refl _, Nat.le_refl _, by simp [lk0], by simp [lk0], by simp [lk0], by simp [lk0]⟩

def lam0 (a b c i : Nat) : Nat := if i < a then 1 else if i < b then 2 else if i < c then 3 else 0
theorem lam0_1 {a b c i : Nat} (h : i < a) : lam0 a b c i = 1 := if_pos h
theorem lam0_2 {a b c i : Nat} (h : a ≤ i) (h2 : i < b) : lam0 a b c i = 2 := by unfold lam0; rw [if_neg (by omega), if_pos h2]
theorem lam0_3 {a b c i : Nat} (h : a ≤ i) (h2 : b ≤ i) (h3 : i < c) : lam0 a b c i = 3 := by unfold lam0; rw [if_neg (by omega), if_neg (by omega), if_pos h3]
theorem lam0_0 {a b c i : Nat} (h : a ≤ i) (h2 : b ≤ i) (h3 : c ≤ i) : lam0 a b c i = 0 := by unfold lam0; rw [if_neg (by omega), if_neg (by omega), if_neg (by omega)]
theorem newLink_calls (w : World) : Calls Tryz.prog 4 #[] w fun e w' => ∃ q, e = .returned (.pointer (some ⟨q, 0, none⟩)) ∧ LinkIs w.heap.size w' q lk0 ∧ Chg [] w w' := by
  have HN := Lib.hid (net_new w)
  have HO : Hid (∀ w1, Calls Tryz.prog 15 #[.int .i64 8] w1 fun e w' => ∃ p S, e = .returned (.tuple #[.pointer (some ⟨p, 0, none⟩), .int .i64 0]) ∧ Box w' p S 8 St.new ∧ Chg [] w1 w' ∧ ∀ k ∈ S, w1.heap.size ≤ k) := fun w1 => new_ok w1 8 (by omega) (by omega)
  go_enter Tryz.func4, Tryz.ntmps4
  go_wp2_with (first
    | (go_at_call 14; refine HN.out.mono ?_; rintro e w1 ⟨np, nb, rfl, hn, hc1, hnp, hnb⟩; have HN1 := Lib.hid hn; have HC1 := Lib.hid hc1; clear hn hc1)
    | (go_at_call 15; refine (HO.out _).mono ?_; rintro e w2 ⟨op, S, rfl, hb, hc2, hS⟩; have HB2 := Lib.hid hb; have HC2 := Lib.hid hc2; have HS2 := Lib.hid hS; clear hb hc2 hS)
    | (go_at_call 16; refine (in_new _).mono ?_; rintro e w3 ⟨ip, ib, rfl, hi, hc3, hip, hib⟩; have HI3 := Lib.hid hi; have HC3 := Lib.hid hc3; clear hi hc3))
  go_ret
  have c1 := HC1.out
  have c2 := HC2.out
  have c3 := HC3.out
  have hq : Chg [] w3 (w3.alloc (.cells #[.pointer (some ⟨np, 0, none⟩), .pointer (some ⟨op, 0, none⟩), .pointer (some ⟨ip, 0, none⟩), .slice none 0 0, .slice none 0 0] 35)) := (Chg.refl _ _).alloc _
  have c24 := (c2.next c3).next hq
  have c34 := c3.next hq
  have z1 := c1.size
  have z2 := c2.size
  have z3 := c3.size
  have lnp := HN1.out.blk.lt
  have lnb := HN1.out.map.lt
  have lip := HI3.out.1.lt
  have lib := HI3.out.2.1.lt
  have lop : ∀ i ∈ S, i < w2.heap.size := HB2.out.lt
  have hS2 := HS2.out
  refine ⟨w3.heap.size, rfl, ⟨⟨lam0 w1.heap.size w2.heap.size w3.heap.size, np, nb, op, S, ip, ib, none, 0, none, 0⟩, ?_⟩, (c1.next c2).next c34⟩
  refine ⟨Blk.new _ _ _, HN1.out.next c24, HB2.out.keep c34 (by simp), HI3.out.keep hq (by simp) (by simp), Row.nil _ _ _, Row.nil _ _ _, ?_, ?_, ?_, by simp [raw, lk0], fun i hi => ?_, ?_, ?_, by simp [ob], by simp [ob]⟩
  · exact ⟨lam0_0 (by omega) (by omega) (by omega), by omega⟩
  · exact ⟨lam0_1 lnp, hnp⟩
  · exact ⟨lam0_1 lnb, hnb⟩
  · have h1 := hS2 i hi
    have h2 := lop i hi
    exact ⟨lam0_2 h1 h2, by omega⟩
  · exact ⟨lam0_3 (Nat.le_trans z2 hip) hip lip, Nat.le_trans z1 (Nat.le_trans z2 hip)⟩
  · exact ⟨lam0_3 (Nat.le_trans z2 hib) hib lib, Nat.le_trans z1 (Nat.le_trans z2 hib)⟩

/-- What push makes of a link. -/
def pushed' (x : Lk) (v : Nat) : Lk := if x.pushed.length = 4096 then x else { x with pushed := x.pushed ++ [v] }
theorem pushed'_inv {x : Lk} (h : Inv x) {v : Nat} (hv : v ≤ 4095) : Inv (pushed' x v) ∧ Later x (pushed' x v) ∧ x.pushed.length ≤ (pushed' x v).pushed.length ∧ (pushed' x v).l = x.l ∧ (pushed' x v).nx = x.nx := by
  unfold pushed'
  split
  · exact ⟨h, ⟨Nat.le_refl _, Nat.le_refl _, Nat.le_refl _, fun _ _ h => h, by omega⟩, Nat.le_refl _, rfl, rfl⟩
  · rename_i hn
    have hl := h.len
    have hpre : ∀ (i u : Nat), x.pushed[i]? = some u → (x.pushed ++ [v])[i]? = some u := fun i u hi => by
      obtain ⟨h1, _⟩ := List.getElem?_eq_some_iff.1 hi
      rw [List.getElem?_append_left h1]; exact hi
    refine ⟨⟨h.a_cum, h.cum_s, by have := h.s_len; simp; omega, by simp; omega, fun u hu => ?_, fun p hp => ?_, fun y hy => ?_⟩, ⟨Nat.le_refl _, Nat.le_refl _, Nat.le_refl _, hpre, by simp⟩, by simp, rfl, rfl⟩
    · rcases List.mem_append.1 hu with hu | hu
      · exact h.val u hu
      · simp at hu; omega
    · obtain ⟨h1, h2, h3, u, h4, h5⟩ := h.held p hp
      exact ⟨h1, h2, h3, u, hpre _ _ h4, h5⟩
    · exact DgOk.later (x := x) (Nat.le_refl _) (Nat.le_refl _) hpre (h.fly y hy)

theorem obSt_push {x : Lk} (h : Inv x) (v : Nat) (hn : x.pushed.length ≠ 4096) : (obSt x).push v = (((x.pushed.length + 1 : Nat) : Int), 0, obSt { x with pushed := x.pushed ++ [v] }) := by
  have h1 := h.a_cum
  have h2 := h.cum_s
  have h3 := h.s_len
  have hl : (obSt x).last = x.pushed.length := by simp [obSt, St.last]; omega
  unfold St.push
  rw [if_neg (by omega), hl]
  simp only [obSt, Prod.mk.injEq, true_and, St.mk.injEq]
  refine ⟨by omega, ?_⟩
  rw [List.drop_append_of_le_length (by omega)]
  simp
theorem obSt_full {x : Lk} (h : Inv x) (v : Nat) (hn : x.pushed.length = 4096) : (obSt x).push v = (0, 81, obSt x) := by
  have h1 := h.a_cum
  have h2 := h.cum_s
  have h3 := h.s_len
  have hl : (obSt x).last = x.pushed.length := by simp [obSt, St.last]; omega
  unfold St.push
  rw [if_pos (by omega)]

set_option maxRecDepth 100000 in
set_option maxHeartbeats 1000000 in
theorem lk_push {B0 : Nat} {w : World} {q : Nat} {x : Lk} (hB : B0 ≤ w.heap.size) (hi : Inv x) (h : LinkIs B0 w q x) (v : Int) :
    Calls Tryz.prog 5 #[.pointer (some ⟨q, 0, none⟩), .int .i64 v] w fun e w' => e = .returned (.bool true) ∧ LinkIs B0 w' q (pushed' x (v % 4096).toNat) ∧ Below B0 w w' := by
  obtain ⟨g, h⟩ := h
  obtain ⟨u, hu⟩ : ∃ u : Nat, u = (v % 4096).toNat := ⟨_, rfl⟩
  have hu2 : v % 4096 = (u : Int) := by omega
  rw [← hu]
  have hA : Calls Tryz.prog 17 #[.int .i64 v, .int .i64 4096] w fun e w' => e = .returned (.int .i64 (u : Int)) ∧ w = w' := by
    rw [← hu2]; exact at_calls w v 4096 (by omega) (by omega)
  have HA := Lib.hid hA
  have HP := Lib.hid (push_calls h.box (u : Int))
  have H := Lib.hid h
  have HI := Lib.hid hi
  have c1 := h.blk.cell 1
  have hlen := hi.len
  clear hA hu hu2
  by_cases hf : x.pushed.length = 4096
  · have hf4 : (x.pushed.length : Int) = 4096 := by omega
    have E : Hid ((raw x).ob.push (u : Int) = (0, 81, obSt x)) := obSt_full hi u hf
    have E2 : Hid (pushed' x u = x) := by simp [Hid, pushed', hf]
    rw [E.out] at HP
    clear h hi hf
    go_enter Tryz.func5, Tryz.ntmps5
    go_wp2_with (go_at_call 17; refine HA.out.mono ?_; rintro e w1 ⟨rfl, rfl⟩)
    refine HP.out.mono ?_
    rintro e w2 ⟨rfl, hl⟩
    obtain ⟨g', _, _, _, _, _, h2, hc2⟩ := H.out.box' hB hl
    have c3 := h2.blk.cell 3
    have H2 := Lib.hid h2
    have HC2 := Lib.hid (hc2.below (B := B0) H.out.base.2.2.1 hB)
    have hps : (raw x).ps.length = x.pushed.length := rfl
    simp only [hps] at c3
    clear h2 hc2 hl hps
    go_wp2_with fail
    go_ret
    rw [E2.out]
    exact ⟨rfl, ⟨g', H2.out⟩, HC2.out⟩
  · have hf4 : ¬ (x.pushed.length : Int) = 4096 := by omega
    have hf5 : ((x.pushed.length : Int) == 4096) = false := beq_eq_false_iff_ne.2 hf4
    have E : Hid ((raw x).ob.push (u : Int) = (((x.pushed.length + 1 : Nat) : Int), 0, obSt { x with pushed := x.pushed ++ [u] })) := obSt_push hi u hf
    have E2 : Hid (pushed' x u = { x with pushed := x.pushed ++ [u] }) := by simp [Hid, pushed', hf]
    have hn : x.pushed.length < 4096 := by omega
    rw [E.out] at HP
    obtain ⟨i0, hi0, hz0, hz1, hz2⟩ := info_parts Tryz.info3
    obtain ⟨ln, hln⟩ : ∃ ln, ln = x.pushed.length := ⟨_, rfl⟩
    rw [← hln] at hf4 hf5 HP hn
    have HLn := Lib.hid hln
    clear h hi hf hln hlen
    go_enter Tryz.func5, Tryz.ntmps5
    go_wp2_with (go_at_call 17; refine HA.out.mono ?_; rintro e w1 ⟨rfl, rfl⟩)
    refine HP.out.mono ?_
    rintro e w2 ⟨rfl, hl⟩
    obtain ⟨g', e1, e2, e3, e4, e5, h2, hc2⟩ := H.out.box' hB hl
    have hsz := hc2.size
    have HB2 := Lib.hid (hc2.below (B := B0) H.out.base.2.2.1 hB)
    have h3 := h2.next ((Chg.refl [] w2).alloc (.cells #[.int .i64 (u : Nat)] 3))
    have hps : (raw x).ps.length = ln := HLn.out.symm
    have c23 := h2.blk.cell 3
    have hrX := h3.prow
    have c33 := h3.blk.cell 3
    have f33 := h3.blk.frozen 3
    simp only [hps] at c23 hrX c33
    have hone := built_reads w2 3 [.int .i64 (u : Nat)]
    have H3 := Lib.hid h3
    have HRX := Lib.hid hrX
    have HO := Lib.hid hone
    have hB3 : Hid (B0 ≤ (w2.alloc (.cells #[.int .i64 (u : Nat)] 3)).heap.size) := by unfold Hid; simp; omega
    have HW3 : Hid (Below B0 w (w2.alloc (.cells #[.int .i64 (u : Nat)] 3))) := HB2.out.trans ((Below.refl B0 w2).alloc (by omega) _)
    clear h2 hc2 hl h3 hrX hone e1 e2 e3 e4 e5 hps
    go_wp2_with (at_builtin; refine wpList_append_row _ rfl (.tmp 30) (.tmp 32) 33 rfl 3 i0 (.int .i64 0) 1 8 Tryz.underlying33 hi0 hz0 hz1 hz2 rfl g'.PA ln g'.pc (iv x.pushed) rfl HRX.out _ 1 1 [.int .i64 (u : Nat)] rfl HO.out (by simp [Value.oneCell']) (by unfold maxLen; omega) (grow_ok (by omega)) ?_)
    intro A' cap' w4 hr4 hc4 hcase
    have hr5 : Row w4 3 1 A' (x.pushed.length + 1) cap' (iv (x.pushed ++ [u])) := by
      rw [← HLn.out]
      unfold iv at hr4 ⊢
      rw [List.map_append]
      exact hr4
    have hB4 := (H3.out.rest 4 hc4 (fun i hi => (H3.out.lP i hi).1)).1 (by omega)
    have f43 := hB4.frozen 3
    have c43 := hB4.cell 3
    obtain ⟨g5, _, _, _, _, _, h5⟩ := H3.out.push' hB3.out hr5 hc4 (fun i hi => hcase.ob_ i hi)
    have hw4 : Below B0 w4 (w4.setCell ⟨q, 3, none⟩ (.slice A' (x.pushed.length + 1) cap')) := ((Chg.refl [q] w4).setCell (.inl (by simp)) _).below (by simpa using H3.out.lq.2) (Nat.le_trans hB3.out hc4.size)
    have HW5 := Lib.hid ((HW3.out.trans (hc4.below (B := B0) H3.out.base.2.2.2.1 hB3.out)).trans hw4)
    have c53 := h5.blk.cell 3
    have h5' : LinkAt B0 (w4.setCell ⟨q, 3, none⟩ (.slice A' (x.pushed.length + 1) cap')) q g5 (raw { x with pushed := x.pushed ++ [u] }) := by
      have e : (x.pushed ++ [u]).take x.cum = x.pushed.take x.cum := List.take_append_of_le_length (by have h1 := HI.out.cum_s; have h2 := HI.out.s_len; omega)
      unfold raw
      simp only [e]
      exact h5
    have H5 := Lib.hid h5'
    have hps : (raw x).ps.length + 1 = ln + 1 := by rw [HLn.out]; rfl
    have hps2 : ((raw x).ps ++ [u]).length = ln + 1 := by rw [HLn.out]; simp [raw]
    have hps3 : x.pushed.length = ln := HLn.out.symm
    simp only [hps2, hps3] at c53 H5 HW5
    clear hps hps2 hps3 h5 h5' hw4 hr4 hr5 hc4 hcase hB4 c23 c33 f33
    go_wp2_with fail
    go_ret
    rw [E2.out]
    exact ⟨rfl, ⟨g5, H5.out⟩, HW5.out⟩
end Go.Proofs.YtgockfjhokocbaaGreatDoor
