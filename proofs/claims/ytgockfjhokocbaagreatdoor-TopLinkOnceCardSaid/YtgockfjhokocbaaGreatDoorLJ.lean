/-
  PROVED: move's arms tick, tock, and the arms at an empty network.
-/
import Derived.Test.YtgockfjhokocbaaGreatDoorLI
namespace Go.Proofs.YtgockfjhokocbaaGreatDoor
open Go.RowKit

theorem inv_beat {x : Lk} (h : Inv x) {l' : List (Nat × Dg)} {nx' : Nat} (hl : ∀ y ∈ l', y ∈ x.l ∨ IsBeat y.2 x.cum) : Inv { x with l := l', nx := nx' } :=
  ⟨h.a_cum, h.cum_s, h.s_len, h.len, h.val, h.held, fun y hy => by
    rcases hl y hy with h1 | h1
    · exact h.fly y h1
    · exact .inr (.inl ⟨x.cum, Nat.le_refl _, h1⟩)⟩
theorem tock_inv {x : Lk} (h : Inv x) {l' : List (Nat × Dg)} {nx' : Nat} (hc : (2048 ≤ x.l.length ∧ l' = x.l ∧ nx' = x.nx) ∨ (x.l.length < 2048 ∧ ∃ d, IsBeat d x.cum ∧ l' = x.l ++ [(x.nx, d)] ∧ nx' = x.nx + 1)) :
    Inv { x with l := l', nx := nx' } ∧ nx' ≤ x.nx + 1 := by
  rcases hc with ⟨_, rfl, rfl⟩ | ⟨_, d, hd, rfl, rfl⟩
  · exact ⟨inv_beat h (fun y hy => .inl hy), by omega⟩
  · refine ⟨inv_beat h (fun y hy => ?_), Nat.le_refl _⟩
    rcases List.mem_append.1 hy with h1 | h1
    · exact .inl h1
    · simp at h1
      subst h1
      exact .inr hd

set_option maxRecDepth 100000 in
set_option maxHeartbeats 1000000 in
theorem move_tick {B0 : Nat} {w : World} {q : Nat} {x : Lk} {K A B C : Int} (hB : B0 ≤ w.heap.size) (hL : Laid B0 w) (hi : Inv x) (h : LinkIs B0 w q x) (hnx : x.nx + 8 ≤ 4611686018427387904) (hk : K % 9 = 2) :
    Calls Tryz.prog 6 #[.pointer (some ⟨q, 0, none⟩), mvV K A B C] w (MoveR B0 w q x) := by
  have hc1 : Chg [] w (w.alloc (.cells #[.int .i64 K, .int .i64 A, .int .i64 B, .int .i64 C] 28)) := (Chg.refl _ _).alloc _
  have hbk := Blk.new w 28 #[.int .i64 K, .int .i64 A, .int .i64 B, .int .i64 C]
  have h1 := h.next hc1
  have HB1 := Lib.hid (below_of hB (by simp) hc1)
  have hB1 := Lib.hid (Nat.le_trans hB hc1.size)
  obtain ⟨g, hg, hC⟩ := link_count h1
  have c0 := hg.blk.cell 0
  have k0 := hbk.cell 0
  have HC := Lib.hid hC
  have HP := Lib.hid (lk_tick hB1.out (hL.below HB1.out) hi h1 hnx)
  have HA := Lib.hid (at_is (w.alloc (.cells #[.int .i64 K, .int .i64 A, .int .i64 B, .int .i64 C] 28)) K 9 2 (by omega) (by omega) hk)
  clear h hc1 hbk h1 hg hC hi hk hL hnx
  go_enter Tryz.func6, Tryz.ntmps6
  go_wp2_with (first
    | (go_at_call 19; refine HC.out.mono ?_; rintro e w1 ⟨rfl, rfl⟩)
    | (go_at_call 17; refine HA.out.mono ?_; rintro e w1 ⟨rfl, rfl⟩)
    | (go_at_call 8; refine HP.out.mono ?_; rintro e w1 ⟨rfl, hb, l', nx', hy, hi', hn, -⟩))
  go_ret
  exact ⟨rfl, HB1.out.trans hb, _, hy, hi', hn⟩

set_option maxRecDepth 100000 in
set_option maxHeartbeats 1000000 in
theorem move_tock {B0 : Nat} {w : World} {q : Nat} {x : Lk} {K A B C : Int} (hB : B0 ≤ w.heap.size) (hL : Laid B0 w) (hi : Inv x) (h : LinkIs B0 w q x) (hnx : x.nx + 8 ≤ 4611686018427387904) (hk : K % 9 = 3) :
    Calls Tryz.prog 6 #[.pointer (some ⟨q, 0, none⟩), mvV K A B C] w (MoveR B0 w q x) := by
  have hc1 : Chg [] w (w.alloc (.cells #[.int .i64 K, .int .i64 A, .int .i64 B, .int .i64 C] 28)) := (Chg.refl _ _).alloc _
  have hbk := Blk.new w 28 #[.int .i64 K, .int .i64 A, .int .i64 B, .int .i64 C]
  have h1 := h.next hc1
  have HB1 := Lib.hid (below_of hB (by simp) hc1)
  have hB1 := Lib.hid (Nat.le_trans hB hc1.size)
  obtain ⟨g, hg, hC⟩ := link_count h1
  have c0 := hg.blk.cell 0
  have k0 := hbk.cell 0
  have HC := Lib.hid hC
  have HP := Lib.hid (lk_tock hB1.out (hL.below HB1.out) hi h1 (by omega))
  have HI := Lib.hid hi
  have HA := Lib.hid (at_is (w.alloc (.cells #[.int .i64 K, .int .i64 A, .int .i64 B, .int .i64 C] 28)) K 9 3 (by omega) (by omega) hk)
  clear h hc1 hbk h1 hg hC hi hk hL hnx
  go_enter Tryz.func6, Tryz.ntmps6
  go_wp2_with (first
    | (go_at_call 19; refine HC.out.mono ?_; rintro e w1 ⟨rfl, rfl⟩)
    | (go_at_call 17; refine HA.out.mono ?_; rintro e w1 ⟨rfl, rfl⟩)
    | (go_at_call 9; refine HP.out.mono ?_; rintro e w1 ⟨rfl, hb, l', nx', hy, hcase⟩; have HCs := Lib.hid hcase; clear hcase))
  go_ret
  obtain ⟨i1, i2⟩ := tock_inv HI.out HCs.out
  exact ⟨rfl, HB1.out.trans hb, _, hy, i1, by show nx' ≤ _; omega⟩

set_option maxRecDepth 100000 in
set_option maxHeartbeats 1000000 in
theorem move_none4 {B0 : Nat} {w : World} {q : Nat} {x : Lk} {K A B C : Int} (hB : B0 ≤ w.heap.size) (hi : Inv x) (h : LinkIs B0 w q x) (h0 : x.l.length = 0) (hk : K % 9 = 4) :
    Calls Tryz.prog 6 #[.pointer (some ⟨q, 0, none⟩), mvV K A B C] w (MoveR B0 w q x) := by
  have hc1 : Chg [] w (w.alloc (.cells #[.int .i64 K, .int .i64 A, .int .i64 B, .int .i64 C] 28)) := (Chg.refl _ _).alloc _
  have hbk := Blk.new w 28 #[.int .i64 K, .int .i64 A, .int .i64 B, .int .i64 C]
  have h1 := h.next hc1
  have HB1 := Lib.hid (below_of hB (by simp) hc1)
  have hB1 := Lib.hid (Nat.le_trans hB hc1.size)
  obtain ⟨g, hg, hC⟩ := link_count h1
  have c0 := hg.blk.cell 0
  have k0 := hbk.cell 0
  rw [h0] at hC
  have HC := Lib.hid hC
  have HI := Lib.hid hi
  have H1 := Lib.hid h1
  have HA := Lib.hid (at_is (w.alloc (.cells #[.int .i64 K, .int .i64 A, .int .i64 B, .int .i64 C] 28)) K 9 4 (by omega) (by omega) hk)
  clear h hc1 hbk h1 hg hC hi hk h0
  go_enter Tryz.func6, Tryz.ntmps6
  go_wp2_with (first
    | (go_at_call 19; refine HC.out.mono ?_; rintro e w1 ⟨rfl, rfl⟩)
    | (go_at_call 17; refine HA.out.mono ?_; rintro e w1 ⟨rfl, rfl⟩))
  go_ret
  exact ⟨rfl, HB1.out, x, H1.out, HI.out, by omega⟩

set_option maxRecDepth 100000 in
set_option maxHeartbeats 1000000 in
theorem move_none5 {B0 : Nat} {w : World} {q : Nat} {x : Lk} {K A B C : Int} (hB : B0 ≤ w.heap.size) (hi : Inv x) (h : LinkIs B0 w q x) (h0 : x.l.length = 0) (hk : K % 9 = 5) :
    Calls Tryz.prog 6 #[.pointer (some ⟨q, 0, none⟩), mvV K A B C] w (MoveR B0 w q x) := by
  have hc1 : Chg [] w (w.alloc (.cells #[.int .i64 K, .int .i64 A, .int .i64 B, .int .i64 C] 28)) := (Chg.refl _ _).alloc _
  have hbk := Blk.new w 28 #[.int .i64 K, .int .i64 A, .int .i64 B, .int .i64 C]
  have h1 := h.next hc1
  have HB1 := Lib.hid (below_of hB (by simp) hc1)
  have hB1 := Lib.hid (Nat.le_trans hB hc1.size)
  obtain ⟨g, hg, hC⟩ := link_count h1
  have c0 := hg.blk.cell 0
  have k0 := hbk.cell 0
  rw [h0] at hC
  have HC := Lib.hid hC
  have HI := Lib.hid hi
  have H1 := Lib.hid h1
  have HA := Lib.hid (at_is (w.alloc (.cells #[.int .i64 K, .int .i64 A, .int .i64 B, .int .i64 C] 28)) K 9 5 (by omega) (by omega) hk)
  clear h hc1 hbk h1 hg hC hi hk h0
  go_enter Tryz.func6, Tryz.ntmps6
  go_wp2_with (first
    | (go_at_call 19; refine HC.out.mono ?_; rintro e w1 ⟨rfl, rfl⟩)
    | (go_at_call 17; refine HA.out.mono ?_; rintro e w1 ⟨rfl, rfl⟩))
  go_ret
  exact ⟨rfl, HB1.out, x, H1.out, HI.out, by omega⟩

set_option maxRecDepth 100000 in
set_option maxHeartbeats 1000000 in
theorem move_none6 {B0 : Nat} {w : World} {q : Nat} {x : Lk} {K A B C : Int} (hB : B0 ≤ w.heap.size) (hi : Inv x) (h : LinkIs B0 w q x) (h0 : x.l.length = 0) (hk : K % 9 = 6) :
    Calls Tryz.prog 6 #[.pointer (some ⟨q, 0, none⟩), mvV K A B C] w (MoveR B0 w q x) := by
  have hc1 : Chg [] w (w.alloc (.cells #[.int .i64 K, .int .i64 A, .int .i64 B, .int .i64 C] 28)) := (Chg.refl _ _).alloc _
  have hbk := Blk.new w 28 #[.int .i64 K, .int .i64 A, .int .i64 B, .int .i64 C]
  have h1 := h.next hc1
  have HB1 := Lib.hid (below_of hB (by simp) hc1)
  have hB1 := Lib.hid (Nat.le_trans hB hc1.size)
  obtain ⟨g, hg, hC⟩ := link_count h1
  have c0 := hg.blk.cell 0
  have k0 := hbk.cell 0
  rw [h0] at hC
  have HC := Lib.hid hC
  have HI := Lib.hid hi
  have H1 := Lib.hid h1
  have HA := Lib.hid (at_is (w.alloc (.cells #[.int .i64 K, .int .i64 A, .int .i64 B, .int .i64 C] 28)) K 9 6 (by omega) (by omega) hk)
  clear h hc1 hbk h1 hg hC hi hk h0
  go_enter Tryz.func6, Tryz.ntmps6
  go_wp2_with (first
    | (go_at_call 19; refine HC.out.mono ?_; rintro e w1 ⟨rfl, rfl⟩)
    | (go_at_call 17; refine HA.out.mono ?_; rintro e w1 ⟨rfl, rfl⟩))
  go_ret
  exact ⟨rfl, HB1.out, x, H1.out, HI.out, by omega⟩

set_option maxRecDepth 100000 in
set_option maxHeartbeats 1000000 in
theorem move_none7 {B0 : Nat} {w : World} {q : Nat} {x : Lk} {K A B C : Int} (hB : B0 ≤ w.heap.size) (hi : Inv x) (h : LinkIs B0 w q x) (h0 : x.l.length = 0) (hk : K % 9 = 7) :
    Calls Tryz.prog 6 #[.pointer (some ⟨q, 0, none⟩), mvV K A B C] w (MoveR B0 w q x) := by
  have hc1 : Chg [] w (w.alloc (.cells #[.int .i64 K, .int .i64 A, .int .i64 B, .int .i64 C] 28)) := (Chg.refl _ _).alloc _
  have hbk := Blk.new w 28 #[.int .i64 K, .int .i64 A, .int .i64 B, .int .i64 C]
  have h1 := h.next hc1
  have HB1 := Lib.hid (below_of hB (by simp) hc1)
  have hB1 := Lib.hid (Nat.le_trans hB hc1.size)
  obtain ⟨g, hg, hC⟩ := link_count h1
  have c0 := hg.blk.cell 0
  have k0 := hbk.cell 0
  rw [h0] at hC
  have HC := Lib.hid hC
  have HI := Lib.hid hi
  have H1 := Lib.hid h1
  have HA := Lib.hid (at_is (w.alloc (.cells #[.int .i64 K, .int .i64 A, .int .i64 B, .int .i64 C] 28)) K 9 7 (by omega) (by omega) hk)
  clear h hc1 hbk h1 hg hC hi hk h0
  go_enter Tryz.func6, Tryz.ntmps6
  go_wp2_with (first
    | (go_at_call 19; refine HC.out.mono ?_; rintro e w1 ⟨rfl, rfl⟩)
    | (go_at_call 17; refine HA.out.mono ?_; rintro e w1 ⟨rfl, rfl⟩))
  go_ret
  exact ⟨rfl, HB1.out, x, H1.out, HI.out, by omega⟩

set_option maxRecDepth 100000 in
set_option maxHeartbeats 1000000 in
theorem move_none8 {B0 : Nat} {w : World} {q : Nat} {x : Lk} {K A B C : Int} (hB : B0 ≤ w.heap.size) (hi : Inv x) (h : LinkIs B0 w q x) (h0 : x.l.length = 0) (hk : K % 9 = 8) :
    Calls Tryz.prog 6 #[.pointer (some ⟨q, 0, none⟩), mvV K A B C] w (MoveR B0 w q x) := by
  have hc1 : Chg [] w (w.alloc (.cells #[.int .i64 K, .int .i64 A, .int .i64 B, .int .i64 C] 28)) := (Chg.refl _ _).alloc _
  have hbk := Blk.new w 28 #[.int .i64 K, .int .i64 A, .int .i64 B, .int .i64 C]
  have h1 := h.next hc1
  have HB1 := Lib.hid (below_of hB (by simp) hc1)
  have hB1 := Lib.hid (Nat.le_trans hB hc1.size)
  obtain ⟨g, hg, hC⟩ := link_count h1
  have c0 := hg.blk.cell 0
  have k0 := hbk.cell 0
  rw [h0] at hC
  have HC := Lib.hid hC
  have HI := Lib.hid hi
  have H1 := Lib.hid h1
  have HA := Lib.hid (at_is (w.alloc (.cells #[.int .i64 K, .int .i64 A, .int .i64 B, .int .i64 C] 28)) K 9 8 (by omega) (by omega) hk)
  clear h hc1 hbk h1 hg hC hi hk h0
  go_enter Tryz.func6, Tryz.ntmps6
  go_wp2_with (first
    | (go_at_call 19; refine HC.out.mono ?_; rintro e w1 ⟨rfl, rfl⟩)
    | (go_at_call 17; refine HA.out.mono ?_; rintro e w1 ⟨rfl, rfl⟩))
  go_ret
  exact ⟨rfl, HB1.out, x, H1.out, HI.out, by omega⟩
end Go.Proofs.YtgockfjhokocbaaGreatDoor
