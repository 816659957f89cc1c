/-
  PROVED: the contract of move.
-/
import Derived.Test.YtgockfjhokocbaaGreatDoorLH
namespace Go.Proofs.YtgockfjhokocbaaGreatDoor
open Go.RowKit

/-- What one move leaves. -/
def MoveR (B0 : Nat) (w : World) (q : Nat) (x : Lk) (e : Ending) (w' : World) : Prop := e = .returned (.bool true) ∧ Below B0 w w' ∧ ∃ y, LinkIs B0 w' q y ∧ Inv y ∧ y.nx ≤ x.nx + 8

abbrev mvV (K A B C : Int) : Value := .agg #[.int .i64 K, .int .i64 A, .int .i64 B, .int .i64 C]

theorem at_is (w : World) (a n r : Int) (hn : 1 ≤ n) (hn2 : n ≤ 100000) (hr : a % n = r) : Calls Tryz.prog 17 #[.int .i64 a, .int .i64 n] w fun e w' => e = .returned (.int .i64 r) ∧ w = w' := hr ▸ at_calls w a n hn hn2

set_option maxRecDepth 100000 in
set_option maxHeartbeats 1000000 in
theorem move_push {B0 : Nat} {w : World} {q : Nat} {x : Lk} {K A B C : Int} (hB : B0 ≤ w.heap.size) (hi : Inv x) (h : LinkIs B0 w q x) (hk : K % 9 = 0 ∨ K % 9 = 1) :
    Calls Tryz.prog 6 #[.pointer (some ⟨q, 0, none⟩), mvV K A B C] w (MoveR B0 w q x) := by
  have hc1 : Chg [] w (w.alloc (.cells #[.int .i64 K, .int .i64 A, .int .i64 B, .int .i64 C] 28)) := (Chg.refl _ _).alloc _
  have hbk := Blk.new w 28 #[.int .i64 K, .int .i64 A, .int .i64 B, .int .i64 C]
  have h1 := h.next hc1
  have HB1 := Lib.hid (below_of hB (by simp) hc1)
  have hB1 := Lib.hid (Nat.le_trans hB hc1.size)
  obtain ⟨g, hg, hC⟩ := link_count h1
  have c0 := hg.blk.cell 0
  have k0 := hbk.cell 0
  have k1 := hbk.cell 1
  have HC := Lib.hid hC
  have HP := Lib.hid (lk_push hB1.out hi h1 A)
  have HI := Lib.hid (pushed'_inv hi (v := (A % 4096).toNat) (by omega))
  rcases hk with hk | hk
  · have HA := Lib.hid (at_is (w.alloc (.cells #[.int .i64 K, .int .i64 A, .int .i64 B, .int .i64 C] 28)) K 9 0 (by omega) (by omega) hk)
    clear h hc1 hbk h1 hg hC hi hk
    go_enter Tryz.func6, Tryz.ntmps6
    go_wp2_with (first
      | (go_at_call 19; refine HC.out.mono ?_; rintro e w1 ⟨rfl, rfl⟩)
      | (go_at_call 17; refine HA.out.mono ?_; rintro e w1 ⟨rfl, rfl⟩)
      | (go_at_call 5; refine HP.out.mono ?_; rintro e w1 ⟨rfl, hy, hb⟩))
    go_ret
    obtain ⟨i1, _, _, _, i5⟩ := HI.out
    exact ⟨rfl, HB1.out.trans hb, _, hy, i1, by omega⟩
  · have HA := Lib.hid (at_is (w.alloc (.cells #[.int .i64 K, .int .i64 A, .int .i64 B, .int .i64 C] 28)) K 9 1 (by omega) (by omega) hk)
    clear h hc1 hbk h1 hg hC hi hk
    go_enter Tryz.func6, Tryz.ntmps6
    go_wp2_with (first
      | (go_at_call 19; refine HC.out.mono ?_; rintro e w1 ⟨rfl, rfl⟩)
      | (go_at_call 17; refine HA.out.mono ?_; rintro e w1 ⟨rfl, rfl⟩)
      | (go_at_call 5; refine HP.out.mono ?_; rintro e w1 ⟨rfl, hy, hb⟩))
    go_ret
    obtain ⟨i1, _, _, _, i5⟩ := HI.out
    exact ⟨rfl, HB1.out.trans hb, _, hy, i1, by omega⟩
end Go.Proofs.YtgockfjhokocbaaGreatDoor
