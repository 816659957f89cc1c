/-
  PROVED: the contract of op: the operation out of the fields.
-/
import Derived.Test.YtgockfjhokocbaaGreatDoorRB
namespace Go.Proofs.YtgockfjhokocbaaGreatDoor
open Go.RowKit

set_option maxRecDepth 100000 in
set_option maxHeartbeats 1000000 in
theorem op_calls {w : World} {p : Nat} {cs : Array Value} {a b c d : Int} (hb : Blk w p 92 cs) (h9 : cs[9]? = some (.int .i64 a)) (h10 : cs[10]? = some (.int .i64 b)) (h11 : cs[11]? = some (.int .i64 0)) (h12 : cs[12]? = some (.int .i64 c)) (h13 : cs[13]? = some (.int .i64 d)) :
    Calls Tryz.prog 52 #[.pointer (some ⟨p, 0, none⟩)] w fun e w' => e = .returned (.agg #[.int .i64 a, .int .i64 b, .int .u8 0, .int .i64 c, .int .i64 d]) ∧ Chg [] w w' := by
  have hb1 := hb.alloc (.cells #[.int .i64 0, .int .i64 0, .int .u8 0, .int .i64 0, .int .i64 0] 56)
  have k9 := (hb1.cell 9).trans h9
  have k10 := (hb1.cell 10).trans h10
  have k11 := (hb1.cell 11).trans h11
  have k12 := (hb1.cell 12).trans h12
  have k13 := (hb1.cell 13).trans h13
  have hn : Hid (Blk (w.alloc (.cells #[.int .i64 0, .int .i64 0, .int .u8 0, .int .i64 0, .int .i64 0] 56)) w.heap.size 56 #[.int .i64 0, .int .i64 0, .int .u8 0, .int .i64 0, .int .i64 0]) := Blk.new _ _ _
  have hc : Hid (Chg [] w (w.alloc (.cells #[.int .i64 0, .int .i64 0, .int .u8 0, .int .i64 0, .int .i64 0] 56))) := (Chg.refl [] w).alloc _
  clear hb h9 h10 h11 h12 h13 hb1
  go_enter Tryz.func52, Tryz.ntmps52
  go_wp2_with fail
  obtain ⟨g, hg⟩ : ∃ g, g = w.heap.size := ⟨_, rfl⟩
  rw [← hg] at hn ⊢
  have G := Lib.hid (Nat.le_of_eq hg.symm)
  clear hg
  generalize (w.alloc (.cells #[.int .i64 0, .int .i64 0, .int .u8 0, .int .i64 0, .int .i64 0] 56)) = w1 at *
  go_still_tail 22, (by kernel_rfl)
  change wpList _ _ _ _ _ w1.drew
  refine wpList_of _ rfl (wp_store_blk 56 (.tmp 2) (.tmp 24) rfl g 56 _ #[.int .i64 a, .int .i64 b, .int .u8 0, .int .i64 c, .int .i64 d] rfl rfl hn.out.drew rfl (by kernel_rfl) (by simp [Value.oneCell']) ?_)
  intro w2 hb2 hc2
  have hld : (loadVar 56 ⟨g, 0, none⟩).run Tryz.prog w2 = .ok (.agg #[.int .i64 a, .int .i64 b, .int .u8 0, .int .i64 c, .int .i64 d]) w2 := run_load_cells w2 56 ⟨g, 0, none⟩ [.int .i64 a, .int .i64 b, .int .u8 0, .int .i64 c, .int .i64 d] (by
    intro j v hj
    rw [add_head, hb2.cell]
    simpa using hj) _ Tryz.underlying56 rfl (by kernel_rfl)
  have HB2 := Lib.hid hb2
  clear hb2
  go_wp2_with fail
  exact bodyPost_ret (v := .agg #[.int .i64 a, .int .i64 b, .int .u8 0, .int .i64 c, .int .i64 d]) (results_cell1 (t := 2) (ty := 56) rfl _ _ _ rfl hld) rfl ⟨rfl, (hc.out.drew).trans hc2 (fun i hi => .inr (by have := G.out; simp at hi; omega))⟩
end Go.Proofs.YtgockfjhokocbaaGreatDoor
