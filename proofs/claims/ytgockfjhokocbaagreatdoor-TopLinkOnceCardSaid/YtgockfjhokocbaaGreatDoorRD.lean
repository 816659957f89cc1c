/-
  PROVED: the contracts of Decode: a frame's message, or the refusal of what is none.
-/
import Derived.Test.YtgockfjhokocbaaGreatDoorRC
import Derived.Test.YtgockfjhokocbaaGreatDoorWB
namespace Go.Proofs.YtgockfjhokocbaaGreatDoor
open Go.RowKit

/-- Refused: the zero message and an error. -/
def DecNo (w : World) (e : Ending) (w' : World) : Prop := ∃ f, e = .returned (.tuple #[.agg #[.int .i64 0, .int .i64 0, .int .i64 0, .int .i64 0, .int .i64 0, .int .i64 0, .int .i64 0, .int .i64 0, .int .i64 0, .int .i64 0, .int .i64 0, .int .u8 0, .int .i64 0, .int .i64 0], .iface 107 (.pointer (some ⟨f, 0, none⟩))]) ∧ Chg [] w w'

set_option maxRecDepth 100000 in
set_option maxHeartbeats 1000000 in
theorem decode_bad {B : Nat} {w : World} {ad : Addr} {k c : Nat} {bs : List Nat} (h : Laid B w) (hx : Reads w 1 (some ad) (k + 4) (bv bs))
    (hl : bs.length = k + 4) (hb : Bytes bs) (hn : k ≤ 60) (hc : k + 4 ≤ c) (hne : bs.drop k ≠ sumB (crc (bs.take k))) :
    Calls Tryz.prog 32 #[.slice (some ad) (k + 4) c] w (DecNo w) := by
  have hc1 : Chg [] w (w.alloc (.cells #[.int .i64 0, .int .i64 0, .int .i64 0, .int .i64 0, .int .i64 0, .int .i64 0, .int .i64 0, .int .i64 0, .int .i64 0, .int .i64 0, .int .i64 0, .int .u8 0, .int .i64 0, .int .i64 0] 58)) := (Chg.refl [] w).alloc _
  have hb1 := Lib.hid (Blk.new w 58 #[.int .i64 0, .int .i64 0, .int .i64 0, .int .i64 0, .int .i64 0, .int .i64 0, .int .i64 0, .int .i64 0, .int .i64 0, .int .i64 0, .int .i64 0, .int .u8 0, .int .i64 0, .int .i64 0])
  have HO := Lib.hid (body_bad (c := c) (h.keep hc1 (by simp)) (hc1.reads' hx (by simp)) hl hb hn hc hne)
  have HC := Lib.hid hc1
  clear h hx hl hb hne hc1
  go_enter Tryz.func32, Tryz.ntmps32
  go_wp2_with fail
  obtain ⟨g, hg⟩ : ∃ g, g = w.heap.size := ⟨_, rfl⟩
  rw [← hg] at hb1 ⊢
  have G := Lib.hid (Nat.le_of_eq hg.symm)
  clear hg
  generalize w.alloc (.cells #[.int .i64 0, .int .i64 0, .int .i64 0, .int .i64 0, .int .i64 0, .int .i64 0, .int .i64 0, .int .i64 0, .int .i64 0, .int .i64 0, .int .i64 0, .int .u8 0, .int .i64 0, .int .i64 0] 58) = w1 at *
  refine HO.out.mono ?_
  rintro e w2 ⟨f, rfl, hf, hc2, hz2⟩
  have hb2 := Lib.hid (hc2.blk' hb1.out (by simp))
  have HC2 := Lib.hid (HC.out.next hc2)
  clear hf hc2 hz2 HO
  go_wp2_with (with_reducible refine wpList_of _ rfl (wp_store_blk 58 (.tmp 2) (.tmp 15) rfl g 58 _ #[.int .i64 0, .int .i64 0, .int .i64 0, .int .i64 0, .int .i64 0, .int .i64 0, .int .i64 0, .int .i64 0, .int .i64 0, .int .i64 0, .int .i64 0, .int .u8 0, .int .i64 0, .int .i64 0] rfl rfl hb2.out rfl (by kernel_rfl) (by simp [Value.oneCell']) ?_))
  intro w3 hb3 hc3
  have hld : (loadVar 58 ⟨g, 0, none⟩).run Tryz.prog w3 = .ok (.agg #[.int .i64 0, .int .i64 0, .int .i64 0, .int .i64 0, .int .i64 0, .int .i64 0, .int .i64 0, .int .i64 0, .int .i64 0, .int .i64 0, .int .i64 0, .int .u8 0, .int .i64 0, .int .i64 0]) w3 := run_load_cells w3 58 ⟨g, 0, none⟩ [.int .i64 0, .int .i64 0, .int .i64 0, .int .i64 0, .int .i64 0, .int .i64 0, .int .i64 0, .int .i64 0, .int .i64 0, .int .i64 0, .int .i64 0, .int .u8 0, .int .i64 0, .int .i64 0] (by
    intro j v hj
    rw [add_head, hb3.cell]
    simpa using hj) _ Tryz.underlying58 rfl (by kernel_rfl)
  clear hb3
  go_wp2_with fail
  exact bodyPost_ret (v := .tuple #[.agg #[.int .i64 0, .int .i64 0, .int .i64 0, .int .i64 0, .int .i64 0, .int .i64 0, .int .i64 0, .int .i64 0, .int .i64 0, .int .i64 0, .int .i64 0, .int .u8 0, .int .i64 0, .int .i64 0], .iface 107 (.pointer (some ⟨f, 0, none⟩))]) (results_cell2 (t := 2) (ty := 58) (u := 3) rfl _ _ _ rfl hld) rfl ⟨f, rfl, HC2.out.trans hc3 (fun i hi => .inr (by have := G.out; simp at hi; omega))⟩
end Go.Proofs.YtgockfjhokocbaaGreatDoor
