/-
  PROVED: Decode at an Edit's frame, at a Beat's frame, and at a frame of which one byte was changed.
-/
import Derived.Test.YtgockfjhokocbaaGreatDoorRE
namespace Go.Proofs.YtgockfjhokocbaaGreatDoor
open Go.RowKit

theorem editTurns {num pos : Nat} (h1 : 1 ≤ num) (h2 : num ≤ 4096) (h3 : pos ≤ 4095) : Turns (editV num pos) editShape true := by
  intro k hk
  have hk10 : k < 10 := hk
  have : k = 0 ∨ k = 1 ∨ k = 2 ∨ k = 3 ∨ k = 4 ∨ k = 5 ∨ k = 6 ∨ k = 7 ∨ k = 8 ∨ k = 9 := by omega
  rcases this with rfl | rfl | rfl | rfl | rfl | rfl | rfl | rfl | rfl | rfl <;> simp [editShape, editV, lo, hi, fill] <;> omega
theorem beatTurns {ack : Nat} (h2 : ack ≤ 4096) : Turns (beatV ack) beatShape false := by
  intro k hk
  have hk3 : k < 3 := hk
  have : k = 0 ∨ k = 1 ∨ k = 2 := by omega
  rcases this with rfl | rfl | rfl <;> simp [beatShape, editShape, beatV, lo, hi] <;> omega

theorem decode_edit {B : Nat} {w : World} {ad : Addr} {num pos c : Nat} (h : Laid B w) (hx : Reads w 1 (some ad) 19 (bv (framed (editB num pos)))) (h1 : 1 ≤ num) (h2 : num ≤ 4096) (h3 : pos ≤ 4095) (hc : 19 ≤ c) :
    Calls Tryz.prog 32 #[.slice (some ad) 19 c] w fun e w' => e = .returned (.tuple #[.agg #[.int .i64 2, .int .i64 1, .int .i64 1, .int .i64 0, .int .i64 0, .int .i64 num, .int .i64 0, .int .i64 0, .int .i64 0, .int .i64 2, .int .i64 pos, .int .u8 0, .int .i64 1, .int .i64 1], .nilIface]) ∧ Chg [] w w' := by
  obtain ⟨q, d, hs, _, hr⟩ := h.edit
  exact decode_any (a0 := 2) (a1 := 1) (a2 := 1) (a3 := 0) (a4 := 0) (a5 := num) (a6 := 0) (a7 := 0) (a8 := 0) (a9 := 2) (a10 := pos) (a12 := 1) (a13 := 1) (S := editShape) (N := 15) (own := true) h hx (.inl ⟨rfl, rfl⟩) hs hr (by omega) (editFits h2 h3) (editTurns h1 h2 h3) rfl (editB_length num pos) (by omega) hc
theorem decode_beat {B : Nat} {w : World} {ad : Addr} {ack c : Nat} (h : Laid B w) (hx : Reads w 1 (some ad) 9 (bv (framed (beatB ack)))) (h2 : ack ≤ 4096) (hc : 9 ≤ c) :
    Calls Tryz.prog 32 #[.slice (some ad) 9 c] w fun e w' => e = .returned (.tuple #[.agg #[.int .i64 6, .int .i64 1, .int .i64 1, .int .i64 0, .int .i64 0, .int .i64 0, .int .i64 ack, .int .i64 0, .int .i64 0, .int .i64 0, .int .i64 0, .int .u8 0, .int .i64 0, .int .i64 0], .nilIface]) ∧ Chg [] w w' := by
  obtain ⟨q, d, hs, _, hr⟩ := h.beat
  exact decode_any (a0 := 6) (a1 := 1) (a2 := 1) (a3 := 0) (a4 := 0) (a5 := 0) (a6 := ack) (a7 := 0) (a8 := 0) (a9 := 0) (a10 := 0) (a12 := 0) (a13 := 0) (S := beatShape) (N := 5) (own := false) h hx (.inr ⟨rfl, rfl⟩) hs hr (by omega) (beatFits h2) (beatTurns h2) rfl (beatB_length ack) (by omega) hc

/-- A frame of n bytes in all, one of its bytes changed. -/
def Broken (n : Nat) (bs : List Nat) : Prop := ∃ xs k d, Bytes xs ∧ xs.length + 4 = n ∧ k < n ∧ d < 256 ∧ (framed xs)[k]? ≠ some d ∧ bs = (framed xs).set k d
theorem decode_broken {B : Nat} {w : World} {ad : Addr} {n c : Nat} {bs : List Nat} (h : Laid B w) (hb : Broken n bs) (hx : Reads w 1 (some ad) n (bv bs)) (hn : n ≤ 64) (hc : n ≤ c) :
    Calls Tryz.prog 32 #[.slice (some ad) n c] w (DecNo w) := by
  obtain ⟨xs, k, d, hxs, rfl, hk, hd, hne, rfl⟩ := hb
  refine decode_bad h hx (by rw [List.length_set, framed_length]) ?_ (by omega) hc ?_
  · intro e he
    rcases List.mem_or_eq_of_mem_set he with h | h
    · exact framed_bytes hxs e h
    · omega
  · refine framed_set hxs hk hd ?_
    intro he
    apply hne
    rw [List.getElem?_eq_getElem (by rw [framed_length]; exact hk), he]
end Go.Proofs.YtgockfjhokocbaaGreatDoor
