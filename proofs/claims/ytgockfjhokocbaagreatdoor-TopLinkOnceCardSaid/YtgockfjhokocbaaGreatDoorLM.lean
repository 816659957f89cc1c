/-
  PROVED: what holds between the rounds at the link's end; what a round adds.
-/
import Derived.Test.YtgockfjhokocbaaGreatDoorLL
namespace Go.Proofs.YtgockfjhokocbaaGreatDoor
open Go.RowKit

/-- A move's cells. -/
abbrev mvC (K A B C : Int) : List Value := [.int .i64 K, .int .i64 A, .int .i64 B, .int .i64 C]
/-- The slice of moves: n of them, at A. -/
def MovesAt (w : World) (A : Option Addr) (n : Nat) : Prop := ∀ k, k < n → ∃ ad K M B C, A = some ad ∧ ∀ j v, (mvC K M B C)[j]? = some v → w.cell? ((ad.add (k * 4)).add j) = some v
theorem MovesAt.below {w w' : World} {A : Option Addr} {n : Nat} (h : MovesAt w A n) (hb : Below w.heap.size w w') : MovesAt w' A n := by
  intro k hk
  obtain ⟨ad, K, M, B, C, e, hc⟩ := h k hk
  exact ⟨ad, K, M, B, C, e, fun j v hj => (hb.cell (World.block_lt_of_cell? _ _ (hc j v hj))).trans (hc j v hj)⟩

/-- Between the moves. -/
def MvIn (B0 : Nat) (w wr : World) (q k : Nat) : Prop := Below B0 w wr ∧ ∃ x, LinkIs B0 wr q x ∧ Inv x ∧ x.nx ≤ 8 * k
theorem MvIn.next {B0 : Nat} {w wr w' : World} {q k : Nat} {x : Lk} {e : Ending} (hb : Below B0 w wr) (hn : x.nx ≤ 8 * k) (h : MoveR B0 wr q x e w') : e = .returned (.bool true) ∧ MvIn B0 w w' q (k + 1) := by
  obtain ⟨e1, hb2, y, hy, hi, hnx⟩ := h
  exact ⟨e1, hb.trans hb2, y, hy, hi, by omega⟩

/-- Between the rounds. -/
structure RndOf (ln k m : Nat) (y : Lk) : Prop where
  inv : Inv y
  l : y.l = []
  len : y.pushed.length = ln
  a : min (8 * k) ln ≤ y.a
  nx : y.nx ≤ m + 9 * k
def RndIn (B0 : Nat) (w wr : World) (q ln k m : Nat) : Prop := Below B0 w wr ∧ ∃ y, LinkIs B0 wr q y ∧ RndOf ln k m y

/-- What tick and all leave of a round's link. -/
structure MidOf (y z : Lk) : Prop where
  inv : Inv z
  l : z.l = []
  pushed : z.pushed = y.pushed
  nx : z.nx ≤ y.nx + 8
  cum : min (y.a + 8) y.pushed.length ≤ z.cum
theorem MidOf.of {y y1 z : Lk} (hl : y.l = []) (hi : Inv y) {l' : List (Nat × Dg)} {nx' : Nat} (e : y1 = { due' y with l := l', nx := nx' }) (hn : nx' ≤ y.nx + 8)
    (hd : y.l = [] → l'.length = dueN y ∧ ∀ i (hi : i < l'.length), ∃ v, IsEdit l'[i].2 (y.a + 1 + i) v) (h : AllOf y1 y1.l.length z) : MidOf y z := by
  subst e
  obtain ⟨d1, d2⟩ := hd hl
  have h1 := h.edit hi.a_cum d2
  have h2 : y.a + l'.length ≤ z.cum := h1
  have h3 := hi.a_cum
  have h4 := hi.cum_s
  have h5 := hi.s_len
  refine ⟨h.inv, by rw [h.l]; exact List.drop_length, h.pushed, by rw [h.nx]; exact hn, ?_⟩
  unfold dueN at d1
  omega
theorem RndOf.next {ln k m : Nat} {y z z1 u : Lk} (h : RndOf ln k m y) (hm : MidOf y z) {l' : List (Nat × Dg)} {nx' : Nat} (e : z1 = { z with l := l', nx := nx' })
    (hc : (2048 ≤ z.l.length ∧ l' = z.l ∧ nx' = z.nx) ∨ (z.l.length < 2048 ∧ ∃ d, IsBeat d z.cum ∧ l' = z.l ++ [(z.nx, d)] ∧ nx' = z.nx + 1)) (hu : AllOf z1 z1.l.length u) : RndOf ln (k + 1) m u := by
  subst e
  have hz := hm.l
  rcases hc with ⟨h1, _⟩ | ⟨_, d, hd, rfl, rfl⟩
  · rw [hz] at h1; simp at h1
  · have h2 := hu.beat 0 (z.nx, d) z.cum (by simp) (by simp [hz]) hd
    have h3 := hm.cum
    have h4 := h.a
    have h5 := h.len
    have h6 := h.nx
    have h7 := hm.nx
    refine ⟨hu.inv, by rw [hu.l]; exact List.drop_length, by rw [hu.pushed]; show z.pushed.length = ln; rw [hm.pushed]; exact h.len, by omega, ?_⟩
    rw [hu.nx]
    show z.nx + 1 ≤ _
    omega

/-- Behind the last round. -/
theorem RndOf.last {ln k m : Nat} {y : Lk} (h : RndOf ln k m y) (hk : ln ≤ 8 * k) : y.a = ln ∧ y.cum = ln ∧ y.s = ln ∧ y.held = [] ∧ y.pushed.take y.cum = y.pushed ∧ (obSt y).xs = [] := by
  have h1 := h.inv.a_cum
  have h2 := h.inv.cum_s
  have h3 := h.inv.s_len
  have h4 := h.a
  have h5 := h.len
  have e1 : y.a = ln := by omega
  have e2 : y.cum = ln := by omega
  refine ⟨e1, e2, by omega, ?_, by rw [e2, ← h5]; exact List.take_length, by simp [obSt, e1, ← h5]⟩
  cases hh : y.held with
  | nil => rfl
  | cons p r =>
    obtain ⟨g1, _, g3, _⟩ := h.inv.held p (by rw [hh]; simp)
    omega
theorem below_chg {w w' : World} (h : Below w.heap.size w w') : Chg [] w w' := ⟨h.os, h.tape, h.output, h.size, fun k hk _ => h.block k hk⟩
end Go.Proofs.YtgockfjhokocbaaGreatDoor
