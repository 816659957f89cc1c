/-
  PROVED: the contract of tock.
-/
import Derived.Test.YtgockfjhokocbaaGreatDoorLB
namespace Go.Proofs.YtgockfjhokocbaaGreatDoor
open Go.RowKit

theorem below_of {B0 : Nat} {S : List Nat} {w w' : World} (hB : B0 ≤ w.heap.size) (hS : ∀ i ∈ S, B0 ≤ i) (hc : Chg S w w') : Below B0 w w' := hc.below hS hB

/-- What Send leaves of a link. -/
theorem link_sent {B0 : Nat} {w w' : World} {q : Nat} {g : Pl} {x : Rk} {up sp : Bool} {n : Nat} {bs : List Nat} {e : Ending} (hB : B0 ≤ w.heap.size) (h : LinkAt B0 w q g x) (hp : PutR w g.np g.nb x.l x.nx up sp n bs e w') :
    (∃ c, e = .returned (.int .i64 c)) ∧ Below B0 w w' ∧ ∃ g' l' nx', LinkAt B0 w' q g' { x with l := l', nx := nx' } ∧ g'.np = g.np ∧ g'.nb = g.nb ∧ g'.op = g.op ∧ g'.ip = g.ip ∧ g'.ib = g.ib ∧
      ((2048 ≤ x.l.length ∧ l' = x.l ∧ nx' = x.nx ∧ e = .returned (.int .i64 73)) ∨ (x.l.length < 2048 ∧ e = .returned (.int .i64 0) ∧ ∃ d : Dg, d.up = up ∧ d.sp = sp ∧ d.n = n ∧ d.bs = bs ∧ l' = x.l ++ [(x.nx, d)] ∧ nx' = x.nx + 1)) := by
  rcases hp with ⟨h1, h2, h3, h4⟩ | ⟨h1, h2, d, h3, h4, h5, h6, h7, h8, h9⟩
  · exact ⟨⟨_, h2⟩, below_of hB h.base.1 h4, _, x.l, x.nx, h.net' h3 h4 (fun y hy => .inl hy), rfl, rfl, rfl, rfl, rfl, .inl ⟨h1, rfl, rfl, h2⟩⟩
  · refine ⟨⟨_, h2⟩, below_of hB h.base.1 h9, _, _, _, h.net' h8 h9 (fun y hy => ?_), rfl, rfl, rfl, rfl, rfl, .inr ⟨h1, h2, d, h3, h4, h6, h5, rfl, rfl⟩⟩
    rcases List.mem_append.1 hy with hy | hy
    · exact .inl hy
    · simp at hy; subst hy; exact .inr h7

set_option maxRecDepth 100000 in
set_option maxHeartbeats 1000000 in
theorem lk_tock {B0 : Nat} {w : World} {q : Nat} {x : Lk} (hB : B0 ≤ w.heap.size) (hL : Laid B0 w) (hi : Inv x) (h : LinkIs B0 w q x) (hnx : x.nx + 1 ≤ 4611686018427387904) :
    Calls Tryz.prog 9 #[.pointer (some ⟨q, 0, none⟩)] w fun e w' => e = .returned (.bool true) ∧ Below B0 w w' ∧ ∃ l' nx', LinkIs B0 w' q { x with l := l', nx := nx' } ∧
      ((2048 ≤ x.l.length ∧ l' = x.l ∧ nx' = x.nx) ∨ (x.l.length < 2048 ∧ ∃ d, IsBeat d x.cum ∧ l' = x.l ++ [(x.nx, d)] ∧ nx' = x.nx + 1)) := by
  obtain ⟨g, h⟩ := h
  have hcum : x.cum ≤ 4096 := by have h1 := hi.cum_s; have h2 := hi.s_len; have h3 := hi.len; omega
  have HC := Lib.hid (in_cum h.inb)
  have HE := Lib.hid (encode_beat hL hcum)
  have H := Lib.hid h
  have c0 := h.blk.cell 0
  have c2 := h.blk.cell 2
  have hcc : (raw x).cum = x.cum := rfl
  rw [hcc] at HC
  obtain ⟨cu, hcu⟩ : ∃ cu, cu = x.cum := ⟨_, rfl⟩
  rw [← hcu] at HC HE
  have HCu := Lib.hid hcu
  clear h hL hi hcum hcc hcu
  go_enter Tryz.func9, Tryz.ntmps9
  go_wp2_with (go_at_call 12; refine HC.out.mono ?_; rintro e w1 ⟨rfl, rfl⟩)
  refine HE.out.mono ?_
  rintro e w2 ⟨z, rfl, hz, hc2⟩
  have h2 := H.out.next hc2
  have HB2 := Lib.hid (below_of hB (by simp) hc2)
  have hB2 := Lib.hid (Nat.le_trans hB hc2.size)
  have HS := Lib.hid (net_send (c := 9) h2.net hnx false 0 1 rfl rfl hz.reads (by omega) (by omega))
  have c20 := h2.blk.cell 0
  have H2 := Lib.hid h2
  clear hz hc2 h2 c0 c2
  go_wp2_with fail
  refine HS.out.mono ?_
  rintro e w3 hp
  obtain ⟨⟨cc, rfl⟩, hb3, g', l', nx', h3, _, _, _, _, _, hcase⟩ := link_sent hB2.out H2.out hp
  have H3 := Lib.hid h3
  have HB3 := Lib.hid (HB2.out.trans hb3)
  have HCs := Lib.hid hcase
  clear hp hb3 h3 hcase
  go_wp2_with fail
  go_ret
  refine ⟨rfl, HB3.out, l', nx', ⟨g', H3.out⟩, ?_⟩
  rcases HCs.out with ⟨k1, k2, k3, _⟩ | ⟨k1, _, d, k2, k3, k4, k5, k6, k7⟩
  · exact .inl ⟨k1, k2, k3⟩
  · exact .inr ⟨k1, d, ⟨k3, k2, k4, by rw [← HCu.out]; exact k5⟩, k6, k7⟩
end Go.Proofs.YtgockfjhokocbaaGreatDoor
