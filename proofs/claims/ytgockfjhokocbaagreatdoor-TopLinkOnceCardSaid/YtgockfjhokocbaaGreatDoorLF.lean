/-
  PROVED: the contract of get at a broken datagram and at a Beat.
-/
import Derived.Test.YtgockfjhokocbaaGreatDoorLE
import Derived.StillTailTactics
namespace Go.Proofs.YtgockfjhokocbaaGreatDoor
open Go.RowKit

/-- What get leaves in memory. -/
def GetR (B0 : Nat) (w : World) (q : Nat) (x : Lk) (i : Nat) (e : Ending) (w' : World) : Prop := e = .returned (.bool true) ∧ Below B0 w w' ∧ ∃ y, LinkIs B0 w' q y ∧ Got x i y

/-- What Deliver leaves: the rest of the link, the datagram's own row. -/
theorem link_delivered {B0 : Nat} {w w' : World} {q i a : Nat} {g : Pl} {x : Rk} {d : Dg} (h : LinkAt B0 w q g x) (hx : x.l[i]? = some (a, d)) (hn : NetAt w' g.np g.nb (x.l.eraseIdx i) x.nx) (hc : Chg [g.nb] w w') :
    LinkAt B0 w' q { g with lam := relab g.lam w.heap.size 1 } { x with l := x.l.eraseIdx i } ∧ Row w' 5 1 (some ⟨d.g, 0, none⟩) d.n d.cap (bv d.bs) := by
  have hm := List.mem_of_getElem? hx
  refine ⟨h.net' hn (hc.mono (fun k hk => .inl (by simp at hk; simp [hk]))) (fun y hy => .inl (List.mem_of_mem_eraseIdx hy)), ((h.net.dg _ hm).keep hc ?_).1⟩
  simpa using (h.net.dg_ne _ hm).2

set_option maxRecDepth 100000 in
set_option maxHeartbeats 1000000 in
theorem get_broken {B0 : Nat} {w : World} {q i a : Nat} {x : Lk} {d : Dg} (hB : B0 ≤ w.heap.size) (hL : Laid B0 w) (hi : Inv x) (h : LinkIs B0 w q x) (hx : x.l[i]? = some (a, d)) (hsp : d.sp = true) (hn : d.n ≤ 64) (hb : Broken d.n d.bs) :
    Calls Tryz.prog 20 #[.pointer (some ⟨q, 0, none⟩), .int .i64 i] w (GetR B0 w q x i) := by
  obtain ⟨g, h⟩ := h
  have HD := Lib.hid (net_deliver h.net hx)
  have H := Lib.hid h
  have HX := Lib.hid hx
  have c0 := h.blk.cell 0
  have hV : dgV d = .agg #[.int .i64 (fromV d.up), .int .i64 (toV d.up), .slice (some ⟨d.g, 0, none⟩) d.n d.cap, .bool true] := by unfold dgV dgC; rw [hsp]
  rw [hV] at HD
  have HI := Lib.hid hi
  have HL := Lib.hid hL
  clear h hx hV hi hL
  go_enter Tryz.func20, Tryz.ntmps20
  go_wp2_with fail
  refine HD.out.mono ?_
  rintro e w1 ⟨rfl, hn1, hc1⟩
  obtain ⟨h1, hr1⟩ := link_delivered H.out HX.out hn1 hc1
  have hB1 := Nat.le_trans hB hc1.size
  have hb1 := below_of hB (fun i hi => by simp at hi; subst hi; exact H.out.lnb.2) hc1
  have hc2 : Chg [] w1 (w1.alloc (.cells #[.int .i64 (fromV d.up), .int .i64 (toV d.up), .slice (some ⟨d.g, 0, none⟩) d.n d.cap, .bool true] 79)) := (Chg.refl _ _).alloc _
  have HDec := Lib.hid (decode_broken (c := d.cap) ((HL.out.below hb1).keep hc2 (by simp)) hb (hr1.keep hc2 (by simp)).reads hn hr1.le)
  have H2 := Lib.hid (h1.next hc2)
  have HB2 := Lib.hid (hb1.trans (below_of hB1 (by simp) hc2))
  have hB2 := Lib.hid (Nat.le_trans hB1 hc2.size)
  have hbk := Lib.hid (Blk.new w1 79 #[.int .i64 (fromV d.up), .int .i64 (toV d.up), .slice (some ⟨d.g, 0, none⟩) d.n d.cap, .bool true])
  clear hn1 hc1 h1 hr1 hB1 hb1 hc2 c0
  go_wp2_with fail
  refine HDec.out.mono ?_
  rintro e w3 ⟨f, rfl, hc3⟩
  have hc4 : Chg [] w3 (w3.alloc (.cells #[.int .i64 0, .int .i64 0, .int .i64 0, .int .i64 0, .int .i64 0, .int .i64 0, .int .i64 0, .int .i64 0, .int .i64 0, .int .i64 0, .int .i64 0, .int .u8 0, .int .i64 0, .int .i64 0] 58)) := (Chg.refl _ _).alloc _
  have hc34 := hc3.next hc4
  have H4 := Lib.hid (H2.out.next hc34)
  have HB4 := Lib.hid (HB2.out.trans (below_of hB2.out (by simp) hc34))
  have hbk4 := hc34.blk' hbk.out (by simp)
  have k3 := hbk4.cell 3
  clear hc3 hc4 hc34 hbk4
  go_wp2_with fail
  go_ret
  exact ⟨rfl, HB4.out, _, ⟨_, H4.out⟩, inv_erase HI.out i, rfl, rfl, rfl, rfl, Nat.le_refl _, Nat.le_refl _, fun d' num v hd' he => by
    rw [HX.out] at hd'; cases hd'; have := he.1; simp [hsp] at this, fun d' n hd' he => by
    rw [HX.out] at hd'; cases hd'; have := he.1; simp [hsp] at this⟩
set_option maxRecDepth 100000 in
set_option maxHeartbeats 1000000 in
theorem get_beat {B0 : Nat} {w : World} {q i a n : Nat} {x : Lk} {d : Dg} (hB : B0 ≤ w.heap.size) (hL : Laid B0 w) (hi : Inv x) (h : LinkIs B0 w q x) (hx : x.l[i]? = some (a, d)) (hac : n ≤ x.cum) (hb : IsBeat d n) :
    Calls Tryz.prog 20 #[.pointer (some ⟨q, 0, none⟩), .int .i64 i] w (GetR B0 w q x i) := by
  obtain ⟨g, h⟩ := h
  have HD := Lib.hid (net_deliver h.net hx)
  have H := Lib.hid h
  have HX := Lib.hid hx
  have c0 := h.blk.cell 0
  obtain ⟨b1, b2, b3, b4⟩ := hb
  have hV : dgV d = .agg #[.int .i64 0, .int .i64 1, .slice (some ⟨d.g, 0, none⟩) 9 d.cap, .bool false] := by unfold dgV dgC; rw [b1, b2, b3]; rfl
  rw [hV] at HD
  have HBt : Hid (IsBeat d n) := ⟨b1, b2, b3, b4⟩
  have hcum : x.cum ≤ 4096 := by have h1 := hi.cum_s; have h2 := hi.s_len; have h3 := hi.len; omega
  have hn4 := Lib.hid (Nat.le_trans hac hcum)
  have HAc := Lib.hid hac
  have HI := Lib.hid hi
  have HL := Lib.hid hL
  clear h hx hV hi hL b1 b2 b3 b4 hac hcum
  go_enter Tryz.func20, Tryz.ntmps20
  go_wp2_with fail
  refine HD.out.mono ?_
  rintro e w1 ⟨rfl, hn1, hc1⟩
  obtain ⟨h1, hr1⟩ := link_delivered H.out HX.out hn1 hc1
  rw [HBt.out.2.2.1, HBt.out.2.2.2] at hr1
  have hB1 := Nat.le_trans hB hc1.size
  have hb1 := below_of hB (fun i hi => by simp at hi; subst hi; exact H.out.lnb.2) hc1
  have hc2 : Chg [] w1 (w1.alloc (.cells #[.int .i64 0, .int .i64 1, .slice (some ⟨d.g, 0, none⟩) 9 d.cap, .bool false] 79)) := (Chg.refl _ _).alloc _
  have HDec := Lib.hid (decode_beat (c := d.cap) ((HL.out.below hb1).keep hc2 (by simp)) (hr1.keep hc2 (by simp)).reads hn4.out hr1.le)
  have H2 := Lib.hid (h1.next hc2)
  have HB2 := Lib.hid (hb1.trans (below_of hB1 (by simp) hc2))
  have hB2 := Lib.hid (Nat.le_trans hB1 hc2.size)
  have hbk := Lib.hid (Blk.new w1 79 #[.int .i64 0, .int .i64 1, .slice (some ⟨d.g, 0, none⟩) 9 d.cap, .bool false])
  clear hn1 hc1 h1 hr1 hB1 hb1 hc2 c0
  go_wp2_with fail
  refine HDec.out.mono ?_
  rintro e w3 ⟨rfl, hc3⟩
  have hc4 : Chg [] w3 (w3.alloc (.cells #[.int .i64 6, .int .i64 1, .int .i64 1, .int .i64 0, .int .i64 0, .int .i64 0, .int .i64 n, .int .i64 0, .int .i64 0, .int .i64 0, .int .i64 0, .int .u8 0, .int .i64 0, .int .i64 0] 58)) := (Chg.refl _ _).alloc _
  have hc34 := hc3.next hc4
  have h4 := H2.out.next hc34
  have H4 := Lib.hid h4
  have HB4 := Lib.hid (HB2.out.trans (below_of hB2.out (by simp) hc34))
  have hB4 := Lib.hid (Nat.le_trans hB2.out hc34.size)
  have hbk4 := hc34.blk' hbk.out (by simp)
  have k1 := hbk4.cell 1
  have k3 := hbk4.cell 3
  have hbf := Blk.new w3 58 #[.int .i64 6, .int .i64 1, .int .i64 1, .int .i64 0, .int .i64 0, .int .i64 0, .int .i64 n, .int .i64 0, .int .i64 0, .int .i64 0, .int .i64 0, .int .u8 0, .int .i64 0, .int .i64 0]
  have f6 := hbf.cell 6
  have m1 := h4.blk.cell 1
  have h5 := h4.next (Chg.refl [] _).drew
  have hA := ack_calls h5.box (n : Int)
  have hob : ({ raw x with l := x.l.eraseIdx i } : Rk).ob = obSt x := rfl
  have hob2 : (raw x).ob = obSt x := rfl
  rw [hob2, ob_ack HI.out HAc.out] at hA
  have HA := Lib.hid hA
  have H5 := Lib.hid h5
  have HB5 := Lib.hid (HB4.out.trans (below_of hB4.out (by simp) (Chg.refl [] _).drew))
  have hB5 : Hid (B0 ≤ (w3.alloc (.cells #[.int .i64 6, .int .i64 1, .int .i64 1, .int .i64 0, .int .i64 0, .int .i64 0, .int .i64 n, .int .i64 0, .int .i64 0, .int .i64 0, .int .i64 0, .int .u8 0, .int .i64 0, .int .i64 0] 58)).drew.heap.size) := hB4.out
  clear h5 hA hob hob2
  clear hc3 hc4 hc34 hbk4 h4 hbf
  go_wp2_with fail
  generalize w3.alloc (.cells #[.int .i64 6, .int .i64 1, .int .i64 1, .int .i64 0, .int .i64 0, .int .i64 0, .int .i64 n, .int .i64 0, .int .i64 0, .int .i64 0, .int .i64 0, .int .u8 0, .int .i64 0, .int .i64 0] 58) = W at *
  go_still_tail 6, (by kernel_rfl)
  change wpList _ _ _ _ _ (World.drew _)
  clear k1 k3 f6 m1
  go_wp2_with (go_at_call 33; refine HA.out.mono ?_; rintro e w6 ⟨rfl, hl⟩)
  obtain ⟨g6, _, _, _, _, _, h6, hc6⟩ := H5.out.box' hB5.out hl
  go_ret
  refine ⟨rfl, HB5.out.trans (below_of hB5.out H5.out.base.2.2.1 hc6), { x with a := max x.a n, l := x.l.eraseIdx i }, ⟨g6, h6⟩, inv_erase (inv_ack HI.out HAc.out) i, rfl, rfl, rfl, rfl, Nat.le_max_left _ _, Nat.le_refl _, (fun d' num v hd' he => by
    rw [HX.out] at hd'; cases hd'; have h1 := he.2.1; have h2 := HBt.out.2.1; rw [h2] at h1; exact nomatch h1), fun d' m hd' he => by
    rw [HX.out] at hd'; cases hd'; have h1 := beat_num HBt.out he; rw [← h1]; exact Nat.le_max_right _ _⟩
end Go.Proofs.YtgockfjhokocbaaGreatDoor
