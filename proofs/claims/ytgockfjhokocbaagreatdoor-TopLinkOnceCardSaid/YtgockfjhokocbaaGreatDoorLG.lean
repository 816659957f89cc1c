/-
  PROVED: the contract of get at an Edit, and of get.
-/
import Derived.Test.YtgockfjhokocbaaGreatDoorLF
import Derived.BigQuiet
namespace Go.Proofs.YtgockfjhokocbaaGreatDoor
open Go.RowKit Go.BigFrame

/-- The link on get's way: the datagram gone, cum and held turned. -/
abbrev gx (x : Lk) (i c : Nat) (m : List (Nat × Value)) : Lk := { x with l := x.l.eraseIdx i, cum := c, held := m }
/-- What holds ahead of each round of get's loop. -/
def GetIn (B0 : Nat) (w wr : World) (q : Nat) (x : Lk) (i num k : Nat) : Prop := Below B0 w wr ∧ ∃ c m, LinkIs B0 wr q (gx x i c m) ∧ Inv (gx x i c m) ∧ x.cum ≤ c ∧ (num ≤ x.cum + 1 → num ≤ c ∨ (k = 0 ∧ c = x.cum ∧ (get (c + 1) m).isSome = true))
theorem GetIn.got {B0 : Nat} {w wr : World} {q i num k v : Nat} {x : Lk} {y : Nat × Dg} (hx : x.l[i]? = some y) (he : IsEdit y.2 num v) {c : Nat} {m : List (Nat × Value)} (hb : Below B0 w wr) (h : LinkIs B0 wr q (gx x i c m)) (hi : Inv (gx x i c m)) (hc : x.cum ≤ c)
    (hn : num ≤ x.cum + 1 → num ≤ c ∨ (k = 0 ∧ c = x.cum ∧ (get (c + 1) m).isSome = true)) (hk : k ≠ 0 ∨ get (c + 1) m = none) : GetR B0 w q x i (.returned (.bool true)) wr := by
  refine ⟨rfl, hb, _, h, hi, rfl, rfl, rfl, rfl, Nat.le_refl _, hc, fun d' num' v' hd' he' hle => ?_, fun d' n hd' hb' => ?_⟩
  · rw [hx] at hd'
    cases hd'
    have e := edit_num he he'
    subst e
    rcases hn hle with h1 | ⟨h1, h2, h3⟩
    · exact h1
    · rcases hk with hk | hk
      · exact absurd h1 hk
      · rw [hk] at h3; cases h3
  · rw [hx] at hd'
    cases hd'
    have h1 := he.2.1
    rw [hb'.2.1] at h1
    cases h1

set_option maxRecDepth 100000 in
set_option maxHeartbeats 2000000 in
theorem get_edit {B0 : Nat} {w : World} {q i a num v : Nat} {x : Lk} {d : Dg} (hB : B0 ≤ w.heap.size) (hL : Laid B0 w) (hi : Inv x) (h : LinkIs B0 w q x) (hx : x.l[i]? = some (a, d)) (hn1 : 1 ≤ num) (hn2 : num ≤ x.s) (hpv : x.pushed[num - 1]? = some v) (hb : IsEdit d num v) :
    Calls Tryz.prog 20 #[.pointer (some ⟨q, 0, none⟩), .int .i64 i] w (GetR B0 w q x i) := by
  obtain ⟨g, h⟩ := h
  have HD := Lib.hid (net_deliver h.net hx)
  have H := Lib.hid h
  have HX := Lib.hid hx
  have c0 := h.blk.cell 0
  obtain ⟨b1, b2, b3, b4⟩ := hb
  have hV : dgV d = .agg #[.int .i64 1, .int .i64 0, .slice (some ⟨d.g, 0, none⟩) 19 d.cap, .bool false] := by unfold dgV dgC; rw [b1, b2, b3]; rfl
  rw [hV] at HD
  have HEd : Hid (IsEdit d num v) := ⟨b1, b2, b3, b4⟩
  have hnn : num ≤ 4096 := by have h2 := hi.s_len; have h3 := hi.len; omega
  have hn4 := Lib.hid hnn
  have hn0 := Lib.hid hn1
  have hv4 := Lib.hid (hi.val v (List.mem_of_getElem? hpv))
  have hRi := h.inb.2.1.1
  have HPt := Lib.hid (inv_put hi hRi hn2 hpv)
  have hlen := Lib.hid (held_len hi hRi)
  have HI := Lib.hid hi
  have HL := Lib.hid hL
  clear h hx hV hi hL b1 b2 b3 b4 hn2 hpv hRi
  go_enter Tryz.func20, Tryz.ntmps20
  go_wp2_with fail
  refine HD.out.mono ?_
  rintro e w1 ⟨rfl, hn1, hc1⟩
  obtain ⟨h1, hr1⟩ := link_delivered H.out HX.out hn1 hc1
  rw [HEd.out.2.2.1, HEd.out.2.2.2] at hr1
  have hB1 := Nat.le_trans hB hc1.size
  have hb1 := below_of hB (fun i hi => by simp at hi; subst hi; exact H.out.lnb.2) hc1
  have hc2 : Chg [] w1 (w1.alloc (.cells #[.int .i64 1, .int .i64 0, .slice (some ⟨d.g, 0, none⟩) 19 d.cap, .bool false] 79)) := (Chg.refl _ _).alloc _
  have HDec := Lib.hid (decode_edit (c := d.cap) ((HL.out.below hb1).keep hc2 (by simp)) (hr1.keep hc2 (by simp)).reads hn0.out hn4.out hv4.out hr1.le)
  have H2 := Lib.hid (h1.next hc2)
  have HB2 := Lib.hid (hb1.trans (below_of hB1 (by simp) hc2))
  have hB2 := Lib.hid (Nat.le_trans hB1 hc2.size)
  have hbk := Lib.hid (Blk.new w1 79 #[.int .i64 1, .int .i64 0, .slice (some ⟨d.g, 0, none⟩) 19 d.cap, .bool false])
  clear hn1 hc1 h1 hr1 hB1 hb1 hc2 c0
  go_wp2_with fail
  refine HDec.out.mono ?_
  rintro e w3 ⟨rfl, hc3⟩
  have hc4 : Chg [] w3 (w3.alloc (.cells #[.int .i64 2, .int .i64 1, .int .i64 1, .int .i64 0, .int .i64 0, .int .i64 num, .int .i64 0, .int .i64 0, .int .i64 0, .int .i64 2, .int .i64 v, .int .u8 0, .int .i64 1, .int .i64 1] 58)) := (Chg.refl _ _).alloc _
  have hc34 := hc3.next hc4
  have h4 := H2.out.next hc34
  have H4 := Lib.hid h4
  have HB4 := Lib.hid (HB2.out.trans (below_of hB2.out (by simp) hc34))
  have hB4 := Lib.hid (Nat.le_trans hB2.out hc34.size)
  have hbk4 := hc34.blk' hbk.out (by simp)
  have k1 := hbk4.cell 1
  have k3 := hbk4.cell 3
  have hbf := Blk.new w3 58 #[.int .i64 2, .int .i64 1, .int .i64 1, .int .i64 0, .int .i64 0, .int .i64 num, .int .i64 0, .int .i64 0, .int .i64 0, .int .i64 2, .int .i64 v, .int .u8 0, .int .i64 1, .int .i64 1]
  have f5 := hbf.cell 5
  have f10 := hbf.cell 10
  have m2 := h4.blk.cell 2
  have h5 := h4.next (Chg.refl [] _).drew
  have HA := Lib.hid (in_put (v := (v : Int)) h5.inb hn0.out hn4.out hlen.out)
  have H5 := Lib.hid h5
  have HB5 := Lib.hid (HB4.out.trans (below_of hB4.out (by simp) (Chg.refl [] _).drew))
  have hB5 : Hid (B0 ≤ (w3.alloc (.cells #[.int .i64 2, .int .i64 1, .int .i64 1, .int .i64 0, .int .i64 0, .int .i64 num, .int .i64 0, .int .i64 0, .int .i64 0, .int .i64 2, .int .i64 v, .int .u8 0, .int .i64 1, .int .i64 1] 58)).drew.heap.size) := hB4.out
  clear hc3 hc4 hc34 hbk4 h4 hbf h5
  go_wp2_with fail
  generalize w3.alloc (.cells #[.int .i64 2, .int .i64 1, .int .i64 1, .int .i64 0, .int .i64 0, .int .i64 num, .int .i64 0, .int .i64 0, .int .i64 0, .int .i64 2, .int .i64 v, .int .u8 0, .int .i64 1, .int .i64 1] 58) = W at *
  go_still_tail 9, (by kernel_rfl)
  change wpList _ _ _ _ _ (World.drew _)
  clear k1 k3 f5 f10 m2
  go_wp2_with (go_at_call 34; refine HA.out.mono ?_; rintro e w6 ⟨⟨cc, rfl⟩, hi6, hc6⟩)
  have hG : Hid (GetIn B0 w w6 q x i num 0) := by
    refine ⟨HB5.out.trans (below_of hB5.out (fun k hk => by simp at hk; subst hk; exact H5.out.lib.2) hc6), x.cum, _, ⟨_, H5.out.inb' hi6 (hc6.mono (fun k hk => .inl (by simp at hk; simp [hk])))⟩, ?_, Nat.le_refl _, fun hle => ?_⟩
    · exact inv_erase HPt.out.1 i
    · by_cases hle2 : num ≤ x.cum
      · exact .inl hle2
      · have e : num = x.cum + 1 := by omega
        refine .inr ⟨rfl, rfl, ?_⟩
        have := HPt.out.2 e
        rw [← e]; exact this
  clear hi6 hc6 HD HDec H2 H4 H5 HB2 hB2 HB4 hB4 HB5 hB5 hbk HPt HA H hlen
  go_loopw [4, 9] (fun r i9 wr => ∃ k : Nat, k ≤ 9 ∧ i9 = .int .i64 k ∧ r = .bool false ∧ Hid (GetIn B0 w wr q x i num k)) (fun _ i9 _ => 9 - (intOf i9).toNat)
  case atStart => exact ⟨0, Nat.zero_le _, rfl, rfl, hG⟩
  case round =>
    obtain ⟨k, hk, rfl, rfl, hst⟩ := hrel
    clear hG
    obtain ⟨hbw, c, m, ⟨g1, h1⟩, hi1, hcl, hnum⟩ := hst.out
    have HI1 := Lib.hid hi1
    have HBw := Lib.hid hbw
    have HNum := Lib.hid hnum
    have HCl := Lib.hid hcl
    clear hst hbw hi1 hcl hnum
    by_cases hlt : k < 9
    · have h1d := h1.next (Chg.refl [] wr).drew
      have c2 := h1.blk.cell 2
      cases hg : get (c + 1) m with
      | none =>
        have hH := in_head h1.inb
        have hg' : get ((raw (gx x i c m)).cum + 1) (raw (gx x i c m)).held = none := hg
        rw [hg'] at hH
        have HH := Lib.hid hH
        have HG := Lib.hid hg
        have H1 := Lib.hid h1
        clear hH hg' hg h1 h1d
        go_wp2_with (go_at_call 35; refine HH.out.mono ?_; rintro e w2 ⟨rfl, nd, rfl⟩)
        go_ret
        have hcd : Chg [] wr (wr.drewN nd) := (Chg.refl _ _).drewN nd
        exact GetIn.got HX.out HEd.out (HBw.out.trans (below_of (Nat.le_trans hB HBw.out.size) (by simp) hcd)) ⟨g1, H1.out.next hcd⟩ HI1.out HCl.out HNum.out (.inr HG.out)
      | some u =>
        obtain ⟨hip, v1, rfl, hv1, hclt⟩ := inv_pop (x := gx x i c m) HI1.out h1.inb.2.1.1 hg
        have hH := in_head h1.inb
        have hg' : get ((raw (gx x i c m)).cum + 1) (raw (gx x i c m)).held = some (.int .i64 (v1 : Nat)) := hg
        rw [hg', Option.getD_some, Option.isSome_some] at hH
        have HH := Lib.hid hH
        have HG' := Lib.hid hg'
        have H1 := Lib.hid h1
        have HV1 : Hid (x.pushed[c]? = some v1) := hv1
        have HIp := Lib.hid hip
        have hclt' : c < x.pushed.length := hclt
        have hc4096 : c < 4096 := by have := HI.out.len; omega
        have HC4 := Lib.hid hc4096
        obtain ⟨ln, hln⟩ : ∃ ln, ln = x.pushed.length := ⟨_, rfl⟩
        rw [← hln] at hclt'
        have HLn := Lib.hid hln
        have HCn := Lib.hid hclt'
        have hqs : (raw (gx x i c m)).qs.length = c := by simp [raw]; omega
        have HQs := Lib.hid hqs
        obtain ⟨i0, hi0, hz0, hz1, hz2⟩ := info_parts Tryz.info3
        clear hH hg' hg h1 h1d hv1 hip hclt hln hqs hclt'
        go_wp2_with fail
        refine HH.out.mono ?_
        rintro e w2 ⟨rfl, nd, rfl⟩
        have hcd : Chg [] wr (wr.drewN nd) := (Chg.refl _ _).drewN nd
        have h2 := H1.out.next hcd
        have HB2 := Lib.hid (HBw.out.trans (below_of (Nat.le_trans hB HBw.out.size) (by simp) hcd))
        have hB2 : Hid (B0 ≤ (wr.drewN nd).heap.size) := Nat.le_trans hB HB2.out.size
        generalize wr.drewN nd = w2 at *
        have h3 := h2.next ((Chg.refl [] w2).alloc (.cells #[.int .i64 (v1 : Nat)] 3))
        have c24 := h2.blk.cell 4
        have hrX := h3.qrow
        have c34 := h3.blk.cell 4
        have f34 := h3.blk.frozen 4
        simp only [HQs.out] at c24 hrX c34
        have hone := built_reads w2 3 [.int .i64 (v1 : Nat)]
        have H3 := Lib.hid h3
        have HRX := Lib.hid hrX
        have HO := Lib.hid hone
        have hB3 : Hid (B0 ≤ (w2.alloc (.cells #[.int .i64 (v1 : Nat)] 3)).heap.size) := by unfold Hid; simp; have := hB2.out; omega
        have HW3 : Hid (Below B0 w (w2.alloc (.cells #[.int .i64 (v1 : Nat)] 3))) := HB2.out.trans ((Below.refl B0 w2).alloc hB2.out _)
        clear h2 h3 hrX hone hcd
        go_wp2_with (at_builtin; refine wpList_append_row _ rfl (.tmp 75) (.tmp 77) 33 rfl 3 i0 (.int .i64 0) 1 8 Tryz.underlying33 hi0 hz0 hz1 hz2 rfl g1.QA c g1.qc (iv (x.pushed.take c)) rfl HRX.out _ 1 1 [.int .i64 (v1 : Nat)] rfl HO.out (by simp [Value.oneCell']) (by unfold maxLen; have := HC4.out; omega) (grow_ok (by have := HC4.out; omega)) ?_)
        intro A' cap' w4 hr4 hc4 hcase
        have hr5 : Row w4 3 1 A' ((raw (gx x i c m)).qs.length + 1) cap' (iv ((raw (gx x i c m)).qs ++ [v1])) := by
          rw [HQs.out]
          unfold iv at hr4 ⊢
          rw [List.map_append]
          exact hr4
        have hB4 := (H3.out.rest 5 hc4 (fun i hi => (H3.out.lQ i hi).1)).1 (by omega)
        have f44 := hB4.frozen 4
        have c44 := hB4.cell 4
        obtain ⟨g5, -, -, -, -, -, -, -, -, -, h5⟩ := H3.out.pop' hB3.out hr5 hc4 (fun i hi => hcase.ob_ i hi)
        have hw4 : Below B0 w4 (w4.setCell ⟨q, 4, none⟩ (.slice A' ((raw (gx x i c m)).qs.length + 1) cap')) := ((Chg.refl [q] w4).setCell (.inl (by simp)) _).below (by simpa using H3.out.lq.2) (Nat.le_trans hB3.out hc4.size)
        have hW5 := (HW3.out.trans (hc4.below (B := B0) H3.out.base.2.2.2.2.1 hB3.out)).trans hw4
        have hps2 : ((raw (gx x i c m)).qs ++ [v1]).length = c + 1 := by rw [List.length_append, HQs.out]; rfl
        simp only [HQs.out] at h5 hW5
        have c52 := h5.blk.cell 2
        have HP := Lib.hid (in_pop h5.inb HG'.out HC4.out)
        have H5 := Lib.hid h5
        have HW5 := Lib.hid hW5
        clear hps2 h5 hw4 hr4 hr5 hc4 hcase hB4 c24 c34 f34 hW5
        go_wp2_with fail
        refine HP.out.mono ?_
        rintro e w7 ⟨rfl, hi7, hc7⟩
        have h7 := H5.out.inb' hi7 hc7
        have HW7 := Lib.hid (HW5.out.trans (below_of (Nat.le_trans hB HW5.out.size) H5.out.base.2.1 hc7))
        have hps : (raw (gx x i c m)).ps.length = ln := by rw [HLn.out]; rfl
        have hps2 : ((raw (gx x i c m)).qs ++ [v1]).length = c + 1 := by rw [List.length_append, HQs.out]; rfl
        have hrow := h7.prow
        have c73 := h7.blk.cell 3
        have c74 := h7.blk.cell 4
        simp only [hps, hps2] at c73 c74 hrow
        obtain ⟨ad, ead, hcl⟩ := hrow.reads.2 (by have := HCn.out; omega)
        obtain ⟨zz, cur, eA, _⟩ := hrow.blk (by have := HCn.out; omega)
        rw [eA] at ead c73
        obtain rfl : (⟨zz, 0, none⟩ : Addr) = ad := Option.some.inj ead
        have cP := hcl c (.int .i64 (v1 : Nat)) (by show (iv x.pushed)[c]? = _; unfold iv; rw [List.getElem?_map, HV1.out]; rfl)
        rw [add_head] at cP
        have H7 := Lib.hid h7
        have hcn := HCn.out
        obtain ⟨c1, hc1⟩ : ∃ c1, c1 = c + 1 := ⟨_, rfl⟩
        rw [← hc1] at c74
        have hd1 : decide ((ln : Int) < (c1 : Int)) = false := decide_eq_false (by omega)
        have hd2 : decide (ln < c1) = false := decide_eq_false (by omega)
        have hd3 : ¬ ln < c1 := by omega
        have i1 : (c : Int) < (ln : Int) := by omega
        have i0 : 0 ≤ (c : Int) := by omega
        have ew : IntKind.i64.wrap ((c1 : Int) - 1) = (c : Int) := by rw [hc1, IntWalk.i64_in _ (by have := HC4.out; omega)]; omega
        have HC1 := Lib.hid hc1
        clear hi7 hc7 h7 hps hps2 hrow ead hcl hcn hc1 eA
        go_wp2_with fail
        go_quiet (fail)
        go_wp2_with fail
        have hcd7 : Chg [] w7 (w7.drewN nq) := (Chg.refl _ _).drewN nq
        have h8 := H7.out.next hcd7
        have eq8 : (raw (gx x i c m)).qs ++ [v1] = x.pushed.take (c + 1) := by
          rw [List.take_add_one, HV1.out]; rfl
        simp only [eq8] at h8
        have hst8 : Hid (GetIn B0 w (w7.drewN nq) q x i num (k + 1)) :=
          ⟨HW7.out.trans (below_of (Nat.le_trans hB HW7.out.size) (by simp) hcd7), c + 1, del (c + 1) m, ⟨_, h8⟩, HIp.out, by have := HCl.out; omega, fun hle => .inl (by
            rcases HNum.out hle with t | ⟨_, t, _⟩ <;> omega)⟩
        clear h8 hcd7 eq8 c73 c74 cP ew i0 i1 hd1 hd2 hd3
        go_roundw
        case rel => exact ⟨k + 1, by omega, by go_num, rfl, hst8⟩
        case measure => simp [intOf]; omega
    · have hk9 : k = 9 := by omega
      subst hk9
      go_wp2_with fail
      go_ret
      exact GetIn.got HX.out HEd.out HBw.out ⟨g1, h1⟩ HI1.out HCl.out HNum.out (.inl (by omega))
/-- get at any datagram in flight. -/
theorem lk_get {B0 : Nat} {w : World} {q i : Nat} {x : Lk} (hB : B0 ≤ w.heap.size) (hL : Laid B0 w) (hi : Inv x) (h : LinkIs B0 w q x) (hx : i < x.l.length) :
    Calls Tryz.prog 20 #[.pointer (some ⟨q, 0, none⟩), .int .i64 i] w (GetR B0 w q x i) := by
  have hg : x.l[i]? = some (x.l[i].1, x.l[i].2) := List.getElem?_eq_getElem hx
  rcases (hi.fly _ (List.getElem_mem hx)).cases with ⟨num, v, h1, h2, h3, h4⟩ | ⟨n, h1, h2⟩ | ⟨h1, _, h3, h4⟩
  · exact get_edit hB hL hi h hg h1 h2 h3 h4
  · exact get_beat hB hL hi h hg h1 h2
  · exact get_broken hB hL hi h hg h1 h3 h4
end Go.Proofs.YtgockfjhokocbaaGreatDoor
