/-
  PROVED: the contract of tick.
-/
import Derived.Test.YtgockfjhokocbaaGreatDoorLC
import Derived.Deep.RegionHeld3
namespace Go.Proofs.YtgockfjhokocbaaGreatDoor
open Go.RowKit

/-- How many are due. -/
def dueN (x : Lk) : Nat := min 8 (x.pushed.length - x.a)
def due' (x : Lk) : Lk := { x with s := max x.s (x.a + dueN x) }
theorem due_inv {x : Lk} (h : Inv x) : Inv (due' x) := by
  have h1 := h.a_cum
  have h2 := h.cum_s
  have h3 := h.s_len
  have hs : x.s ≤ (due' x).s := Nat.le_max_left _ _
  refine ⟨h1, Nat.le_trans h2 hs, ?_, h.len, h.val, fun p hp => ?_, fun y hy => DgOk.later (x := x) hs (Nat.le_refl _) (fun _ _ h => h) (h.fly y hy)⟩
  · show max x.s (x.a + dueN x) ≤ x.pushed.length
    unfold dueN
    omega
  · obtain ⟨k1, k2, k3, k4⟩ := h.held p hp
    exact ⟨k1, k2, Nat.le_trans k3 hs, k4⟩
theorem due_ob {x : Lk} : (obSt x).due 8 = obSt (due' x) := by
  simp [St.due, obSt, due', dueN]
theorem ob_len (x : Lk) : (obSt x).xs.length = x.pushed.length - x.a := by simp [obSt]

/-- The cells of the i-th due. -/
theorem due_cells {x : Lk} (h : Inv x) {w : World} {z m : Nat} (hm : m = dueN x) (hr : Row w 54 2 (some ⟨z, 0, none⟩) m m (itv cI (items (x.a + 1) ((obSt x).xs.take m)))) {i : Nat} (hi : i < m) :
    ∃ v : Nat, x.pushed[x.a + i]? = some v ∧ v ≤ 4095 ∧ w.cell? ⟨z, i * 2, none⟩ = some (.int .i64 ((x.a + 1 + i : Nat) : Int)) ∧ w.cell? ⟨z, i * 2 + 1, none⟩ = some (.int .i64 (v : Nat)) := by
  have hlt : x.a + i < x.pushed.length := by unfold dueN at hm; omega
  refine ⟨x.pushed[x.a + i], List.getElem?_eq_getElem hlt, h.val _ (List.getElem_mem _), ?_⟩
  obtain ⟨ad, e, hc⟩ := hr.reads.2 (by omega)
  obtain rfl : (⟨z, 0, none⟩ : Addr) = ad := Option.some.inj e
  have hl : i < ((obSt x).xs.take m).length := by rw [List.length_take, ob_len]; unfold dueN at hm; omega
  have hg := items_get (x.a + 1) i ((obSt x).xs.take m) hl
  have hi2 : i < (items (x.a + 1) ((obSt x).xs.take m)).length := by rw [items_length]; exact hl
  have hv : ((obSt x).xs.take m)[i] = ((x.pushed[x.a + i] : Nat) : Int) := by
    rw [List.getElem_take]
    simp [obSt]
  have hpair : (items (x.a + 1) ((obSt x).xs.take m))[i] = (((x.a + 1 + i : Nat) : Int), ((x.pushed[x.a + i] : Nat) : Int)) := by
    have := List.getElem?_eq_getElem hi2
    rw [hg] at this
    rw [← hv]
    exact (Option.some.inj this).symm
  have k0 := itv_get cI_len hi2 (j := 0) (u := .int .i64 ((x.a + 1 + i : Nat) : Int)) (by rw [hpair]; rfl)
  have k1 := itv_get cI_len hi2 (j := 1) (u := .int .i64 ((x.pushed[x.a + i] : Nat) : Int)) (by rw [hpair]; rfl)
  have r0 := hc _ _ k0
  have r1 := hc _ _ k1
  rw [add_head] at r0 r1
  exact ⟨r0, r1⟩

abbrev TkS (z i n v : Nat) (w' : World) : Prop := w'.cell? ⟨z, i * 2, none⟩ = some (.int .i64 (n : Nat)) ∧ w'.cell? ⟨z, i * 2 + 1, none⟩ = some (.int .i64 (v : Nat))

set_option maxRecDepth 100000 in
set_option maxHeartbeats 2000000 in
theorem lk_tick {B0 : Nat} {w : World} {q : Nat} {x : Lk} (hB : B0 ≤ w.heap.size) (hL : Laid B0 w) (hi : Inv x) (h : LinkIs B0 w q x) (hnx : x.nx + 8 ≤ 4611686018427387904) :
    Calls Tryz.prog 8 #[.pointer (some ⟨q, 0, none⟩)] w fun e w' => e = .returned (.bool true) ∧ Below B0 w w' ∧ ∃ l' nx', LinkIs B0 w' q { due' x with l := l', nx := nx' } ∧ Inv { due' x with l := l', nx := nx' } ∧ nx' ≤ x.nx + 8 ∧
      (x.l = [] → l'.length = dueN x ∧ ∀ i (hi : i < l'.length), ∃ v, IsEdit l'[i].2 (x.a + 1 + i) v) := by
  obtain ⟨g, h⟩ := h
  have HD := Lib.hid (due_calls h.box)
  have H := Lib.hid h
  have c1 := h.blk.cell 1
  have HL := Lib.hid hL
  have HI := Lib.hid hi
  have hob : (raw x).ob = obSt x := rfl
  rw [hob, ob_len] at HD
  obtain ⟨m, hm⟩ : ∃ m, m = dueN x := ⟨_, rfl⟩
  have hm0 : min 8 (x.pushed.length - x.a) = m := hm.symm
  rw [hm0] at HD
  have HM := Lib.hid hm
  have hm8 : m ≤ 8 := by rw [hm]; unfold dueN; omega
  clear h hL hi hob hm hm0
  go_enter Tryz.func8, Tryz.ntmps8
  go_wp2_with fail
  refine HD.out.mono ?_
  rintro e w1 ⟨z, rfl, hr, hl, hz⟩
  obtain ⟨g1, _, _, _, _, _, h1, hc1⟩ := H.out.box' hB hl
  rw [due_ob] at h1
  have H1 : Hid (LinkIs B0 w1 q (due' x)) := ⟨g1, h1⟩
  have HB1 := Lib.hid (below_of hB H.out.base.2.2.1 hc1)
  have HR1 := Lib.hid hr
  clear hr hl hz h1 hc1 c1 HD
  go_wp2_with fail
  have hst0 : Hid (∃ l' nx', LinkIs B0 w1 q { due' x with l := l', nx := nx' } ∧ nx' ≤ x.nx + 0 ∧ (∀ y ∈ l', DgOk (due' x) y.2) ∧ (x.l = [] → l'.length = 0 ∧ ∀ i (hi : i < l'.length), ∃ v, IsEdit l'[i].2 (x.a + 1 + i) v)) :=
    ⟨x.l, x.nx, H1.out, Nat.le_refl _, (due_inv HI.out).fly, fun e => ⟨by rw [e]; rfl, fun i hi => by rw [e] at hi; cases hi⟩⟩
  go_loopw [2, 4] (fun r i wr => ∃ k, k ≤ m ∧ i = .int .i64 k ∧ r = .bool false ∧ Hid (∃ l' nx', LinkIs B0 wr q { due' x with l := l', nx := nx' } ∧ nx' ≤ x.nx + k ∧ (∀ y ∈ l', DgOk (due' x) y.2) ∧ (x.l = [] → l'.length = k ∧ ∀ i (hi : i < l'.length), ∃ v, IsEdit l'[i].2 (x.a + 1 + i) v)) ∧
    Hid (Row wr 54 2 (some ⟨z, 0, none⟩) m m (itv cI (items (x.a + 1) ((obSt x).xs.take m)))) ∧ Hid (Below B0 w wr)) (fun _ i _ => m - (intOf i).toNat)
  case atStart => exact ⟨0, Nat.zero_le _, rfl, rfl, hst0, HR1, HB1⟩
  case round =>
    obtain ⟨k, hk, rfl, rfl, hlk, hrow, hbw⟩ := hrel
    clear hst0 H1 HB1 HR1
    by_cases hlt : k < m
    · obtain ⟨v, hv1, hv2, hc0, hc1⟩ := due_cells HI.out HM.out hrow.out hlt
      have hn0 : 1 ≤ x.a + 1 + k := by omega
      have hn1 : x.a + 1 + k ≤ (due' x).s := by show _ ≤ max x.s (x.a + dueN x); rw [← HM.out]; omega
      have hn2 : x.a + 1 + k ≤ 4096 := by have h1 := (due_inv HI.out).s_len; have h2 := (due_inv HI.out).len; omega
      have HV1 : Hid (x.pushed[x.a + 1 + k - 1]? = some v) := by unfold Hid; rw [show x.a + 1 + k - 1 = x.a + k by omega]; exact hv1
      have HN1 := Lib.hid hn1
      obtain ⟨n, hn⟩ : ∃ n, n = x.a + 1 + k := ⟨_, rfl⟩
      rw [← hn] at hc0 hn0 hn1 hn2
      have HNn := Lib.hid hn
      have hB1 := Lib.hid (Nat.le_trans hB hbw.out.size)
      have HLr := Lib.hid (HL.out.below hbw.out)
      have hD : Hid (TkS z k n v wr.drew) := ⟨hc0, hc1⟩
      have hHeld := hD.out
      have b0 : (0 : Int) ≤ (k : Int) := by omega
      have b1 : (k : Int) < (m : Int) := by omega
      clear hv1 hn hc0 hc1 hn1
      go_wp2_with fail
      refine wp_region_noPanic ?_
      refine wp_region_held_drew (S := fun w' => TkS z k n v w') (by kernel_rfl) hD.out (fun hHeld => ?_)
      refine wpAnyH_take (i := 0) (oi := _) (v := ?v0) rfl (by kernel_rfl) (by kernel_rfl) (by kernel_rfl) (fun _ _ _ h => h) (Or.inl ⟨by rfl, ?y0⟩) hHeld ?r0
      case y0 =>
        intro wS hSw
        simp only [TkS] at hSw
        go_simp
        with_reducible rfl
      simp only [Act.put, List.setIfInBounds_toArray]
      refine wpAnyH_take (i := 1) (oi := _) (v := ?v1) rfl (by kernel_rfl) (by kernel_rfl) (by kernel_rfl) (fun _ _ _ h => h) (Or.inl ⟨by rfl, ?y1⟩) hHeld ?r1
      case y1 =>
        intro wS hSw
        simp only [TkS] at hSw
        go_simp
        with_reducible rfl
      simp only [Act.put]
      refine wpAnyH_take (i := 2) (oi := _) (v := ?v2) rfl (by kernel_rfl) (by kernel_rfl) (by kernel_rfl) (fun _ _ _ h => h) (Or.inl ⟨by rfl, ?y2⟩) hHeld ?r2
      case y2 =>
        intro wS hSw
        simp only [TkS] at hSw
        go_simp
        with_reducible rfl
      simp only [Act.put]
      refine wpAnyH_take (i := 3) (oi := _) (v := ?v3) rfl (by kernel_rfl) (by kernel_rfl) (by kernel_rfl) (fun _ _ _ h => h) (Or.inl ⟨by rfl, ?y3⟩) hHeld ?r3
      case y3 =>
        intro wS hSw
        simp only [TkS] at hSw
        go_simp
        with_reducible rfl
      simp only [Act.put]
      refine wpAnyH_take (i := 4) (oi := _) (v := ?v4) rfl (by kernel_rfl) (by kernel_rfl) (by kernel_rfl) (fun _ _ _ h => h) (Or.inl ⟨by rfl, ?y4⟩) hHeld ?r4
      case y4 =>
        intro wS hSw
        simp only [TkS] at hSw
        go_simp
        with_reducible rfl
      simp only [Act.put]
      refine wpAnyH_take (i := 5) (oi := _) (v := ?v5) rfl (by kernel_rfl) (by kernel_rfl) (by kernel_rfl) (fun _ _ _ h => h) (Or.inl ⟨by rfl, ?y5⟩) hHeld ?r5
      case y5 =>
        intro wS hSw
        simp only [TkS] at hSw
        go_simp
        with_reducible rfl
      simp only [Act.put]
      refine wpAnyH_take (i := 6) (oi := _) (v := ?v6) rfl (by kernel_rfl) (by kernel_rfl) (by kernel_rfl) (fun _ _ _ h => h) (Or.inl ⟨by rfl, ?y6⟩) hHeld ?r6
      case y6 =>
        intro wS hSw
        simp only [TkS] at hSw
        go_simp
        with_reducible rfl
      simp only [Act.put]
      refine wpAnyH_take (i := 7) (oi := _) (v := ?v7) rfl (by kernel_rfl) (by kernel_rfl) (by kernel_rfl) (fun _ _ _ h => h) (Or.inl ⟨by rfl, ?y7⟩) hHeld ?r7
      case y7 =>
        intro wS hSw
        simp only [TkS] at hSw
        go_simp
        with_reducible rfl
      simp only [Act.put]
      refine wpAnyH_take (i := 8) (oi := _) (v := ?v8) rfl (by kernel_rfl) (by kernel_rfl) (by kernel_rfl) (fun _ _ _ h => h) (Or.inl ⟨by rfl, ?y8⟩) hHeld ?r8
      case y8 =>
        intro wS hSw
        simp only [TkS] at hSw
        go_simp
        with_reducible rfl
      simp only [Act.put]
      refine wpAnyH_take (i := 9) (oi := _) (v := ?v9) rfl (by kernel_rfl) (by kernel_rfl) (by kernel_rfl) (fun _ _ _ h => h) (Or.inl ⟨by rfl, ?y9⟩) hHeld ?r9
      case y9 =>
        intro wS hSw
        simp only [TkS] at hSw
        go_simp
        with_reducible rfl
      simp only [Act.put]
      refine wpAnyH_take (i := 10) (oi := _) (v := ?v10) rfl (by kernel_rfl) (by kernel_rfl) (by kernel_rfl) (fun _ _ _ h => h) (Or.inl ⟨by rfl, ?y10⟩) hHeld ?r10
      case y10 =>
        intro wS hSw
        simp only [TkS] at hSw
        go_simp
        with_reducible rfl
      simp only [Act.put]
      refine wpAnyH_take (i := 11) (oi := _) (v := ?v11) rfl (by kernel_rfl) (by kernel_rfl) (by kernel_rfl) (fun _ _ _ h => h) (Or.inl ⟨by rfl, ?y11⟩) hHeld ?r11
      case y11 =>
        intro wS hSw
        simp only [TkS] at hSw
        go_simp
        with_reducible rfl
      simp only [Act.put]
      refine wpAnyH_ready (rs := [12]) (by kernel_rfl) (by simp) ?_
      refine AllReadyH.cons rfl (fun K hK => ?_) AllReadyH.nil
      rw [if_pos (by rfl)]
      go_simp
      have hcA : Chg [] wr (wr.alloc (.cells #[.int .i64 0, .int .i64 0, .int .i64 0, .int .i64 0, .int .i64 0, .int .i64 0, .int .i64 0, .int .i64 0, .int .i64 0, .int .i64 0, .int .i64 0, .int .u8 0, .int .i64 0, .int .i64 0] 58)) := (Chg.refl _ _).alloc _
      have hbA := Lib.hid (Blk.new wr 58 #[.int .i64 0, .int .i64 0, .int .i64 0, .int .i64 0, .int .i64 0, .int .i64 0, .int .i64 0, .int .i64 0, .int .i64 0, .int .i64 0, .int .i64 0, .int .u8 0, .int .i64 0, .int .i64 0])
      have hSA : TkS z k n v (wr.alloc (.cells #[.int .i64 0, .int .i64 0, .int .i64 0, .int .i64 0, .int .i64 0, .int .i64 0, .int .i64 0, .int .i64 0, .int .i64 0, .int .i64 0, .int .i64 0, .int .u8 0, .int .i64 0, .int .i64 0] 58)) := ⟨hcA.cell hD.out.1 (by simp), hcA.cell hD.out.2 (by simp)⟩
      refine hK.out _ _ hSA (fun _ => ?_)
      clear hK K
      refine wpAnyH_ready (rs := [13]) (by kernel_rfl) (by simp) ?_
      refine AllReadyH.cons rfl (fun K hK => ?_) AllReadyH.nil
      rw [if_pos (by rfl)]
      obtain ⟨g5, hg5⟩ : ∃ g5, g5 = wr.heap.size := ⟨_, rfl⟩
      rw [← hg5] at hbA ⊢
      refine wp_store_blk 58 (.tmp 5) (.tmp 33) rfl g5 58 _ #[.int .i64 2, .int .i64 1, .int .i64 1, .int .i64 0, .int .i64 0, .int .i64 (n : Nat), .int .i64 0, .int .i64 0, .int .i64 0, .int .i64 2, .int .i64 (v : Nat), .int .u8 0, .int .i64 1, .int .i64 1] rfl rfl hbA.out.drew rfl (by kernel_rfl) (by simp [Value.oneCell']) ?_
      intro w4 hb4 hc4
      have hc14 : Chg [] wr w4 := (hcA.drew).trans hc4 (fun i hi => .inr (by simp at hi; omega))
      have HSB := Lib.hid (⟨hc14.cell hD.out.1 (by simp), hc14.cell hD.out.2 (by simp)⟩ : TkS z k n v w4)
      have HC4 := Lib.hid hc14
      have HB4 := Lib.hid hb4
      have hcells : ∀ j u, ([.int .i64 2, .int .i64 1, .int .i64 1, .int .i64 0, .int .i64 0, .int .i64 (n : Nat), .int .i64 0, .int .i64 0, .int .i64 0, .int .i64 2, .int .i64 (v : Nat), .int .u8 0, .int .i64 1, .int .i64 1] : List Value)[j]? = some u → w4.cell? ((⟨g5, 0, none⟩ : Addr).add j) = some u := by
        intro j u hj
        rw [add_head, hb4.cell]
        simpa using hj
      have HCe := Lib.hid hcells
      have HE := Lib.hid (encode_edit (HLr.out.keep hc14 (by simp)) hn0 hn2 hv2)
      clear hb4 hc4 hc14 hcA hbA hSA hcells hg5
      simp only [Act.put]
      refine hK.out _ _ HSB.out (fun _ => ?_)
      clear hK K
      refine wpAnyH_done (by kernel_rfl) ?_ _
      refine NoPanic.normal ?_
      go_wp2_with (with_reducible refine wpList_load_cells _ rfl 58 (.tmp 5) rfl ⟨g5, 0, none⟩ rfl [.int .i64 2, .int .i64 1, .int .i64 1, .int .i64 0, .int .i64 0, .int .i64 (n : Nat), .int .i64 0, .int .i64 0, .int .i64 0, .int .i64 2, .int .i64 (v : Nat), .int .u8 0, .int .i64 1, .int .i64 1] HCe.out _ Tryz.underlying58 rfl (by kernel_rfl) ?_)
      refine HE.out.mono ?_
      rintro e w5 ⟨zb, rfl, hzb, hc5⟩
      have hcr5 := HC4.out.next hc5
      obtain ⟨l1, nx1, ⟨g2, h2⟩, hnx2, hfly, hed⟩ := hlk.out
      have h5 := h2.next hcr5
      have hB5 := Lib.hid (Nat.le_trans hB1.out hcr5.size)
      have HW5 := Lib.hid (hbw.out.trans (below_of hB1.out (by simp) hcr5))
      have HRow5 := Lib.hid (hrow.out.keep hcr5 (by simp))
      have HS5 := Lib.hid (net_send (c := 19) h5.net (by show nx1 + 1 ≤ _; omega) true 1 0 rfl rfl hzb.reads (by omega) (by omega))
      have c50 := h5.blk.cell 0
      have H5 := Lib.hid h5
      have HNx := Lib.hid hnx2
      have HFly := Lib.hid hfly
      have HEd := Lib.hid hed
      clear hzb hc5 hcr5 h2 hnx2 hfly hed h5
      go_wp2_with fail
      refine HS5.out.mono ?_
      rintro e w6 hp
      have hc56 : Chg [g2.np, g2.nb] w5 w6 := by
        rcases hp with ⟨_, _, _, h4⟩ | ⟨_, _, _, _, _, _, _, _, _, h4⟩
        · exact h4
        · exact h4
      have hzr : z ∉ [g2.np, g2.nb] := by
        have t1 : z ≠ g2.np := fun e => HRow5.out.ne_blk H5.out.net.blk (by decide) z (by simp [ob]) e
        have t2 : z ≠ g2.nb := fun e => by
          obtain ⟨g', cur, hA, hbz, _⟩ := HRow5.out.blk (by omega)
          obtain rfl : z = g' := by injection hA with hA; injection hA
          exact H5.out.net.map.ne_blk hbz e.symm
        simp [t1, t2]
      have HRow6 := Lib.hid (HRow5.out.keep hc56 (by simpa [ob] using hzr))
      obtain ⟨⟨cc, rfl⟩, hb6, g6, l6, nx6, h6, _, _, _, _, _, hcase⟩ := link_sent hB5.out H5.out hp
      have HW6 := Lib.hid (HW5.out.trans hb6)
      have H6 := Lib.hid h6
      have HCs := Lib.hid hcase
      clear hp hc56 hzr hb6 h6 hcase c50
      go_wp2_with fail
      go_roundw
      case rel =>
        refine ⟨k + 1, by omega, by go_num, rfl, ⟨l6, nx6, ⟨g6, H6.out⟩, ?_, ?_, ?_⟩, HRow6.out, HW6.out⟩
        · rcases HCs.out with ⟨_, _, t3, _⟩ | ⟨_, _, d, _, _, _, _, _, t3⟩
          · have t4 : nx6 = nx1 := t3
            have := HNx.out
            omega
          · have t4 : nx6 = nx1 + 1 := t3
            have := HNx.out
            omega
        · rcases HCs.out with ⟨_, t2, _, _⟩ | ⟨_, _, d, t2, t3, t4, t5, t6, _⟩
          · have e6 : l6 = l1 := t2
            rw [e6]
            exact HFly.out
          · have e6 : l6 = l1 ++ [(nx1, d)] := t6
            rw [e6]
            intro y hy
            rcases List.mem_append.1 hy with hy | hy
            · exact HFly.out y hy
            · simp at hy
              subst hy
              exact .inl ⟨x.a + 1 + k, v, by omega, HN1.out, HV1.out, t3, t2, t4, by rw [t5, HNn.out]⟩
        · intro e0
          obtain ⟨s1, s2⟩ := HEd.out e0
          rcases HCs.out with ⟨t1, _, _, _⟩ | ⟨_, _, d, t2, t3, t4, t5, t6, _⟩
          · exfalso
            have t1' : 2048 ≤ l1.length := t1
            omega
          · have e6 : l6 = l1 ++ [(nx1, d)] := t6
            subst e6
            refine ⟨by rw [List.length_append, s1]; rfl, fun i hi => ?_⟩
            by_cases hik : i < l1.length
            · rw [List.getElem_append_left hik]
              exact s2 i hik
            · have hik' : i = l1.length := by rw [List.length_append] at hi; simp at hi; omega
              subst hik'
              refine ⟨v, ?_⟩
              rw [List.getElem_append_right (Nat.le_refl _)]
              simp only [Nat.sub_self, List.getElem_cons_zero]
              exact ⟨t3, t2, t4, by rw [t5, HNn.out, s1]⟩
      case measure => simp [intOf]; omega
    · have hkm : k = m := by omega
      subst hkm
      go_wp2_with fail
      go_ret
      obtain ⟨l1, nx1, h1, h2, h3, h4⟩ := hlk.out
      have hI := due_inv HI.out
      refine ⟨rfl, hbw.out, l1, nx1, h1, ⟨hI.a_cum, hI.cum_s, hI.s_len, hI.len, hI.val, hI.held, h3⟩, by omega, fun e0 => ?_⟩
      obtain ⟨s1, s2⟩ := h4 e0
      exact ⟨by rw [s1, HM.out], s2⟩
end Go.Proofs.YtgockfjhokocbaaGreatDoor
