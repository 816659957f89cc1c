/-
  PROVED: the contract of Decode at a frame that Encode made.
-/
import Derived.Test.YtgockfjhokocbaaGreatDoorRD
import Derived.Deep.RegionHeld3
namespace Go.Proofs.YtgockfjhokocbaaGreatDoor
open Go.RowKit

abbrev DecS (g a1 a2 a3 a4 a5 a6 a7 a8 : Nat) (w' : World) : Prop := w'.cell? ⟨g, 1, none⟩ = some (.int .i64 (a1 : Nat)) ∧ w'.cell? ⟨g, 2, none⟩ = some (.int .i64 (a2 : Nat)) ∧ w'.cell? ⟨g, 3, none⟩ = some (.int .i64 (a3 : Nat)) ∧ w'.cell? ⟨g, 4, none⟩ = some (.int .i64 (a4 : Nat)) ∧ w'.cell? ⟨g, 5, none⟩ = some (.int .i64 (a5 : Nat)) ∧ w'.cell? ⟨g, 6, none⟩ = some (.int .i64 (a6 : Nat)) ∧ w'.cell? ⟨g, 7, none⟩ = some (.int .i64 (a7 : Nat)) ∧ w'.cell? ⟨g, 8, none⟩ = some (.int .i64 (a8 : Nat))
theorem DecS.keep {g a1 a2 a3 a4 a5 a6 a7 a8 : Nat} {S : List Nat} {w w' : World} (hc : Chg S w w') (hg : g ∉ S) (h : DecS g a1 a2 a3 a4 a5 a6 a7 a8 w) : DecS g a1 a2 a3 a4 a5 a6 a7 a8 w' := by
  obtain ⟨h0, h1, h2, h3, h4, h5, h6, h7⟩ := h
  exact ⟨hc.cell h0 hg, hc.cell h1 hg, hc.cell h2 hg, hc.cell h3 hg, hc.cell h4 hg, hc.cell h5 hg, hc.cell h6 hg, hc.cell h7 hg⟩

set_option maxRecDepth 100000 in
set_option maxHeartbeats 2000000 in
theorem decode_any {B : Nat} {w : World} {ad : Addr} {a0 a1 a2 a3 a4 a5 a6 a7 a8 a9 a10 a12 a13 n N : Nat} {S : List Nat} {q : Addr} {d c : Nat} {own : Bool} (h : Laid B w)
    (hx : Reads w 1 (some ad) (N + 4) (bv (framed (laidB [a0, a1, a2, a3, a4, a5, a6, a7, a8, a9, a10, 0, a12, a13] S)))) (hk : (a0 = 2 ∧ own = true) ∨ (a0 = 6 ∧ own = false))
    (hs : w.cell? ⟨0, a0, none⟩ = some (.slice (some q) n d)) (hr : Reads w 1 (some q) n (iv S)) (hn : n ≤ 100)
    (hV : FitsV [a0, a1, a2, a3, a4, a5, a6, a7, a8, a9, a10, 0, a12, a13] S) (hT : Turns [a0, a1, a2, a3, a4, a5, a6, a7, a8, a9, a10, 0, a12, a13] S own) (hF : fill [a0, a1, a2, a3, a4, a5, a6, a7, a8, a9, a10, 0, a12, a13] S = [a0, a1, a2, a3, a4, a5, a6, a7, a8, a9, a10, 0, a12, a13]) (hN : (laidB [a0, a1, a2, a3, a4, a5, a6, a7, a8, a9, a10, 0, a12, a13] S).length = N) (hN0 : N ≤ 60) (hc : N + 4 ≤ c) :
    Calls Tryz.prog 32 #[.slice (some ad) (N + 4) c] w fun e w' => e = .returned (.tuple #[.agg #[.int .i64 (a0 : Nat), .int .i64 (a1 : Nat), .int .i64 (a2 : Nat), .int .i64 (a3 : Nat), .int .i64 (a4 : Nat), .int .i64 (a5 : Nat), .int .i64 (a6 : Nat), .int .i64 (a7 : Nat), .int .i64 (a8 : Nat), .int .i64 (a9 : Nat), .int .i64 (a10 : Nat), .int .u8 0, .int .i64 (a12 : Nat), .int .i64 (a13 : Nat)], .nilIface]) ∧ Chg [] w w' := by
  have hN1 : 0 < N := by rw [← hN]; simp [laidB]
  have e2 : ((a0 : Int) == 2) = own := by
    rcases hk with ⟨h1, rfl⟩ | ⟨h1, rfl⟩
    · exact beq_iff_eq.2 (by omega)
    · exact beq_eq_false_iff_ne.2 (by omega)
  have k1 : ¬ (a0 : Int) < 1 := by omega
  have k2 : ¬ (6 : Int) < a0 := by omega
  have k3 : (a0 : Int) < 7 := by omega
  have k4 : (0 : Int) ≤ (a0 : Int) := by omega
  have k5 : a0 < 256 := by omega
  have hlong : N = 1 + (S.map sizeN).sum := by rw [← hN, laidB_length (fun f hf => (hV.2.2 f hf).2.1)]
  have hc1 : Chg [] w (w.alloc (.cells #[.int .i64 0, .int .i64 0, .int .i64 0, .int .i64 0, .int .i64 0, .int .i64 0, .int .i64 0, .int .i64 0, .int .i64 0, .int .i64 0, .int .i64 0, .int .u8 0, .int .i64 0, .int .i64 0] 58)) := (Chg.refl [] w).alloc _
  have hb1 := Lib.hid (Blk.new w 58 #[.int .i64 0, .int .i64 0, .int .i64 0, .int .i64 0, .int .i64 0, .int .i64 0, .int .i64 0, .int .i64 0, .int .i64 0, .int .i64 0, .int .i64 0, .int .u8 0, .int .i64 0, .int .i64 0])
  have HO := Lib.hid (body_ok (c := c) (h.keep hc1 (by simp)) (hc1.reads' hx (by simp)) hN (laidB_bytes hV) hN1 hN0 hc)
  have HC := Lib.hid hc1
  have H := Lib.hid h
  have HS := Lib.hid hs
  have HR := Lib.hid hr
  have HV := Lib.hid hV
  have HT := Lib.hid hT
  have HF := Lib.hid hF
  have HN := Lib.hid hN
  have HLo := Lib.hid hlong
  have E2 := Lib.hid e2
  clear h hx hk hs hr hV hT hF hN hc1 hlong e2
  go_enter Tryz.func32, Tryz.ntmps32
  go_wp2_with fail
  obtain ⟨g, hg⟩ : ∃ g, g = w.heap.size := ⟨_, rfl⟩
  rw [← hg] at hb1 ⊢
  have G : Hid (w.heap.size ≤ g ∧ g < (w.alloc (.cells #[.int .i64 0, .int .i64 0, .int .i64 0, .int .i64 0, .int .i64 0, .int .i64 0, .int .i64 0, .int .i64 0, .int .i64 0, .int .i64 0, .int .i64 0, .int .u8 0, .int .i64 0, .int .i64 0] 58)).heap.size) := ⟨by omega, by simp; omega⟩
  clear hg
  generalize w.alloc (.cells #[.int .i64 0, .int .i64 0, .int .i64 0, .int .i64 0, .int .i64 0, .int .i64 0, .int .i64 0, .int .i64 0, .int .i64 0, .int .i64 0, .int .i64 0, .int .u8 0, .int .i64 0, .int .i64 0] 58) = w1 at *
  refine HO.out.mono ?_
  rintro e w2 ⟨z, rfl, hr2, hc2, hz2⟩
  have hb2 := Lib.hid (hc2.blk' hb1.out (by simp))
  have HC2 := Lib.hid (HC.out.next hc2)
  have hcell0 : w2.cell? ⟨z, 0, none⟩ = some (.int .u8 (a0 : Nat)) := by
    obtain ⟨ad', e, hcc⟩ := hr2.reads.2 hN1
    obtain rfl : (⟨z, 0, none⟩ : Addr) = ad' := Option.some.inj e
    have := hcc 0 (.int .u8 (a0 : Nat)) (by simp [laidB, bv])
    rwa [add_head] at this
  have hs2 := HC2.out.cell HS.out (by simp)
  have HLg := Lib.hid (long_calls (c := d) (H.out.keep HC2.out (by simp)) (HC2.out.reads' HR.out (by simp)) hn (fun f hf => (HV.out.2.2 f hf).1) HLo.out)
  have HP := Lib.hid (pick_calls (c := N) (d := d) (H.out.keep HC2.out (by simp)) hr2.reads (HC2.out.reads' HR.out (by simp)) hn (by omega) HV.out HT.out)
  have G2 : Hid (g < w2.heap.size) := Nat.lt_of_lt_of_le G.out.2 hc2.size
  clear hc2 hz2 HO hb1 hr2
  have e2 := E2.out
  go_wp2_with (go_at_call 50; refine HLg.out.mono ?_; rintro e w4 ⟨rfl, rfl⟩)
  clear e2
  refine HP.out.mono ?_
  rintro e w4 ⟨rfl, hc4⟩
  rw [HF.out, show (iv [a0, a1, a2, a3, a4, a5, a6, a7, a8, a9, a10, 0, a12, a13]).toArray = #[.int .i64 (a0 : Nat), .int .i64 (a1 : Nat), .int .i64 (a2 : Nat), .int .i64 (a3 : Nat), .int .i64 (a4 : Nat), .int .i64 (a5 : Nat), .int .i64 (a6 : Nat), .int .i64 (a7 : Nat), .int .i64 (a8 : Nat), .int .i64 (a9 : Nat), .int .i64 (a10 : Nat), .int .i64 0, .int .i64 (a12 : Nat), .int .i64 (a13 : Nat)] from rfl]
  have hb4 := Lib.hid (hc4.blk' hb2.out (by simp))
  have hcA := Lib.hid ((HC2.out.next hc4).alloc (.cells #[.int .i64 0, .int .i64 0, .int .i64 0, .int .i64 0, .int .i64 0, .int .i64 0, .int .i64 0, .int .i64 0, .int .i64 0, .int .i64 0, .int .i64 0, .int .i64 0, .int .i64 0, .int .i64 0] 92))
  have hb5 := Lib.hid (hb4.out.alloc (.cells #[.int .i64 0, .int .i64 0, .int .i64 0, .int .i64 0, .int .i64 0, .int .i64 0, .int .i64 0, .int .i64 0, .int .i64 0, .int .i64 0, .int .i64 0, .int .i64 0, .int .i64 0, .int .i64 0] 92))
  have hv5 := Lib.hid (Blk.new w4 92 #[.int .i64 0, .int .i64 0, .int .i64 0, .int .i64 0, .int .i64 0, .int .i64 0, .int .i64 0, .int .i64 0, .int .i64 0, .int .i64 0, .int .i64 0, .int .i64 0, .int .i64 0, .int .i64 0])
  have G4 : Hid (w4.heap.size ≠ g ∧ w.heap.size ≤ w4.heap.size) := ⟨by have := G2.out; have := hc4.size; omega, (HC2.out.next hc4).size⟩
  clear hc4 hs2 hcell0
  go_wp2_with (with_reducible refine wpList_of _ rfl (wp_store_blk 92 (.tmp 7) (.tmp 48) rfl w4.heap.size 92 _ #[.int .i64 (a0 : Nat), .int .i64 (a1 : Nat), .int .i64 (a2 : Nat), .int .i64 (a3 : Nat), .int .i64 (a4 : Nat), .int .i64 (a5 : Nat), .int .i64 (a6 : Nat), .int .i64 (a7 : Nat), .int .i64 (a8 : Nat), .int .i64 (a9 : Nat), .int .i64 (a10 : Nat), .int .i64 0, .int .i64 (a12 : Nat), .int .i64 (a13 : Nat)] rfl rfl hv5.out rfl (by kernel_rfl) (by simp [Value.oneCell']) ?_))
  intro w6 hv6 hc6
  have hb6 := Lib.hid (hc6.blk' hb5.out (by have := G4.out; simp; omega))
  have hcB := Lib.hid (hcA.out.trans hc6 (fun i hi => .inr (by have := G4.out; simp at hi; omega)))
  have hD : Hid (DecS w4.heap.size a1 a2 a3 a4 a5 a6 a7 a8 w6.drew) := ⟨hv6.cell 1, hv6.cell 2, hv6.cell 3, hv6.cell 4, hv6.cell 5, hv6.cell 6, hv6.cell 7, hv6.cell 8⟩
  have hOp := Lib.hid (op_calls (a := a9) (b := a10) (c := a12) (d := a13) (w := w6.drew) hv6.drew rfl rfl rfl rfl rfl)
  have HV6 := Lib.hid hv6
  clear hc6 hcA hb5 hv5 hb4 hb2 G2 HC2 HLg HP hv6
  generalize w4.heap.size = g7 at *
  go_wp2_with fail
  refine wp_region_noPanic ?_
  refine wp_region_held_drew (S := fun w' => DecS g7 a1 a2 a3 a4 a5 a6 a7 a8 w') (by kernel_rfl) hD.out (fun hHeld => ?_)
  have hHeld := hD.out
  refine wpAnyH_take (i := 0) (oi := _) (v := ?v0) rfl (by kernel_rfl) (by kernel_rfl) (by kernel_rfl) (fun _ _ _ h => h) (Or.inl ⟨by rfl, ?y0⟩) hHeld ?r0
  case y0 =>
    intro wS hSw
    simp only [DecS] at hSw
    go_simp
    with_reducible rfl
  simp only [Act.put, List.setIfInBounds_toArray]
  refine wpAnyH_take (i := 1) (oi := _) (v := ?v1) rfl (by kernel_rfl) (by kernel_rfl) (by kernel_rfl) (fun _ _ _ h => h) (Or.inl ⟨by rfl, ?y1⟩) hHeld ?r1
  case y1 =>
    intro wS hSw
    simp only [DecS] at hSw
    go_simp
    with_reducible rfl
  simp only [Act.put]
  refine wpAnyH_take (i := 2) (oi := _) (v := ?v2) rfl (by kernel_rfl) (by kernel_rfl) (by kernel_rfl) (fun _ _ _ h => h) (Or.inl ⟨by rfl, ?y2⟩) hHeld ?r2
  case y2 =>
    intro wS hSw
    simp only [DecS] at hSw
    go_simp
    with_reducible rfl
  simp only [Act.put]
  refine wpAnyH_take (i := 3) (oi := _) (v := ?v3) rfl (by kernel_rfl) (by kernel_rfl) (by kernel_rfl) (fun _ _ _ h => h) (Or.inl ⟨by rfl, ?y3⟩) hHeld ?r3
  case y3 =>
    intro wS hSw
    simp only [DecS] at hSw
    go_simp
    with_reducible rfl
  simp only [Act.put]
  refine wpAnyH_take (i := 4) (oi := _) (v := ?v4) rfl (by kernel_rfl) (by kernel_rfl) (by kernel_rfl) (fun _ _ _ h => h) (Or.inl ⟨by rfl, ?y4⟩) hHeld ?r4
  case y4 =>
    intro wS hSw
    simp only [DecS] at hSw
    go_simp
    with_reducible rfl
  simp only [Act.put]
  refine wpAnyH_take (i := 5) (oi := _) (v := ?v5) rfl (by kernel_rfl) (by kernel_rfl) (by kernel_rfl) (fun _ _ _ h => h) (Or.inl ⟨by rfl, ?y5⟩) hHeld ?r5
  case y5 =>
    intro wS hSw
    simp only [DecS] at hSw
    go_simp
    with_reducible rfl
  simp only [Act.put]
  refine wpAnyH_take (i := 6) (oi := _) (v := ?v6) rfl (by kernel_rfl) (by kernel_rfl) (by kernel_rfl) (fun _ _ _ h => h) (Or.inl ⟨by rfl, ?y6⟩) hHeld ?r6
  case y6 =>
    intro wS hSw
    simp only [DecS] at hSw
    go_simp
    with_reducible rfl
  simp only [Act.put]
  refine wpAnyH_take (i := 7) (oi := _) (v := ?v7) rfl (by kernel_rfl) (by kernel_rfl) (by kernel_rfl) (fun _ _ _ h => h) (Or.inl ⟨by rfl, ?y7⟩) hHeld ?r7
  case y7 =>
    intro wS hSw
    simp only [DecS] at hSw
    go_simp
    with_reducible rfl
  simp only [Act.put]
  refine wpAnyH_take (i := 8) (oi := _) (v := ?v8) rfl (by kernel_rfl) (by kernel_rfl) (by kernel_rfl) (fun _ _ _ h => h) (Or.inl ⟨by rfl, ?y8⟩) hHeld ?r8
  case y8 =>
    intro wS hSw
    simp only [DecS] at hSw
    go_simp
    with_reducible rfl
  simp only [Act.put]
  refine wpAnyH_take (i := 9) (oi := _) (v := ?v9) rfl (by kernel_rfl) (by kernel_rfl) (by kernel_rfl) (fun _ _ _ h => h) (Or.inl ⟨by rfl, ?y9⟩) hHeld ?r9
  case y9 =>
    intro wS hSw
    simp only [DecS] at hSw
    go_simp
    with_reducible rfl
  simp only [Act.put]
  refine wpAnyH_take (i := 10) (oi := _) (v := ?v10) rfl (by kernel_rfl) (by kernel_rfl) (by kernel_rfl) (fun _ _ _ h => h) (Or.inl ⟨by rfl, ?y10⟩) hHeld ?r10
  case y10 =>
    intro wS hSw
    simp only [DecS] at hSw
    go_simp
    with_reducible rfl
  simp only [Act.put]
  refine wpAnyH_take (i := 11) (oi := _) (v := ?v11) rfl (by kernel_rfl) (by kernel_rfl) (by kernel_rfl) (fun _ _ _ h => h) (Or.inl ⟨by rfl, ?y11⟩) hHeld ?r11
  case y11 =>
    intro wS hSw
    simp only [DecS] at hSw
    go_simp
    with_reducible rfl
  simp only [Act.put]
  refine wpAnyH_take (i := 12) (oi := _) (v := ?v12) rfl (by kernel_rfl) (by kernel_rfl) (by kernel_rfl) (fun _ _ _ h => h) (Or.inl ⟨by rfl, ?y12⟩) hHeld ?r12
  case y12 =>
    intro wS hSw
    simp only [DecS] at hSw
    go_simp
    with_reducible rfl
  simp only [Act.put]
  refine wpAnyH_take (i := 13) (oi := _) (v := ?v13) rfl (by kernel_rfl) (by kernel_rfl) (by kernel_rfl) (fun _ _ _ h => h) (Or.inl ⟨by rfl, ?y13⟩) hHeld ?r13
  case y13 =>
    intro wS hSw
    simp only [DecS] at hSw
    go_simp
    with_reducible rfl
  simp only [Act.put]
  refine wpAnyH_take (i := 14) (oi := _) (v := ?v14) rfl (by kernel_rfl) (by kernel_rfl) (by kernel_rfl) (fun _ _ _ h => h) (Or.inl ⟨by rfl, ?y14⟩) hHeld ?r14
  case y14 =>
    intro wS hSw
    simp only [DecS] at hSw
    go_simp
    with_reducible rfl
  simp only [Act.put]
  refine wpAnyH_take (i := 15) (oi := _) (v := ?v15) rfl (by kernel_rfl) (by kernel_rfl) (by kernel_rfl) (fun _ _ _ h => h) (Or.inl ⟨by rfl, ?y15⟩) hHeld ?r15
  case y15 =>
    intro wS hSw
    simp only [DecS] at hSw
    go_simp
    with_reducible rfl
  simp only [Act.put]
  refine wpAnyH_take (i := 16) (oi := _) (v := ?v16) rfl (by kernel_rfl) (by kernel_rfl) (by kernel_rfl) (fun _ _ _ h => h) (Or.inl ⟨by rfl, ?y16⟩) hHeld ?r16
  case y16 =>
    intro wS hSw
    simp only [DecS] at hSw
    go_simp
    with_reducible rfl
  simp only [Act.put]
  refine wpAnyH_ready (rs := [17]) (by kernel_rfl) (by simp) ?_
  refine AllReadyH.cons rfl (fun K hK => ?_) AllReadyH.nil
  rw [if_pos (by rfl)]
  go_simp
  go_at_call 52
  refine hOp.out.mono ?_
  rintro e w7 ⟨rfl, hc7⟩
  go_wp2_with fail
  have HC7 := Lib.hid (hc7.blk' hb6.out (by simp))
  have HCC := Lib.hid ((hcB.out.drew).next hc7)
  have hD7 := Lib.hid (DecS.keep hc7 (by simp) hD.out)
  clear hc7 hb6 hcB
  refine hK.out _ _ hD7.out (fun _ => ?_)
  clear hK K
  refine wpAnyH_ready (rs := [18]) (by kernel_rfl) (by simp) ?_
  refine AllReadyH.cons rfl (fun K hK => ?_) AllReadyH.nil
  rw [if_pos (by rfl)]
  go_simp
  refine hK.out _ _ hD7.out (fun _ => ?_)
  clear hK K
  refine wpAnyH_ready (rs := [19]) (by kernel_rfl) (by simp) ?_
  refine AllReadyH.cons rfl (fun K hK => ?_) AllReadyH.nil
  rw [if_pos (by rfl)]
  refine wp_store_blk 58 (.tmp 2) (.tmp 72) rfl g 58 _ #[.int .i64 (a0 : Nat), .int .i64 (a1 : Nat), .int .i64 (a2 : Nat), .int .i64 (a3 : Nat), .int .i64 (a4 : Nat), .int .i64 (a5 : Nat), .int .i64 (a6 : Nat), .int .i64 (a7 : Nat), .int .i64 (a8 : Nat), .int .i64 (a9 : Nat), .int .i64 (a10 : Nat), .int .u8 0, .int .i64 (a12 : Nat), .int .i64 (a13 : Nat)] rfl rfl HC7.out rfl (by kernel_rfl) (by simp [Value.oneCell']) ?_
  intro w8 hb8 hc8
  have HD8 := Lib.hid (DecS.keep hc8 (by have := G4.out; simp; omega) hD7.out)
  have HB8 := Lib.hid hb8
  have HC8 := Lib.hid (HCC.out.trans hc8 (fun i hi => .inr (by have := G.out; simp at hi; omega)))
  have hld : (loadVar 58 ⟨g, 0, none⟩).run Tryz.prog w8 = .ok (.agg #[.int .i64 (a0 : Nat), .int .i64 (a1 : Nat), .int .i64 (a2 : Nat), .int .i64 (a3 : Nat), .int .i64 (a4 : Nat), .int .i64 (a5 : Nat), .int .i64 (a6 : Nat), .int .i64 (a7 : Nat), .int .i64 (a8 : Nat), .int .i64 (a9 : Nat), .int .i64 (a10 : Nat), .int .u8 0, .int .i64 (a12 : Nat), .int .i64 (a13 : Nat)]) w8 := run_load_cells w8 58 ⟨g, 0, none⟩ [.int .i64 (a0 : Nat), .int .i64 (a1 : Nat), .int .i64 (a2 : Nat), .int .i64 (a3 : Nat), .int .i64 (a4 : Nat), .int .i64 (a5 : Nat), .int .i64 (a6 : Nat), .int .i64 (a7 : Nat), .int .i64 (a8 : Nat), .int .i64 (a9 : Nat), .int .i64 (a10 : Nat), .int .u8 0, .int .i64 (a12 : Nat), .int .i64 (a13 : Nat)] (by
    intro j v hj
    rw [add_head, hb8.cell]
    simpa using hj) _ Tryz.underlying58 rfl (by kernel_rfl)
  have HLD := Lib.hid hld
  clear hb8 hc8 hld
  simp only [Act.put]
  refine hK.out _ _ HD8.out (fun _ => ?_)
  clear hK K
  refine wpAnyH_ready (rs := [20]) (by kernel_rfl) (by simp) ?_
  refine AllReadyH.cons rfl (fun K hK => ?_) AllReadyH.nil
  rw [if_pos (by rfl)]
  go_simp
  refine hK.out _ _ HD8.out (fun _ => ?_)
  clear hK K
  refine wpAnyH_done (by kernel_rfl) ?_ _
  refine NoPanic.normal ?_
  go_wp2_with fail
  exact bodyPost_ret (v := .tuple #[.agg #[.int .i64 (a0 : Nat), .int .i64 (a1 : Nat), .int .i64 (a2 : Nat), .int .i64 (a3 : Nat), .int .i64 (a4 : Nat), .int .i64 (a5 : Nat), .int .i64 (a6 : Nat), .int .i64 (a7 : Nat), .int .i64 (a8 : Nat), .int .i64 (a9 : Nat), .int .i64 (a10 : Nat), .int .u8 0, .int .i64 (a12 : Nat), .int .i64 (a13 : Nat)], .nilIface]) (results_cell2 (t := 2) (ty := 58) (u := 3) rfl _ _ _ rfl HLD.out) rfl ⟨rfl, HC8.out⟩
end Go.Proofs.YtgockfjhokocbaaGreatDoor
