/-
  PROVED: the contract of TopLinkOnce, over any memory in which wire's tables and errors' type lie as init leaves them.
-/
import Derived.Test.YtgockfjhokocbaaGreatDoorLM
namespace Go.Proofs.YtgockfjhokocbaaGreatDoor
open Go.RowKit

theorem inv_len {B0 : Nat} {w : World} {q : Nat} {x : Lk} (h : LinkIs B0 w q x) : ∃ g, LinkAt B0 w q g (raw x) := h

set_option maxRecDepth 100000 in
set_option maxHeartbeats 4000000 in
theorem link_once {w : World} {A : Option Addr} {n c : Nat} (hL : Laid w.heap.size w) (hM : MovesAt w A n) (hn : n ≤ 288230376151711744) :
    Calls Tryz.prog 3 #[.slice A n c] w fun e w' => e = .returned (.bool true) ∧ Below w.heap.size w w' := by
  have HNl := Lib.hid (newLink_calls w)
  have HL := Lib.hid hL
  have HM := Lib.hid hM
  obtain ⟨B0, hB0⟩ : ∃ B0, B0 = w.heap.size := ⟨_, rfl⟩
  have HB0 := Lib.hid hB0
  rw [← hB0] at HL HNl
  rw [← hB0]
  clear hL hM hB0
  go_enter Tryz.func3, Tryz.ntmps3
  go_wp2_with fail
  refine HNl.out.mono ?_
  rintro e w1 ⟨q, rfl, hq, hc1⟩
  have HB1 : Hid (Below B0 w w1) := below_of (Nat.le_of_eq HB0.out) (by simp) hc1
  have hBw1 : Hid (B0 ≤ w1.heap.size) := Nat.le_trans (Nat.le_of_eq HB0.out) hc1.size
  have HP := Lib.hid (lk_push hBw1.out inv0 hq 7)
  clear hq hc1 HNl
  go_wp2_with fail
  refine HP.out.mono ?_
  rintro e w2 ⟨rfl, hy, hb⟩
  have hst0 : Hid (MvIn B0 w w2 q 0) := ⟨HB1.out.trans hb, _, hy, (pushed'_inv inv0 (v := ((7 : Int) % 4096).toNat) (by decide)).1, by rw [(pushed'_inv inv0 (v := ((7 : Int) % 4096).toNat) (by decide)).2.2.2.2]; exact Nat.zero_le _⟩
  clear hy hb HP HB1 hBw1
  go_wp2_with fail
  go_loopw [2, 5] (fun r i5 wr => ∃ k : Nat, k ≤ n ∧ i5 = .int .i64 k ∧ r = .bool false ∧ Hid (MvIn B0 w wr q k)) (fun _ i5 _ => n - (intOf i5).toNat)
  case atStart => exact ⟨0, Nat.zero_le _, rfl, rfl, hst0⟩
  case round =>
    obtain ⟨k, hk, rfl, rfl, hst⟩ := hrel
    clear hst0
    by_cases hlt : k < n
    · obtain ⟨hbw, x, hx, hi, hnx⟩ := hst.out
      obtain ⟨ad, K, M, B, C, hA, hcells⟩ := (HM.out.below (HB0.out ▸ hbw)) k hlt
      have HMv := Lib.hid (lk_move K M B C (Nat.le_trans (Nat.le_of_eq HB0.out) hbw.size) (HL.out.below hbw) hi hx (by omega))
      have HBw := Lib.hid hbw
      have HNx := Lib.hid hnx
      have HCe := Lib.hid hcells
      clear hst hbw hx hi hnx hcells
      go_wp2_with (with_reducible refine wpList_load_cells _ rfl 28 (.tmp 29) rfl _ rfl (mvC K M B C) HCe.out _ Tryz.underlying28 rfl (by kernel_rfl) ?_)
      simp only [← hA]
      clear hA
      refine HMv.out.mono ?_
      rintro e w3 hmv
      obtain ⟨rfl, hmv'⟩ := MvIn.next HBw.out HNx.out hmv
      have HMv' := Lib.hid hmv'
      clear hmv hmv' HCe
      go_wp2_with fail
      go_roundw
      case rel => exact ⟨k + 1, by omega, by go_num, rfl, HMv'⟩
      case measure => simp [intOf]; omega
    · have hkn : k = n := by omega
      obtain ⟨hbw, x, hx, hi, hnx⟩ := hst.out
      have HAl := Lib.hid (lk_all (Nat.le_trans (Nat.le_of_eq HB0.out) hbw.size) (HL.out.below hbw) hi hx)
      have HBw := Lib.hid hbw
      have HNx := Lib.hid hnx
      clear hst hbw hx hi hnx
      go_wp2_with fail
      refine HAl.out.mono ?_
      rintro e w3 ⟨rfl, hb3, y, hy, hof⟩
      obtain ⟨ln, hln⟩ : ∃ ln, ln = y.pushed.length := ⟨_, rfl⟩
      have hln2 : ln ≤ 4096 := by rw [hln]; exact hof.inv.len
      have hr0 : Hid (RndIn B0 w w3 q ln 0 (8 * k)) := ⟨HBw.out.trans hb3, y, hy, hof.inv, by rw [hof.l]; exact List.drop_length, hln.symm, by simp, by rw [hof.nx]; have := HNx.out; omega⟩
      clear hb3 hy hof hln HAl HBw HNx
      go_wp2_with fail
      obtain ⟨m, hm⟩ : ∃ m, m = 8 * k := ⟨_, rfl⟩
      have hm2 : m ≤ 2305843009213693952 := by omega
      rw [← hm] at hr0
      obtain ⟨M, hMd⟩ : ∃ M, M = ln / 8 := ⟨_, rfl⟩
      have hM2 : M ≤ 512 := by omega
      have HMd := Lib.hid hMd
      have ed : (ln : Int).tdiv 8 = (M : Int) := by rw [hMd, Int.tdiv_eq_ediv_of_nonneg (by omega)]; omega
      have ed2 : (ln : Int) / 8 = (M : Int) := by rw [hMd]; omega
      clear hm hMd
      go_loopw [2, 6] (fun r i6 wr => ∃ k : Nat, k ≤ M + 2 ∧ i6 = .int .i64 k ∧ r = .bool false ∧ Hid (RndIn B0 w wr q ln k m)) (fun _ i6 _ => M + 2 - (intOf i6).toNat)
      case atStart => exact ⟨0, Nat.zero_le _, rfl, rfl, hr0⟩
      case round =>
        obtain ⟨k2, hk2, rfl, rfl, hst⟩ := hrel
        clear hr0
        obtain ⟨hbw, y, ⟨gy, hgy⟩, hof⟩ := hst.out
        have c3 := hgy.blk.cell 3
        have hpl : (raw y).ps.length = ln := hof.len
        rw [hpl] at c3
        have HBw := Lib.hid hbw
        have HOf := Lib.hid hof
        by_cases hle : k2 ≤ M + 1
        · have hBr := Lib.hid (Nat.le_trans (Nat.le_of_eq HB0.out) hbw.size)
          have HT := Lib.hid (lk_tick hBr.out (HL.out.below hbw) hof.inv ⟨gy, hgy⟩ (by have := hof.nx; omega))
          clear hbw hgy hof hst hpl
          go_wp2_with fail
          refine HT.out.mono ?_
          rintro e w4 ⟨rfl, hb4, l4, nx4, hy4, hi4, hn4, he4⟩
          have HA4 := Lib.hid (lk_all (Nat.le_trans hBr.out hb4.size) (HL.out.below (HBw.out.trans hb4)) hi4 hy4)
          have HB4 := Lib.hid (HBw.out.trans hb4)
          have HN4 := Lib.hid hn4
          have HE4 := Lib.hid he4
          clear hb4 hy4 hi4 hn4 he4 c3
          go_wp2_with fail
          refine HA4.out.mono ?_
          rintro e w5 ⟨rfl, hb5, z, hz, hofz⟩
          have HMid := Lib.hid (MidOf.of HOf.out.l HOf.out.inv rfl HN4.out HE4.out hofz)
          have HB5 := Lib.hid (HB4.out.trans hb5)
          have HTk := Lib.hid (lk_tock (Nat.le_trans (Nat.le_of_eq HB0.out) HB5.out.size) (HL.out.below HB5.out) HMid.out.inv hz (by have h1 := HMid.out.nx; have h2 := HOf.out.nx; omega))
          clear hb5 hz hofz
          go_wp2_with fail
          refine HTk.out.mono ?_
          rintro e w6 ⟨rfl, hb6, l6, nx6, hy6, hc6⟩
          have HB6 := Lib.hid (HB5.out.trans hb6)
          have HA6 := Lib.hid (lk_all (Nat.le_trans (Nat.le_of_eq HB0.out) HB6.out.size) (HL.out.below HB6.out) (tock_inv HMid.out.inv hc6).1 hy6)
          have HC6 := Lib.hid hc6
          clear hb6 hy6 hc6
          go_wp2_with fail
          refine HA6.out.mono ?_
          rintro e w7 ⟨rfl, hb7, u, hu, hofu⟩
          have hst7 : Hid (RndIn B0 w w7 q ln (k2 + 1) m) := ⟨HB6.out.trans hb7, u, hu, HOf.out.next HMid.out rfl HC6.out hofu⟩
          clear hb7 hu hofu
          go_wp2_with fail
          go_roundw
          case rel => exact ⟨k2 + 1, by omega, by go_num, rfl, hst7⟩
          case measure => simp [intOf]; omega
        · have hk2e : ln ≤ 8 * k2 := by have := HMd.out; omega
          obtain ⟨z1, z2, z3, z4, z5, z6⟩ := hof.last hk2e
          have hlf := left_calls hgy.box
          have hxs : (raw y).ob.xs.length = 0 := by show (obSt y).xs.length = 0; rw [z6]; rfl
          rw [hxs] at hlf
          have HLf := Lib.hid hlf
          have HG := Lib.hid hgy
          have c1 := hgy.blk.cell 1
          have hle' : ¬ ((k2 : Int) ≤ (M : Int) + 1) := by omega
          have HZ1 : Hid (y.a = ln) := z1
          have HZ2 : Hid (y.cum = ln) := z2
          have HZ4 : Hid (y.held = []) := z4
          have HZ5 : Hid (y.pushed.take y.cum = y.pushed) := z5
          have HPl := Lib.hid hpl
          clear hlf hxs hgy hof hst hk2e z1 z2 z3 z4 z5 z6 hbw hpl
          go_wp2_with fail
          refine HLf.out.mono ?_
          rintro e w8 ⟨z, rfl, -, hc8, -⟩
          have hg8 := HG.out.next hc8
          have HB8 := Lib.hid (HBw.out.trans (below_of (Nat.le_trans (Nat.le_of_eq HB0.out) HBw.out.size) (by simp) hc8))
          have hib := hg8.inb
          have hh : (raw y).held = [] := HZ4.out
          rw [hh] at hib
          have HHe := Lib.hid (in_held hib)
          have c82 := hg8.blk.cell 2
          have H8 := Lib.hid hg8
          clear hc8 hg8 hib hh c1 c3
          go_wp2_with fail
          refine HHe.out.mono ?_
          rintro e w9 ⟨rfl, hb9⟩
          have hc9 := below_chg hb9
          have hg9 := H8.out.next hc9
          have HB9 := Lib.hid (HB8.out.trans (below_of (Nat.le_trans (Nat.le_of_eq HB0.out) HB8.out.size) (by simp) hc9))
          have c91 := hg9.blk.cell 1
          have c92 := hg9.blk.cell 2
          have c93 := hg9.blk.cell 3
          have c94 := hg9.blk.cell 4
          have hpl : (raw y).ps.length = ln := HPl.out
          have hql : (raw y).qs.length = ln := by show (y.pushed.take y.cum).length = ln; rw [HZ5.out]; exact hpl
          rw [hpl, hql] at c93 c94
          have HCu : Hid (∀ nd, Calls Tryz.prog 12 #[.pointer (some ⟨gy.ip, 0, none⟩)] (w9.drewN nd) fun e w' => e = .returned (.int .i64 ln) ∧ w' = w9.drewN nd) := fun nd => by
            have t := in_cum (hg9.next ((Chg.refl [] w9).drewN nd)).inb
            have t2 : (raw y).cum = ln := HZ2.out
            rw [t2] at t
            exact t.mono (fun e w' ⟨a1, a2⟩ => ⟨a1, a2.symm⟩)
          have HAk : Hid (∀ nd, Calls Tryz.prog 13 #[.pointer (some ⟨gy.op, 0, none⟩)] (w9.drewN nd) fun e w' => e = .returned (.int .i64 ln) ∧ w' = w9.drewN nd) := fun nd => by
            have t := acked_calls (hg9.next ((Chg.refl [] w9).drewN nd)).box
            have t2 : (raw y).ob.a = ln := HZ1.out
            rw [t2] at t
            exact t.mono (fun e w' ⟨a1, a2⟩ => ⟨a1, a2.symm⟩)
          clear hb9 hc9 hg9 hpl hql c82
          go_wp2_with fail
          go_quiet (first | (go_at_call 12; exact Calls.quiet_of_same (HCu.out _)) | (go_at_call 13; exact Calls.quiet_of_same (HAk.out _)))
          go_wp2_with fail
          go_ret
          exact ⟨rfl, HB9.out.trans (below_of (Nat.le_trans (Nat.le_of_eq HB0.out) HB9.out.size) (by simp) ((Chg.refl [] _).drewN nq))⟩
end Go.Proofs.YtgockfjhokocbaaGreatDoor
