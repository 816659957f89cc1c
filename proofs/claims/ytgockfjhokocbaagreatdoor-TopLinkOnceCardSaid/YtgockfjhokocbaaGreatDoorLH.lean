/-
  PROVED: the contract of all.
-/
import Derived.Test.YtgockfjhokocbaaGreatDoorLG
namespace Go.Proofs.YtgockfjhokocbaaGreatDoor
open Go.RowKit

/-- What k deliveries leave. -/
structure AllOf (x : Lk) (k : Nat) (y : Lk) : Prop where
  inv : Inv y
  l : y.l = x.l.drop k
  nx : y.nx = x.nx
  s : y.s = x.s
  pushed : y.pushed = x.pushed
  a : x.a ≤ y.a
  cum : x.cum ≤ y.cum
  edit : x.a ≤ x.cum → (∀ i (hi : i < x.l.length), ∃ v, IsEdit x.l[i].2 (x.a + 1 + i) v) → x.a + k ≤ y.cum
  beat : ∀ i d n, i < k → x.l[i]? = some d → IsBeat d.2 n → n ≤ y.a
theorem AllOf.zero {x : Lk} (h : Inv x) : AllOf x 0 x := ⟨h, rfl, rfl, rfl, rfl, Nat.le_refl _, Nat.le_refl _, fun h _ => h, fun i d n hi => by omega⟩
theorem AllOf.step {x y z : Lk} {k : Nat} (h : AllOf x k y) (hk : k < x.l.length) (hg : Got y 0 z) : AllOf x (k + 1) z := by
  have hy : y.l[0]? = some x.l[k] := by rw [h.l, List.getElem?_drop, Nat.add_zero]; exact List.getElem?_eq_getElem hk
  refine ⟨hg.inv, ?_, hg.nx.trans h.nx, hg.s.trans h.s, hg.pushed.trans h.pushed, Nat.le_trans h.a hg.a, Nat.le_trans h.cum hg.cum, fun hac he => ?_, fun i d n hi hd hb => ?_⟩
  · rw [hg.l, h.l, List.eraseIdx_zero, List.tail_drop]
  · obtain ⟨v, hv⟩ := he k hk
    have h1 := h.edit hac he
    have := hg.edit _ _ _ hy hv (by omega)
    omega
  · by_cases hik : i < k
    · exact Nat.le_trans (h.beat i d n hik hd hb) hg.a
    · obtain rfl : i = k := by omega
      rw [List.getElem?_eq_getElem hk] at hd
      cases hd
      exact hg.beat _ _ hy hb

def AllIn (B0 : Nat) (w wr : World) (q : Nat) (x : Lk) (k : Nat) : Prop := Below B0 w wr ∧ ∃ y, LinkIs B0 wr q y ∧ AllOf x k y

theorem link_count {B0 : Nat} {w : World} {q : Nat} {x : Lk} (h : LinkIs B0 w q x) : ∃ g, LinkAt B0 w q g (raw x) ∧ Calls Tryz.prog 19 #[.pointer (some ⟨g.np, 0, none⟩)] w fun e w' => e = .returned (.int .i64 x.l.length) ∧ w = w' := by
  obtain ⟨g, h⟩ := h
  exact ⟨g, h, net_count h.net⟩

set_option maxRecDepth 100000 in
set_option maxHeartbeats 1000000 in
theorem lk_all {B0 : Nat} {w : World} {q : Nat} {x : Lk} (hB : B0 ≤ w.heap.size) (hL : Laid B0 w) (hi : Inv x) (h : LinkIs B0 w q x) :
    Calls Tryz.prog 7 #[.pointer (some ⟨q, 0, none⟩)] w fun e w' => e = .returned (.bool true) ∧ AllIn B0 w w' q x x.l.length := by
  obtain ⟨g, hg, hC⟩ := link_count h
  have c0 := hg.blk.cell 0
  have hA : Hid (AllIn B0 w w q x 0) := ⟨Below.refl _ _, x, h, AllOf.zero hi⟩
  have HC := Lib.hid hC
  obtain ⟨n, hn⟩ : ∃ n, n = x.l.length := ⟨_, rfl⟩
  have hn2 : n ≤ 2048 := by rw [hn]; exact hg.net.len
  have HN := Lib.hid hn
  have HL := Lib.hid hL
  rw [← hn] at HC
  rw [← hn]
  clear hC hg hi h hn hL
  go_enter Tryz.func7, Tryz.ntmps7
  go_wp2_with (go_at_call 19; refine HC.out.mono ?_; rintro e w1 ⟨rfl, rfl⟩)
  clear c0
  go_loopw [2, 4] (fun r i4 wr => ∃ k : Nat, k ≤ n ∧ i4 = .int .i64 k ∧ r = .bool false ∧ Hid (AllIn B0 w wr q x k)) (fun _ i4 _ => n - (intOf i4).toNat)
  case atStart => exact ⟨0, Nat.zero_le _, rfl, rfl, hA⟩
  case round =>
    obtain ⟨k, hk, rfl, rfl, hst⟩ := hrel
    clear hA
    by_cases hlt : k < n
    · obtain ⟨hbw, y, hy, hof⟩ := hst.out
      have hkl : k < x.l.length := by have := HN.out; omega
      have HG := Lib.hid (lk_get (i := 0) (Nat.le_trans hB hbw.size) (HL.out.below hbw) hof.inv hy (by rw [hof.l, List.length_drop]; omega))
      have HBw := Lib.hid hbw
      have HOf := Lib.hid hof
      have HKl := Lib.hid hkl
      clear hbw hy hof hst hkl
      go_wp2_with (go_at_call 20; refine HG.out.mono ?_; rintro e w2 ⟨rfl, hb2, z, hz, hgot⟩; have HB2 := Lib.hid hb2; have HZ := Lib.hid hz; have HGt := Lib.hid hgot; clear hb2 hz hgot)
      go_roundw
      case rel => exact ⟨k + 1, by omega, by go_num, rfl, HBw.out.trans HB2.out, z, HZ.out, HOf.out.step HKl.out HGt.out⟩
      case measure => simp [intOf]; omega
    · have hkn : k = n := by omega
      subst hkn
      obtain ⟨hbw, y, hy, hof⟩ := hst.out
      obtain ⟨g', hg', hC'⟩ := link_count hy
      have hl0 : y.l.length = 0 := by rw [hof.l, List.length_drop, ← HN.out]; omega
      rw [hl0] at hC'
      have HC' := Lib.hid hC'
      have c0 := hg'.blk.cell 0
      clear hbw hy hof hg' hl0 hC'
      go_wp2_with (go_at_call 19; refine HC'.out.mono ?_; rintro e w1 ⟨rfl, rfl⟩)
      go_ret
      exact ⟨rfl, hst.out⟩
end Go.Proofs.YtgockfjhokocbaaGreatDoor
