/-
  PROVED: move's arms get, Drop, Double.
-/
import Derived.Test.YtgockfjhokocbaaGreatDoorLJ
namespace Go.Proofs.YtgockfjhokocbaaGreatDoor
open Go.RowKit

theorem DgOk.same {x : Lk} {d e : Dg} (h : DgOk x d) (h1 : e.up = d.up) (h2 : e.sp = d.sp) (h3 : e.n = d.n) (h4 : e.bs = d.bs) : DgOk x e := by
  rcases h with ⟨num, v, k1, k2, k3, g1, g2, g3, g4⟩ | ⟨ack, k1, g1, g2, g3, g4⟩ | ⟨g1, g2, g3, g4⟩
  · exact .inl ⟨num, v, k1, k2, k3, h2.trans g1, h1.trans g2, h3.trans g3, h4.trans g4⟩
  · exact .inr (.inl ⟨ack, k1, h2.trans g1, h1.trans g2, h3.trans g3, h4.trans g4⟩)
  · exact .inr (.inr ⟨h2.trans g1, by omega, by omega, by rw [h3, h4]; exact g4⟩)
theorem inv_more {x : Lk} (h : Inv x) {l' : List (Nat × Dg)} {nx' : Nat} (hl : ∀ y ∈ l', DgOk x y.2) : Inv { x with l := l', nx := nx' } :=
  ⟨h.a_cum, h.cum_s, h.s_len, h.len, h.val, h.held, fun y hy => hl y hy⟩

set_option maxRecDepth 100000 in
set_option maxHeartbeats 1000000 in
theorem move_get4 {B0 : Nat} {w : World} {q : Nat} {x : Lk} {K A B C : Int} (hB : B0 ≤ w.heap.size) (hL : Laid B0 w) (hi : Inv x) (h : LinkIs B0 w q x) (h0 : 0 < x.l.length) (hk : K % 9 = 4) :
    Calls Tryz.prog 6 #[.pointer (some ⟨q, 0, none⟩), mvV K A B C] w (MoveR B0 w q x) := by
  have hc1 : Chg [] w (w.alloc (.cells #[.int .i64 K, .int .i64 A, .int .i64 B, .int .i64 C] 28)) := (Chg.refl _ _).alloc _
  have hbk := Blk.new w 28 #[.int .i64 K, .int .i64 A, .int .i64 B, .int .i64 C]
  have h1 := h.next hc1
  have HB1 := Lib.hid (below_of hB (by simp) hc1)
  have hB1 := Lib.hid (Nat.le_trans hB hc1.size)
  obtain ⟨g, hg, hC⟩ := link_count h1
  have c0 := hg.blk.cell 0
  have k0 := hbk.cell 0
  have k1 := hbk.cell 1
  have hlen := hg.net.len
  have hpos := Int.emod_nonneg A (show (x.l.length : Int) ≠ 0 by omega)
  have hlt := Int.emod_lt_of_pos A (show (0 : Int) < (x.l.length : Int) by omega)
  obtain ⟨i, hii⟩ : ∃ i : Nat, A % (x.l.length : Int) = (i : Int) := ⟨(A % (x.l.length : Int)).toNat, by omega⟩
  have hil : i < x.l.length := by omega
  have HA2 := Lib.hid (at_is (w.alloc (.cells #[.int .i64 K, .int .i64 A, .int .i64 B, .int .i64 C] 28)) A x.l.length i (by omega) (by have : x.l.length ≤ 2048 := hlen; omega) hii)
  have hgx : x.l[i]? = some (x.l[i].1, x.l[i].2) := List.getElem?_eq_getElem hil
  have HC := Lib.hid hC
  have HP := Lib.hid (lk_get hB1.out (hL.below HB1.out) hi h1 hil)
  have HA := Lib.hid (at_is (w.alloc (.cells #[.int .i64 K, .int .i64 A, .int .i64 B, .int .i64 C] 28)) K 9 4 (by omega) (by omega) hk)
  obtain ⟨n, hn⟩ : ∃ n, n = x.l.length := ⟨_, rfl⟩
  have hn1 : 0 < n := by omega
  have hn2 : n ≤ 2048 := by rw [hn]; exact hlen
  have HN := Lib.hid hn
  rw [← hn] at HC HA2
  clear h hc1 hbk h1 hg hC hk h0 hlen hpos hlt hii hn hL hi hil hgx
  go_enter Tryz.func6, Tryz.ntmps6
  go_wp2_with (go_at_call 19; refine HC.out.mono ?_; rintro e w1 ⟨rfl, rfl⟩)
  refine HA.out.mono ?_
  rintro e w1 ⟨rfl, rfl⟩
  go_wp2_with fail
  refine HA2.out.mono ?_
  rintro e w1 ⟨rfl, rfl⟩
  go_wp2_with fail
  refine HA.out.mono ?_
  rintro e w1 ⟨rfl, rfl⟩
  go_wp2_with ((go_at_call 20; refine HP.out.mono ?_; rintro e w1 ⟨rfl, hb, y, hy, hgot⟩; have HGt := Lib.hid hgot; clear hgot))
  go_ret
  exact ⟨rfl, HB1.out.trans hb, y, hy, HGt.out.inv, by have := HGt.out.nx; omega⟩

set_option maxRecDepth 100000 in
set_option maxHeartbeats 1000000 in
theorem move_get5 {B0 : Nat} {w : World} {q : Nat} {x : Lk} {K A B C : Int} (hB : B0 ≤ w.heap.size) (hL : Laid B0 w) (hi : Inv x) (h : LinkIs B0 w q x) (h0 : 0 < x.l.length) (hk : K % 9 = 5) :
    Calls Tryz.prog 6 #[.pointer (some ⟨q, 0, none⟩), mvV K A B C] w (MoveR B0 w q x) := by
  have hc1 : Chg [] w (w.alloc (.cells #[.int .i64 K, .int .i64 A, .int .i64 B, .int .i64 C] 28)) := (Chg.refl _ _).alloc _
  have hbk := Blk.new w 28 #[.int .i64 K, .int .i64 A, .int .i64 B, .int .i64 C]
  have h1 := h.next hc1
  have HB1 := Lib.hid (below_of hB (by simp) hc1)
  have hB1 := Lib.hid (Nat.le_trans hB hc1.size)
  obtain ⟨g, hg, hC⟩ := link_count h1
  have c0 := hg.blk.cell 0
  have k0 := hbk.cell 0
  have k1 := hbk.cell 1
  have hlen := hg.net.len
  have hpos := Int.emod_nonneg A (show (x.l.length : Int) ≠ 0 by omega)
  have hlt := Int.emod_lt_of_pos A (show (0 : Int) < (x.l.length : Int) by omega)
  obtain ⟨i, hii⟩ : ∃ i : Nat, A % (x.l.length : Int) = (i : Int) := ⟨(A % (x.l.length : Int)).toNat, by omega⟩
  have hil : i < x.l.length := by omega
  have HA2 := Lib.hid (at_is (w.alloc (.cells #[.int .i64 K, .int .i64 A, .int .i64 B, .int .i64 C] 28)) A x.l.length i (by omega) (by have : x.l.length ≤ 2048 := hlen; omega) hii)
  have hgx : x.l[i]? = some (x.l[i].1, x.l[i].2) := List.getElem?_eq_getElem hil
  have HC := Lib.hid hC
  have HP := Lib.hid (lk_get hB1.out (hL.below HB1.out) hi h1 hil)
  have HA := Lib.hid (at_is (w.alloc (.cells #[.int .i64 K, .int .i64 A, .int .i64 B, .int .i64 C] 28)) K 9 5 (by omega) (by omega) hk)
  obtain ⟨n, hn⟩ : ∃ n, n = x.l.length := ⟨_, rfl⟩
  have hn1 : 0 < n := by omega
  have hn2 : n ≤ 2048 := by rw [hn]; exact hlen
  have HN := Lib.hid hn
  rw [← hn] at HC HA2
  clear h hc1 hbk h1 hg hC hk h0 hlen hpos hlt hii hn hL hi hil hgx
  go_enter Tryz.func6, Tryz.ntmps6
  go_wp2_with (go_at_call 19; refine HC.out.mono ?_; rintro e w1 ⟨rfl, rfl⟩)
  refine HA.out.mono ?_
  rintro e w1 ⟨rfl, rfl⟩
  go_wp2_with fail
  refine HA2.out.mono ?_
  rintro e w1 ⟨rfl, rfl⟩
  go_wp2_with fail
  refine HA.out.mono ?_
  rintro e w1 ⟨rfl, rfl⟩
  go_wp2_with ((go_at_call 20; refine HP.out.mono ?_; rintro e w1 ⟨rfl, hb, y, hy, hgot⟩; have HGt := Lib.hid hgot; clear hgot))
  go_ret
  exact ⟨rfl, HB1.out.trans hb, y, hy, HGt.out.inv, by have := HGt.out.nx; omega⟩

set_option maxRecDepth 100000 in
set_option maxHeartbeats 1000000 in
theorem move_drop {B0 : Nat} {w : World} {q : Nat} {x : Lk} {K A B C : Int} (hB : B0 ≤ w.heap.size) (hi : Inv x) (h : LinkIs B0 w q x) (h0 : 0 < x.l.length) (hk : K % 9 = 6) :
    Calls Tryz.prog 6 #[.pointer (some ⟨q, 0, none⟩), mvV K A B C] w (MoveR B0 w q x) := by
  have hc1 : Chg [] w (w.alloc (.cells #[.int .i64 K, .int .i64 A, .int .i64 B, .int .i64 C] 28)) := (Chg.refl _ _).alloc _
  have hbk := Blk.new w 28 #[.int .i64 K, .int .i64 A, .int .i64 B, .int .i64 C]
  have h1 := h.next hc1
  have HB1 := Lib.hid (below_of hB (by simp) hc1)
  have hB1 := Lib.hid (Nat.le_trans hB hc1.size)
  obtain ⟨g, hg, hC⟩ := link_count h1
  have c0 := hg.blk.cell 0
  have k0 := hbk.cell 0
  have k1 := hbk.cell 1
  have hlen := hg.net.len
  have hpos := Int.emod_nonneg A (show (x.l.length : Int) ≠ 0 by omega)
  have hlt := Int.emod_lt_of_pos A (show (0 : Int) < (x.l.length : Int) by omega)
  obtain ⟨i, hii⟩ : ∃ i : Nat, A % (x.l.length : Int) = (i : Int) := ⟨(A % (x.l.length : Int)).toNat, by omega⟩
  have hil : i < x.l.length := by omega
  have HA2 := Lib.hid (at_is (w.alloc (.cells #[.int .i64 K, .int .i64 A, .int .i64 B, .int .i64 C] 28)) A x.l.length i (by omega) (by have : x.l.length ≤ 2048 := hlen; omega) hii)
  have hgx : x.l[i]? = some (x.l[i].1, x.l[i].2) := List.getElem?_eq_getElem hil
  have HC := Lib.hid hC
  have HP := Lib.hid (net_drop hg.net hgx)
  have H1 := Lib.hid hg
  have HI := Lib.hid hi
  have HA := Lib.hid (at_is (w.alloc (.cells #[.int .i64 K, .int .i64 A, .int .i64 B, .int .i64 C] 28)) K 9 6 (by omega) (by omega) hk)
  have HX := Lib.hid (show (x.l.eraseIdx i).length = x.l.length - 1 by rw [List.length_eraseIdx, if_pos hil])
  obtain ⟨n, hn⟩ : ∃ n, n = x.l.length := ⟨_, rfl⟩
  have hn1 : 0 < n := by omega
  have hn2 : n ≤ 2048 := by rw [hn]; exact hlen
  have HN := Lib.hid hn
  rw [← hn] at HC HA2 HX
  clear h hc1 hbk h1 hg hC hk h0 hlen hpos hlt hii hn hi hil hgx
  go_enter Tryz.func6, Tryz.ntmps6
  go_wp2_with (go_at_call 19; refine HC.out.mono ?_; rintro e w1 ⟨rfl, rfl⟩)
  refine HA.out.mono ?_
  rintro e w1 ⟨rfl, rfl⟩
  go_wp2_with fail
  refine HA2.out.mono ?_
  rintro e w1 ⟨rfl, rfl⟩
  go_wp2_with fail
  refine HA.out.mono ?_
  rintro e w1 ⟨rfl, rfl⟩
  go_wp2_with (fail)
  refine HP.out.mono ?_
  rintro e w2 ⟨rfl, hn3, hc3⟩
  have h3 := H1.out.net' hn3 (hc3.mono (fun k hk => .inl (by simp at hk; simp [hk]))) (fun y hy => .inl (List.mem_of_mem_eraseIdx hy))
  have HB3 := Lib.hid (HB1.out.trans (below_of hB1.out (fun k hk => by simp at hk; subst hk; exact H1.out.lnb.2) hc3))
  have hC3 := net_count h3.net
  have hl3 : ((((raw x).l.eraseIdx i).length : Nat) : Int) = (n : Int) - 1 := by have t : ((raw x).l.eraseIdx i).length = n - 1 := HX.out; rw [t]; omega
  simp only [hl3] at hC3
  have HC3 := Lib.hid hC3
  have H3 := Lib.hid h3
  have c30 := h3.blk.cell 0
  have ew : IntKind.i64.wrap ((n : Int) - 1) = (n : Int) - 1 := IntWalk.i64_in _ (by omega)
  clear hn3 hc3 hC3 hl3 h3
  go_wp2_with (go_at_call 19; refine HC3.out.mono ?_; rintro e w1 ⟨rfl, rfl⟩)
  go_ret
  exact ⟨by simp, HB3.out, _, ⟨_, H3.out⟩, inv_erase HI.out i, by show x.nx ≤ _; omega⟩

set_option maxRecDepth 100000 in
set_option maxHeartbeats 1000000 in
theorem move_double {B0 : Nat} {w : World} {q : Nat} {x : Lk} {K A B C : Int} (hB : B0 ≤ w.heap.size) (hi : Inv x) (h : LinkIs B0 w q x) (hnx : x.nx + 8 ≤ 4611686018427387904) (h0 : 0 < x.l.length) (hk : K % 9 = 7) :
    Calls Tryz.prog 6 #[.pointer (some ⟨q, 0, none⟩), mvV K A B C] w (MoveR B0 w q x) := by
  have hc1 : Chg [] w (w.alloc (.cells #[.int .i64 K, .int .i64 A, .int .i64 B, .int .i64 C] 28)) := (Chg.refl _ _).alloc _
  have hbk := Blk.new w 28 #[.int .i64 K, .int .i64 A, .int .i64 B, .int .i64 C]
  have h1 := h.next hc1
  have HB1 := Lib.hid (below_of hB (by simp) hc1)
  have hB1 := Lib.hid (Nat.le_trans hB hc1.size)
  obtain ⟨g, hg, hC⟩ := link_count h1
  have c0 := hg.blk.cell 0
  have k0 := hbk.cell 0
  have k1 := hbk.cell 1
  have hlen := hg.net.len
  have hpos := Int.emod_nonneg A (show (x.l.length : Int) ≠ 0 by omega)
  have hlt := Int.emod_lt_of_pos A (show (0 : Int) < (x.l.length : Int) by omega)
  obtain ⟨i, hii⟩ : ∃ i : Nat, A % (x.l.length : Int) = (i : Int) := ⟨(A % (x.l.length : Int)).toNat, by omega⟩
  have hil : i < x.l.length := by omega
  have HA2 := Lib.hid (at_is (w.alloc (.cells #[.int .i64 K, .int .i64 A, .int .i64 B, .int .i64 C] 28)) A x.l.length i (by omega) (by have : x.l.length ≤ 2048 := hlen; omega) hii)
  have hgx : x.l[i]? = some (x.l[i].1, x.l[i].2) := List.getElem?_eq_getElem hil
  have HC := Lib.hid hC
  have HP := Lib.hid (net_double hg.net (by show x.nx + 1 ≤ _; omega) hgx)
  have H1 := Lib.hid hg
  have HI := Lib.hid hi
  have HDg := Lib.hid (hi.fly _ (List.getElem_mem hil))
  have HA := Lib.hid (at_is (w.alloc (.cells #[.int .i64 K, .int .i64 A, .int .i64 B, .int .i64 C] 28)) K 9 7 (by omega) (by omega) hk)
  obtain ⟨n, hn⟩ : ∃ n, n = x.l.length := ⟨_, rfl⟩
  have hn1 : 0 < n := by omega
  have hn2 : n ≤ 2048 := by rw [hn]; exact hlen
  have HN := Lib.hid hn
  rw [← hn] at HC HA2
  clear h hc1 hbk h1 hg hC hk h0 hlen hpos hlt hii hn hi hgx
  go_enter Tryz.func6, Tryz.ntmps6
  go_wp2_with (go_at_call 19; refine HC.out.mono ?_; rintro e w1 ⟨rfl, rfl⟩)
  refine HA.out.mono ?_
  rintro e w1 ⟨rfl, rfl⟩
  go_wp2_with fail
  refine HA2.out.mono ?_
  rintro e w1 ⟨rfl, rfl⟩
  go_wp2_with fail
  refine HA.out.mono ?_
  rintro e w1 ⟨rfl, rfl⟩
  go_wp2_with (fail)
  refine HP.out.mono ?_
  rintro e w2 hp
  obtain ⟨-, hb2, g2, l2, nx2, h2, -, -, -, -, -, hcase⟩ := link_sent hB1.out H1.out hp
  have HB2 := Lib.hid (HB1.out.trans hb2)
  have hC2 := net_count h2.net
  have H2 := Lib.hid h2
  have c20 := h2.blk.cell 0
  clear hp hb2 h2
  rcases hcase with ⟨t1, t2, t3, rfl⟩ | ⟨t1, rfl, d, t2, t3, t4, t5, t6, t7⟩
  · have t1' : 2048 ≤ n := by rw [HN.out]; exact t1
    have en : n = 2048 := by omega
    have t2' : l2 = x.l := t2
    have t3' : nx2 = x.nx := t3
    have HI2 : Hid (Inv { x with l := l2, nx := nx2 }) := inv_more HI.out (by rw [t2']; exact HI.out.fly)
    have HT3 := Lib.hid t3'
    clear hC2 t1 t2 t3 t1' t2' t3'
    have en2 : (n : Int) = 2048 := by omega
    clear en
    go_wp2_with fail
    go_ret
    exact ⟨by simp, HB2.out, { x with l := l2, nx := nx2 }, ⟨_, H2.out⟩, HI2.out, by show nx2 ≤ _; have := HT3.out; omega⟩
  · have t6' : l2 = x.l ++ [(x.nx, d)] := t6
    have t7' : nx2 = x.nx + 1 := t7
    have HI2 : Hid (Inv { x with l := l2, nx := nx2 }) := inv_more HI.out (by
      rw [t6']
      intro y hy
      rcases List.mem_append.1 hy with hy | hy
      · exact HI.out.fly y hy
      · simp at hy
        subst hy
        exact HDg.out.same t2 t3 t4 t5)
    have HT7 := Lib.hid t7'
    have hl2 : ((l2.length : Nat) : Int) = (n : Int) + 1 := by rw [t6', List.length_append]; have := HN.out; simp; omega
    simp only [hl2] at hC2
    have HC2 := Lib.hid hC2
    have ew : IntKind.i64.wrap ((n : Int) + 1) = (n : Int) + 1 := IntWalk.i64_in _ (by omega)
    clear hC2 t1 t2 t3 t4 t5 t6 t7 t6' t7' hl2
    go_wp2_with (go_at_call 19; refine HC2.out.mono ?_; rintro e w1 ⟨rfl, rfl⟩)
    go_ret
    exact ⟨by simp, HB2.out, { x with l := l2, nx := nx2 }, ⟨_, H2.out⟩, HI2.out, by show nx2 ≤ _; have := HT7.out; omega⟩
end Go.Proofs.YtgockfjhokocbaaGreatDoor
