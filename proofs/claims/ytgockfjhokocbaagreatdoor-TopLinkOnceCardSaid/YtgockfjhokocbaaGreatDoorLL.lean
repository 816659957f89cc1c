/-
  PROVED: move's arm Flip; the contract of move.
-/
import Derived.Test.YtgockfjhokocbaaGreatDoorLK
import Derived.Deep.RegionHeld3
namespace Go.Proofs.YtgockfjhokocbaaGreatDoor
open Go.RowKit

/-- What Flip leaves of a link. -/
theorem link_flipped {B0 : Nat} {w w' : World} {q i a k m B : Nat} {g : Pl} {x : Lk} {d : Dg} {e : Ending} (hB : B0 ≤ w.heap.size) (hi : Inv x) (h : LinkAt B0 w q g (raw x)) (hx : x.l[i]? = some (a, d)) (hk : k < d.n) (hm1 : 1 ≤ m) (hm2 : m ≤ 255) (hb : d.bs[k]? = some B)
    (hf : FlipR w g.np g.nb x.l x.nx i a d k (B ^^^ m) e w') : (∃ c, e = .returned (.int .i64 c)) ∧ Below B0 w w' ∧ ∃ y, LinkIs B0 w' q y ∧ Inv y ∧ y.nx = x.nx := by
  obtain ⟨he, hc, hcase⟩ := hf
  have hc' : Chg [g.np, g.nb] w w' := hc.mono (fun k hk => .inl (by simp at hk; simp [hk]))
  refine ⟨he, below_of hB h.base.1 hc', ?_⟩
  rcases hcase with ⟨_, hn⟩ | ⟨hsp, d', h1, h2, h3, h4, h5, hn⟩
  · exact ⟨x, ⟨_, h.net' hn hc' (fun y hy => .inl hy)⟩, hi, rfl⟩
  · refine ⟨{ x with l := x.l.set i (a, d') }, ⟨_, h.net' hn hc' (fun y hy => ?_)⟩, inv_more (nx' := x.nx) hi (fun y hy => ?_), rfl⟩
    · rcases List.mem_or_eq_of_mem_set hy with hy | rfl
      · exact .inl hy
      · exact .inr h5
    · rcases List.mem_or_eq_of_mem_set hy with hy | rfl
      · exact hi.fly y hy
      · exact (hi.fly _ (List.mem_of_getElem? hx)).flip hi hsp hk hm1 hm2 hb h2 h3 h4

set_option maxRecDepth 100000 in
set_option maxHeartbeats 1000000 in
theorem move_flip {B0 : Nat} {w : World} {q : Nat} {x : Lk} {K A B C : Int} (hB : B0 ≤ w.heap.size) (hi : Inv x) (h : LinkIs B0 w q x) (h0 : 0 < x.l.length) (hk : K % 9 = 8) :
    Calls Tryz.prog 6 #[.pointer (some ⟨q, 0, none⟩), mvV K A B C] w (MoveR B0 w q x) := by
  have hc1 : Chg [] w (w.alloc (.cells #[.int .i64 K, .int .i64 A, .int .i64 B, .int .i64 C] 28)) := (Chg.refl _ _).alloc _
  have hbk := Blk.new w 28 #[.int .i64 K, .int .i64 A, .int .i64 B, .int .i64 C]
  have h1 := h.next hc1
  have HB1 := Lib.hid (below_of hB (by simp) hc1)
  have hB1 := Lib.hid (Nat.le_trans hB hc1.size)
  obtain ⟨g, hg, hC⟩ := link_count h1
  have c0 := hg.blk.cell 0
  have k0 := hbk.cell 0
  have k1 := hbk.cell 1
  have hlen := hg.net.len
  have hpos := Int.emod_nonneg A (show (x.l.length : Int) ≠ 0 by omega)
  have hlt := Int.emod_lt_of_pos A (show (0 : Int) < (x.l.length : Int) by omega)
  obtain ⟨i, hii⟩ : ∃ i : Nat, A % (x.l.length : Int) = (i : Int) := ⟨(A % (x.l.length : Int)).toNat, by omega⟩
  have hil : i < x.l.length := by omega
  have HA2 := Lib.hid (at_is (w.alloc (.cells #[.int .i64 K, .int .i64 A, .int .i64 B, .int .i64 C] 28)) A x.l.length i (by omega) (by have : x.l.length ≤ 2048 := hlen; omega) hii)
  have hgx : x.l[i]? = some (x.l[i].1, x.l[i].2) := List.getElem?_eq_getElem hil
  have k2 := hbk.cell 2
  have k3 := hbk.cell 3
  have HC := Lib.hid hC
  have H1 := Lib.hid hg
  have HI := Lib.hid hi
  have HGx := Lib.hid hgx
  obtain ⟨y1, y2, y3, y4⟩ := (hi.fly _ (List.getElem_mem hil)).bytes hi
  obtain ⟨kk, hkk⟩ : ∃ kk : Nat, B % 9 = (kk : Int) := ⟨(B % 9).toNat, by omega⟩
  obtain ⟨c2, hc2⟩ : ∃ c2 : Nat, C % 255 = (c2 : Int) := ⟨(C % 255).toNat, by omega⟩
  have hk9 : kk < x.l[i].2.n := by omega
  have hc255 : c2 ≤ 254 := by omega
  obtain ⟨b, hb⟩ : ∃ b, x.l[i].2.bs[kk]? = some b := ⟨_, List.getElem?_eq_getElem (show kk < x.l[i].2.bs.length by omega)⟩
  have hb2 : b < 256 := y4 b (List.mem_of_getElem? hb)
  obtain ⟨m, hm⟩ : ∃ m, m = c2 + 1 := ⟨_, rfl⟩
  have hgD := hg.next (Chg.refl [] _).drew
  have HF := Lib.hid (net_flip (m := m) hgD.net hgx hk9 (by omega) (by omega) hb hb2)
  have HLf : Hid (∀ e w', FlipR (w.alloc (.cells #[.int .i64 K, .int .i64 A, .int .i64 B, .int .i64 C] 28)).drew g.np g.nb x.l x.nx i x.l[i].1 x.l[i].2 kk (b ^^^ m) e w' → (∃ c, e = .returned (.int .i64 c)) ∧ Below B0 (w.alloc (.cells #[.int .i64 K, .int .i64 A, .int .i64 B, .int .i64 C] 28)).drew w' ∧ (∃ y, LinkIs B0 w' q y ∧ Inv y ∧ y.nx = x.nx) ∧ (w'.cell? ⟨q, 0, none⟩ = some (.pointer (some ⟨g.np, 0, none⟩)) ∧ w'.cell? ⟨w.heap.size, 2, none⟩ = some (.int .i64 B) ∧ w'.cell? ⟨w.heap.size, 3, none⟩ = some (.int .i64 C))) :=
    fun e w' hf => by
      obtain ⟨r1, r2, r3⟩ := link_flipped (w := (w.alloc (.cells #[.int .i64 K, .int .i64 A, .int .i64 B, .int .i64 C] 28)).drew) hB1.out hi hgD hgx hk9 (by omega) (by omega) hb hf
      have n1 := hg.net.map.ne_blk hg.blk
      have n2 := hg.net.map.ne_blk hbk
      exact ⟨r1, r2, r3, hf.2.1.cell (show (w.alloc (.cells #[.int .i64 K, .int .i64 A, .int .i64 B, .int .i64 C] 28)).drew.cell? _ = _ from c0) (by simpa using n1.symm), hf.2.1.cell (show (w.alloc (.cells #[.int .i64 K, .int .i64 A, .int .i64 B, .int .i64 C] 28)).drew.cell? _ = _ from k2) (by simpa using n2.symm), hf.2.1.cell (show (w.alloc (.cells #[.int .i64 K, .int .i64 A, .int .i64 B, .int .i64 C] 28)).drew.cell? _ = _ from k3) (by simpa using n2.symm)⟩
  have HBd := Lib.hid (HB1.out.drew)
  have HA := Lib.hid (at_is (w.alloc (.cells #[.int .i64 K, .int .i64 A, .int .i64 B, .int .i64 C] 28)) K 9 8 (by omega) (by omega) hk)
  obtain ⟨n, hn⟩ : ∃ n, n = x.l.length := ⟨_, rfl⟩
  have hn1 : 0 < n := by omega
  have hn2 : n ≤ 2048 := by rw [hn]; exact hlen
  have HN := Lib.hid hn
  rw [← hn] at HC HA2
  clear h hc1 hbk h1 hg hC hk h0 hlen hpos hlt hii hn hi y1 y2 y3 y4 hk9 hb hb2 hgD
  have em : IntKind.i64.wrap (1 + (c2 : Int)) = (m : Int) := by rw [hm, IntWalk.i64_in _ (by omega)]; omega
  have HM := Lib.hid hm
  clear hm
  go_enter Tryz.func6, Tryz.ntmps6
  go_wp2_with (go_at_call 19; refine HC.out.mono ?_; rintro e w1 ⟨rfl, rfl⟩)
  refine HA.out.mono ?_
  rintro e w1 ⟨rfl, rfl⟩
  go_wp2_with fail
  refine HA2.out.mono ?_
  rintro e w1 ⟨rfl, rfl⟩
  go_wp2_with fail
  refine HA.out.mono ?_
  rintro e w1 ⟨rfl, rfl⟩
  go_wp2_with fail
  obtain ⟨bx, hbx⟩ : ∃ bx, bx = w.heap.size := ⟨_, rfl⟩
  rw [← hbx] at k0 k1 k2 k3 HLf ⊢
  have HBx := Lib.hid hbx
  clear hbx
  generalize w.alloc (.cells #[.int .i64 K, .int .i64 A, .int .i64 B, .int .i64 C] 28) = W at *

  go_region_held3 (fun w' => w'.cell? ⟨q, 0, none⟩ = some (.pointer (some ⟨g.np, 0, none⟩)) ∧ w'.cell? ⟨bx, 2, none⟩ = some (.int .i64 B) ∧ w'.cell? ⟨bx, 3, none⟩ = some (.int .i64 C))
    (first | assumption | exact ⟨by assumption, by assumption, by assumption⟩ | go_keep)
    (first
      | (go_at_call 23; refine HF.out.mono ?_; rintro e w5 hf; obtain ⟨⟨cc, rfl⟩, hb5, hy5, hs5⟩ := HLf.out _ _ hf; clear hf; have HB5 := Lib.hid hb5; have HY5 := Lib.hid hy5; clear hb5 hy5)
      | (go_at_call 17; refine (at_calls _ _ _ (by omega) (by omega)).mono ?_; rintro e w1 ⟨rfl, rfl⟩; simp only [hkk, hc2]))
  all_goals
    clear hkk hc2
    go_wp2_with fail
    go_ret
    obtain ⟨y, e1, e2, e3⟩ := HY5.out
    exact ⟨rfl, HBd.out.trans HB5.out, y, e1, e2, by omega⟩

/-- move, whatever the move. -/
theorem lk_move {B0 : Nat} {w : World} {q : Nat} {x : Lk} (K A B C : Int) (hB : B0 ≤ w.heap.size) (hL : Laid B0 w) (hi : Inv x) (h : LinkIs B0 w q x) (hnx : x.nx + 8 ≤ 4611686018427387904) :
    Calls Tryz.prog 6 #[.pointer (some ⟨q, 0, none⟩), mvV K A B C] w (MoveR B0 w q x) := by
  have hk : K % 9 = 0 ∨ K % 9 = 1 ∨ K % 9 = 2 ∨ K % 9 = 3 ∨ K % 9 = 4 ∨ K % 9 = 5 ∨ K % 9 = 6 ∨ K % 9 = 7 ∨ K % 9 = 8 := by omega
  rcases Nat.eq_zero_or_pos x.l.length with h0 | h0
  · rcases hk with hk | hk | hk | hk | hk | hk | hk | hk | hk
    · exact move_push hB hi h (.inl hk)
    · exact move_push hB hi h (.inr hk)
    · exact move_tick hB hL hi h hnx hk
    · exact move_tock hB hL hi h hnx hk
    · exact move_none4 hB hi h h0 hk
    · exact move_none5 hB hi h h0 hk
    · exact move_none6 hB hi h h0 hk
    · exact move_none7 hB hi h h0 hk
    · exact move_none8 hB hi h h0 hk
  · rcases hk with hk | hk | hk | hk | hk | hk | hk | hk | hk
    · exact move_push hB hi h (.inl hk)
    · exact move_push hB hi h (.inr hk)
    · exact move_tick hB hL hi h hnx hk
    · exact move_tock hB hL hi h hnx hk
    · exact move_get4 hB hL hi h h0 hk
    · exact move_get5 hB hL hi h h0 hk
    · exact move_drop hB hi h h0 hk
    · exact move_double hB hi h hnx h0 hk
    · exact move_flip hB hi h h0 hk
end Go.Proofs.YtgockfjhokocbaaGreatDoor
