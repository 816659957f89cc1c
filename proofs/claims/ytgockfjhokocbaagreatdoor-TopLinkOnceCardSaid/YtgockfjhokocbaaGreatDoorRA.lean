/-
  PROVED: the contracts of the reader: NewReader, At, U8, U16.
-/
import Derived.Test.YtgockfjhokocbaaGreatDoorWC
namespace Go.Proofs.YtgockfjhokocbaaGreatDoor
open Go.RowKit

/-- A reader, k bytes read of the N bytes bs. -/
def Rdr (B0 : Nat) (w : World) (p N k : Nat) (bs : List Nat) : Prop :=
  ∃ g, B0 ≤ g ∧ Blk w p 158 #[.slice (some ⟨g, 0, none⟩) N N, .int .i64 k, .nilIface] ∧ Row w 5 1 (some ⟨g, 0, none⟩) N N (bv bs) ∧ g ≠ p
theorem Rdr.keep {B0 : Nat} {w w' : World} {p N k : Nat} {bs : List Nat} {S : List Nat} (h : Rdr B0 w p N k bs) (hc : Chg S w w') (hp : p ∉ S) (hS : ∀ i ∈ S, i < B0) : Rdr B0 w' p N k bs := by
  obtain ⟨g, hg, hb, hr, hne⟩ := h
  exact ⟨g, hg, hb.keep hc hp, hr.keep hc (fun i hi hm => by have := hS i hm; simp [ob] at hi; omega), hne⟩

theorem rdr_new {w : World} {A : Option Addr} {N c : Nat} {bs : List Nat} (hr : Reads w 1 A N (bv bs)) (hN : N ≤ 900) :
    Calls Tryz.prog 74 #[.slice A N c] w fun e w' => ∃ p, e = .returned (.pointer (some ⟨p, 0, none⟩)) ∧ Rdr w.heap.size w' p N 0 bs ∧ Chg [] w w' ∧ w.heap.size ≤ p := by
  have HW : Hid (Calls Tryz.prog 57 #[.slice A N c, .slice none 0 0] w (NewB w N bs)) := by
    have := with_calls (w := w) (n1 := N) (n2 := 0) (c1 := c) (c2 := 0) (B := none) (ys := []) hr (Reads.nil w 1 none) (by omega) (by omega)
    unfold Hid
    simpa using this
  clear hr
  go_enter Tryz.func74, Tryz.ntmps74
  go_wp2_with (go_at_call 57; refine HW.out.mono ?_; rintro e w1 ⟨z, rfl, hr1, hc1, hz1⟩)
  go_ret
  refine ⟨w1.heap.size, rfl, ⟨z, hz1, Blk.new _ _ _, hr1.alloc _, ?_⟩, hc1.alloc _, hc1.size⟩
  have := hr1.lt z (by simp [ob])
  omega

theorem rdr_at {B0 : Nat} {w : World} {p N k : Nat} {bs : List Nat} (h : Rdr B0 w p N k bs) : Calls Tryz.prog 77 #[.pointer (some ⟨p, 0, none⟩)] w fun e w' => e = .returned (.int .i64 k) ∧ w = w' := by
  obtain ⟨g, hg0, hb, hr, hne⟩ := h
  have c1 := hb.cell 1
  go_enter Tryz.func77, Tryz.ntmps77
  go_wp2
  go_ret
  exact ⟨rfl, rfl⟩

set_option maxRecDepth 100000 in
set_option maxHeartbeats 1000000 in
theorem rdr_next {w : World} {p N k g : Nat} (m : Nat) (hb : Blk w p 158 #[.slice (some ⟨g, 0, none⟩) N N, .int .i64 k, .nilIface]) (h1 : 1 ≤ m) (hN : N ≤ 900) (hk : k + m ≤ N) :
    Calls Tryz.prog 98 #[.pointer (some ⟨p, 0, none⟩), .int .i64 m] w fun e w' => e = .returned (.slice (some ⟨g, k, none⟩) m (N - k)) ∧ Blk w' p 158 #[.slice (some ⟨g, 0, none⟩) N N, .int .i64 ((k : Int) + m), .nilIface] ∧ Chg [p] w w' := by
  have c0 := hb.cell 0
  have c1 := hb.cell 1
  have c2 := hb.cell 2
  have f1 := hb.frozen 1
  have n0 : ¬ (m : Int) < 0 := by omega
  have n1 : decide ((m : Int) < 0) = false := by simp
  have e1 : IntKind.i64.wrap ((N : Int) - k) = N - k := IntWalk.i64_in _ (by omega)
  have e2 : decide ((N : Int) - k < m) = false := by simp; omega
  have HB := Lib.hid hb
  clear hb
  go_enter Tryz.func98, Tryz.ntmps98
  go_wp2_with fail
  go_quiet (fail)
  go_wp2_with fail
  have s1 : IntKind.i64.wrap ((k : Int) + m) = k + m := IntWalk.i64_in _ (by omega)
  have s2 : (0 : Int) ≤ (k : Int) + m := by omega
  have s3 : (k : Int) ≤ (k : Int) + m := by omega
  have s4 : (k : Int) + m ≤ N := by omega
  have s5 : ((k : Int) + m).toNat = k + m := by omega
  have s6 : k + m - k = m := by omega
  have s7 : ¬ N = k := by omega
  have s8 : (0 : Int) ≤ (k : Int) := by omega
  clear e1 e2 n0 n1 h1 hk hN
  go_quiet (fail)
  go_wp2_with fail
  go_ret
  refine ⟨rfl, ?_, ((Chg.refl _ _).drewN _).setCell (.inl (by simp)) _⟩
  exact (HB.out.drewN _).set_ 1 (.int .i64 ((k : Int) + m))

/-- The list's bytes from k on, as a number. -/
theorem or8 {a b : Nat} (ha : a < 256) (hb : b < 256) : bits .or .u32 ((a : Int) * 256) (b : Int) = ((a * 256 + b : Nat) : Int) := by
  have h := u32_or_nat (a * 256) b (by omega) (by omega)
  rw [nat_join 8 (a * 256) b (by omega) (by omega)] at h
  simpa using h

theorem rdr_u8 {B0 : Nat} {w : World} {p N k v : Nat} {bs : List Nat} (h : Rdr B0 w p N k bs) (hN : N ≤ 900) (hk : k + 1 ≤ N) (hv : bs[k]? = some v) (hb : v < 256) :
    Calls Tryz.prog 75 #[.pointer (some ⟨p, 0, none⟩)] w fun e w' => e = .returned (.int .i64 v) ∧ Rdr B0 w' p N (k + 1) bs ∧ Chg [p] w w' := by
  obtain ⟨g, hg0, hbk, hr, hne⟩ := h
  have HN := Lib.hid (rdr_next 1 hbk (Nat.le_refl _) hN hk)
  have hcell : w.cell? ⟨g, k, none⟩ = some (.int .u8 v) := by
    obtain ⟨ad, e, hc⟩ := hr.reads.2 (by omega)
    obtain rfl : (⟨g, 0, none⟩ : Addr) = ad := Option.some.inj e
    have := hc k (.int .u8 v) (by unfold bv; rw [List.getElem?_map, hv]; rfl)
    rwa [add_head] at this
  have hC := Lib.hid hcell
  have HR := Lib.hid hr
  have z0 : bits .or .u32 (0 : Int) (v : Int) = (v : Int) := by
    have := u32_or_nat 0 v (by omega) (by omega)
    simpa using this
  have hn : Calls Tryz.prog 92 #[.pointer (some ⟨p, 0, none⟩), .int .i64 1] w fun e w' => e = .returned (.int .u32 v) ∧ Rdr B0 w' p N (k + 1) bs ∧ Chg [p] w w' := by
    clear hcell hbk hr
    go_enter Tryz.func92, Tryz.ntmps92
    go_wp2_with (go_at_call 98; refine HN.out.mono ?_; rintro e w1 ⟨rfl, hb1, hc1⟩)
    have hg := hc1.cell hC.out (by simpa using hne)
    have HB1 := Lib.hid hb1
    have HC1 := Lib.hid hc1
    clear hb1 hc1
    refine wp_loop_rounds 2 ?_
    rw [rounds_succ]
    go_wp2_with fail
    rw [rounds_succ]
    go_wp2_with fail
    go_ret
    refine ⟨rfl, ⟨g, hg0, HB1.out, HR.out.keep HC1.out (by simpa [ob] using hne), hne⟩, HC1.out⟩
  have HNN := Lib.hid hn
  clear hn hcell hbk hr z0
  go_enter Tryz.func75, Tryz.ntmps75
  go_wp2_with (go_at_call 92; refine HNN.out.mono ?_; rintro e w1 ⟨rfl, h1, h2⟩)
  go_ret
  exact ⟨rfl, h1, h2⟩

theorem rdr_u16 {B0 : Nat} {w : World} {p N k u v x : Nat} {bs : List Nat} (h : Rdr B0 w p N k bs) (hN : N ≤ 900) (hk : k + 2 ≤ N) (hu : bs[k]? = some u) (hv : bs[k + 1]? = some v) (hbu : u < 256) (hb : v < 256) (hxx : u * 256 + v = x) :
    Calls Tryz.prog 76 #[.pointer (some ⟨p, 0, none⟩)] w fun e w' => e = .returned (.int .i64 x) ∧ Rdr B0 w' p N (k + 2) bs ∧ Chg [p] w w' := by
  obtain ⟨g, hg0, hbk, hr, hne⟩ := h
  have HN := Lib.hid (rdr_next 2 hbk (by omega) hN hk)
  have hcell : ∀ i x, bs[i]? = some x → w.cell? ⟨g, i, none⟩ = some (.int .u8 (x : Nat)) := by
    intro i x hx
    obtain ⟨ad, e, hc⟩ := hr.reads.2 (by omega)
    obtain rfl : (⟨g, 0, none⟩ : Addr) = ad := Option.some.inj e
    have := hc i (.int .u8 x) (by unfold bv; rw [List.getElem?_map, hx]; rfl)
    rwa [add_head] at this
  have hC := Lib.hid (hcell k u hu)
  have hD := Lib.hid (hcell (k + 1) v hv)
  have HR := Lib.hid hr
  have z0 : bits .or .u32 (0 : Int) (u : Int) = (u : Int) := by
    have := u32_or_nat 0 u (by omega) (by omega)
    simpa using this
  have z1 := or8 hbu hb
  have hx64 : x < 65536 := by omega
  have hxx' := Lib.hid hxx
  clear hxx
  have hn : Calls Tryz.prog 92 #[.pointer (some ⟨p, 0, none⟩), .int .i64 2] w fun e w' => e = .returned (.int .u32 (x : Nat)) ∧ Rdr B0 w' p N (k + 2) bs ∧ Chg [p] w w' := by
    clear hcell hbk hr
    go_enter Tryz.func92, Tryz.ntmps92
    go_wp2_with (go_at_call 98; refine HN.out.mono ?_; rintro e w1 ⟨rfl, hb1, hc1⟩)
    have hg := hc1.cell hC.out (by simpa using hne)
    have hg2 := hc1.cell hD.out (by simpa using hne)
    have HB1 := Lib.hid hb1
    have HC1 := Lib.hid hc1
    clear hb1 hc1
    refine wp_loop_rounds 3 ?_
    rw [rounds_succ]
    go_wp2_with fail
    rw [rounds_succ]
    go_wp2_with fail
    rw [rounds_succ]
    go_wp2_with fail
    go_ret
    refine ⟨?_, ⟨g, hg0, HB1.out, HR.out.keep HC1.out (by simpa [ob] using hne), hne⟩, HC1.out⟩
    exact ret_int (by have := hxx'.out; omega)
  have HNN := Lib.hid hn
  clear hn hcell hbk hr z0 z1
  go_enter Tryz.func76, Tryz.ntmps76
  go_wp2_with (go_at_call 92; refine HNN.out.mono ?_; rintro e w1 ⟨rfl, h1, h2⟩)
  go_ret
  exact ⟨rfl, h1, h2⟩
end Go.Proofs.YtgockfjhokocbaaGreatDoor
