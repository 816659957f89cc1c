/-
  PROVED: the contract of body: a frame's sum taken off, or the frame refused.
-/
import Derived.Test.YtgockfjhokocbaaGreatDoorEB
import Derived.Test.YtgockfjhokocbaaGreatDoorEA
namespace Go.Proofs.YtgockfjhokocbaaGreatDoor
open Go.RowKit

theorem as_fault {B : Nat} {w : World} {p f : Nat} {v : Value} (h : Laid B w) (hb : Blk w p 107 #[v]) :
    Calls Tryz.prog 72 #[.iface 107 (.pointer (some ⟨f, 0, none⟩)), .iface 129 (.pointer (some ⟨p, 0, none⟩))] w fun e w' => e = .returned (.bool true) ∧ Blk w' p 107 #[.pointer (some ⟨f, 0, none⟩)] ∧ Chg [p] w w' := by
  refine (as_hit ⟨f, 0, none⟩ ⟨p, 0, none⟩ v w h.err (by rw [hb.cell]; rfl) (hb.frozen 0)).mono ?_
  rintro e w' ⟨rfl, rfl⟩
  refine ⟨rfl, ?_, (((((Chg.refl _ _).alloc _).alloc _).alloc _).alloc _).setCell (.inl (by simp)) _⟩
  have := ((((hb.alloc (.cells #[.pointer (some ⟨p, 0, none⟩)] 129)).alloc (.cells #[.pointer (some ⟨4, 129, none⟩), .pointer (some ⟨w.heap.size, 0, none⟩), .int .u64 150] 146)).alloc (.cells #[.pointer (some ⟨4, 129, none⟩), .pointer (some ⟨w.heap.size, 0, none⟩), .int .u64 150] 146)).alloc (.cells #[.pointer (some ⟨f, 0, none⟩)] 107)).set_ 0 (.pointer (some ⟨f, 0, none⟩))
  simpa using this

theorem body_ok {B : Nat} {w : World} {ad : Addr} {k c : Nat} {xs : List Nat} (h : Laid B w) (hx : Reads w 1 (some ad) (k + 4) (bv (framed xs)))
    (hl : xs.length = k) (hb : Bytes xs) (h0 : 0 < k) (hn : k ≤ 60) (hc : k + 4 ≤ c) :
    Calls Tryz.prog 49 #[.slice (some ad) (k + 4) c] w fun e w' => ∃ z, e = .returned (.tuple #[.slice (some ⟨z, 0, none⟩) k k, .nilIface]) ∧ Row w' 5 1 (some ⟨z, 0, none⟩) k k (bv xs) ∧ Chg [] w w' ∧ w.heap.size ≤ z := by
  have HO := Lib.hid (open_framed (c := c) h hx hl hb (by omega) hc)
  have hk : ((k : Int) == 0) = false := beq_eq_false_iff_ne.2 (by omega)
  have h64 : ¬ (64 : Int) < (k : Int) + 4 := by omega
  clear h hx hl hb
  go_enter Tryz.func49, Tryz.ntmps49
  go_wp2_with (first
    | (go_at_call 71; refine HO.out.mono ?_; rintro e w1 ⟨z, rfl, hr, hch, hz⟩; have HR := Lib.hid hr; have HC := Lib.hid hch; have HZ := Lib.hid hz; clear hr hch hz)
    | (go_at_call 72; refine (as_nil _ _).mono ?_; rintro e w2 ⟨rfl, rfl⟩))
  go_ret2
  exact ⟨z, rfl, HR.out.alloc _, HC.out.next ((Chg.refl [] _).alloc _), HZ.out⟩

theorem body_bad {B : Nat} {w : World} {ad : Addr} {k c : Nat} {bs : List Nat} (h : Laid B w) (hx : Reads w 1 (some ad) (k + 4) (bv bs))
    (hl : bs.length = k + 4) (hb : Bytes bs) (hn : k ≤ 60) (hc : k + 4 ≤ c) (hne : bs.drop k ≠ sumB (crc (bs.take k))) :
    Calls Tryz.prog 49 #[.slice (some ad) (k + 4) c] w (Refused w 109 (.slice none 0 0) k 64) := by
  have HO := Lib.hid (open_bad (c := c) h hx hl hb (by omega) hc hne)
  have h64 : ¬ (64 : Int) < (k : Int) + 4 := by omega
  have H := Lib.hid h
  clear h hx hl hb hne
  go_enter Tryz.func49, Tryz.ntmps49
  go_wp2_with (go_at_call 71; refine HO.out.mono ?_; rintro e w1 ⟨f, rfl, hf, hch, hz⟩)
  have hF := Lib.hid (hf.alloc (.cells #[.pointer none] 107))
  have hC := Lib.hid (hch.alloc (.cells #[.pointer none] 107))
  have hP : Hid (Blk (w1.alloc (.cells #[.pointer none] 107)) w1.heap.size 107 #[.pointer none]) := Blk.new _ _ _
  have hS := Lib.hid hch.size
  have hL := Lib.hid hf.lt
  clear hf hch hz HO
  go_wp2_with fail
  generalize w1.alloc (.cells #[.pointer none] 107) = w2 at *
  refine (as_fault (H.out.keep hC.out (by simp)) hP.out).mono ?_
  rintro e w3 ⟨rfl, hb3, hc3⟩
  have hF3 := hF.out.keep hc3 (by have := hL.out; simp; omega)
  have c0 := hF3.cell 0
  have c1 := hF3.cell 1
  have p0 := hb3.cell 0
  have hC3 := Lib.hid (hC.out.trans hc3 (fun i hi => .inr (by have := hS.out; simp at hi; omega)))
  clear hb3 hc3 hF3
  go_wp2_with fail
  refine (is_sum f w3 c1).mono ?_
  rintro e w4 ⟨rfl, rfl⟩
  go_wp2_with (go_at_call 40; refine (wrap_calls _ _ _).mono ?_; rintro e w5 ⟨rfl, rfl⟩)
  go_ret2
  exact ⟨_, rfl, Blk.new _ _ _, hC3.out.alloc _, hC3.out.size⟩
end Go.Proofs.YtgockfjhokocbaaGreatDoor
