/-
  PROVED: the contracts of the sum, of the bytes' putting and of the seal.
-/
import Derived.Test.YtgockfjhokocbaaGreatDoorOA
import Derived.Test.YtgockfjhokocbaaGreatDoorSA
import Derived.Laws.BitsAllLaws
namespace Go.Proofs.YtgockfjhokocbaaGreatDoor
open Go.RowKit

def bv (bs : List Nat) : List Value := bs.map fun (c : Nat) => .int .u8 (c : Int)
def iv (xs : List Nat) : List Value := xs.map fun (c : Nat) => .int .i64 (c : Int)
theorem bv_length (bs : List Nat) : (bv bs).length = bs.length := by simp [bv]
theorem bv_get {bs : List Nat} {k : Nat} (hk : k < bs.length) : (bv bs)[k]? = some (.int .u8 bs[k]) := by simp [bv, hk]
theorem bv_one (bs : List Nat) : ∀ u ∈ bv bs, u.oneCell' = true := by
  intro u hu
  simp only [bv, List.mem_map] at hu
  obtain ⟨a, _, rfl⟩ := hu
  rfl
def sizeN (i : Nat) : Nat := [1, 1, 1, 2, 1, 2, 2, 2, 2, 1, 2, 1, 1, 1].getD i 0
def editShape : List Nat := [1, 2, 5, 6, 8, 9, 10, 11, 12, 13]
def beatShape : List Nat := [1, 2, 6]

/-- What the program's package-level variables hold; all of it lies below block B. -/
structure Laid (B : Nat) (w : World) : Prop where
  four : 4 ≤ B
  le : B ≤ w.heap.size
  tab : ∀ i, i < 16 → w.cell? ⟨2, i, none⟩ = some (.int .u32 (tab i))
  size : ∀ i, i < 14 → w.cell? ⟨1, i, none⟩ = some (.int .i64 (sizeN i))
  edit : ∃ a c, w.cell? ⟨0, 2, none⟩ = some (.slice (some a) 10 c) ∧ a.block < B ∧ Reads w 1 (some a) 10 (iv editShape)
  beat : ∃ a c, w.cell? ⟨0, 6, none⟩ = some (.slice (some a) 3 c) ∧ a.block < B ∧ Reads w 1 (some a) 3 (iv beatShape)
  err : w.cell? ⟨3, 0, none⟩ = some (.iface 163 (.agg #[.pointer (some ⟨4, 61, none⟩)]))

theorem Laid.keep {B : Nat} {S : List Nat} {w w' : World} (h : Laid B w) (hc : Chg S w w') (hS : ∀ i ∈ S, B ≤ i) : Laid B w' := by
  have h4 := h.four
  have n : ∀ k, k < B → k ∉ S := fun k hk hm => by have := hS k hm; omega
  obtain ⟨a2, c2, e2, l2, r2⟩ := h.edit
  obtain ⟨a6, c6, e6, l6, r6⟩ := h.beat
  exact ⟨h4, Nat.le_trans h.le hc.size, fun i hi => hc.cell (h.tab i hi) (n 2 (by omega)), fun i hi => hc.cell (h.size i hi) (n 1 (by omega)),
    ⟨a2, c2, hc.cell e2 (n 0 (by omega)), l2, r2.keep hc (fun i hi => n i (by simp [ob] at hi; omega))⟩,
    ⟨a6, c6, hc.cell e6 (n 0 (by omega)), l6, r6.keep hc (fun i hi => n i (by simp [ob] at hi; omega))⟩, hc.cell h.err (n 3 (by omega))⟩

theorem half_facts {B : Nat} {w : World} (h : Laid B w) {r : Nat} (hr : r < 4294967296) :
    bits .and .u32 (r : Int) 15 = (r : Int) % 16 ∧ r % 16 < 16 ∧ w.cell? ⟨2, r % 16, none⟩ = some (.int .u32 (tab (r % 16))) ∧ bits .xor .u32 ((r : Int) / 16) (tab (r % 16)) = ((half r : Nat) : Int) ∧ half r < 4294967296 := by
  refine ⟨?_, by omega, h.tab _ (by omega), ?_, half_lt hr⟩
  · have := u32_and_nat r 15 hr (by omega)
    rw [show r &&& 15 = r % 16 from Nat.and_two_pow_sub_one_eq_mod r 4] at this
    simpa using this
  · have := u32_xor_nat (r / 16) (tab (r % 16)) (by omega) (tab_lt _)
    unfold half
    simpa using this
theorem ret_int {k : IntKind} {a b : Int} (h : a = b) : Ending.returned (.int k a) = .returned (.int k b) := by rw [h]
theorem sum_calls {B : Nat} {w : World} {A : Option Addr} {c : Nat} {bs : List Nat} (h : Laid B w) (hr : Reads w 1 A bs.length (bv bs)) (hb : Bytes bs) (hl : bs.length ≤ 1000) :
    Calls Tryz.prog 56 #[.slice A bs.length c] w fun e w' => e = .returned (.int .u32 (crc bs)) ∧ w = w' := by
  have HR := Lib.hid hr
  have H := Lib.hid h
  have HB := Lib.hid hb
  clear hr h hb
  go_enter Tryz.func56, Tryz.ntmps56
  go_wp2
  go_loop [3, 8] (fun r i => ∃ k : Nat, k ≤ bs.length ∧ i = .int .i64 k ∧ r = .int .u32 (crcR 4294967295 (bs.take k))) (fun _ i => bs.length - (intOf i).toNat)
  case atStart => exact ⟨0, Nat.zero_le _, rfl, rfl⟩
  case round =>
    obtain ⟨k, hk, rfl, rfl⟩ := hrel
    by_cases hlt : k < bs.length
    · obtain ⟨ad, u, rfl, hu, hc⟩ := HR.out.at_ hlt
      rw [bv_get hlt] at hu
      obtain rfl : Value.int .u8 bs[k] = u := by injection hu
      have hck : bs[k] < 256 := HB.out _ (List.getElem_mem _)
      have htk : crcR 4294967295 (bs.take k) < 4294967296 := crcR_lt (fun c hc => HB.out c (List.mem_of_mem_take hc)) (by omega)
      have Hc : Hid (crcR 4294967295 (bs.take (k + 1)) = crcB (crcR 4294967295 (bs.take k)) bs[k]) := by
        unfold Hid
        rw [List.take_succ_eq_append_getElem hlt, crc_snoc]
      generalize crcR 4294967295 (bs.take k) = R at *
      generalize bs[k] = C at *
      have htk1 : R ^^^ C < 4294967296 := Nat.xor_lt_two_pow (n := 32) htk (by omega)
      have b1 := u32_xor_nat R C htk (by omega)
      generalize hR1 : R ^^^ C = R1 at *
      have H1 := Lib.hid hR1
      clear hR1
      obtain ⟨x1, l1, a1, y1, t1⟩ := half_facts H.out htk1
      obtain ⟨x2, l2, a2, y2, t2⟩ := half_facts H.out t1
      go_wp2_with fail
      go_round
      case rel => 
        refine ⟨k + 1, by omega, by go_num, ?_⟩
        rw [Hc.out]
        unfold crcB
        rw [H1.out]
      case measure => simp [intOf]; omega
    · have hk' : k = bs.length := by omega
      subst hk'
      have hx := u32_xor_nat 4294967295 (crcR 4294967295 bs) (by omega) (crcR_lt HB.out (by omega))
      have HX := Lib.hid hx
      clear hx
      rw [List.take_length]
      go_wp2
      go_ret
      exact ⟨ret_int HX.out, rfl⟩
end Go.Proofs.YtgockfjhokocbaaGreatDoor
