/-
  PROVED: the contracts of flat, long and lay.
-/
import Derived.Test.YtgockfjhokocbaaGreatDoorWC
namespace Go.Proofs.YtgockfjhokocbaaGreatDoor
open Go.RowKit

set_option maxRecDepth 100000 in
set_option maxHeartbeats 1000000 in
theorem flat_calls (w : World) (a0 a1 a2 a3 a4 a5 a6 a7 a8 a9 a10 a12 a13 : Int) :
    Calls Tryz.prog 41 #[.agg #[.int .i64 a0, .int .i64 a1, .int .i64 a2, .int .i64 a3, .int .i64 a4, .int .i64 a5, .int .i64 a6, .int .i64 a7, .int .i64 a8, .int .i64 a9, .int .i64 a10, .int .u8 0, .int .i64 a12, .int .i64 a13]] w fun e w' =>
      e = .returned (.agg #[.int .i64 a0, .int .i64 a1, .int .i64 a2, .int .i64 a3, .int .i64 a4, .int .i64 a5, .int .i64 a6, .int .i64 a7, .int .i64 a8, .int .i64 a9, .int .i64 a10, .int .i64 0, .int .i64 a12, .int .i64 a13]) ∧ Chg [] w w' := by
  go_enter Tryz.func41, Tryz.ntmps41
  go_wp2
  exact bodyPost_ret (v := .agg #[.int .i64 a0, .int .i64 a1, .int .i64 a2, .int .i64 a3, .int .i64 a4, .int .i64 a5, .int .i64 a6, .int .i64 a7, .int .i64 a8, .int .i64 a9, .int .i64 a10, .int .i64 0, .int .i64 a12, .int .i64 a13]) (by simp [results, Tryz.results41, go_sem]) rfl ⟨rfl, ((Chg.refl [] w).alloc _).alloc _⟩

theorem sizeN_le (f : Nat) : sizeN f ≤ 2 := by
  by_cases h : f < 14
  · exact (by decide : ∀ i : Fin 14, sizeN i.1 ≤ 2) ⟨f, h⟩
  · have : sizeN f = 0 := by unfold sizeN; rw [List.getD_eq_getElem?_getD, List.getElem?_eq_none (by simp; omega)]; rfl
    omega
theorem sum_size_le (S : List Nat) : (S.map sizeN).sum ≤ 2 * S.length := by
  induction S with
  | nil => simp
  | cons a S ih => have := sizeN_le a; simp only [List.map_cons, List.sum_cons, List.length_cons]; omega

theorem long_calls {B : Nat} {w : World} {A : Option Addr} {n c : Nat} {S : List Nat} (h : Laid B w) (hr : Reads w 1 A n (iv S)) (hn : n ≤ 100) (hS : ∀ f ∈ S, f < 14) {T : Nat} (hT : T = 1 + (S.map sizeN).sum) :
    Calls Tryz.prog 50 #[.slice A n c] w fun e w' => e = .returned (.int .i64 T) ∧ w = w' := by
  have HT0 := Lib.hid hT
  clear hT
  have hl : S.length = n := by have := hr.1; rw [iv_length] at this; omega
  have HL := Lib.hid hl
  have HR := Lib.hid hr
  have H := Lib.hid h
  have HS := Lib.hid hS
  clear hl hr h hS
  go_enter Tryz.func50, Tryz.ntmps50
  go_wp2
  go_loop [3, 8] (fun s i => ∃ k m : Nat, k ≤ n ∧ i = .int .i64 k ∧ s = .int .i64 m ∧ m ≤ 1 + 2 * n ∧ Hid (m = 1 + ((S.take k).map sizeN).sum)) (fun _ i => n - (intOf i).toNat)
  case atStart => exact ⟨0, 1, Nat.zero_le _, rfl, rfl, by omega, by simp [Hid]⟩
  case round =>
    obtain ⟨k, m, hk, rfl, rfl, hm, hM⟩ := hrel
    by_cases hlt : k < n
    · obtain ⟨ad, u, rfl, hu, hc⟩ := HR.out.at_ hlt
      have hkS : k < S.length := by have := HL.out; omega
      rw [iv_get hkS] at hu
      obtain rfl : Value.int .i64 S[k] = u := by injection hu
      have hf := HS.out S[k] (List.getElem_mem _)
      have HT : Hid (m + sizeN S[k] = 1 + ((S.take (k + 1)).map sizeN).sum) := by
        unfold Hid
        rw [List.take_succ_eq_append_getElem hkS, hM.out]
        simp only [List.map_append, List.map_cons, List.map_nil, List.sum_append, List.sum_cons, List.sum_nil]
        omega
      have hT2 : m + sizeN S[k] ≤ 1 + 2 * n := by
        rw [HT.out]
        have h1 := sum_size_le (S.take (k + 1))
        have h2 : (S.take (k + 1)).length ≤ n := by have := HL.out; rw [List.length_take]; omega
        omega
      have hsz := H.out.size S[k] hf
      generalize S[k] = f at *
      generalize sizeN f = z at *
      clear hM
      go_wp2
      go_round
      case rel => exact ⟨k + 1, m + z, by omega, by go_num, by go_num, hT2, HT⟩
      case measure => simp [intOf]; omega
    · go_wp2
      go_ret
      refine ⟨ret_int ?_, rfl⟩
      have : S.take k = S := List.take_of_length_le (by have := HL.out; omega)
      rw [hM.out, this, HT0.out]
end Go.Proofs.YtgockfjhokocbaaGreatDoor
