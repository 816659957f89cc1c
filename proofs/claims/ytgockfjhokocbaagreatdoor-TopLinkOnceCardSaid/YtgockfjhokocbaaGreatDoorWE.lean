/-
  PROVED: the contract of lay: the kind and the fields of a shape as bytes.
-/
import Derived.Test.YtgockfjhokocbaaGreatDoorWD
import Derived.Laws.EntriesVeiled
namespace Go.Proofs.YtgockfjhokocbaaGreatDoor
open Go.RowKit

def putB (f v : Nat) : List Nat := if sizeN f = 2 then [v / 256, v % 256] else [v]
def laidB (V S : List Nat) : List Nat := V.getD 0 0 :: S.flatMap fun f => putB f (V.getD f 0)
/-- The fields' values fit their bytes. -/
def FitsV (V S : List Nat) : Prop := V.length = 14 ∧ V.getD 0 0 < 256 ∧ ∀ f ∈ S, f < 14 ∧ 1 ≤ sizeN f ∧ (sizeN f = 1 → V.getD f 0 < 256) ∧ (sizeN f = 2 → V.getD f 0 < 65536)
theorem putB_length {f v : Nat} (h : 1 ≤ sizeN f) : (putB f v).length = sizeN f := by
  have := sizeN_le f
  unfold putB
  split
  · simp; omega
  · simp; omega
theorem laidB_snoc (V S : List Nat) (f : Nat) : laidB V (S ++ [f]) = laidB V S ++ putB f (V.getD f 0) := by simp [laidB]
theorem laidB_length {V S : List Nat} (h : ∀ f ∈ S, 1 ≤ sizeN f) : (laidB V S).length = 1 + (S.map sizeN).sum := by
  induction S with
  | nil => simp [laidB]
  | cons a S ih =>
    have ih := ih (fun f hf => h f (by simp [hf]))
    have ha := putB_length (v := V.getD a 0) (h a (by simp))
    unfold laidB at ih ⊢
    simp only [List.flatMap_cons, List.length_cons, List.length_append, ha, List.map_cons, List.sum_cons] at ih ⊢
    omega

/-- The two functions, by how many bytes they put. -/
def putsO : Obj := .cells #[.nilFunc, .func (.func 58) #[] #[], .func (.func 59) #[] #[]] 116

theorem vget {w : World} {p : Nat} {V : List Nat} (hb : Blk w p 92 (iv V).toArray) (hV : V.length = 14) : ∀ f, f < 14 → w.cell? ⟨p, f, none⟩ = some (.int .i64 (V.getD f 0 : Nat)) := by
  intro f hf
  rw [hb.cell, List.getElem?_toArray, iv_get (by omega), List.getD_eq_getElem?_getD, List.getElem?_eq_getElem (by omega)]
  rfl

set_option maxRecDepth 100000 in
set_option maxHeartbeats 1000000 in
theorem lay_calls {B : Nat} {w : World} {p : Nat} {A : Option Addr} {n c : Nat} {V S : List Nat} (h : Laid B w) (hb : Blk w p 92 (iv V).toArray) (hr : Reads w 1 A n (iv S)) (hn : n ≤ 100) (hV : FitsV V S) {T : Nat} (hT : T = (laidB V S).length) :
    Calls Tryz.prog 45 #[.pointer (some ⟨p, 0, none⟩), .slice A n c] w (NewB w T (laidB V S)) := by
  have hl : S.length = n := by have := hr.1; rw [iv_length] at this; omega
  obtain ⟨hV1, hV2, hV3⟩ := hV
  have hbX : Blk (w.alloc (.cells #[.nilFunc, .func (.func 58) #[] #[], .func (.func 59) #[] #[]] 116)) p 92 (iv V).toArray := hb.alloc _
  have c0 := vget hbX hV1 0 (by omega)
  have HL := Lib.hid hl
  have HP : Hid (Blk (w.alloc (.cells #[.nilFunc, .func (.func 58) #[] #[], .func (.func 59) #[] #[]] 116)) w.heap.size 116 #[.nilFunc, .func (.func 58) #[] #[], .func (.func 59) #[] #[]]) := Blk.new _ _ _
  have HC : Hid (Chg [] w (w.alloc (.cells #[.nilFunc, .func (.func 58) #[] #[], .func (.func 59) #[] #[]] 116))) := (Chg.refl [] w).alloc _
  have HR := Lib.hid hr
  have H := Lib.hid h
  have HB := Lib.hid hbX
  have HV := Lib.hid hV3
  have HV1 := Lib.hid hV1
  have HT := Lib.hid hT
  have HA : Hid (laidB V (S.take 0) = [V.getD 0 0]) := by simp [Hid, laidB]
  clear hl hr h hb hbX hV3 hT hV1
  generalize V.getD 0 0 = v0 at *
  go_enter Tryz.func45, Tryz.ntmps45
  go_wp2_with fail
  generalize w.alloc (.cells #[.nilFunc, .func (.func 58) #[] #[], .func (.func 59) #[] #[]] 116) = w1 at *
  refine (put8_calls (xs := []) (n := 0) ?_ (by omega) hV2).mono ?_
  · exact Reads.nil _ _ _
  rintro e w2 ⟨z, rfl, hr2, hc2, hz2⟩
  have hW : Hid (Row w2 5 1 (some ⟨z, 0, none⟩) 1 1 (bv (laidB V (S.take 0))) ∧ Chg [] w1 w2) := by
    unfold Hid
    rw [HA.out]
    exact ⟨hr2, hc2⟩
  clear hr2 hc2 HA c0
  go_wp2_with fail
  go_loopw [6, 18] (fun b i wr => ∃ k m y, k ≤ n ∧ i = .int .i64 k ∧ b = .slice (some ⟨y, 0, none⟩) m m ∧ m ≤ 1 + 2 * k ∧ Hid (m = (laidB V (S.take k)).length) ∧ Hid (Row wr 5 1 (some ⟨y, 0, none⟩) m m (bv (laidB V (S.take k)))) ∧ Hid (Chg [] w1 wr) ∧ Hid (w1.heap.size ≤ y)) (fun _ i _ => n - (intOf i).toNat)
  case atStart => exact ⟨0, 1, z, Nat.zero_le _, rfl, rfl, by omega, by simp [Hid, laidB], hW.out.1, hW.out.2, hz2⟩
  case round =>
    obtain ⟨k, m, y, hk, rfl, rfl, hm, hM, hrow, hch, hy⟩ := hrel
    by_cases hlt : k < n
    · obtain ⟨ad, u, rfl, hu, hc⟩ := ((HC.out.next hch.out).reads' HR.out (by simp)).at_ hlt
      have hkS : k < S.length := by have := HL.out; omega
      rw [iv_get hkS] at hu
      obtain rfl : Value.int .i64 S[k] = u := by injection hu
      obtain ⟨hf, hs1, hfit1, hfit2⟩ := HV.out S[k] (List.getElem_mem _)
      have hsz := (H.out.keep (HC.out.next hch.out) (by simp)).size S[k] hf
      have hP := HP.out.keep hch.out (by simp)
      have hv := vget (HB.out.keep hch.out (by simp)) HV1.out S[k] hf
      have HTk : Hid (laidB V (S.take (k + 1)) = laidB V (S.take k) ++ putB S[k] (V.getD S[k] 0)) := by
        unfold Hid
        rw [List.take_succ_eq_append_getElem hkS, laidB_snoc]
      generalize S[k] = f at *
      generalize V.getD f 0 = x at *
      have hs2 := sizeN_le f
      rcases (show sizeN f = 1 ∨ sizeN f = 2 by omega) with hs | hs
      · have s1 : wr.cell? ⟨1, f, none⟩ = some (.int .i64 1) := by rw [hsz, hs]; rfl
        have q1 := hP.cell 1
        have hsH := Lib.hid hs
        clear hsz hs hP
        have f0 : (0 : Int) ≤ (f : Int) := by omega
        have f1 : (f : Int) < 14 := by omega
        go_wp2_with fail
        go_still_tail 12, (by kernel_rfl)
        change wpList _ _ _ _ _ wr.drew
        go_wp2_with fail
        refine Calls.mono (put8_calls (xs := laidB V (S.take k)) (n := m) ?_ (by omega) (hfit1 hsH.out)) ?_
        · exact hrow.out.reads.drew
        rintro e w3 ⟨y3, rfl, hr3, hc3, hz3⟩
        go_wp2_with fail
        go_roundw
        case rel =>
          have hp : putB f x = [x] := by simp [putB, hsH.out]
          refine ⟨k + 1, m + 1, y3, by omega, by go_num, rfl, by omega, ?_, ?_, ((hch.out.drew).next hc3), Nat.le_trans hch.out.size hz3⟩
          · unfold Hid
            rw [HTk.out, List.length_append, ← hM.out, hp]
            rfl
          · unfold Hid
            rw [HTk.out, hp]
            exact hr3
        case measure => simp [intOf]; omega
      · have s1 : wr.cell? ⟨1, f, none⟩ = some (.int .i64 2) := by rw [hsz, hs]; rfl
        have q2 := hP.cell 2
        have hsH := Lib.hid hs
        clear hsz hs hP
        have f0 : (0 : Int) ≤ (f : Int) := by omega
        have f1 : (f : Int) < 14 := by omega
        go_wp2_with fail
        go_still_tail 12, (by kernel_rfl)
        change wpList _ _ _ _ _ wr.drew
        go_wp2_with fail
        refine Calls.mono (put16_calls (xs := laidB V (S.take k)) (n := m) ?_ (by omega) (hfit2 hsH.out)) ?_
        · exact hrow.out.reads.drew
        rintro e w3 ⟨y3, rfl, hr3, hc3, hz3⟩
        go_wp2_with fail
        go_roundw
        case rel =>
          have hp : putB f x = [x / 256, x % 256] := by simp [putB, hsH.out]
          refine ⟨k + 1, m + 2, y3, by omega, by go_num, rfl, by omega, ?_, ?_, ((hch.out.drew).next hc3), Nat.le_trans hch.out.size hz3⟩
          · unfold Hid
            rw [HTk.out, List.length_append, ← hM.out, hp]
            rfl
          · unfold Hid
            rw [HTk.out, hp]
            exact hr3
        case measure => simp [intOf]; omega
    · go_wp2
      go_ret
      have hS : S.take k = S := List.take_of_length_le (by have := HL.out; omega)
      rw [hS] at hrow hM
      obtain rfl : m = T := by rw [hM.out, HT.out]
      exact ⟨y, rfl, hrow.out, HC.out.next hch.out, Nat.le_trans HC.out.size hy.out⟩
end Go.Proofs.YtgockfjhokocbaaGreatDoor
