/-
  PROVED: contracts of the statements' helpers with loops: copied, filled, same, begins.
-/
import Derived.Test.YtoaaneejecdglaaA
namespace Go.Proofs.Ytoaaneejecdglaa
open Go.RowKit

theorem setted {bs : List Int} {k : Nat} (hk : k < bs.length) (z : List Int) (hz : z.length = bs.length) : (bv (bs.take k ++ z.drop k)).set k (.int .u8 (bs[k])) = bv (bs.take (k + 1) ++ z.drop (k + 1)) := by
  unfold bv
  rw [← List.map_set]
  congr 1
  have h1 : (bs.take k).length = k := by rw [List.length_take]; omega
  rw [List.set_append_right _ _ (by omega), h1, Nat.sub_self, List.drop_eq_getElem_cons (by omega), List.set_cons_zero, List.take_succ_eq_append_getElem hk, List.append_assoc]
  rfl

theorem copied_calls {w : World} {n c : Nat} {B : Option Addr} {ys : List Int} (hy : Reads w 1 B n (bv ys)) (hn : n ≤ 140737488351232) :
    Calls Try.prog 19 #[.slice B n c] w fun e w' => e = .returned (.slice (some ⟨w.heap.size, 0, none⟩) n n) ∧ Row w' 5 1 (some ⟨w.heap.size, 0, none⟩) n n (bv ys) ∧ Chg [] w w' := by
  obtain ⟨i0, hi, hz0, hz1, hz2⟩ := info_parts Try.info5
  have hyl : ys.length = n := by have := hy.1; rw [bv_length] at this; omega
  subst hyl
  go_enter Try.func19, Try.ntmps19
  go_wp2_with (at_make; refine wpList_make_row _ rfl (.tmp 6) (.tmp 6) 25 rfl 5 i0 (.int .u8 0) 1 1 Try.underlying25 hi hz0 hz1 hz2 .i64 .i64 _ _ ys.length ys.length rfl rfl rfl rfl (Nat.le_refl _) (by omega) (by unfold maxLen; omega) ?_)
  intro w1 hrow hch hsz
  have hrow' : Row w1 5 1 (some ⟨w.heap.size, 0, none⟩) ys.length ys.length (bv (ys.take 0 ++ (List.replicate ys.length 0).drop 0)) := by
    simpa [bv, made_one] using hrow
  clear hrow
  have HY := Lib.hid hy
  clear hy
  go_wp2
  go_loopw [4] (fun i wr => ∃ k : Nat, k ≤ ys.length ∧ i = .int .i64 k ∧ Row wr 5 1 (some ⟨w.heap.size, 0, none⟩) ys.length ys.length (bv (ys.take k ++ (List.replicate ys.length 0).drop k)) ∧ Chg [] w wr) (fun i _ => ys.length - (intOf i).toNat)
  case atStart => exact ⟨0, Nat.zero_le _, rfl, hrow', hch⟩
  case round =>
    obtain ⟨k, hk, rfl, hrow, hcw⟩ := hrel
    by_cases hlt : k < ys.length
    · obtain ⟨ad, u, rfl, hu, hc⟩ := (HY.out.keep hcw (by simp)).at_ hlt
      have hu' : u = .int .u8 ys[k] := by simpa [bv, hlt] using hu.symm
      subst hu'
      obtain ⟨g, cur, hA, hbk, h1, h2, h3⟩ := hrow.blk (by omega)
      obtain rfl : w.heap.size = g := by injection hA with hA; injection hA
      have hkc : k < cur.size := by omega
      have hd : wr.cell? ⟨w.heap.size, k, none⟩ = some cur[k] := by rw [hbk.cell]; exact Array.getElem?_eq_getElem hkc
      have hf := hbk.frozen k
      have hset := hrow.set_ (k := k) (by omega) (.int .u8 ys[k])
      rw [setted hlt _ (by simp)] at hset
      have hset' := Lib.hid hset
      clear hset hu hbk h3 hA hrow hrow'
      go_wp2
      go_roundw
      case rel => exact ⟨k + 1, by omega, by go_num, hset'.out, hcw.setCell (.inr (Nat.le_refl _)) _⟩
      case measure => simp [intOf]; omega
    · go_wp2
      go_ret
      have hk' : k = ys.length := by omega
      subst hk'
      exact ⟨rfl, by simpa using hrow, hcw⟩

/-- How many bytes 'filled(n, c)' makes. -/
def fillN (n : Int) : Nat := if n < 0 then 0 else if n > 262145 then 262145 else n.toNat

theorem filling {m k : Nat} (hk : k < m) (c : Int) : (bv (List.replicate k c ++ List.replicate (m - k) 0)).set k (.int .u8 c) = bv (List.replicate (k + 1) c ++ List.replicate (m - (k + 1)) 0) := by
  unfold bv
  rw [← List.map_set]
  congr 1
  rw [List.set_append_right _ _ (by simp), List.length_replicate, Nat.sub_self, show m - k = (m - (k + 1)) + 1 by omega, List.replicate_succ, List.set_cons_zero, List.replicate_succ', List.append_assoc]
  rfl

set_option maxHeartbeats 800000 in
set_option maxRecDepth 1000000 in
theorem filled_at (w : World) (n c : Int) (m : Nat) (hcase : (n < 0 ∧ (m : Int) ≤ 0) ∨ (262145 < n ∧ 262145 ≤ (m : Int) ∧ (m : Int) ≤ 262145) ∨ (0 ≤ n ∧ n ≤ 262145 ∧ n ≤ m ∧ (m : Int) ≤ n)) :
    Calls Try.prog 13 #[.int .i64 n, .int .u8 c] w fun e w' => e = .returned (.slice (some ⟨w.heap.size, 0, none⟩) m m) ∧ Row w' 5 1 (some ⟨w.heap.size, 0, none⟩) m m (bv (List.replicate m c)) ∧ Chg [] w w' := by
  obtain ⟨i0, hi, hz0, hz1, hz2⟩ := info_parts Try.info5
  have hml : (m : Int) ≤ 262145 := by omega
  have hmk : (m : Int) ≤ 1000000 := by omega
  rcases hcase with ⟨h0, h1⟩ | ⟨h0, h1, h2⟩ | ⟨h0, h1, h2, h3⟩
  all_goals
    go_enter Try.func13, Try.ntmps13
    go_wp2_with (at_make; refine wpList_make_row _ rfl (.tmp 11) (.tmp 11) 25 rfl 5 i0 (.int .u8 0) 1 1 Try.underlying25 hi hz0 hz1 hz2 .i64 .i64 _ _ m m rfl rfl (by omega) (by omega) (Nat.le_refl _) (by omega) (by unfold maxLen; omega) ?_)
    intro w1 hrow hch hsz
    have hrow' : Row w1 5 1 (some ⟨w.heap.size, 0, none⟩) m m (bv (List.replicate 0 c ++ List.replicate (m - 0) 0)) := by
      simpa [bv, made_one] using hrow
    clear hrow
    go_wp2
    generalize (262145 : Int) = N at *
    go_loopw [6] (fun i wr => ∃ k : Nat, k ≤ m ∧ i = .int .i64 k ∧ Row wr 5 1 (some ⟨w.heap.size, 0, none⟩) m m (bv (List.replicate k c ++ List.replicate (m - k) 0)) ∧ Chg [] w wr) (fun i _ => m - (intOf i).toNat)
    case atStart => exact ⟨0, Nat.zero_le _, rfl, hrow', hch⟩
    case round =>
      obtain ⟨k, hk, rfl, hrow, hcw⟩ := hrel
      by_cases hlt : k < m
      · obtain ⟨g, cur, hA, hbk, h1, h2, h3⟩ := hrow.blk (by omega)
        obtain rfl : w.heap.size = g := by injection hA with hA; injection hA
        have hkc : k < cur.size := by omega
        have hd : wr.cell? ⟨w.heap.size, k, none⟩ = some cur[k] := by rw [hbk.cell]; exact Array.getElem?_eq_getElem hkc
        have hf := hbk.frozen k
        have hset := hrow.set_ (k := k) (by omega) (.int .u8 c)
        rw [filling hlt] at hset
        have hset' := Lib.hid hset
        clear hset hbk h3 hA hrow hrow'
        go_wp2
        all_goals
          go_roundw
          case rel => exact ⟨k + 1, by omega, by go_num, hset'.out, hcw.setCell (.inr (Nat.le_refl _)) _⟩
          case measure => simp [intOf]; omega
      · have hk' : m = k := by omega
        have hrow2 : Row wr 5 1 (some ⟨w.heap.size, 0, none⟩) m m (bv (List.replicate m c)) := by rw [hk'] at hrow ⊢; simpa using hrow
        clear hk' hrow hrow'
        have hrow2' := Lib.hid hrow2
        clear hrow2
        go_wp2
        go_ret
        exact ⟨rfl, hrow2'.out, hcw⟩

theorem filled_calls (w : World) (n c : Int) :
    Calls Try.prog 13 #[.int .i64 n, .int .u8 c] w fun e w' => e = .returned (.slice (some ⟨w.heap.size, 0, none⟩) (fillN n) (fillN n)) ∧ Row w' 5 1 (some ⟨w.heap.size, 0, none⟩) (fillN n) (fillN n) (bv (List.replicate (fillN n) c)) ∧ Chg [] w w' := by
  refine filled_at w n c (fillN n) ?_
  unfold fillN
  split
  · left; omega
  · split
    · right; left; omega
    · right; right; omega

theorem take_step {xs ys : List Int} {k : Nat} (h : xs.take k = ys.take k) (h1 : k < xs.length) (h2 : k < ys.length) (h3 : xs[k] = ys[k]) : xs.take (k + 1) = ys.take (k + 1) := by
  rw [List.take_succ_eq_append_getElem h1, List.take_succ_eq_append_getElem h2, h, h3]

theorem same_calls {w : World} {n c m d : Nat} {A B : Option Addr} {xs ys : List Int} (hx : Reads w 1 A n (bv xs)) (hy : Reads w 1 B m (bv ys)) (hn : n ≤ 140737488351232) :
    Calls Try.prog 22 #[.slice A n c, .slice B m d] w fun e w' => e = .returned (.bool (decide (xs = ys))) ∧ ∃ q, w' = w.drewN q := by
  have hxl : xs.length = n := by have := hx.1; rw [bv_length] at this; omega
  have hyl : ys.length = m := by have := hy.1; rw [bv_length] at this; omega
  subst hxl hyl
  have HX := Lib.hid hx
  have HY := Lib.hid hy
  clear hx hy
  by_cases hl : xs.length = ys.length
  · have hl' : (((xs.length : Nat) : Int) != ys.length) = false := by simp [hl]
    have HL := Lib.hid hl
    have hl1 : xs.length ≤ ys.length := by omega
    clear hl
    go_enter Try.func22, Try.ntmps22
    go_wp2
    go_loopw [5] (fun i wr => ∃ k q : Nat, k ≤ xs.length ∧ i = .int .i64 k ∧ wr = w.drewN q ∧ Hid (xs.take k = ys.take k)) (fun i _ => xs.length - (intOf i).toNat)
    case atStart => exact ⟨0, 0, Nat.zero_le _, rfl, rfl, by unfold Hid; simp⟩
    case round =>
      obtain ⟨k, q, hk, rfl, rfl, heq⟩ := hrel
      by_cases hlt : k < xs.length
      · have hlt2 : k < ys.length := by omega
        obtain ⟨ad, u, rfl, hu, hc⟩ := HX.out.at_ hlt
        obtain ⟨bd, v, rfl, hv, hd⟩ := HY.out.at_ hlt2
        have hu' : u = .int .u8 xs[k] := by simpa [bv, hlt] using hu.symm
        have hv' : v = .int .u8 ys[k] := by simpa [bv, hlt2] using hv.symm
        subst hu' hv'
        have i1 : (0 : Int) ≤ (k : Int) := by omega
        have i2 : (k : Int) < (xs.length : Int) := by omega
        have i3 : (k : Int) < (ys.length : Int) := by omega
        clear hu hv
        by_cases hne : xs[k] = ys[k]
        · have hs : Hid (xs.take (k + 1) = ys.take (k + 1)) := take_step heq.out hlt hlt2 hne
          have hb : (xs[k] != ys[k]) = false := by simp [hne]
          clear hne
          go_wp2
          go_quiet (fail)
          go_wp2
          go_roundw
          case rel => exact ⟨k + 1, _, by omega, by go_num, rfl, hs⟩
          case measure => simp [intOf]; omega
        · have hs : Hid (¬ xs = ys) := fun h => hne (by subst h; rfl)
          have hb : (xs[k] != ys[k]) = true := by simp [hne]
          clear hne
          go_wp2
          go_quiet (fail)
          go_wp2
          go_ret
          exact ⟨by rw [decide_eq_false hs.out]; rfl, _, World.drewN_drewN _ _ _⟩
      · have hs : Hid (xs = ys) := by
          have h := heq.out
          have h2 := HL.out
          rw [List.take_of_length_le (by omega), List.take_of_length_le (by omega)] at h
          exact h
        go_wp2
        go_ret
        exact ⟨by rw [decide_eq_true hs.out]; rfl, _, rfl⟩
  · have hl' : (((xs.length : Nat) : Int) != ys.length) = true := by rw [bne_iff_ne]; omega
    have hs : Hid (¬ xs = ys) := fun h => hl (by rw [h])
    go_enter Try.func22, Try.ntmps22
    go_wp2
    go_ret
    exact ⟨by rw [decide_eq_false hs.out]; rfl, 0, rfl⟩

end Go.Proofs.Ytoaaneejecdglaa
