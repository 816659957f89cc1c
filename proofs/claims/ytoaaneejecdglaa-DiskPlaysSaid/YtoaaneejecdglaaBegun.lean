/-
  PROVED: the contract of begun.
-/
import Derived.Test.YtoaaneejecdglaaPair3
namespace Go.Proofs.Ytoaaneejecdglaa
open Go.RowKit

/-- The pair at block q, its first k sites begun. -/
def Part (w : World) (B q k : Nat) (cs : Array Value) (P R : Nat → Nat) : Prop :=
  Blk w q 71 cs ∧ cs.size = 4 ∧ ∀ j, j < k → cs[j]? = some (.pointer (some ⟨P j, 0, none⟩)) ∧ cs[2 + j]? = some (.pointer (some ⟨R j, 0, none⟩)) ∧
    Disk w (P j) [P j] [] 0 ∧ RDisk w (R j) [R j] [] 0 ∧ q < P j ∧ P j < R j ∧ B ≤ P j ∧ ∀ j', j' < j → R j' < P j

theorem part_pair {w : World} {B q : Nat} {cs : Array Value} {P R : Nat → Nat} (h : Part w B q 2 cs P R) :
    PairAt w q 0 ⟨P 0, [P 0], R 0, [R 0], [], 0⟩ ⟨P 1, [P 1], R 1, [R 1], [], 0⟩ := by
  obtain ⟨hb, h4, hj⟩ := h
  obtain ⟨a1, a2, a3, a4, a5, a6, a7, a8⟩ := hj 0 (by omega)
  obtain ⟨b1, b2, b3, b4, b5, b6, b7, b8⟩ := hj 1 (by omega)
  have := b8 0 (by omega)
  refine ⟨⟨cs, hb, h4, a1, a2, b1, b2⟩, ⟨a3, a4, ?_⟩, ⟨b3, b4, ?_⟩, ?_, ?_, ?_⟩
  · intro k hk hm; simp at hk hm; omega
  · intro k hk hm; simp at hk hm; omega
  · intro k hk hm; simp [Half.all] at hk hm; omega
  · intro hm; simp [Half.all] at hm; omega
  · intro hm; simp [Half.all] at hm; omega

theorem part_next {w w3 : World} {B q k p' r' : Nat} {cs : Array Value} {P R : Nat → Nat} (hk : k < 2) (h : Part w B q k cs P R) (hq : q < w.heap.size) (hB : B ≤ w.heap.size) (hc : Chg [q] w w3)
    (hb : Blk w3 q 71 ((cs.setIfInBounds k (.pointer (some ⟨p', 0, none⟩))).setIfInBounds (2 + k) (.pointer (some ⟨r', 0, none⟩))))
    (hd : Disk w3 p' [p'] [] 0) (hr : RDisk w3 r' [r'] [] 0) (hp : w.heap.size ≤ p') (hpr : p' < r') :
    ∃ cs' P' R', Part w3 B q (k + 1) cs' P' R' := by
  obtain ⟨_, h4, hj⟩ := h
  refine ⟨_, fun j => if j = k then p' else P j, fun j => if j = k then r' else R j, hb, by simpa using h4, fun j hjk => ?_⟩
  by_cases e : j = k
  · subst e
    simp only [if_true]
    refine ⟨?_, ?_, hd, hr, by omega, hpr, by omega, fun j' hj' => ?_⟩
    · rw [Array.getElem?_setIfInBounds_ne (by omega), Array.getElem?_setIfInBounds_self_of_lt (by omega)]
    · rw [Array.getElem?_setIfInBounds_self_of_lt (by simp; omega)]
    · rw [if_neg (by omega)]
      have := (hj j' hj').2.2.2.1.lt (R j') (by simp)
      omega
  · obtain ⟨a1, a2, a3, a4, a5, a6, a7, a8⟩ := hj j (by omega)
    simp only [if_neg e]
    refine ⟨?_, ?_, a3.keep hc (by simp; omega), a4.keep hc (by simp; omega), a5, a6, a7, fun j' hj' => ?_⟩
    · rw [Array.getElem?_setIfInBounds_ne (by omega), Array.getElem?_setIfInBounds_ne (by omega)]; exact a1
    · rw [Array.getElem?_setIfInBounds_ne (by omega), Array.getElem?_setIfInBounds_ne (by omega)]; exact a2
    · rw [if_neg (by omega)]
      exact a8 j' hj'

set_option maxHeartbeats 2000000 in
set_option maxRecDepth 100000 in
theorem begun_calls (w : World) :
    Calls Try.prog 31 #[] w fun e w' => ∃ q f g, e = .returned (.tuple #[.pointer (some ⟨q, 0, none⟩), .bool true]) ∧ PairAt w' q 0 f g ∧ Chg [] w w' ∧ w.heap.size ≤ q ∧ ∀ k ∈ f.all ++ g.all, w.heap.size ≤ k := by
  go_enter Try.func31, Try.ntmps31
  have hst : Part (w.alloc (.cells #[.pointer none, .pointer none, .pointer none, .pointer none] 71)) w.heap.size w.heap.size 0 #[.pointer none, .pointer none, .pointer none, .pointer none] id id := ⟨Blk.new _ _ _, rfl, fun j hj => by omega⟩
  have hch : Chg [] w (w.alloc (.cells #[.pointer none, .pointer none, .pointer none, .pointer none] 71)) := (Chg.refl _ _).alloc _
  go_wp2
  generalize w.alloc (.cells #[.pointer none, .pointer none, .pointer none, .pointer none] 71) = w0 at *
  generalize hgq : w.heap.size = q at *
  have HGQ := Lib.hid hgq
  clear hgq
  go_loopw [3] (fun i wr => ∃ (k : Nat) (cs : Array Value) (P R : Nat → Nat), k ≤ 2 ∧ i = .int .i64 k ∧ Part wr q q k cs P R ∧ Chg [] w wr) (fun i _ => 2 - (intOf i).toNat)
  case atStart => exact ⟨0, _, _, _, Nat.zero_le _, rfl, hst, hch⟩
  case round =>
    obtain ⟨k, cs, P, R, hk, rfl, hp, hcw⟩ := hrel
    by_cases hlt : k < 2
    · have hs2 := hlt
      have hi0 : (0 : Int) ≤ (k : Int) := by omega
      have hi1 : (k : Int) < 2 := by omega
      have HP := Lib.hid hp
      obtain ⟨hb, h4, hj⟩ := hp
      have hlt4 := Lib.hid h4
      have c1 : wr.cell? ⟨q, k, none⟩ = some (cs[k]'(by omega)) := by rw [hb.cell]; exact Array.getElem?_eq_getElem _
      have c2 : wr.cell? ⟨q, 2 + k, none⟩ = some (cs[2 + k]'(by omega)) := by rw [hb.cell]; exact Array.getElem?_eq_getElem _
      have f1 := hb.frozen k
      have f2 := hb.frozen (2 + k)
      have hql := hb.lt
      generalize hv1 : cs[k]'(by omega) = v1 at c1
      generalize hv2 : cs[2 + k]'(by omega) = v2 at c2
      have e2 : Hid (cs[2 + k]? = some v2) := by rw [Hid, Array.getElem?_eq_getElem (by omega), hv2]
      clear hv1 hv2 h4 hj hst hch
      go_wp2_with fail
      go_region_law (first
        | (go_simp; go_at_call 24; refine (new_calls _).mono ?_; rintro e w1 ⟨rfl, hd1, hc1⟩
           have c11 := hc1.cell (p := ⟨q, k, none⟩) (v := v1) (by exact c1) (by simp)
           have c12 := hc1.cell (p := ⟨q, 2 + k, none⟩) (v := v2) (by exact c2) (by simp)
           have hb1 := hc1.blk hb (by simp)
           have f11 := hb1.frozen k
           have f12 := hb1.frozen (2 + k)))
      all_goals
        have hset : Blk (w1.setCell ⟨q, k, none⟩ (.pointer (some ⟨wr.heap.size, 0, none⟩))) q 71 (cs.setIfInBounds k (.pointer (some ⟨wr.heap.size, 0, none⟩))) := hb1.set_ k _
        go_wp2
        go_region_law (first
          | (go_simp; go_at_call 36; refine (rnew_calls _).mono ?_; rintro e w2 ⟨rfl, hd2, hc2⟩
             have hb2 := hc2.blk hset (by simp)
             have c22 : w2.cell? ⟨q, 2 + k, none⟩ = some v2 := by
               rw [hb2.cell, Array.getElem?_setIfInBounds_ne (by omega)]; exact e2.out
             have c21 : w2.cell? ⟨q, k, none⟩ = some (.pointer (some ⟨wr.heap.size, 0, none⟩)) := by
               rw [hb2.cell, Array.getElem?_setIfInBounds_self_of_lt (by have := hlt4.out; omega)]
             have f21 := hb2.frozen k
             have f22 := hb2.frozen (2 + k)))
      all_goals
        go_wp2
        go_roundw
        case measure => simp [intOf]; omega
        case rel =>
          have hd1' : Disk w1 wr.heap.size [wr.heap.size] [] 0 := hd1
          have hsc : (w1.setCell ⟨q, k, none⟩ (.pointer (some ⟨wr.heap.size, 0, none⟩))).heap.size = w1.heap.size := by simp [World.setCell]
          have hd2' : RDisk w2 (w1.setCell ⟨q, k, none⟩ (.pointer (some ⟨wr.heap.size, 0, none⟩))).heap.size [(w1.setCell ⟨q, k, none⟩ (.pointer (some ⟨wr.heap.size, 0, none⟩))).heap.size] [] 0 := hd2
          rw [hsc] at hd2'
          have hs1' : wr.heap.size ≤ w1.heap.size := hc1.size
          have hlt1 : wr.heap.size < w1.heap.size := hd1'.lt _ (by simp)
          have hgq := HGQ.out
          have qA : Chg [q] wr w1 := by
            first
              | exact ((Chg.refl [] wr).mono (by simp)).next hc1
              | exact ((Chg.refl [] wr).drew.mono (by simp)).next hc1
              | exact (((Chg.refl [] wr).drewN _).mono (by simp)).next hc1
          have qB : Chg [q] wr w2 := by
            first
              | exact (qA.setCell (p := ⟨q, k, none⟩) (.inl (by simp)) _).next hc2
              | exact (qA.setCell (p := ⟨q, k, none⟩) (.inl (by simp)) _).drew.next hc2
              | exact ((qA.setCell (p := ⟨q, k, none⟩) (.inl (by simp)) _).drewN _).next hc2
          have hd1s : Disk (w1.setCell ⟨q, k, none⟩ (.pointer (some ⟨wr.heap.size, 0, none⟩))) wr.heap.size [wr.heap.size] [] 0 := hd1'.keep ((Chg.refl [q] w1).setCell (.inl (by simp)) _) (by simp; omega)
          have hd1t := hc2.disk hd1s (by simp)
          have qC := qB.setCell (p := ⟨q, 2 + k, none⟩) (.inl (by simp)) (.pointer (some ⟨w1.heap.size, 0, none⟩))
          have hst : Chg [q] w2 (w2.setCell ⟨q, 2 + k, none⟩ (.pointer (some ⟨w1.heap.size, 0, none⟩))) := (Chg.refl [q] w2).setCell (.inl (by simp)) _
          obtain ⟨cs', P', R', hp'⟩ := part_next hlt HP.out hql (by omega) qC (hb2.set_ (2 + k) _) (hd1t.keep hst (by simp; omega)) (hd2'.keep hst (by simp; omega)) (Nat.le_refl _) hlt1
          exact ⟨k + 1, cs', P', R', by omega, by go_num, hp', hcw.trans qC (by intro i hi; simp at hi; right; omega)⟩
    · obtain rfl : k = 2 := by omega
      go_wp2_with fail
      go_ret2
      have hgq := HGQ.out
      have hpp := part_pair hp
      refine ⟨q, _, _, rfl, hpp, hcw, by omega, fun j hj => ?_⟩
      obtain ⟨hb, h4, hj'⟩ := hp
      obtain ⟨_, _, _, _, x1, x2, x3, _⟩ := hj' 0 (by omega)
      obtain ⟨_, _, _, _, y1, y2, y3, _⟩ := hj' 1 (by omega)
      simp [Half.all] at hj
      omega

end Go.Proofs.Ytoaaneejecdglaa
