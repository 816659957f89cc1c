/-
  PROVED: the contracts of named, bounds and may, for the fields of an Edit and of a Beat.
-/
import Derived.Test.YtgockfjhokocbaaGreatDoorWB
namespace Go.Proofs.YtgockfjhokocbaaGreatDoor
open Go.RowKit

theorem iv_length (xs : List Nat) : (iv xs).length = xs.length := by simp [iv]
theorem iv_get {xs : List Nat} {k : Nat} (hk : k < xs.length) : (iv xs)[k]? = some (.int .i64 xs[k]) := by simp [iv, hk]

theorem named_yes {w : World} {A : Option Addr} {n c : Nat} {S : List Nat} (hr : Reads w 1 A n (iv S)) (hn : n ≤ 100) (f : Nat) (hf : f ∈ S) :
    Calls Tryz.prog 42 #[.slice A n c, .int .i64 f] w fun e w' => e = .returned (.bool true) ∧ w = w' := by
  have hl : S.length = n := by have := hr.1; rw [iv_length] at this; omega
  have HL := Lib.hid hl
  have HR := Lib.hid hr
  have HF := Lib.hid hf
  clear hl hr hf
  go_enter Tryz.func42, Tryz.ntmps42
  go_wp2
  go_loop [9] (fun i => ∃ k : Nat, k ≤ n ∧ i = .int .i64 k ∧ Hid (f ∉ S.take k)) (fun i => n - (intOf i).toNat)
  case atStart => exact ⟨0, Nat.zero_le _, rfl, by simp [Hid]⟩
  case round =>
    obtain ⟨k, hk, rfl, hnot⟩ := hrel
    by_cases hlt : k < n
    · obtain ⟨ad, u, rfl, hu, hc⟩ := HR.out.at_ hlt
      have hkS : k < S.length := by have := HL.out; omega
      rw [iv_get hkS] at hu
      obtain rfl : Value.int .i64 S[k] = u := by injection hu
      have HT := Lib.hid (List.take_succ_eq_append_getElem hkS)
      generalize S[k] = g at *
      by_cases hg : g = f
      · subst hg
        go_wp2
        go_ret
        exact ⟨rfl, rfl⟩
      · have hg1 : ((g : Int) == (f : Int)) = false := beq_eq_false_iff_ne.2 (by omega)
        have hg2 : ¬ ((g : Int) = f) := by omega
        have hg3 := Lib.hid hg
        clear hg
        go_wp2
        go_round
        case rel =>
          refine ⟨k + 1, by omega, by go_num, ?_⟩
          unfold Hid
          rw [HT.out, List.mem_append, not_or]
          exact ⟨hnot.out, by simpa using fun e => hg3.out e.symm⟩
        case measure => simp [intOf]; omega
    · exfalso
      have : S.take k = S := List.take_of_length_le (by have := HL.out; omega)
      exact hnot.out (by rw [this]; exact HF.out)

theorem named_no {w : World} {A : Option Addr} {n c : Nat} {S : List Nat} (hr : Reads w 1 A n (iv S)) (hn : n ≤ 100) (f : Nat) (hf : f ∉ S) :
    Calls Tryz.prog 42 #[.slice A n c, .int .i64 f] w fun e w' => e = .returned (.bool false) ∧ w = w' := by
  have hl : S.length = n := by have := hr.1; rw [iv_length] at this; omega
  have HL := Lib.hid hl
  have HR := Lib.hid hr
  have HF := Lib.hid hf
  clear hl hr hf
  go_enter Tryz.func42, Tryz.ntmps42
  go_wp2
  go_loop [9] (fun i => ∃ k : Nat, k ≤ n ∧ i = .int .i64 k) (fun i => n - (intOf i).toNat)
  case atStart => exact ⟨0, Nat.zero_le _, rfl⟩
  case round =>
    obtain ⟨k, hk, rfl⟩ := hrel
    by_cases hlt : k < n
    · obtain ⟨ad, u, rfl, hu, hc⟩ := HR.out.at_ hlt
      have hkS : k < S.length := by have := HL.out; omega
      rw [iv_get hkS] at hu
      obtain rfl : Value.int .i64 S[k] = u := by injection hu
      have hg : ¬ S[k] = f := fun e => HF.out (by rw [← e]; exact List.getElem_mem _)
      generalize S[k] = g at *
      have hg1 : ((g : Int) == (f : Int)) = false := beq_eq_false_iff_ne.2 (by omega)
      have hg2 : ¬ ((g : Int) = f) := by omega
      clear hg
      go_wp2
      go_round
      case rel => exact ⟨k + 1, by omega, by go_num⟩
      case measure => simp [intOf]; omega
    · go_wp2
      go_ret
      exact ⟨rfl, rfl⟩

/-- The bounds of a field of an Edit (its operation a deletion, its maker 1) or of a Beat. -/
def lo (f : Nat) : Int := [0, 1, 1, 0, 1, 1, 0, 1, 0, 0, 0, 0, 1, 1].getD f 0
def hi (f : Nat) : Int := [0, 255, 64, 4096, 65, 4096, 4096, 4096, 4096, 2, 4095, 0, 1, 64].getD f 0

set_option maxRecDepth 100000 in
theorem bounds_calls {w : World} {p : Nat} (m : Int) (f : Nat) (hf : f ∈ editShape) (h9 : f = 10 ∨ f = 11 → w.cell? ⟨p, 9, none⟩ = some (.int .i64 2)) (hm : f = 12 → m = 1) :
    Calls Tryz.prog 55 #[.int .i64 f, .pointer (some ⟨p, 0, none⟩), .int .i64 m] w fun e w' => e = .returned (.tuple #[.int .i64 (lo f), .int .i64 (hi f)]) ∧ w = w' := by
  simp only [editShape, List.mem_cons, List.not_mem_nil, or_false] at hf
  rcases hf with rfl | rfl | rfl | rfl | rfl | rfl | rfl | rfl | rfl | rfl
  case inr.inr.inr.inr.inr.inr.inl =>
    have c9 := h9 (.inl rfl)
    clear hm h9
    go_enter Tryz.func55, Tryz.ntmps55
    go_wp2
    go_ret2
    exact ⟨rfl, rfl⟩
  case inr.inr.inr.inr.inr.inr.inr.inl =>
    have c9 := h9 (.inr rfl)
    clear hm h9
    go_enter Tryz.func55, Tryz.ntmps55
    go_wp2
    go_ret2
    exact ⟨rfl, rfl⟩
  case inr.inr.inr.inr.inr.inr.inr.inr.inl =>
    obtain rfl := hm rfl
    clear hm h9
    go_enter Tryz.func55, Tryz.ntmps55
    go_wp2
    go_ret2
    exact ⟨rfl, rfl⟩
  all_goals
    clear hm h9
    go_enter Tryz.func55, Tryz.ntmps55
    go_wp2
    go_ret2
    exact ⟨rfl, rfl⟩

theorem may_calls {w : World} {p : Nat} {t : TypeId} {cs : Array Value} (hb : Blk w p t cs) (m : Int) (f : Nat) (x : Int) (hf : f ∈ editShape) (hx : cs[f]? = some (.int .i64 x)) (h9 : f = 10 ∨ f = 11 → cs[9]? = some (.int .i64 2)) (hm : f = 12 → m = 1) (h1 : lo f ≤ x) (h2 : x ≤ hi f) :
    Calls Tryz.prog 43 #[.int .i64 f, .pointer (some ⟨p, 0, none⟩), .int .i64 m] w fun e w' => e = .returned (.bool true) ∧ w = w' := by
  have hc : w.cell? ⟨p, f, none⟩ = some (.int .i64 x) := by rw [hb.cell]; exact hx
  have HB := Lib.hid (bounds_calls (w := w) (p := p) m f hf (fun h => by rw [hb.cell]; exact h9 h) hm)
  have hf14 : f < 14 := by
    simp only [editShape, List.mem_cons, List.not_mem_nil, or_false] at hf
    omega
  have g1 : decide (lo f ≤ x) = true := by simpa using h1
  have g2 : decide (x ≤ hi f) = true := by simpa using h2
  clear hb hx h9 hm hf
  generalize lo f = L at *
  generalize hi f = U at *
  go_enter Tryz.func43, Tryz.ntmps43
  go_wp2_with (go_at_call 55; refine HB.out.mono ?_; rintro e w1 ⟨rfl, rfl⟩)
  go_ret
  exact ⟨rfl, rfl⟩
end Go.Proofs.YtgockfjhokocbaaGreatDoor
