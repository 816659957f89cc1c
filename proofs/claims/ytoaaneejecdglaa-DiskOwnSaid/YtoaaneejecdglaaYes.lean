/-
  PROVED: the contracts of same and begins where the answer is yes; a row cut at its front.
-/
import Derived.Test.YtoaaneejecdglaaBorn
namespace Go.Proofs.Ytoaaneejecdglaa
open Go.RowKit

theorem same_yes {w : World} {n c m d : Nat} {A B : Option Addr} {xs ys : List Int} (hx : Reads w 1 A n (bv xs)) (hy : Reads w 1 B m (bv ys)) (hn : n ≤ 140737488351232) (h : xs = ys) :
    Calls Try.prog 22 #[.slice A n c, .slice B m d] w fun e w' => e = .returned (.bool true) ∧ ∃ q, w' = w.drewN q :=
  (same_calls hx hy hn).mono fun _ _ ⟨he, hw⟩ => ⟨by rw [he, decide_eq_true h], hw⟩
theorem begins_yes {w : World} {n c m d : Nat} {A B : Option Addr} {xs ys : List Int} (hx : Reads w 1 A n (bv xs)) (hc : n ≤ c) (hy : Reads w 1 B m (bv ys)) (hm : m ≤ 140737488351232) (h : xs.take ys.length = ys) :
    Calls Try.prog 21 #[.slice A n c, .slice B m d] w fun e w' => e = .returned (.bool true) ∧ ∃ q, w' = w.drewN q :=
  (begins_calls hx hc hy hm).mono fun _ _ ⟨he, hw⟩ => ⟨by rw [he, decide_eq_true h], hw⟩

/-- 'b[k:]' of a row, as the walk spells its address. -/
theorem Row.from_ {w : World} {g n k : Nat} {xs : List Int} (h : Row w 5 1 (some ⟨g, 0, none⟩) n n (bv xs)) (hk : k ≤ n) :
    Reads w 1 (if n = k then some ⟨g, 0, none⟩ else some ⟨g, k, none⟩) (n - k) (bv (xs.drop k)) := by
  have := h.reads.cut hk (Nat.le_refl n)
  rw [bv_drop, Option.map_some, add_head, Nat.mul_one] at this
  exact this

end Go.Proofs.Ytoaaneejecdglaa
