/-
  PROVED: the contract of step.
-/
import Derived.Test.YtoaaneejecdglaaPair3
import Derived.StillTailTactics
namespace Go.Proofs.Ytoaaneejecdglaa
open Go.RowKit

theorem PLeft.after {w w0 w' : World} {q i : Nat} {f g : Half} (hc : Chg [] w w0) (h : PLeft w0 q i f g w') : PLeft w q i f g w' := by
  obtain ⟨f', hp, hc', hS⟩ := h
  refine ⟨f', hp, (hc.mono (T := q :: f.all) (by simp)).trans hc' (fun i hi => .inl hi), fun k hk => ?_⟩
  rcases hS k hk with h | h
  · exact .inl h
  · exact .inr (Nat.le_trans hc.size h)
theorem fillN_le (n : Int) : fillN n ≤ 262145 := by unfold fillN; split; omega; split <;> omega
theorem Left.sync {w w' : World} {p s : Nat} {S : List Nat} {bs : List Int} (hd : Disk w' p S bs s) (hc : Chg S w w') : Left w p S (bs, s) w' := ⟨S, hd, hc, fun _ hk => .inl hk⟩
theorem RLeft.sync {w w' : World} {p s : Nat} {S : List Nat} {bs : List Int} (hd : RDisk w' p S bs s) (hc : Chg S w w') : RLeft w p S (bs, s) w' := ⟨S, hd, hc, fun _ hk => .inl hk⟩


end Go.Proofs.Ytoaaneejecdglaa
