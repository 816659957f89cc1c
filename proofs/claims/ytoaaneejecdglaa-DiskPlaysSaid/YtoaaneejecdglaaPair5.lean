/-
  PROVED: the contract of step.
-/
import Derived.Test.YtoaaneejecdglaaPair4a
import Derived.Test.YtoaaneejecdglaaPair4b
import Derived.Test.YtoaaneejecdglaaPair4c
import Derived.Test.YtoaaneejecdglaaPair4d
import Derived.StillTailTactics
namespace Go.Proofs.Ytoaaneejecdglaa
open Go.RowKit

theorem step_calls {w : World} {q : Nat} {f g : Half} (o : GOp) (h : PairAt w q (siteN o.site) f g) (ho : o.Ok w) (hA : 0 < o.n → ∀ k ∈ ob o.A, k ∉ f.all) :
    Calls Try.prog 32 #[.pointer (some ⟨q, 0, none⟩), o.val] w fun e w' => e = .returned (.bool true) ∧ PLeft w q (siteN o.site) f g w' := by
  by_cases k1 : o.kind = 1
  · exact step_1 o h ho hA k1
  by_cases k2 : o.kind = 2
  · exact step_2 o h ho hA k2
  by_cases k3 : o.kind = 3
  · exact step_3 o h ho hA k3
  by_cases k4 : o.kind = 4
  · exact step_4 o h ho hA k4
  by_cases k5 : o.kind = 5
  · exact step_5 o h ho hA k5
  by_cases k6 : o.kind = 6
  · exact step_6 o h ho hA k6
  by_cases k7 : o.kind = 7
  · exact step_7 o h ho hA k7
  by_cases k8 : o.kind = 8
  · exact step_8 o h ho hA k8
  by_cases k9 : o.kind = 9
  · exact step_9 o h ho hA k9
  by_cases k10 : o.kind = 10
  · exact step_10 o h ho hA k10
  exact step_no o h ho hA ⟨k1, k2, k3, k4, k5, k6, k7, k8, k9, k10⟩

end Go.Proofs.Ytoaaneejecdglaa
