/-
  PROVED: what is known of a slice of steps that came in.
-/
import Derived.Test.YtoaaneejecdglaaAct
namespace Go.Proofs.Ytoaaneejecdglaa
open Go.RowKit

/-- A slice of steps that came in. -/
def OpsAt (w : World) (A : Option Addr) (ops : List GOp) : Prop :=
  (0 < ops.length → ∃ ad, A = some ad ∧ ∀ i o, ops[i]? = some o → ∀ j u, o.cells[j]? = some u → w.cell? ((ad.add (i * 6)).add j) = some u) ∧ ∀ o ∈ ops, o.Ok w
theorem OpsAt.keep {w w' : World} {A : Option Addr} {ops : List GOp} (h : OpsAt w A ops) (hc : Chg [] w w') : OpsAt w' A ops :=
  ⟨fun hn => by
    obtain ⟨ad, hA, hcell⟩ := h.1 hn
    exact ⟨ad, hA, fun i o ho j u hu => hc.cell (hcell i o ho j u hu) (by simp)⟩, fun o ho => (h.2 o ho).keep hc (by simp)⟩
theorem OpsAt.at_ {w : World} {A : Option Addr} {ops : List GOp} (h : OpsAt w A ops) {k : Nat} (hk : k < ops.length) :
    ∃ ad o, A = some ad ∧ ops[k]? = some o ∧ (∀ j u, o.cells[j]? = some u → w.cell? ((ad.add (k * 6)).add j) = some u) ∧ o.Ok w := by
  obtain ⟨ad, hA, hcell⟩ := h.1 (by omega)
  exact ⟨ad, ops[k], hA, List.getElem?_eq_getElem hk, hcell k _ (List.getElem?_eq_getElem hk), h.2 _ (List.getElem_mem hk)⟩

end Go.Proofs.Ytoaaneejecdglaa
