/-
  PROVED: what is left stays the last of what was put in, behind each step.
-/
import Derived.Test.YtphbhmppjafhkaaDrained
namespace Go.Proofs.Ytphbhmppjafhkaa
open Go.RowKit

theorem Put.push {t : St} {put : List Int} (h : Put t put) (x : Int) : Put ⟨t.a, t.s, t.xs ++ [x]⟩ (put ++ [x]) := by
  have hl := h.1
  refine ⟨?_, fun i hi => ?_⟩
  · show (put ++ [x]).length = t.a + (t.xs ++ [x]).length
    simp; omega
  · change i < (t.xs ++ [x]).length at hi
    show (put ++ [x])[t.a + i]? = some (t.xs ++ [x])[i]
    simp only [List.length_append, List.length_singleton] at hi
    by_cases hx : i < t.xs.length
    · rw [List.getElem?_append_left (by omega), h.2 i hx]
      simp only [List.getElem_append_left hx]
    · have hi' : i = t.xs.length := by omega
      subst hi'
      rw [List.getElem?_append_right (by omega)]
      simp [hl]
theorem Put.act {t : St} {put : List Int} (h : Put t put) (hok : t.Ok) (kd st n : Int) (win : Nat) (k1 : ¬ kd = 1) (k8 : ¬ kd = 8) : Put (actF ⟨kd, st, n⟩ win t).2 put := by
  have hack : Put (t.ack n).2 put := by
    unfold St.ack
    split
    · exact h
    · split
      · exact h
      · rename_i hn ha
        have h1 : n.toNat = t.a + (n.toNat - t.a) := by omega
        have := h.drop (m := n.toNat - t.a) (s := t.s) (by have := hok.2.1; omega)
        rw [← h1] at this
        exact this
  unfold actF
  simp only [if_neg k1, if_neg k8]
  split
  · exact h
  · split
    · exact hack
    · exact h
end Go.Proofs.Ytphbhmppjafhkaa
