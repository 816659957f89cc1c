/-
  PROVED: the tied card of 'jottertop.TopLinkOnce'.
-/
import Derived.Test.YtgockfjhokocbaaGreatDoorLP
namespace Go.Proofs.YtgockfjhokocbaaGreatDoor
open Go

theorem card_holds : Rows.TopLinkOnceCardSaid :=
  Claim7.holds_tied_plain_at .later [] [.handle, .data, .data, .widerDeep] true (true, "ce1f413cecb596c88f778a06aeca734b77f7529e1ba02978a54646365efad789") true
    row_holds (fun _ h => by cases h) (by kernel_rfl) (fun _ h => by cases h) topLinkOnce_row_tie rfl ⟨rfl, rfl⟩ (by kernel_rfl) rfl
    (fun f fn hf hfn => by
      obtain rfl : f = 3 := Option.some.inj ((show Tryz.prog.funcNamed "jotter/jottertop.TopLinkOnce" = some 3 by kernel_rfl).symm.trans hf) |>.symm
      obtain rfl : fn = Tryz.f3 := (Option.some.inj (Tryz.func3.symm.trans hfn)).symm
      exact ⟨by kernel_rfl, fun j t ht => by
        rw [Tryz.params3] at ht
        have h3 : t = 22 := by
          rcases j with _ | j
          · simpa using ht.symm
          · simp at ht
        subst h3
        exact (show Tryz.prog.wantsStandIn 22 = false by kernel_rfl)⟩)
    (by kernel_rfl)
#print axioms card_holds
end Go.Proofs.YtgockfjhokocbaaGreatDoor
