/-
  No cell of these rows narrows 'for every input' (looked for: loops, veiled, ifaces, maps, wideKeys, modest, calm, conditions, laid).
  DERIVED. THE GIVEN ROWS OF THIS SEAT. 9 by the template 'for every input the law returns true; each argument reads behind the call as it read before'; 0 by the template 'total and deterministic' (their statements: YtoaaneejecdglaaTotals.lean).
  GIVEN WITH THE SEED: the statements are not yours to turn. If you find one false, say at which input.
  Laid BY PROGRAM, IN A SANDBOX (cutbox-rows.mjs): the forced cells as the released guide's own fill.sh prints them over the translation 3970114409e3107b… (all of the seat's roots in one cut). By AI agents, Wed Nov 11 2026. No macro, syntax, notation, axiom, sorry.
-/
import Derived.Test.YtoaaneejecdglaaChecked
import GoSem.Claim
import GoSem.ClaimJoined
import GoSem.ClaimMapViews
import Derived.JoinedTies
import Derived.KernelRfl
namespace Go.Proofs.Ytoaaneejecdglaa
/- THE CELL 'sum', in the pinned program and in every row, IS THE sha256 OF THE DUMP (.gsa) THAT YtoaaneejecdglaaProg.lean LOADS. Nothing in Lean hashes anything: it is a label: what it is worth is what the hold of that sum in a sandbox is worth. -/
noncomputable def Try.pinned : Pinned := { name := "ytoaaneejecdglaa", sum := "3970114409e3107b53efb29b46faac821c1ebd4548882d7f7b2992a99363f1b5", checked := Try.checked }
namespace Rows
def none {H : Type} : Left H := { results := [], args := [] }

/-- 'jotterlaw02.DiskFull': WHATEVER THE INPUT: true; the input reads as it did. -/
def diskFullSpec : ChangeSpec := { name := "diskFull", fn := fun _ => fun
  | [d1, d2] => { results := [.lit (.bool true)], args := [d1, d2] }
  | _ => none }
def diskFullRow : OpenClaim := { program := "ytoaaneejecdglaa", sum := "3970114409e3107b53efb29b46faac821c1ebd4548882d7f7b2992a99363f1b5", func := "jotter/jotterlaw02.DiskFull", spec := "diskFull", apart := false }
def DiskFullSaid : Prop := diskFullRow.holds Try.pinned (OpenSpec.ofChange diskFullSpec)

/-- ITS FALSE NEIGHBOUR: 'it returns false'. Refute it at one input. -/
def diskFullWrong : ChangeSpec := { name := "diskFull", fn := fun _ => fun
  | [d1, d2] => { results := [.lit (.bool false)], args := [d1, d2] }
  | _ => none }
def DiskFullWrongFalsely : Prop := diskFullRow.holds Try.pinned (OpenSpec.ofChange diskFullWrong)

/-- 'jotterlaw02.DiskTail': WHATEVER THE INPUT: true; the input reads as it did. -/
def diskTailSpec : ChangeSpec := { name := "diskTail", fn := fun _ => fun
  | [d] => { results := [.lit (.bool true)], args := [d] }
  | _ => none }
def diskTailRow : OpenClaim := { program := "ytoaaneejecdglaa", sum := "3970114409e3107b53efb29b46faac821c1ebd4548882d7f7b2992a99363f1b5", func := "jotter/jotterlaw02.DiskTail", spec := "diskTail", apart := false }
def DiskTailSaid : Prop := diskTailRow.holds Try.pinned (OpenSpec.ofChange diskTailSpec)

/-- ITS FALSE NEIGHBOUR: 'it returns false'. Refute it at one input. -/
def diskTailWrong : ChangeSpec := { name := "diskTail", fn := fun _ => fun
  | [d] => { results := [.lit (.bool false)], args := [d] }
  | _ => none }
def DiskTailWrongFalsely : Prop := diskTailRow.holds Try.pinned (OpenSpec.ofChange diskTailWrong)

/-- 'jotterlaw02.DiskFroms': WHATEVER THE INPUT: true; the input reads as it did. -/
def diskFromsSpec : ChangeSpec := { name := "diskFroms", fn := fun _ => fun
  | [d1, d2] => { results := [.lit (.bool true)], args := [d1, d2] }
  | _ => none }
def diskFromsRow : OpenClaim := { program := "ytoaaneejecdglaa", sum := "3970114409e3107b53efb29b46faac821c1ebd4548882d7f7b2992a99363f1b5", func := "jotter/jotterlaw02.DiskFroms", spec := "diskFroms", apart := false }
def DiskFromsSaid : Prop := diskFromsRow.holds Try.pinned (OpenSpec.ofChange diskFromsSpec)

/-- ITS FALSE NEIGHBOUR: 'it returns false'. Refute it at one input. -/
def diskFromsWrong : ChangeSpec := { name := "diskFroms", fn := fun _ => fun
  | [d1, d2] => { results := [.lit (.bool false)], args := [d1, d2] }
  | _ => none }
def DiskFromsWrongFalsely : Prop := diskFromsRow.holds Try.pinned (OpenSpec.ofChange diskFromsWrong)

/-- 'jotterlaw02.DiskKeeps': WHATEVER THE INPUT: true; the input reads as it did. -/
def diskKeepsSpec : ChangeSpec := { name := "diskKeeps", fn := fun _ => fun
  | [d1, d2] => { results := [.lit (.bool true)], args := [d1, d2] }
  | _ => none }
def diskKeepsRow : OpenClaim := { program := "ytoaaneejecdglaa", sum := "3970114409e3107b53efb29b46faac821c1ebd4548882d7f7b2992a99363f1b5", func := "jotter/jotterlaw02.DiskKeeps", spec := "diskKeeps", apart := false }
def DiskKeepsSaid : Prop := diskKeepsRow.holds Try.pinned (OpenSpec.ofChange diskKeepsSpec)

/-- ITS FALSE NEIGHBOUR: 'it returns false'. Refute it at one input. -/
def diskKeepsWrong : ChangeSpec := { name := "diskKeeps", fn := fun _ => fun
  | [d1, d2] => { results := [.lit (.bool false)], args := [d1, d2] }
  | _ => none }
def DiskKeepsWrongFalsely : Prop := diskKeepsRow.holds Try.pinned (OpenSpec.ofChange diskKeepsWrong)

/-- 'jotterlaw02.DiskRefuses': WHATEVER THE INPUT: true; the input reads as it did. -/
def diskRefusesSpec : ChangeSpec := { name := "diskRefuses", fn := fun _ => fun
  | [d1, d2] => { results := [.lit (.bool true)], args := [d1, d2] }
  | _ => none }
def diskRefusesRow : OpenClaim := { program := "ytoaaneejecdglaa", sum := "3970114409e3107b53efb29b46faac821c1ebd4548882d7f7b2992a99363f1b5", func := "jotter/jotterlaw02.DiskRefuses", spec := "diskRefuses", apart := false }
def DiskRefusesSaid : Prop := diskRefusesRow.holds Try.pinned (OpenSpec.ofChange diskRefusesSpec)

/-- ITS FALSE NEIGHBOUR: 'it returns false'. Refute it at one input. -/
def diskRefusesWrong : ChangeSpec := { name := "diskRefuses", fn := fun _ => fun
  | [d1, d2] => { results := [.lit (.bool false)], args := [d1, d2] }
  | _ => none }
def DiskRefusesWrongFalsely : Prop := diskRefusesRow.holds Try.pinned (OpenSpec.ofChange diskRefusesWrong)

/-- 'jotterlaw02.DiskCuts': WHATEVER THE INPUT: true; the input reads as it did. -/
def diskCutsSpec : ChangeSpec := { name := "diskCuts", fn := fun _ => fun
  | [d] => { results := [.lit (.bool true)], args := [d] }
  | _ => none }
def diskCutsRow : OpenClaim := { program := "ytoaaneejecdglaa", sum := "3970114409e3107b53efb29b46faac821c1ebd4548882d7f7b2992a99363f1b5", func := "jotter/jotterlaw02.DiskCuts", spec := "diskCuts", apart := false }
def DiskCutsSaid : Prop := diskCutsRow.holds Try.pinned (OpenSpec.ofChange diskCutsSpec)

/-- ITS FALSE NEIGHBOUR: 'it returns false'. Refute it at one input. -/
def diskCutsWrong : ChangeSpec := { name := "diskCuts", fn := fun _ => fun
  | [d] => { results := [.lit (.bool false)], args := [d] }
  | _ => none }
def DiskCutsWrongFalsely : Prop := diskCutsRow.holds Try.pinned (OpenSpec.ofChange diskCutsWrong)

/-- 'jotterlaw02.DiskOwn': WHATEVER THE INPUT: true; the input reads as it did. -/
def diskOwnSpec : ChangeSpec := { name := "diskOwn", fn := fun _ => fun
  | [d1, d2] => { results := [.lit (.bool true)], args := [d1, d2] }
  | _ => none }
def diskOwnRow : OpenClaim := { program := "ytoaaneejecdglaa", sum := "3970114409e3107b53efb29b46faac821c1ebd4548882d7f7b2992a99363f1b5", func := "jotter/jotterlaw02.DiskOwn", spec := "diskOwn", apart := false }
def DiskOwnSaid : Prop := diskOwnRow.holds Try.pinned (OpenSpec.ofChange diskOwnSpec)

/-- ITS FALSE NEIGHBOUR: 'it returns false'. Refute it at one input. -/
def diskOwnWrong : ChangeSpec := { name := "diskOwn", fn := fun _ => fun
  | [d1, d2] => { results := [.lit (.bool false)], args := [d1, d2] }
  | _ => none }
def DiskOwnWrongFalsely : Prop := diskOwnRow.holds Try.pinned (OpenSpec.ofChange diskOwnWrong)

/-- 'jotterlaw02.DiskApart': WHATEVER THE INPUT: true; the input reads as it did. -/
def diskApartSpec : ChangeSpec := { name := "diskApart", fn := fun _ => fun
  | [d1, d2, d3] => { results := [.lit (.bool true)], args := [d1, d2, d3] }
  | _ => none }
def diskApartRow : OpenClaim := { program := "ytoaaneejecdglaa", sum := "3970114409e3107b53efb29b46faac821c1ebd4548882d7f7b2992a99363f1b5", func := "jotter/jotterlaw02.DiskApart", spec := "diskApart", apart := false }
def DiskApartSaid : Prop := diskApartRow.holds Try.pinned (OpenSpec.ofChange diskApartSpec)

/-- ITS FALSE NEIGHBOUR: 'it returns false'. Refute it at one input. -/
def diskApartWrong : ChangeSpec := { name := "diskApart", fn := fun _ => fun
  | [d1, d2, d3] => { results := [.lit (.bool false)], args := [d1, d2, d3] }
  | _ => none }
def DiskApartWrongFalsely : Prop := diskApartRow.holds Try.pinned (OpenSpec.ofChange diskApartWrong)

/-- 'jotterlaw02.DiskPlays': WHATEVER THE INPUT: true; the input reads as it did. -/
def diskPlaysSpec : ChangeSpec := { name := "diskPlays", fn := fun _ => fun
  | [d] => { results := [.lit (.bool true)], args := [d] }
  | _ => none }
def diskPlaysRow : OpenClaim := { program := "ytoaaneejecdglaa", sum := "3970114409e3107b53efb29b46faac821c1ebd4548882d7f7b2992a99363f1b5", func := "jotter/jotterlaw02.DiskPlays", spec := "diskPlays", apart := false }
def DiskPlaysSaid : Prop := diskPlaysRow.holds Try.pinned (OpenSpec.ofChange diskPlaysSpec)

/-- ITS FALSE NEIGHBOUR: 'it returns false'. Refute it at one input. -/
def diskPlaysWrong : ChangeSpec := { name := "diskPlays", fn := fun _ => fun
  | [d] => { results := [.lit (.bool false)], args := [d] }
  | _ => none }
def DiskPlaysWrongFalsely : Prop := diskPlaysRow.holds Try.pinned (OpenSpec.ofChange diskPlaysWrong)

/- THE SECOND FORM. 'bulk': how many values and letters a reading holds, each counted each time it is reached (what is shared counts as often as it is met; a slice's spare places count too). A statement '..UptoSaid' is the law's where the arguments, and the package variables that the reading takes, are together of bulk at most 1048576: NARROWER than '..Said'. Prove '..Said' where nothing that the law and all that it calls make is longer than what came in: it says more and counts as full. Else prove '..UptoSaid'. A law counts once. -/
mutual
def uptoBulk {H : Type} : DataW H → Nat
  | .lit (.string bytes) => bytes.length + 1
  | .lit _ => 1
  | .nil => 1
  | .ptr d => uptoBulk d + 1
  | .slice elems spare => uptoBulkAll elems + uptoBulkAll spare + 1
  | .agg parts => uptoBulkAll parts + 1
  | .iface _ d => uptoBulk d + 1
  | .map entries => uptoBulkEntries entries + 1
  | .held _ => 1
def uptoBulkAll {H : Type} : List (DataW H) → Nat
  | [] => 0
  | d :: r => uptoBulk d + uptoBulkAll r
def uptoBulkEntries {H : Type} : List (Lit × DataW H) → Nat
  | [] => 0
  | x :: r => uptoBulkEntry x + uptoBulkEntries r
def uptoBulkEntry {H : Type} : Lit × DataW H → Nat
  | (.string bytes, d) => bytes.length + uptoBulk d + 1
  | (_, d) => uptoBulk d + 1
 end
def uptoSmall : (H : Type) → List (DataW H) → Bool := fun _ ds => decide (uptoBulkAll ds ≤ 1048576)
def OpenSpec.upto (s : _root_.Go.ChangeSpec) : _root_.Go.OpenSpec := { _root_.Go.OpenSpec.ofChange s with cond := some uptoSmall }

/-- 'jotterlaw02.DiskFull', WHERE WHAT IT READS IS OF BULK AT MOST 1048576: true; the input reads as it did. -/
def diskFullUptoRow : OpenClaim := { program := "ytoaaneejecdglaa", sum := "3970114409e3107b53efb29b46faac821c1ebd4548882d7f7b2992a99363f1b5", func := "jotter/jotterlaw02.DiskFull", spec := "diskFull", apart := false, narrowed := true }
def DiskFullUptoSaid : Prop := diskFullUptoRow.holds Try.pinned (OpenSpec.upto diskFullSpec)

/-- 'jotterlaw02.DiskTail', WHERE WHAT IT READS IS OF BULK AT MOST 1048576: true; the input reads as it did. -/
def diskTailUptoRow : OpenClaim := { program := "ytoaaneejecdglaa", sum := "3970114409e3107b53efb29b46faac821c1ebd4548882d7f7b2992a99363f1b5", func := "jotter/jotterlaw02.DiskTail", spec := "diskTail", apart := false, narrowed := true }
def DiskTailUptoSaid : Prop := diskTailUptoRow.holds Try.pinned (OpenSpec.upto diskTailSpec)

/-- 'jotterlaw02.DiskFroms', WHERE WHAT IT READS IS OF BULK AT MOST 1048576: true; the input reads as it did. -/
def diskFromsUptoRow : OpenClaim := { program := "ytoaaneejecdglaa", sum := "3970114409e3107b53efb29b46faac821c1ebd4548882d7f7b2992a99363f1b5", func := "jotter/jotterlaw02.DiskFroms", spec := "diskFroms", apart := false, narrowed := true }
def DiskFromsUptoSaid : Prop := diskFromsUptoRow.holds Try.pinned (OpenSpec.upto diskFromsSpec)

/-- 'jotterlaw02.DiskKeeps', WHERE WHAT IT READS IS OF BULK AT MOST 1048576: true; the input reads as it did. -/
def diskKeepsUptoRow : OpenClaim := { program := "ytoaaneejecdglaa", sum := "3970114409e3107b53efb29b46faac821c1ebd4548882d7f7b2992a99363f1b5", func := "jotter/jotterlaw02.DiskKeeps", spec := "diskKeeps", apart := false, narrowed := true }
def DiskKeepsUptoSaid : Prop := diskKeepsUptoRow.holds Try.pinned (OpenSpec.upto diskKeepsSpec)

/-- 'jotterlaw02.DiskRefuses', WHERE WHAT IT READS IS OF BULK AT MOST 1048576: true; the input reads as it did. -/
def diskRefusesUptoRow : OpenClaim := { program := "ytoaaneejecdglaa", sum := "3970114409e3107b53efb29b46faac821c1ebd4548882d7f7b2992a99363f1b5", func := "jotter/jotterlaw02.DiskRefuses", spec := "diskRefuses", apart := false, narrowed := true }
def DiskRefusesUptoSaid : Prop := diskRefusesUptoRow.holds Try.pinned (OpenSpec.upto diskRefusesSpec)

/-- 'jotterlaw02.DiskCuts', WHERE WHAT IT READS IS OF BULK AT MOST 1048576: true; the input reads as it did. -/
def diskCutsUptoRow : OpenClaim := { program := "ytoaaneejecdglaa", sum := "3970114409e3107b53efb29b46faac821c1ebd4548882d7f7b2992a99363f1b5", func := "jotter/jotterlaw02.DiskCuts", spec := "diskCuts", apart := false, narrowed := true }
def DiskCutsUptoSaid : Prop := diskCutsUptoRow.holds Try.pinned (OpenSpec.upto diskCutsSpec)

/-- 'jotterlaw02.DiskOwn', WHERE WHAT IT READS IS OF BULK AT MOST 1048576: true; the input reads as it did. -/
def diskOwnUptoRow : OpenClaim := { program := "ytoaaneejecdglaa", sum := "3970114409e3107b53efb29b46faac821c1ebd4548882d7f7b2992a99363f1b5", func := "jotter/jotterlaw02.DiskOwn", spec := "diskOwn", apart := false, narrowed := true }
def DiskOwnUptoSaid : Prop := diskOwnUptoRow.holds Try.pinned (OpenSpec.upto diskOwnSpec)

/-- 'jotterlaw02.DiskApart', WHERE WHAT IT READS IS OF BULK AT MOST 1048576: true; the input reads as it did. -/
def diskApartUptoRow : OpenClaim := { program := "ytoaaneejecdglaa", sum := "3970114409e3107b53efb29b46faac821c1ebd4548882d7f7b2992a99363f1b5", func := "jotter/jotterlaw02.DiskApart", spec := "diskApart", apart := false, narrowed := true }
def DiskApartUptoSaid : Prop := diskApartUptoRow.holds Try.pinned (OpenSpec.upto diskApartSpec)

/-- 'jotterlaw02.DiskPlays', WHERE WHAT IT READS IS OF BULK AT MOST 1048576: true; the input reads as it did. -/
def diskPlaysUptoRow : OpenClaim := { program := "ytoaaneejecdglaa", sum := "3970114409e3107b53efb29b46faac821c1ebd4548882d7f7b2992a99363f1b5", func := "jotter/jotterlaw02.DiskPlays", spec := "diskPlays", apart := false, narrowed := true }
def DiskPlaysUptoSaid : Prop := diskPlaysUptoRow.holds Try.pinned (OpenSpec.upto diskPlaysSpec)

end Rows
end Go.Proofs.Ytoaaneejecdglaa
