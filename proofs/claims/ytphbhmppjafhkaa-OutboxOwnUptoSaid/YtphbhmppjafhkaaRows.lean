/-
  No cell of these rows narrows 'for every input' (looked for: loops, veiled, ifaces, maps, wideKeys, modest, calm, conditions, laid).
  DERIVED. THE GIVEN ROWS OF THIS SEAT. 7 by the template 'for every input the law returns true; each argument reads behind the call as it read before'; 0 by the template 'total and deterministic' (their statements: YtphbhmppjafhkaaTotals.lean).
  GIVEN WITH THE SEED: the statements are not yours to turn. If you find one false, say at which input.
  Laid BY PROGRAM, IN A SANDBOX (cutbox-rows.mjs): the forced cells as the released guide's own fill.sh prints them over the translation 6f73abe11990cfb0… (all of the seat's roots in one cut). By AI agents, Wed Nov 11 2026. No macro, syntax, notation, axiom, sorry.
-/
import Derived.Test.YtphbhmppjafhkaaChecked
import GoSem.Claim
import GoSem.ClaimJoined
import GoSem.ClaimMapViews
import Derived.JoinedTies
import Derived.KernelRfl
namespace Go.Proofs.Ytphbhmppjafhkaa
/- THE CELL 'sum', in the pinned program and in every row, IS THE sha256 OF THE DUMP (.gsa) THAT YtphbhmppjafhkaaProg.lean LOADS. Nothing in Lean hashes anything: it is a label: what it is worth is what the hold of that sum in a sandbox is worth. -/
noncomputable def Try.pinned : Pinned := { name := "ytphbhmppjafhkaa", sum := "6f73abe11990cfb0f13ddc99e14bf845dd7adee39c52ec7d8b4664abdf02bb74", checked := Try.checked }
namespace Rows
def none {H : Type} : Left H := { results := [], args := [] }

/-- 'jotterlaw08.OutboxAcks': WHATEVER THE INPUT: true; the input reads as it did. -/
def outboxAcksSpec : ChangeSpec := { name := "outboxAcks", fn := fun _ => fun
  | [d1, d2] => { results := [.lit (.bool true)], args := [d1, d2] }
  | _ => none }
def outboxAcksRow : OpenClaim := { program := "ytphbhmppjafhkaa", sum := "6f73abe11990cfb0f13ddc99e14bf845dd7adee39c52ec7d8b4664abdf02bb74", func := "jotter/jotterlaw08.OutboxAcks", spec := "outboxAcks", apart := false }
def OutboxAcksSaid : Prop := outboxAcksRow.holds Try.pinned (OpenSpec.ofChange outboxAcksSpec)

/-- ITS FALSE NEIGHBOUR: 'it returns false'. Refute it at one input. -/
def outboxAcksWrong : ChangeSpec := { name := "outboxAcks", fn := fun _ => fun
  | [d1, d2] => { results := [.lit (.bool false)], args := [d1, d2] }
  | _ => none }
def OutboxAcksWrongFalsely : Prop := outboxAcksRow.holds Try.pinned (OpenSpec.ofChange outboxAcksWrong)

/-- 'jotterlaw08.OutboxOwn': WHATEVER THE INPUT: true; the input reads as it did. -/
def outboxOwnSpec : ChangeSpec := { name := "outboxOwn", fn := fun _ => fun
  | [d1, d2] => { results := [.lit (.bool true)], args := [d1, d2] }
  | _ => none }
def outboxOwnRow : OpenClaim := { program := "ytphbhmppjafhkaa", sum := "6f73abe11990cfb0f13ddc99e14bf845dd7adee39c52ec7d8b4664abdf02bb74", func := "jotter/jotterlaw08.OutboxOwn", spec := "outboxOwn", apart := false }
def OutboxOwnSaid : Prop := outboxOwnRow.holds Try.pinned (OpenSpec.ofChange outboxOwnSpec)

/-- ITS FALSE NEIGHBOUR: 'it returns false'. Refute it at one input. -/
def outboxOwnWrong : ChangeSpec := { name := "outboxOwn", fn := fun _ => fun
  | [d1, d2] => { results := [.lit (.bool false)], args := [d1, d2] }
  | _ => none }
def OutboxOwnWrongFalsely : Prop := outboxOwnRow.holds Try.pinned (OpenSpec.ofChange outboxOwnWrong)

/-- 'jotterlaw08.OutboxPlays': WHATEVER THE INPUT: true; the input reads as it did. -/
def outboxPlaysSpec : ChangeSpec := { name := "outboxPlays", fn := fun _ => fun
  | [d] => { results := [.lit (.bool true)], args := [d] }
  | _ => none }
def outboxPlaysRow : OpenClaim := { program := "ytphbhmppjafhkaa", sum := "6f73abe11990cfb0f13ddc99e14bf845dd7adee39c52ec7d8b4664abdf02bb74", func := "jotter/jotterlaw08.OutboxPlays", spec := "outboxPlays", apart := false }
def OutboxPlaysSaid : Prop := outboxPlaysRow.holds Try.pinned (OpenSpec.ofChange outboxPlaysSpec)

/-- ITS FALSE NEIGHBOUR: 'it returns false'. Refute it at one input. -/
def outboxPlaysWrong : ChangeSpec := { name := "outboxPlays", fn := fun _ => fun
  | [d] => { results := [.lit (.bool false)], args := [d] }
  | _ => none }
def OutboxPlaysWrongFalsely : Prop := outboxPlaysRow.holds Try.pinned (OpenSpec.ofChange outboxPlaysWrong)

/-- 'jotterlaw08.OutboxThings': WHATEVER THE INPUT: true; the input reads as it did. -/
def outboxThingsSpec : ChangeSpec := { name := "outboxThings", fn := fun _ => fun
  | [d1, d2] => { results := [.lit (.bool true)], args := [d1, d2] }
  | _ => none }
def outboxThingsRow : OpenClaim := { program := "ytphbhmppjafhkaa", sum := "6f73abe11990cfb0f13ddc99e14bf845dd7adee39c52ec7d8b4664abdf02bb74", func := "jotter/jotterlaw08.OutboxThings", spec := "outboxThings", apart := false }
def OutboxThingsSaid : Prop := outboxThingsRow.holds Try.pinned (OpenSpec.ofChange outboxThingsSpec)

/-- ITS FALSE NEIGHBOUR: 'it returns false'. Refute it at one input. -/
def outboxThingsWrong : ChangeSpec := { name := "outboxThings", fn := fun _ => fun
  | [d1, d2] => { results := [.lit (.bool false)], args := [d1, d2] }
  | _ => none }
def OutboxThingsWrongFalsely : Prop := outboxThingsRow.holds Try.pinned (OpenSpec.ofChange outboxThingsWrong)

/-- 'jotterlaw08.OutboxDue': WHATEVER THE INPUT: true; the input reads as it did. -/
def outboxDueSpec : ChangeSpec := { name := "outboxDue", fn := fun _ => fun
  | [d1, d2, d3] => { results := [.lit (.bool true)], args := [d1, d2, d3] }
  | _ => none }
def outboxDueRow : OpenClaim := { program := "ytphbhmppjafhkaa", sum := "6f73abe11990cfb0f13ddc99e14bf845dd7adee39c52ec7d8b4664abdf02bb74", func := "jotter/jotterlaw08.OutboxDue", spec := "outboxDue", apart := false }
def OutboxDueSaid : Prop := outboxDueRow.holds Try.pinned (OpenSpec.ofChange outboxDueSpec)

/-- ITS FALSE NEIGHBOUR: 'it returns false'. Refute it at one input. -/
def outboxDueWrong : ChangeSpec := { name := "outboxDue", fn := fun _ => fun
  | [d1, d2, d3] => { results := [.lit (.bool false)], args := [d1, d2, d3] }
  | _ => none }
def OutboxDueWrongFalsely : Prop := outboxDueRow.holds Try.pinned (OpenSpec.ofChange outboxDueWrong)

/-- 'jotterlaw08.OutboxLimit': WHATEVER THE INPUT: true; the input reads as it did. -/
def outboxLimitSpec : ChangeSpec := { name := "outboxLimit", fn := fun _ => fun
  | [d1, d2] => { results := [.lit (.bool true)], args := [d1, d2] }
  | _ => none }
def outboxLimitRow : OpenClaim := { program := "ytphbhmppjafhkaa", sum := "6f73abe11990cfb0f13ddc99e14bf845dd7adee39c52ec7d8b4664abdf02bb74", func := "jotter/jotterlaw08.OutboxLimit", spec := "outboxLimit", apart := false }
def OutboxLimitSaid : Prop := outboxLimitRow.holds Try.pinned (OpenSpec.ofChange outboxLimitSpec)

/-- ITS FALSE NEIGHBOUR: 'it returns false'. Refute it at one input. -/
def outboxLimitWrong : ChangeSpec := { name := "outboxLimit", fn := fun _ => fun
  | [d1, d2] => { results := [.lit (.bool false)], args := [d1, d2] }
  | _ => none }
def OutboxLimitWrongFalsely : Prop := outboxLimitRow.holds Try.pinned (OpenSpec.ofChange outboxLimitWrong)

/-- 'jotterlaw08.OutboxApart': WHATEVER THE INPUT: true; the input reads as it did. -/
def outboxApartSpec : ChangeSpec := { name := "outboxApart", fn := fun _ => fun
  | [d1, d2] => { results := [.lit (.bool true)], args := [d1, d2] }
  | _ => none }
def outboxApartRow : OpenClaim := { program := "ytphbhmppjafhkaa", sum := "6f73abe11990cfb0f13ddc99e14bf845dd7adee39c52ec7d8b4664abdf02bb74", func := "jotter/jotterlaw08.OutboxApart", spec := "outboxApart", apart := false }
def OutboxApartSaid : Prop := outboxApartRow.holds Try.pinned (OpenSpec.ofChange outboxApartSpec)

/-- ITS FALSE NEIGHBOUR: 'it returns false'. Refute it at one input. -/
def outboxApartWrong : ChangeSpec := { name := "outboxApart", fn := fun _ => fun
  | [d1, d2] => { results := [.lit (.bool false)], args := [d1, d2] }
  | _ => none }
def OutboxApartWrongFalsely : Prop := outboxApartRow.holds Try.pinned (OpenSpec.ofChange outboxApartWrong)

/- THE SECOND FORM. 'bulk': how many values and letters a reading holds, each counted each time it is reached (what is shared counts as often as it is met; a slice's spare places count too). A statement '..UptoSaid' is the law's where the arguments, and the package variables that the reading takes, are together of bulk at most 1048576: NARROWER than '..Said'. Prove '..Said' where nothing that the law and all that it calls make is longer than what came in: it says more and counts as full. Else prove '..UptoSaid'. A law counts once. -/
mutual
def uptoBulk {H : Type} : DataW H → Nat
  | .lit (.string bytes) => bytes.length + 1
  | .lit _ => 1
  | .nil => 1
  | .ptr d => uptoBulk d + 1
  | .slice elems spare => uptoBulkAll elems + uptoBulkAll spare + 1
  | .agg parts => uptoBulkAll parts + 1
  | .iface _ d => uptoBulk d + 1
  | .map entries => uptoBulkEntries entries + 1
  | .held _ => 1
def uptoBulkAll {H : Type} : List (DataW H) → Nat
  | [] => 0
  | d :: r => uptoBulk d + uptoBulkAll r
def uptoBulkEntries {H : Type} : List (Lit × DataW H) → Nat
  | [] => 0
  | x :: r => uptoBulkEntry x + uptoBulkEntries r
def uptoBulkEntry {H : Type} : Lit × DataW H → Nat
  | (.string bytes, d) => bytes.length + uptoBulk d + 1
  | (_, d) => uptoBulk d + 1
 end
def uptoSmall : (H : Type) → List (DataW H) → Bool := fun _ ds => decide (uptoBulkAll ds ≤ 1048576)
def OpenSpec.upto (s : _root_.Go.ChangeSpec) : _root_.Go.OpenSpec := { _root_.Go.OpenSpec.ofChange s with cond := some uptoSmall }

/-- 'jotterlaw08.OutboxAcks', WHERE WHAT IT READS IS OF BULK AT MOST 1048576: true; the input reads as it did. -/
def outboxAcksUptoRow : OpenClaim := { program := "ytphbhmppjafhkaa", sum := "6f73abe11990cfb0f13ddc99e14bf845dd7adee39c52ec7d8b4664abdf02bb74", func := "jotter/jotterlaw08.OutboxAcks", spec := "outboxAcks", apart := false, narrowed := true }
def OutboxAcksUptoSaid : Prop := outboxAcksUptoRow.holds Try.pinned (OpenSpec.upto outboxAcksSpec)

/-- 'jotterlaw08.OutboxOwn', WHERE WHAT IT READS IS OF BULK AT MOST 1048576: true; the input reads as it did. -/
def outboxOwnUptoRow : OpenClaim := { program := "ytphbhmppjafhkaa", sum := "6f73abe11990cfb0f13ddc99e14bf845dd7adee39c52ec7d8b4664abdf02bb74", func := "jotter/jotterlaw08.OutboxOwn", spec := "outboxOwn", apart := false, narrowed := true }
def OutboxOwnUptoSaid : Prop := outboxOwnUptoRow.holds Try.pinned (OpenSpec.upto outboxOwnSpec)

/-- 'jotterlaw08.OutboxPlays', WHERE WHAT IT READS IS OF BULK AT MOST 1048576: true; the input reads as it did. -/
def outboxPlaysUptoRow : OpenClaim := { program := "ytphbhmppjafhkaa", sum := "6f73abe11990cfb0f13ddc99e14bf845dd7adee39c52ec7d8b4664abdf02bb74", func := "jotter/jotterlaw08.OutboxPlays", spec := "outboxPlays", apart := false, narrowed := true }
def OutboxPlaysUptoSaid : Prop := outboxPlaysUptoRow.holds Try.pinned (OpenSpec.upto outboxPlaysSpec)

/-- 'jotterlaw08.OutboxThings', WHERE WHAT IT READS IS OF BULK AT MOST 1048576: true; the input reads as it did. -/
def outboxThingsUptoRow : OpenClaim := { program := "ytphbhmppjafhkaa", sum := "6f73abe11990cfb0f13ddc99e14bf845dd7adee39c52ec7d8b4664abdf02bb74", func := "jotter/jotterlaw08.OutboxThings", spec := "outboxThings", apart := false, narrowed := true }
def OutboxThingsUptoSaid : Prop := outboxThingsUptoRow.holds Try.pinned (OpenSpec.upto outboxThingsSpec)

/-- 'jotterlaw08.OutboxDue', WHERE WHAT IT READS IS OF BULK AT MOST 1048576: true; the input reads as it did. -/
def outboxDueUptoRow : OpenClaim := { program := "ytphbhmppjafhkaa", sum := "6f73abe11990cfb0f13ddc99e14bf845dd7adee39c52ec7d8b4664abdf02bb74", func := "jotter/jotterlaw08.OutboxDue", spec := "outboxDue", apart := false, narrowed := true }
def OutboxDueUptoSaid : Prop := outboxDueUptoRow.holds Try.pinned (OpenSpec.upto outboxDueSpec)

/-- 'jotterlaw08.OutboxLimit', WHERE WHAT IT READS IS OF BULK AT MOST 1048576: true; the input reads as it did. -/
def outboxLimitUptoRow : OpenClaim := { program := "ytphbhmppjafhkaa", sum := "6f73abe11990cfb0f13ddc99e14bf845dd7adee39c52ec7d8b4664abdf02bb74", func := "jotter/jotterlaw08.OutboxLimit", spec := "outboxLimit", apart := false, narrowed := true }
def OutboxLimitUptoSaid : Prop := outboxLimitUptoRow.holds Try.pinned (OpenSpec.upto outboxLimitSpec)

/-- 'jotterlaw08.OutboxApart', WHERE WHAT IT READS IS OF BULK AT MOST 1048576: true; the input reads as it did. -/
def outboxApartUptoRow : OpenClaim := { program := "ytphbhmppjafhkaa", sum := "6f73abe11990cfb0f13ddc99e14bf845dd7adee39c52ec7d8b4664abdf02bb74", func := "jotter/jotterlaw08.OutboxApart", spec := "outboxApart", apart := false, narrowed := true }
def OutboxApartUptoSaid : Prop := outboxApartUptoRow.holds Try.pinned (OpenSpec.upto outboxApartSpec)

end Rows
end Go.Proofs.Ytphbhmppjafhkaa
