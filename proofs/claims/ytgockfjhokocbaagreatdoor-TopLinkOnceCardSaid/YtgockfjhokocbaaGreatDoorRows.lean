/-
  NARROWER THAN 'FOR EVERY INPUT', by the rows' own cells (each row's printed sentence says how): TopLinkOnce: laid.
  DERIVED. THE GIVEN ROWS OF THIS SEAT. 1 by the template 'for every input the law returns true; each argument reads behind the call as it read before'; 0 by the template 'total and deterministic' (their statements: YtgockfjhokocbaaGreatDoorTotals.lean).
  GIVEN WITH THE SEED: the statements are not yours to turn. If you find one false, say at which input.
  Laid BY PROGRAM, IN A SANDBOX (cutbox-rows.mjs): the forced cells as the released guide's own fill.sh prints them over the translation 414c6f19ec0da8e4… (all of the seat's roots in one cut). By AI agents, Wed Nov 11 2026. No macro, syntax, notation, axiom, sorry.
-/
import Derived.Test.YtgockfjhokocbaaGreatDoorChecked
import GoSem.Claim
import GoSem.ClaimJoined
import GoSem.ClaimMapViews
import Derived.JoinedTies
import Derived.KernelRfl
namespace Go.Proofs.YtgockfjhokocbaaGreatDoor
/- THE CELL 'sum', in the pinned program and in every row, IS THE sha256 OF THE DUMP (.gsa) THAT YtgockfjhokocbaaGreatDoorProg.lean LOADS. Nothing in Lean hashes anything: it is a label: what it is worth is what the hold of that sum in a sandbox is worth. -/
noncomputable def Tryz.pinned : Pinned := { name := "ytgockfjhokocbaagreatdoor", sum := "414c6f19ec0da8e495c34ec044f97e734ed9f3f1e9eed9b3eb177d65eac4f322", checked := Tryz.checked }
namespace Rows
def none {H : Type} : Left H := { results := [], args := [] }

/- WHAT THE LISTED PACKAGE-LEVEL VARIABLES READ AS WHEN THE CALL BEGINS. Each datum BY PROGRAM (the guide's laid-datum.mjs) off the statement by which the dump's own 'gosem.cut.vars' lays the variable. In a bare row this is a premise. The card (YtgockfjhokocbaaGreatDoorCards.lean) ties it to the program's text. -/
def laid_errors_errorType {H : Type} : DataW H := .iface "internal/reflectlite.rtype" (.agg [.ptr (.lit (.string [101, 114, 114, 111, 114]))])
def laid_jotter_octet_table {H : Type} : DataW H := .agg [.lit (.int .u32 0), .lit (.int .u32 498536548), .lit (.int .u32 997073096), .lit (.int .u32 651767980), .lit (.int .u32 1994146192), .lit (.int .u32 1802195444), .lit (.int .u32 1303535960), .lit (.int .u32 1342533948), .lit (.int .u32 3988292384), .lit (.int .u32 4027552580), .lit (.int .u32 3604390888), .lit (.int .u32 3412177804), .lit (.int .u32 2607071920), .lit (.int .u32 2262029012), .lit (.int .u32 2685067896), .lit (.int .u32 3183342108)]
def laid_jotter_wire_size {H : Type} : DataW H := .agg [.lit (.int .i64 1), .lit (.int .i64 1), .lit (.int .i64 1), .lit (.int .i64 2), .lit (.int .i64 1), .lit (.int .i64 2), .lit (.int .i64 2), .lit (.int .i64 2), .lit (.int .i64 2), .lit (.int .i64 1), .lit (.int .i64 2), .lit (.int .i64 1), .lit (.int .i64 1), .lit (.int .i64 1)]
def laid_jotter_wire_shapes {H : Type} : DataW H := .agg [.nil, .slice [.lit (.int .i64 1), .lit (.int .i64 2), .lit (.int .i64 3), .lit (.int .i64 4)] [], .slice [.lit (.int .i64 1), .lit (.int .i64 2), .lit (.int .i64 5), .lit (.int .i64 6), .lit (.int .i64 8), .lit (.int .i64 9), .lit (.int .i64 10), .lit (.int .i64 11), .lit (.int .i64 12), .lit (.int .i64 13)] [], .slice [.lit (.int .i64 1), .lit (.int .i64 2), .lit (.int .i64 6)] [], .slice [.lit (.int .i64 1), .lit (.int .i64 2)] [], .slice [.lit (.int .i64 1), .lit (.int .i64 2), .lit (.int .i64 5), .lit (.int .i64 6), .lit (.int .i64 7), .lit (.int .i64 9), .lit (.int .i64 10), .lit (.int .i64 11), .lit (.int .i64 12), .lit (.int .i64 13)] [], .slice [.lit (.int .i64 1), .lit (.int .i64 2), .lit (.int .i64 6)] []]

/-- 'jottertop.TopLinkOnce': WHATEVER THE INPUT: true; the input reads as it did. -/
def topLinkOnceSpec : ChangeSpec := { name := "topLinkOnce", fn := fun _ => fun
  | [d] => { results := [.lit (.bool true)], args := [d] }
  | _ => none }
def topLinkOnceRow : OpenClaim := { program := "ytgockfjhokocbaagreatdoor", sum := "414c6f19ec0da8e495c34ec044f97e734ed9f3f1e9eed9b3eb177d65eac4f322", func := "jotter/jottertop.TopLinkOnce", spec := "topLinkOnce", inPlace := ["internal/reflectlite.ValueOf", "(internal/reflectlite.Value).Type", "(internal/reflectlite.Value).IsNil", "internal/reflectlite.TypeOf", "(internal/reflectlite.Value).Elem", "(internal/reflectlite.Value).Set"], unfollowed := true, recurses := true, named := ["jotter/wire.shapes", "jotter/wire.size", "jotter/octet.table", "errors.errorType"], apart := false, laid := [("errors.errorType", laid_errors_errorType), ("jotter/octet.table", laid_jotter_octet_table), ("jotter/wire.size", laid_jotter_wire_size), ("jotter/wire.shapes", laid_jotter_wire_shapes)] }
def TopLinkOnceSaid : Prop := topLinkOnceRow.holds Tryz.pinned (OpenSpec.ofChange topLinkOnceSpec)

/-- ITS FALSE NEIGHBOUR: 'it returns false'. Refute it at one input. -/
def topLinkOnceWrong : ChangeSpec := { name := "topLinkOnce", fn := fun _ => fun
  | [d] => { results := [.lit (.bool false)], args := [d] }
  | _ => none }
def TopLinkOnceWrongFalsely : Prop := topLinkOnceRow.holds Tryz.pinned (OpenSpec.ofChange topLinkOnceWrong)

/- THE SECOND FORM. 'bulk': how many values and letters a reading holds, each counted each time it is reached (what is shared counts as often as it is met; a slice's spare places count too). A statement '..UptoSaid' is the law's where the arguments, and the package variables that the reading takes, are together of bulk at most 1048576: NARROWER than '..Said'. Prove '..Said' where nothing that the law and all that it calls make is longer than what came in: it says more and counts as full. Else prove '..UptoSaid'. A law counts once. -/
mutual
def uptoBulk {H : Type} : DataW H → Nat
  | .lit (.string bytes) => bytes.length + 1
  | .lit _ => 1
  | .nil => 1
  | .ptr d => uptoBulk d + 1
  | .slice elems spare => uptoBulkAll elems + uptoBulkAll spare + 1
  | .agg parts => uptoBulkAll parts + 1
  | .iface _ d => uptoBulk d + 1
  | .map entries => uptoBulkEntries entries + 1
  | .held _ => 1
def uptoBulkAll {H : Type} : List (DataW H) → Nat
  | [] => 0
  | d :: r => uptoBulk d + uptoBulkAll r
def uptoBulkEntries {H : Type} : List (Lit × DataW H) → Nat
  | [] => 0
  | x :: r => uptoBulkEntry x + uptoBulkEntries r
def uptoBulkEntry {H : Type} : Lit × DataW H → Nat
  | (.string bytes, d) => bytes.length + uptoBulk d + 1
  | (_, d) => uptoBulk d + 1
 end
def uptoSmall : (H : Type) → List (DataW H) → Bool := fun _ ds => decide (uptoBulkAll ds ≤ 1048576)
def OpenSpec.upto (s : _root_.Go.ChangeSpec) : _root_.Go.OpenSpec := { _root_.Go.OpenSpec.ofChange s with cond := some uptoSmall }

/-- 'jottertop.TopLinkOnce', WHERE WHAT IT READS IS OF BULK AT MOST 1048576: true; the input reads as it did. -/
def topLinkOnceUptoRow : OpenClaim := { program := "ytgockfjhokocbaagreatdoor", sum := "414c6f19ec0da8e495c34ec044f97e734ed9f3f1e9eed9b3eb177d65eac4f322", func := "jotter/jottertop.TopLinkOnce", spec := "topLinkOnce", inPlace := ["internal/reflectlite.ValueOf", "(internal/reflectlite.Value).Type", "(internal/reflectlite.Value).IsNil", "internal/reflectlite.TypeOf", "(internal/reflectlite.Value).Elem", "(internal/reflectlite.Value).Set"], unfollowed := true, recurses := true, named := ["jotter/wire.shapes", "jotter/wire.size", "jotter/octet.table", "errors.errorType"], apart := false, laid := [("errors.errorType", laid_errors_errorType), ("jotter/octet.table", laid_jotter_octet_table), ("jotter/wire.size", laid_jotter_wire_size), ("jotter/wire.shapes", laid_jotter_wire_shapes)], narrowed := true }
def TopLinkOnceUptoSaid : Prop := topLinkOnceUptoRow.holds Tryz.pinned (OpenSpec.upto topLinkOnceSpec)

end Rows
end Go.Proofs.YtgockfjhokocbaaGreatDoor
