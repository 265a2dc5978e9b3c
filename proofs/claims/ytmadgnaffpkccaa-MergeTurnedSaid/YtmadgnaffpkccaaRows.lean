/-
  No cell of these rows narrows 'for every input' (looked for: loops, veiled, ifaces, maps, wideKeys, modest, calm, conditions, laid).
  DERIVED. THE GIVEN ROWS OF THIS SEAT. 2 by the template 'for every input the law returns true; each argument reads behind the call as it read before'; 0 by the template 'total and deterministic' (their statements: YtmadgnaffpkccaaTotals.lean).
  GIVEN WITH THE SEED: the statements are not yours to turn. If you find one false, say at which input.
  Laid BY PROGRAM, IN A SANDBOX (cutbox-rows.mjs): the forced cells as the released guide's own fill.sh prints them over the translation a810eca4c854162d… (all of the seat's roots in one cut). By AI agents, Wed Nov 11 2026. No macro, syntax, notation, axiom, sorry.
-/
import Derived.Test.YtmadgnaffpkccaaChecked
import GoSem.Claim
import GoSem.ClaimJoined
import GoSem.ClaimMapViews
import Derived.JoinedTies
import Derived.KernelRfl
namespace Go.Proofs.Ytmadgnaffpkccaa
/- THE CELL 'sum', in the pinned program and in every row, IS THE sha256 OF THE DUMP (.gsa) THAT YtmadgnaffpkccaaProg.lean LOADS. Nothing in Lean hashes anything: it is a label: what it is worth is what the hold of that sum in a sandbox is worth. -/
noncomputable def Try.pinned : Pinned := { name := "ytmadgnaffpkccaa", sum := "a810eca4c854162d599faafa739bdd2e5bc6c8b8f138932e6cd1129127b0d0d7", checked := Try.checked }
namespace Rows
def none {H : Type} : Left H := { results := [], args := [] }

/-- 'foliatelaw15.MergeTurned': WHATEVER THE INPUT: true; the input reads as it did. -/
def mergeTurnedSpec : ChangeSpec := { name := "mergeTurned", fn := fun _ => fun
  | [d1, d2, d3] => { results := [.lit (.bool true)], args := [d1, d2, d3] }
  | _ => none }
def mergeTurnedRow : OpenClaim := { program := "ytmadgnaffpkccaa", sum := "a810eca4c854162d599faafa739bdd2e5bc6c8b8f138932e6cd1129127b0d0d7", func := "foliate/foliatelaw15.MergeTurned", spec := "mergeTurned", unfollowed := true, recurses := true, apart := false }
def MergeTurnedSaid : Prop := mergeTurnedRow.holds Try.pinned (OpenSpec.ofChange mergeTurnedSpec)

/-- ITS FALSE NEIGHBOUR: 'it returns false'. Refute it at one input. -/
def mergeTurnedWrong : ChangeSpec := { name := "mergeTurned", fn := fun _ => fun
  | [d1, d2, d3] => { results := [.lit (.bool false)], args := [d1, d2, d3] }
  | _ => none }
def MergeTurnedWrongFalsely : Prop := mergeTurnedRow.holds Try.pinned (OpenSpec.ofChange mergeTurnedWrong)

/-- 'foliatelaw13.GradeStays': WHATEVER THE INPUT: true; the input reads as it did. -/
def gradeStaysSpec : ChangeSpec := { name := "gradeStays", fn := fun _ => fun
  | [d1, d2, d3] => { results := [.lit (.bool true)], args := [d1, d2, d3] }
  | _ => none }
def gradeStaysRow : OpenClaim := { program := "ytmadgnaffpkccaa", sum := "a810eca4c854162d599faafa739bdd2e5bc6c8b8f138932e6cd1129127b0d0d7", func := "foliate/foliatelaw13.GradeStays", spec := "gradeStays", unfollowed := true, recurses := true, apart := false }
def GradeStaysSaid : Prop := gradeStaysRow.holds Try.pinned (OpenSpec.ofChange gradeStaysSpec)

/-- ITS FALSE NEIGHBOUR: 'it returns false'. Refute it at one input. -/
def gradeStaysWrong : ChangeSpec := { name := "gradeStays", fn := fun _ => fun
  | [d1, d2, d3] => { results := [.lit (.bool false)], args := [d1, d2, d3] }
  | _ => none }
def GradeStaysWrongFalsely : Prop := gradeStaysRow.holds Try.pinned (OpenSpec.ofChange gradeStaysWrong)

/- THE SECOND FORM. 'bulk': how many values and letters a reading holds, each counted each time it is reached (what is shared counts as often as it is met; a slice's spare places count too). A statement '..UptoSaid' is the law's where the arguments, and the package variables that the reading takes, are together of bulk at most 1048576: NARROWER than '..Said'. Prove '..Said' where nothing that the law and all that it calls make is longer than what came in: it says more and counts as full. Else prove '..UptoSaid'. A law counts once. -/
mutual
def uptoBulk {H : Type} : DataW H → Nat
  | .lit (.string bytes) => bytes.length + 1
  | .lit _ => 1
  | .nil => 1
  | .ptr d => uptoBulk d + 1
  | .slice elems spare => uptoBulkAll elems + uptoBulkAll spare + 1
  | .agg parts => uptoBulkAll parts + 1
  | .iface _ d => uptoBulk d + 1
  | .map entries => uptoBulkEntries entries + 1
  | .held _ => 1
def uptoBulkAll {H : Type} : List (DataW H) → Nat
  | [] => 0
  | d :: r => uptoBulk d + uptoBulkAll r
def uptoBulkEntries {H : Type} : List (Lit × DataW H) → Nat
  | [] => 0
  | x :: r => uptoBulkEntry x + uptoBulkEntries r
def uptoBulkEntry {H : Type} : Lit × DataW H → Nat
  | (.string bytes, d) => bytes.length + uptoBulk d + 1
  | (_, d) => uptoBulk d + 1
 end
def uptoSmall : (H : Type) → List (DataW H) → Bool := fun _ ds => decide (uptoBulkAll ds ≤ 1048576)
def OpenSpec.upto (s : _root_.Go.ChangeSpec) : _root_.Go.OpenSpec := { _root_.Go.OpenSpec.ofChange s with cond := some uptoSmall }

/-- 'foliatelaw15.MergeTurned', WHERE WHAT IT READS IS OF BULK AT MOST 1048576: true; the input reads as it did. -/
def mergeTurnedUptoRow : OpenClaim := { program := "ytmadgnaffpkccaa", sum := "a810eca4c854162d599faafa739bdd2e5bc6c8b8f138932e6cd1129127b0d0d7", func := "foliate/foliatelaw15.MergeTurned", spec := "mergeTurned", unfollowed := true, recurses := true, apart := false, narrowed := true }
def MergeTurnedUptoSaid : Prop := mergeTurnedUptoRow.holds Try.pinned (OpenSpec.upto mergeTurnedSpec)

/-- 'foliatelaw13.GradeStays', WHERE WHAT IT READS IS OF BULK AT MOST 1048576: true; the input reads as it did. -/
def gradeStaysUptoRow : OpenClaim := { program := "ytmadgnaffpkccaa", sum := "a810eca4c854162d599faafa739bdd2e5bc6c8b8f138932e6cd1129127b0d0d7", func := "foliate/foliatelaw13.GradeStays", spec := "gradeStays", unfollowed := true, recurses := true, apart := false, narrowed := true }
def GradeStaysUptoSaid : Prop := gradeStaysUptoRow.holds Try.pinned (OpenSpec.upto gradeStaysSpec)

end Rows
end Go.Proofs.Ytmadgnaffpkccaa
