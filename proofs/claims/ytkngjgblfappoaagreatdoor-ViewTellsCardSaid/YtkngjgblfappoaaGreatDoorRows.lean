/-
  NARROWER THAN 'FOR EVERY INPUT', by the rows' own cells (each row's printed sentence says how): IndexUnique: laid · ViewGoing: laid · ViewTells: laid · IndexWalks: laid · ViewFollows: laid.
  DERIVED. THE GIVEN ROWS OF THIS SEAT. 5 by the template 'for every input the law returns true; each argument reads behind the call as it read before'; 0 by the template 'total and deterministic' (their statements: YtkngjgblfappoaaGreatDoorTotals.lean).
  GIVEN WITH THE SEED: the statements are not yours to turn. If you find one false, say at which input.
  Laid BY PROGRAM, IN A SANDBOX (cutbox-rows.mjs): the forced cells as the released guide's own fill.sh prints them over the translation fb00eaa064fc54bd… (all of the seat's roots in one cut). By AI agents, Wed Nov 11 2026. No macro, syntax, notation, axiom, sorry.
-/
import Derived.Test.YtkngjgblfappoaaGreatDoorChecked
import GoSem.Claim
import GoSem.ClaimJoined
import GoSem.ClaimMapViews
import Derived.JoinedTies
import Derived.KernelRfl
namespace Go.Proofs.YtkngjgblfappoaaGreatDoor
/- THE CELL 'sum', in the pinned program and in every row, IS THE sha256 OF THE DUMP (.gsa) THAT YtkngjgblfappoaaGreatDoorProg.lean LOADS. Nothing in Lean hashes anything: it is a label: what it is worth is what the hold of that sum in a sandbox is worth. -/
noncomputable def Tryz.pinned : Pinned := { name := "ytkngjgblfappoaagreatdoor", sum := "fb00eaa064fc54bd517856f3d4c4b1d0950bb21bd4e378066e519f3bfc7c9385", checked := Tryz.checked }
namespace Rows
def none {H : Type} : Left H := { results := [], args := [] }

/- WHAT THE LISTED PACKAGE-LEVEL VARIABLES READ AS WHEN THE CALL BEGINS. Each datum BY PROGRAM (the guide's laid-datum.mjs) off the statement by which the dump's own 'gosem.cut.vars' lays the variable. In a bare row this is a premise. The card (YtkngjgblfappoaaGreatDoorCards.lean) ties it to the program's text. -/
def laid_errors_errorType {H : Type} : DataW H := .iface "internal/reflectlite.rtype" (.agg [.ptr (.lit (.string [101, 114, 114, 111, 114]))])

/-- 'rialtolaw17.IndexUnique': WHATEVER THE INPUT: true; the input reads as it did. -/
def indexUniqueSpec : ChangeSpec := { name := "indexUnique", fn := fun _ => fun
  | [d1, d2] => { results := [.lit (.bool true)], args := [d1, d2] }
  | _ => none }
def indexUniqueRow : OpenClaim := { program := "ytkngjgblfappoaagreatdoor", sum := "fb00eaa064fc54bd517856f3d4c4b1d0950bb21bd4e378066e519f3bfc7c9385", func := "rialto/rialtolaw17.IndexUnique", spec := "indexUnique", inPlace := ["math.Float64bits", "math.Float64frombits", "internal/bytealg.abigen_runtime_cmpstring", "internal/reflectlite.ValueOf", "(internal/reflectlite.Value).Type", "(internal/reflectlite.Value).IsNil", "internal/reflectlite.TypeOf", "(internal/reflectlite.Value).Elem", "(internal/reflectlite.Value).Set", "slices.overlaps[int64]", "slices.overlaps[rialto/api.Entry]", "slices.overlaps[*rialto/tree.node[rialto/api.Entry]]", "slices.overlaps[*rialto/tree.node[int64]]"], unfollowed := true, recurses := true, named := ["errors.errorType"], apart := false, laid := [("errors.errorType", laid_errors_errorType)] }
def IndexUniqueSaid : Prop := indexUniqueRow.holds Tryz.pinned (OpenSpec.ofChange indexUniqueSpec)

/-- ITS FALSE NEIGHBOUR: 'it returns false'. Refute it at one input. -/
def indexUniqueWrong : ChangeSpec := { name := "indexUnique", fn := fun _ => fun
  | [d1, d2] => { results := [.lit (.bool false)], args := [d1, d2] }
  | _ => none }
def IndexUniqueWrongFalsely : Prop := indexUniqueRow.holds Tryz.pinned (OpenSpec.ofChange indexUniqueWrong)

/-- 'rialtolaw23.ViewGoing': WHATEVER THE INPUT: true; the input reads as it did. -/
def viewGoingSpec : ChangeSpec := { name := "viewGoing", fn := fun _ => fun
  | [d1, d2, d3] => { results := [.lit (.bool true)], args := [d1, d2, d3] }
  | _ => none }
def viewGoingRow : OpenClaim := { program := "ytkngjgblfappoaagreatdoor", sum := "fb00eaa064fc54bd517856f3d4c4b1d0950bb21bd4e378066e519f3bfc7c9385", func := "rialto/rialtolaw23.ViewGoing", spec := "viewGoing", inPlace := ["internal/bytealg.abigen_runtime_cmpstring", "math.Float64bits", "internal/reflectlite.ValueOf", "(internal/reflectlite.Value).Type", "(internal/reflectlite.Value).IsNil", "internal/reflectlite.TypeOf", "(internal/reflectlite.Value).Elem", "(internal/reflectlite.Value).Set", "slices.overlaps[int64]", "slices.overlaps[rialto/api.Entry]", "slices.overlaps[*rialto/tree.node[rialto/api.Entry]]", "slices.overlaps[*rialto/tree.node[int64]]"], unfollowed := true, recurses := true, named := ["errors.errorType"], apart := false, laid := [("errors.errorType", laid_errors_errorType)] }
def ViewGoingSaid : Prop := viewGoingRow.holds Tryz.pinned (OpenSpec.ofChange viewGoingSpec)

/-- ITS FALSE NEIGHBOUR: 'it returns false'. Refute it at one input. -/
def viewGoingWrong : ChangeSpec := { name := "viewGoing", fn := fun _ => fun
  | [d1, d2, d3] => { results := [.lit (.bool false)], args := [d1, d2, d3] }
  | _ => none }
def ViewGoingWrongFalsely : Prop := viewGoingRow.holds Tryz.pinned (OpenSpec.ofChange viewGoingWrong)

/-- 'rialtolaw23.ViewTells': WHATEVER THE INPUT: true; the input reads as it did. -/
def viewTellsSpec : ChangeSpec := { name := "viewTells", fn := fun _ => fun
  | [d1, d2, d3] => { results := [.lit (.bool true)], args := [d1, d2, d3] }
  | _ => none }
def viewTellsRow : OpenClaim := { program := "ytkngjgblfappoaagreatdoor", sum := "fb00eaa064fc54bd517856f3d4c4b1d0950bb21bd4e378066e519f3bfc7c9385", func := "rialto/rialtolaw23.ViewTells", spec := "viewTells", inPlace := ["internal/bytealg.abigen_runtime_cmpstring", "math.Float64bits", "internal/reflectlite.ValueOf", "(internal/reflectlite.Value).Type", "(internal/reflectlite.Value).IsNil", "internal/reflectlite.TypeOf", "(internal/reflectlite.Value).Elem", "(internal/reflectlite.Value).Set", "slices.overlaps[int64]", "slices.overlaps[rialto/api.Entry]", "slices.overlaps[*rialto/tree.node[rialto/api.Entry]]", "slices.overlaps[*rialto/tree.node[int64]]"], unfollowed := true, recurses := true, named := ["errors.errorType"], apart := false, laid := [("errors.errorType", laid_errors_errorType)] }
def ViewTellsSaid : Prop := viewTellsRow.holds Tryz.pinned (OpenSpec.ofChange viewTellsSpec)

/-- ITS FALSE NEIGHBOUR: 'it returns false'. Refute it at one input. -/
def viewTellsWrong : ChangeSpec := { name := "viewTells", fn := fun _ => fun
  | [d1, d2, d3] => { results := [.lit (.bool false)], args := [d1, d2, d3] }
  | _ => none }
def ViewTellsWrongFalsely : Prop := viewTellsRow.holds Tryz.pinned (OpenSpec.ofChange viewTellsWrong)

/-- 'rialtolaw17.IndexWalks': WHATEVER THE INPUT: true; the input reads as it did. -/
def indexWalksSpec : ChangeSpec := { name := "indexWalks", fn := fun _ => fun
  | [d1, d2] => { results := [.lit (.bool true)], args := [d1, d2] }
  | _ => none }
def indexWalksRow : OpenClaim := { program := "ytkngjgblfappoaagreatdoor", sum := "fb00eaa064fc54bd517856f3d4c4b1d0950bb21bd4e378066e519f3bfc7c9385", func := "rialto/rialtolaw17.IndexWalks", spec := "indexWalks", inPlace := ["math.Float64bits", "math.Float64frombits", "internal/bytealg.abigen_runtime_cmpstring", "internal/reflectlite.ValueOf", "(internal/reflectlite.Value).Type", "(internal/reflectlite.Value).IsNil", "internal/reflectlite.TypeOf", "(internal/reflectlite.Value).Elem", "(internal/reflectlite.Value).Set", "slices.overlaps[int64]", "slices.overlaps[rialto/api.Entry]", "slices.overlaps[*rialto/tree.node[rialto/api.Entry]]", "slices.overlaps[*rialto/tree.node[int64]]"], unfollowed := true, recurses := true, named := ["errors.errorType"], apart := false, laid := [("errors.errorType", laid_errors_errorType)] }
def IndexWalksSaid : Prop := indexWalksRow.holds Tryz.pinned (OpenSpec.ofChange indexWalksSpec)

/-- ITS FALSE NEIGHBOUR: 'it returns false'. Refute it at one input. -/
def indexWalksWrong : ChangeSpec := { name := "indexWalks", fn := fun _ => fun
  | [d1, d2] => { results := [.lit (.bool false)], args := [d1, d2] }
  | _ => none }
def IndexWalksWrongFalsely : Prop := indexWalksRow.holds Tryz.pinned (OpenSpec.ofChange indexWalksWrong)

/-- 'rialtolaw23.ViewFollows': WHATEVER THE INPUT: true; the input reads as it did. -/
def viewFollowsSpec : ChangeSpec := { name := "viewFollows", fn := fun _ => fun
  | [d1, d2, d3] => { results := [.lit (.bool true)], args := [d1, d2, d3] }
  | _ => none }
def viewFollowsRow : OpenClaim := { program := "ytkngjgblfappoaagreatdoor", sum := "fb00eaa064fc54bd517856f3d4c4b1d0950bb21bd4e378066e519f3bfc7c9385", func := "rialto/rialtolaw23.ViewFollows", spec := "viewFollows", inPlace := ["internal/bytealg.abigen_runtime_cmpstring", "math.Float64bits", "internal/reflectlite.ValueOf", "(internal/reflectlite.Value).Type", "(internal/reflectlite.Value).IsNil", "internal/reflectlite.TypeOf", "(internal/reflectlite.Value).Elem", "(internal/reflectlite.Value).Set", "slices.overlaps[int64]", "slices.overlaps[rialto/api.Entry]", "slices.overlaps[*rialto/tree.node[rialto/api.Entry]]", "slices.overlaps[*rialto/tree.node[int64]]", "math.Float64frombits"], unfollowed := true, recurses := true, named := ["errors.errorType"], apart := false, laid := [("errors.errorType", laid_errors_errorType)] }
def ViewFollowsSaid : Prop := viewFollowsRow.holds Tryz.pinned (OpenSpec.ofChange viewFollowsSpec)

/-- ITS FALSE NEIGHBOUR: 'it returns false'. Refute it at one input. -/
def viewFollowsWrong : ChangeSpec := { name := "viewFollows", fn := fun _ => fun
  | [d1, d2, d3] => { results := [.lit (.bool false)], args := [d1, d2, d3] }
  | _ => none }
def ViewFollowsWrongFalsely : Prop := viewFollowsRow.holds Tryz.pinned (OpenSpec.ofChange viewFollowsWrong)

/- THE SECOND FORM. 'bulk': how many values and letters a reading holds, each counted each time it is reached (what is shared counts as often as it is met; a slice's spare places count too). A statement '..UptoSaid' is the law's where the arguments, and the package variables that the reading takes, are together of bulk at most 1048576: NARROWER than '..Said'. Prove '..Said' where nothing that the law and all that it calls make is longer than what came in: it says more and counts as full. Else prove '..UptoSaid'. A law counts once. -/
mutual
def uptoBulk {H : Type} : DataW H → Nat
  | .lit (.string bytes) => bytes.length + 1
  | .lit _ => 1
  | .nil => 1
  | .ptr d => uptoBulk d + 1
  | .slice elems spare => uptoBulkAll elems + uptoBulkAll spare + 1
  | .agg parts => uptoBulkAll parts + 1
  | .iface _ d => uptoBulk d + 1
  | .map entries => uptoBulkEntries entries + 1
  | .held _ => 1
def uptoBulkAll {H : Type} : List (DataW H) → Nat
  | [] => 0
  | d :: r => uptoBulk d + uptoBulkAll r
def uptoBulkEntries {H : Type} : List (Lit × DataW H) → Nat
  | [] => 0
  | x :: r => uptoBulkEntry x + uptoBulkEntries r
def uptoBulkEntry {H : Type} : Lit × DataW H → Nat
  | (.string bytes, d) => bytes.length + uptoBulk d + 1
  | (_, d) => uptoBulk d + 1
 end
def uptoSmall : (H : Type) → List (DataW H) → Bool := fun _ ds => decide (uptoBulkAll ds ≤ 1048576)
def OpenSpec.upto (s : _root_.Go.ChangeSpec) : _root_.Go.OpenSpec := { _root_.Go.OpenSpec.ofChange s with cond := some uptoSmall }

/-- 'rialtolaw17.IndexUnique', WHERE WHAT IT READS IS OF BULK AT MOST 1048576: true; the input reads as it did. -/
def indexUniqueUptoRow : OpenClaim := { program := "ytkngjgblfappoaagreatdoor", sum := "fb00eaa064fc54bd517856f3d4c4b1d0950bb21bd4e378066e519f3bfc7c9385", func := "rialto/rialtolaw17.IndexUnique", spec := "indexUnique", inPlace := ["math.Float64bits", "math.Float64frombits", "internal/bytealg.abigen_runtime_cmpstring", "internal/reflectlite.ValueOf", "(internal/reflectlite.Value).Type", "(internal/reflectlite.Value).IsNil", "internal/reflectlite.TypeOf", "(internal/reflectlite.Value).Elem", "(internal/reflectlite.Value).Set", "slices.overlaps[int64]", "slices.overlaps[rialto/api.Entry]", "slices.overlaps[*rialto/tree.node[rialto/api.Entry]]", "slices.overlaps[*rialto/tree.node[int64]]"], unfollowed := true, recurses := true, named := ["errors.errorType"], apart := false, laid := [("errors.errorType", laid_errors_errorType)], narrowed := true }
def IndexUniqueUptoSaid : Prop := indexUniqueUptoRow.holds Tryz.pinned (OpenSpec.upto indexUniqueSpec)

/-- 'rialtolaw23.ViewGoing', WHERE WHAT IT READS IS OF BULK AT MOST 1048576: true; the input reads as it did. -/
def viewGoingUptoRow : OpenClaim := { program := "ytkngjgblfappoaagreatdoor", sum := "fb00eaa064fc54bd517856f3d4c4b1d0950bb21bd4e378066e519f3bfc7c9385", func := "rialto/rialtolaw23.ViewGoing", spec := "viewGoing", inPlace := ["internal/bytealg.abigen_runtime_cmpstring", "math.Float64bits", "internal/reflectlite.ValueOf", "(internal/reflectlite.Value).Type", "(internal/reflectlite.Value).IsNil", "internal/reflectlite.TypeOf", "(internal/reflectlite.Value).Elem", "(internal/reflectlite.Value).Set", "slices.overlaps[int64]", "slices.overlaps[rialto/api.Entry]", "slices.overlaps[*rialto/tree.node[rialto/api.Entry]]", "slices.overlaps[*rialto/tree.node[int64]]"], unfollowed := true, recurses := true, named := ["errors.errorType"], apart := false, laid := [("errors.errorType", laid_errors_errorType)], narrowed := true }
def ViewGoingUptoSaid : Prop := viewGoingUptoRow.holds Tryz.pinned (OpenSpec.upto viewGoingSpec)

/-- 'rialtolaw23.ViewTells', WHERE WHAT IT READS IS OF BULK AT MOST 1048576: true; the input reads as it did. -/
def viewTellsUptoRow : OpenClaim := { program := "ytkngjgblfappoaagreatdoor", sum := "fb00eaa064fc54bd517856f3d4c4b1d0950bb21bd4e378066e519f3bfc7c9385", func := "rialto/rialtolaw23.ViewTells", spec := "viewTells", inPlace := ["internal/bytealg.abigen_runtime_cmpstring", "math.Float64bits", "internal/reflectlite.ValueOf", "(internal/reflectlite.Value).Type", "(internal/reflectlite.Value).IsNil", "internal/reflectlite.TypeOf", "(internal/reflectlite.Value).Elem", "(internal/reflectlite.Value).Set", "slices.overlaps[int64]", "slices.overlaps[rialto/api.Entry]", "slices.overlaps[*rialto/tree.node[rialto/api.Entry]]", "slices.overlaps[*rialto/tree.node[int64]]"], unfollowed := true, recurses := true, named := ["errors.errorType"], apart := false, laid := [("errors.errorType", laid_errors_errorType)], narrowed := true }
def ViewTellsUptoSaid : Prop := viewTellsUptoRow.holds Tryz.pinned (OpenSpec.upto viewTellsSpec)

/-- 'rialtolaw17.IndexWalks', WHERE WHAT IT READS IS OF BULK AT MOST 1048576: true; the input reads as it did. -/
def indexWalksUptoRow : OpenClaim := { program := "ytkngjgblfappoaagreatdoor", sum := "fb00eaa064fc54bd517856f3d4c4b1d0950bb21bd4e378066e519f3bfc7c9385", func := "rialto/rialtolaw17.IndexWalks", spec := "indexWalks", inPlace := ["math.Float64bits", "math.Float64frombits", "internal/bytealg.abigen_runtime_cmpstring", "internal/reflectlite.ValueOf", "(internal/reflectlite.Value).Type", "(internal/reflectlite.Value).IsNil", "internal/reflectlite.TypeOf", "(internal/reflectlite.Value).Elem", "(internal/reflectlite.Value).Set", "slices.overlaps[int64]", "slices.overlaps[rialto/api.Entry]", "slices.overlaps[*rialto/tree.node[rialto/api.Entry]]", "slices.overlaps[*rialto/tree.node[int64]]"], unfollowed := true, recurses := true, named := ["errors.errorType"], apart := false, laid := [("errors.errorType", laid_errors_errorType)], narrowed := true }
def IndexWalksUptoSaid : Prop := indexWalksUptoRow.holds Tryz.pinned (OpenSpec.upto indexWalksSpec)

/-- 'rialtolaw23.ViewFollows', WHERE WHAT IT READS IS OF BULK AT MOST 1048576: true; the input reads as it did. -/
def viewFollowsUptoRow : OpenClaim := { program := "ytkngjgblfappoaagreatdoor", sum := "fb00eaa064fc54bd517856f3d4c4b1d0950bb21bd4e378066e519f3bfc7c9385", func := "rialto/rialtolaw23.ViewFollows", spec := "viewFollows", inPlace := ["internal/bytealg.abigen_runtime_cmpstring", "math.Float64bits", "internal/reflectlite.ValueOf", "(internal/reflectlite.Value).Type", "(internal/reflectlite.Value).IsNil", "internal/reflectlite.TypeOf", "(internal/reflectlite.Value).Elem", "(internal/reflectlite.Value).Set", "slices.overlaps[int64]", "slices.overlaps[rialto/api.Entry]", "slices.overlaps[*rialto/tree.node[rialto/api.Entry]]", "slices.overlaps[*rialto/tree.node[int64]]", "math.Float64frombits"], unfollowed := true, recurses := true, named := ["errors.errorType"], apart := false, laid := [("errors.errorType", laid_errors_errorType)], narrowed := true }
def ViewFollowsUptoSaid : Prop := viewFollowsUptoRow.holds Tryz.pinned (OpenSpec.upto viewFollowsSpec)

end Rows
end Go.Proofs.YtkngjgblfappoaaGreatDoor
