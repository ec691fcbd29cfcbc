/-
  What every row of this seat wants: the closed facts on the program, a world in which the listed variable is laid, and what the listing gives.
-/
import Derived.Test.YtkngjgblfappoaaGreatDoorRows
import Derived.Test.YtkngjgblfappoaaGreatDoorAs
import Derived.ChangeSame
import Derived.ChangeVars
import Derived.ChangeSlices
import Derived.JoinedOf
import Derived.RowKit
import Derived.RowKitTokens
import Derived.LaidLaws
import Derived.LaidHandle
import Derived.Stop.Joined
import Derived.Carry
import Derived.ProofKit
import Derived.OpenShut
namespace Go.Proofs.YtkngjgblfappoaaGreatDoor
open Go.ChangeShapes Go.WideShapes Go.RowKit

theorem tzOwn : ownKnob Tryz.prog.godebug = none := by kernel_rfl
theorem tzLaidOut : laidOutB Tryz.prog = true := by kernel_rfl
abbrev tzLaid {H : Type} : List (String × DataW H) := [("errors.errorType", Rows.laid_errors_errorType)]

/-- A world that meets the condition: the settled one, the variable's cell laid. -/
noncomputable def laidWorld (os : Os) : World :=
  let w0 := World.holding Tryz.prog os ⟨#[], #[], []⟩
  { w0 with heap := w0.heap.modify 0 fun
      | .cells _ t frozen => .cells #[.iface 263 (.agg #[typeHandle Tryz.prog 43])] t frozen
      | o => o }
theorem laidWorld_met (os : Os) (args : Array Value) : laidMetH Tryz.prog tzLaid ((laidWorld os).forCall (fun _ _ => 0) ⟨#[], args, []⟩).memory :=
  laidMetH_of_parts (laidMet_nil _ _) (by kernel_rfl)

theorem tzEt : Tryz.prog.globalNamed "errors.errorType" = some 0 := by kernel_rfl
theorem tzRt : (Tryz.prog.cutTypes.find? (·.1 == "internal/reflectlite.rtype")).map (·.2) = some 263 := by kernel_rfl
theorem tzOneRow : ((List.range 448).filter fun t => Tryz.prog.rowNamed t [101, 114, 114, 111, 114]) = [43] := by kernel_rfl
theorem tzSize : Tryz.prog.types.size = 448 := by kernel_rfl
theorem tzHandle : typeHandle Tryz.prog 43 = .pointer (some ⟨3, 43, none⟩) := by kernel_rfl
/-- What the condition gives a walk: the variable's one cell. -/
theorem laid_of_met {W : World} (h : laidMetH Tryz.prog tzLaid W) : Laid W := by
  have h' : laidMet Tryz.prog [] W ∧ handlesMet Tryz.prog tzLaid W := h
  obtain ⟨name, u, ty, e1, e2, e3, e4, e5⟩ := h'.2 _ (List.mem_singleton.2 rfl)
  have en : name = [101, 114, 114, 111, 114] := (Option.some.inj e1).symm
  subst en
  obtain rfl := Option.some.inj (tzRt.symm.trans e2)
  have hm : ty ∈ (List.range 448).filter fun t => Tryz.prog.rowNamed t [101, 114, 114, 111, 114] := List.mem_filter.2 ⟨List.mem_range.2 (by rw [← tzSize]; exact e3), e4⟩
  rw [tzOneRow] at hm
  obtain rfl := List.mem_singleton.1 hm
  rw [tzHandle] at e5
  unfold Laid
  simpa using World.var?_cell tzEt e5 0
end Go.Proofs.YtkngjgblfappoaaGreatDoor
