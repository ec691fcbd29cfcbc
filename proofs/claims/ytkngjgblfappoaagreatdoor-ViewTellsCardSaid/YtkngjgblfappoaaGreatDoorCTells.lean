/-
  rialtolaw23.ViewTells, for every input, on its tied card: true; the input reads behind the call as it did.
-/
import Derived.Test.YtkngjgblfappoaaGreatDoorPTells
import Derived.Test.YtkngjgblfappoaaGreatDoorTie
import Derived.Test.YtkngjgblfappoaaGreatDoorCards
import Derived.SevenTiedAt
namespace Go.Proofs.YtkngjgblfappoaaGreatDoor
open Go
theorem tellsMain : Tryz.prog.mainIs = some (Rows.viewTellsCard.stood.harness.1, Rows.viewTellsCard.stood.harness.2.toList) := by kernel_rfl
theorem tellsWf : Rows.viewTellsRow.wfByText (OpenSpec.ofChange Rows.viewTellsSpec) = true := by kernel_rfl
theorem tellsLooks : true = Tryz.prog.looks [] := by kernel_rfl
theorem tellsA : Tryz.prog.wantsStandIn 67 = false := by kernel_rfl
theorem tellsB : Tryz.prog.wantsStandIn 68 = false := by kernel_rfl
theorem tellsC_ : Tryz.prog.wantsStandIn 52 = false := by kernel_rfl
theorem tellsGoes : false = Rows.viewTellsRow.goesBy Tryz.prog := by kernel_rfl
set_option maxHeartbeats 4000000 in
theorem viewTells_card : Rows.ViewTellsCardSaid :=
  Claim7.holds_tied_plain_at .later [] [.handle] true Rows.viewTellsCard.stood.harness true
    viewTells_row (fun _ h => by cases h) tellsWf (fun _ h => by cases h) viewTells_row_tie rfl ⟨rfl, rfl⟩ tellsMain rfl
    (fun f fn hf hfn => by
      obtain rfl : f = 5 := Option.some.inj (tellsName.symm.trans hf) |>.symm
      obtain rfl : fn = Tryz.f5 := (Option.some.inj (Tryz.func5.symm.trans hfn)).symm
      refine ⟨tellsLooks, fun j t ht => ?_⟩
      rw [Tryz.params5] at ht
      have h3 : t = 67 ∨ t = 68 ∨ t = 52 := by
        rcases j with _ | _ | _ | j
        · exact .inl (by simpa using ht.symm)
        · exact .inr (.inl (by simpa using ht.symm))
        · exact .inr (.inr (by simpa using ht.symm))
        · simp at ht
      rcases h3 with rfl | rfl | rfl
      · exact tellsA
      · exact tellsB
      · exact tellsC_)
    tellsGoes
#print axioms viewTells_card
end Go.Proofs.YtkngjgblfappoaaGreatDoor
