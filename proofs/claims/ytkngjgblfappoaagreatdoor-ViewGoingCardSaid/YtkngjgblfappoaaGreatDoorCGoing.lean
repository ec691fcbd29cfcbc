/-
  rialtolaw23.ViewGoing, for every input, on its tied card: true; the input reads behind the call as it did.
-/
import Derived.Test.YtkngjgblfappoaaGreatDoorPGoing
import Derived.Test.YtkngjgblfappoaaGreatDoorTie
import Derived.Test.YtkngjgblfappoaaGreatDoorCards
import Derived.SevenTiedAt
namespace Go.Proofs.YtkngjgblfappoaaGreatDoor
open Go
theorem goingMain : Tryz.prog.mainIs = some (Rows.viewGoingCard.stood.harness.1, Rows.viewGoingCard.stood.harness.2.toList) := by kernel_rfl
theorem goingWf : Rows.viewGoingRow.wfByText (OpenSpec.ofChange Rows.viewGoingSpec) = true := by kernel_rfl
theorem goingLooks : true = Tryz.prog.looks [] := by kernel_rfl
theorem goingU8 : Tryz.prog.wantsStandIn 5 = false := by kernel_rfl
theorem goingU8s : Tryz.prog.wantsStandIn 52 = false := by kernel_rfl
theorem goingGoes : false = Rows.viewGoingRow.goesBy Tryz.prog := by kernel_rfl
set_option maxHeartbeats 4000000 in
theorem viewGoing_card : Rows.ViewGoingCardSaid :=
  Claim7.holds_tied_plain_at .later [] [.handle] true Rows.viewGoingCard.stood.harness true
    viewGoing_row (fun _ h => by cases h) goingWf (fun _ h => by cases h) viewGoing_row_tie rfl ⟨rfl, rfl⟩ goingMain rfl
    (fun f fn hf hfn => by
      obtain rfl : f = 4 := Option.some.inj (goingName.symm.trans hf) |>.symm
      obtain rfl : fn = Tryz.f4 := (Option.some.inj (Tryz.func4.symm.trans hfn)).symm
      refine ⟨goingLooks, fun j t ht => ?_⟩
      rw [Tryz.params4] at ht
      have h3 : t = 5 ∨ t = 52 := by
        rcases j with _ | _ | _ | j
        · exact .inl (by simpa using ht.symm)
        · exact .inl (by simpa using ht.symm)
        · exact .inr (by simpa using ht.symm)
        · simp at ht
      rcases h3 with rfl | rfl
      · exact goingU8
      · exact goingU8s)
    goingGoes
#print axioms viewGoing_card
end Go.Proofs.YtkngjgblfappoaaGreatDoor
