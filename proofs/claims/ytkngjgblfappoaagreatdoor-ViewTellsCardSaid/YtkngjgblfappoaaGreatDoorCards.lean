/-
  DERIVED. GIVEN WITH THE SEED: THE CARDS: each row of YtkngjgblfappoaaGreatDoorRows.lean that lists a variable, with what it lists TIED to the program's text (the seventh form; the later family's looks); each row that meets fmt, with fmt's text TOLD by the authors' own Lean function (tested against real Go, not proved from fmt's source: count such statements apart). THE CARD IS WHAT COUNTS. Prove the row's statement (the work); the ties are given (YtkngjgblfappoaaGreatDoorTie.lean); close each card by the builder's one call (the guide's Derived/Test/ToyasCard.lean, 'card_holds'). Laid BY PROGRAM, IN A SANDBOX (cutbox-door.mjs). By AI agents, Wed Nov 11 2026. No macro, syntax, notation, axiom, sorry.
-/
import Derived.Test.YtkngjgblfappoaaGreatDoorRows
import GoSem.ClaimSeven
namespace Go.Proofs.YtkngjgblfappoaaGreatDoor
namespace Rows

/-- THE TIED CARD OF 'rialtolaw17.IndexUnique'. -/
def indexUniqueCard : Claim7 := { stood := { row := indexUniqueRow, standIns := [], harness := (true, "c41ecf8f104c37cbf17bfb5922b5aed965da2dfab02781f3fa7ccd573e2043cc"), looks := true }, kinds := [], alts := [], laidByText := true, laidKinds := [.handle], laidTests := true, laidLooks := .later }
def IndexUniqueCardSaid : Prop := Claim7.holds Tryz.pinned (.plain (OpenSpec.ofChange indexUniqueSpec)) indexUniqueCard

/-- THE TIED CARD OF 'rialtolaw23.ViewGoing'. -/
def viewGoingCard : Claim7 := { stood := { row := viewGoingRow, standIns := [], harness := (true, "c41ecf8f104c37cbf17bfb5922b5aed965da2dfab02781f3fa7ccd573e2043cc"), looks := true }, kinds := [], alts := [], laidByText := true, laidKinds := [.handle], laidTests := true, laidLooks := .later }
def ViewGoingCardSaid : Prop := Claim7.holds Tryz.pinned (.plain (OpenSpec.ofChange viewGoingSpec)) viewGoingCard

/-- THE TIED CARD OF 'rialtolaw23.ViewTells'. -/
def viewTellsCard : Claim7 := { stood := { row := viewTellsRow, standIns := [], harness := (true, "c41ecf8f104c37cbf17bfb5922b5aed965da2dfab02781f3fa7ccd573e2043cc"), looks := true }, kinds := [], alts := [], laidByText := true, laidKinds := [.handle], laidTests := true, laidLooks := .later }
def ViewTellsCardSaid : Prop := Claim7.holds Tryz.pinned (.plain (OpenSpec.ofChange viewTellsSpec)) viewTellsCard

/-- THE TIED CARD OF 'rialtolaw17.IndexWalks'. -/
def indexWalksCard : Claim7 := { stood := { row := indexWalksRow, standIns := [], harness := (true, "c41ecf8f104c37cbf17bfb5922b5aed965da2dfab02781f3fa7ccd573e2043cc"), looks := true }, kinds := [], alts := [], laidByText := true, laidKinds := [.handle], laidTests := true, laidLooks := .later }
def IndexWalksCardSaid : Prop := Claim7.holds Tryz.pinned (.plain (OpenSpec.ofChange indexWalksSpec)) indexWalksCard

/-- THE TIED CARD OF 'rialtolaw23.ViewFollows'. -/
def viewFollowsCard : Claim7 := { stood := { row := viewFollowsRow, standIns := [], harness := (true, "c41ecf8f104c37cbf17bfb5922b5aed965da2dfab02781f3fa7ccd573e2043cc"), looks := true }, kinds := [], alts := [], laidByText := true, laidKinds := [.handle], laidTests := true, laidLooks := .later }
def ViewFollowsCardSaid : Prop := Claim7.holds Tryz.pinned (.plain (OpenSpec.ofChange viewFollowsSpec)) viewFollowsCard

/-- THE SECOND FORM's CARD OF 'rialtolaw17.IndexUnique'. -/
def indexUniqueUptoCard : Claim7 := { stood := { row := indexUniqueUptoRow, standIns := [], harness := (true, "c41ecf8f104c37cbf17bfb5922b5aed965da2dfab02781f3fa7ccd573e2043cc"), looks := true }, kinds := [], alts := [], laidByText := true, laidKinds := [.handle], laidTests := true, laidLooks := .later }
def IndexUniqueUptoCardSaid : Prop := Claim7.holds Tryz.pinned (.plain (OpenSpec.upto indexUniqueSpec)) indexUniqueUptoCard

/-- THE SECOND FORM's CARD OF 'rialtolaw23.ViewGoing'. -/
def viewGoingUptoCard : Claim7 := { stood := { row := viewGoingUptoRow, standIns := [], harness := (true, "c41ecf8f104c37cbf17bfb5922b5aed965da2dfab02781f3fa7ccd573e2043cc"), looks := true }, kinds := [], alts := [], laidByText := true, laidKinds := [.handle], laidTests := true, laidLooks := .later }
def ViewGoingUptoCardSaid : Prop := Claim7.holds Tryz.pinned (.plain (OpenSpec.upto viewGoingSpec)) viewGoingUptoCard

/-- THE SECOND FORM's CARD OF 'rialtolaw23.ViewTells'. -/
def viewTellsUptoCard : Claim7 := { stood := { row := viewTellsUptoRow, standIns := [], harness := (true, "c41ecf8f104c37cbf17bfb5922b5aed965da2dfab02781f3fa7ccd573e2043cc"), looks := true }, kinds := [], alts := [], laidByText := true, laidKinds := [.handle], laidTests := true, laidLooks := .later }
def ViewTellsUptoCardSaid : Prop := Claim7.holds Tryz.pinned (.plain (OpenSpec.upto viewTellsSpec)) viewTellsUptoCard

/-- THE SECOND FORM's CARD OF 'rialtolaw17.IndexWalks'. -/
def indexWalksUptoCard : Claim7 := { stood := { row := indexWalksUptoRow, standIns := [], harness := (true, "c41ecf8f104c37cbf17bfb5922b5aed965da2dfab02781f3fa7ccd573e2043cc"), looks := true }, kinds := [], alts := [], laidByText := true, laidKinds := [.handle], laidTests := true, laidLooks := .later }
def IndexWalksUptoCardSaid : Prop := Claim7.holds Tryz.pinned (.plain (OpenSpec.upto indexWalksSpec)) indexWalksUptoCard

/-- THE SECOND FORM's CARD OF 'rialtolaw23.ViewFollows'. -/
def viewFollowsUptoCard : Claim7 := { stood := { row := viewFollowsUptoRow, standIns := [], harness := (true, "c41ecf8f104c37cbf17bfb5922b5aed965da2dfab02781f3fa7ccd573e2043cc"), looks := true }, kinds := [], alts := [], laidByText := true, laidKinds := [.handle], laidTests := true, laidLooks := .later }
def ViewFollowsUptoCardSaid : Prop := Claim7.holds Tryz.pinned (.plain (OpenSpec.upto viewFollowsSpec)) viewFollowsUptoCard
end Rows
end Go.Proofs.YtkngjgblfappoaaGreatDoor
