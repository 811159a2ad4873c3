/-
  DERIVED. GIVEN WITH THE SEED: THE CARDS: each row of YtmknnanbmkmnjaaGreatDoorRows.lean that lists a variable, with what it lists TIED to the program's text (the seventh form; the later family's looks); each row that meets fmt, with fmt's text TOLD by the authors' own Lean function (tested against real Go, not proved from fmt's source: count such statements apart). THE CARD IS WHAT COUNTS. Prove the row's statement (the work); the ties are given (YtmknnanbmkmnjaaGreatDoorTie.lean); close each card by the builder's one call (the guide's Derived/Test/ToyasCard.lean, 'card_holds'). Laid BY PROGRAM, IN A SANDBOX (cutbox-door.mjs). By AI agents, Wed Nov 11 2026. No macro, syntax, notation, axiom, sorry.
-/
import Derived.Test.YtmknnanbmkmnjaaGreatDoorRows
import GoSem.ClaimSeven
namespace Go.Proofs.YtmknnanbmkmnjaaGreatDoor
namespace Rows

/-- THE TIED CARD OF 'azimuthlaw15.PolarChecks'. -/
def polarChecksCard : Claim7 := { stood := { row := polarChecksRow, standIns := [], harness := (true, "9d82f9099ea9500a16a98d45364dc822a1b99501e8c65313cba146d52e56e36b"), looks := false }, kinds := [], alts := [], laidByText := true, laidKinds := [.data, .data, .data], laidTests := true, laidLooks := .later }
def PolarChecksCardSaid : Prop := Claim7.holds Tryz.pinned (.plain (OpenSpec.ofChange polarChecksSpec)) polarChecksCard

/-- THE TIED CARD OF 'azimuthlaw15.PolarClosed'. -/
def polarClosedCard : Claim7 := { stood := { row := polarClosedRow, standIns := [], harness := (true, "9d82f9099ea9500a16a98d45364dc822a1b99501e8c65313cba146d52e56e36b"), looks := false }, kinds := [], alts := [], laidByText := true, laidKinds := [.data, .data, .data], laidTests := true, laidLooks := .later }
def PolarClosedCardSaid : Prop := Claim7.holds Tryz.pinned (.plain (OpenSpec.ofChange polarClosedSpec)) polarClosedCard

/-- THE TIED CARD OF 'azimuthlaw16.RefineNormal'. -/
def refineNormalCard : Claim7 := { stood := { row := refineNormalRow, standIns := [], harness := (true, "9d82f9099ea9500a16a98d45364dc822a1b99501e8c65313cba146d52e56e36b"), looks := false }, kinds := [], alts := [], laidByText := true, laidKinds := [.data, .data, .data], laidTests := true, laidLooks := .later }
def RefineNormalCardSaid : Prop := Claim7.holds Tryz.pinned (.plain (OpenSpec.ofChange refineNormalSpec)) refineNormalCard

/-- THE TIED CARD OF 'azimuthlaw16.RefineSame'. -/
def refineSameCard : Claim7 := { stood := { row := refineSameRow, standIns := [], harness := (true, "9d82f9099ea9500a16a98d45364dc822a1b99501e8c65313cba146d52e56e36b"), looks := false }, kinds := [], alts := [], laidByText := true, laidKinds := [.data, .data, .data], laidTests := true, laidLooks := .later }
def RefineSameCardSaid : Prop := Claim7.holds Tryz.pinned (.plain (OpenSpec.ofChange refineSameSpec)) refineSameCard

/-- THE TIED CARD OF 'azimuthlaw16.RefineNames'. -/
def refineNamesCard : Claim7 := { stood := { row := refineNamesRow, standIns := [], harness := (true, "9d82f9099ea9500a16a98d45364dc822a1b99501e8c65313cba146d52e56e36b"), looks := false }, kinds := [], alts := [], laidByText := true, laidKinds := [.data, .data, .data], laidTests := true, laidLooks := .later }
def RefineNamesCardSaid : Prop := Claim7.holds Tryz.pinned (.plain (OpenSpec.ofChange refineNamesSpec)) refineNamesCard

/-- THE TIED CARD OF 'azimuthlaw16.RefineTwice'. -/
def refineTwiceCard : Claim7 := { stood := { row := refineTwiceRow, standIns := [], harness := (true, "9d82f9099ea9500a16a98d45364dc822a1b99501e8c65313cba146d52e56e36b"), looks := false }, kinds := [], alts := [], laidByText := true, laidKinds := [.data, .data, .data], laidTests := true, laidLooks := .later }
def RefineTwiceCardSaid : Prop := Claim7.holds Tryz.pinned (.plain (OpenSpec.ofChange refineTwiceSpec)) refineTwiceCard

/-- THE SECOND FORM's CARD OF 'azimuthlaw15.PolarChecks'. -/
def polarChecksUptoCard : Claim7 := { stood := { row := polarChecksUptoRow, standIns := [], harness := (true, "9d82f9099ea9500a16a98d45364dc822a1b99501e8c65313cba146d52e56e36b"), looks := false }, kinds := [], alts := [], laidByText := true, laidKinds := [.data, .data, .data], laidTests := true, laidLooks := .later }
def PolarChecksUptoCardSaid : Prop := Claim7.holds Tryz.pinned (.plain (OpenSpec.upto polarChecksSpec)) polarChecksUptoCard

/-- THE SECOND FORM's CARD OF 'azimuthlaw15.PolarClosed'. -/
def polarClosedUptoCard : Claim7 := { stood := { row := polarClosedUptoRow, standIns := [], harness := (true, "9d82f9099ea9500a16a98d45364dc822a1b99501e8c65313cba146d52e56e36b"), looks := false }, kinds := [], alts := [], laidByText := true, laidKinds := [.data, .data, .data], laidTests := true, laidLooks := .later }
def PolarClosedUptoCardSaid : Prop := Claim7.holds Tryz.pinned (.plain (OpenSpec.upto polarClosedSpec)) polarClosedUptoCard

/-- THE SECOND FORM's CARD OF 'azimuthlaw16.RefineNormal'. -/
def refineNormalUptoCard : Claim7 := { stood := { row := refineNormalUptoRow, standIns := [], harness := (true, "9d82f9099ea9500a16a98d45364dc822a1b99501e8c65313cba146d52e56e36b"), looks := false }, kinds := [], alts := [], laidByText := true, laidKinds := [.data, .data, .data], laidTests := true, laidLooks := .later }
def RefineNormalUptoCardSaid : Prop := Claim7.holds Tryz.pinned (.plain (OpenSpec.upto refineNormalSpec)) refineNormalUptoCard

/-- THE SECOND FORM's CARD OF 'azimuthlaw16.RefineSame'. -/
def refineSameUptoCard : Claim7 := { stood := { row := refineSameUptoRow, standIns := [], harness := (true, "9d82f9099ea9500a16a98d45364dc822a1b99501e8c65313cba146d52e56e36b"), looks := false }, kinds := [], alts := [], laidByText := true, laidKinds := [.data, .data, .data], laidTests := true, laidLooks := .later }
def RefineSameUptoCardSaid : Prop := Claim7.holds Tryz.pinned (.plain (OpenSpec.upto refineSameSpec)) refineSameUptoCard

/-- THE SECOND FORM's CARD OF 'azimuthlaw16.RefineNames'. -/
def refineNamesUptoCard : Claim7 := { stood := { row := refineNamesUptoRow, standIns := [], harness := (true, "9d82f9099ea9500a16a98d45364dc822a1b99501e8c65313cba146d52e56e36b"), looks := false }, kinds := [], alts := [], laidByText := true, laidKinds := [.data, .data, .data], laidTests := true, laidLooks := .later }
def RefineNamesUptoCardSaid : Prop := Claim7.holds Tryz.pinned (.plain (OpenSpec.upto refineNamesSpec)) refineNamesUptoCard

/-- THE SECOND FORM's CARD OF 'azimuthlaw16.RefineTwice'. -/
def refineTwiceUptoCard : Claim7 := { stood := { row := refineTwiceUptoRow, standIns := [], harness := (true, "9d82f9099ea9500a16a98d45364dc822a1b99501e8c65313cba146d52e56e36b"), looks := false }, kinds := [], alts := [], laidByText := true, laidKinds := [.data, .data, .data], laidTests := true, laidLooks := .later }
def RefineTwiceUptoCardSaid : Prop := Claim7.holds Tryz.pinned (.plain (OpenSpec.upto refineTwiceSpec)) refineTwiceUptoCard
end Rows
end Go.Proofs.YtmknnanbmkmnjaaGreatDoor
