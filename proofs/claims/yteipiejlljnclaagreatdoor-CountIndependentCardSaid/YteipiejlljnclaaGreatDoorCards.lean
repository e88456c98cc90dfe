/-
  DERIVED. GIVEN WITH THE SEED: THE CARDS: each row of YteipiejlljnclaaGreatDoorRows.lean that lists a variable, with what it lists TIED to the program's text (the seventh form; the later family's looks); each row that meets fmt, with fmt's text TOLD by the authors' own Lean function (tested against real Go, not proved from fmt's source: count such statements apart). THE CARD IS WHAT COUNTS. Prove the row's statement (the work); the ties are given (YteipiejlljnclaaGreatDoorTie.lean); close each card by the builder's one call (the guide's Derived/Test/ToyasCard.lean, 'card_holds'). Laid BY PROGRAM, IN A SANDBOX (cutbox-door.mjs). By AI agents, Wed Nov 11 2026. No macro, syntax, notation, axiom, sorry.
-/
import Derived.Test.YteipiejlljnclaaGreatDoorRows
import GoSem.ClaimSeven
namespace Go.Proofs.YteipiejlljnclaaGreatDoor
namespace Rows

/-- THE TIED CARD OF 'exactppllaw22.CountReaches'. -/
def countReachesCard : Claim7 := { stood := { row := countReachesRow, standIns := [], harness := (true, "81a4779245602e4505bb550610c11db015e9e05c9fff45316808e0d4e8a5c7e9"), looks := false }, kinds := [], alts := [], laidByText := true, laidKinds := [.data, .data, .data], laidTests := true, laidLooks := .later }
def CountReachesCardSaid : Prop := Claim7.holds Tryz.pinned (.plain (OpenSpec.ofChange countReachesSpec)) countReachesCard

/-- THE TIED CARD OF 'exactppllaw22.CountExpects'. -/
def countExpectsCard : Claim7 := { stood := { row := countExpectsRow, standIns := [], harness := (true, "81a4779245602e4505bb550610c11db015e9e05c9fff45316808e0d4e8a5c7e9"), looks := false }, kinds := [], alts := [], laidByText := true, laidKinds := [.data, .data, .data], laidTests := true, laidLooks := .later }
def CountExpectsCardSaid : Prop := Claim7.holds Tryz.pinned (.plain (OpenSpec.ofChange countExpectsSpec)) countExpectsCard

/-- THE TIED CARD OF 'exactppllaw22.CountLeaves'. -/
def countLeavesCard : Claim7 := { stood := { row := countLeavesRow, standIns := [], harness := (true, "81a4779245602e4505bb550610c11db015e9e05c9fff45316808e0d4e8a5c7e9"), looks := false }, kinds := [], alts := [], laidByText := true, laidKinds := [.data, .data, .data], laidTests := true, laidLooks := .later }
def CountLeavesCardSaid : Prop := Claim7.holds Tryz.pinned (.plain (OpenSpec.ofChange countLeavesSpec)) countLeavesCard

/-- THE TIED CARD OF 'exactppllaw22.CountConditions'. -/
def countConditionsCard : Claim7 := { stood := { row := countConditionsRow, standIns := [], harness := (true, "81a4779245602e4505bb550610c11db015e9e05c9fff45316808e0d4e8a5c7e9"), looks := false }, kinds := [], alts := [], laidByText := true, laidKinds := [.data, .data, .data], laidTests := true, laidLooks := .later }
def CountConditionsCardSaid : Prop := Claim7.holds Tryz.pinned (.plain (OpenSpec.ofChange countConditionsSpec)) countConditionsCard

/-- THE TIED CARD OF 'exactppllaw22.CountMeasures'. -/
def countMeasuresCard : Claim7 := { stood := { row := countMeasuresRow, standIns := [], harness := (true, "81a4779245602e4505bb550610c11db015e9e05c9fff45316808e0d4e8a5c7e9"), looks := false }, kinds := [], alts := [], laidByText := true, laidKinds := [.data, .data, .data], laidTests := true, laidLooks := .later }
def CountMeasuresCardSaid : Prop := Claim7.holds Tryz.pinned (.plain (OpenSpec.ofChange countMeasuresSpec)) countMeasuresCard

/-- THE TIED CARD OF 'exactppllaw22.CountSums'. -/
def countSumsCard : Claim7 := { stood := { row := countSumsRow, standIns := [], harness := (true, "81a4779245602e4505bb550610c11db015e9e05c9fff45316808e0d4e8a5c7e9"), looks := false }, kinds := [], alts := [], laidByText := true, laidKinds := [.data, .data, .data], laidTests := true, laidLooks := .later }
def CountSumsCardSaid : Prop := Claim7.holds Tryz.pinned (.plain (OpenSpec.ofChange countSumsSpec)) countSumsCard

/-- THE TIED CARD OF 'exactppllaw22.CountIndependent'. -/
def countIndependentCard : Claim7 := { stood := { row := countIndependentRow, standIns := [], harness := (true, "81a4779245602e4505bb550610c11db015e9e05c9fff45316808e0d4e8a5c7e9"), looks := false }, kinds := [], alts := [], laidByText := true, laidKinds := [.data, .data, .data], laidTests := true, laidLooks := .later }
def CountIndependentCardSaid : Prop := Claim7.holds Tryz.pinned (.plain (OpenSpec.ofChange countIndependentSpec)) countIndependentCard

/-- THE TIED CARD OF 'exactppllaw22.CountImages'. -/
def countImagesCard : Claim7 := { stood := { row := countImagesRow, standIns := [], harness := (true, "81a4779245602e4505bb550610c11db015e9e05c9fff45316808e0d4e8a5c7e9"), looks := false }, kinds := [], alts := [], laidByText := true, laidKinds := [.data, .data, .data], laidTests := true, laidLooks := .later }
def CountImagesCardSaid : Prop := Claim7.holds Tryz.pinned (.plain (OpenSpec.ofChange countImagesSpec)) countImagesCard

/-- THE SECOND FORM's CARD OF 'exactppllaw22.CountReaches'. -/
def countReachesUptoCard : Claim7 := { stood := { row := countReachesUptoRow, standIns := [], harness := (true, "81a4779245602e4505bb550610c11db015e9e05c9fff45316808e0d4e8a5c7e9"), looks := false }, kinds := [], alts := [], laidByText := true, laidKinds := [.data, .data, .data], laidTests := true, laidLooks := .later }
def CountReachesUptoCardSaid : Prop := Claim7.holds Tryz.pinned (.plain (OpenSpec.upto countReachesSpec)) countReachesUptoCard

/-- THE SECOND FORM's CARD OF 'exactppllaw22.CountExpects'. -/
def countExpectsUptoCard : Claim7 := { stood := { row := countExpectsUptoRow, standIns := [], harness := (true, "81a4779245602e4505bb550610c11db015e9e05c9fff45316808e0d4e8a5c7e9"), looks := false }, kinds := [], alts := [], laidByText := true, laidKinds := [.data, .data, .data], laidTests := true, laidLooks := .later }
def CountExpectsUptoCardSaid : Prop := Claim7.holds Tryz.pinned (.plain (OpenSpec.upto countExpectsSpec)) countExpectsUptoCard

/-- THE SECOND FORM's CARD OF 'exactppllaw22.CountLeaves'. -/
def countLeavesUptoCard : Claim7 := { stood := { row := countLeavesUptoRow, standIns := [], harness := (true, "81a4779245602e4505bb550610c11db015e9e05c9fff45316808e0d4e8a5c7e9"), looks := false }, kinds := [], alts := [], laidByText := true, laidKinds := [.data, .data, .data], laidTests := true, laidLooks := .later }
def CountLeavesUptoCardSaid : Prop := Claim7.holds Tryz.pinned (.plain (OpenSpec.upto countLeavesSpec)) countLeavesUptoCard

/-- THE SECOND FORM's CARD OF 'exactppllaw22.CountConditions'. -/
def countConditionsUptoCard : Claim7 := { stood := { row := countConditionsUptoRow, standIns := [], harness := (true, "81a4779245602e4505bb550610c11db015e9e05c9fff45316808e0d4e8a5c7e9"), looks := false }, kinds := [], alts := [], laidByText := true, laidKinds := [.data, .data, .data], laidTests := true, laidLooks := .later }
def CountConditionsUptoCardSaid : Prop := Claim7.holds Tryz.pinned (.plain (OpenSpec.upto countConditionsSpec)) countConditionsUptoCard

/-- THE SECOND FORM's CARD OF 'exactppllaw22.CountMeasures'. -/
def countMeasuresUptoCard : Claim7 := { stood := { row := countMeasuresUptoRow, standIns := [], harness := (true, "81a4779245602e4505bb550610c11db015e9e05c9fff45316808e0d4e8a5c7e9"), looks := false }, kinds := [], alts := [], laidByText := true, laidKinds := [.data, .data, .data], laidTests := true, laidLooks := .later }
def CountMeasuresUptoCardSaid : Prop := Claim7.holds Tryz.pinned (.plain (OpenSpec.upto countMeasuresSpec)) countMeasuresUptoCard

/-- THE SECOND FORM's CARD OF 'exactppllaw22.CountSums'. -/
def countSumsUptoCard : Claim7 := { stood := { row := countSumsUptoRow, standIns := [], harness := (true, "81a4779245602e4505bb550610c11db015e9e05c9fff45316808e0d4e8a5c7e9"), looks := false }, kinds := [], alts := [], laidByText := true, laidKinds := [.data, .data, .data], laidTests := true, laidLooks := .later }
def CountSumsUptoCardSaid : Prop := Claim7.holds Tryz.pinned (.plain (OpenSpec.upto countSumsSpec)) countSumsUptoCard

/-- THE SECOND FORM's CARD OF 'exactppllaw22.CountIndependent'. -/
def countIndependentUptoCard : Claim7 := { stood := { row := countIndependentUptoRow, standIns := [], harness := (true, "81a4779245602e4505bb550610c11db015e9e05c9fff45316808e0d4e8a5c7e9"), looks := false }, kinds := [], alts := [], laidByText := true, laidKinds := [.data, .data, .data], laidTests := true, laidLooks := .later }
def CountIndependentUptoCardSaid : Prop := Claim7.holds Tryz.pinned (.plain (OpenSpec.upto countIndependentSpec)) countIndependentUptoCard

/-- THE SECOND FORM's CARD OF 'exactppllaw22.CountImages'. -/
def countImagesUptoCard : Claim7 := { stood := { row := countImagesUptoRow, standIns := [], harness := (true, "81a4779245602e4505bb550610c11db015e9e05c9fff45316808e0d4e8a5c7e9"), looks := false }, kinds := [], alts := [], laidByText := true, laidKinds := [.data, .data, .data], laidTests := true, laidLooks := .later }
def CountImagesUptoCardSaid : Prop := Claim7.holds Tryz.pinned (.plain (OpenSpec.upto countImagesSpec)) countImagesUptoCard
end Rows
end Go.Proofs.YteipiejlljnclaaGreatDoor
