/-
  DERIVED. GIVEN WITH THE SEED: THE CARDS: each row of YtdnmpkdnfockgaaGreatDoorRows.lean that lists a variable, with what it lists TIED to the program's text (the seventh form; the later family's looks); each row that meets fmt, with fmt's text TOLD by the authors' own Lean function (tested against real Go, not proved from fmt's source: count such statements apart). THE CARD IS WHAT COUNTS. Prove the row's statement (the work); the ties are given (YtdnmpkdnfockgaaGreatDoorTie.lean); close each card by the builder's one call (the guide's Derived/Test/ToyasCard.lean, 'card_holds'). Laid BY PROGRAM, IN A SANDBOX (cutbox-door.mjs). By AI agents, Wed Nov 11 2026. No macro, syntax, notation, axiom, sorry.
-/
import Derived.Test.YtdnmpkdnfockgaaGreatDoorRows
import GoSem.ClaimSeven
namespace Go.Proofs.YtdnmpkdnfockgaaGreatDoor
namespace Rows

/-- THE TIED CARD OF 'rootcellarlaw16.PolicyMore'. -/
def policyMoreCard : Claim7 := { stood := { row := policyMoreRow, standIns := [], harness := (true, "937b7edeb3d7bc58cda3c9a0aa9fdfd05d84d5f9c890a23aafe5c2c84e4a26d9"), looks := false }, kinds := [], alts := [], laidByText := true, laidKinds := [.data, .data, .data, .data, .pinned], laidTests := true, laidLooks := .later }
def PolicyMoreCardSaid : Prop := Claim7.holds Tryz.pinned (.plain (OpenSpec.ofChange policyMoreSpec)) policyMoreCard

/-- THE TIED CARD OF 'rootcellarlaw16.PolicyDaily'. -/
def policyDailyCard : Claim7 := { stood := { row := policyDailyRow, standIns := [], harness := (true, "937b7edeb3d7bc58cda3c9a0aa9fdfd05d84d5f9c890a23aafe5c2c84e4a26d9"), looks := false }, kinds := [], alts := [], laidByText := true, laidKinds := [.data, .data, .data, .data, .pinned], laidTests := true, laidLooks := .later }
def PolicyDailyCardSaid : Prop := Claim7.holds Tryz.pinned (.plain (OpenSpec.ofChange policyDailySpec)) policyDailyCard

/-- THE TIED CARD OF 'rootcellarlaw16.PolicyNames'. -/
def policyNamesCard : Claim7 := { stood := { row := policyNamesRow, standIns := [], harness := (true, "937b7edeb3d7bc58cda3c9a0aa9fdfd05d84d5f9c890a23aafe5c2c84e4a26d9"), looks := false }, kinds := [], alts := [], laidByText := true, laidKinds := [.data, .data, .data, .data, .pinned], laidTests := true, laidLooks := .later }
def PolicyNamesCardSaid : Prop := Claim7.holds Tryz.pinned (.plain (OpenSpec.ofChange policyNamesSpec)) policyNamesCard

/-- THE TIED CARD OF 'rootcellarlaw16.PolicyReads'. -/
def policyReadsCard : Claim7 := { stood := { row := policyReadsRow, standIns := [], harness := (true, "937b7edeb3d7bc58cda3c9a0aa9fdfd05d84d5f9c890a23aafe5c2c84e4a26d9"), looks := false }, kinds := [], alts := [], laidByText := true, laidKinds := [.data, .data, .data, .data, .pinned], laidTests := true, laidLooks := .later }
def PolicyReadsCardSaid : Prop := Claim7.holds Tryz.pinned (.plain (OpenSpec.ofChange policyReadsSpec)) policyReadsCard

/-- THE TIED CARD OF 'rootcellarlaw16.PolicyBack'. -/
def policyBackCard : Claim7 := { stood := { row := policyBackRow, standIns := [], harness := (true, "937b7edeb3d7bc58cda3c9a0aa9fdfd05d84d5f9c890a23aafe5c2c84e4a26d9"), looks := false }, kinds := [], alts := [], laidByText := true, laidKinds := [.data, .data, .data, .data, .pinned], laidTests := true, laidLooks := .later }
def PolicyBackCardSaid : Prop := Claim7.holds Tryz.pinned (.plain (OpenSpec.ofChange policyBackSpec)) policyBackCard

/-- THE SECOND FORM's CARD OF 'rootcellarlaw16.PolicyMore'. -/
def policyMoreUptoCard : Claim7 := { stood := { row := policyMoreUptoRow, standIns := [], harness := (true, "937b7edeb3d7bc58cda3c9a0aa9fdfd05d84d5f9c890a23aafe5c2c84e4a26d9"), looks := false }, kinds := [], alts := [], laidByText := true, laidKinds := [.data, .data, .data, .data, .pinned], laidTests := true, laidLooks := .later }
def PolicyMoreUptoCardSaid : Prop := Claim7.holds Tryz.pinned (.plain (OpenSpec.upto policyMoreSpec)) policyMoreUptoCard

/-- THE SECOND FORM's CARD OF 'rootcellarlaw16.PolicyDaily'. -/
def policyDailyUptoCard : Claim7 := { stood := { row := policyDailyUptoRow, standIns := [], harness := (true, "937b7edeb3d7bc58cda3c9a0aa9fdfd05d84d5f9c890a23aafe5c2c84e4a26d9"), looks := false }, kinds := [], alts := [], laidByText := true, laidKinds := [.data, .data, .data, .data, .pinned], laidTests := true, laidLooks := .later }
def PolicyDailyUptoCardSaid : Prop := Claim7.holds Tryz.pinned (.plain (OpenSpec.upto policyDailySpec)) policyDailyUptoCard

/-- THE SECOND FORM's CARD OF 'rootcellarlaw16.PolicyNames'. -/
def policyNamesUptoCard : Claim7 := { stood := { row := policyNamesUptoRow, standIns := [], harness := (true, "937b7edeb3d7bc58cda3c9a0aa9fdfd05d84d5f9c890a23aafe5c2c84e4a26d9"), looks := false }, kinds := [], alts := [], laidByText := true, laidKinds := [.data, .data, .data, .data, .pinned], laidTests := true, laidLooks := .later }
def PolicyNamesUptoCardSaid : Prop := Claim7.holds Tryz.pinned (.plain (OpenSpec.upto policyNamesSpec)) policyNamesUptoCard

/-- THE SECOND FORM's CARD OF 'rootcellarlaw16.PolicyReads'. -/
def policyReadsUptoCard : Claim7 := { stood := { row := policyReadsUptoRow, standIns := [], harness := (true, "937b7edeb3d7bc58cda3c9a0aa9fdfd05d84d5f9c890a23aafe5c2c84e4a26d9"), looks := false }, kinds := [], alts := [], laidByText := true, laidKinds := [.data, .data, .data, .data, .pinned], laidTests := true, laidLooks := .later }
def PolicyReadsUptoCardSaid : Prop := Claim7.holds Tryz.pinned (.plain (OpenSpec.upto policyReadsSpec)) policyReadsUptoCard

/-- THE SECOND FORM's CARD OF 'rootcellarlaw16.PolicyBack'. -/
def policyBackUptoCard : Claim7 := { stood := { row := policyBackUptoRow, standIns := [], harness := (true, "937b7edeb3d7bc58cda3c9a0aa9fdfd05d84d5f9c890a23aafe5c2c84e4a26d9"), looks := false }, kinds := [], alts := [], laidByText := true, laidKinds := [.data, .data, .data, .data, .pinned], laidTests := true, laidLooks := .later }
def PolicyBackUptoCardSaid : Prop := Claim7.holds Tryz.pinned (.plain (OpenSpec.upto policyBackSpec)) policyBackUptoCard
end Rows
end Go.Proofs.YtdnmpkdnfockgaaGreatDoor
