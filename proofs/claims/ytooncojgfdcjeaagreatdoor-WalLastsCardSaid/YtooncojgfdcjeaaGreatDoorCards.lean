/-
  DERIVED. GIVEN WITH THE SEED: THE CARDS: each row of YtooncojgfdcjeaaGreatDoorRows.lean that lists a variable, with what it lists TIED to the program's text (the seventh form; the later family's looks); each row that meets fmt, with fmt's text TOLD by the authors' own Lean function (tested against real Go, not proved from fmt's source: count such statements apart). THE CARD IS WHAT COUNTS. Prove the row's statement (the work); the ties are given (YtooncojgfdcjeaaGreatDoorTie.lean); close each card by the builder's one call (the guide's Derived/Test/ToyasCard.lean, 'card_holds'). Laid BY PROGRAM, IN A SANDBOX (cutbox-door.mjs). By AI agents, Wed Nov 11 2026. No macro, syntax, notation, axiom, sorry.
-/
import Derived.Test.YtooncojgfdcjeaaGreatDoorRows
import GoSem.ClaimSeven
namespace Go.Proofs.YtooncojgfdcjeaaGreatDoor
namespace Rows

/-- THE TIED CARD OF 'bourselaw16.WalReads'. -/
def walReadsCard : Claim7 := { stood := { row := walReadsRow, standIns := [], harness := (true, "b8a18ae9fa771390e824c08e7d761973cac9d5a9b26b77cfc00995fc1b317f8b"), looks := true }, kinds := [], alts := [], laidByText := true, laidKinds := [.data, .data, .data, .data, .pinned], laidTests := true, laidLooks := .later }
def WalReadsCardSaid : Prop := Claim7.holds Tryz.pinned (.plain (OpenSpec.ofChange walReadsSpec)) walReadsCard

/-- THE TIED CARD OF 'bourselaw16.WalLasts'. -/
def walLastsCard : Claim7 := { stood := { row := walLastsRow, standIns := [], harness := (true, "b8a18ae9fa771390e824c08e7d761973cac9d5a9b26b77cfc00995fc1b317f8b"), looks := true }, kinds := [], alts := [], laidByText := true, laidKinds := [.data, .data, .data, .data, .pinned], laidTests := true, laidLooks := .later }
def WalLastsCardSaid : Prop := Claim7.holds Tryz.pinned (.plain (OpenSpec.ofChange walLastsSpec)) walLastsCard

/-- THE TIED CARD OF 'bourselaw16.WalNil'. -/
def walNilCard : Claim7 := { stood := { row := walNilRow, standIns := [], harness := (true, "b8a18ae9fa771390e824c08e7d761973cac9d5a9b26b77cfc00995fc1b317f8b"), looks := true }, kinds := [], alts := [], laidByText := true, laidKinds := [.data, .data, .data, .data, .sentinel, .sentinel, .pinned], laidTests := true, laidLooks := .later }
def WalNilCardSaid : Prop := Claim7.holds Tryz.pinned (.plain (OpenSpec.ofChange walNilSpec)) walNilCard

/-- THE TIED CARD OF 'bourselaw14.ManifestStates'. -/
def manifestStatesCard : Claim7 := { stood := { row := manifestStatesRow, standIns := [], harness := (true, "b8a18ae9fa771390e824c08e7d761973cac9d5a9b26b77cfc00995fc1b317f8b"), looks := true }, kinds := [], alts := [], laidByText := true, laidKinds := [.data, .data, .data, .data, .sentinel, .sentinel, .pinned], laidTests := true, laidLooks := .later }
def ManifestStatesCardSaid : Prop := Claim7.holds Tryz.pinned (.plain (OpenSpec.ofChange manifestStatesSpec)) manifestStatesCard

/-- THE TIED CARD OF 'bourselaw14.ManifestNil'. -/
def manifestNilCard : Claim7 := { stood := { row := manifestNilRow, standIns := [], harness := (true, "b8a18ae9fa771390e824c08e7d761973cac9d5a9b26b77cfc00995fc1b317f8b"), looks := true }, kinds := [], alts := [], laidByText := true, laidKinds := [.data, .data, .data, .data, .sentinel, .sentinel, .pinned], laidTests := true, laidLooks := .later }
def ManifestNilCardSaid : Prop := Claim7.holds Tryz.pinned (.plain (OpenSpec.ofChange manifestNilSpec)) manifestNilCard

/-- THE TIED CARD OF 'bourselaw14.ManifestLasts'. -/
def manifestLastsCard : Claim7 := { stood := { row := manifestLastsRow, standIns := [], harness := (true, "b8a18ae9fa771390e824c08e7d761973cac9d5a9b26b77cfc00995fc1b317f8b"), looks := true }, kinds := [], alts := [], laidByText := true, laidKinds := [.data, .data, .data, .data, .sentinel, .sentinel, .pinned], laidTests := true, laidLooks := .later }
def ManifestLastsCardSaid : Prop := Claim7.holds Tryz.pinned (.plain (OpenSpec.ofChange manifestLastsSpec)) manifestLastsCard

/-- THE SECOND FORM's CARD OF 'bourselaw16.WalReads'. -/
def walReadsUptoCard : Claim7 := { stood := { row := walReadsUptoRow, standIns := [], harness := (true, "b8a18ae9fa771390e824c08e7d761973cac9d5a9b26b77cfc00995fc1b317f8b"), looks := true }, kinds := [], alts := [], laidByText := true, laidKinds := [.data, .data, .data, .data, .pinned], laidTests := true, laidLooks := .later }
def WalReadsUptoCardSaid : Prop := Claim7.holds Tryz.pinned (.plain (OpenSpec.upto walReadsSpec)) walReadsUptoCard

/-- THE SECOND FORM's CARD OF 'bourselaw16.WalLasts'. -/
def walLastsUptoCard : Claim7 := { stood := { row := walLastsUptoRow, standIns := [], harness := (true, "b8a18ae9fa771390e824c08e7d761973cac9d5a9b26b77cfc00995fc1b317f8b"), looks := true }, kinds := [], alts := [], laidByText := true, laidKinds := [.data, .data, .data, .data, .pinned], laidTests := true, laidLooks := .later }
def WalLastsUptoCardSaid : Prop := Claim7.holds Tryz.pinned (.plain (OpenSpec.upto walLastsSpec)) walLastsUptoCard

/-- THE SECOND FORM's CARD OF 'bourselaw16.WalNil'. -/
def walNilUptoCard : Claim7 := { stood := { row := walNilUptoRow, standIns := [], harness := (true, "b8a18ae9fa771390e824c08e7d761973cac9d5a9b26b77cfc00995fc1b317f8b"), looks := true }, kinds := [], alts := [], laidByText := true, laidKinds := [.data, .data, .data, .data, .sentinel, .sentinel, .pinned], laidTests := true, laidLooks := .later }
def WalNilUptoCardSaid : Prop := Claim7.holds Tryz.pinned (.plain (OpenSpec.upto walNilSpec)) walNilUptoCard

/-- THE SECOND FORM's CARD OF 'bourselaw14.ManifestStates'. -/
def manifestStatesUptoCard : Claim7 := { stood := { row := manifestStatesUptoRow, standIns := [], harness := (true, "b8a18ae9fa771390e824c08e7d761973cac9d5a9b26b77cfc00995fc1b317f8b"), looks := true }, kinds := [], alts := [], laidByText := true, laidKinds := [.data, .data, .data, .data, .sentinel, .sentinel, .pinned], laidTests := true, laidLooks := .later }
def ManifestStatesUptoCardSaid : Prop := Claim7.holds Tryz.pinned (.plain (OpenSpec.upto manifestStatesSpec)) manifestStatesUptoCard

/-- THE SECOND FORM's CARD OF 'bourselaw14.ManifestNil'. -/
def manifestNilUptoCard : Claim7 := { stood := { row := manifestNilUptoRow, standIns := [], harness := (true, "b8a18ae9fa771390e824c08e7d761973cac9d5a9b26b77cfc00995fc1b317f8b"), looks := true }, kinds := [], alts := [], laidByText := true, laidKinds := [.data, .data, .data, .data, .sentinel, .sentinel, .pinned], laidTests := true, laidLooks := .later }
def ManifestNilUptoCardSaid : Prop := Claim7.holds Tryz.pinned (.plain (OpenSpec.upto manifestNilSpec)) manifestNilUptoCard

/-- THE SECOND FORM's CARD OF 'bourselaw14.ManifestLasts'. -/
def manifestLastsUptoCard : Claim7 := { stood := { row := manifestLastsUptoRow, standIns := [], harness := (true, "b8a18ae9fa771390e824c08e7d761973cac9d5a9b26b77cfc00995fc1b317f8b"), looks := true }, kinds := [], alts := [], laidByText := true, laidKinds := [.data, .data, .data, .data, .sentinel, .sentinel, .pinned], laidTests := true, laidLooks := .later }
def ManifestLastsUptoCardSaid : Prop := Claim7.holds Tryz.pinned (.plain (OpenSpec.upto manifestLastsSpec)) manifestLastsUptoCard
end Rows
end Go.Proofs.YtooncojgfdcjeaaGreatDoor
