/-
  DERIVED. GIVEN WITH THE SEED: THE CARDS: each row of YtlhbidbdmdcdeaaGreatDoorRows.lean that lists a variable, with what it lists TIED to the program's text (the seventh form; the later family's looks); each row that meets fmt, with fmt's text TOLD by the authors' own Lean function (tested against real Go, not proved from fmt's source: count such statements apart). THE CARD IS WHAT COUNTS. Prove the row's statement (the work); the ties are given (YtlhbidbdmdcdeaaGreatDoorTie.lean); close each card by the builder's one call (the guide's Derived/Test/ToyasCard.lean, 'card_holds'). Laid BY PROGRAM, IN A SANDBOX (cutbox-door.mjs). By AI agents, Wed Nov 11 2026. No macro, syntax, notation, axiom, sorry.
-/
import Derived.Test.YtlhbidbdmdcdeaaGreatDoorRows
import GoSem.ClaimSeven
namespace Go.Proofs.YtlhbidbdmdcdeaaGreatDoor
namespace Rows

/-- THE TIED CARD OF 'twinkeeplaw10.LogMany'. -/
def logManyCard : Claim7 := { stood := { row := logManyRow, standIns := [], harness := (true, "85524f030b3aaf995f0f019bd7e1a3bab04bffa96ea9a552f668c45c66e001ea"), looks := true }, kinds := [], alts := [], laidByText := true, laidKinds := [.data, .data, .data, .data, .sentinel, .sentinel, .pinned], laidTests := true, laidLooks := .later }
def LogManyCardSaid : Prop := Claim7.holds Tryz.pinned (.plain (OpenSpec.ofChange logManySpec)) logManyCard

/-- THE TIED CARD OF 'twinkeeplaw10.LogAsks'. -/
def logAsksCard : Claim7 := { stood := { row := logAsksRow, standIns := [], harness := (true, "85524f030b3aaf995f0f019bd7e1a3bab04bffa96ea9a552f668c45c66e001ea"), looks := true }, kinds := [], alts := [], laidByText := true, laidKinds := [.data, .data, .data, .data, .sentinel, .sentinel, .pinned], laidTests := true, laidLooks := .later }
def LogAsksCardSaid : Prop := Claim7.holds Tryz.pinned (.plain (OpenSpec.ofChange logAsksSpec)) logAsksCard

/-- THE TIED CARD OF 'twinkeeplaw10.LogTorn'. -/
def logTornCard : Claim7 := { stood := { row := logTornRow, standIns := [], harness := (true, "85524f030b3aaf995f0f019bd7e1a3bab04bffa96ea9a552f668c45c66e001ea"), looks := true }, kinds := [], alts := [], laidByText := true, laidKinds := [.data, .data, .data, .data, .sentinel, .sentinel, .pinned], laidTests := true, laidLooks := .later }
def LogTornCardSaid : Prop := Claim7.holds Tryz.pinned (.plain (OpenSpec.ofChange logTornSpec)) logTornCard

/-- THE TIED CARD OF 'twinkeeplaw10.LogTurned'. -/
def logTurnedCard : Claim7 := { stood := { row := logTurnedRow, standIns := [], harness := (true, "85524f030b3aaf995f0f019bd7e1a3bab04bffa96ea9a552f668c45c66e001ea"), looks := true }, kinds := [], alts := [], laidByText := true, laidKinds := [.data, .data, .data, .data, .sentinel, .sentinel, .pinned], laidTests := true, laidLooks := .later }
def LogTurnedCardSaid : Prop := Claim7.holds Tryz.pinned (.plain (OpenSpec.ofChange logTurnedSpec)) logTurnedCard

/-- THE TIED CARD OF 'twinkeeplaw10.LogMeets'. -/
def logMeetsCard : Claim7 := { stood := { row := logMeetsRow, standIns := [], harness := (true, "85524f030b3aaf995f0f019bd7e1a3bab04bffa96ea9a552f668c45c66e001ea"), looks := true }, kinds := [], alts := [], laidByText := true, laidKinds := [.data, .data, .data, .data, .sentinel, .sentinel, .pinned], laidTests := true, laidLooks := .later }
def LogMeetsCardSaid : Prop := Claim7.holds Tryz.pinned (.plain (OpenSpec.ofChange logMeetsSpec)) logMeetsCard

/-- THE TIED CARD OF 'twinkeeplaw10.LogMore'. -/
def logMoreCard : Claim7 := { stood := { row := logMoreRow, standIns := [], harness := (true, "85524f030b3aaf995f0f019bd7e1a3bab04bffa96ea9a552f668c45c66e001ea"), looks := true }, kinds := [], alts := [], laidByText := true, laidKinds := [.data, .data, .data, .data, .sentinel, .sentinel, .pinned], laidTests := true, laidLooks := .later }
def LogMoreCardSaid : Prop := Claim7.holds Tryz.pinned (.plain (OpenSpec.ofChange logMoreSpec)) logMoreCard

/-- THE TIED CARD OF 'twinkeeplaw9.EntryRules'. -/
def entryRulesCard : Claim7 := { stood := { row := entryRulesRow, standIns := [], harness := (true, "85524f030b3aaf995f0f019bd7e1a3bab04bffa96ea9a552f668c45c66e001ea"), looks := true }, kinds := [], alts := [], laidByText := true, laidKinds := [.data, .data, .data, .data, .sentinel, .sentinel, .pinned], laidTests := true, laidLooks := .later }
def EntryRulesCardSaid : Prop := Claim7.holds Tryz.pinned (.plain (OpenSpec.ofChange entryRulesSpec)) entryRulesCard

/-- THE TIED CARD OF 'twinkeeplaw9.EntryAsks'. -/
def entryAsksCard : Claim7 := { stood := { row := entryAsksRow, standIns := [], harness := (true, "85524f030b3aaf995f0f019bd7e1a3bab04bffa96ea9a552f668c45c66e001ea"), looks := true }, kinds := [], alts := [], laidByText := true, laidKinds := [.data, .data, .data, .data, .sentinel, .sentinel, .pinned], laidTests := true, laidLooks := .later }
def EntryAsksCardSaid : Prop := Claim7.holds Tryz.pinned (.plain (OpenSpec.ofChange entryAsksSpec)) entryAsksCard

/-- THE TIED CARD OF 'twinkeeplaw9.EntryBack'. -/
def entryBackCard : Claim7 := { stood := { row := entryBackRow, standIns := [], harness := (true, "85524f030b3aaf995f0f019bd7e1a3bab04bffa96ea9a552f668c45c66e001ea"), looks := true }, kinds := [], alts := [], laidByText := true, laidKinds := [.data, .data, .data, .data, .sentinel, .sentinel, .pinned], laidTests := true, laidLooks := .later }
def EntryBackCardSaid : Prop := Claim7.holds Tryz.pinned (.plain (OpenSpec.ofChange entryBackSpec)) entryBackCard

/-- THE TIED CARD OF 'twinkeeplaw9.EntryFolds'. -/
def entryFoldsCard : Claim7 := { stood := { row := entryFoldsRow, standIns := [], harness := (true, "85524f030b3aaf995f0f019bd7e1a3bab04bffa96ea9a552f668c45c66e001ea"), looks := true }, kinds := [], alts := [], laidByText := true, laidKinds := [.data, .data, .data, .data, .sentinel, .sentinel, .pinned], laidTests := true, laidLooks := .later }
def EntryFoldsCardSaid : Prop := Claim7.holds Tryz.pinned (.plain (OpenSpec.ofChange entryFoldsSpec)) entryFoldsCard

/-- THE TIED CARD OF 'twinkeeplaw9.EntryTwice'. -/
def entryTwiceCard : Claim7 := { stood := { row := entryTwiceRow, standIns := [], harness := (true, "85524f030b3aaf995f0f019bd7e1a3bab04bffa96ea9a552f668c45c66e001ea"), looks := true }, kinds := [], alts := [], laidByText := true, laidKinds := [.data, .data, .data, .data, .sentinel, .sentinel, .pinned], laidTests := true, laidLooks := .later }
def EntryTwiceCardSaid : Prop := Claim7.holds Tryz.pinned (.plain (OpenSpec.ofChange entryTwiceSpec)) entryTwiceCard

/-- THE SECOND FORM's CARD OF 'twinkeeplaw10.LogMany'. -/
def logManyUptoCard : Claim7 := { stood := { row := logManyUptoRow, standIns := [], harness := (true, "85524f030b3aaf995f0f019bd7e1a3bab04bffa96ea9a552f668c45c66e001ea"), looks := true }, kinds := [], alts := [], laidByText := true, laidKinds := [.data, .data, .data, .data, .sentinel, .sentinel, .pinned], laidTests := true, laidLooks := .later }
def LogManyUptoCardSaid : Prop := Claim7.holds Tryz.pinned (.plain (OpenSpec.upto logManySpec)) logManyUptoCard

/-- THE SECOND FORM's CARD OF 'twinkeeplaw10.LogAsks'. -/
def logAsksUptoCard : Claim7 := { stood := { row := logAsksUptoRow, standIns := [], harness := (true, "85524f030b3aaf995f0f019bd7e1a3bab04bffa96ea9a552f668c45c66e001ea"), looks := true }, kinds := [], alts := [], laidByText := true, laidKinds := [.data, .data, .data, .data, .sentinel, .sentinel, .pinned], laidTests := true, laidLooks := .later }
def LogAsksUptoCardSaid : Prop := Claim7.holds Tryz.pinned (.plain (OpenSpec.upto logAsksSpec)) logAsksUptoCard

/-- THE SECOND FORM's CARD OF 'twinkeeplaw10.LogTorn'. -/
def logTornUptoCard : Claim7 := { stood := { row := logTornUptoRow, standIns := [], harness := (true, "85524f030b3aaf995f0f019bd7e1a3bab04bffa96ea9a552f668c45c66e001ea"), looks := true }, kinds := [], alts := [], laidByText := true, laidKinds := [.data, .data, .data, .data, .sentinel, .sentinel, .pinned], laidTests := true, laidLooks := .later }
def LogTornUptoCardSaid : Prop := Claim7.holds Tryz.pinned (.plain (OpenSpec.upto logTornSpec)) logTornUptoCard

/-- THE SECOND FORM's CARD OF 'twinkeeplaw10.LogTurned'. -/
def logTurnedUptoCard : Claim7 := { stood := { row := logTurnedUptoRow, standIns := [], harness := (true, "85524f030b3aaf995f0f019bd7e1a3bab04bffa96ea9a552f668c45c66e001ea"), looks := true }, kinds := [], alts := [], laidByText := true, laidKinds := [.data, .data, .data, .data, .sentinel, .sentinel, .pinned], laidTests := true, laidLooks := .later }
def LogTurnedUptoCardSaid : Prop := Claim7.holds Tryz.pinned (.plain (OpenSpec.upto logTurnedSpec)) logTurnedUptoCard

/-- THE SECOND FORM's CARD OF 'twinkeeplaw10.LogMeets'. -/
def logMeetsUptoCard : Claim7 := { stood := { row := logMeetsUptoRow, standIns := [], harness := (true, "85524f030b3aaf995f0f019bd7e1a3bab04bffa96ea9a552f668c45c66e001ea"), looks := true }, kinds := [], alts := [], laidByText := true, laidKinds := [.data, .data, .data, .data, .sentinel, .sentinel, .pinned], laidTests := true, laidLooks := .later }
def LogMeetsUptoCardSaid : Prop := Claim7.holds Tryz.pinned (.plain (OpenSpec.upto logMeetsSpec)) logMeetsUptoCard

/-- THE SECOND FORM's CARD OF 'twinkeeplaw10.LogMore'. -/
def logMoreUptoCard : Claim7 := { stood := { row := logMoreUptoRow, standIns := [], harness := (true, "85524f030b3aaf995f0f019bd7e1a3bab04bffa96ea9a552f668c45c66e001ea"), looks := true }, kinds := [], alts := [], laidByText := true, laidKinds := [.data, .data, .data, .data, .sentinel, .sentinel, .pinned], laidTests := true, laidLooks := .later }
def LogMoreUptoCardSaid : Prop := Claim7.holds Tryz.pinned (.plain (OpenSpec.upto logMoreSpec)) logMoreUptoCard

/-- THE SECOND FORM's CARD OF 'twinkeeplaw9.EntryRules'. -/
def entryRulesUptoCard : Claim7 := { stood := { row := entryRulesUptoRow, standIns := [], harness := (true, "85524f030b3aaf995f0f019bd7e1a3bab04bffa96ea9a552f668c45c66e001ea"), looks := true }, kinds := [], alts := [], laidByText := true, laidKinds := [.data, .data, .data, .data, .sentinel, .sentinel, .pinned], laidTests := true, laidLooks := .later }
def EntryRulesUptoCardSaid : Prop := Claim7.holds Tryz.pinned (.plain (OpenSpec.upto entryRulesSpec)) entryRulesUptoCard

/-- THE SECOND FORM's CARD OF 'twinkeeplaw9.EntryAsks'. -/
def entryAsksUptoCard : Claim7 := { stood := { row := entryAsksUptoRow, standIns := [], harness := (true, "85524f030b3aaf995f0f019bd7e1a3bab04bffa96ea9a552f668c45c66e001ea"), looks := true }, kinds := [], alts := [], laidByText := true, laidKinds := [.data, .data, .data, .data, .sentinel, .sentinel, .pinned], laidTests := true, laidLooks := .later }
def EntryAsksUptoCardSaid : Prop := Claim7.holds Tryz.pinned (.plain (OpenSpec.upto entryAsksSpec)) entryAsksUptoCard

/-- THE SECOND FORM's CARD OF 'twinkeeplaw9.EntryBack'. -/
def entryBackUptoCard : Claim7 := { stood := { row := entryBackUptoRow, standIns := [], harness := (true, "85524f030b3aaf995f0f019bd7e1a3bab04bffa96ea9a552f668c45c66e001ea"), looks := true }, kinds := [], alts := [], laidByText := true, laidKinds := [.data, .data, .data, .data, .sentinel, .sentinel, .pinned], laidTests := true, laidLooks := .later }
def EntryBackUptoCardSaid : Prop := Claim7.holds Tryz.pinned (.plain (OpenSpec.upto entryBackSpec)) entryBackUptoCard

/-- THE SECOND FORM's CARD OF 'twinkeeplaw9.EntryFolds'. -/
def entryFoldsUptoCard : Claim7 := { stood := { row := entryFoldsUptoRow, standIns := [], harness := (true, "85524f030b3aaf995f0f019bd7e1a3bab04bffa96ea9a552f668c45c66e001ea"), looks := true }, kinds := [], alts := [], laidByText := true, laidKinds := [.data, .data, .data, .data, .sentinel, .sentinel, .pinned], laidTests := true, laidLooks := .later }
def EntryFoldsUptoCardSaid : Prop := Claim7.holds Tryz.pinned (.plain (OpenSpec.upto entryFoldsSpec)) entryFoldsUptoCard

/-- THE SECOND FORM's CARD OF 'twinkeeplaw9.EntryTwice'. -/
def entryTwiceUptoCard : Claim7 := { stood := { row := entryTwiceUptoRow, standIns := [], harness := (true, "85524f030b3aaf995f0f019bd7e1a3bab04bffa96ea9a552f668c45c66e001ea"), looks := true }, kinds := [], alts := [], laidByText := true, laidKinds := [.data, .data, .data, .data, .sentinel, .sentinel, .pinned], laidTests := true, laidLooks := .later }
def EntryTwiceUptoCardSaid : Prop := Claim7.holds Tryz.pinned (.plain (OpenSpec.upto entryTwiceSpec)) entryTwiceUptoCard
end Rows
end Go.Proofs.YtlhbidbdmdcdeaaGreatDoor
