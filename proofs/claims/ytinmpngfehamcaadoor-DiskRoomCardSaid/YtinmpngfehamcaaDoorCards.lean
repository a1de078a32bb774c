/-
  DERIVED. GIVEN WITH THE SEED: THE CARDS: each row of YtinmpngfehamcaaDoorRows.lean that lists a variable, with what it lists TIED to the program's text (the seventh form; the later family's looks); each row that meets fmt, with fmt's text TOLD by the authors' own Lean function (tested against real Go, not proved from fmt's source: count such statements apart). THE CARD IS WHAT COUNTS. Prove the row's statement (the work); the ties are given (YtinmpngfehamcaaDoorTie.lean); close each card by the builder's one call (the guide's Derived/Test/ToyasCard.lean, 'card_holds'). Laid BY PROGRAM, IN A SANDBOX (cutbox-door.mjs). By AI agents, Wed Nov 11 2026. No macro, syntax, notation, axiom, sorry.
-/
import Derived.Test.YtinmpngfehamcaaDoorRows
import GoSem.ClaimSeven
namespace Go.Proofs.YtinmpngfehamcaaDoor
namespace Rows

/-- THE TIED CARD OF 'twinkeeplaw11.DiskKeeps'. -/
def diskKeepsCard : Claim7 := { stood := { row := diskKeepsRow, standIns := [], harness := (true, "ffbf139a25768fbf683830811fce093505d911863b9e142e567cd4c5031b10e0"), looks := false }, kinds := [], alts := [], laidByText := true, laidKinds := [.data, .pinned], laidTests := true, laidLooks := .later }
def DiskKeepsCardSaid : Prop := Claim7.holds Tryd.pinned (.plain (OpenSpec.ofChange diskKeepsSpec)) diskKeepsCard

/-- THE TIED CARD OF 'twinkeeplaw11.DiskCuts'. -/
def diskCutsCard : Claim7 := { stood := { row := diskCutsRow, standIns := [], harness := (true, "ffbf139a25768fbf683830811fce093505d911863b9e142e567cd4c5031b10e0"), looks := false }, kinds := [], alts := [], laidByText := true, laidKinds := [.data, .pinned], laidTests := true, laidLooks := .later }
def DiskCutsCardSaid : Prop := Claim7.holds Tryd.pinned (.plain (OpenSpec.ofChange diskCutsSpec)) diskCutsCard

/-- THE TIED CARD OF 'twinkeeplaw11.DiskNames'. -/
def diskNamesCard : Claim7 := { stood := { row := diskNamesRow, standIns := [], harness := (true, "ffbf139a25768fbf683830811fce093505d911863b9e142e567cd4c5031b10e0"), looks := false }, kinds := [], alts := [], laidByText := true, laidKinds := [.data, .pinned], laidTests := true, laidLooks := .later }
def DiskNamesCardSaid : Prop := Claim7.holds Tryd.pinned (.plain (OpenSpec.ofChange diskNamesSpec)) diskNamesCard

/-- THE TIED CARD OF 'twinkeeplaw11.DiskRoom'. -/
def diskRoomCard : Claim7 := { stood := { row := diskRoomRow, standIns := [], harness := (true, "ffbf139a25768fbf683830811fce093505d911863b9e142e567cd4c5031b10e0"), looks := false }, kinds := [], alts := [], laidByText := true, laidKinds := [.data, .pinned], laidTests := true, laidLooks := .later }
def DiskRoomCardSaid : Prop := Claim7.holds Tryd.pinned (.plain (OpenSpec.ofChange diskRoomSpec)) diskRoomCard

/-- THE SECOND FORM's CARD OF 'twinkeeplaw11.DiskKeeps'. -/
def diskKeepsUptoCard : Claim7 := { stood := { row := diskKeepsUptoRow, standIns := [], harness := (true, "ffbf139a25768fbf683830811fce093505d911863b9e142e567cd4c5031b10e0"), looks := false }, kinds := [], alts := [], laidByText := true, laidKinds := [.data, .pinned], laidTests := true, laidLooks := .later }
def DiskKeepsUptoCardSaid : Prop := Claim7.holds Tryd.pinned (.plain (OpenSpec.upto diskKeepsSpec)) diskKeepsUptoCard

/-- THE SECOND FORM's CARD OF 'twinkeeplaw11.DiskCuts'. -/
def diskCutsUptoCard : Claim7 := { stood := { row := diskCutsUptoRow, standIns := [], harness := (true, "ffbf139a25768fbf683830811fce093505d911863b9e142e567cd4c5031b10e0"), looks := false }, kinds := [], alts := [], laidByText := true, laidKinds := [.data, .pinned], laidTests := true, laidLooks := .later }
def DiskCutsUptoCardSaid : Prop := Claim7.holds Tryd.pinned (.plain (OpenSpec.upto diskCutsSpec)) diskCutsUptoCard

/-- THE SECOND FORM's CARD OF 'twinkeeplaw11.DiskNames'. -/
def diskNamesUptoCard : Claim7 := { stood := { row := diskNamesUptoRow, standIns := [], harness := (true, "ffbf139a25768fbf683830811fce093505d911863b9e142e567cd4c5031b10e0"), looks := false }, kinds := [], alts := [], laidByText := true, laidKinds := [.data, .pinned], laidTests := true, laidLooks := .later }
def DiskNamesUptoCardSaid : Prop := Claim7.holds Tryd.pinned (.plain (OpenSpec.upto diskNamesSpec)) diskNamesUptoCard

/-- THE SECOND FORM's CARD OF 'twinkeeplaw11.DiskRoom'. -/
def diskRoomUptoCard : Claim7 := { stood := { row := diskRoomUptoRow, standIns := [], harness := (true, "ffbf139a25768fbf683830811fce093505d911863b9e142e567cd4c5031b10e0"), looks := false }, kinds := [], alts := [], laidByText := true, laidKinds := [.data, .pinned], laidTests := true, laidLooks := .later }
def DiskRoomUptoCardSaid : Prop := Claim7.holds Tryd.pinned (.plain (OpenSpec.upto diskRoomSpec)) diskRoomUptoCard
end Rows
end Go.Proofs.YtinmpngfehamcaaDoor
