/-
  DERIVED. GIVEN WITH THE SEED: THE CARDS: each row of YtgecidicpdobfaaDoorRows.lean that lists a variable, with what it lists TIED to the program's text (the seventh form; the later family's looks); each row that meets fmt, with fmt's text TOLD by the authors' own Lean function (tested against real Go, not proved from fmt's source: count such statements apart). THE CARD IS WHAT COUNTS. Prove the row's statement (the work); the ties are given (YtgecidicpdobfaaDoorTie.lean); close each card by the builder's one call (the guide's Derived/Test/ToyasCard.lean, 'card_holds'). Laid BY PROGRAM, IN A SANDBOX (cutbox-door.mjs). By AI agents, Wed Nov 11 2026. No macro, syntax, notation, axiom, sorry.
-/
import Derived.Test.YtgecidicpdobfaaDoorRows
import GoSem.ClaimSeven
namespace Go.Proofs.YtgecidicpdobfaaDoor
namespace Rows

/-- THE TIED CARD OF 'twinkeeplaw17.ViewSpoilt'. -/
def viewSpoiltCard : Claim7 := { stood := { row := viewSpoiltRow, standIns := [], harness := (true, "7c960ec415dd9c4dd1144209b4725eb9f24bd2f30078c4b70b494f0f6e5c07de"), looks := false }, kinds := [], alts := [], laidByText := true, laidKinds := [.data, .pinned], laidTests := true, laidLooks := .later }
def ViewSpoiltCardSaid : Prop := Claim7.holds Tryd.pinned (.plain (OpenSpec.ofChange viewSpoiltSpec)) viewSpoiltCard

/-- THE TIED CARD OF 'twinkeeplaw17.ViewAsks'. -/
def viewAsksCard : Claim7 := { stood := { row := viewAsksRow, standIns := [], harness := (true, "7c960ec415dd9c4dd1144209b4725eb9f24bd2f30078c4b70b494f0f6e5c07de"), looks := false }, kinds := [], alts := [], laidByText := true, laidKinds := [.data, .pinned], laidTests := true, laidLooks := .later }
def ViewAsksCardSaid : Prop := Claim7.holds Tryd.pinned (.plain (OpenSpec.ofChange viewAsksSpec)) viewAsksCard

/-- THE TIED CARD OF 'twinkeeplaw17.ViewOnce'. -/
def viewOnceCard : Claim7 := { stood := { row := viewOnceRow, standIns := [], harness := (true, "7c960ec415dd9c4dd1144209b4725eb9f24bd2f30078c4b70b494f0f6e5c07de"), looks := false }, kinds := [], alts := [], laidByText := true, laidKinds := [.data, .pinned], laidTests := true, laidLooks := .later }
def ViewOnceCardSaid : Prop := Claim7.holds Tryd.pinned (.plain (OpenSpec.ofChange viewOnceSpec)) viewOnceCard

/-- THE SECOND FORM's CARD OF 'twinkeeplaw17.ViewSpoilt'. -/
def viewSpoiltUptoCard : Claim7 := { stood := { row := viewSpoiltUptoRow, standIns := [], harness := (true, "7c960ec415dd9c4dd1144209b4725eb9f24bd2f30078c4b70b494f0f6e5c07de"), looks := false }, kinds := [], alts := [], laidByText := true, laidKinds := [.data, .pinned], laidTests := true, laidLooks := .later }
def ViewSpoiltUptoCardSaid : Prop := Claim7.holds Tryd.pinned (.plain (OpenSpec.upto viewSpoiltSpec)) viewSpoiltUptoCard

/-- THE SECOND FORM's CARD OF 'twinkeeplaw17.ViewAsks'. -/
def viewAsksUptoCard : Claim7 := { stood := { row := viewAsksUptoRow, standIns := [], harness := (true, "7c960ec415dd9c4dd1144209b4725eb9f24bd2f30078c4b70b494f0f6e5c07de"), looks := false }, kinds := [], alts := [], laidByText := true, laidKinds := [.data, .pinned], laidTests := true, laidLooks := .later }
def ViewAsksUptoCardSaid : Prop := Claim7.holds Tryd.pinned (.plain (OpenSpec.upto viewAsksSpec)) viewAsksUptoCard

/-- THE SECOND FORM's CARD OF 'twinkeeplaw17.ViewOnce'. -/
def viewOnceUptoCard : Claim7 := { stood := { row := viewOnceUptoRow, standIns := [], harness := (true, "7c960ec415dd9c4dd1144209b4725eb9f24bd2f30078c4b70b494f0f6e5c07de"), looks := false }, kinds := [], alts := [], laidByText := true, laidKinds := [.data, .pinned], laidTests := true, laidLooks := .later }
def ViewOnceUptoCardSaid : Prop := Claim7.holds Tryd.pinned (.plain (OpenSpec.upto viewOnceSpec)) viewOnceUptoCard
end Rows
end Go.Proofs.YtgecidicpdobfaaDoor
