/-
  DERIVED. GIVEN WITH THE SEED: THE CARDS: each row of YtkifcchcofdkaaaDoorRows.lean that lists a variable, with what it lists TIED to the program's text (the seventh form; the later family's looks); each row that meets fmt, with fmt's text TOLD by the authors' own Lean function (tested against real Go, not proved from fmt's source: count such statements apart). THE CARD IS WHAT COUNTS. Prove the row's statement (the work); the ties are given (YtkifcchcofdkaaaDoorTie.lean); close each card by the builder's one call (the guide's Derived/Test/ToyasCard.lean, 'card_holds'). Laid BY PROGRAM, IN A SANDBOX (cutbox-door.mjs). By AI agents, Wed Nov 11 2026. No macro, syntax, notation, axiom, sorry.
-/
import Derived.Test.YtkifcchcofdkaaaDoorRows
import GoSem.ClaimSeven
namespace Go.Proofs.YtkifcchcofdkaaaDoor
namespace Rows

/-- THE TIED CARD OF 'twinkeeplaw5.PolicyAges'. -/
def policyAgesCard : Claim7 := { stood := { row := policyAgesRow, standIns := [], harness := (true, "770c47f076b0507b93cbb3ffe3a16e16bfbe4e54ae98e7ed023fe4b3f87ff378"), looks := true }, kinds := [], alts := [], laidByText := true, laidKinds := [.data, .data, .data, .data, .sentinel, .sentinel, .pinned], laidTests := true, laidLooks := .later }
def PolicyAgesCardSaid : Prop := Claim7.holds Tryd.pinned (.plain (OpenSpec.ofChange policyAgesSpec)) policyAgesCard

/-- THE TIED CARD OF 'twinkeeplaw5.PolicyBack'. -/
def policyBackCard : Claim7 := { stood := { row := policyBackRow, standIns := [], harness := (true, "770c47f076b0507b93cbb3ffe3a16e16bfbe4e54ae98e7ed023fe4b3f87ff378"), looks := true }, kinds := [], alts := [], laidByText := true, laidKinds := [.data, .data, .data, .data, .sentinel, .sentinel, .pinned], laidTests := true, laidLooks := .later }
def PolicyBackCardSaid : Prop := Claim7.holds Tryd.pinned (.plain (OpenSpec.ofChange policyBackSpec)) policyBackCard

/-- THE TIED CARD OF 'twinkeeplaw5.PolicyOrders'. -/
def policyOrdersCard : Claim7 := { stood := { row := policyOrdersRow, standIns := [], harness := (true, "770c47f076b0507b93cbb3ffe3a16e16bfbe4e54ae98e7ed023fe4b3f87ff378"), looks := true }, kinds := [], alts := [], laidByText := true, laidKinds := [.data, .data, .data, .data, .sentinel, .sentinel, .pinned], laidTests := true, laidLooks := .later }
def PolicyOrdersCardSaid : Prop := Claim7.holds Tryd.pinned (.plain (OpenSpec.ofChange policyOrdersSpec)) policyOrdersCard

/-- THE TIED CARD OF 'twinkeeplaw5.PolicyLines'. -/
def policyLinesCard : Claim7 := { stood := { row := policyLinesRow, standIns := [], harness := (true, "770c47f076b0507b93cbb3ffe3a16e16bfbe4e54ae98e7ed023fe4b3f87ff378"), looks := true }, kinds := [], alts := [], laidByText := true, laidKinds := [.data, .data, .data, .data, .sentinel, .sentinel, .pinned], laidTests := true, laidLooks := .later }
def PolicyLinesCardSaid : Prop := Claim7.holds Tryd.pinned (.plain (OpenSpec.ofChange policyLinesSpec)) policyLinesCard

/-- THE SECOND FORM's CARD OF 'twinkeeplaw5.PolicyAges'. -/
def policyAgesUptoCard : Claim7 := { stood := { row := policyAgesUptoRow, standIns := [], harness := (true, "770c47f076b0507b93cbb3ffe3a16e16bfbe4e54ae98e7ed023fe4b3f87ff378"), looks := true }, kinds := [], alts := [], laidByText := true, laidKinds := [.data, .data, .data, .data, .sentinel, .sentinel, .pinned], laidTests := true, laidLooks := .later }
def PolicyAgesUptoCardSaid : Prop := Claim7.holds Tryd.pinned (.plain (OpenSpec.upto policyAgesSpec)) policyAgesUptoCard

/-- THE SECOND FORM's CARD OF 'twinkeeplaw5.PolicyBack'. -/
def policyBackUptoCard : Claim7 := { stood := { row := policyBackUptoRow, standIns := [], harness := (true, "770c47f076b0507b93cbb3ffe3a16e16bfbe4e54ae98e7ed023fe4b3f87ff378"), looks := true }, kinds := [], alts := [], laidByText := true, laidKinds := [.data, .data, .data, .data, .sentinel, .sentinel, .pinned], laidTests := true, laidLooks := .later }
def PolicyBackUptoCardSaid : Prop := Claim7.holds Tryd.pinned (.plain (OpenSpec.upto policyBackSpec)) policyBackUptoCard

/-- THE SECOND FORM's CARD OF 'twinkeeplaw5.PolicyOrders'. -/
def policyOrdersUptoCard : Claim7 := { stood := { row := policyOrdersUptoRow, standIns := [], harness := (true, "770c47f076b0507b93cbb3ffe3a16e16bfbe4e54ae98e7ed023fe4b3f87ff378"), looks := true }, kinds := [], alts := [], laidByText := true, laidKinds := [.data, .data, .data, .data, .sentinel, .sentinel, .pinned], laidTests := true, laidLooks := .later }
def PolicyOrdersUptoCardSaid : Prop := Claim7.holds Tryd.pinned (.plain (OpenSpec.upto policyOrdersSpec)) policyOrdersUptoCard

/-- THE SECOND FORM's CARD OF 'twinkeeplaw5.PolicyLines'. -/
def policyLinesUptoCard : Claim7 := { stood := { row := policyLinesUptoRow, standIns := [], harness := (true, "770c47f076b0507b93cbb3ffe3a16e16bfbe4e54ae98e7ed023fe4b3f87ff378"), looks := true }, kinds := [], alts := [], laidByText := true, laidKinds := [.data, .data, .data, .data, .sentinel, .sentinel, .pinned], laidTests := true, laidLooks := .later }
def PolicyLinesUptoCardSaid : Prop := Claim7.holds Tryd.pinned (.plain (OpenSpec.upto policyLinesSpec)) policyLinesUptoCard
end Rows
end Go.Proofs.YtkifcchcofdkaaaDoor
