/-
  DERIVED. GIVEN WITH THE SEED: THE CARDS: each row of YtbohejffelipoaaGreatDoorRows.lean that lists a variable, with what it lists TIED to the program's text (the seventh form; the later family's looks); each row that meets fmt, with fmt's text TOLD by the authors' own Lean function (tested against real Go, not proved from fmt's source: count such statements apart). THE CARD IS WHAT COUNTS. Prove the row's statement (the work); the ties are given (YtbohejffelipoaaGreatDoorTie.lean); close each card by the builder's one call (the guide's Derived/Test/ToyasCard.lean, 'card_holds'). Laid BY PROGRAM, IN A SANDBOX (cutbox-door.mjs). By AI agents, Wed Nov 11 2026. No macro, syntax, notation, axiom, sorry.
-/
import Derived.Test.YtbohejffelipoaaGreatDoorRows
import GoSem.ClaimSeven
namespace Go.Proofs.YtbohejffelipoaaGreatDoor
namespace Rows

/-- THE TIED CARD OF 'twinkeeplaw12.StoreRaw'. -/
def storeRawCard : Claim7 := { stood := { row := storeRawRow, standIns := [], harness := (true, "8905f1f5100afb40c298ba074b21aacf81d97ff26168e12612f28a9452c4baca"), looks := true }, kinds := [], alts := [], laidByText := true, laidKinds := [.data, .data, .data, .data, .sentinel, .sentinel, .pinned], laidTests := true, laidLooks := .later }
def StoreRawCardSaid : Prop := Claim7.holds Tryz.pinned (.plain (OpenSpec.ofChange storeRawSpec)) storeRawCard

/-- THE TIED CARD OF 'twinkeeplaw12.StoreRecovers'. -/
def storeRecoversCard : Claim7 := { stood := { row := storeRecoversRow, standIns := [], harness := (true, "8905f1f5100afb40c298ba074b21aacf81d97ff26168e12612f28a9452c4baca"), looks := true }, kinds := [], alts := [], laidByText := true, laidKinds := [.data, .data, .data, .data, .sentinel, .sentinel, .pinned], laidTests := true, laidLooks := .later }
def StoreRecoversCardSaid : Prop := Claim7.holds Tryz.pinned (.plain (OpenSpec.ofChange storeRecoversSpec)) storeRecoversCard

/-- THE TIED CARD OF 'twinkeeplaw12.StoreFull'. -/
def storeFullCard : Claim7 := { stood := { row := storeFullRow, standIns := [], harness := (true, "8905f1f5100afb40c298ba074b21aacf81d97ff26168e12612f28a9452c4baca"), looks := true }, kinds := [], alts := [], laidByText := true, laidKinds := [.data, .data, .data, .data, .sentinel, .sentinel, .pinned], laidTests := true, laidLooks := .later }
def StoreFullCardSaid : Prop := Claim7.holds Tryz.pinned (.plain (OpenSpec.ofChange storeFullSpec)) storeFullCard

/-- THE TIED CARD OF 'twinkeeplaw12.StoreRules'. -/
def storeRulesCard : Claim7 := { stood := { row := storeRulesRow, standIns := [], harness := (true, "8905f1f5100afb40c298ba074b21aacf81d97ff26168e12612f28a9452c4baca"), looks := true }, kinds := [], alts := [], laidByText := true, laidKinds := [.data, .data, .data, .data, .sentinel, .sentinel, .pinned], laidTests := true, laidLooks := .later }
def StoreRulesCardSaid : Prop := Claim7.holds Tryz.pinned (.plain (OpenSpec.ofChange storeRulesSpec)) storeRulesCard

/-- THE SECOND FORM's CARD OF 'twinkeeplaw12.StoreRaw'. -/
def storeRawUptoCard : Claim7 := { stood := { row := storeRawUptoRow, standIns := [], harness := (true, "8905f1f5100afb40c298ba074b21aacf81d97ff26168e12612f28a9452c4baca"), looks := true }, kinds := [], alts := [], laidByText := true, laidKinds := [.data, .data, .data, .data, .sentinel, .sentinel, .pinned], laidTests := true, laidLooks := .later }
def StoreRawUptoCardSaid : Prop := Claim7.holds Tryz.pinned (.plain (OpenSpec.upto storeRawSpec)) storeRawUptoCard

/-- THE SECOND FORM's CARD OF 'twinkeeplaw12.StoreRecovers'. -/
def storeRecoversUptoCard : Claim7 := { stood := { row := storeRecoversUptoRow, standIns := [], harness := (true, "8905f1f5100afb40c298ba074b21aacf81d97ff26168e12612f28a9452c4baca"), looks := true }, kinds := [], alts := [], laidByText := true, laidKinds := [.data, .data, .data, .data, .sentinel, .sentinel, .pinned], laidTests := true, laidLooks := .later }
def StoreRecoversUptoCardSaid : Prop := Claim7.holds Tryz.pinned (.plain (OpenSpec.upto storeRecoversSpec)) storeRecoversUptoCard

/-- THE SECOND FORM's CARD OF 'twinkeeplaw12.StoreFull'. -/
def storeFullUptoCard : Claim7 := { stood := { row := storeFullUptoRow, standIns := [], harness := (true, "8905f1f5100afb40c298ba074b21aacf81d97ff26168e12612f28a9452c4baca"), looks := true }, kinds := [], alts := [], laidByText := true, laidKinds := [.data, .data, .data, .data, .sentinel, .sentinel, .pinned], laidTests := true, laidLooks := .later }
def StoreFullUptoCardSaid : Prop := Claim7.holds Tryz.pinned (.plain (OpenSpec.upto storeFullSpec)) storeFullUptoCard

/-- THE SECOND FORM's CARD OF 'twinkeeplaw12.StoreRules'. -/
def storeRulesUptoCard : Claim7 := { stood := { row := storeRulesUptoRow, standIns := [], harness := (true, "8905f1f5100afb40c298ba074b21aacf81d97ff26168e12612f28a9452c4baca"), looks := true }, kinds := [], alts := [], laidByText := true, laidKinds := [.data, .data, .data, .data, .sentinel, .sentinel, .pinned], laidTests := true, laidLooks := .later }
def StoreRulesUptoCardSaid : Prop := Claim7.holds Tryz.pinned (.plain (OpenSpec.upto storeRulesSpec)) storeRulesUptoCard
end Rows
end Go.Proofs.YtbohejffelipoaaGreatDoor
