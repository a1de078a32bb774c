/-
  DERIVED. GIVEN WITH THE SEED: THE CARDS: each row of YtcihabdmigpklaaGreatDoorRows.lean that lists a variable, with what it lists TIED to the program's text (the seventh form; the later family's looks); each row that meets fmt, with fmt's text TOLD by the authors' own Lean function (tested against real Go, not proved from fmt's source: count such statements apart). THE CARD IS WHAT COUNTS. Prove the row's statement (the work); the ties are given (YtcihabdmigpklaaGreatDoorTie.lean); close each card by the builder's one call (the guide's Derived/Test/ToyasCard.lean, 'card_holds'). Laid BY PROGRAM, IN A SANDBOX (cutbox-door.mjs). By AI agents, Wed Nov 11 2026. No macro, syntax, notation, axiom, sorry.
-/
import Derived.Test.YtcihabdmigpklaaGreatDoorRows
import GoSem.ClaimSeven
namespace Go.Proofs.YtcihabdmigpklaaGreatDoor
namespace Rows

/-- THE TIED CARD OF 'twinkeeplaw26.RoundsNone'. -/
def roundsNoneCard : Claim7 := { stood := { row := roundsNoneRow, standIns := [], harness := (true, "1203f8a94d614d02bdf5e2fb26f9a27588b732acfc9ee5df79d95877df0a05e1"), looks := true }, kinds := [], alts := [], laidByText := true, laidKinds := [.data, .data, .data, .data, .sentinel, .sentinel, .pinned], laidTests := true, laidLooks := .later }
def RoundsNoneCardSaid : Prop := Claim7.holds Tryz.pinned (.plain (OpenSpec.ofChange roundsNoneSpec)) roundsNoneCard

/-- THE TIED CARD OF 'twinkeeplaw26.RoundsGood'. -/
def roundsGoodCard : Claim7 := { stood := { row := roundsGoodRow, standIns := [], harness := (true, "1203f8a94d614d02bdf5e2fb26f9a27588b732acfc9ee5df79d95877df0a05e1"), looks := true }, kinds := [], alts := [], laidByText := true, laidKinds := [.data, .data, .data, .data, .sentinel, .sentinel, .pinned], laidTests := true, laidLooks := .later }
def RoundsGoodCardSaid : Prop := Claim7.holds Tryz.pinned (.plain (OpenSpec.ofChange roundsGoodSpec)) roundsGoodCard

/-- THE TIED CARD OF 'twinkeeplaw26.RoundsRules'. -/
def roundsRulesCard : Claim7 := { stood := { row := roundsRulesRow, standIns := [], harness := (true, "1203f8a94d614d02bdf5e2fb26f9a27588b732acfc9ee5df79d95877df0a05e1"), looks := true }, kinds := [], alts := [], laidByText := true, laidKinds := [.data, .data, .data, .data, .sentinel, .sentinel, .pinned], laidTests := true, laidLooks := .later }
def RoundsRulesCardSaid : Prop := Claim7.holds Tryz.pinned (.plain (OpenSpec.ofChange roundsRulesSpec)) roundsRulesCard

/-- THE TIED CARD OF 'twinkeeplaw26.RoundsWrites'. -/
def roundsWritesCard : Claim7 := { stood := { row := roundsWritesRow, standIns := [], harness := (true, "1203f8a94d614d02bdf5e2fb26f9a27588b732acfc9ee5df79d95877df0a05e1"), looks := true }, kinds := [], alts := [], laidByText := true, laidKinds := [.data, .data, .data, .data, .sentinel, .sentinel, .pinned], laidTests := true, laidLooks := .later }
def RoundsWritesCardSaid : Prop := Claim7.holds Tryz.pinned (.plain (OpenSpec.ofChange roundsWritesSpec)) roundsWritesCard

/-- THE TIED CARD OF 'twinkeeplaw26.RoundsStay'. -/
def roundsStayCard : Claim7 := { stood := { row := roundsStayRow, standIns := [], harness := (true, "1203f8a94d614d02bdf5e2fb26f9a27588b732acfc9ee5df79d95877df0a05e1"), looks := true }, kinds := [], alts := [], laidByText := true, laidKinds := [.data, .data, .data, .data, .sentinel, .sentinel, .pinned], laidTests := true, laidLooks := .later }
def RoundsStayCardSaid : Prop := Claim7.holds Tryz.pinned (.plain (OpenSpec.ofChange roundsStaySpec)) roundsStayCard

/-- THE TIED CARD OF 'twinkeeplaw26.RoundsSettle'. -/
def roundsSettleCard : Claim7 := { stood := { row := roundsSettleRow, standIns := [], harness := (true, "1203f8a94d614d02bdf5e2fb26f9a27588b732acfc9ee5df79d95877df0a05e1"), looks := true }, kinds := [], alts := [], laidByText := true, laidKinds := [.data, .data, .data, .data, .sentinel, .sentinel, .pinned], laidTests := true, laidLooks := .later }
def RoundsSettleCardSaid : Prop := Claim7.holds Tryz.pinned (.plain (OpenSpec.ofChange roundsSettleSpec)) roundsSettleCard

/-- THE SECOND FORM's CARD OF 'twinkeeplaw26.RoundsNone'. -/
def roundsNoneUptoCard : Claim7 := { stood := { row := roundsNoneUptoRow, standIns := [], harness := (true, "1203f8a94d614d02bdf5e2fb26f9a27588b732acfc9ee5df79d95877df0a05e1"), looks := true }, kinds := [], alts := [], laidByText := true, laidKinds := [.data, .data, .data, .data, .sentinel, .sentinel, .pinned], laidTests := true, laidLooks := .later }
def RoundsNoneUptoCardSaid : Prop := Claim7.holds Tryz.pinned (.plain (OpenSpec.upto roundsNoneSpec)) roundsNoneUptoCard

/-- THE SECOND FORM's CARD OF 'twinkeeplaw26.RoundsGood'. -/
def roundsGoodUptoCard : Claim7 := { stood := { row := roundsGoodUptoRow, standIns := [], harness := (true, "1203f8a94d614d02bdf5e2fb26f9a27588b732acfc9ee5df79d95877df0a05e1"), looks := true }, kinds := [], alts := [], laidByText := true, laidKinds := [.data, .data, .data, .data, .sentinel, .sentinel, .pinned], laidTests := true, laidLooks := .later }
def RoundsGoodUptoCardSaid : Prop := Claim7.holds Tryz.pinned (.plain (OpenSpec.upto roundsGoodSpec)) roundsGoodUptoCard

/-- THE SECOND FORM's CARD OF 'twinkeeplaw26.RoundsRules'. -/
def roundsRulesUptoCard : Claim7 := { stood := { row := roundsRulesUptoRow, standIns := [], harness := (true, "1203f8a94d614d02bdf5e2fb26f9a27588b732acfc9ee5df79d95877df0a05e1"), looks := true }, kinds := [], alts := [], laidByText := true, laidKinds := [.data, .data, .data, .data, .sentinel, .sentinel, .pinned], laidTests := true, laidLooks := .later }
def RoundsRulesUptoCardSaid : Prop := Claim7.holds Tryz.pinned (.plain (OpenSpec.upto roundsRulesSpec)) roundsRulesUptoCard

/-- THE SECOND FORM's CARD OF 'twinkeeplaw26.RoundsWrites'. -/
def roundsWritesUptoCard : Claim7 := { stood := { row := roundsWritesUptoRow, standIns := [], harness := (true, "1203f8a94d614d02bdf5e2fb26f9a27588b732acfc9ee5df79d95877df0a05e1"), looks := true }, kinds := [], alts := [], laidByText := true, laidKinds := [.data, .data, .data, .data, .sentinel, .sentinel, .pinned], laidTests := true, laidLooks := .later }
def RoundsWritesUptoCardSaid : Prop := Claim7.holds Tryz.pinned (.plain (OpenSpec.upto roundsWritesSpec)) roundsWritesUptoCard

/-- THE SECOND FORM's CARD OF 'twinkeeplaw26.RoundsStay'. -/
def roundsStayUptoCard : Claim7 := { stood := { row := roundsStayUptoRow, standIns := [], harness := (true, "1203f8a94d614d02bdf5e2fb26f9a27588b732acfc9ee5df79d95877df0a05e1"), looks := true }, kinds := [], alts := [], laidByText := true, laidKinds := [.data, .data, .data, .data, .sentinel, .sentinel, .pinned], laidTests := true, laidLooks := .later }
def RoundsStayUptoCardSaid : Prop := Claim7.holds Tryz.pinned (.plain (OpenSpec.upto roundsStaySpec)) roundsStayUptoCard

/-- THE SECOND FORM's CARD OF 'twinkeeplaw26.RoundsSettle'. -/
def roundsSettleUptoCard : Claim7 := { stood := { row := roundsSettleUptoRow, standIns := [], harness := (true, "1203f8a94d614d02bdf5e2fb26f9a27588b732acfc9ee5df79d95877df0a05e1"), looks := true }, kinds := [], alts := [], laidByText := true, laidKinds := [.data, .data, .data, .data, .sentinel, .sentinel, .pinned], laidTests := true, laidLooks := .later }
def RoundsSettleUptoCardSaid : Prop := Claim7.holds Tryz.pinned (.plain (OpenSpec.upto roundsSettleSpec)) roundsSettleUptoCard
end Rows
end Go.Proofs.YtcihabdmigpklaaGreatDoor
