/-
  DERIVED. GIVEN WITH THE SEED: THE CARDS: each row of YtnamgkiealfffaaDoorRows.lean that lists a variable, with what it lists TIED to the program's text (the seventh form; the later family's looks); each row that meets fmt, with fmt's text TOLD by the authors' own Lean function (tested against real Go, not proved from fmt's source: count such statements apart). THE CARD IS WHAT COUNTS. Prove the row's statement (the work); the ties are given (YtnamgkiealfffaaDoorTie.lean); close each card by the builder's one call (the guide's Derived/Test/ToyasCard.lean, 'card_holds'). Laid BY PROGRAM, IN A SANDBOX (cutbox-door.mjs). By AI agents, Wed Nov 11 2026. No macro, syntax, notation, axiom, sorry.
-/
import Derived.Test.YtnamgkiealfffaaDoorRows
import GoSem.ClaimSeven
namespace Go.Proofs.YtnamgkiealfffaaDoor
namespace Rows

/-- THE TIED CARD OF 'laws.FnExactClassHead'. -/
def fnExactClassHeadCard : Claim7 := { stood := { row := fnExactClassHeadRow, standIns := [], harness := (true, "0765a96a7776686c9fdc738f5107adbe240281cd6f974a9d965e34759b728a1c"), looks := true }, kinds := [], alts := [], laidByText := true, laidKinds := [.data, .data, .data], laidTests := true, laidLooks := .later }
def FnExactClassHeadCardSaid : Prop := Claim7.holds Tryd.pinned (.plain (OpenSpec.ofChange fnExactClassHeadSpec)) fnExactClassHeadCard

/-- THE TIED CARD OF 'laws.FnExactFilterLine'. -/
def fnExactFilterLineCard : Claim7 := { stood := { row := fnExactFilterLineRow, standIns := [], harness := (true, "0765a96a7776686c9fdc738f5107adbe240281cd6f974a9d965e34759b728a1c"), looks := true }, kinds := [], alts := [], laidByText := true, laidKinds := [.data, .data, .data], laidTests := true, laidLooks := .later }
def FnExactFilterLineCardSaid : Prop := Claim7.holds Tryd.pinned (.plain (OpenSpec.ofChange fnExactFilterLineSpec)) fnExactFilterLineCard

/-- THE TIED CARD OF 'laws.FnExactParseFault'. -/
def fnExactParseFaultCard : Claim7 := { stood := { row := fnExactParseFaultRow, standIns := [], harness := (true, "0765a96a7776686c9fdc738f5107adbe240281cd6f974a9d965e34759b728a1c"), looks := true }, kinds := [], alts := [], laidByText := true, laidKinds := [.data, .data, .data, .sentinel, .sentinel, .data], laidTests := true, laidLooks := .later }
def FnExactParseFaultCardSaid : Prop := Claim7.holds Tryd.pinned (.plain (OpenSpec.ofChange fnExactParseFaultSpec)) fnExactParseFaultCard

/-- THE SECOND FORM's CARD OF 'laws.FnExactClassHead'. -/
def fnExactClassHeadUptoCard : Claim7 := { stood := { row := fnExactClassHeadUptoRow, standIns := [], harness := (true, "0765a96a7776686c9fdc738f5107adbe240281cd6f974a9d965e34759b728a1c"), looks := true }, kinds := [], alts := [], laidByText := true, laidKinds := [.data, .data, .data], laidTests := true, laidLooks := .later }
def FnExactClassHeadUptoCardSaid : Prop := Claim7.holds Tryd.pinned (.plain (OpenSpec.upto fnExactClassHeadSpec)) fnExactClassHeadUptoCard

/-- THE SECOND FORM's CARD OF 'laws.FnExactFilterLine'. -/
def fnExactFilterLineUptoCard : Claim7 := { stood := { row := fnExactFilterLineUptoRow, standIns := [], harness := (true, "0765a96a7776686c9fdc738f5107adbe240281cd6f974a9d965e34759b728a1c"), looks := true }, kinds := [], alts := [], laidByText := true, laidKinds := [.data, .data, .data], laidTests := true, laidLooks := .later }
def FnExactFilterLineUptoCardSaid : Prop := Claim7.holds Tryd.pinned (.plain (OpenSpec.upto fnExactFilterLineSpec)) fnExactFilterLineUptoCard

/-- THE SECOND FORM's CARD OF 'laws.FnExactParseFault'. -/
def fnExactParseFaultUptoCard : Claim7 := { stood := { row := fnExactParseFaultUptoRow, standIns := [], harness := (true, "0765a96a7776686c9fdc738f5107adbe240281cd6f974a9d965e34759b728a1c"), looks := true }, kinds := [], alts := [], laidByText := true, laidKinds := [.data, .data, .data, .sentinel, .sentinel, .data], laidTests := true, laidLooks := .later }
def FnExactParseFaultUptoCardSaid : Prop := Claim7.holds Tryd.pinned (.plain (OpenSpec.upto fnExactParseFaultSpec)) fnExactParseFaultUptoCard
end Rows
end Go.Proofs.YtnamgkiealfffaaDoor
