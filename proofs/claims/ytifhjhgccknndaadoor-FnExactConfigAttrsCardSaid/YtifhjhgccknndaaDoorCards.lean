/-
  DERIVED. GIVEN WITH THE SEED: THE CARDS: each row of YtifhjhgccknndaaDoorRows.lean that lists a variable, with what it lists TIED to the program's text (the seventh form; the later family's looks); each row that meets fmt, with fmt's text TOLD by the authors' own Lean function (tested against real Go, not proved from fmt's source: count such statements apart). THE CARD IS WHAT COUNTS. Prove the row's statement (the work); the ties are given (YtifhjhgccknndaaDoorTie.lean); close each card by the builder's one call (the guide's Derived/Test/ToyasCard.lean, 'card_holds'). Laid BY PROGRAM, IN A SANDBOX (cutbox-door.mjs). By AI agents, Wed Nov 11 2026. No macro, syntax, notation, axiom, sorry.
-/
import Derived.Test.YtifhjhgccknndaaDoorRows
import GoSem.ClaimSeven
namespace Go.Proofs.YtifhjhgccknndaaDoor
namespace Rows

/-- THE TIED CARD OF 'laws.FnExactIsStorable'. -/
def fnExactIsStorableCard : Claim7 := { stood := { row := fnExactIsStorableRow, standIns := [], harness := (true, "cd7358fb6980853f36a42d538879dfa8891ad82f496a0397efd2fc03125e8f31"), looks := false }, kinds := [], alts := [], laidByText := true, laidKinds := [.data], laidTests := true, laidLooks := .later }
def FnExactIsStorableCardSaid : Prop := Claim7.holds Tryd.pinned (.plain (OpenSpec.ofChange fnExactIsStorableSpec)) fnExactIsStorableCard

/-- THE TIED CARD OF 'laws.FnExactConfigAttrs'. -/
def fnExactConfigAttrsCard : Claim7 := { stood := { row := fnExactConfigAttrsRow, standIns := [], harness := (true, "cd7358fb6980853f36a42d538879dfa8891ad82f496a0397efd2fc03125e8f31"), looks := false }, kinds := [], alts := [], laidByText := true, laidKinds := [.data], laidTests := true, laidLooks := .later }
def FnExactConfigAttrsCardSaid : Prop := Claim7.holds Tryd.pinned (.plain (OpenSpec.ofChange fnExactConfigAttrsSpec)) fnExactConfigAttrsCard

/-- THE TIED CARD OF 'laws.FnExactEncodeConfig'. -/
def fnExactEncodeConfigCard : Claim7 := { stood := { row := fnExactEncodeConfigRow, standIns := [], harness := (true, "cd7358fb6980853f36a42d538879dfa8891ad82f496a0397efd2fc03125e8f31"), looks := false }, kinds := [], alts := [], laidByText := true, laidKinds := [.data], laidTests := true, laidLooks := .later }
def FnExactEncodeConfigCardSaid : Prop := Claim7.holds Tryd.pinned (.plain (OpenSpec.ofChange fnExactEncodeConfigSpec)) fnExactEncodeConfigCard

/-- THE TIED CARD OF 'laws.FnExactEncodedSize'. -/
def fnExactEncodedSizeCard : Claim7 := { stood := { row := fnExactEncodedSizeRow, standIns := [], harness := (true, "cd7358fb6980853f36a42d538879dfa8891ad82f496a0397efd2fc03125e8f31"), looks := false }, kinds := [], alts := [], laidByText := true, laidKinds := [.data], laidTests := true, laidLooks := .later }
def FnExactEncodedSizeCardSaid : Prop := Claim7.holds Tryd.pinned (.plain (OpenSpec.ofChange fnExactEncodedSizeSpec)) fnExactEncodedSizeCard

/-- THE SECOND FORM's CARD OF 'laws.FnExactIsStorable'. -/
def fnExactIsStorableUptoCard : Claim7 := { stood := { row := fnExactIsStorableUptoRow, standIns := [], harness := (true, "cd7358fb6980853f36a42d538879dfa8891ad82f496a0397efd2fc03125e8f31"), looks := false }, kinds := [], alts := [], laidByText := true, laidKinds := [.data], laidTests := true, laidLooks := .later }
def FnExactIsStorableUptoCardSaid : Prop := Claim7.holds Tryd.pinned (.plain (OpenSpec.upto fnExactIsStorableSpec)) fnExactIsStorableUptoCard

/-- THE SECOND FORM's CARD OF 'laws.FnExactConfigAttrs'. -/
def fnExactConfigAttrsUptoCard : Claim7 := { stood := { row := fnExactConfigAttrsUptoRow, standIns := [], harness := (true, "cd7358fb6980853f36a42d538879dfa8891ad82f496a0397efd2fc03125e8f31"), looks := false }, kinds := [], alts := [], laidByText := true, laidKinds := [.data], laidTests := true, laidLooks := .later }
def FnExactConfigAttrsUptoCardSaid : Prop := Claim7.holds Tryd.pinned (.plain (OpenSpec.upto fnExactConfigAttrsSpec)) fnExactConfigAttrsUptoCard

/-- THE SECOND FORM's CARD OF 'laws.FnExactEncodeConfig'. -/
def fnExactEncodeConfigUptoCard : Claim7 := { stood := { row := fnExactEncodeConfigUptoRow, standIns := [], harness := (true, "cd7358fb6980853f36a42d538879dfa8891ad82f496a0397efd2fc03125e8f31"), looks := false }, kinds := [], alts := [], laidByText := true, laidKinds := [.data], laidTests := true, laidLooks := .later }
def FnExactEncodeConfigUptoCardSaid : Prop := Claim7.holds Tryd.pinned (.plain (OpenSpec.upto fnExactEncodeConfigSpec)) fnExactEncodeConfigUptoCard

/-- THE SECOND FORM's CARD OF 'laws.FnExactEncodedSize'. -/
def fnExactEncodedSizeUptoCard : Claim7 := { stood := { row := fnExactEncodedSizeUptoRow, standIns := [], harness := (true, "cd7358fb6980853f36a42d538879dfa8891ad82f496a0397efd2fc03125e8f31"), looks := false }, kinds := [], alts := [], laidByText := true, laidKinds := [.data], laidTests := true, laidLooks := .later }
def FnExactEncodedSizeUptoCardSaid : Prop := Claim7.holds Tryd.pinned (.plain (OpenSpec.upto fnExactEncodedSizeSpec)) fnExactEncodedSizeUptoCard
end Rows
end Go.Proofs.YtifhjhgccknndaaDoor
