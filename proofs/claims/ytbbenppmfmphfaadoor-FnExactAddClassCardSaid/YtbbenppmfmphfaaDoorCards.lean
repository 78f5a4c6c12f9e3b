/-
  DERIVED. GIVEN WITH THE SEED: THE CARDS: each row of YtbbenppmfmphfaaDoorRows.lean that lists a variable, with what it lists TIED to the program's text (the seventh form; the later family's looks); each row that meets fmt, with fmt's text TOLD by the authors' own Lean function (tested against real Go, not proved from fmt's source: count such statements apart). THE CARD IS WHAT COUNTS. Prove the row's statement (the work); the ties are given (YtbbenppmfmphfaaDoorTie.lean); close each card by the builder's one call (the guide's Derived/Test/ToyasCard.lean, 'card_holds'). Laid BY PROGRAM, IN A SANDBOX (cutbox-door.mjs). By AI agents, Wed Nov 11 2026. No macro, syntax, notation, axiom, sorry.
-/
import Derived.Test.YtbbenppmfmphfaaDoorRows
import GoSem.ClaimSeven
namespace Go.Proofs.YtbbenppmfmphfaaDoor
namespace Rows

/-- THE TIED CARD OF 'laws.FnExactAddClass'. -/
def fnExactAddClassCard : Claim7 := { stood := { row := fnExactAddClassRow, standIns := [], harness := (true, "1205cee5defc6beb1d73a8c6771f485836a82aad90d1e85aedccf27f5cdb6c74"), looks := false }, kinds := [], alts := [], laidByText := true, laidKinds := [.data], laidTests := true, laidLooks := .later }
def FnExactAddClassCardSaid : Prop := Claim7.holds Tryd.pinned (.plain (OpenSpec.ofChange fnExactAddClassSpec)) fnExactAddClassCard

/-- THE TIED CARD OF 'laws.FnExactOrderConfig'. -/
def fnExactOrderConfigCard : Claim7 := { stood := { row := fnExactOrderConfigRow, standIns := [], harness := (true, "1205cee5defc6beb1d73a8c6771f485836a82aad90d1e85aedccf27f5cdb6c74"), looks := false }, kinds := [], alts := [], laidByText := true, laidKinds := [.data], laidTests := true, laidLooks := .later }
def FnExactOrderConfigCardSaid : Prop := Claim7.holds Tryd.pinned (.plain (OpenSpec.ofChange fnExactOrderConfigSpec)) fnExactOrderConfigCard

/-- THE SECOND FORM's CARD OF 'laws.FnExactAddClass'. -/
def fnExactAddClassUptoCard : Claim7 := { stood := { row := fnExactAddClassUptoRow, standIns := [], harness := (true, "1205cee5defc6beb1d73a8c6771f485836a82aad90d1e85aedccf27f5cdb6c74"), looks := false }, kinds := [], alts := [], laidByText := true, laidKinds := [.data], laidTests := true, laidLooks := .later }
def FnExactAddClassUptoCardSaid : Prop := Claim7.holds Tryd.pinned (.plain (OpenSpec.upto fnExactAddClassSpec)) fnExactAddClassUptoCard

/-- THE SECOND FORM's CARD OF 'laws.FnExactOrderConfig'. -/
def fnExactOrderConfigUptoCard : Claim7 := { stood := { row := fnExactOrderConfigUptoRow, standIns := [], harness := (true, "1205cee5defc6beb1d73a8c6771f485836a82aad90d1e85aedccf27f5cdb6c74"), looks := false }, kinds := [], alts := [], laidByText := true, laidKinds := [.data], laidTests := true, laidLooks := .later }
def FnExactOrderConfigUptoCardSaid : Prop := Claim7.holds Tryd.pinned (.plain (OpenSpec.upto fnExactOrderConfigSpec)) fnExactOrderConfigUptoCard
end Rows
end Go.Proofs.YtbbenppmfmphfaaDoor
