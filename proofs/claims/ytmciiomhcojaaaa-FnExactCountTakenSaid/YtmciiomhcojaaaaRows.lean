/-
  No cell of these rows narrows 'for every input' (looked for: loops, veiled, ifaces, maps, wideKeys, modest, calm, conditions, laid).
  DERIVED. THE GIVEN ROWS OF THIS SEAT. 8 by the template 'for every input the law returns true; each argument reads behind the call as it read before'; 0 by the template 'total and deterministic' (their statements: YtmciiomhcojaaaaTotals.lean).
  GIVEN WITH THE SEED: the statements are not yours to turn. If you find one false, say at which input.
  Laid BY PROGRAM, IN A SANDBOX (cutbox-rows.mjs): the forced cells as the released guide's own fill.sh prints them over the translation f083e8881e08ea11… (all of the seat's roots in one cut). By AI agents, Wed Nov 11 2026. No macro, syntax, notation, axiom, sorry.
-/
import Derived.Test.YtmciiomhcojaaaaChecked
import GoSem.Claim
import GoSem.ClaimJoined
import GoSem.ClaimMapViews
import Derived.JoinedTies
import Derived.KernelRfl
namespace Go.Proofs.Ytmciiomhcojaaaa
/- THE CELL 'sum', in the pinned program and in every row, IS THE sha256 OF THE DUMP (.gsa) THAT YtmciiomhcojaaaaProg.lean LOADS. Nothing in Lean hashes anything: it is a label: what it is worth is what the hold of that sum in a sandbox is worth. -/
noncomputable def Try.pinned : Pinned := { name := "ytmciiomhcojaaaa", sum := "f083e8881e08ea1143567a3644b24490242672f81e485841838d595aee377e72", checked := Try.checked }
namespace Rows
def none {H : Type} : Left H := { results := [], args := [] }

/-- 'laws.FnExactFieldOf': WHATEVER THE INPUT: true; the input reads as it did. -/
def fnExactFieldOfSpec : ChangeSpec := { name := "fnExactFieldOf", fn := fun _ => fun
  | [d1, d2] => { results := [.lit (.bool true)], args := [d1, d2] }
  | _ => none }
def fnExactFieldOfRow : OpenClaim := { program := "ytmciiomhcojaaaa", sum := "f083e8881e08ea1143567a3644b24490242672f81e485841838d595aee377e72", func := "loop.example/g00838/laws.FnExactFieldOf", spec := "fnExactFieldOf", apart := false }
def FnExactFieldOfSaid : Prop := fnExactFieldOfRow.holds Try.pinned (OpenSpec.ofChange fnExactFieldOfSpec)

/-- ITS FALSE NEIGHBOUR: 'it returns false'. Refute it at one input. -/
def fnExactFieldOfWrong : ChangeSpec := { name := "fnExactFieldOf", fn := fun _ => fun
  | [d1, d2] => { results := [.lit (.bool false)], args := [d1, d2] }
  | _ => none }
def FnExactFieldOfWrongFalsely : Prop := fnExactFieldOfRow.holds Try.pinned (OpenSpec.ofChange fnExactFieldOfWrong)

/-- 'laws.FnExactSameFlow': WHATEVER THE INPUT: true; the input reads as it did. -/
def fnExactSameFlowSpec : ChangeSpec := { name := "fnExactSameFlow", fn := fun _ => fun
  | [d1, d2] => { results := [.lit (.bool true)], args := [d1, d2] }
  | _ => none }
def fnExactSameFlowRow : OpenClaim := { program := "ytmciiomhcojaaaa", sum := "f083e8881e08ea1143567a3644b24490242672f81e485841838d595aee377e72", func := "loop.example/g00838/laws.FnExactSameFlow", spec := "fnExactSameFlow", apart := false }
def FnExactSameFlowSaid : Prop := fnExactSameFlowRow.holds Try.pinned (OpenSpec.ofChange fnExactSameFlowSpec)

/-- ITS FALSE NEIGHBOUR: 'it returns false'. Refute it at one input. -/
def fnExactSameFlowWrong : ChangeSpec := { name := "fnExactSameFlow", fn := fun _ => fun
  | [d1, d2] => { results := [.lit (.bool false)], args := [d1, d2] }
  | _ => none }
def FnExactSameFlowWrongFalsely : Prop := fnExactSameFlowRow.holds Try.pinned (OpenSpec.ofChange fnExactSameFlowWrong)

/-- 'laws.FnExactFlowOf': WHATEVER THE INPUT: true; the input reads as it did. -/
def fnExactFlowOfSpec : ChangeSpec := { name := "fnExactFlowOf", fn := fun _ => fun
  | [d1, d2] => { results := [.lit (.bool true)], args := [d1, d2] }
  | _ => none }
def fnExactFlowOfRow : OpenClaim := { program := "ytmciiomhcojaaaa", sum := "f083e8881e08ea1143567a3644b24490242672f81e485841838d595aee377e72", func := "loop.example/g00838/laws.FnExactFlowOf", spec := "fnExactFlowOf", apart := false }
def FnExactFlowOfSaid : Prop := fnExactFlowOfRow.holds Try.pinned (OpenSpec.ofChange fnExactFlowOfSpec)

/-- ITS FALSE NEIGHBOUR: 'it returns false'. Refute it at one input. -/
def fnExactFlowOfWrong : ChangeSpec := { name := "fnExactFlowOf", fn := fun _ => fun
  | [d1, d2] => { results := [.lit (.bool false)], args := [d1, d2] }
  | _ => none }
def FnExactFlowOfWrongFalsely : Prop := fnExactFlowOfRow.holds Try.pinned (OpenSpec.ofChange fnExactFlowOfWrong)

/-- 'laws.FnExactFilterTakes': WHATEVER THE INPUT: true; the input reads as it did. -/
def fnExactFilterTakesSpec : ChangeSpec := { name := "fnExactFilterTakes", fn := fun _ => fun
  | [d1, d2] => { results := [.lit (.bool true)], args := [d1, d2] }
  | _ => none }
def fnExactFilterTakesRow : OpenClaim := { program := "ytmciiomhcojaaaa", sum := "f083e8881e08ea1143567a3644b24490242672f81e485841838d595aee377e72", func := "loop.example/g00838/laws.FnExactFilterTakes", spec := "fnExactFilterTakes", apart := false }
def FnExactFilterTakesSaid : Prop := fnExactFilterTakesRow.holds Try.pinned (OpenSpec.ofChange fnExactFilterTakesSpec)

/-- ITS FALSE NEIGHBOUR: 'it returns false'. Refute it at one input. -/
def fnExactFilterTakesWrong : ChangeSpec := { name := "fnExactFilterTakes", fn := fun _ => fun
  | [d1, d2] => { results := [.lit (.bool false)], args := [d1, d2] }
  | _ => none }
def FnExactFilterTakesWrongFalsely : Prop := fnExactFilterTakesRow.holds Try.pinned (OpenSpec.ofChange fnExactFilterTakesWrong)

/-- 'laws.FnExactMarkedPacket': WHATEVER THE INPUT: true; the input reads as it did. -/
def fnExactMarkedPacketSpec : ChangeSpec := { name := "fnExactMarkedPacket", fn := fun _ => fun
  | [d1, d2, d3] => { results := [.lit (.bool true)], args := [d1, d2, d3] }
  | _ => none }
def fnExactMarkedPacketRow : OpenClaim := { program := "ytmciiomhcojaaaa", sum := "f083e8881e08ea1143567a3644b24490242672f81e485841838d595aee377e72", func := "loop.example/g00838/laws.FnExactMarkedPacket", spec := "fnExactMarkedPacket", apart := false }
def FnExactMarkedPacketSaid : Prop := fnExactMarkedPacketRow.holds Try.pinned (OpenSpec.ofChange fnExactMarkedPacketSpec)

/-- ITS FALSE NEIGHBOUR: 'it returns false'. Refute it at one input. -/
def fnExactMarkedPacketWrong : ChangeSpec := { name := "fnExactMarkedPacket", fn := fun _ => fun
  | [d1, d2, d3] => { results := [.lit (.bool false)], args := [d1, d2, d3] }
  | _ => none }
def FnExactMarkedPacketWrongFalsely : Prop := fnExactMarkedPacketRow.holds Try.pinned (OpenSpec.ofChange fnExactMarkedPacketWrong)

/-- 'laws.FnExactHeaderOf': WHATEVER THE INPUT: true; the input reads as it did. -/
def fnExactHeaderOfSpec : ChangeSpec := { name := "fnExactHeaderOf", fn := fun _ => fun
  | [d] => { results := [.lit (.bool true)], args := [d] }
  | _ => none }
def fnExactHeaderOfRow : OpenClaim := { program := "ytmciiomhcojaaaa", sum := "f083e8881e08ea1143567a3644b24490242672f81e485841838d595aee377e72", func := "loop.example/g00838/laws.FnExactHeaderOf", spec := "fnExactHeaderOf", apart := false }
def FnExactHeaderOfSaid : Prop := fnExactHeaderOfRow.holds Try.pinned (OpenSpec.ofChange fnExactHeaderOfSpec)

/-- ITS FALSE NEIGHBOUR: 'it returns false'. Refute it at one input. -/
def fnExactHeaderOfWrong : ChangeSpec := { name := "fnExactHeaderOf", fn := fun _ => fun
  | [d] => { results := [.lit (.bool false)], args := [d] }
  | _ => none }
def FnExactHeaderOfWrongFalsely : Prop := fnExactHeaderOfRow.holds Try.pinned (OpenSpec.ofChange fnExactHeaderOfWrong)

/-- 'laws.FnExactCountTaken': WHATEVER THE INPUT: true; the input reads as it did. -/
def fnExactCountTakenSpec : ChangeSpec := { name := "fnExactCountTaken", fn := fun _ => fun
  | [d] => { results := [.lit (.bool true)], args := [d] }
  | _ => none }
def fnExactCountTakenRow : OpenClaim := { program := "ytmciiomhcojaaaa", sum := "f083e8881e08ea1143567a3644b24490242672f81e485841838d595aee377e72", func := "loop.example/g00838/laws.FnExactCountTaken", spec := "fnExactCountTaken", apart := false }
def FnExactCountTakenSaid : Prop := fnExactCountTakenRow.holds Try.pinned (OpenSpec.ofChange fnExactCountTakenSpec)

/-- ITS FALSE NEIGHBOUR: 'it returns false'. Refute it at one input. -/
def fnExactCountTakenWrong : ChangeSpec := { name := "fnExactCountTaken", fn := fun _ => fun
  | [d] => { results := [.lit (.bool false)], args := [d] }
  | _ => none }
def FnExactCountTakenWrongFalsely : Prop := fnExactCountTakenRow.holds Try.pinned (OpenSpec.ofChange fnExactCountTakenWrong)

/-- 'laws.FnExactPiecesOf': WHATEVER THE INPUT: true; the input reads as it did. -/
def fnExactPiecesOfSpec : ChangeSpec := { name := "fnExactPiecesOf", fn := fun _ => fun
  | [d1, d2] => { results := [.lit (.bool true)], args := [d1, d2] }
  | _ => none }
def fnExactPiecesOfRow : OpenClaim := { program := "ytmciiomhcojaaaa", sum := "f083e8881e08ea1143567a3644b24490242672f81e485841838d595aee377e72", func := "loop.example/g00838/laws.FnExactPiecesOf", spec := "fnExactPiecesOf", apart := false }
def FnExactPiecesOfSaid : Prop := fnExactPiecesOfRow.holds Try.pinned (OpenSpec.ofChange fnExactPiecesOfSpec)

/-- ITS FALSE NEIGHBOUR: 'it returns false'. Refute it at one input. -/
def fnExactPiecesOfWrong : ChangeSpec := { name := "fnExactPiecesOf", fn := fun _ => fun
  | [d1, d2] => { results := [.lit (.bool false)], args := [d1, d2] }
  | _ => none }
def FnExactPiecesOfWrongFalsely : Prop := fnExactPiecesOfRow.holds Try.pinned (OpenSpec.ofChange fnExactPiecesOfWrong)

/- THE SECOND FORM. 'bulk': how many values and letters a reading holds, each counted each time it is reached (what is shared counts as often as it is met; a slice's spare places count too). A statement '..UptoSaid' is the law's where the arguments, and the package variables that the reading takes, are together of bulk at most 1048576: NARROWER than '..Said'. Prove '..Said' where nothing that the law and all that it calls make is longer than what came in: it says more and counts as full. Else prove '..UptoSaid'. A law counts once. -/
mutual
def uptoBulk {H : Type} : DataW H → Nat
  | .lit (.string bytes) => bytes.length + 1
  | .lit _ => 1
  | .nil => 1
  | .ptr d => uptoBulk d + 1
  | .slice elems spare => uptoBulkAll elems + uptoBulkAll spare + 1
  | .agg parts => uptoBulkAll parts + 1
  | .iface _ d => uptoBulk d + 1
  | .map entries => uptoBulkEntries entries + 1
  | .held _ => 1
def uptoBulkAll {H : Type} : List (DataW H) → Nat
  | [] => 0
  | d :: r => uptoBulk d + uptoBulkAll r
def uptoBulkEntries {H : Type} : List (Lit × DataW H) → Nat
  | [] => 0
  | x :: r => uptoBulkEntry x + uptoBulkEntries r
def uptoBulkEntry {H : Type} : Lit × DataW H → Nat
  | (.string bytes, d) => bytes.length + uptoBulk d + 1
  | (_, d) => uptoBulk d + 1
 end
def uptoSmall : (H : Type) → List (DataW H) → Bool := fun _ ds => decide (uptoBulkAll ds ≤ 1048576)
def OpenSpec.upto (s : _root_.Go.ChangeSpec) : _root_.Go.OpenSpec := { _root_.Go.OpenSpec.ofChange s with cond := some uptoSmall }

/-- 'laws.FnExactFieldOf', WHERE WHAT IT READS IS OF BULK AT MOST 1048576: true; the input reads as it did. -/
def fnExactFieldOfUptoRow : OpenClaim := { program := "ytmciiomhcojaaaa", sum := "f083e8881e08ea1143567a3644b24490242672f81e485841838d595aee377e72", func := "loop.example/g00838/laws.FnExactFieldOf", spec := "fnExactFieldOf", apart := false, narrowed := true }
def FnExactFieldOfUptoSaid : Prop := fnExactFieldOfUptoRow.holds Try.pinned (OpenSpec.upto fnExactFieldOfSpec)

/-- 'laws.FnExactSameFlow', WHERE WHAT IT READS IS OF BULK AT MOST 1048576: true; the input reads as it did. -/
def fnExactSameFlowUptoRow : OpenClaim := { program := "ytmciiomhcojaaaa", sum := "f083e8881e08ea1143567a3644b24490242672f81e485841838d595aee377e72", func := "loop.example/g00838/laws.FnExactSameFlow", spec := "fnExactSameFlow", apart := false, narrowed := true }
def FnExactSameFlowUptoSaid : Prop := fnExactSameFlowUptoRow.holds Try.pinned (OpenSpec.upto fnExactSameFlowSpec)

/-- 'laws.FnExactFlowOf', WHERE WHAT IT READS IS OF BULK AT MOST 1048576: true; the input reads as it did. -/
def fnExactFlowOfUptoRow : OpenClaim := { program := "ytmciiomhcojaaaa", sum := "f083e8881e08ea1143567a3644b24490242672f81e485841838d595aee377e72", func := "loop.example/g00838/laws.FnExactFlowOf", spec := "fnExactFlowOf", apart := false, narrowed := true }
def FnExactFlowOfUptoSaid : Prop := fnExactFlowOfUptoRow.holds Try.pinned (OpenSpec.upto fnExactFlowOfSpec)

/-- 'laws.FnExactFilterTakes', WHERE WHAT IT READS IS OF BULK AT MOST 1048576: true; the input reads as it did. -/
def fnExactFilterTakesUptoRow : OpenClaim := { program := "ytmciiomhcojaaaa", sum := "f083e8881e08ea1143567a3644b24490242672f81e485841838d595aee377e72", func := "loop.example/g00838/laws.FnExactFilterTakes", spec := "fnExactFilterTakes", apart := false, narrowed := true }
def FnExactFilterTakesUptoSaid : Prop := fnExactFilterTakesUptoRow.holds Try.pinned (OpenSpec.upto fnExactFilterTakesSpec)

/-- 'laws.FnExactMarkedPacket', WHERE WHAT IT READS IS OF BULK AT MOST 1048576: true; the input reads as it did. -/
def fnExactMarkedPacketUptoRow : OpenClaim := { program := "ytmciiomhcojaaaa", sum := "f083e8881e08ea1143567a3644b24490242672f81e485841838d595aee377e72", func := "loop.example/g00838/laws.FnExactMarkedPacket", spec := "fnExactMarkedPacket", apart := false, narrowed := true }
def FnExactMarkedPacketUptoSaid : Prop := fnExactMarkedPacketUptoRow.holds Try.pinned (OpenSpec.upto fnExactMarkedPacketSpec)

/-- 'laws.FnExactHeaderOf', WHERE WHAT IT READS IS OF BULK AT MOST 1048576: true; the input reads as it did. -/
def fnExactHeaderOfUptoRow : OpenClaim := { program := "ytmciiomhcojaaaa", sum := "f083e8881e08ea1143567a3644b24490242672f81e485841838d595aee377e72", func := "loop.example/g00838/laws.FnExactHeaderOf", spec := "fnExactHeaderOf", apart := false, narrowed := true }
def FnExactHeaderOfUptoSaid : Prop := fnExactHeaderOfUptoRow.holds Try.pinned (OpenSpec.upto fnExactHeaderOfSpec)

/-- 'laws.FnExactCountTaken', WHERE WHAT IT READS IS OF BULK AT MOST 1048576: true; the input reads as it did. -/
def fnExactCountTakenUptoRow : OpenClaim := { program := "ytmciiomhcojaaaa", sum := "f083e8881e08ea1143567a3644b24490242672f81e485841838d595aee377e72", func := "loop.example/g00838/laws.FnExactCountTaken", spec := "fnExactCountTaken", apart := false, narrowed := true }
def FnExactCountTakenUptoSaid : Prop := fnExactCountTakenUptoRow.holds Try.pinned (OpenSpec.upto fnExactCountTakenSpec)

/-- 'laws.FnExactPiecesOf', WHERE WHAT IT READS IS OF BULK AT MOST 1048576: true; the input reads as it did. -/
def fnExactPiecesOfUptoRow : OpenClaim := { program := "ytmciiomhcojaaaa", sum := "f083e8881e08ea1143567a3644b24490242672f81e485841838d595aee377e72", func := "loop.example/g00838/laws.FnExactPiecesOf", spec := "fnExactPiecesOf", apart := false, narrowed := true }
def FnExactPiecesOfUptoSaid : Prop := fnExactPiecesOfUptoRow.holds Try.pinned (OpenSpec.upto fnExactPiecesOfSpec)

end Rows
end Go.Proofs.Ytmciiomhcojaaaa
