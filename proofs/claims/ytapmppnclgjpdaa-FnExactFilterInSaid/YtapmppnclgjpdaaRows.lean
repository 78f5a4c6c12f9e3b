/-
  No cell of these rows narrows 'for every input' (looked for: loops, veiled, ifaces, maps, wideKeys, modest, calm, conditions, laid).
  DERIVED. THE GIVEN ROWS OF THIS SEAT. 6 by the template 'for every input the law returns true; each argument reads behind the call as it read before'; 0 by the template 'total and deterministic' (their statements: YtapmppnclgjpdaaTotals.lean).
  GIVEN WITH THE SEED: the statements are not yours to turn. If you find one false, say at which input.
  Laid BY PROGRAM, IN A SANDBOX (cutbox-rows.mjs): the forced cells as the released guide's own fill.sh prints them over the translation 2497825dd3476553… (all of the seat's roots in one cut). By AI agents, Wed Nov 11 2026. No macro, syntax, notation, axiom, sorry.
-/
import Derived.Test.YtapmppnclgjpdaaChecked
import GoSem.Claim
import GoSem.ClaimJoined
import GoSem.ClaimMapViews
import Derived.JoinedTies
import Derived.KernelRfl
namespace Go.Proofs.Ytapmppnclgjpdaa
/- THE CELL 'sum', in the pinned program and in every row, IS THE sha256 OF THE DUMP (.gsa) THAT YtapmppnclgjpdaaProg.lean LOADS. Nothing in Lean hashes anything: it is a label: what it is worth is what the hold of that sum in a sandbox is worth. -/
noncomputable def Try.pinned : Pinned := { name := "ytapmppnclgjpdaa", sum := "2497825dd347655304e4b20464198ddbae5a291e5786ed7c577955b721a919a2", checked := Try.checked }
namespace Rows
def none {H : Type} : Left H := { results := [], args := [] }

/-- 'laws.FnExactNumberData': WHATEVER THE INPUT: true; the input reads as it did. -/
def fnExactNumberDataSpec : ChangeSpec := { name := "fnExactNumberData", fn := fun _ => fun
  | [d] => { results := [.lit (.bool true)], args := [d] }
  | _ => none }
def fnExactNumberDataRow : OpenClaim := { program := "ytapmppnclgjpdaa", sum := "2497825dd347655304e4b20464198ddbae5a291e5786ed7c577955b721a919a2", func := "loop.example/g00838/laws.FnExactNumberData", spec := "fnExactNumberData", apart := false }
def FnExactNumberDataSaid : Prop := fnExactNumberDataRow.holds Try.pinned (OpenSpec.ofChange fnExactNumberDataSpec)

/-- ITS FALSE NEIGHBOUR: 'it returns false'. Refute it at one input. -/
def fnExactNumberDataWrong : ChangeSpec := { name := "fnExactNumberData", fn := fun _ => fun
  | [d] => { results := [.lit (.bool false)], args := [d] }
  | _ => none }
def FnExactNumberDataWrongFalsely : Prop := fnExactNumberDataRow.holds Try.pinned (OpenSpec.ofChange fnExactNumberDataWrong)

/-- 'laws.FnExactFirstByteApart': WHATEVER THE INPUT: true; the input reads as it did. -/
def fnExactFirstByteApartSpec : ChangeSpec := { name := "fnExactFirstByteApart", fn := fun _ => fun
  | [d1, d2] => { results := [.lit (.bool true)], args := [d1, d2] }
  | _ => none }
def fnExactFirstByteApartRow : OpenClaim := { program := "ytapmppnclgjpdaa", sum := "2497825dd347655304e4b20464198ddbae5a291e5786ed7c577955b721a919a2", func := "loop.example/g00838/laws.FnExactFirstByteApart", spec := "fnExactFirstByteApart", apart := false }
def FnExactFirstByteApartSaid : Prop := fnExactFirstByteApartRow.holds Try.pinned (OpenSpec.ofChange fnExactFirstByteApartSpec)

/-- ITS FALSE NEIGHBOUR: 'it returns false'. Refute it at one input. -/
def fnExactFirstByteApartWrong : ChangeSpec := { name := "fnExactFirstByteApart", fn := fun _ => fun
  | [d1, d2] => { results := [.lit (.bool false)], args := [d1, d2] }
  | _ => none }
def FnExactFirstByteApartWrongFalsely : Prop := fnExactFirstByteApartRow.holds Try.pinned (OpenSpec.ofChange fnExactFirstByteApartWrong)

/-- 'laws.FnExactIsPacket': WHATEVER THE INPUT: true; the input reads as it did. -/
def fnExactIsPacketSpec : ChangeSpec := { name := "fnExactIsPacket", fn := fun _ => fun
  | [d] => { results := [.lit (.bool true)], args := [d] }
  | _ => none }
def fnExactIsPacketRow : OpenClaim := { program := "ytapmppnclgjpdaa", sum := "2497825dd347655304e4b20464198ddbae5a291e5786ed7c577955b721a919a2", func := "loop.example/g00838/laws.FnExactIsPacket", spec := "fnExactIsPacket", apart := false }
def FnExactIsPacketSaid : Prop := fnExactIsPacketRow.holds Try.pinned (OpenSpec.ofChange fnExactIsPacketSpec)

/-- ITS FALSE NEIGHBOUR: 'it returns false'. Refute it at one input. -/
def fnExactIsPacketWrong : ChangeSpec := { name := "fnExactIsPacket", fn := fun _ => fun
  | [d] => { results := [.lit (.bool false)], args := [d] }
  | _ => none }
def FnExactIsPacketWrongFalsely : Prop := fnExactIsPacketRow.holds Try.pinned (OpenSpec.ofChange fnExactIsPacketWrong)

/-- 'laws.FnExactReadData': WHATEVER THE INPUT: true; the input reads as it did. -/
def fnExactReadDataSpec : ChangeSpec := { name := "fnExactReadData", fn := fun _ => fun
  | [d] => { results := [.lit (.bool true)], args := [d] }
  | _ => none }
def fnExactReadDataRow : OpenClaim := { program := "ytapmppnclgjpdaa", sum := "2497825dd347655304e4b20464198ddbae5a291e5786ed7c577955b721a919a2", func := "loop.example/g00838/laws.FnExactReadData", spec := "fnExactReadData", apart := false }
def FnExactReadDataSaid : Prop := fnExactReadDataRow.holds Try.pinned (OpenSpec.ofChange fnExactReadDataSpec)

/-- ITS FALSE NEIGHBOUR: 'it returns false'. Refute it at one input. -/
def fnExactReadDataWrong : ChangeSpec := { name := "fnExactReadData", fn := fun _ => fun
  | [d] => { results := [.lit (.bool false)], args := [d] }
  | _ => none }
def FnExactReadDataWrongFalsely : Prop := fnExactReadDataRow.holds Try.pinned (OpenSpec.ofChange fnExactReadDataWrong)

/-- 'laws.FnExactFiltersMeet': WHATEVER THE INPUT: true; the input reads as it did. -/
def fnExactFiltersMeetSpec : ChangeSpec := { name := "fnExactFiltersMeet", fn := fun _ => fun
  | [d1, d2] => { results := [.lit (.bool true)], args := [d1, d2] }
  | _ => none }
def fnExactFiltersMeetRow : OpenClaim := { program := "ytapmppnclgjpdaa", sum := "2497825dd347655304e4b20464198ddbae5a291e5786ed7c577955b721a919a2", func := "loop.example/g00838/laws.FnExactFiltersMeet", spec := "fnExactFiltersMeet", apart := false }
def FnExactFiltersMeetSaid : Prop := fnExactFiltersMeetRow.holds Try.pinned (OpenSpec.ofChange fnExactFiltersMeetSpec)

/-- ITS FALSE NEIGHBOUR: 'it returns false'. Refute it at one input. -/
def fnExactFiltersMeetWrong : ChangeSpec := { name := "fnExactFiltersMeet", fn := fun _ => fun
  | [d1, d2] => { results := [.lit (.bool false)], args := [d1, d2] }
  | _ => none }
def FnExactFiltersMeetWrongFalsely : Prop := fnExactFiltersMeetRow.holds Try.pinned (OpenSpec.ofChange fnExactFiltersMeetWrong)

/-- 'laws.FnExactFilterIn': WHATEVER THE INPUT: true; the input reads as it did. -/
def fnExactFilterInSpec : ChangeSpec := { name := "fnExactFilterIn", fn := fun _ => fun
  | [d1, d2] => { results := [.lit (.bool true)], args := [d1, d2] }
  | _ => none }
def fnExactFilterInRow : OpenClaim := { program := "ytapmppnclgjpdaa", sum := "2497825dd347655304e4b20464198ddbae5a291e5786ed7c577955b721a919a2", func := "loop.example/g00838/laws.FnExactFilterIn", spec := "fnExactFilterIn", apart := false }
def FnExactFilterInSaid : Prop := fnExactFilterInRow.holds Try.pinned (OpenSpec.ofChange fnExactFilterInSpec)

/-- ITS FALSE NEIGHBOUR: 'it returns false'. Refute it at one input. -/
def fnExactFilterInWrong : ChangeSpec := { name := "fnExactFilterIn", fn := fun _ => fun
  | [d1, d2] => { results := [.lit (.bool false)], args := [d1, d2] }
  | _ => none }
def FnExactFilterInWrongFalsely : Prop := fnExactFilterInRow.holds Try.pinned (OpenSpec.ofChange fnExactFilterInWrong)

/- THE SECOND FORM. 'bulk': how many values and letters a reading holds, each counted each time it is reached (what is shared counts as often as it is met; a slice's spare places count too). A statement '..UptoSaid' is the law's where the arguments, and the package variables that the reading takes, are together of bulk at most 1048576: NARROWER than '..Said'. Prove '..Said' where nothing that the law and all that it calls make is longer than what came in: it says more and counts as full. Else prove '..UptoSaid'. A law counts once. -/
mutual
def uptoBulk {H : Type} : DataW H → Nat
  | .lit (.string bytes) => bytes.length + 1
  | .lit _ => 1
  | .nil => 1
  | .ptr d => uptoBulk d + 1
  | .slice elems spare => uptoBulkAll elems + uptoBulkAll spare + 1
  | .agg parts => uptoBulkAll parts + 1
  | .iface _ d => uptoBulk d + 1
  | .map entries => uptoBulkEntries entries + 1
  | .held _ => 1
def uptoBulkAll {H : Type} : List (DataW H) → Nat
  | [] => 0
  | d :: r => uptoBulk d + uptoBulkAll r
def uptoBulkEntries {H : Type} : List (Lit × DataW H) → Nat
  | [] => 0
  | x :: r => uptoBulkEntry x + uptoBulkEntries r
def uptoBulkEntry {H : Type} : Lit × DataW H → Nat
  | (.string bytes, d) => bytes.length + uptoBulk d + 1
  | (_, d) => uptoBulk d + 1
 end
def uptoSmall : (H : Type) → List (DataW H) → Bool := fun _ ds => decide (uptoBulkAll ds ≤ 1048576)
def OpenSpec.upto (s : _root_.Go.ChangeSpec) : _root_.Go.OpenSpec := { _root_.Go.OpenSpec.ofChange s with cond := some uptoSmall }

/-- 'laws.FnExactNumberData', WHERE WHAT IT READS IS OF BULK AT MOST 1048576: true; the input reads as it did. -/
def fnExactNumberDataUptoRow : OpenClaim := { program := "ytapmppnclgjpdaa", sum := "2497825dd347655304e4b20464198ddbae5a291e5786ed7c577955b721a919a2", func := "loop.example/g00838/laws.FnExactNumberData", spec := "fnExactNumberData", apart := false, narrowed := true }
def FnExactNumberDataUptoSaid : Prop := fnExactNumberDataUptoRow.holds Try.pinned (OpenSpec.upto fnExactNumberDataSpec)

/-- 'laws.FnExactFirstByteApart', WHERE WHAT IT READS IS OF BULK AT MOST 1048576: true; the input reads as it did. -/
def fnExactFirstByteApartUptoRow : OpenClaim := { program := "ytapmppnclgjpdaa", sum := "2497825dd347655304e4b20464198ddbae5a291e5786ed7c577955b721a919a2", func := "loop.example/g00838/laws.FnExactFirstByteApart", spec := "fnExactFirstByteApart", apart := false, narrowed := true }
def FnExactFirstByteApartUptoSaid : Prop := fnExactFirstByteApartUptoRow.holds Try.pinned (OpenSpec.upto fnExactFirstByteApartSpec)

/-- 'laws.FnExactIsPacket', WHERE WHAT IT READS IS OF BULK AT MOST 1048576: true; the input reads as it did. -/
def fnExactIsPacketUptoRow : OpenClaim := { program := "ytapmppnclgjpdaa", sum := "2497825dd347655304e4b20464198ddbae5a291e5786ed7c577955b721a919a2", func := "loop.example/g00838/laws.FnExactIsPacket", spec := "fnExactIsPacket", apart := false, narrowed := true }
def FnExactIsPacketUptoSaid : Prop := fnExactIsPacketUptoRow.holds Try.pinned (OpenSpec.upto fnExactIsPacketSpec)

/-- 'laws.FnExactReadData', WHERE WHAT IT READS IS OF BULK AT MOST 1048576: true; the input reads as it did. -/
def fnExactReadDataUptoRow : OpenClaim := { program := "ytapmppnclgjpdaa", sum := "2497825dd347655304e4b20464198ddbae5a291e5786ed7c577955b721a919a2", func := "loop.example/g00838/laws.FnExactReadData", spec := "fnExactReadData", apart := false, narrowed := true }
def FnExactReadDataUptoSaid : Prop := fnExactReadDataUptoRow.holds Try.pinned (OpenSpec.upto fnExactReadDataSpec)

/-- 'laws.FnExactFiltersMeet', WHERE WHAT IT READS IS OF BULK AT MOST 1048576: true; the input reads as it did. -/
def fnExactFiltersMeetUptoRow : OpenClaim := { program := "ytapmppnclgjpdaa", sum := "2497825dd347655304e4b20464198ddbae5a291e5786ed7c577955b721a919a2", func := "loop.example/g00838/laws.FnExactFiltersMeet", spec := "fnExactFiltersMeet", apart := false, narrowed := true }
def FnExactFiltersMeetUptoSaid : Prop := fnExactFiltersMeetUptoRow.holds Try.pinned (OpenSpec.upto fnExactFiltersMeetSpec)

/-- 'laws.FnExactFilterIn', WHERE WHAT IT READS IS OF BULK AT MOST 1048576: true; the input reads as it did. -/
def fnExactFilterInUptoRow : OpenClaim := { program := "ytapmppnclgjpdaa", sum := "2497825dd347655304e4b20464198ddbae5a291e5786ed7c577955b721a919a2", func := "loop.example/g00838/laws.FnExactFilterIn", spec := "fnExactFilterIn", apart := false, narrowed := true }
def FnExactFilterInUptoSaid : Prop := fnExactFilterInUptoRow.holds Try.pinned (OpenSpec.upto fnExactFilterInSpec)

end Rows
end Go.Proofs.Ytapmppnclgjpdaa
