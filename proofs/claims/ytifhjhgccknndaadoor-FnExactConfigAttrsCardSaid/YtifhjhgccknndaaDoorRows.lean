/-
  NARROWER THAN 'FOR EVERY INPUT', by the rows' own cells (each row's printed sentence says how): FnExactIsStorable: laid · FnExactConfigAttrs: laid · FnExactEncodeConfig: laid · FnExactEncodedSize: laid.
  DERIVED. THE GIVEN ROWS OF THIS SEAT. 4 by the template 'for every input the law returns true; each argument reads behind the call as it read before'; 0 by the template 'total and deterministic' (their statements: YtifhjhgccknndaaDoorTotals.lean).
  GIVEN WITH THE SEED: the statements are not yours to turn. If you find one false, say at which input.
  Laid BY PROGRAM, IN A SANDBOX (cutbox-rows.mjs): the forced cells as the released guide's own fill.sh prints them over the translation 2afee82287121fdb… (all of the seat's roots in one cut). By AI agents, Wed Nov 11 2026. No macro, syntax, notation, axiom, sorry.
-/
import Derived.Test.YtifhjhgccknndaaDoorChecked
import GoSem.Claim
import GoSem.ClaimJoined
import GoSem.ClaimMapViews
import Derived.JoinedTies
import Derived.KernelRfl
namespace Go.Proofs.YtifhjhgccknndaaDoor
/- THE CELL 'sum', in the pinned program and in every row, IS THE sha256 OF THE DUMP (.gsa) THAT YtifhjhgccknndaaDoorProg.lean LOADS. Nothing in Lean hashes anything: it is a label: what it is worth is what the hold of that sum in a sandbox is worth. -/
noncomputable def Tryd.pinned : Pinned := { name := "ytifhjhgccknndaadoor", sum := "2afee82287121fdb0339cbfedc8d6c096ee441dab5b537529adf1fd86f5c3b19", checked := Tryd.checked }
namespace Rows
def none {H : Type} : Left H := { results := [], args := [] }

/- WHAT THE LISTED PACKAGE-LEVEL VARIABLES READ AS WHEN THE CALL BEGINS. Each datum BY PROGRAM (the guide's laid-datum.mjs) off the statement by which the dump's own 'gosem.cut.vars' lays the variable. In a bare row this is a premise. The card (YtifhjhgccknndaaDoorCards.lean) ties it to the program's text. -/
def laid_loop_example_g00838_impl_keyWords {H : Type} : DataW H := .agg [.lit (.string [113, 100, 105, 115, 99]), .lit (.string [100, 101, 102, 97, 117, 108, 116]), .lit (.string [99, 108, 97, 115, 115]), .lit (.string [114, 97, 116, 101]), .lit (.string [99, 101, 105, 108]), .lit (.string [98, 117, 114, 115, 116]), .lit (.string [99, 98, 117, 114, 115, 116]), .lit (.string [112, 114, 105, 111]), .lit (.string [108, 105, 109, 105, 116]), .lit (.string [102, 105, 108, 116, 101, 114]), .lit (.string [115, 111, 117, 114, 99, 101]), .lit (.string [100, 101, 115, 116]), .lit (.string [112, 111, 114, 116]), .lit (.string [109, 97, 114, 107])]

/-- 'laws.FnExactIsStorable': WHATEVER THE INPUT: true; the input reads as it did. -/
def fnExactIsStorableSpec : ChangeSpec := { name := "fnExactIsStorable", vars := ["loop.example/g00838/impl.keyWords"], fn := fun _ => fun
  | [d, g1] => { results := [.lit (.bool true)], args := [d], vars := [g1] }
  | _ => none }
def fnExactIsStorableRow : OpenClaim := { program := "ytifhjhgccknndaadoor", sum := "2afee82287121fdb0339cbfedc8d6c096ee441dab5b537529adf1fd86f5c3b19", func := "loop.example/g00838/laws.FnExactIsStorable", spec := "fnExactIsStorable", named := ["loop.example/g00838/impl.keyWords"], apart := false, laid := [("loop.example/g00838/impl.keyWords", laid_loop_example_g00838_impl_keyWords)] }
def FnExactIsStorableSaid : Prop := fnExactIsStorableRow.holds Tryd.pinned (OpenSpec.ofChange fnExactIsStorableSpec)

/-- ITS FALSE NEIGHBOUR: 'it returns false'. Refute it at one input. -/
def fnExactIsStorableWrong : ChangeSpec := { name := "fnExactIsStorable", vars := ["loop.example/g00838/impl.keyWords"], fn := fun _ => fun
  | [d, g1] => { results := [.lit (.bool false)], args := [d], vars := [g1] }
  | _ => none }
def FnExactIsStorableWrongFalsely : Prop := fnExactIsStorableRow.holds Tryd.pinned (OpenSpec.ofChange fnExactIsStorableWrong)

/-- 'laws.FnExactConfigAttrs': WHATEVER THE INPUT: true; the input reads as it did. -/
def fnExactConfigAttrsSpec : ChangeSpec := { name := "fnExactConfigAttrs", vars := ["loop.example/g00838/impl.keyWords"], fn := fun _ => fun
  | [d, g1] => { results := [.lit (.bool true)], args := [d], vars := [g1] }
  | _ => none }
def fnExactConfigAttrsRow : OpenClaim := { program := "ytifhjhgccknndaadoor", sum := "2afee82287121fdb0339cbfedc8d6c096ee441dab5b537529adf1fd86f5c3b19", func := "loop.example/g00838/laws.FnExactConfigAttrs", spec := "fnExactConfigAttrs", named := ["loop.example/g00838/impl.keyWords"], apart := false, laid := [("loop.example/g00838/impl.keyWords", laid_loop_example_g00838_impl_keyWords)] }
def FnExactConfigAttrsSaid : Prop := fnExactConfigAttrsRow.holds Tryd.pinned (OpenSpec.ofChange fnExactConfigAttrsSpec)

/-- ITS FALSE NEIGHBOUR: 'it returns false'. Refute it at one input. -/
def fnExactConfigAttrsWrong : ChangeSpec := { name := "fnExactConfigAttrs", vars := ["loop.example/g00838/impl.keyWords"], fn := fun _ => fun
  | [d, g1] => { results := [.lit (.bool false)], args := [d], vars := [g1] }
  | _ => none }
def FnExactConfigAttrsWrongFalsely : Prop := fnExactConfigAttrsRow.holds Tryd.pinned (OpenSpec.ofChange fnExactConfigAttrsWrong)

/-- 'laws.FnExactEncodeConfig': WHATEVER THE INPUT: true; the input reads as it did. -/
def fnExactEncodeConfigSpec : ChangeSpec := { name := "fnExactEncodeConfig", vars := ["loop.example/g00838/impl.keyWords"], fn := fun _ => fun
  | [d, g1] => { results := [.lit (.bool true)], args := [d], vars := [g1] }
  | _ => none }
def fnExactEncodeConfigRow : OpenClaim := { program := "ytifhjhgccknndaadoor", sum := "2afee82287121fdb0339cbfedc8d6c096ee441dab5b537529adf1fd86f5c3b19", func := "loop.example/g00838/laws.FnExactEncodeConfig", spec := "fnExactEncodeConfig", recurses := true, named := ["loop.example/g00838/impl.keyWords"], apart := false, laid := [("loop.example/g00838/impl.keyWords", laid_loop_example_g00838_impl_keyWords)] }
def FnExactEncodeConfigSaid : Prop := fnExactEncodeConfigRow.holds Tryd.pinned (OpenSpec.ofChange fnExactEncodeConfigSpec)

/-- ITS FALSE NEIGHBOUR: 'it returns false'. Refute it at one input. -/
def fnExactEncodeConfigWrong : ChangeSpec := { name := "fnExactEncodeConfig", vars := ["loop.example/g00838/impl.keyWords"], fn := fun _ => fun
  | [d, g1] => { results := [.lit (.bool false)], args := [d], vars := [g1] }
  | _ => none }
def FnExactEncodeConfigWrongFalsely : Prop := fnExactEncodeConfigRow.holds Tryd.pinned (OpenSpec.ofChange fnExactEncodeConfigWrong)

/-- 'laws.FnExactEncodedSize': WHATEVER THE INPUT: true; the input reads as it did. -/
def fnExactEncodedSizeSpec : ChangeSpec := { name := "fnExactEncodedSize", vars := ["loop.example/g00838/impl.keyWords"], fn := fun _ => fun
  | [d, g1] => { results := [.lit (.bool true)], args := [d], vars := [g1] }
  | _ => none }
def fnExactEncodedSizeRow : OpenClaim := { program := "ytifhjhgccknndaadoor", sum := "2afee82287121fdb0339cbfedc8d6c096ee441dab5b537529adf1fd86f5c3b19", func := "loop.example/g00838/laws.FnExactEncodedSize", spec := "fnExactEncodedSize", recurses := true, named := ["loop.example/g00838/impl.keyWords"], apart := false, laid := [("loop.example/g00838/impl.keyWords", laid_loop_example_g00838_impl_keyWords)] }
def FnExactEncodedSizeSaid : Prop := fnExactEncodedSizeRow.holds Tryd.pinned (OpenSpec.ofChange fnExactEncodedSizeSpec)

/-- ITS FALSE NEIGHBOUR: 'it returns false'. Refute it at one input. -/
def fnExactEncodedSizeWrong : ChangeSpec := { name := "fnExactEncodedSize", vars := ["loop.example/g00838/impl.keyWords"], fn := fun _ => fun
  | [d, g1] => { results := [.lit (.bool false)], args := [d], vars := [g1] }
  | _ => none }
def FnExactEncodedSizeWrongFalsely : Prop := fnExactEncodedSizeRow.holds Tryd.pinned (OpenSpec.ofChange fnExactEncodedSizeWrong)

/- THE SECOND FORM. 'bulk': how many values and letters a reading holds, each counted each time it is reached (what is shared counts as often as it is met; a slice's spare places count too). A statement '..UptoSaid' is the law's where the arguments, and the package variables that the reading takes, are together of bulk at most 1048576: NARROWER than '..Said'. Prove '..Said' where nothing that the law and all that it calls make is longer than what came in: it says more and counts as full. Else prove '..UptoSaid'. A law counts once. -/
mutual
def uptoBulk {H : Type} : DataW H → Nat
  | .lit (.string bytes) => bytes.length + 1
  | .lit _ => 1
  | .nil => 1
  | .ptr d => uptoBulk d + 1
  | .slice elems spare => uptoBulkAll elems + uptoBulkAll spare + 1
  | .agg parts => uptoBulkAll parts + 1
  | .iface _ d => uptoBulk d + 1
  | .map entries => uptoBulkEntries entries + 1
  | .held _ => 1
def uptoBulkAll {H : Type} : List (DataW H) → Nat
  | [] => 0
  | d :: r => uptoBulk d + uptoBulkAll r
def uptoBulkEntries {H : Type} : List (Lit × DataW H) → Nat
  | [] => 0
  | x :: r => uptoBulkEntry x + uptoBulkEntries r
def uptoBulkEntry {H : Type} : Lit × DataW H → Nat
  | (.string bytes, d) => bytes.length + uptoBulk d + 1
  | (_, d) => uptoBulk d + 1
 end
def uptoSmall : (H : Type) → List (DataW H) → Bool := fun _ ds => decide (uptoBulkAll ds ≤ 1048576)
def OpenSpec.upto (s : _root_.Go.ChangeSpec) : _root_.Go.OpenSpec := { _root_.Go.OpenSpec.ofChange s with cond := some uptoSmall }

/-- 'laws.FnExactIsStorable', WHERE WHAT IT READS IS OF BULK AT MOST 1048576: true; the input reads as it did. -/
def fnExactIsStorableUptoRow : OpenClaim := { program := "ytifhjhgccknndaadoor", sum := "2afee82287121fdb0339cbfedc8d6c096ee441dab5b537529adf1fd86f5c3b19", func := "loop.example/g00838/laws.FnExactIsStorable", spec := "fnExactIsStorable", named := ["loop.example/g00838/impl.keyWords"], apart := false, laid := [("loop.example/g00838/impl.keyWords", laid_loop_example_g00838_impl_keyWords)], narrowed := true }
def FnExactIsStorableUptoSaid : Prop := fnExactIsStorableUptoRow.holds Tryd.pinned (OpenSpec.upto fnExactIsStorableSpec)

/-- 'laws.FnExactConfigAttrs', WHERE WHAT IT READS IS OF BULK AT MOST 1048576: true; the input reads as it did. -/
def fnExactConfigAttrsUptoRow : OpenClaim := { program := "ytifhjhgccknndaadoor", sum := "2afee82287121fdb0339cbfedc8d6c096ee441dab5b537529adf1fd86f5c3b19", func := "loop.example/g00838/laws.FnExactConfigAttrs", spec := "fnExactConfigAttrs", named := ["loop.example/g00838/impl.keyWords"], apart := false, laid := [("loop.example/g00838/impl.keyWords", laid_loop_example_g00838_impl_keyWords)], narrowed := true }
def FnExactConfigAttrsUptoSaid : Prop := fnExactConfigAttrsUptoRow.holds Tryd.pinned (OpenSpec.upto fnExactConfigAttrsSpec)

/-- 'laws.FnExactEncodeConfig', WHERE WHAT IT READS IS OF BULK AT MOST 1048576: true; the input reads as it did. -/
def fnExactEncodeConfigUptoRow : OpenClaim := { program := "ytifhjhgccknndaadoor", sum := "2afee82287121fdb0339cbfedc8d6c096ee441dab5b537529adf1fd86f5c3b19", func := "loop.example/g00838/laws.FnExactEncodeConfig", spec := "fnExactEncodeConfig", recurses := true, named := ["loop.example/g00838/impl.keyWords"], apart := false, laid := [("loop.example/g00838/impl.keyWords", laid_loop_example_g00838_impl_keyWords)], narrowed := true }
def FnExactEncodeConfigUptoSaid : Prop := fnExactEncodeConfigUptoRow.holds Tryd.pinned (OpenSpec.upto fnExactEncodeConfigSpec)

/-- 'laws.FnExactEncodedSize', WHERE WHAT IT READS IS OF BULK AT MOST 1048576: true; the input reads as it did. -/
def fnExactEncodedSizeUptoRow : OpenClaim := { program := "ytifhjhgccknndaadoor", sum := "2afee82287121fdb0339cbfedc8d6c096ee441dab5b537529adf1fd86f5c3b19", func := "loop.example/g00838/laws.FnExactEncodedSize", spec := "fnExactEncodedSize", recurses := true, named := ["loop.example/g00838/impl.keyWords"], apart := false, laid := [("loop.example/g00838/impl.keyWords", laid_loop_example_g00838_impl_keyWords)], narrowed := true }
def FnExactEncodedSizeUptoSaid : Prop := fnExactEncodedSizeUptoRow.holds Tryd.pinned (OpenSpec.upto fnExactEncodedSizeSpec)

end Rows
end Go.Proofs.YtifhjhgccknndaaDoor
