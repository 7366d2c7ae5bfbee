/-
  NARROWER THAN 'FOR EVERY INPUT', by the rows' own cells (each row's printed sentence says how): FieldParses: laid · FieldPuts: laid · FieldWide: laid · FieldBlanks: laid · FieldOctal: laid.
  DERIVED. THE GIVEN ROWS OF THIS SEAT. 5 by the template 'for every input the law returns true; each argument reads behind the call as it read before'; 0 by the template 'total and deterministic' (their statements: YtgealodojemoeaaDoorTotals.lean).
  GIVEN WITH THE SEED: the statements are not yours to turn. If you find one false, say at which input.
  Laid BY PROGRAM, IN A SANDBOX (cutbox-rows.mjs): the forced cells as the released guide's own fill.sh prints them over the translation 458bf93a697b8c9f… (all of the seat's roots in one cut). By AI agents, Wed Nov 11 2026. No macro, syntax, notation, axiom, sorry.
-/
import Derived.Test.YtgealodojemoeaaDoorChecked
import GoSem.PinnedTables
import GoSem.Claim
import GoSem.ClaimJoined
import GoSem.ClaimMapViews
import Derived.JoinedTies
import Derived.KernelRfl
namespace Go.Proofs.YtgealodojemoeaaDoor
/- THE CELL 'sum', in the pinned program and in every row, IS THE sha256 OF THE DUMP (.gsa) THAT YtgealodojemoeaaDoorProg.lean LOADS. Nothing in Lean hashes anything: it is a label: what it is worth is what the hold of that sum in a sandbox is worth. -/
noncomputable def Tryd.pinned : Pinned := { name := "ytgealodojemoeaadoor", sum := "458bf93a697b8c9f150edfb0677c70d1043b7af86461e7f23be54ce7504bc9ff", checked := Tryd.checked }
namespace Rows
def none {H : Type} : Left H := { results := [], args := [] }

/- WHAT THE LISTED PACKAGE-LEVEL VARIABLES READ AS WHEN THE CALL BEGINS. Each datum BY PROGRAM (the guide's laid-datum.mjs) off the statement by which the dump's own 'gosem.cut.vars' lays the variable. In a bare row this is a premise. The card (YtgealodojemoeaaDoorCards.lean) ties it to the program's text. -/
def laid_unicode_utf8_acceptRanges {H : Type} : DataW H := .agg [.agg [.lit (.int .u8 128), .lit (.int .u8 191)], .agg [.lit (.int .u8 160), .lit (.int .u8 191)], .agg [.lit (.int .u8 128), .lit (.int .u8 159)], .agg [.lit (.int .u8 144), .lit (.int .u8 191)], .agg [.lit (.int .u8 128), .lit (.int .u8 143)], .agg [.lit (.int .u8 0), .lit (.int .u8 0)], .agg [.lit (.int .u8 0), .lit (.int .u8 0)], .agg [.lit (.int .u8 0), .lit (.int .u8 0)], .agg [.lit (.int .u8 0), .lit (.int .u8 0)], .agg [.lit (.int .u8 0), .lit (.int .u8 0)], .agg [.lit (.int .u8 0), .lit (.int .u8 0)], .agg [.lit (.int .u8 0), .lit (.int .u8 0)], .agg [.lit (.int .u8 0), .lit (.int .u8 0)], .agg [.lit (.int .u8 0), .lit (.int .u8 0)], .agg [.lit (.int .u8 0), .lit (.int .u8 0)], .agg [.lit (.int .u8 0), .lit (.int .u8 0)]]
/-- One of Go's own tables, pinned by name: the form's constant. -/
def laid_unicode_utf8_first : DataW Unit := Go.Pinned.utf8First

/-- 'bindlelaw02.FieldParses': WHATEVER THE INPUT: true; the input reads as it did. -/
def fieldParsesSpec : ChangeSpec := { name := "fieldParses", fn := fun _ => fun
  | [d] => { results := [.lit (.bool true)], args := [d] }
  | _ => none }
def fieldParsesRow : OpenClaim := { program := "ytgealodojemoeaadoor", sum := "458bf93a697b8c9f150edfb0677c70d1043b7af86461e7f23be54ce7504bc9ff", func := "bindle/bindlelaw02.FieldParses", spec := "fieldParses", named := ["unicode/utf8.first", "unicode/utf8.acceptRanges"], apart := false, laid := [("unicode/utf8.acceptRanges", laid_unicode_utf8_acceptRanges), ("unicode/utf8.first", laid_unicode_utf8_first)] }
def FieldParsesSaid : Prop := fieldParsesRow.holds Tryd.pinned (OpenSpec.ofChange fieldParsesSpec)

/-- ITS FALSE NEIGHBOUR: 'it returns false'. Refute it at one input. -/
def fieldParsesWrong : ChangeSpec := { name := "fieldParses", fn := fun _ => fun
  | [d] => { results := [.lit (.bool false)], args := [d] }
  | _ => none }
def FieldParsesWrongFalsely : Prop := fieldParsesRow.holds Tryd.pinned (OpenSpec.ofChange fieldParsesWrong)

/-- 'bindlelaw02.FieldPuts': WHATEVER THE INPUT: true; the input reads as it did. -/
def fieldPutsSpec : ChangeSpec := { name := "fieldPuts", fn := fun _ => fun
  | [d1, d2] => { results := [.lit (.bool true)], args := [d1, d2] }
  | _ => none }
def fieldPutsRow : OpenClaim := { program := "ytgealodojemoeaadoor", sum := "458bf93a697b8c9f150edfb0677c70d1043b7af86461e7f23be54ce7504bc9ff", func := "bindle/bindlelaw02.FieldPuts", spec := "fieldPuts", named := ["unicode/utf8.first", "unicode/utf8.acceptRanges"], apart := false, laid := [("unicode/utf8.acceptRanges", laid_unicode_utf8_acceptRanges), ("unicode/utf8.first", laid_unicode_utf8_first)] }
def FieldPutsSaid : Prop := fieldPutsRow.holds Tryd.pinned (OpenSpec.ofChange fieldPutsSpec)

/-- ITS FALSE NEIGHBOUR: 'it returns false'. Refute it at one input. -/
def fieldPutsWrong : ChangeSpec := { name := "fieldPuts", fn := fun _ => fun
  | [d1, d2] => { results := [.lit (.bool false)], args := [d1, d2] }
  | _ => none }
def FieldPutsWrongFalsely : Prop := fieldPutsRow.holds Tryd.pinned (OpenSpec.ofChange fieldPutsWrong)

/-- 'bindlelaw02.FieldWide': WHATEVER THE INPUT: true; the input reads as it did. -/
def fieldWideSpec : ChangeSpec := { name := "fieldWide", fn := fun _ => fun
  | [d1, d2] => { results := [.lit (.bool true)], args := [d1, d2] }
  | _ => none }
def fieldWideRow : OpenClaim := { program := "ytgealodojemoeaadoor", sum := "458bf93a697b8c9f150edfb0677c70d1043b7af86461e7f23be54ce7504bc9ff", func := "bindle/bindlelaw02.FieldWide", spec := "fieldWide", named := ["unicode/utf8.first", "unicode/utf8.acceptRanges"], apart := false, laid := [("unicode/utf8.acceptRanges", laid_unicode_utf8_acceptRanges), ("unicode/utf8.first", laid_unicode_utf8_first)] }
def FieldWideSaid : Prop := fieldWideRow.holds Tryd.pinned (OpenSpec.ofChange fieldWideSpec)

/-- ITS FALSE NEIGHBOUR: 'it returns false'. Refute it at one input. -/
def fieldWideWrong : ChangeSpec := { name := "fieldWide", fn := fun _ => fun
  | [d1, d2] => { results := [.lit (.bool false)], args := [d1, d2] }
  | _ => none }
def FieldWideWrongFalsely : Prop := fieldWideRow.holds Tryd.pinned (OpenSpec.ofChange fieldWideWrong)

/-- 'bindlelaw02.FieldBlanks': WHATEVER THE INPUT: true; the input reads as it did. -/
def fieldBlanksSpec : ChangeSpec := { name := "fieldBlanks", fn := fun _ => fun
  | [d1, d2, d3, d4] => { results := [.lit (.bool true)], args := [d1, d2, d3, d4] }
  | _ => none }
def fieldBlanksRow : OpenClaim := { program := "ytgealodojemoeaadoor", sum := "458bf93a697b8c9f150edfb0677c70d1043b7af86461e7f23be54ce7504bc9ff", func := "bindle/bindlelaw02.FieldBlanks", spec := "fieldBlanks", named := ["unicode/utf8.first", "unicode/utf8.acceptRanges"], apart := false, laid := [("unicode/utf8.acceptRanges", laid_unicode_utf8_acceptRanges), ("unicode/utf8.first", laid_unicode_utf8_first)] }
def FieldBlanksSaid : Prop := fieldBlanksRow.holds Tryd.pinned (OpenSpec.ofChange fieldBlanksSpec)

/-- ITS FALSE NEIGHBOUR: 'it returns false'. Refute it at one input. -/
def fieldBlanksWrong : ChangeSpec := { name := "fieldBlanks", fn := fun _ => fun
  | [d1, d2, d3, d4] => { results := [.lit (.bool false)], args := [d1, d2, d3, d4] }
  | _ => none }
def FieldBlanksWrongFalsely : Prop := fieldBlanksRow.holds Tryd.pinned (OpenSpec.ofChange fieldBlanksWrong)

/-- 'bindlelaw02.FieldOctal': WHATEVER THE INPUT: true; the input reads as it did. -/
def fieldOctalSpec : ChangeSpec := { name := "fieldOctal", fn := fun _ => fun
  | [d1, d2] => { results := [.lit (.bool true)], args := [d1, d2] }
  | _ => none }
def fieldOctalRow : OpenClaim := { program := "ytgealodojemoeaadoor", sum := "458bf93a697b8c9f150edfb0677c70d1043b7af86461e7f23be54ce7504bc9ff", func := "bindle/bindlelaw02.FieldOctal", spec := "fieldOctal", named := ["unicode/utf8.first", "unicode/utf8.acceptRanges"], apart := false, laid := [("unicode/utf8.acceptRanges", laid_unicode_utf8_acceptRanges), ("unicode/utf8.first", laid_unicode_utf8_first)] }
def FieldOctalSaid : Prop := fieldOctalRow.holds Tryd.pinned (OpenSpec.ofChange fieldOctalSpec)

/-- ITS FALSE NEIGHBOUR: 'it returns false'. Refute it at one input. -/
def fieldOctalWrong : ChangeSpec := { name := "fieldOctal", fn := fun _ => fun
  | [d1, d2] => { results := [.lit (.bool false)], args := [d1, d2] }
  | _ => none }
def FieldOctalWrongFalsely : Prop := fieldOctalRow.holds Tryd.pinned (OpenSpec.ofChange fieldOctalWrong)

/- THE SECOND FORM. 'bulk': how many values and letters a reading holds, each counted each time it is reached (what is shared counts as often as it is met; a slice's spare places count too). A statement '..UptoSaid' is the law's where the arguments, and the package variables that the reading takes, are together of bulk at most 1048576: NARROWER than '..Said'. Prove '..Said' where nothing that the law and all that it calls make is longer than what came in: it says more and counts as full. Else prove '..UptoSaid'. A law counts once. -/
mutual
def uptoBulk {H : Type} : DataW H → Nat
  | .lit (.string bytes) => bytes.length + 1
  | .lit _ => 1
  | .nil => 1
  | .ptr d => uptoBulk d + 1
  | .slice elems spare => uptoBulkAll elems + uptoBulkAll spare + 1
  | .agg parts => uptoBulkAll parts + 1
  | .iface _ d => uptoBulk d + 1
  | .map entries => uptoBulkEntries entries + 1
  | .held _ => 1
def uptoBulkAll {H : Type} : List (DataW H) → Nat
  | [] => 0
  | d :: r => uptoBulk d + uptoBulkAll r
def uptoBulkEntries {H : Type} : List (Lit × DataW H) → Nat
  | [] => 0
  | x :: r => uptoBulkEntry x + uptoBulkEntries r
def uptoBulkEntry {H : Type} : Lit × DataW H → Nat
  | (.string bytes, d) => bytes.length + uptoBulk d + 1
  | (_, d) => uptoBulk d + 1
 end
def uptoSmall : (H : Type) → List (DataW H) → Bool := fun _ ds => decide (uptoBulkAll ds ≤ 1048576)
def OpenSpec.upto (s : _root_.Go.ChangeSpec) : _root_.Go.OpenSpec := { _root_.Go.OpenSpec.ofChange s with cond := some uptoSmall }

/-- 'bindlelaw02.FieldParses', WHERE WHAT IT READS IS OF BULK AT MOST 1048576: true; the input reads as it did. -/
def fieldParsesUptoRow : OpenClaim := { program := "ytgealodojemoeaadoor", sum := "458bf93a697b8c9f150edfb0677c70d1043b7af86461e7f23be54ce7504bc9ff", func := "bindle/bindlelaw02.FieldParses", spec := "fieldParses", named := ["unicode/utf8.first", "unicode/utf8.acceptRanges"], apart := false, laid := [("unicode/utf8.acceptRanges", laid_unicode_utf8_acceptRanges), ("unicode/utf8.first", laid_unicode_utf8_first)], narrowed := true }
def FieldParsesUptoSaid : Prop := fieldParsesUptoRow.holds Tryd.pinned (OpenSpec.upto fieldParsesSpec)

/-- 'bindlelaw02.FieldPuts', WHERE WHAT IT READS IS OF BULK AT MOST 1048576: true; the input reads as it did. -/
def fieldPutsUptoRow : OpenClaim := { program := "ytgealodojemoeaadoor", sum := "458bf93a697b8c9f150edfb0677c70d1043b7af86461e7f23be54ce7504bc9ff", func := "bindle/bindlelaw02.FieldPuts", spec := "fieldPuts", named := ["unicode/utf8.first", "unicode/utf8.acceptRanges"], apart := false, laid := [("unicode/utf8.acceptRanges", laid_unicode_utf8_acceptRanges), ("unicode/utf8.first", laid_unicode_utf8_first)], narrowed := true }
def FieldPutsUptoSaid : Prop := fieldPutsUptoRow.holds Tryd.pinned (OpenSpec.upto fieldPutsSpec)

/-- 'bindlelaw02.FieldWide', WHERE WHAT IT READS IS OF BULK AT MOST 1048576: true; the input reads as it did. -/
def fieldWideUptoRow : OpenClaim := { program := "ytgealodojemoeaadoor", sum := "458bf93a697b8c9f150edfb0677c70d1043b7af86461e7f23be54ce7504bc9ff", func := "bindle/bindlelaw02.FieldWide", spec := "fieldWide", named := ["unicode/utf8.first", "unicode/utf8.acceptRanges"], apart := false, laid := [("unicode/utf8.acceptRanges", laid_unicode_utf8_acceptRanges), ("unicode/utf8.first", laid_unicode_utf8_first)], narrowed := true }
def FieldWideUptoSaid : Prop := fieldWideUptoRow.holds Tryd.pinned (OpenSpec.upto fieldWideSpec)

/-- 'bindlelaw02.FieldBlanks', WHERE WHAT IT READS IS OF BULK AT MOST 1048576: true; the input reads as it did. -/
def fieldBlanksUptoRow : OpenClaim := { program := "ytgealodojemoeaadoor", sum := "458bf93a697b8c9f150edfb0677c70d1043b7af86461e7f23be54ce7504bc9ff", func := "bindle/bindlelaw02.FieldBlanks", spec := "fieldBlanks", named := ["unicode/utf8.first", "unicode/utf8.acceptRanges"], apart := false, laid := [("unicode/utf8.acceptRanges", laid_unicode_utf8_acceptRanges), ("unicode/utf8.first", laid_unicode_utf8_first)], narrowed := true }
def FieldBlanksUptoSaid : Prop := fieldBlanksUptoRow.holds Tryd.pinned (OpenSpec.upto fieldBlanksSpec)

/-- 'bindlelaw02.FieldOctal', WHERE WHAT IT READS IS OF BULK AT MOST 1048576: true; the input reads as it did. -/
def fieldOctalUptoRow : OpenClaim := { program := "ytgealodojemoeaadoor", sum := "458bf93a697b8c9f150edfb0677c70d1043b7af86461e7f23be54ce7504bc9ff", func := "bindle/bindlelaw02.FieldOctal", spec := "fieldOctal", named := ["unicode/utf8.first", "unicode/utf8.acceptRanges"], apart := false, laid := [("unicode/utf8.acceptRanges", laid_unicode_utf8_acceptRanges), ("unicode/utf8.first", laid_unicode_utf8_first)], narrowed := true }
def FieldOctalUptoSaid : Prop := fieldOctalUptoRow.holds Tryd.pinned (OpenSpec.upto fieldOctalSpec)

end Rows
end Go.Proofs.YtgealodojemoeaaDoor
