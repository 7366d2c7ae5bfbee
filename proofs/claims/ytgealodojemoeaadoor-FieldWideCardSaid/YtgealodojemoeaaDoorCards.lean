/-
  DERIVED. GIVEN WITH THE SEED: THE CARDS: each row of YtgealodojemoeaaDoorRows.lean that lists a variable, with what it lists TIED to the program's text (the seventh form; the later family's looks); each row that meets fmt, with fmt's text TOLD by the authors' own Lean function (tested against real Go, not proved from fmt's source: count such statements apart). THE CARD IS WHAT COUNTS. Prove the row's statement (the work); the ties are given (YtgealodojemoeaaDoorTie.lean); close each card by the builder's one call (the guide's Derived/Test/ToyasCard.lean, 'card_holds'). Laid BY PROGRAM, IN A SANDBOX (cutbox-door.mjs). By AI agents, Wed Nov 11 2026. No macro, syntax, notation, axiom, sorry.
-/
import Derived.Test.YtgealodojemoeaaDoorRows
import GoSem.ClaimSeven
namespace Go.Proofs.YtgealodojemoeaaDoor
namespace Rows

/-- THE TIED CARD OF 'bindlelaw02.FieldParses'. -/
def fieldParsesCard : Claim7 := { stood := { row := fieldParsesRow, standIns := [], harness := (true, "e67e74e7c53cb1b240ecba18c7cb5419448c26a121557d50291aacd79bda81a2"), looks := false }, kinds := [], alts := [], laidByText := true, laidKinds := [.data, .pinned], laidTests := true, laidLooks := .later }
def FieldParsesCardSaid : Prop := Claim7.holds Tryd.pinned (.plain (OpenSpec.ofChange fieldParsesSpec)) fieldParsesCard

/-- THE TIED CARD OF 'bindlelaw02.FieldPuts'. -/
def fieldPutsCard : Claim7 := { stood := { row := fieldPutsRow, standIns := [], harness := (true, "e67e74e7c53cb1b240ecba18c7cb5419448c26a121557d50291aacd79bda81a2"), looks := false }, kinds := [], alts := [], laidByText := true, laidKinds := [.data, .pinned], laidTests := true, laidLooks := .later }
def FieldPutsCardSaid : Prop := Claim7.holds Tryd.pinned (.plain (OpenSpec.ofChange fieldPutsSpec)) fieldPutsCard

/-- THE TIED CARD OF 'bindlelaw02.FieldWide'. -/
def fieldWideCard : Claim7 := { stood := { row := fieldWideRow, standIns := [], harness := (true, "e67e74e7c53cb1b240ecba18c7cb5419448c26a121557d50291aacd79bda81a2"), looks := false }, kinds := [], alts := [], laidByText := true, laidKinds := [.data, .pinned], laidTests := true, laidLooks := .later }
def FieldWideCardSaid : Prop := Claim7.holds Tryd.pinned (.plain (OpenSpec.ofChange fieldWideSpec)) fieldWideCard

/-- THE TIED CARD OF 'bindlelaw02.FieldBlanks'. -/
def fieldBlanksCard : Claim7 := { stood := { row := fieldBlanksRow, standIns := [], harness := (true, "e67e74e7c53cb1b240ecba18c7cb5419448c26a121557d50291aacd79bda81a2"), looks := false }, kinds := [], alts := [], laidByText := true, laidKinds := [.data, .pinned], laidTests := true, laidLooks := .later }
def FieldBlanksCardSaid : Prop := Claim7.holds Tryd.pinned (.plain (OpenSpec.ofChange fieldBlanksSpec)) fieldBlanksCard

/-- THE TIED CARD OF 'bindlelaw02.FieldOctal'. -/
def fieldOctalCard : Claim7 := { stood := { row := fieldOctalRow, standIns := [], harness := (true, "e67e74e7c53cb1b240ecba18c7cb5419448c26a121557d50291aacd79bda81a2"), looks := false }, kinds := [], alts := [], laidByText := true, laidKinds := [.data, .pinned], laidTests := true, laidLooks := .later }
def FieldOctalCardSaid : Prop := Claim7.holds Tryd.pinned (.plain (OpenSpec.ofChange fieldOctalSpec)) fieldOctalCard

/-- THE SECOND FORM's CARD OF 'bindlelaw02.FieldParses'. -/
def fieldParsesUptoCard : Claim7 := { stood := { row := fieldParsesUptoRow, standIns := [], harness := (true, "e67e74e7c53cb1b240ecba18c7cb5419448c26a121557d50291aacd79bda81a2"), looks := false }, kinds := [], alts := [], laidByText := true, laidKinds := [.data, .pinned], laidTests := true, laidLooks := .later }
def FieldParsesUptoCardSaid : Prop := Claim7.holds Tryd.pinned (.plain (OpenSpec.upto fieldParsesSpec)) fieldParsesUptoCard

/-- THE SECOND FORM's CARD OF 'bindlelaw02.FieldPuts'. -/
def fieldPutsUptoCard : Claim7 := { stood := { row := fieldPutsUptoRow, standIns := [], harness := (true, "e67e74e7c53cb1b240ecba18c7cb5419448c26a121557d50291aacd79bda81a2"), looks := false }, kinds := [], alts := [], laidByText := true, laidKinds := [.data, .pinned], laidTests := true, laidLooks := .later }
def FieldPutsUptoCardSaid : Prop := Claim7.holds Tryd.pinned (.plain (OpenSpec.upto fieldPutsSpec)) fieldPutsUptoCard

/-- THE SECOND FORM's CARD OF 'bindlelaw02.FieldWide'. -/
def fieldWideUptoCard : Claim7 := { stood := { row := fieldWideUptoRow, standIns := [], harness := (true, "e67e74e7c53cb1b240ecba18c7cb5419448c26a121557d50291aacd79bda81a2"), looks := false }, kinds := [], alts := [], laidByText := true, laidKinds := [.data, .pinned], laidTests := true, laidLooks := .later }
def FieldWideUptoCardSaid : Prop := Claim7.holds Tryd.pinned (.plain (OpenSpec.upto fieldWideSpec)) fieldWideUptoCard

/-- THE SECOND FORM's CARD OF 'bindlelaw02.FieldBlanks'. -/
def fieldBlanksUptoCard : Claim7 := { stood := { row := fieldBlanksUptoRow, standIns := [], harness := (true, "e67e74e7c53cb1b240ecba18c7cb5419448c26a121557d50291aacd79bda81a2"), looks := false }, kinds := [], alts := [], laidByText := true, laidKinds := [.data, .pinned], laidTests := true, laidLooks := .later }
def FieldBlanksUptoCardSaid : Prop := Claim7.holds Tryd.pinned (.plain (OpenSpec.upto fieldBlanksSpec)) fieldBlanksUptoCard

/-- THE SECOND FORM's CARD OF 'bindlelaw02.FieldOctal'. -/
def fieldOctalUptoCard : Claim7 := { stood := { row := fieldOctalUptoRow, standIns := [], harness := (true, "e67e74e7c53cb1b240ecba18c7cb5419448c26a121557d50291aacd79bda81a2"), looks := false }, kinds := [], alts := [], laidByText := true, laidKinds := [.data, .pinned], laidTests := true, laidLooks := .later }
def FieldOctalUptoCardSaid : Prop := Claim7.holds Tryd.pinned (.plain (OpenSpec.upto fieldOctalSpec)) fieldOctalUptoCard
end Rows
end Go.Proofs.YtgealodojemoeaaDoor
