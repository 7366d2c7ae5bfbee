/-
  No cell of these rows narrows 'for every input' (looked for: loops, veiled, ifaces, maps, wideKeys, modest, calm, conditions, laid).
  DERIVED. THE GIVEN ROWS OF THIS SEAT. 5 by the template 'for every input the law returns true; each argument reads behind the call as it read before'; 0 by the template 'total and deterministic' (their statements: YtaapabdjhpoilaaTotals.lean).
  GIVEN WITH THE SEED: the statements are not yours to turn. If you find one false, say at which input.
  Laid BY PROGRAM, IN A SANDBOX (cutbox-rows.mjs): the forced cells as the released guide's own fill.sh prints them over the translation 5a9fd6efab960f28… (all of the seat's roots in one cut). By AI agents, Wed Nov 11 2026. No macro, syntax, notation, axiom, sorry.
-/
import Derived.Test.YtaapabdjhpoilaaChecked
import GoSem.Claim
import GoSem.ClaimJoined
import GoSem.ClaimMapViews
import Derived.JoinedTies
import Derived.KernelRfl
namespace Go.Proofs.Ytaapabdjhpoilaa
/- THE CELL 'sum', in the pinned program and in every row, IS THE sha256 OF THE DUMP (.gsa) THAT YtaapabdjhpoilaaProg.lean LOADS. Nothing in Lean hashes anything: it is a label: what it is worth is what the hold of that sum in a sandbox is worth. -/
noncomputable def Try.pinned : Pinned := { name := "ytaapabdjhpoilaa", sum := "5a9fd6efab960f2805d9db77964ee08ddfcab5cb5f3d485c9166392bf4bc5947", checked := Try.checked }
namespace Rows
def none {H : Type} : Left H := { results := [], args := [] }

/-- 'bindlelaw01.NumAdds': WHATEVER THE INPUT: true; the input reads as it did. -/
def numAddsSpec : ChangeSpec := { name := "numAdds", fn := fun _ => fun
  | [d] => { results := [.lit (.bool true)], args := [d] }
  | _ => none }
def numAddsRow : OpenClaim := { program := "ytaapabdjhpoilaa", sum := "5a9fd6efab960f2805d9db77964ee08ddfcab5cb5f3d485c9166392bf4bc5947", func := "bindle/bindlelaw01.NumAdds", spec := "numAdds", apart := false }
def NumAddsSaid : Prop := numAddsRow.holds Try.pinned (OpenSpec.ofChange numAddsSpec)

/-- ITS FALSE NEIGHBOUR: 'it returns false'. Refute it at one input. -/
def numAddsWrong : ChangeSpec := { name := "numAdds", fn := fun _ => fun
  | [d] => { results := [.lit (.bool false)], args := [d] }
  | _ => none }
def NumAddsWrongFalsely : Prop := numAddsRow.holds Try.pinned (OpenSpec.ofChange numAddsWrong)

/-- 'bindlelaw01.NumMuls': WHATEVER THE INPUT: true; the input reads as it did. -/
def numMulsSpec : ChangeSpec := { name := "numMuls", fn := fun _ => fun
  | [d1, d2, d3] => { results := [.lit (.bool true)], args := [d1, d2, d3] }
  | _ => none }
def numMulsRow : OpenClaim := { program := "ytaapabdjhpoilaa", sum := "5a9fd6efab960f2805d9db77964ee08ddfcab5cb5f3d485c9166392bf4bc5947", func := "bindle/bindlelaw01.NumMuls", spec := "numMuls", apart := false }
def NumMulsSaid : Prop := numMulsRow.holds Try.pinned (OpenSpec.ofChange numMulsSpec)

/-- ITS FALSE NEIGHBOUR: 'it returns false'. Refute it at one input. -/
def numMulsWrong : ChangeSpec := { name := "numMuls", fn := fun _ => fun
  | [d1, d2, d3] => { results := [.lit (.bool false)], args := [d1, d2, d3] }
  | _ => none }
def NumMulsWrongFalsely : Prop := numMulsRow.holds Try.pinned (OpenSpec.ofChange numMulsWrong)

/-- 'bindlelaw01.NumPads': WHATEVER THE INPUT: true; the input reads as it did. -/
def numPadsSpec : ChangeSpec := { name := "numPads", fn := fun _ => fun
  | [d] => { results := [.lit (.bool true)], args := [d] }
  | _ => none }
def numPadsRow : OpenClaim := { program := "ytaapabdjhpoilaa", sum := "5a9fd6efab960f2805d9db77964ee08ddfcab5cb5f3d485c9166392bf4bc5947", func := "bindle/bindlelaw01.NumPads", spec := "numPads", apart := false }
def NumPadsSaid : Prop := numPadsRow.holds Try.pinned (OpenSpec.ofChange numPadsSpec)

/-- ITS FALSE NEIGHBOUR: 'it returns false'. Refute it at one input. -/
def numPadsWrong : ChangeSpec := { name := "numPads", fn := fun _ => fun
  | [d] => { results := [.lit (.bool false)], args := [d] }
  | _ => none }
def NumPadsWrongFalsely : Prop := numPadsRow.holds Try.pinned (OpenSpec.ofChange numPadsWrong)

/-- 'bindlelaw01.NumIn': WHATEVER THE INPUT: true; the input reads as it did. -/
def numInSpec : ChangeSpec := { name := "numIn", fn := fun _ => fun
  | [d1, d2, d3] => { results := [.lit (.bool true)], args := [d1, d2, d3] }
  | _ => none }
def numInRow : OpenClaim := { program := "ytaapabdjhpoilaa", sum := "5a9fd6efab960f2805d9db77964ee08ddfcab5cb5f3d485c9166392bf4bc5947", func := "bindle/bindlelaw01.NumIn", spec := "numIn", apart := false }
def NumInSaid : Prop := numInRow.holds Try.pinned (OpenSpec.ofChange numInSpec)

/-- ITS FALSE NEIGHBOUR: 'it returns false'. Refute it at one input. -/
def numInWrong : ChangeSpec := { name := "numIn", fn := fun _ => fun
  | [d1, d2, d3] => { results := [.lit (.bool false)], args := [d1, d2, d3] }
  | _ => none }
def NumInWrongFalsely : Prop := numInRow.holds Try.pinned (OpenSpec.ofChange numInWrong)

/-- 'bindlelaw01.NumOrders': WHATEVER THE INPUT: true; the input reads as it did. -/
def numOrdersSpec : ChangeSpec := { name := "numOrders", fn := fun _ => fun
  | [d1, d2, d3] => { results := [.lit (.bool true)], args := [d1, d2, d3] }
  | _ => none }
def numOrdersRow : OpenClaim := { program := "ytaapabdjhpoilaa", sum := "5a9fd6efab960f2805d9db77964ee08ddfcab5cb5f3d485c9166392bf4bc5947", func := "bindle/bindlelaw01.NumOrders", spec := "numOrders", apart := false }
def NumOrdersSaid : Prop := numOrdersRow.holds Try.pinned (OpenSpec.ofChange numOrdersSpec)

/-- ITS FALSE NEIGHBOUR: 'it returns false'. Refute it at one input. -/
def numOrdersWrong : ChangeSpec := { name := "numOrders", fn := fun _ => fun
  | [d1, d2, d3] => { results := [.lit (.bool false)], args := [d1, d2, d3] }
  | _ => none }
def NumOrdersWrongFalsely : Prop := numOrdersRow.holds Try.pinned (OpenSpec.ofChange numOrdersWrong)

/- THE SECOND FORM. 'bulk': how many values and letters a reading holds, each counted each time it is reached (what is shared counts as often as it is met; a slice's spare places count too). A statement '..UptoSaid' is the law's where the arguments, and the package variables that the reading takes, are together of bulk at most 1048576: NARROWER than '..Said'. Prove '..Said' where nothing that the law and all that it calls make is longer than what came in: it says more and counts as full. Else prove '..UptoSaid'. A law counts once. -/
mutual
def uptoBulk {H : Type} : DataW H → Nat
  | .lit (.string bytes) => bytes.length + 1
  | .lit _ => 1
  | .nil => 1
  | .ptr d => uptoBulk d + 1
  | .slice elems spare => uptoBulkAll elems + uptoBulkAll spare + 1
  | .agg parts => uptoBulkAll parts + 1
  | .iface _ d => uptoBulk d + 1
  | .map entries => uptoBulkEntries entries + 1
  | .held _ => 1
def uptoBulkAll {H : Type} : List (DataW H) → Nat
  | [] => 0
  | d :: r => uptoBulk d + uptoBulkAll r
def uptoBulkEntries {H : Type} : List (Lit × DataW H) → Nat
  | [] => 0
  | x :: r => uptoBulkEntry x + uptoBulkEntries r
def uptoBulkEntry {H : Type} : Lit × DataW H → Nat
  | (.string bytes, d) => bytes.length + uptoBulk d + 1
  | (_, d) => uptoBulk d + 1
 end
def uptoSmall : (H : Type) → List (DataW H) → Bool := fun _ ds => decide (uptoBulkAll ds ≤ 1048576)
def OpenSpec.upto (s : _root_.Go.ChangeSpec) : _root_.Go.OpenSpec := { _root_.Go.OpenSpec.ofChange s with cond := some uptoSmall }

/-- 'bindlelaw01.NumAdds', WHERE WHAT IT READS IS OF BULK AT MOST 1048576: true; the input reads as it did. -/
def numAddsUptoRow : OpenClaim := { program := "ytaapabdjhpoilaa", sum := "5a9fd6efab960f2805d9db77964ee08ddfcab5cb5f3d485c9166392bf4bc5947", func := "bindle/bindlelaw01.NumAdds", spec := "numAdds", apart := false, narrowed := true }
def NumAddsUptoSaid : Prop := numAddsUptoRow.holds Try.pinned (OpenSpec.upto numAddsSpec)

/-- 'bindlelaw01.NumMuls', WHERE WHAT IT READS IS OF BULK AT MOST 1048576: true; the input reads as it did. -/
def numMulsUptoRow : OpenClaim := { program := "ytaapabdjhpoilaa", sum := "5a9fd6efab960f2805d9db77964ee08ddfcab5cb5f3d485c9166392bf4bc5947", func := "bindle/bindlelaw01.NumMuls", spec := "numMuls", apart := false, narrowed := true }
def NumMulsUptoSaid : Prop := numMulsUptoRow.holds Try.pinned (OpenSpec.upto numMulsSpec)

/-- 'bindlelaw01.NumPads', WHERE WHAT IT READS IS OF BULK AT MOST 1048576: true; the input reads as it did. -/
def numPadsUptoRow : OpenClaim := { program := "ytaapabdjhpoilaa", sum := "5a9fd6efab960f2805d9db77964ee08ddfcab5cb5f3d485c9166392bf4bc5947", func := "bindle/bindlelaw01.NumPads", spec := "numPads", apart := false, narrowed := true }
def NumPadsUptoSaid : Prop := numPadsUptoRow.holds Try.pinned (OpenSpec.upto numPadsSpec)

/-- 'bindlelaw01.NumIn', WHERE WHAT IT READS IS OF BULK AT MOST 1048576: true; the input reads as it did. -/
def numInUptoRow : OpenClaim := { program := "ytaapabdjhpoilaa", sum := "5a9fd6efab960f2805d9db77964ee08ddfcab5cb5f3d485c9166392bf4bc5947", func := "bindle/bindlelaw01.NumIn", spec := "numIn", apart := false, narrowed := true }
def NumInUptoSaid : Prop := numInUptoRow.holds Try.pinned (OpenSpec.upto numInSpec)

/-- 'bindlelaw01.NumOrders', WHERE WHAT IT READS IS OF BULK AT MOST 1048576: true; the input reads as it did. -/
def numOrdersUptoRow : OpenClaim := { program := "ytaapabdjhpoilaa", sum := "5a9fd6efab960f2805d9db77964ee08ddfcab5cb5f3d485c9166392bf4bc5947", func := "bindle/bindlelaw01.NumOrders", spec := "numOrders", apart := false, narrowed := true }
def NumOrdersUptoSaid : Prop := numOrdersUptoRow.holds Try.pinned (OpenSpec.upto numOrdersSpec)

end Rows
end Go.Proofs.Ytaapabdjhpoilaa
