/-
  No cell of these rows narrows 'for every input' (looked for: loops, veiled, ifaces, maps, wideKeys, modest, calm, conditions, laid).
  DERIVED. THE GIVEN ROWS OF THIS SEAT. 10 by the template 'for every input the law returns true; each argument reads behind the call as it read before'; 0 by the template 'total and deterministic' (their statements: YtkglkpcpgdeneaaTotals.lean).
  GIVEN WITH THE SEED: the statements are not yours to turn. If you find one false, say at which input.
  Laid BY PROGRAM, IN A SANDBOX (cutbox-rows.mjs): the forced cells as the released guide's own fill.sh prints them over the translation c249625bf9db77c2… (all of the seat's roots in one cut). By AI agents, Wed Nov 11 2026. No macro, syntax, notation, axiom, sorry.
-/
import Derived.Test.YtkglkpcpgdeneaaChecked
import GoSem.Claim
import GoSem.ClaimJoined
import GoSem.ClaimMapViews
import Derived.JoinedTies
import Derived.KernelRfl
namespace Go.Proofs.Ytkglkpcpgdeneaa
/- THE CELL 'sum', in the pinned program and in every row, IS THE sha256 OF THE DUMP (.gsa) THAT YtkglkpcpgdeneaaProg.lean LOADS. Nothing in Lean hashes anything: it is a label: what it is worth is what the hold of that sum in a sandbox is worth. -/
noncomputable def Try.pinned : Pinned := { name := "ytkglkpcpgdeneaa", sum := "c249625bf9db77c263cdac047ff9ebc647280d51c06b5d3c4cfc6d954bb2640a", checked := Try.checked }
namespace Rows
def none {H : Type} : Left H := { results := [], args := [] }

/-- 'bindlelaw17.SortSorts': WHATEVER THE INPUT: true; the input reads as it did. -/
def sortSortsSpec : ChangeSpec := { name := "sortSorts", fn := fun _ => fun
  | [d1, d2, d3] => { results := [.lit (.bool true)], args := [d1, d2, d3] }
  | _ => none }
def sortSortsRow : OpenClaim := { program := "ytkglkpcpgdeneaa", sum := "c249625bf9db77c263cdac047ff9ebc647280d51c06b5d3c4cfc6d954bb2640a", func := "bindle/bindlelaw17.SortSorts", spec := "sortSorts", unfollowed := true, recurses := true, apart := false }
def SortSortsSaid : Prop := sortSortsRow.holds Try.pinned (OpenSpec.ofChange sortSortsSpec)

/-- ITS FALSE NEIGHBOUR: 'it returns false'. Refute it at one input. -/
def sortSortsWrong : ChangeSpec := { name := "sortSorts", fn := fun _ => fun
  | [d1, d2, d3] => { results := [.lit (.bool false)], args := [d1, d2, d3] }
  | _ => none }
def SortSortsWrongFalsely : Prop := sortSortsRow.holds Try.pinned (OpenSpec.ofChange sortSortsWrong)

/-- 'bindlelaw17.SortFails': WHATEVER THE INPUT: true; the input reads as it did. -/
def sortFailsSpec : ChangeSpec := { name := "sortFails", fn := fun _ => fun
  | [d1, d2, d3, d4, d5] => { results := [.lit (.bool true)], args := [d1, d2, d3, d4, d5] }
  | _ => none }
def sortFailsRow : OpenClaim := { program := "ytkglkpcpgdeneaa", sum := "c249625bf9db77c263cdac047ff9ebc647280d51c06b5d3c4cfc6d954bb2640a", func := "bindle/bindlelaw17.SortFails", spec := "sortFails", unfollowed := true, recurses := true, apart := false }
def SortFailsSaid : Prop := sortFailsRow.holds Try.pinned (OpenSpec.ofChange sortFailsSpec)

/-- ITS FALSE NEIGHBOUR: 'it returns false'. Refute it at one input. -/
def sortFailsWrong : ChangeSpec := { name := "sortFails", fn := fun _ => fun
  | [d1, d2, d3, d4, d5] => { results := [.lit (.bool false)], args := [d1, d2, d3, d4, d5] }
  | _ => none }
def SortFailsWrongFalsely : Prop := sortFailsRow.holds Try.pinned (OpenSpec.ofChange sortFailsWrong)

/-- 'bindlelaw16.RunsRead': WHATEVER THE INPUT: true; the input reads as it did. -/
def runsReadSpec : ChangeSpec := { name := "runsRead", fn := fun _ => fun
  | [d] => { results := [.lit (.bool true)], args := [d] }
  | _ => none }
def runsReadRow : OpenClaim := { program := "ytkglkpcpgdeneaa", sum := "c249625bf9db77c263cdac047ff9ebc647280d51c06b5d3c4cfc6d954bb2640a", func := "bindle/bindlelaw16.RunsRead", spec := "runsRead", unfollowed := true, recurses := true, apart := false }
def RunsReadSaid : Prop := runsReadRow.holds Try.pinned (OpenSpec.ofChange runsReadSpec)

/-- ITS FALSE NEIGHBOUR: 'it returns false'. Refute it at one input. -/
def runsReadWrong : ChangeSpec := { name := "runsRead", fn := fun _ => fun
  | [d] => { results := [.lit (.bool false)], args := [d] }
  | _ => none }
def RunsReadWrongFalsely : Prop := runsReadRow.holds Try.pinned (OpenSpec.ofChange runsReadWrong)

/-- 'bindlelaw16.RunsNone': WHATEVER THE INPUT: true; the input reads as it did. -/
def runsNoneSpec : ChangeSpec := { name := "runsNone", fn := fun _ => fun
  | [d1, d2] => { results := [.lit (.bool true)], args := [d1, d2] }
  | _ => none }
def runsNoneRow : OpenClaim := { program := "ytkglkpcpgdeneaa", sum := "c249625bf9db77c263cdac047ff9ebc647280d51c06b5d3c4cfc6d954bb2640a", func := "bindle/bindlelaw16.RunsNone", spec := "runsNone", unfollowed := true, recurses := true, apart := false }
def RunsNoneSaid : Prop := runsNoneRow.holds Try.pinned (OpenSpec.ofChange runsNoneSpec)

/-- ITS FALSE NEIGHBOUR: 'it returns false'. Refute it at one input. -/
def runsNoneWrong : ChangeSpec := { name := "runsNone", fn := fun _ => fun
  | [d1, d2] => { results := [.lit (.bool false)], args := [d1, d2] }
  | _ => none }
def RunsNoneWrongFalsely : Prop := runsNoneRow.holds Try.pinned (OpenSpec.ofChange runsNoneWrong)

/-- 'bindlelaw16.RunsSizes': WHATEVER THE INPUT: true; the input reads as it did. -/
def runsSizesSpec : ChangeSpec := { name := "runsSizes", fn := fun _ => fun
  | [d1, d2] => { results := [.lit (.bool true)], args := [d1, d2] }
  | _ => none }
def runsSizesRow : OpenClaim := { program := "ytkglkpcpgdeneaa", sum := "c249625bf9db77c263cdac047ff9ebc647280d51c06b5d3c4cfc6d954bb2640a", func := "bindle/bindlelaw16.RunsSizes", spec := "runsSizes", unfollowed := true, recurses := true, apart := false }
def RunsSizesSaid : Prop := runsSizesRow.holds Try.pinned (OpenSpec.ofChange runsSizesSpec)

/-- ITS FALSE NEIGHBOUR: 'it returns false'. Refute it at one input. -/
def runsSizesWrong : ChangeSpec := { name := "runsSizes", fn := fun _ => fun
  | [d1, d2] => { results := [.lit (.bool false)], args := [d1, d2] }
  | _ => none }
def RunsSizesWrongFalsely : Prop := runsSizesRow.holds Try.pinned (OpenSpec.ofChange runsSizesWrong)

/-- 'bindlelaw16.RunsForm': WHATEVER THE INPUT: true; the input reads as it did. -/
def runsFormSpec : ChangeSpec := { name := "runsForm", fn := fun _ => fun
  | [d1, d2, d3, d4] => { results := [.lit (.bool true)], args := [d1, d2, d3, d4] }
  | _ => none }
def runsFormRow : OpenClaim := { program := "ytkglkpcpgdeneaa", sum := "c249625bf9db77c263cdac047ff9ebc647280d51c06b5d3c4cfc6d954bb2640a", func := "bindle/bindlelaw16.RunsForm", spec := "runsForm", unfollowed := true, recurses := true, apart := false }
def RunsFormSaid : Prop := runsFormRow.holds Try.pinned (OpenSpec.ofChange runsFormSpec)

/-- ITS FALSE NEIGHBOUR: 'it returns false'. Refute it at one input. -/
def runsFormWrong : ChangeSpec := { name := "runsForm", fn := fun _ => fun
  | [d1, d2, d3, d4] => { results := [.lit (.bool false)], args := [d1, d2, d3, d4] }
  | _ => none }
def RunsFormWrongFalsely : Prop := runsFormRow.holds Try.pinned (OpenSpec.ofChange runsFormWrong)

/-- 'bindlelaw17.SortHolds': WHATEVER THE INPUT: true; the input reads as it did. -/
def sortHoldsSpec : ChangeSpec := { name := "sortHolds", fn := fun _ => fun
  | [d1, d2, d3] => { results := [.lit (.bool true)], args := [d1, d2, d3] }
  | _ => none }
def sortHoldsRow : OpenClaim := { program := "ytkglkpcpgdeneaa", sum := "c249625bf9db77c263cdac047ff9ebc647280d51c06b5d3c4cfc6d954bb2640a", func := "bindle/bindlelaw17.SortHolds", spec := "sortHolds", unfollowed := true, recurses := true, apart := false }
def SortHoldsSaid : Prop := sortHoldsRow.holds Try.pinned (OpenSpec.ofChange sortHoldsSpec)

/-- ITS FALSE NEIGHBOUR: 'it returns false'. Refute it at one input. -/
def sortHoldsWrong : ChangeSpec := { name := "sortHolds", fn := fun _ => fun
  | [d1, d2, d3] => { results := [.lit (.bool false)], args := [d1, d2, d3] }
  | _ => none }
def SortHoldsWrongFalsely : Prop := sortHoldsRow.holds Try.pinned (OpenSpec.ofChange sortHoldsWrong)

/-- 'bindlelaw17.SortSame': WHATEVER THE INPUT: true; the input reads as it did. -/
def sortSameSpec : ChangeSpec := { name := "sortSame", fn := fun _ => fun
  | [d1, d2, d3, d4, d5] => { results := [.lit (.bool true)], args := [d1, d2, d3, d4, d5] }
  | _ => none }
def sortSameRow : OpenClaim := { program := "ytkglkpcpgdeneaa", sum := "c249625bf9db77c263cdac047ff9ebc647280d51c06b5d3c4cfc6d954bb2640a", func := "bindle/bindlelaw17.SortSame", spec := "sortSame", unfollowed := true, recurses := true, apart := false }
def SortSameSaid : Prop := sortSameRow.holds Try.pinned (OpenSpec.ofChange sortSameSpec)

/-- ITS FALSE NEIGHBOUR: 'it returns false'. Refute it at one input. -/
def sortSameWrong : ChangeSpec := { name := "sortSame", fn := fun _ => fun
  | [d1, d2, d3, d4, d5] => { results := [.lit (.bool false)], args := [d1, d2, d3, d4, d5] }
  | _ => none }
def SortSameWrongFalsely : Prop := sortSameRow.holds Try.pinned (OpenSpec.ofChange sortSameWrong)

/-- 'bindlelaw17.SortMerges': WHATEVER THE INPUT: true; the input reads as it did. -/
def sortMergesSpec : ChangeSpec := { name := "sortMerges", fn := fun _ => fun
  | [d1, d2] => { results := [.lit (.bool true)], args := [d1, d2] }
  | _ => none }
def sortMergesRow : OpenClaim := { program := "ytkglkpcpgdeneaa", sum := "c249625bf9db77c263cdac047ff9ebc647280d51c06b5d3c4cfc6d954bb2640a", func := "bindle/bindlelaw17.SortMerges", spec := "sortMerges", unfollowed := true, recurses := true, apart := false }
def SortMergesSaid : Prop := sortMergesRow.holds Try.pinned (OpenSpec.ofChange sortMergesSpec)

/-- ITS FALSE NEIGHBOUR: 'it returns false'. Refute it at one input. -/
def sortMergesWrong : ChangeSpec := { name := "sortMerges", fn := fun _ => fun
  | [d1, d2] => { results := [.lit (.bool false)], args := [d1, d2] }
  | _ => none }
def SortMergesWrongFalsely : Prop := sortMergesRow.holds Try.pinned (OpenSpec.ofChange sortMergesWrong)

/-- 'bindlelaw17.SortAll': WHATEVER THE INPUT: true; the input reads as it did. -/
def sortAllSpec : ChangeSpec := { name := "sortAll", fn := fun _ => fun
  | [d1, d2, d3] => { results := [.lit (.bool true)], args := [d1, d2, d3] }
  | _ => none }
def sortAllRow : OpenClaim := { program := "ytkglkpcpgdeneaa", sum := "c249625bf9db77c263cdac047ff9ebc647280d51c06b5d3c4cfc6d954bb2640a", func := "bindle/bindlelaw17.SortAll", spec := "sortAll", unfollowed := true, recurses := true, apart := false }
def SortAllSaid : Prop := sortAllRow.holds Try.pinned (OpenSpec.ofChange sortAllSpec)

/-- ITS FALSE NEIGHBOUR: 'it returns false'. Refute it at one input. -/
def sortAllWrong : ChangeSpec := { name := "sortAll", fn := fun _ => fun
  | [d1, d2, d3] => { results := [.lit (.bool false)], args := [d1, d2, d3] }
  | _ => none }
def SortAllWrongFalsely : Prop := sortAllRow.holds Try.pinned (OpenSpec.ofChange sortAllWrong)

/- THE SECOND FORM. 'bulk': how many values and letters a reading holds, each counted each time it is reached (what is shared counts as often as it is met; a slice's spare places count too). A statement '..UptoSaid' is the law's where the arguments, and the package variables that the reading takes, are together of bulk at most 1048576: NARROWER than '..Said'. Prove '..Said' where nothing that the law and all that it calls make is longer than what came in: it says more and counts as full. Else prove '..UptoSaid'. A law counts once. -/
mutual
def uptoBulk {H : Type} : DataW H → Nat
  | .lit (.string bytes) => bytes.length + 1
  | .lit _ => 1
  | .nil => 1
  | .ptr d => uptoBulk d + 1
  | .slice elems spare => uptoBulkAll elems + uptoBulkAll spare + 1
  | .agg parts => uptoBulkAll parts + 1
  | .iface _ d => uptoBulk d + 1
  | .map entries => uptoBulkEntries entries + 1
  | .held _ => 1
def uptoBulkAll {H : Type} : List (DataW H) → Nat
  | [] => 0
  | d :: r => uptoBulk d + uptoBulkAll r
def uptoBulkEntries {H : Type} : List (Lit × DataW H) → Nat
  | [] => 0
  | x :: r => uptoBulkEntry x + uptoBulkEntries r
def uptoBulkEntry {H : Type} : Lit × DataW H → Nat
  | (.string bytes, d) => bytes.length + uptoBulk d + 1
  | (_, d) => uptoBulk d + 1
 end
def uptoSmall : (H : Type) → List (DataW H) → Bool := fun _ ds => decide (uptoBulkAll ds ≤ 1048576)
def OpenSpec.upto (s : _root_.Go.ChangeSpec) : _root_.Go.OpenSpec := { _root_.Go.OpenSpec.ofChange s with cond := some uptoSmall }

/-- 'bindlelaw17.SortSorts', WHERE WHAT IT READS IS OF BULK AT MOST 1048576: true; the input reads as it did. -/
def sortSortsUptoRow : OpenClaim := { program := "ytkglkpcpgdeneaa", sum := "c249625bf9db77c263cdac047ff9ebc647280d51c06b5d3c4cfc6d954bb2640a", func := "bindle/bindlelaw17.SortSorts", spec := "sortSorts", unfollowed := true, recurses := true, apart := false, narrowed := true }
def SortSortsUptoSaid : Prop := sortSortsUptoRow.holds Try.pinned (OpenSpec.upto sortSortsSpec)

/-- 'bindlelaw17.SortFails', WHERE WHAT IT READS IS OF BULK AT MOST 1048576: true; the input reads as it did. -/
def sortFailsUptoRow : OpenClaim := { program := "ytkglkpcpgdeneaa", sum := "c249625bf9db77c263cdac047ff9ebc647280d51c06b5d3c4cfc6d954bb2640a", func := "bindle/bindlelaw17.SortFails", spec := "sortFails", unfollowed := true, recurses := true, apart := false, narrowed := true }
def SortFailsUptoSaid : Prop := sortFailsUptoRow.holds Try.pinned (OpenSpec.upto sortFailsSpec)

/-- 'bindlelaw16.RunsRead', WHERE WHAT IT READS IS OF BULK AT MOST 1048576: true; the input reads as it did. -/
def runsReadUptoRow : OpenClaim := { program := "ytkglkpcpgdeneaa", sum := "c249625bf9db77c263cdac047ff9ebc647280d51c06b5d3c4cfc6d954bb2640a", func := "bindle/bindlelaw16.RunsRead", spec := "runsRead", unfollowed := true, recurses := true, apart := false, narrowed := true }
def RunsReadUptoSaid : Prop := runsReadUptoRow.holds Try.pinned (OpenSpec.upto runsReadSpec)

/-- 'bindlelaw16.RunsNone', WHERE WHAT IT READS IS OF BULK AT MOST 1048576: true; the input reads as it did. -/
def runsNoneUptoRow : OpenClaim := { program := "ytkglkpcpgdeneaa", sum := "c249625bf9db77c263cdac047ff9ebc647280d51c06b5d3c4cfc6d954bb2640a", func := "bindle/bindlelaw16.RunsNone", spec := "runsNone", unfollowed := true, recurses := true, apart := false, narrowed := true }
def RunsNoneUptoSaid : Prop := runsNoneUptoRow.holds Try.pinned (OpenSpec.upto runsNoneSpec)

/-- 'bindlelaw16.RunsSizes', WHERE WHAT IT READS IS OF BULK AT MOST 1048576: true; the input reads as it did. -/
def runsSizesUptoRow : OpenClaim := { program := "ytkglkpcpgdeneaa", sum := "c249625bf9db77c263cdac047ff9ebc647280d51c06b5d3c4cfc6d954bb2640a", func := "bindle/bindlelaw16.RunsSizes", spec := "runsSizes", unfollowed := true, recurses := true, apart := false, narrowed := true }
def RunsSizesUptoSaid : Prop := runsSizesUptoRow.holds Try.pinned (OpenSpec.upto runsSizesSpec)

/-- 'bindlelaw16.RunsForm', WHERE WHAT IT READS IS OF BULK AT MOST 1048576: true; the input reads as it did. -/
def runsFormUptoRow : OpenClaim := { program := "ytkglkpcpgdeneaa", sum := "c249625bf9db77c263cdac047ff9ebc647280d51c06b5d3c4cfc6d954bb2640a", func := "bindle/bindlelaw16.RunsForm", spec := "runsForm", unfollowed := true, recurses := true, apart := false, narrowed := true }
def RunsFormUptoSaid : Prop := runsFormUptoRow.holds Try.pinned (OpenSpec.upto runsFormSpec)

/-- 'bindlelaw17.SortHolds', WHERE WHAT IT READS IS OF BULK AT MOST 1048576: true; the input reads as it did. -/
def sortHoldsUptoRow : OpenClaim := { program := "ytkglkpcpgdeneaa", sum := "c249625bf9db77c263cdac047ff9ebc647280d51c06b5d3c4cfc6d954bb2640a", func := "bindle/bindlelaw17.SortHolds", spec := "sortHolds", unfollowed := true, recurses := true, apart := false, narrowed := true }
def SortHoldsUptoSaid : Prop := sortHoldsUptoRow.holds Try.pinned (OpenSpec.upto sortHoldsSpec)

/-- 'bindlelaw17.SortSame', WHERE WHAT IT READS IS OF BULK AT MOST 1048576: true; the input reads as it did. -/
def sortSameUptoRow : OpenClaim := { program := "ytkglkpcpgdeneaa", sum := "c249625bf9db77c263cdac047ff9ebc647280d51c06b5d3c4cfc6d954bb2640a", func := "bindle/bindlelaw17.SortSame", spec := "sortSame", unfollowed := true, recurses := true, apart := false, narrowed := true }
def SortSameUptoSaid : Prop := sortSameUptoRow.holds Try.pinned (OpenSpec.upto sortSameSpec)

/-- 'bindlelaw17.SortMerges', WHERE WHAT IT READS IS OF BULK AT MOST 1048576: true; the input reads as it did. -/
def sortMergesUptoRow : OpenClaim := { program := "ytkglkpcpgdeneaa", sum := "c249625bf9db77c263cdac047ff9ebc647280d51c06b5d3c4cfc6d954bb2640a", func := "bindle/bindlelaw17.SortMerges", spec := "sortMerges", unfollowed := true, recurses := true, apart := false, narrowed := true }
def SortMergesUptoSaid : Prop := sortMergesUptoRow.holds Try.pinned (OpenSpec.upto sortMergesSpec)

/-- 'bindlelaw17.SortAll', WHERE WHAT IT READS IS OF BULK AT MOST 1048576: true; the input reads as it did. -/
def sortAllUptoRow : OpenClaim := { program := "ytkglkpcpgdeneaa", sum := "c249625bf9db77c263cdac047ff9ebc647280d51c06b5d3c4cfc6d954bb2640a", func := "bindle/bindlelaw17.SortAll", spec := "sortAll", unfollowed := true, recurses := true, apart := false, narrowed := true }
def SortAllUptoSaid : Prop := sortAllUptoRow.holds Try.pinned (OpenSpec.upto sortAllSpec)

end Rows
end Go.Proofs.Ytkglkpcpgdeneaa
