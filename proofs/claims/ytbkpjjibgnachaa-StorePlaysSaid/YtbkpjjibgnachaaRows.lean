/-
  No cell of these rows narrows 'for every input' (looked for: loops, veiled, ifaces, maps, wideKeys, modest, calm, conditions, laid).
  DERIVED. THE GIVEN ROWS OF THIS SEAT. 12 by the template 'for every input the law returns true; each argument reads behind the call as it read before'; 0 by the template 'total and deterministic' (their statements: YtbkpjjibgnachaaTotals.lean).
  GIVEN WITH THE SEED: the statements are not yours to turn. If you find one false, say at which input.
  Laid BY PROGRAM, IN A SANDBOX (cutbox-rows.mjs): the forced cells as the released guide's own fill.sh prints them over the translation 298c749db3ef3dbb… (all of the seat's roots in one cut). By AI agents, Wed Nov 11 2026. No macro, syntax, notation, axiom, sorry.
-/
import Derived.Test.YtbkpjjibgnachaaChecked
import GoSem.Claim
import GoSem.ClaimJoined
import GoSem.ClaimMapViews
import Derived.JoinedTies
import Derived.KernelRfl
namespace Go.Proofs.Ytbkpjjibgnachaa
/- THE CELL 'sum', in the pinned program and in every row, IS THE sha256 OF THE DUMP (.gsa) THAT YtbkpjjibgnachaaProg.lean LOADS. Nothing in Lean hashes anything: it is a label: what it is worth is what the hold of that sum in a sandbox is worth. -/
noncomputable def Try.pinned : Pinned := { name := "ytbkpjjibgnachaa", sum := "298c749db3ef3dbbc1e4ff6a36d5ec6dfb68705e47b4d0bcd6973c01c229b642", checked := Try.checked }
namespace Rows
def none {H : Type} : Left H := { results := [], args := [] }

/-- 'bindlelaw14.StoreParts': WHATEVER THE INPUT: true; the input reads as it did. -/
def storePartsSpec : ChangeSpec := { name := "storeParts", fn := fun _ => fun
  | [d1, d2] => { results := [.lit (.bool true)], args := [d1, d2] }
  | _ => none }
def storePartsRow : OpenClaim := { program := "ytbkpjjibgnachaa", sum := "298c749db3ef3dbbc1e4ff6a36d5ec6dfb68705e47b4d0bcd6973c01c229b642", func := "bindle/bindlelaw14.StoreParts", spec := "storeParts", apart := false }
def StorePartsSaid : Prop := storePartsRow.holds Try.pinned (OpenSpec.ofChange storePartsSpec)

/-- ITS FALSE NEIGHBOUR: 'it returns false'. Refute it at one input. -/
def storePartsWrong : ChangeSpec := { name := "storeParts", fn := fun _ => fun
  | [d1, d2] => { results := [.lit (.bool false)], args := [d1, d2] }
  | _ => none }
def StorePartsWrongFalsely : Prop := storePartsRow.holds Try.pinned (OpenSpec.ofChange storePartsWrong)

/-- 'bindlelaw14.StoreFull': WHATEVER THE INPUT: true; the input reads as it did. -/
def storeFullSpec : ChangeSpec := { name := "storeFull", fn := fun _ => fun
  | [d1, d2] => { results := [.lit (.bool true)], args := [d1, d2] }
  | _ => none }
def storeFullRow : OpenClaim := { program := "ytbkpjjibgnachaa", sum := "298c749db3ef3dbbc1e4ff6a36d5ec6dfb68705e47b4d0bcd6973c01c229b642", func := "bindle/bindlelaw14.StoreFull", spec := "storeFull", apart := false }
def StoreFullSaid : Prop := storeFullRow.holds Try.pinned (OpenSpec.ofChange storeFullSpec)

/-- ITS FALSE NEIGHBOUR: 'it returns false'. Refute it at one input. -/
def storeFullWrong : ChangeSpec := { name := "storeFull", fn := fun _ => fun
  | [d1, d2] => { results := [.lit (.bool false)], args := [d1, d2] }
  | _ => none }
def StoreFullWrongFalsely : Prop := storeFullRow.holds Try.pinned (OpenSpec.ofChange storeFullWrong)

/-- 'bindlelaw15.HeapPlays': WHATEVER THE INPUT: true; the input reads as it did. -/
def heapPlaysSpec : ChangeSpec := { name := "heapPlays", fn := fun _ => fun
  | [d1, d2] => { results := [.lit (.bool true)], args := [d1, d2] }
  | _ => none }
def heapPlaysRow : OpenClaim := { program := "ytbkpjjibgnachaa", sum := "298c749db3ef3dbbc1e4ff6a36d5ec6dfb68705e47b4d0bcd6973c01c229b642", func := "bindle/bindlelaw15.HeapPlays", spec := "heapPlays", apart := false }
def HeapPlaysSaid : Prop := heapPlaysRow.holds Try.pinned (OpenSpec.ofChange heapPlaysSpec)

/-- ITS FALSE NEIGHBOUR: 'it returns false'. Refute it at one input. -/
def heapPlaysWrong : ChangeSpec := { name := "heapPlays", fn := fun _ => fun
  | [d1, d2] => { results := [.lit (.bool false)], args := [d1, d2] }
  | _ => none }
def HeapPlaysWrongFalsely : Prop := heapPlaysRow.holds Try.pinned (OpenSpec.ofChange heapPlaysWrong)

/-- 'bindlelaw15.HeapSorts': WHATEVER THE INPUT: true; the input reads as it did. -/
def heapSortsSpec : ChangeSpec := { name := "heapSorts", fn := fun _ => fun
  | [d1, d2] => { results := [.lit (.bool true)], args := [d1, d2] }
  | _ => none }
def heapSortsRow : OpenClaim := { program := "ytbkpjjibgnachaa", sum := "298c749db3ef3dbbc1e4ff6a36d5ec6dfb68705e47b4d0bcd6973c01c229b642", func := "bindle/bindlelaw15.HeapSorts", spec := "heapSorts", apart := false }
def HeapSortsSaid : Prop := heapSortsRow.holds Try.pinned (OpenSpec.ofChange heapSortsSpec)

/-- ITS FALSE NEIGHBOUR: 'it returns false'. Refute it at one input. -/
def heapSortsWrong : ChangeSpec := { name := "heapSorts", fn := fun _ => fun
  | [d1, d2] => { results := [.lit (.bool false)], args := [d1, d2] }
  | _ => none }
def HeapSortsWrongFalsely : Prop := heapSortsRow.holds Try.pinned (OpenSpec.ofChange heapSortsWrong)

/-- 'bindlelaw15.HeapNone': WHATEVER THE INPUT: true; the input reads as it did. -/
def heapNoneSpec : ChangeSpec := { name := "heapNone", fn := fun _ => fun
  | [d] => { results := [.lit (.bool true)], args := [d] }
  | _ => none }
def heapNoneRow : OpenClaim := { program := "ytbkpjjibgnachaa", sum := "298c749db3ef3dbbc1e4ff6a36d5ec6dfb68705e47b4d0bcd6973c01c229b642", func := "bindle/bindlelaw15.HeapNone", spec := "heapNone", apart := false }
def HeapNoneSaid : Prop := heapNoneRow.holds Try.pinned (OpenSpec.ofChange heapNoneSpec)

/-- ITS FALSE NEIGHBOUR: 'it returns false'. Refute it at one input. -/
def heapNoneWrong : ChangeSpec := { name := "heapNone", fn := fun _ => fun
  | [d] => { results := [.lit (.bool false)], args := [d] }
  | _ => none }
def HeapNoneWrongFalsely : Prop := heapNoneRow.holds Try.pinned (OpenSpec.ofChange heapNoneWrong)

/-- 'bindlelaw14.StorePlays': WHATEVER THE INPUT: true; the input reads as it did. -/
def storePlaysSpec : ChangeSpec := { name := "storePlays", fn := fun _ => fun
  | [d1, d2, d3] => { results := [.lit (.bool true)], args := [d1, d2, d3] }
  | _ => none }
def storePlaysRow : OpenClaim := { program := "ytbkpjjibgnachaa", sum := "298c749db3ef3dbbc1e4ff6a36d5ec6dfb68705e47b4d0bcd6973c01c229b642", func := "bindle/bindlelaw14.StorePlays", spec := "storePlays", apart := false }
def StorePlaysSaid : Prop := storePlaysRow.holds Try.pinned (OpenSpec.ofChange storePlaysSpec)

/-- ITS FALSE NEIGHBOUR: 'it returns false'. Refute it at one input. -/
def storePlaysWrong : ChangeSpec := { name := "storePlays", fn := fun _ => fun
  | [d1, d2, d3] => { results := [.lit (.bool false)], args := [d1, d2, d3] }
  | _ => none }
def StorePlaysWrongFalsely : Prop := storePlaysRow.holds Try.pinned (OpenSpec.ofChange storePlaysWrong)

/-- 'bindlelaw14.StoreNone': WHATEVER THE INPUT: true; the input reads as it did. -/
def storeNoneSpec : ChangeSpec := { name := "storeNone", fn := fun _ => fun
  | [d1, d2] => { results := [.lit (.bool true)], args := [d1, d2] }
  | _ => none }
def storeNoneRow : OpenClaim := { program := "ytbkpjjibgnachaa", sum := "298c749db3ef3dbbc1e4ff6a36d5ec6dfb68705e47b4d0bcd6973c01c229b642", func := "bindle/bindlelaw14.StoreNone", spec := "storeNone", apart := false }
def StoreNoneSaid : Prop := storeNoneRow.holds Try.pinned (OpenSpec.ofChange storeNoneSpec)

/-- ITS FALSE NEIGHBOUR: 'it returns false'. Refute it at one input. -/
def storeNoneWrong : ChangeSpec := { name := "storeNone", fn := fun _ => fun
  | [d1, d2] => { results := [.lit (.bool false)], args := [d1, d2] }
  | _ => none }
def StoreNoneWrongFalsely : Prop := storeNoneRow.holds Try.pinned (OpenSpec.ofChange storeNoneWrong)

/-- 'bindlelaw13.RecPuts': WHATEVER THE INPUT: true; the input reads as it did. -/
def recPutsSpec : ChangeSpec := { name := "recPuts", fn := fun _ => fun
  | [d1, d2] => { results := [.lit (.bool true)], args := [d1, d2] }
  | _ => none }
def recPutsRow : OpenClaim := { program := "ytbkpjjibgnachaa", sum := "298c749db3ef3dbbc1e4ff6a36d5ec6dfb68705e47b4d0bcd6973c01c229b642", func := "bindle/bindlelaw13.RecPuts", spec := "recPuts", apart := false }
def RecPutsSaid : Prop := recPutsRow.holds Try.pinned (OpenSpec.ofChange recPutsSpec)

/-- ITS FALSE NEIGHBOUR: 'it returns false'. Refute it at one input. -/
def recPutsWrong : ChangeSpec := { name := "recPuts", fn := fun _ => fun
  | [d1, d2] => { results := [.lit (.bool false)], args := [d1, d2] }
  | _ => none }
def RecPutsWrongFalsely : Prop := recPutsRow.holds Try.pinned (OpenSpec.ofChange recPutsWrong)

/-- 'bindlelaw13.RecGets': WHATEVER THE INPUT: true; the input reads as it did. -/
def recGetsSpec : ChangeSpec := { name := "recGets", fn := fun _ => fun
  | [d] => { results := [.lit (.bool true)], args := [d] }
  | _ => none }
def recGetsRow : OpenClaim := { program := "ytbkpjjibgnachaa", sum := "298c749db3ef3dbbc1e4ff6a36d5ec6dfb68705e47b4d0bcd6973c01c229b642", func := "bindle/bindlelaw13.RecGets", spec := "recGets", apart := false }
def RecGetsSaid : Prop := recGetsRow.holds Try.pinned (OpenSpec.ofChange recGetsSpec)

/-- ITS FALSE NEIGHBOUR: 'it returns false'. Refute it at one input. -/
def recGetsWrong : ChangeSpec := { name := "recGets", fn := fun _ => fun
  | [d] => { results := [.lit (.bool false)], args := [d] }
  | _ => none }
def RecGetsWrongFalsely : Prop := recGetsRow.holds Try.pinned (OpenSpec.ofChange recGetsWrong)

/-- 'bindlelaw13.RecOrders': WHATEVER THE INPUT: true; the input reads as it did. -/
def recOrdersSpec : ChangeSpec := { name := "recOrders", fn := fun _ => fun
  | [d1, d2, d3] => { results := [.lit (.bool true)], args := [d1, d2, d3] }
  | _ => none }
def recOrdersRow : OpenClaim := { program := "ytbkpjjibgnachaa", sum := "298c749db3ef3dbbc1e4ff6a36d5ec6dfb68705e47b4d0bcd6973c01c229b642", func := "bindle/bindlelaw13.RecOrders", spec := "recOrders", apart := false }
def RecOrdersSaid : Prop := recOrdersRow.holds Try.pinned (OpenSpec.ofChange recOrdersSpec)

/-- ITS FALSE NEIGHBOUR: 'it returns false'. Refute it at one input. -/
def recOrdersWrong : ChangeSpec := { name := "recOrders", fn := fun _ => fun
  | [d1, d2, d3] => { results := [.lit (.bool false)], args := [d1, d2, d3] }
  | _ => none }
def RecOrdersWrongFalsely : Prop := recOrdersRow.holds Try.pinned (OpenSpec.ofChange recOrdersWrong)

/-- 'bindlelaw13.RecRow': WHATEVER THE INPUT: true; the input reads as it did. -/
def recRowSpec : ChangeSpec := { name := "recRow", fn := fun _ => fun
  | [d1, d2] => { results := [.lit (.bool true)], args := [d1, d2] }
  | _ => none }
def recRowRow : OpenClaim := { program := "ytbkpjjibgnachaa", sum := "298c749db3ef3dbbc1e4ff6a36d5ec6dfb68705e47b4d0bcd6973c01c229b642", func := "bindle/bindlelaw13.RecRow", spec := "recRow", apart := false }
def RecRowSaid : Prop := recRowRow.holds Try.pinned (OpenSpec.ofChange recRowSpec)

/-- ITS FALSE NEIGHBOUR: 'it returns false'. Refute it at one input. -/
def recRowWrong : ChangeSpec := { name := "recRow", fn := fun _ => fun
  | [d1, d2] => { results := [.lit (.bool false)], args := [d1, d2] }
  | _ => none }
def RecRowWrongFalsely : Prop := recRowRow.holds Try.pinned (OpenSpec.ofChange recRowWrong)

/-- 'bindlelaw13.RecSorts': WHATEVER THE INPUT: true; the input reads as it did. -/
def recSortsSpec : ChangeSpec := { name := "recSorts", fn := fun _ => fun
  | [d] => { results := [.lit (.bool true)], args := [d] }
  | _ => none }
def recSortsRow : OpenClaim := { program := "ytbkpjjibgnachaa", sum := "298c749db3ef3dbbc1e4ff6a36d5ec6dfb68705e47b4d0bcd6973c01c229b642", func := "bindle/bindlelaw13.RecSorts", spec := "recSorts", unfollowed := true, recurses := true, apart := false }
def RecSortsSaid : Prop := recSortsRow.holds Try.pinned (OpenSpec.ofChange recSortsSpec)

/-- ITS FALSE NEIGHBOUR: 'it returns false'. Refute it at one input. -/
def recSortsWrong : ChangeSpec := { name := "recSorts", fn := fun _ => fun
  | [d] => { results := [.lit (.bool false)], args := [d] }
  | _ => none }
def RecSortsWrongFalsely : Prop := recSortsRow.holds Try.pinned (OpenSpec.ofChange recSortsWrong)

/- THE SECOND FORM. 'bulk': how many values and letters a reading holds, each counted each time it is reached (what is shared counts as often as it is met; a slice's spare places count too). A statement '..UptoSaid' is the law's where the arguments, and the package variables that the reading takes, are together of bulk at most 1048576: NARROWER than '..Said'. Prove '..Said' where nothing that the law and all that it calls make is longer than what came in: it says more and counts as full. Else prove '..UptoSaid'. A law counts once. -/
mutual
def uptoBulk {H : Type} : DataW H → Nat
  | .lit (.string bytes) => bytes.length + 1
  | .lit _ => 1
  | .nil => 1
  | .ptr d => uptoBulk d + 1
  | .slice elems spare => uptoBulkAll elems + uptoBulkAll spare + 1
  | .agg parts => uptoBulkAll parts + 1
  | .iface _ d => uptoBulk d + 1
  | .map entries => uptoBulkEntries entries + 1
  | .held _ => 1
def uptoBulkAll {H : Type} : List (DataW H) → Nat
  | [] => 0
  | d :: r => uptoBulk d + uptoBulkAll r
def uptoBulkEntries {H : Type} : List (Lit × DataW H) → Nat
  | [] => 0
  | x :: r => uptoBulkEntry x + uptoBulkEntries r
def uptoBulkEntry {H : Type} : Lit × DataW H → Nat
  | (.string bytes, d) => bytes.length + uptoBulk d + 1
  | (_, d) => uptoBulk d + 1
 end
def uptoSmall : (H : Type) → List (DataW H) → Bool := fun _ ds => decide (uptoBulkAll ds ≤ 1048576)
def OpenSpec.upto (s : _root_.Go.ChangeSpec) : _root_.Go.OpenSpec := { _root_.Go.OpenSpec.ofChange s with cond := some uptoSmall }

/-- 'bindlelaw14.StoreParts', WHERE WHAT IT READS IS OF BULK AT MOST 1048576: true; the input reads as it did. -/
def storePartsUptoRow : OpenClaim := { program := "ytbkpjjibgnachaa", sum := "298c749db3ef3dbbc1e4ff6a36d5ec6dfb68705e47b4d0bcd6973c01c229b642", func := "bindle/bindlelaw14.StoreParts", spec := "storeParts", apart := false, narrowed := true }
def StorePartsUptoSaid : Prop := storePartsUptoRow.holds Try.pinned (OpenSpec.upto storePartsSpec)

/-- 'bindlelaw14.StoreFull', WHERE WHAT IT READS IS OF BULK AT MOST 1048576: true; the input reads as it did. -/
def storeFullUptoRow : OpenClaim := { program := "ytbkpjjibgnachaa", sum := "298c749db3ef3dbbc1e4ff6a36d5ec6dfb68705e47b4d0bcd6973c01c229b642", func := "bindle/bindlelaw14.StoreFull", spec := "storeFull", apart := false, narrowed := true }
def StoreFullUptoSaid : Prop := storeFullUptoRow.holds Try.pinned (OpenSpec.upto storeFullSpec)

/-- 'bindlelaw15.HeapPlays', WHERE WHAT IT READS IS OF BULK AT MOST 1048576: true; the input reads as it did. -/
def heapPlaysUptoRow : OpenClaim := { program := "ytbkpjjibgnachaa", sum := "298c749db3ef3dbbc1e4ff6a36d5ec6dfb68705e47b4d0bcd6973c01c229b642", func := "bindle/bindlelaw15.HeapPlays", spec := "heapPlays", apart := false, narrowed := true }
def HeapPlaysUptoSaid : Prop := heapPlaysUptoRow.holds Try.pinned (OpenSpec.upto heapPlaysSpec)

/-- 'bindlelaw15.HeapSorts', WHERE WHAT IT READS IS OF BULK AT MOST 1048576: true; the input reads as it did. -/
def heapSortsUptoRow : OpenClaim := { program := "ytbkpjjibgnachaa", sum := "298c749db3ef3dbbc1e4ff6a36d5ec6dfb68705e47b4d0bcd6973c01c229b642", func := "bindle/bindlelaw15.HeapSorts", spec := "heapSorts", apart := false, narrowed := true }
def HeapSortsUptoSaid : Prop := heapSortsUptoRow.holds Try.pinned (OpenSpec.upto heapSortsSpec)

/-- 'bindlelaw15.HeapNone', WHERE WHAT IT READS IS OF BULK AT MOST 1048576: true; the input reads as it did. -/
def heapNoneUptoRow : OpenClaim := { program := "ytbkpjjibgnachaa", sum := "298c749db3ef3dbbc1e4ff6a36d5ec6dfb68705e47b4d0bcd6973c01c229b642", func := "bindle/bindlelaw15.HeapNone", spec := "heapNone", apart := false, narrowed := true }
def HeapNoneUptoSaid : Prop := heapNoneUptoRow.holds Try.pinned (OpenSpec.upto heapNoneSpec)

/-- 'bindlelaw14.StorePlays', WHERE WHAT IT READS IS OF BULK AT MOST 1048576: true; the input reads as it did. -/
def storePlaysUptoRow : OpenClaim := { program := "ytbkpjjibgnachaa", sum := "298c749db3ef3dbbc1e4ff6a36d5ec6dfb68705e47b4d0bcd6973c01c229b642", func := "bindle/bindlelaw14.StorePlays", spec := "storePlays", apart := false, narrowed := true }
def StorePlaysUptoSaid : Prop := storePlaysUptoRow.holds Try.pinned (OpenSpec.upto storePlaysSpec)

/-- 'bindlelaw14.StoreNone', WHERE WHAT IT READS IS OF BULK AT MOST 1048576: true; the input reads as it did. -/
def storeNoneUptoRow : OpenClaim := { program := "ytbkpjjibgnachaa", sum := "298c749db3ef3dbbc1e4ff6a36d5ec6dfb68705e47b4d0bcd6973c01c229b642", func := "bindle/bindlelaw14.StoreNone", spec := "storeNone", apart := false, narrowed := true }
def StoreNoneUptoSaid : Prop := storeNoneUptoRow.holds Try.pinned (OpenSpec.upto storeNoneSpec)

/-- 'bindlelaw13.RecPuts', WHERE WHAT IT READS IS OF BULK AT MOST 1048576: true; the input reads as it did. -/
def recPutsUptoRow : OpenClaim := { program := "ytbkpjjibgnachaa", sum := "298c749db3ef3dbbc1e4ff6a36d5ec6dfb68705e47b4d0bcd6973c01c229b642", func := "bindle/bindlelaw13.RecPuts", spec := "recPuts", apart := false, narrowed := true }
def RecPutsUptoSaid : Prop := recPutsUptoRow.holds Try.pinned (OpenSpec.upto recPutsSpec)

/-- 'bindlelaw13.RecGets', WHERE WHAT IT READS IS OF BULK AT MOST 1048576: true; the input reads as it did. -/
def recGetsUptoRow : OpenClaim := { program := "ytbkpjjibgnachaa", sum := "298c749db3ef3dbbc1e4ff6a36d5ec6dfb68705e47b4d0bcd6973c01c229b642", func := "bindle/bindlelaw13.RecGets", spec := "recGets", apart := false, narrowed := true }
def RecGetsUptoSaid : Prop := recGetsUptoRow.holds Try.pinned (OpenSpec.upto recGetsSpec)

/-- 'bindlelaw13.RecOrders', WHERE WHAT IT READS IS OF BULK AT MOST 1048576: true; the input reads as it did. -/
def recOrdersUptoRow : OpenClaim := { program := "ytbkpjjibgnachaa", sum := "298c749db3ef3dbbc1e4ff6a36d5ec6dfb68705e47b4d0bcd6973c01c229b642", func := "bindle/bindlelaw13.RecOrders", spec := "recOrders", apart := false, narrowed := true }
def RecOrdersUptoSaid : Prop := recOrdersUptoRow.holds Try.pinned (OpenSpec.upto recOrdersSpec)

/-- 'bindlelaw13.RecRow', WHERE WHAT IT READS IS OF BULK AT MOST 1048576: true; the input reads as it did. -/
def recRowUptoRow : OpenClaim := { program := "ytbkpjjibgnachaa", sum := "298c749db3ef3dbbc1e4ff6a36d5ec6dfb68705e47b4d0bcd6973c01c229b642", func := "bindle/bindlelaw13.RecRow", spec := "recRow", apart := false, narrowed := true }
def RecRowUptoSaid : Prop := recRowUptoRow.holds Try.pinned (OpenSpec.upto recRowSpec)

/-- 'bindlelaw13.RecSorts', WHERE WHAT IT READS IS OF BULK AT MOST 1048576: true; the input reads as it did. -/
def recSortsUptoRow : OpenClaim := { program := "ytbkpjjibgnachaa", sum := "298c749db3ef3dbbc1e4ff6a36d5ec6dfb68705e47b4d0bcd6973c01c229b642", func := "bindle/bindlelaw13.RecSorts", spec := "recSorts", unfollowed := true, recurses := true, apart := false, narrowed := true }
def RecSortsUptoSaid : Prop := recSortsUptoRow.holds Try.pinned (OpenSpec.upto recSortsSpec)

end Rows
end Go.Proofs.Ytbkpjjibgnachaa
