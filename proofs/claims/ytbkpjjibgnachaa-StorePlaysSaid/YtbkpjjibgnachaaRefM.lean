/- The reference's store as a plain model, and that it is the store's model. No program in sight. Conditions: none. -/
import Derived.Test.YtbkpjjibgnachaaStoreN
namespace Go.Proofs.Ytbkpjjibgnachaa
open Go.RowKit

structure RefM where
  room : Int
  fails : List Int
  runs : List (List UInt8)
  there : List Bool
  writes : Int
  peak : Int
namespace RefM
def used (R : RefM) : Nat := ((List.range R.runs.length).map fun i => if R.there.getD i false then (R.runs.getD i []).length else 0).sum
def usedTo (R : RefM) (i : Nat) : Nat := ((List.range i).map fun j => if R.there.getD j false then (R.runs.getD j []).length else 0).sum
theorem usedTo_succ (R : RefM) (i : Nat) : R.usedTo (i + 1) = R.usedTo i + (if R.there.getD i false then (R.runs.getD i []).length else 0) := by
  unfold usedTo
  rw [List.range_succ, List.map_append, List.sum_append]
  simp
theorem usedTo_all (R : RefM) : R.usedTo R.runs.length = R.used := rfl
theorem usedTo_le (R : RefM) {i j : Nat} (h : i ≤ j) : R.usedTo i ≤ R.usedTo j := by
  induction h with
  | refl => exact Nat.le_refl _
  | step _ ih => rw [usedTo_succ]; omega
def has (R : RefM) (id : Int) : Bool := decide (0 ≤ id) && (decide (id < R.runs.length) && R.there.getD id.toNat false)
def wrote (R : RefM) : RefM := { R with writes := R.writes + 1 }
def put (R : RefM) (id : Nat) (b : List UInt8) : RefM := { R with runs := R.runs.set id (R.runs.getD id [] ++ b) }
def top (R : RefM) : RefM := { R with peak := if R.peak < R.used then R.used else R.peak }
def appendE (R : RefM) (id : Int) (b : List UInt8) : Int :=
  if R.has id then (if R.fails.contains R.writes then 13 else if R.room - R.used < (b.length : Int) then 12 else 0) else 14
def append (R : RefM) (id : Int) (b : List UInt8) : RefM :=
  if R.has id then (if R.fails.contains R.writes then R.wrote else if R.room - R.used < (b.length : Int) then R.wrote else (R.wrote.put id.toNat b).top) else R
def create (R : RefM) : RefM := { R with runs := R.runs ++ [[]], there := R.there ++ [true] }
def drop (R : RefM) (id : Nat) : RefM := { R with there := R.there.set id false }
end RefM
end Go.Proofs.Ytbkpjjibgnachaa
