/- bytes: TrimRight at a blank and the byte 0. (alias Tryd) Conditions: none. -/
import Derived.Test.YtgealodojemoeaaDoorFieldG
namespace Go.Proofs.YtgealodojemoeaaDoor
open Go.RowKit
set_option linter.unusedVariables false

def isBZ (d : UInt8) : Bool := blankZero.contains d
theorem setAt_made (w : World) (t : TypeId) : SetAt (w.alloc (.cells (Lib.setCells blankZero) t)) w.heap.size isBZ := by
  intro d
  have h1 := (Blk.new w t (Lib.setCells blankZero).toList).cell d.toNat
  rw [Array.toArray_toList] at h1
  rw [h1]
  have h2 := Lib.setCells_at blankZero d
  rw [← Array.getElem?_toList] at h2
  exact h2
set_option maxRecDepth 1000000 in
set_option maxHeartbeats 4000000 in
theorem trimRight_nil (w : World) (A : Option Addr) (c : Nat) :
    Calls Tryd.prog 15 #[.slice A 0 c, .string ⟨#[32, 0]⟩] w fun e w' => e = .returned (.slice A 0 c) ∧ w = w' := by
  go_enter Tryd.func15, Tryd.ntmps15
  go_wp2_with fail
  go_ret
  exact ⟨rfl, rfl⟩
set_option maxRecDepth 1000000 in
set_option maxHeartbeats 4000000 in
theorem trimRight_bz (w : World) (g o n c : Nat) (L : List UInt8) (hn : n = L.length) (h0 : 0 < n) (hc : n ≤ c) (hc2 : c ≤ 9223372036854775807) (hr : RdV w (some ⟨g, o, none⟩) (bys L)) :
    Calls Tryd.prog 15 #[.slice (some ⟨g, o, none⟩) n c, .string ⟨#[32, 0]⟩] w fun e w' => e = .returned (.slice (some ⟨g, o, none⟩) (keptR isBZ L) c) ∧ Keep (fun j => w.heap.size ≤ j) w w' := by
  have HR := Lib.hid (And.intro hr (And.intro hn (And.intro hc hc2)))
  have q0 : ¬ (n : Int) = 0 := by omega
  clear hr hn hc hc2 h0
  go_enter Tryd.func15, Tryd.ntmps15
  go_wp2_with fail
  refine (make_set w).mono ?_
  rintro e w1 ⟨rfl, rfl⟩
  obtain ⟨w2, hw2⟩ : ∃ w2, w2 = w.alloc (.cells (Lib.setCells blankZero) 43) := ⟨_, rfl⟩
  rw [← hw2]
  have hk2 : Keep (fun j => w.heap.size ≤ j) w w2 := by rw [hw2]; exact (Keep.refl _ w).alloc _
  have HK2 := Lib.hid hk2
  have HR2 : Hid (RdV w2 (some ⟨g, o, none⟩) (bys L)) := Lib.hid (HR.out.1.old hk2)
  clear hw2 hk2
  have hza := (zero_of_info infoSet).1 w2
  have hi := (zero_of_info infoSet).2
  have hsz := Lib.setCells_size blankZero
  have hsc := run_storeCells_new (P := Tryd.prog) w2 43 (Array.replicate 256 (.bool false)) (Lib.setCells blankZero) (by rw [hsz]; exact hi) (by rw [hsz]; simp) (Lib.setCells_one _)
  clear hi hsz
  go_wp2_with fail
  have ha : Keep (fun j => w2.heap.size ≤ j) w2 (w2.alloc (.cells (Lib.setCells blankZero) 43)) := (Keep.refl _ w2).alloc _
  have HK3 : Hid (Keep (fun j => w.heap.size ≤ j) w (w2.alloc (.cells (Lib.setCells blankZero) 43))) := Lib.hid (HK2.out.trans' ha (fun j _ h => by have := HK2.out.size; omega))
  refine (trimRightASCII_any _ g o n c w2.heap.size L isBZ (setAt_made w2 _) HR.out.2.1 HR.out.2.2.1 HR.out.2.2.2 (HR2.out.old ha)).mono ?_
  rintro e w3 ⟨rfl, rfl⟩
  clear ha
  go_wp2_with fail
  go_ret
  exact ⟨rfl, HK3.out⟩
end Go.Proofs.YtgealodojemoeaaDoor
