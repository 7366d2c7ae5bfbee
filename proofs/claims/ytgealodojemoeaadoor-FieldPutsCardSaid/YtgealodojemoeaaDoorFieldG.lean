/- bytes: makeASCIISet at a blank and the byte 0. (alias Tryd) Conditions: none. -/
import Derived.Test.YtgealodojemoeaaDoorFieldF
import Derived.Deep.WholeRow
import Derived.Lib.AsciiSet
import Derived.Laws.ResultCell
namespace Go.Proofs.YtgealodojemoeaaDoor
open Go.RowKit
set_option linter.unusedVariables false
set_option linter.unusedSimpArgs false

theorem infoSet : (Tryd.prog.info? 43).map (fun i => (i.zero, i.size)) = some (some (.agg (Array.replicate 256 (.bool false))), 256) := by kernel_rfl
abbrev blankZero : List UInt8 := [32, 0]
set_option maxRecDepth 1000000 in
set_option maxHeartbeats 4000000 in
theorem make_set (w : World) :
    Calls Tryd.prog 22 #[.string ⟨#[32, 0]⟩] w fun e w' => e = .returned (.tuple #[.agg (Lib.setCells blankZero), .bool true]) ∧ w' = w.alloc (.cells (Lib.setCells blankZero) 43) := by
  have hz := (zero_of_info infoSet).1
  have hi := (zero_of_info infoSet).2
  have hza := hz w
  go_enter Tryd.func22, Tryd.ntmps22
  go_wp2_with fail
  rw [← Lib.setCells_nil]
  go_loopw [4] (fun v4 wr => ∃ i : Nat, i ≤ 2 ∧ v4 = .int .i64 i ∧ wr = w.alloc (.cells (Lib.setCells (blankZero.take i)) 43)) (fun v4 _ => 2 - (intOf v4).toNat)
  case atStart => exact ⟨0, by omega, rfl, rfl⟩
  case round =>
    clear hza
    obtain ⟨i, hi2, rfl, rfl⟩ := hrel
    by_cases hlt : i < 2
    · have h01 : i = 0 ∨ i = 1 := by omega
      rcases h01 with rfl | rfl
      · have hcell : (Lib.setCells [])[(32 : UInt8).toNat]? = some (.bool false) := Lib.setCells_at [] 32
        have hc2 : (Lib.setCells [])[32]? = some (.bool false) := hcell
        rw [show blankZero.take 0 = [] from rfl]
        clear hlt hi2 hcell
        go_wp2_with fail
        go_roundw
        case rel => exact ⟨1, by omega, rfl, by rw [show blankZero.take 1 = [] ++ [32] from rfl, Lib.setCells_snoc]; rfl⟩
        case measure => simp [intOf]
      · have hcell : (Lib.setCells [32])[(0 : UInt8).toNat]? = some (.bool ([(32 : UInt8)].contains 0)) := Lib.setCells_at [32] 0
        have hc2 : (Lib.setCells [32])[0]? = some (.bool false) := hcell
        rw [show blankZero.take 1 = [32] from rfl]
        clear hlt hi2 hcell
        go_wp2_with fail
        go_roundw
        case rel => exact ⟨2, by omega, rfl, by rw [show blankZero.take 2 = [32] ++ [0] from rfl, Lib.setCells_snoc]; rfl⟩
        case measure => simp [intOf]
    · obtain rfl : i = 2 := by omega
      have hsz := Lib.setCells_size blankZero
      have hld := run_loadVar_new (P := Tryd.prog) w 43 (Lib.setCells blankZero) 256 4 Tryd.underlying43 (by rw [hsz]; exact hi)
      have hla := run_loadAt_new (P := Tryd.prog) w 43 (Lib.setCells blankZero) 256 4 Tryd.underlying43 (by rw [hsz]; exact hi)
      have hsc := run_storeCells_new (P := Tryd.prog) w 43 (Lib.setCells blankZero) (Lib.setCells blankZero) (by rw [hsz]; exact hi) rfl (Lib.setCells_one _)
      rw [show blankZero.take 2 = blankZero from rfl]
      go_wp2_with fail
      unfold Oper.wp
      simp [execOp, Act.eval, hla]
      rw [Oper.upon_value]
      go_wp2_with fail
      (try simp only [Exit.inBlock, Exit.then])
      refine bodyPost_ret (v := .tuple #[.agg (Lib.setCells blankZero), .bool true]) ?_ rfl ⟨rfl, rfl⟩
      rw [results_cell_tmp rfl]
      simp [asAddr, Result.andThen, hld]
end Go.Proofs.YtgealodojemoeaaDoor
