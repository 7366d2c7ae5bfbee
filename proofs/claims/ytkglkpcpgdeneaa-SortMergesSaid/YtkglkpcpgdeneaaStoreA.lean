/- The scratch store: how it lies in memory, and its look-up. Conditions: none. -/
import Derived.Test.YtkglkpcpgdeneaaRows
import Derived.Test.YtkglkpcpgdeneaaMaps
import Derived.Test.YtkglkpcpgdeneaaCloneB
import Derived.Test.YtkglkpcpgdeneaaCloneI
namespace Go.Proofs.Ytkglkpcpgdeneaa
open Go.RowKit

theorem found_yes (sb mb blk : Nat) (L : List (Int × Value)) (n : Int) (w : World) (hc : w.cell? ⟨sb, 6, none⟩ = some (.map (some mb))) (hm : MapB w mb L) (p : Int × Value) (hf : L.find? (fun p => p.1 == n) = some p) (hp : p.2 = .pointer (some ⟨blk, 0, none⟩)) :
    Calls Try.prog 52 #[.pointer (some ⟨sb, 0, none⟩), .int .i64 n] w fun e w' => e = .returned (.tuple #[.pointer (some ⟨blk, 0, none⟩), .int .i64 0]) ∧ w = w' := by
  have hz : (zeroValue 89).run Try.prog w = .ok (.pointer none) w := by kernel_rfl
  have hl := run_lookup_ok (P := Try.prog) (w := w) Try.underlying77 Try.underlying3 _ hz hm n
  rw [hf] at hl
  simp only [hp] at hl
  clear hm hf hp
  go_enter Try.func52, Try.ntmps52
  go_wp2
  go_ret2
  exact ⟨rfl, rfl⟩
theorem found_no (sb mb : Nat) (L : List (Int × Value)) (n : Int) (w : World) (hc : w.cell? ⟨sb, 6, none⟩ = some (.map (some mb))) (hm : MapB w mb L) (hf : L.find? (fun p => p.1 == n) = none) :
    Calls Try.prog 52 #[.pointer (some ⟨sb, 0, none⟩), .int .i64 n] w fun e w' => e = .returned (.tuple #[.pointer none, .int .i64 14]) ∧ w = w' := by
  have hz : (zeroValue 89).run Try.prog w = .ok (.pointer none) w := by kernel_rfl
  have hl := run_lookup_ok (P := Try.prog) (w := w) Try.underlying77 Try.underlying3 _ hz hm n
  rw [hf] at hl
  simp only at hl
  clear hm hf
  go_enter Try.func52, Try.ntmps52
  go_wp2
  go_ret2
  exact ⟨rfl, rfl⟩
theorem found_nil (n : Int) (w : World) :
    Calls Try.prog 52 #[.pointer none, .int .i64 n] w fun e w' => e = .returned (.tuple #[.pointer none, .int .i64 1]) ∧ w = w' := by
  go_enter Try.func52, Try.ntmps52
  go_wp2
  go_ret2
  exact ⟨rfl, rfl⟩
end Go.Proofs.Ytkglkpcpgdeneaa
