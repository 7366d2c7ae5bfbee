/- The reference tells whether a number may be. Conditions: none. -/
import Derived.Test.YtkglkpcpgdeneaaRows
import Derived.Test.YtkglkpcpgdeneaaBase
namespace Go.Proofs.Ytkglkpcpgdeneaa
open Go.RowKit

theorem may_any (a : Int) (w : World) :
    Calls Try.prog 51 #[.int .i64 a] w fun e w' => e = .returned (.bool (decide (0 ≤ a ∧ a ≤ 4611686018427387904))) ∧ w = w' := by
  by_cases h : 0 ≤ a
  · have h1 : decide (0 ≤ a) = true := decide_eq_true h
    have e : decide (0 ≤ a ∧ a ≤ 4611686018427387904) = decide (a ≤ 4611686018427387904) := by simp [h]
    rw [e]; clear e h
    go_enter Try.func51, Try.ntmps51
    go_wp2
    go_ret
    exact ⟨rfl, rfl⟩
  · have h1 : decide (0 ≤ a) = false := decide_eq_false h
    have e : decide (0 ≤ a ∧ a ≤ 4611686018427387904) = false := by simp [h]
    rw [e]; clear e h
    go_enter Try.func51, Try.ntmps51
    go_wp2
    go_ret
    exact ⟨rfl, rfl⟩
theorem may_yes (a : Int) (w : World) (h : 0 ≤ a) (h' : a ≤ 4611686018427387904) :
    Calls Try.prog 51 #[.int .i64 a] w fun e w' => e = .returned (.bool true) ∧ w = w' :=
  (may_any a w).mono fun e w' ⟨p, q⟩ => ⟨by rw [p, decide_eq_true ⟨h, h'⟩], q⟩
theorem may_no (a : Int) (w : World) (h : ¬ (0 ≤ a ∧ a ≤ 4611686018427387904)) :
    Calls Try.prog 51 #[.int .i64 a] w fun e w' => e = .returned (.bool false) ∧ w = w' :=
  (may_any a w).mono fun e w' ⟨p, q⟩ => ⟨by rw [p, decide_eq_false h], q⟩

end Go.Proofs.Ytkglkpcpgdeneaa
