/- num.In tells whether a number lies between two bounds. Conditions: none. -/
import Derived.Test.YtkglkpcpgdeneaaRows
import Derived.Test.YtkglkpcpgdeneaaBase
namespace Go.Proofs.Ytkglkpcpgdeneaa
open Go.RowKit

theorem ret2b {a : Int} {b : Bool} {r : Int × Bool} (h : (a, b) = r) : Ending.returned (.tuple #[.int .i64 a, .bool b]) = Ending.returned (.tuple #[.int .i64 r.1, .bool r.2]) := by
  rw [← h]
theorem in_any (a b c : Int) (w : World) :
    Calls Try.prog 63 #[.int .i64 a, .int .i64 b, .int .i64 c] w fun e w' => e = .returned (.bool (decide (b ≤ a ∧ a ≤ c))) ∧ w = w' := by
  by_cases h : b ≤ a
  · have h1 : decide (b ≤ a) = true := decide_eq_true h
    have e : decide (b ≤ a ∧ a ≤ c) = decide (a ≤ c) := by simp [h]
    rw [e]; clear e h
    go_enter Try.func63, Try.ntmps63
    go_wp2
    go_ret
    exact ⟨rfl, rfl⟩
  · have h1 : decide (b ≤ a) = false := decide_eq_false h
    have e : decide (b ≤ a ∧ a ≤ c) = false := by simp [h]
    rw [e]; clear e h
    go_enter Try.func63, Try.ntmps63
    go_wp2
    go_ret
    exact ⟨rfl, rfl⟩
theorem in_yes (a b c : Int) (w : World) (h : b ≤ a) (h' : a ≤ c) :
    Calls Try.prog 63 #[.int .i64 a, .int .i64 b, .int .i64 c] w fun e w' => e = .returned (.bool true) ∧ w = w' :=
  (in_any a b c w).mono fun e w' ⟨p, q⟩ => ⟨by rw [p, decide_eq_true ⟨h, h'⟩], q⟩
theorem in_no (a b c : Int) (w : World) (h : ¬ (b ≤ a ∧ a ≤ c)) :
    Calls Try.prog 63 #[.int .i64 a, .int .i64 b, .int .i64 c] w fun e w' => e = .returned (.bool false) ∧ w = w' :=
  (in_any a b c w).mono fun e w' ⟨p, q⟩ => ⟨by rw [p, decide_eq_false h], q⟩

theorem in_c (n a b : Int) (x y : Bool) (w : World) (hx : decide (a ≤ n) = x) (hy : decide (n ≤ b) = y) : Calls Try.prog 63 #[.int .i64 n, .int .i64 a, .int .i64 b] w fun e w' => e = .returned (.bool (x && y)) ∧ w = w' :=
  (in_any n a b w).mono fun e w' ⟨p, q⟩ => ⟨by rw [p, ← hx, ← hy]; congr 2; simp, q⟩

end Go.Proofs.Ytkglkpcpgdeneaa
