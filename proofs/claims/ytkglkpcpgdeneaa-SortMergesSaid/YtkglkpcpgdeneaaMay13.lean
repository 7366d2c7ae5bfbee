/- The reference's May. Conditions: none. -/
import Derived.Test.YtkglkpcpgdeneaaRefMay
import Derived.Test.YtkglkpcpgdeneaaItems
namespace Go.Proofs.Ytkglkpcpgdeneaa
open Go.RowKit

/-- The reference's May. -/
def mayI (k : ByteArray) (s : Int) (n : Nat) : Bool := decide (k.size ≤ 200 ∧ 0 ≤ s ∧ s ≤ 4611686018427387904 ∧ n ≤ 1048576)
set_option maxRecDepth 100000 in
theorem may13 (k : ByteArray) (s : Int) (A : Option Addr) (n c : Nat) (w : World) :
    Calls Try.prog 28 #[.agg #[.string k, .int .i64 s, .slice A n c]] w fun e w' => e = .returned (.bool (mayI k s n)) ∧ Keep (fun j => w.heap.size ≤ j) w w' := by
  unfold mayI
  by_cases h1 : k.size ≤ 200
  · have d1 : decide (k.size ≤ 200) = true := decide_eq_true h1
    by_cases h2 : 0 ≤ s ∧ s ≤ 4611686018427387904
    · have e : decide (k.size ≤ 200 ∧ 0 ≤ s ∧ s ≤ 4611686018427387904 ∧ n ≤ 1048576) = decide (n ≤ 1048576) := by simp [h1, h2]
      rw [e]
      have H2 := Lib.hid h2
      have d1' : (k.size : Int) ≤ 200 := by omega
      clear h1 h2 e d1
      go_enter Try.func28, Try.ntmps28
      go_wp2_with (go_at_call 51; refine (may_yes _ _ H2.out.1 H2.out.2).mono ?_; rintro e w' ⟨rfl, rfl⟩)
      go_ret
      exact ⟨ret_bool (by rw [Bool.eq_iff_iff]; simp; omega), (Keep.refl _ w).alloc _⟩
    · have e : decide (k.size ≤ 200 ∧ 0 ≤ s ∧ s ≤ 4611686018427387904 ∧ n ≤ 1048576) = false := decide_eq_false (fun h => h2 ⟨h.2.1, h.2.2.1⟩)
      rw [e]
      have H2 := Lib.hid h2
      have d1' : (k.size : Int) ≤ 200 := by omega
      clear h1 h2 e d1
      go_enter Try.func28, Try.ntmps28
      go_wp2_with (go_at_call 51; refine (may_no _ _ H2.out).mono ?_; rintro e w' ⟨rfl, rfl⟩)
      go_ret
      exact ⟨rfl, (Keep.refl _ w).alloc _⟩
  · have e : decide (k.size ≤ 200 ∧ 0 ≤ s ∧ s ≤ 4611686018427387904 ∧ n ≤ 1048576) = false := decide_eq_false (fun h => h1 h.1)
    rw [e]
    have d1 : decide ((k.size : Int) ≤ 200) = false := decide_eq_false (by omega)
    clear h1 e
    go_enter Try.func28, Try.ntmps28
    go_wp2_with fail
    go_ret
    exact ⟨rfl, (Keep.refl _ w).alloc _⟩
end Go.Proofs.Ytkglkpcpgdeneaa
