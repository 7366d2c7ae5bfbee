/- num.Pad gives the least multiple of 512 that is not below, or that there is none. Conditions: none. -/
import Derived.Test.YtiobacnepacjnaaNumIn
namespace Go.Proofs.Ytiobacnepacjnaa
open Go.RowKit

def padR (a : Int) : Int × Bool := if 0 ≤ a ∧ a ≤ 4611686018427387904 then ((a + 511) / 512 * 512, true) else (0, false)

theorem pad_any (a : Int) (w : World) :
    Calls Try.prog 23 #[.int .i64 a] w fun e w' => e = .returned (.tuple #[.int .i64 (padR a).1, .bool (padR a).2]) ∧ w = w' := by
  by_cases h1 : 0 ≤ a ∧ a ≤ 4611686018427387904
  · have e : padR a = ((a + 511) / 512 * 512, true) := by unfold padR; rw [if_pos h1]
    rw [e]; clear e
    obtain ⟨h1, h2⟩ := h1
    go_enter Try.func23, Try.ntmps23
    go_wp2_with (go_at_call 29; refine (in_yes _ _ _ _ h1 h2).mono ?_; rintro e w' ⟨rfl, rfl⟩)
    go_ret2
    have hs : a + 512 - 1 = a + 511 := by omega
    exact ⟨by show Ending.returned (.tuple #[.int .i64 ((a + 512 - 1) / 512 * 512), .bool true]) = _; rw [hs], rfl⟩
  · have e : padR a = (0, false) := by unfold padR; rw [if_neg h1]
    rw [e]; clear e
    go_enter Try.func23, Try.ntmps23
    go_wp2_with (go_at_call 29; refine (in_no _ _ _ _ h1).mono ?_; rintro e w' ⟨rfl, rfl⟩)
    go_ret2
    exact ⟨rfl, rfl⟩

theorem pad_c (n : Int) (a : Int) (b : Bool) (w : World) (h : padR n = (a, b)) :
    Calls Try.prog 23 #[.int .i64 n] w fun e w' => e = .returned (.tuple #[.int .i64 a, .bool b]) ∧ w = w' :=
  (pad_any n w).mono fun e w' ⟨p, q⟩ => ⟨by rw [p, h], q⟩

end Go.Proofs.Ytiobacnepacjnaa
