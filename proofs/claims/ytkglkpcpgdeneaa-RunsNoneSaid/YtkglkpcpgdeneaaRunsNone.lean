/- RunsNone. Conditions: none. -/
import Derived.Test.YtkglkpcpgdeneaaLaw16
import Derived.Test.YtkglkpcpgdeneaaRowIt
namespace Go.Proofs.Ytkglkpcpgdeneaa
open Go.RowKit
set_option linter.unusedVariables false
set_option linter.unusedSimpArgs false

theorem add_nil (w : World) (A : Option Addr) (n c : Nat) : Calls Try.prog 36 #[.pointer none, .slice A n c] w fun e w' => e = .returned (.int .i64 1) ∧ w = w' := by
  go_enter Try.func36, Try.ntmps36
  go_wp2_with fail
  go_ret
  exact ⟨rfl, rfl⟩
theorem close_nil (w : World) : Calls Try.prog 34 #[.pointer none] w fun e w' => e = .returned (.tuple #[.slice none 0 0, .int .i64 1]) ∧ w = w' := by
  go_enter Try.func34, Try.ntmps34
  go_wp2_with fail
  go_ret2
  exact ⟨rfl, rfl⟩
theorem held_nil (w : World) : Calls Try.prog 37 #[.pointer none] w fun e w' => e = .returned (.int .i64 0) ∧ w = w' := by
  go_enter Try.func37, Try.ntmps37
  go_wp2_with fail
  go_ret
  exact ⟨rfl, rfl⟩
set_option maxRecDepth 100000 in
set_option maxHeartbeats 8000000 in
theorem runsNone_any (A : Option Addr) (m c : Nat) (n : Int) (w : World) :
    Calls Try.prog 6 #[.slice A m c, .int .i64 n] w fun e w' => e = .returned (.bool true) ∧ Below w.heap.size w w' := by
  go_enter Try.func6, Try.ntmps6
  go_wp2_with fail
  refine (close_nil w).mono ?_
  rintro e w1 ⟨rfl, rfl⟩
  go_wp2_with fail
  refine (St.cur_nil (St.start w)).mono ?_
  rintro e w1 ⟨rfl, hs1⟩
  have HS1 := Lib.hid hs1
  clear hs1
  go_wp2_with fail
  have HS2 := Lib.hid (HS1.out.alloc (.cells #[.string ⟨#[]⟩, .int .i64 0, .slice none 0 0] 44))
  generalize w1.alloc (.cells #[.string ⟨#[]⟩, .int .i64 0, .slice none 0 0] 44) = w2 at HS2 ⊢
  generalize w1.heap.size = b1
  clear HS1
  refine (HS2.out.cur_open none n).mono ?_
  rintro e w3 ⟨cb, rfl, hs3⟩
  have HS3 := Lib.hid hs3
  clear hs3 HS2
  go_wp2_with fail
  refine (HS3.out.cur_next_nil).mono ?_
  rintro e w4 ⟨rfl, hs4⟩
  have HS4 := Lib.hid hs4
  clear hs4 HS3
  go_wp2_with fail
  have HS5 := Lib.hid (HS4.out.alloc (.cells #[.string ⟨#[]⟩, .int .i64 0, .slice none 0 0] 44))
  generalize w4.alloc (.cells #[.string ⟨#[]⟩, .int .i64 0, .slice none 0 0] 44) = w5 at HS5 ⊢
  generalize w4.heap.size = b4
  clear HS4
  refine (runs_new_nil w5 5).mono ?_
  rintro e w6 ⟨rfl, rfl⟩
  go_wp2_with fail
  refine (answers16 w5).mono ?_
  rintro e w6 ⟨rfl, hk6⟩
  have HS6 := Lib.hid (HS5.out.later hk6)
  clear hk6 HS5
  go_wp2_with fail
  refine (add_nil w6 A m c).mono ?_
  rintro e w7 ⟨rfl, rfl⟩
  go_wp2_with fail
  refine (held_nil w6).mono ?_
  rintro e w7 ⟨rfl, rfl⟩
  go_wp2_with fail
  go_ret
  exact ⟨rfl, HS6.out.below⟩
theorem runsNone_walk (w : World) (a : Option Addr) (n c : Nat) (L : List It) (hn : n = L.length) (_ : n ≤ c) (hc : c ≤ 2932031007402) (hr : RdI w a L) (_ : a = none → L = [] ∧ c = 0) (hx : ∀ x ∈ L, ItOk w x) (m : Int) (hm : IntKind.i64.min ≤ m ∧ m ≤ IntKind.i64.max) :
    Calls Try.prog 6 #[.slice a n c, .int .i64 m] w fun e w' => e = .returned (.bool true) ∧ Below w.heap.size w w' := runsNone_any a n c m w
end Go.Proofs.Ytkglkpcpgdeneaa
