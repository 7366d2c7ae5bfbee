/- The walks of package cmp's small functions at int and at string, and the order of items. Conditions: none. -/
import Derived.Test.YtkglkpcpgdeneaaRows
import Derived.Test.YtkglkpcpgdeneaaBase
import Derived.Sort.Walk0
import Derived.Laws.Cover1
namespace Go.Proofs.Ytkglkpcpgdeneaa
open Go.RowKit

/-- A three-way answer. -/
def sgn (a b : Bool) : Int := if a then -1 else if b then 1 else 0

set_option maxHeartbeats 1000000 in
theorem isNaN_int (x : Int) (w : World) : Calls Try.prog 96 #[.int .i64 x] w fun e w' => e = .returned (.bool false) ∧ w' = w := by
  go_enter Try.func96, Try.ntmps96
  go_wp2
  go_ret
  exact ⟨by simp, rfl⟩
set_option maxHeartbeats 1000000 in
theorem isNaN_str (x : ByteArray) (w : World) : Calls Try.prog 95 #[.string x] w fun e w' => e = .returned (.bool false) ∧ w' = w := by
  go_enter Try.func95, Try.ntmps95
  go_wp2
  go_ret
  exact ⟨by simp, rfl⟩
set_option maxHeartbeats 1000000 in
theorem less_int (x y : Int) (w : World) : Calls Try.prog 92 #[.int .i64 x, .int .i64 y] w fun e w' => e = .returned (.bool (decide (x < y))) ∧ w' = w := by
  go_enter Try.func92, Try.ntmps92
  go_wp2_with (go_at_call 96; refine (isNaN_int _ _).mono ?_; rintro e w' ⟨rfl, rfl⟩)
  go_ret
  exact ⟨rfl, rfl⟩
set_option maxHeartbeats 2000000 in
theorem compare_int (x y : Int) (w : World) : Calls Try.prog 90 #[.int .i64 x, .int .i64 y] w fun e w' => e = .returned (.int .i64 (sgn (decide (x < y)) (decide (y < x)))) ∧ w' = w := by
  go_enter Try.func90, Try.ntmps90
  cases h1 : decide (x < y) <;> cases h2 : decide (y < x)
  all_goals
    go_wp2_with (go_at_call 96; refine (isNaN_int _ _).mono ?_; rintro e w' ⟨rfl, rfl⟩)
    go_ret
    exact ⟨rfl, rfl⟩
theorem gtr_eq (x y : List UInt8) : Op.bytesLess y x = !(Op.bytesLess x y || x == y) := by
  rw [bytesLess_eq, bytesLess_eq]
  by_cases h1 : x < y
  · have h2 : ¬ y < x := List.lt_asymm h1
    simp [h1, h2]
  · by_cases h3 : x = y
    · subst h3; simp [h1]
    · have h2 : y < x := by
        rcases List.le_total x y with h | h
        · rcases (List.le_iff_lt_or_eq.mp h) with h | h
          · exact absurd h h1
          · exact absurd h h3
        · rcases (List.le_iff_lt_or_eq.mp h) with h | h
          · exact h
          · exact absurd h.symm h3
      simp [h1, h2, h3]
set_option maxHeartbeats 2000000 in
theorem compare_str (x y : ByteArray) (w : World) : Calls Try.prog 89 #[.string x, .string y] w fun e w' => e = .returned (.int .i64 (sgn (Op.bytesLess x.toList y.toList) (Op.bytesLess y.toList x.toList))) ∧ w' = w := by
  go_enter Try.func89, Try.ntmps89
  cases h1 : Op.bytesLess x.toList y.toList <;> cases h2 : Op.bytesLess y.toList x.toList
  all_goals
    have hg : (Op.bytesLess x.toList y.toList || x.toList == y.toList) = !Op.bytesLess y.toList x.toList := by rw [gtr_eq x.toList y.toList, Bool.not_not]
    rw [h2] at hg
    rw [h1] at hg
    replace hg := hg.trans (by rfl)
    go_wp2_with (go_at_call 95; refine (isNaN_str _ _).mono ?_; rintro e w' ⟨rfl, rfl⟩)
    go_ret
    exact ⟨rfl, rfl⟩
def or2 (a b : Int) : Int := if a = 0 then b else a
set_option maxHeartbeats 4000000 in
/-- cmp.Or of two. -/
theorem or_two (a b : Int) (g : Nat) (w : World) (h0 : w.cell? ⟨g, 0, none⟩ = some (.int .i64 a)) (h1 : w.cell? ⟨g, 1, none⟩ = some (.int .i64 b)) :
    Calls Try.prog 88 #[.slice (some ⟨g, 0, none⟩) 2 2] w fun e w' => e = .returned (.int .i64 (or2 a b)) ∧ w' = w := by
  go_enter Try.func88, Try.ntmps88
  go_wp2
  go_loop [8] (fun i => ∃ k : Nat, k ≤ 2 ∧ i = .int .i64 k ∧ Hid ((0 < k → a = 0) ∧ (1 < k → b = 0))) (fun i => 2 - (intOf i).toNat)
  case atStart => exact ⟨0, by omega, rfl, Lib.hid ⟨fun h => by omega, fun h => by omega⟩⟩
  case round =>
    obtain ⟨k, hk, rfl, HN⟩ := hrel
    have hk3 : k = 0 ∨ k = 1 ∨ k = 2 := by omega
    rcases hk3 with rfl | rfl | rfl
    · by_cases hz : a = 0
      · have he : (a == 0) = true := by simpa using hz
        have HE := Lib.hid hz
        clear hz
        go_wp2
        go_round
        case rel => exact ⟨1, by omega, by go_num, Lib.hid ⟨fun _ => HE.out, fun h => by omega⟩⟩
        case measure => simp [intOf]
      · have he : (a == 0) = false := by simpa using hz
        have HE := Lib.hid hz
        clear hz
        go_wp2
        go_ret
        exact ⟨ret_int (if_neg HE.out).symm, rfl⟩
    · have HA := Lib.hid (HN.out.1 (by omega))
      by_cases hz : b = 0
      · have he : (b == 0) = true := by simpa using hz
        have HE := Lib.hid hz
        clear hz
        go_wp2
        go_round
        case rel => exact ⟨2, by omega, by go_num, Lib.hid ⟨fun _ => HA.out, fun _ => HE.out⟩⟩
        case measure => simp [intOf]
      · have he : (b == 0) = false := by simpa using hz
        have HE := Lib.hid hz
        clear hz
        go_wp2
        go_ret
        exact ⟨ret_int (if_pos HA.out).symm, rfl⟩
    · have HA := Lib.hid (HN.out.1 (by omega))
      have HB := Lib.hid (HN.out.2 (by omega))
      go_wp2
      go_ret
      exact ⟨ret_int (HB.out.symm.trans (if_pos HA.out).symm), rfl⟩
end Go.Proofs.Ytkglkpcpgdeneaa
