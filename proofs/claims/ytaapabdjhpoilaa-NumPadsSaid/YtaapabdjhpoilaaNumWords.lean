/- The calls of NumPads, NumIn and NumOrders, as their rows ask them. Conditions: none. -/
import Derived.Test.YtaapabdjhpoilaaNum
import Derived.Test.YtaapabdjhpoilaaRowWords
namespace Go.Proofs.Ytaapabdjhpoilaa
open Go.RowKit

theorem numPads_walk (a0 : Int) (_ : IntKind.i64.min ≤ a0 ∧ a0 ≤ IntKind.i64.max) (w : World) : Calls Try.prog 5 #[.int .i64 a0] w fun e w' => e = .returned (.bool true) ∧ Below w.heap.size w w' := pads_any a0 w
theorem numIn_walk (a0 : Int) (_ : IntKind.i64.min ≤ a0 ∧ a0 ≤ IntKind.i64.max) (a1 : Int) (_ : IntKind.i64.min ≤ a1 ∧ a1 ≤ IntKind.i64.max) (a2 : Int) (_ : IntKind.i64.min ≤ a2 ∧ a2 ≤ IntKind.i64.max) (w : World) :
    Calls Try.prog 6 #[.int .i64 a0, .int .i64 a1, .int .i64 a2] w fun e w' => e = .returned (.bool true) ∧ Below w.heap.size w w' := ins_any a0 a1 a2 w
theorem numOrders_walk (a : Int) (_ : IntKind.i64.min ≤ a ∧ a ≤ IntKind.i64.max) (b : Int) (_ : IntKind.i64.min ≤ b ∧ b ≤ IntKind.i64.max) (c : Int) (_ : IntKind.i64.min ≤ c ∧ c ≤ IntKind.i64.max) (w : World) :
    Calls Try.prog 7 #[.int .i64 a, .int .i64 b, .int .i64 c] w fun e w' => e = .returned (.bool true) ∧ Below w.heap.size w w' := by
  have hm : mulR b a = mulR a b := by
    unfold mulR
    rw [Int.mul_comm b a]
    congr 1
    apply propext
    constructor <;> (rintro ⟨x0, x1, x2, x3, x4⟩; exact ⟨x2, x3, x0, x1, x4⟩)
  by_cases hx : 0 ≤ a ∧ 0 ≤ b ∧ a + b ≤ 4611686018427387904
  · obtain ⟨x0, x1, x2⟩ := hx
    have h3 : sumF 0 [b, a] = (b + a, true) := by
      simp only [sumF]
      rw [if_pos (by omega), if_pos (by omega)]; simp
    by_cases hc : 0 ≤ c ∧ a + b + c ≤ 4611686018427387904
    · refine orders_go a b c (a + b + c) (b + a) (b + a + c) _ true true true _ w ?_ ?_ h3 (fun _ => ?_) rfl hm (fun _ => ⟨rfl, rfl, by omega⟩)
      · simp only [sumF]; rw [if_pos (by omega), if_pos (by omega), if_pos (by omega)]; simp
      · simp only [sumF]; rw [if_pos (by omega), if_pos (by omega), if_pos (by omega)]; simp; omega
      · simp only [sumF]; rw [if_pos (by omega), if_pos (by omega)]; simp
    · refine orders_go a b c 0 (b + a) (sumF 0 [b + a, c]).1 _ false true (sumF 0 [b + a, c]).2 _ w ?_ ?_ h3 (fun _ => rfl) rfl hm (fun h => by cases h)
      · simp only [sumF]; rw [if_pos (by omega), if_pos (by omega), if_neg (by omega)]
      · simp only [sumF]
        by_cases hc0 : 0 ≤ c ∧ c ≤ 4611686018427387904 - 0
        · rw [if_pos hc0]
          by_cases hc1 : 0 ≤ a ∧ a ≤ 4611686018427387904 - (0 + c)
          · rw [if_pos hc1, if_neg (by omega)]
          · rw [if_neg hc1]
        · rw [if_neg hc0]
  · have h3 : sumF 0 [b, a] = (0, false) := by
      simp only [sumF]
      by_cases h : 0 ≤ b ∧ b ≤ 4611686018427387904 - 0
      · rw [if_pos h, if_neg (by omega)]
      · rw [if_neg h]
    refine orders_go a b c 0 0 0 _ false false false _ w ?_ ?_ h3 (fun h => by cases h) rfl hm (fun h => by cases h)
    · simp only [sumF]
      by_cases h : 0 ≤ a ∧ a ≤ 4611686018427387904 - 0
      · rw [if_pos h, if_neg (by omega)]
      · rw [if_neg h]
    · simp only [sumF]
      by_cases hc0 : 0 ≤ c ∧ c ≤ 4611686018427387904 - 0
      · rw [if_pos hc0]
        by_cases hc1 : 0 ≤ a ∧ a ≤ 4611686018427387904 - (0 + c)
        · rw [if_pos hc1, if_neg (by omega)]
        · rw [if_neg hc1]
      · rw [if_neg hc0]
end Go.Proofs.Ytaapabdjhpoilaa
