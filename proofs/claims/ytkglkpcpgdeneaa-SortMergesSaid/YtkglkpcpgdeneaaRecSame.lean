/- bytes.Equal, rec.Same. Conditions: none. -/
import Derived.Test.YtkglkpcpgdeneaaSame13
namespace Go.Proofs.Ytkglkpcpgdeneaa
open Go.RowKit

theorem cmp2_zero (k k' : ByteArray) (s s' : Int) : (cmp2 k s k' s' == 0) = ((k.toList == k'.toList) && (s == s')) := by
  rw [Bool.eq_iff_iff]
  simp only [beq_iff_eq, Bool.and_eq_true]
  unfold cmp2 or2 sgn
  rw [bytesLess_eq, bytesLess_eq]
  rcases list_tri k.toList k'.toList with h | h | h
  · have hn : k.toList ≠ k'.toList := fun e => by rw [e] at h; exact List.lt_irrefl _ h
    simp [h, hn]
  · rw [h]
    have hi : ¬ k'.toList < k'.toList := List.lt_irrefl _
    simp only [hi, decide_false, Bool.false_eq_true, if_false, if_true, true_and]
    by_cases h1 : s < s'
    · simp [h1]; omega
    · by_cases h2 : s' < s
      · simp [h1, h2]; omega
      · simp [h1, h2]; omega
  · have hn : k.toList ≠ k'.toList := fun e => by rw [e] at h; exact List.lt_irrefl _ h
    have hn2 : ¬ k.toList < k'.toList := fun h2 => List.lt_irrefl _ (List.lt_trans h2 h)
    simp [h, hn, hn2]
end Go.Proofs.Ytkglkpcpgdeneaa
