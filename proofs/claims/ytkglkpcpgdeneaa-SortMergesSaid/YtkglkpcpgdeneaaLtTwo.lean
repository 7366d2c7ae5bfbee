/- The order of (key, number), said of lists. No program in sight. Conditions: none. -/
import Derived.Test.YtkglkpcpgdeneaaRecLess
namespace Go.Proofs.Ytkglkpcpgdeneaa

theorem list_tri (x y : List UInt8) : x < y ∨ x = y ∨ y < x := by
  rcases List.le_total x y with h | h <;> rcases (List.le_iff_lt_or_eq.mp h) with h | h
  · exact .inl h
  · exact .inr (.inl h)
  · exact .inr (.inr h)
  · exact .inr (.inl h.symm)
theorem lt2_iff (k : ByteArray) (s : Int) (k' : ByteArray) (s' : Int) : lt2 k s k' s' = true ↔ (k.toList < k'.toList ∨ (k.toList = k'.toList ∧ s < s')) := by
  unfold lt2 cmp2 or2 sgn
  rw [bytesLess_eq, bytesLess_eq]
  rcases list_tri k.toList k'.toList with h | h | h
  · simp [h]
  · rw [h]
    have hi : ¬ k'.toList < k'.toList := List.lt_irrefl _
    by_cases h1 : s < s'
    · simp [hi, h1]
    · by_cases h2 : s' < s <;> simp [hi, h1, h2]
  · have h1 : ¬ k.toList < k'.toList := List.lt_asymm h
    have h2 : ¬ k.toList = k'.toList := fun e => by rw [e] at h; exact absurd h (List.lt_irrefl _)
    simp [h, h1, h2]
end Go.Proofs.Ytkglkpcpgdeneaa
