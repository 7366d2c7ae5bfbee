/- A list of bools that came in: how it reads. Conditions: none. -/
import Derived.Test.YtiobacnepacjnaaRows
import Derived.Test.YtiobacnepacjnaaBase
import Derived.Deep.Slices
import Derived.ChangeArms
namespace Go.Proofs.Ytiobacnepacjnaa
open Go.RowKit Go.WideShapes Go.ChangeShapes Go.Deep
section
variable {H : Type} {enc : TypeId × Value → H} {P : Program} {W : World} {base : Nat} {spare : Nat → Bool} {held : Bool}
theorem open_bools {t e : TypeId} {a : Option Addr} {len cap : Nat} {d : DataW H} {ps : List MemPlace} (hu : P.underlying t = some (.slice e)) (he : P.underlying e = some .bool) (hz : P.cellsOf e = 1)
    (h : DataW.Trod enc P W base spare held t (.slice a len cap) d ps) : ∃ B : List Bool, len = B.length ∧ len ≤ cap ∧ cap ≤ 9223372036854775807 ∧ RdV W a (B.map Value.bool) := by
  obtain ⟨fuel, hf⟩ := h
  rcases open_slice1 hu hz (by simpa [Value.cells] using hf) with ⟨hcs, _⟩ | ⟨x, l, c, m, n, V, D, Pl, hcs, _, hl, hm, hmm, _, hx⟩
  · simp at hcs
    obtain ⟨rfl, rfl, rfl⟩ := hcs
    exact ⟨[], rfl, Nat.le_refl _, by omega, RdV.nil _ _⟩
  · simp at hcs
    obtain ⟨rfl, rfl, rfl⟩ := hcs
    have hml : len ≤ m := by rw [hmm]; split <;> omega
    have each : ∀ i, i < len → ∃ b : Bool, V i = .bool b := by
      intro i hi
      obtain ⟨_, htr⟩ := hx i (by omega)
      obtain ⟨b, e0, _⟩ := DataW.trod_bool he htr
      exact ⟨b, by simpa using e0⟩
    obtain ⟨B, hB⟩ := choose_lt (α := Bool) each
    refine ⟨(List.range len).map B, by simp, hl, by unfold maxLen at hm; omega, fun j u hj => ⟨x, rfl, ?_⟩⟩
    have hj2 : j < len := by
      have := (List.getElem?_eq_some_iff.1 hj).1
      simpa using this
    rw [(hx j (by omega)).1, hB j hj2]
    simp [hj2] at hj
    rw [hj]
end
end Go.Proofs.Ytiobacnepacjnaa
