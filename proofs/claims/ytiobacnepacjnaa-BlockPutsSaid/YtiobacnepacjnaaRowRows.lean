/- A list of slices of bytes that came in, with their capacities. Conditions: none. -/
import Derived.Test.YtiobacnepacjnaaRowBytes
namespace Go.Proofs.Ytiobacnepacjnaa
open Go.RowKit Go.ChangeShapes Go.WideShapes Go.Deep

variable {H : Type} {enc : TypeId × Value → H} {P : Program} {W : World} {base : Nat} {spare : Nat → Bool} {held : Bool}
/-- A slice of slices of bytes that came in. -/
def RdRows2 (w : World) (A : Option Addr) (L : List (List UInt8)) : Prop :=
  ∀ i (h : i < L.length), ∃ x A' c, A = some x ∧ w.cell? (x.add i) = some (.slice A' L[i].length c) ∧ RdV w A' (bys L[i]) ∧ (A' = none → L[i] = []) ∧ L[i].length ≤ c ∧ c ≤ 9223372036854775807
theorem open_byte_rows2 {t e q : TypeId} {a : Option Addr} {len cap : Nat} {d : DataW H} {ps : List MemPlace} (hu : P.underlying t = some (.slice e)) (he : P.underlying e = some (.slice q)) (hq : P.underlying q = some (.int .u8)) (hc : P.cellsOf e = 1) (hc2 : P.cellsOf q = 1)
    (h : DataW.Trod enc P W base spare held t (.slice a len cap) d ps) : ∃ L : List (List UInt8), len = L.length ∧ len ≤ cap ∧ cap ≤ 9223372036854775807 ∧ RdRows2 W a L ∧ (a = none → L = [] ∧ cap = 0) := by
  obtain ⟨fuel, hf⟩ := h
  rcases open_slice1 hu hc (by simpa [Value.cells] using hf) with ⟨hcs, _⟩ | ⟨x, l, c, m, n, V, D, Pl, hcs, _, hl, hm, hmm, _, hx⟩
  · simp at hcs
    obtain ⟨rfl, rfl, rfl⟩ := hcs
    exact ⟨[], rfl, Nat.le_refl _, by omega, fun i hi => absurd hi (by simp), fun _ => ⟨rfl, rfl⟩⟩
  · simp at hcs
    obtain ⟨rfl, rfl, rfl⟩ := hcs
    have hml : len ≤ m := by rw [hmm]; split <;> omega
    have each : ∀ i, i < len → ∃ y : List UInt8, ∃ a' c', V i = .slice a' y.length c' ∧ RdV W a' (bys y) ∧ (a' = none → y = []) ∧ y.length ≤ c' ∧ c' ≤ 9223372036854775807 := by
      intro i hi
      obtain ⟨_, htr⟩ := hx i (by omega)
      obtain ⟨a', l', c', hvv⟩ : ∃ a' l' c', V i = .slice a' l' c' := by
        rcases DataW.trod_slice he htr with ⟨h0, _⟩ | ⟨a', l', c', _, _, _, _, h0, _⟩
        · exact ⟨none, 0, 0, by simpa using h0⟩
        · exact ⟨some a', l', c', by simpa using h0⟩
      rw [hvv] at htr
      obtain ⟨y, rfl, hle, hmx, hr, hn⟩ := open_bytes_cells he hq hc2 htr
      exact ⟨y, a', c', hvv, hr, (fun e => (hn e).1), hle, hmx⟩
    obtain ⟨Y, hY⟩ := choose_lt (α := List UInt8) each
    refine ⟨(List.range len).map Y, by simp, hl, by unfold maxLen at hm; omega, fun i hi => ?_, fun e => by cases e⟩
    have hi' : i < len := by simpa using hi
    obtain ⟨a', c', hv', hr, hn, hle, hmx⟩ := hY i hi'
    refine ⟨x, a', c', rfl, ?_, ?_, ?_, by simpa using hle, hmx⟩
    · rw [(hx i (by omega)).1, hv']; simp
    · simpa using hr
    · simpa using hn
end Go.Proofs.Ytiobacnepacjnaa
