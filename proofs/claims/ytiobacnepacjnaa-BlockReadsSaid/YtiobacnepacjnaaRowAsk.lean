/- A list of asks that came in: how it reads. Conditions: none. -/
import Derived.Test.YtiobacnepacjnaaRows
import Derived.Test.YtiobacnepacjnaaBase
import Derived.WideShapes
import Derived.Deep.Slices
import Derived.ChangeSame
import Derived.SizedLaws
namespace Go.Proofs.Ytiobacnepacjnaa
open Go.RowKit Go.WideShapes Go.ChangeShapes Go.Deep

theorem okWide_spot {P : Program} {W : World} {r : Reach} {base : Nat} {t e : TypeId} {x : Addr} {len cap : Nat} (hu : P.underlying t = some (.slice e)) (hval : Value.okWide P W r base t (.slice (some x) len cap)) : x.spot = none := by
  unfold Value.okWide at hval
  rw [hu] at hval
  have : Cell.okWide P W r base t (.slice (some x) len cap) := hval
  unfold Cell.okWide Cell.ok at this
  rw [hu] at this
  exact this.2.2.2.1
structure As where
  b : Bool
  n : Int
def As.cells (x : As) : List Value := [.bool x.b, .int .i64 x.n]
def RdA (w : World) (a : Option Addr) (L : List As) : Prop := (a = none ∧ L = []) ∨ ∃ b o, a = some ⟨b, o, none⟩ ∧ ∀ i j (h : i < L.length), j < 2 → w.cell? ⟨b, o + i * 2 + j, none⟩ = L[i].cells[j]?
section
variable {H : Type} {enc : TypeId × Value → H} {P : Program} {W : World} {base : Nat} {spare : Nat → Bool} {held : Bool}
theorem open_as {t : TypeId} {f0 f1 : Field} {fuel : Nat} {cs : List Value} {x : DataW H × List MemPlace} (ht : P.underlying t = some (.struct #[f0, f1])) (hz : P.cellsOf t = 2)
    (h0 : P.underlying f0.type = some .bool) (o0 : f0.offset = 0) (z0 : P.cellsOf f0.type = 1) (h1 : P.underlying f1.type = some (.int .i64)) (o1 : f1.offset = 1) (z1 : P.cellsOf f1.type = 1)
    (h : DataW.trod enc P W base spare held fuel t cs = some x) : ∃ y : As, cs = y.cells := by
  obtain ⟨xs, n, _, rfl, hl, hlen, hf⟩ := DataW.trod_struct ht h
  match xs, hlen with
  | [y0, y1], _ =>
    have g0 : DataW.trod enc P W base spare held n f0.type ((cs.drop f0.offset).take (P.cellsOf f0.type)) = some y0 := by simpa using hf 0 f0 rfl
    have g1 : DataW.trod enc P W base spare held n f1.type ((cs.drop f1.offset).take (P.cellsOf f1.type)) = some y1 := by simpa using hf 1 f1 rfl
    rw [hz] at hl
    match cs, hl with
    | [a, b], _ =>
      rw [o0, z0] at g0
      rw [o1, z1] at g1
      obtain ⟨k, e0, _⟩ := DataW.trod_bool h0 g0
      obtain ⟨s, e1, _, _⟩ := DataW.trod_int h1 g1
      simp at e0 e1
      subst e0 e1
      exact ⟨⟨k, s⟩, rfl⟩
theorem open_asks {t e : TypeId} {a : Option Addr} {len cap : Nat} {d : DataW H} {ps : List MemPlace} {r : Reach} {b0 : Nat} (hu : P.underlying t = some (.slice e)) (hz : P.cellsOf e = 2)
    (hval : Value.okWide P W r b0 t (.slice a len cap))
    (hi : ∀ fuel cs (x : DataW H × List MemPlace), DataW.trod enc P W base spare held fuel e cs = some x → ∃ y : As, cs = y.cells)
    (h : DataW.Trod enc P W base spare held t (.slice a len cap) d ps) : ∃ L : List As, len = L.length ∧ len ≤ cap ∧ cap ≤ 9223372036854775807 ∧ RdA W a L ∧ (a = none → L = [] ∧ cap = 0) := by
  obtain ⟨fuel, hf⟩ := h
  rcases open_slice hu (by simpa [Value.cells] using hf) with ⟨hcs, _⟩ | ⟨x, l, c, m, n, D, Pl, hcs, _, hl, hm, hmm, _, hx⟩
  · simp at hcs
    obtain ⟨rfl, rfl, rfl⟩ := hcs
    exact ⟨[], rfl, Nat.le_refl _, by omega, .inl ⟨rfl, rfl⟩, fun _ => ⟨rfl, rfl⟩⟩
  · simp at hcs
    obtain ⟨rfl, rfl, rfl⟩ := hcs
    have hsp := okWide_spot hu hval
    have hml : len ≤ m := by rw [hmm]; split <;> omega
    have each : ∀ i, i < len → ∃ y : As, ∀ j, j < 2 → W.cell? ((x.add (i * 2)).add j) = y.cells[j]? := by
      intro i hi'
      obtain ⟨cs, hcs, htr⟩ := hx i (by omega)
      obtain ⟨y, rfl⟩ := hi _ _ _ htr
      rw [hz] at hcs
      exact ⟨y, (World.cells?_some hcs).2.2⟩
    haveI : Inhabited As := ⟨⟨false, 0⟩⟩
    obtain ⟨Y, hY⟩ := choose_lt (α := As) each
    obtain ⟨b, o, sp⟩ := x
    simp only at hsp
    subst hsp
    refine ⟨(List.range len).map Y, by simp, hl, by unfold maxLen at hm; omega, .inr ⟨b, o, rfl, fun i j hi' hj => ?_⟩, fun e => (by cases e)⟩
    have hi2 : i < len := by simpa using hi'
    have := hY i hi2 j hj
    rw [add_plain, add_plain] at this
    simpa using this
end
section
variable {H : Type} {enc : TypeId × Value → H} {W : World} {base : Nat} {spare : Nat → Bool} {held : Bool}
set_option maxRecDepth 100000 in
theorem as_in {fuel : Nat} {cs : List Value} {x : DataW H × List MemPlace} (h : DataW.trod enc Try.prog W base spare held fuel 29 cs = some x) : ∃ y : As, cs = y.cells :=
  open_as Try.underlying29 (by kernel_rfl) Try.underlying4 rfl (by kernel_rfl) Try.underlying3 rfl (by kernel_rfl) h
set_option maxRecDepth 100000 in
theorem asks_in {a : Option Addr} {len cap : Nat} {d : DataW H} {ps : List MemPlace} {r : Reach} {b0 : Nat} (hval : Value.okWide Try.prog W r b0 24 (.slice a len cap)) (h : DataW.Trod enc Try.prog W base spare held 24 (.slice a len cap) d ps) :
    ∃ L : List As, len = L.length ∧ len ≤ cap ∧ cap ≤ 9223372036854775807 ∧ RdA W a L ∧ (a = none → L = [] ∧ cap = 0) :=
  open_asks Try.underlying24 (by kernel_rfl) hval (fun _ _ _ g => as_in g) h
end
end Go.Proofs.Ytiobacnepacjnaa
