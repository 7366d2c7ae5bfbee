/- A list of entries that came in: how it reads. Conditions: none. -/
import Derived.Test.YtbkpjjibgnachaaRowEn
import Derived.Test.YtbkpjjibgnachaaRowBytes
import Derived.Deep.Slices
import Derived.ChangeSame
namespace Go.Proofs.Ytbkpjjibgnachaa
open Go.RowKit Go.WideShapes Go.ChangeShapes Go.Deep
section
variable {H : Type} {enc : TypeId × Value → H} {P : Program} {W : World} {base : Nat} {spare : Nat → Bool} {held : Bool}
theorem trod_struct3 {t : TypeId} {f0 f1 f2 : Field} {fuel : Nat} {cs : List Value} {x : DataW H × List MemPlace} (ht : P.underlying t = some (.struct #[f0, f1, f2])) (h : DataW.trod enc P W base spare held fuel t cs = some x) :
    ∃ y0 y1 y2 n, cs.length = P.cellsOf t ∧ DataW.trod enc P W base spare held n f0.type ((cs.drop f0.offset).take (P.cellsOf f0.type)) = some y0 ∧
      DataW.trod enc P W base spare held n f1.type ((cs.drop f1.offset).take (P.cellsOf f1.type)) = some y1 ∧ DataW.trod enc P W base spare held n f2.type ((cs.drop f2.offset).take (P.cellsOf f2.type)) = some y2 := by
  obtain ⟨xs, n, _, rfl, hl, hlen, hf⟩ := DataW.trod_struct ht h
  match xs, hlen with
  | [y0, y1, y2], _ => exact ⟨y0, y1, y2, n, hl, by simpa using hf 0 f0 rfl, by simpa using hf 1 f1 rfl, by simpa using hf 2 f2 rfl⟩
/-- An item's cells. -/
def ItemIn (W : World) (cs : List Value) : Prop := ∃ k s A n c, cs = [.string k, .int .i64 s, .slice A n c] ∧ ∃ y : List UInt8, n = y.length ∧ n ≤ c ∧ RdV W A (bys y) ∧ (A = none → y = [])
theorem open_item {t q : TypeId} {f0 f1 f2 : Field} {fuel : Nat} {cs : List Value} {x : DataW H × List MemPlace} (ht : P.underlying t = some (.struct #[f0, f1, f2])) (hz : P.cellsOf t = 3)
    (h0 : P.underlying f0.type = some .string) (o0 : f0.offset = 0) (z0 : P.cellsOf f0.type = 1) (h1 : P.underlying f1.type = some (.int .i64)) (o1 : f1.offset = 1) (z1 : P.cellsOf f1.type = 1)
    (h2 : P.underlying f2.type = some (.slice q)) (o2 : f2.offset = 2) (z2 : P.cellsOf f2.type = 1) (hq : P.underlying q = some (.int .u8)) (hc : P.cellsOf q = 1)
    (h : DataW.trod enc P W base spare held fuel t cs = some x) : ItemIn W cs := by
  obtain ⟨y0, y1, y2, n, hl, g0, g1, g2⟩ := trod_struct3 ht h
  rw [hz] at hl
  match cs, hl with
  | [a, b, c], _ =>
    rw [o0, z0] at g0
    rw [o1, z1] at g1
    rw [o2, z2] at g2
    obtain ⟨k, e0, _, _⟩ := DataW.trod_string h0 g0
    obtain ⟨s, e1, _, _⟩ := DataW.trod_int h1 g1
    obtain ⟨A, m, d, e2⟩ : ∃ A m d, c = .slice A m d := by
      rcases DataW.trod_slice h2 g2 with ⟨e, _⟩ | ⟨A, m, d, _, _, _, _, e, _⟩
      · exact ⟨none, 0, 0, by simpa using e⟩
      · exact ⟨some A, m, d, by simpa using e⟩
    subst e2
    obtain ⟨y, hy, hc2, _, hr, hn⟩ := open_bytes_cells h2 hq hc g2
    simp at e0 e1
    subst e0 e1
    exact ⟨k, s, A, m, d, rfl, y, hy, hc2, hr, fun e => (hn e).1⟩
/-- An entry's cells. -/
def EntryIn (W : World) (cs : List Value) : Prop := ∃ e : En, cs = e.cells ∧ ∃ y : List UInt8, e.n = y.length ∧ e.n ≤ e.c ∧ RdV W e.A (bys y) ∧ (e.A = none → y = [])
theorem open_entry_cells {t : TypeId} {f0 f1 : Field} {fuel : Nat} {cs : List Value} {x : DataW H × List MemPlace} (ht : P.underlying t = some (.struct #[f0, f1])) (hz : P.cellsOf t = 4)
    (o0 : f0.offset = 0) (z0 : P.cellsOf f0.type = 3) (h1 : P.underlying f1.type = some (.int .i64)) (o1 : f1.offset = 3) (z1 : P.cellsOf f1.type = 1)
    (hi : ∀ fuel cs (x : DataW H × List MemPlace), DataW.trod enc P W base spare held fuel f0.type cs = some x → ItemIn W cs)
    (h : DataW.trod enc P W base spare held fuel t cs = some x) : EntryIn W cs := by
  obtain ⟨y0, y1, n, _, hl, g0, g1⟩ := trod_struct2 ht h
  rw [hz] at hl
  match cs, hl with
  | [a, b, c, d], _ =>
    rw [o0, z0] at g0
    rw [o1, z1] at g1
    obtain ⟨k, s, A, m, c', e0, y, hy, hc, hr, hn⟩ := hi _ _ _ g0
    obtain ⟨r, e1, _, _⟩ := DataW.trod_int h1 g1
    simp at e0 e1
    obtain ⟨rfl, rfl, rfl⟩ := e0
    subst e1
    exact ⟨⟨k, s, A, m, c', r⟩, rfl, y, hy, hc, hr, hn⟩
/-- How a list of entries reads. -/
def RdE (W : World) (a : Option Addr) (L : List En) : Prop := (a = none ∧ L = []) ∨ ∃ b o, a = some ⟨b, o, none⟩ ∧ ∀ i j (h : i < L.length), j < 4 → W.cell? ⟨b, o + i * 4 + j, none⟩ = L[i].cells[j]?
def DatE (W : World) (e : En) : Prop := ∃ y : List UInt8, e.n = y.length ∧ e.n ≤ e.c ∧ RdV W e.A (bys y) ∧ (e.A = none → y = [])
theorem open_entries {t e : TypeId} {a : Option Addr} {len cap : Nat} {d : DataW H} {ps : List MemPlace} {r : Reach} {b0 : Nat} (hu : P.underlying t = some (.slice e)) (hz : P.cellsOf e = 4)
    (hval : Value.okWide P W r b0 t (.slice a len cap))
    (hi : ∀ fuel cs (x : DataW H × List MemPlace), DataW.trod enc P W base spare held fuel e cs = some x → EntryIn W cs)
    (h : DataW.Trod enc P W base spare held t (.slice a len cap) d ps) : ∃ L : List En, len = L.length ∧ len ≤ cap ∧ cap ≤ 9223372036854775807 ∧ RdE W a L ∧ ∀ e ∈ L, DatE W e := by
  obtain ⟨fuel, hf⟩ := h
  rcases open_slice hu (by simpa [Value.cells] using hf) with ⟨hcs, _⟩ | ⟨x, l, c, m, n, D, Pl, hcs, _, hl, hm, hmm, _, hx⟩
  · simp at hcs
    obtain ⟨rfl, rfl, rfl⟩ := hcs
    exact ⟨[], rfl, Nat.le_refl _, by omega, .inl ⟨rfl, rfl⟩, fun e he => by cases he⟩
  · simp at hcs
    obtain ⟨rfl, rfl, rfl⟩ := hcs
    have hsp : x.spot = none := by
      unfold Value.okWide at hval
      rw [hu] at hval
      have : Cell.okWide P W r b0 t (.slice (some x) len cap) := hval
      unfold Cell.okWide Cell.ok at this
      rw [hu] at this
      exact this.2.2.2.1
    have hml : len ≤ m := by rw [hmm]; split <;> omega
    have each : ∀ i, i < len → ∃ y : En, (∀ j, j < 4 → W.cell? ((x.add (i * 4)).add j) = y.cells[j]?) ∧ DatE W y := by
      intro i hi'
      obtain ⟨cs, hcs, htr⟩ := hx i (by omega)
      obtain ⟨y, rfl, hy⟩ := hi _ _ _ htr
      rw [hz] at hcs
      exact ⟨y, (World.cells?_some hcs).2.2, hy⟩
    haveI : Inhabited En := ⟨z0⟩
    obtain ⟨Y, hY⟩ := choose_lt (α := En) each
    obtain ⟨b, o, sp⟩ := x
    simp only at hsp
    subst hsp
    refine ⟨(List.range len).map Y, by simp, hl, by unfold maxLen at hm; omega, .inr ⟨b, o, rfl, fun i j hi' hj => ?_⟩, fun e he => ?_⟩
    · have hi2 : i < len := by simpa using hi'
      have := (hY i hi2).1 j hj
      rw [add_plain, add_plain] at this
      simpa using this
    · obtain ⟨i, hi', rfl⟩ := List.mem_map.1 he
      exact (hY i (by simpa using hi')).2
end
section
variable {H : Type} {enc : TypeId × Value → H} {W : World} {base : Nat} {spare : Nat → Bool} {held : Bool}
set_option maxRecDepth 100000 in
theorem item_in {fuel : Nat} {cs : List Value} {x : DataW H × List MemPlace} (h : DataW.trod enc Try.prog W base spare held fuel 47 cs = some x) : ItemIn W cs :=
  open_item Try.underlying47 (by kernel_rfl) Try.underlying9 rfl (by kernel_rfl) Try.underlying3 rfl (by kernel_rfl) Try.underlying28 rfl (by kernel_rfl) Try.underlying5 (by kernel_rfl) h
set_option maxRecDepth 100000 in
theorem entry_in {fuel : Nat} {cs : List Value} {x : DataW H × List MemPlace} (h : DataW.trod enc Try.prog W base spare held fuel 49 cs = some x) : EntryIn W cs :=
  open_entry_cells Try.underlying49 (by kernel_rfl) rfl (by kernel_rfl) Try.underlying3 rfl (by kernel_rfl) (fun _ _ _ g => item_in g) h
set_option maxRecDepth 100000 in
theorem entries_in {a : Option Addr} {len cap : Nat} {d : DataW H} {ps : List MemPlace} {r : Reach} {b0 : Nat} (hval : Value.okWide Try.prog W r b0 40 (.slice a len cap)) (h : DataW.Trod enc Try.prog W base spare held 40 (.slice a len cap) d ps) :
    ∃ L : List En, len = L.length ∧ len ≤ cap ∧ cap ≤ 9223372036854775807 ∧ RdE W a L ∧ ∀ e ∈ L, DatE W e :=
  open_entries Try.underlying40 (by kernel_rfl) hval (fun _ _ _ g => entry_in g) h
end
end Go.Proofs.Ytbkpjjibgnachaa
