/- An entry that came in: its value's form. Conditions: none. -/
import Derived.Test.YtbkpjjibgnachaaRows
import Derived.Test.YtbkpjjibgnachaaHeapE
import Derived.WideShapes
namespace Go.Proofs.Ytbkpjjibgnachaa
open Go.RowKit Go.WideShapes

theorem okWide_row {P : Program} {W : World} {r : Reach} {base : Nat} {t : TypeId} {v : Value} {fs : Array Field} (ht : P.underlying t = some (.struct fs)) (h : Value.okWide P W r base t v) : ∃ cs, v = .agg cs ∧ cs.size = P.cellsOf t ∧ Row.okWide P W r base t cs := by
  unfold Value.okWide at h; rw [ht] at h; exact h
theorem cell_string {P : Program} {W : World} {r : Reach} {base : Nat} {t : TypeId} {v : Value} (ht : P.underlying t = some .string) (h : Cell.okWide P W r base t v) : ∃ s, v = .string s :=
  okWide_string ht (by unfold Value.okWide; rw [ht]; exact h)
theorem cell_int {P : Program} {W : World} {r : Reach} {base : Nat} {t : TypeId} {v : Value} {k : IntKind} (ht : P.underlying t = some (.int k)) (h : Cell.okWide P W r base t v) : ∃ s, v = .int k s :=
  okWide_int ht (by unfold Value.okWide; rw [ht]; exact h)
theorem cell_slice {P : Program} {W : World} {r : Reach} {base : Nat} {t e : TypeId} {v : Value} (ht : P.underlying t = some (.slice e)) (h : Cell.okWide P W r base t v) : ∃ a n c, v = .slice a n c :=
  okWide_slice ht (by unfold Value.okWide; rw [ht]; exact h)
theorem entry_cells : Try.prog.cellTypes Try.prog.depth 49 = some [9, 3, 28, 3] := by kernel_rfl
theorem entry_size : Try.prog.cellsOf 49 = 4 := by kernel_rfl
set_option maxRecDepth 100000 in
theorem open_entry {W : World} {r : Reach} {base : Nat} {v : Value} (h : Value.okWide Try.prog W r base 49 v) : ∃ k s A n c q, v = .agg #[.string k, .int .i64 s, .slice A n c, .int .i64 q] := by
  obtain ⟨cs, rfl, hsz, ts, hts, _, hc⟩ := okWide_row Try.underlying49 h
  rw [entry_cells] at hts
  cases hts
  rw [entry_size] at hsz
  obtain ⟨l⟩ := cs
  match l, hsz with
  | [a, b, c, d], _ =>
    obtain ⟨u0, h0, c0⟩ := hc 0 a rfl
    obtain ⟨u1, h1, c1⟩ := hc 1 b rfl
    obtain ⟨u2, h2, c2⟩ := hc 2 c rfl
    obtain ⟨u3, h3, c3⟩ := hc 3 d rfl
    cases h0; cases h1; cases h2; cases h3
    obtain ⟨k, rfl⟩ := cell_string Try.underlying9 c0
    obtain ⟨s, rfl⟩ := cell_int Try.underlying3 c1
    obtain ⟨A, n, c, rfl⟩ := cell_slice Try.underlying28 c2
    obtain ⟨q, rfl⟩ := cell_int Try.underlying3 c3
    exact ⟨k, s, A, n, c, q, rfl⟩
end Go.Proofs.Ytbkpjjibgnachaa
