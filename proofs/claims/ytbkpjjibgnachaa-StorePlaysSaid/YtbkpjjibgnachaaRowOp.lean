/- A list of a store's operations that came in: how it reads. Conditions: none. -/
import Derived.Test.YtbkpjjibgnachaaRows
import Derived.Test.YtbkpjjibgnachaaRowBytes
import Derived.WideShapes
import Derived.Deep.Slices
import Derived.ChangeSame
import Derived.SizedLaws
namespace Go.Proofs.Ytbkpjjibgnachaa
open Go.RowKit Go.WideShapes Go.ChangeShapes Go.Deep

structure OpI where
  kind : Int
  run : Int
  at_ : Int
  n : Int
  A : Option Addr
  c : Nat
  B : List UInt8
def OpI.cells (x : OpI) : List Value := [.int .i64 x.kind, .int .i64 x.run, .int .i64 x.at_, .int .i64 x.n, .slice x.A x.B.length x.c]
/-- What an operation's bytes are, and its numbers' bounds. -/
structure OpOk (W : World) (x : OpI) : Prop where
  rd : RdV W x.A (bys x.B)
  nil : x.A = none → x.B = []
  cap : x.B.length ≤ x.c ∧ x.c ≤ 9223372036854775807
  num : x.n ≤ 9223372036854775807
def RdO (w : World) (a : Option Addr) (L : List OpI) : Prop := (a = none ∧ L = []) ∨ ∃ b o, a = some ⟨b, o, none⟩ ∧ ∀ i j (h : i < L.length), j < 5 → w.cell? ⟨b, o + i * 5 + j, none⟩ = L[i].cells[j]?
section
variable {H : Type} {enc : TypeId × Value → H} {P : Program} {W : World} {base : Nat} {spare : Nat → Bool} {held : Bool}
theorem spot_none {P : Program} {W : World} {r : Reach} {base : Nat} {t e : TypeId} {x : Addr} {len cap : Nat} (hu : P.underlying t = some (.slice e)) (hval : Value.okWide P W r base t (.slice (some x) len cap)) : x.spot = none := by
  unfold Value.okWide at hval
  rw [hu] at hval
  have : Cell.okWide P W r base t (.slice (some x) len cap) := hval
  unfold Cell.okWide Cell.ok at this
  rw [hu] at this
  exact this.2.2.2.1
theorem open_op {t q : TypeId} {f0 f1 f2 f3 f4 : Field} {fuel : Nat} {cs : List Value} {x : DataW H × List MemPlace} (ht : P.underlying t = some (.struct #[f0, f1, f2, f3, f4])) (hz : P.cellsOf t = 5)
    (h0 : P.underlying f0.type = some (.int .i64)) (o0 : f0.offset = 0) (z0 : P.cellsOf f0.type = 1) (h1 : P.underlying f1.type = some (.int .i64)) (o1 : f1.offset = 1) (z1 : P.cellsOf f1.type = 1)
    (h2 : P.underlying f2.type = some (.int .i64)) (o2 : f2.offset = 2) (z2 : P.cellsOf f2.type = 1) (h3 : P.underlying f3.type = some (.int .i64)) (o3 : f3.offset = 3) (z3 : P.cellsOf f3.type = 1)
    (h4 : P.underlying f4.type = some (.slice q)) (o4 : f4.offset = 4) (z4 : P.cellsOf f4.type = 1) (hq : P.underlying q = some (.int .u8)) (hc : P.cellsOf q = 1)
    (h : DataW.trod enc P W base spare held fuel t cs = some x) : ∃ y : OpI, cs = y.cells ∧ OpOk W y := by
  obtain ⟨xs, n, _, rfl, hl, hlen, hf⟩ := DataW.trod_struct ht h
  match xs, hlen with
  | [y0, y1, y2, y3, y4], _ =>
    have g0 : DataW.trod enc P W base spare held n f0.type ((cs.drop f0.offset).take (P.cellsOf f0.type)) = some y0 := by simpa using hf 0 f0 rfl
    have g1 : DataW.trod enc P W base spare held n f1.type ((cs.drop f1.offset).take (P.cellsOf f1.type)) = some y1 := by simpa using hf 1 f1 rfl
    have g2 : DataW.trod enc P W base spare held n f2.type ((cs.drop f2.offset).take (P.cellsOf f2.type)) = some y2 := by simpa using hf 2 f2 rfl
    have g3 : DataW.trod enc P W base spare held n f3.type ((cs.drop f3.offset).take (P.cellsOf f3.type)) = some y3 := by simpa using hf 3 f3 rfl
    have g4 : DataW.trod enc P W base spare held n f4.type ((cs.drop f4.offset).take (P.cellsOf f4.type)) = some y4 := by simpa using hf 4 f4 rfl
    rw [hz] at hl
    match cs, hl with
    | [a, b, c, d, e], _ =>
      rw [o0, z0] at g0
      rw [o1, z1] at g1
      rw [o2, z2] at g2
      rw [o3, z3] at g3
      rw [o4, z4] at g4
      obtain ⟨k, e0, _, _⟩ := DataW.trod_int h0 g0
      obtain ⟨r, e1, _, _⟩ := DataW.trod_int h1 g1
      obtain ⟨s, e2, _, _⟩ := DataW.trod_int h2 g2
      obtain ⟨u, e3, _, w3⟩ := DataW.trod_int h3 g3
      obtain ⟨A, m, d', e4⟩ : ∃ A m d, e = .slice A m d := by
        rcases DataW.trod_slice h4 g4 with ⟨e, _⟩ | ⟨A, m, d, _, _, _, _, e, _⟩
        · exact ⟨none, 0, 0, by simpa using e⟩
        · exact ⟨some A, m, d, by simpa using e⟩
      subst e4
      obtain ⟨y, hy, hc2, hm2, hr, hn⟩ := open_bytes_cells h4 hq hc g4
      simp at e0 e1 e2 e3
      subst e0 e1 e2 e3 hy
      exact ⟨⟨k, r, s, u, A, d', y⟩, rfl, hr, fun e => (hn e).1, ⟨hc2, hm2⟩, ((Lit.wf_int_iff .i64 u).1 w3).2⟩
theorem open_ops {t e : TypeId} {a : Option Addr} {len cap : Nat} {d : DataW H} {ps : List MemPlace} {r : Reach} {b0 : Nat} (hu : P.underlying t = some (.slice e)) (hz : P.cellsOf e = 5)
    (hval : Value.okWide P W r b0 t (.slice a len cap))
    (hi : ∀ fuel cs (x : DataW H × List MemPlace), DataW.trod enc P W base spare held fuel e cs = some x → ∃ y : OpI, cs = y.cells ∧ OpOk W y)
    (h : DataW.Trod enc P W base spare held t (.slice a len cap) d ps) : ∃ L : List OpI, len = L.length ∧ len ≤ cap ∧ cap ≤ 9223372036854775807 ∧ RdO W a L ∧ ∀ x ∈ L, OpOk W x := by
  obtain ⟨fuel, hf⟩ := h
  rcases open_slice hu (by simpa [Value.cells] using hf) with ⟨hcs, _⟩ | ⟨x, l, c, m, n, D, Pl, hcs, _, hl, hm, hmm, _, hx⟩
  · simp at hcs
    obtain ⟨rfl, rfl, rfl⟩ := hcs
    exact ⟨[], rfl, Nat.le_refl _, by omega, .inl ⟨rfl, rfl⟩, fun x hx => by cases hx⟩
  · simp at hcs
    obtain ⟨rfl, rfl, rfl⟩ := hcs
    have hsp := spot_none hu hval
    have hml : len ≤ m := by rw [hmm]; split <;> omega
    have each : ∀ i, i < len → ∃ y : OpI, (∀ j, j < 5 → W.cell? ((x.add (i * 5)).add j) = y.cells[j]?) ∧ OpOk W y := by
      intro i hi'
      obtain ⟨cs, hcs, htr⟩ := hx i (by omega)
      obtain ⟨y, rfl, hy⟩ := hi _ _ _ htr
      rw [hz] at hcs
      exact ⟨y, (World.cells?_some hcs).2.2, hy⟩
    haveI : Inhabited OpI := ⟨⟨0, 0, 0, 0, none, 0, []⟩⟩
    obtain ⟨Y, hY⟩ := choose_lt (α := OpI) each
    obtain ⟨b, o, sp⟩ := x
    simp only at hsp
    subst hsp
    refine ⟨(List.range len).map Y, by simp, hl, by unfold maxLen at hm; omega, .inr ⟨b, o, rfl, fun i j hi' hj => ?_⟩, fun x hx => ?_⟩
    · have hi2 : i < len := by simpa using hi'
      have := (hY i hi2).1 j hj
      rw [add_plain, add_plain] at this
      simpa using this
    · obtain ⟨i, hi', rfl⟩ := List.mem_map.1 hx
      exact (hY i (by simpa using hi')).2
end
section
variable {H : Type} {enc : TypeId × Value → H} {W : World} {base : Nat} {spare : Nat → Bool} {held : Bool}
set_option maxRecDepth 100000 in
theorem op_in {fuel : Nat} {cs : List Value} {x : DataW H × List MemPlace} (h : DataW.trod enc Try.prog W base spare held fuel 63 cs = some x) : ∃ y : OpI, cs = y.cells ∧ OpOk W y :=
  open_op Try.underlying63 (by kernel_rfl) Try.underlying3 rfl (by kernel_rfl) Try.underlying3 rfl (by kernel_rfl) Try.underlying3 rfl (by kernel_rfl) Try.underlying3 rfl (by kernel_rfl) Try.underlying28 rfl (by kernel_rfl) Try.underlying5 (by kernel_rfl) h
set_option maxRecDepth 100000 in
theorem ops_in {a : Option Addr} {len cap : Nat} {d : DataW H} {ps : List MemPlace} {r : Reach} {b0 : Nat} (hval : Value.okWide Try.prog W r b0 58 (.slice a len cap)) (h : DataW.Trod enc Try.prog W base spare held 58 (.slice a len cap) d ps) :
    ∃ L : List OpI, len = L.length ∧ len ≤ cap ∧ cap ≤ 9223372036854775807 ∧ RdO W a L ∧ ∀ x ∈ L, OpOk W x :=
  open_ops Try.underlying58 (by kernel_rfl) hval (fun _ _ _ g => op_in g) h
end
end Go.Proofs.Ytbkpjjibgnachaa
