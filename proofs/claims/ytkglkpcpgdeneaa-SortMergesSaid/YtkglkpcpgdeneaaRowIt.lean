/- Items that came in: how they read, and how large they are. Conditions: none. -/
import Derived.Test.YtkglkpcpgdeneaaRows
import Derived.Test.YtkglkpcpgdeneaaItems
import Derived.Test.YtkglkpcpgdeneaaRowBytes
import Derived.WideShapes
import Derived.Deep.Slices
import Derived.ChangeSame
import Derived.SizedLaws
namespace Go.Proofs.Ytkglkpcpgdeneaa
open Go.RowKit Go.WideShapes Go.ChangeShapes Go.Deep

/-- What a datum weighs is within reach. -/
def WtOk {H : Type} (P : Program) (t : TypeId) (d : DataW H) : Prop := ∀ m ∈ d.weights P t, m ≤ 140737488351232
section
variable {H : Type} {P : Program}
theorem wt_of {ts : List TypeId} {ds : List (DataW H)} (h : (DataW.weightsEach P ts ds).all (· ≤ reachBytes) = true) {j : Nat} {t : TypeId} {d : DataW H} (ht : ts[j]? = some t) (hd : ds[j]? = some d) : WtOk P t d := fun m hm => by
  have := List.all_eq_true.1 h _ (DataW.weights_mem_each ht hd m hm)
  have h2 : m ≤ reachBytes := by simpa using this
  exact h2
theorem wt_part {t : TypeId} {fs : Array Field} {parts : List (DataW H)} (hu : P.underlying t = some (.struct fs)) (h : WtOk P t (.agg parts)) {j : Nat} {f : Field} {d : DataW H} (hf : fs[j]? = some f) (hd : parts[j]? = some d) : WtOk P f.type d := fun m hm => by
  refine h m ?_
  have h2 : (fs.toList.map (·.type))[j]? = some f.type := by simp [hf]
  have := DataW.weights_mem_each (P := P) h2 hd m hm
  simpa [DataW.weights, hu] using this
theorem wt_len {t e : TypeId} {es sp : List (DataW H)} (hu : P.underlying t = some (.slice e)) (h : WtOk P t (.slice es sp)) : (es.length + sp.length) * P.bytesOf e ≤ 140737488351232 :=
  h _ (by simp [DataW.weights, hu])
theorem wt_all {e : TypeId} : ∀ {es : List (DataW H)} {d : DataW H}, d ∈ es → ∀ m ∈ d.weights P e, m ∈ DataW.weightsAll P e es
  | x :: r, d, hd, m, hm => by
    simp only [DataW.weightsAll, List.mem_append]
    rcases List.mem_cons.1 hd with rfl | hd
    · exact .inl hm
    · exact .inr (wt_all hd m hm)
theorem wt_elem {t e : TypeId} {es sp : List (DataW H)} (hu : P.underlying t = some (.slice e)) (h : WtOk P t (.slice es sp)) {d : DataW H} (hd : d ∈ es) : WtOk P e d := fun m hm => by
  refine h m ?_
  simp only [DataW.weights, hu, List.mem_cons, List.mem_append]
  exact .inr (.inl (wt_all hd m hm))
theorem wt_string {t : TypeId} {bs : List UInt8} (h : WtOk P t (.lit (.string bs) : DataW H)) : bs.length ≤ 140737488351232 := h _ (by simp [DataW.weights])
end
theorem okWide_agg {P : Program} {W : World} {r : Reach} {base : Nat} {t : TypeId} {v : Value} {fs : Array Field} (ht : P.underlying t = some (.struct fs)) (h : Value.okWide P W r base t v) : ∃ cs, v = .agg cs := by
  unfold Value.okWide at h; rw [ht] at h
  obtain ⟨cs, h1, _⟩ := h
  exact ⟨cs, h1⟩
theorem okWide_spot {P : Program} {W : World} {r : Reach} {base : Nat} {t e : TypeId} {x : Addr} {len cap : Nat} (hu : P.underlying t = some (.slice e)) (hval : Value.okWide P W r base t (.slice (some x) len cap)) : x.spot = none := by
  unfold Value.okWide at hval
  rw [hu] at hval
  have : Cell.okWide P W r base t (.slice (some x) len cap) := hval
  unfold Cell.okWide Cell.ok at this
  rw [hu] at this
  exact this.2.2.2.1
/-- An item reads as data, and is not too large. -/
def ItOk (W : World) (x : It) : Prop := (∃ y, DatI W x y) ∧ x.k.size ≤ 140737488351232 ∧ x.c ≤ 140737488351232
section
variable {H : Type} {enc : TypeId × Value → H} {P : Program} {W : World} {base : Nat} {held : Bool}
theorem bytes_cells {t q : TypeId} {fuel : Nat} {c : Value} {x : DataW H × List MemPlace} (h2 : P.underlying t = some (.slice q)) (hq : P.underlying q = some (.int .u8)) (hc : P.cellsOf q = 1) (hb : P.bytesOf q = 1)
    (h : DataW.trod enc P W base (fun _ => true) held fuel t [c] = some x) (hw : WtOk P t x.1) : ∃ A m d, c = .slice A m d ∧ d ≤ 140737488351232 ∧ ∃ y : List UInt8, m = y.length ∧ m ≤ d ∧ RdV W A (bys y) ∧ (A = none → y = []) := by
  have hf := h
  rcases DataW.trod_slice h2 h with ⟨e, _⟩ | ⟨A, m, d, es, sp, n, _, e, hx, _, hl, _, he, _, hsp, _⟩
  · obtain rfl : c = .slice none 0 0 := by simpa using e
    exact ⟨none, 0, 0, rfl, by omega, [], rfl, Nat.le_refl _, RdV.nil _ _, fun _ => rfl⟩
  · obtain rfl : c = .slice (some A) m d := by simpa using e
    obtain ⟨y, hy, hc2, _, hr, hn⟩ := open_bytes_cells h2 hq hc hf
    subst hx
    have h1 := wt_len h2 hw
    have h3 := (hsp rfl).1
    rw [hb] at h1
    simp only [List.length_map] at h1
    exact ⟨some A, m, d, rfl, by omega, y, hy, hc2, hr, fun e => (hn e).1⟩
theorem open_it {t q : TypeId} {f0 f1 f2 : Field} {fuel : Nat} {cs : List Value} {x : DataW H × List MemPlace} (ht : P.underlying t = some (.struct #[f0, f1, f2])) (hz : P.cellsOf t = 3)
    (h0 : P.underlying f0.type = some .string) (o0 : f0.offset = 0) (z0 : P.cellsOf f0.type = 1) (h1 : P.underlying f1.type = some (.int .i64)) (o1 : f1.offset = 1) (z1 : P.cellsOf f1.type = 1)
    (h2 : P.underlying f2.type = some (.slice q)) (o2 : f2.offset = 2) (z2 : P.cellsOf f2.type = 1) (hq : P.underlying q = some (.int .u8)) (hc : P.cellsOf q = 1) (hb : P.bytesOf q = 1)
    (h : DataW.trod enc P W base (fun _ => true) held fuel t cs = some x) (hw : WtOk P t x.1) : ∃ y : It, cs = y.cells ∧ ItOk W y := by
  obtain ⟨xs, n, _, rfl, hl, hlen, hf⟩ := DataW.trod_struct ht h
  match xs, hlen with
  | [y0, y1, y2], _ =>
    have g0 : DataW.trod enc P W base (fun _ => true) held n f0.type ((cs.drop f0.offset).take (P.cellsOf f0.type)) = some y0 := by simpa using hf 0 f0 rfl
    have g1 : DataW.trod enc P W base (fun _ => true) held n f1.type ((cs.drop f1.offset).take (P.cellsOf f1.type)) = some y1 := by simpa using hf 1 f1 rfl
    have g2 : DataW.trod enc P W base (fun _ => true) held n f2.type ((cs.drop f2.offset).take (P.cellsOf f2.type)) = some y2 := by simpa using hf 2 f2 rfl
    have w0 : WtOk P f0.type y0.1 := wt_part ht hw (j := 0) rfl rfl
    have w2 : WtOk P f2.type y2.1 := wt_part ht hw (j := 2) rfl rfl
    rw [hz] at hl
    match cs, hl with
    | [a, b, c], _ =>
      rw [o0, z0] at g0
      rw [o1, z1] at g1
      rw [o2, z2] at g2
      obtain ⟨k, e0, rfl, _⟩ := DataW.trod_string h0 g0
      obtain ⟨s, e1, _, _⟩ := DataW.trod_int h1 g1
      obtain ⟨A, m, d, rfl, hd, y, hy, hc2, hr, hn⟩ := bytes_cells h2 hq hc hb g2 w2
      simp at e0 e1
      subst e0 e1
      exact ⟨⟨k, s, A, m, d⟩, rfl, ⟨y, hy, hc2, hr, hn⟩, by have := wt_string w0; simpa using this, hd⟩
end
section
variable {H : Type} {enc : TypeId × Value → H} {W : World} {base : Nat} {held : Bool}
set_option maxRecDepth 100000 in
theorem it_cells {fuel : Nat} {cs : List Value} {x : DataW H × List MemPlace} (h : DataW.trod enc Try.prog W base (fun _ => true) held fuel 44 cs = some x) (hw : WtOk Try.prog 44 x.1) : ∃ y : It, cs = y.cells ∧ ItOk W y :=
  open_it Try.underlying44 (by kernel_rfl) Try.underlying9 rfl (by kernel_rfl) Try.underlying3 rfl (by kernel_rfl) Try.underlying42 rfl (by kernel_rfl) Try.underlying5 (by kernel_rfl) (by kernel_rfl) h hw
theorem item_bytes : Try.prog.bytesOf 44 = 48 := by kernel_rfl
theorem item_size : Try.prog.cellsOf 44 = 3 := by kernel_rfl

set_option maxRecDepth 100000 in
theorem it_in {v : Value} {d : DataW H} {ps : List MemPlace} {r : Reach} {b0 : Nat} (hval : Value.okWide Try.prog W r b0 44 v) (h : DataW.Trod enc Try.prog W base (fun _ => true) held 44 v d ps) (hw : WtOk Try.prog 44 d) : ∃ y : It, v = y.v ∧ ItOk W y := by
  obtain ⟨fuel, hf⟩ := h
  obtain ⟨cs, rfl⟩ := okWide_agg Try.underlying44 hval
  obtain ⟨y, hy, h2⟩ := it_cells (by simpa [Value.cells] using hf) hw
  refine ⟨y, ?_, h2⟩
  have : cs = y.cells.toArray := by rw [← hy]
  subst this
  rfl

set_option maxRecDepth 100000 in
theorem items_in {a : Option Addr} {len cap : Nat} {d : DataW H} {ps : List MemPlace} {r : Reach} {b0 : Nat} (hval : Value.okWide Try.prog W r b0 22 (.slice a len cap)) (h : DataW.Trod enc Try.prog W base (fun _ => true) held 22 (.slice a len cap) d ps) (hw : WtOk Try.prog 22 d) :
    ∃ L : List It, len = L.length ∧ len ≤ cap ∧ cap ≤ 2932031007402 ∧ RdI W a L ∧ (a = none → L = [] ∧ cap = 0) ∧ ∀ x ∈ L, ItOk W x := by
  obtain ⟨fuel, hf⟩ := h
  rcases open_slice Try.underlying22 (by simpa [Value.cells] using hf) with ⟨hcs, _⟩ | ⟨x, l, c, m, n, D, Pl, hcs, _, hl, hm, hmm, hd, hx⟩
  · simp at hcs
    obtain ⟨rfl, rfl, rfl⟩ := hcs
    exact ⟨[], rfl, Nat.le_refl _, by omega, .inl ⟨rfl, rfl⟩, fun _ => ⟨rfl, rfl⟩, fun e he => by cases he⟩
  · simp at hcs
    obtain ⟨rfl, rfl, rfl⟩ := hcs
    have hd' : d = .slice ((List.range len).map D) ((List.range (m - len)).map fun j => D (len + j)) := (Prod.mk.inj hd).1
    subst hd'
    have hsp := okWide_spot Try.underlying22 hval
    rw [if_pos rfl] at hmm
    subst hmm
    have hle := wt_len Try.underlying22 hw
    rw [item_bytes] at hle
    simp only [List.length_map, List.length_range] at hle
    have each : ∀ i, i < len → ∃ y : It, (∀ j, j < 3 → W.cell? ((x.add (i * 3)).add j) = y.cells[j]?) ∧ ItOk W y := by
      intro i hi'
      obtain ⟨cs, hcs, htr⟩ := hx i (by omega)
      obtain ⟨y, rfl, hy⟩ := it_cells htr (wt_elem Try.underlying22 hw (List.mem_map.2 ⟨i, List.mem_range.2 hi', rfl⟩))
      rw [item_size] at hcs
      exact ⟨y, (World.cells?_some hcs).2.2, hy⟩
    haveI : Inhabited It := ⟨⟨⟨#[]⟩, 0, none, 0, 0⟩⟩
    obtain ⟨Y, hY⟩ := choose_lt (α := It) each
    obtain ⟨b, o, sp⟩ := x
    simp only at hsp
    subst hsp
    refine ⟨(List.range len).map Y, by simp, hl, by omega, .inr ⟨b, o, rfl, fun i j hi' hj => ?_⟩, fun e => (by cases e), fun e he => ?_⟩
    · have hi2 : i < len := by simpa using hi'
      have := (hY i hi2).1 j hj
      rw [add_plain, add_plain] at this
      simpa using this
    · obtain ⟨i, hi', rfl⟩ := List.mem_map.1 he
      exact (hY i (by simpa using hi')).2
end
end Go.Proofs.Ytkglkpcpgdeneaa
