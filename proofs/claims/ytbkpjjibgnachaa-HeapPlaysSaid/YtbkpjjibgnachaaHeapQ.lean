/- A heap as a part of memory. Conditions: none. -/
import Derived.Test.YtbkpjjibgnachaaHeapE
import Derived.Test.YtbkpjjibgnachaaSt
namespace Go.Proofs.Ytbkpjjibgnachaa
open Go.RowKit
def heapP (hb : Nat) (L : List En) : Part where
  at_ w F := HeapAt w F hb L ∧ ∀ k, F k → k < w.heap.size
  keep h k hd := ⟨h.1.keep k hd, fun j hj => Nat.lt_of_lt_of_le (h.2 j hj) k.size⟩
  lt h := h.2
section
variable {w0 w w' : World} {l : List Part} {hb : Nat} {L : List En}
theorem St.heap_new (h : St w0 w l) : St w0 (w.alloc (Obj.cells #[.slice none 0 0] 44)) (heapP w.heap.size [] :: l) :=
  h.new (q := heapP w.heap.size []) (F := fun k => k = w.heap.size) ((Keep.refl _ w).alloc _) ⟨⟨rfl, _, Blk.new w _ _, .inl ⟨rfl, rfl⟩⟩, fun j hj => by have e : j = _ := hj; subst e; simp⟩ (fun j hj => by have e : j = _ := hj; omega)
theorem St.heap_push (h : St w0 w (heapP hb L :: l)) (x : En) (hl : L.length < 1000000) :
    Calls Try.prog 25 #[.pointer (some ⟨hb, 0, none⟩), .agg #[.string x.k, .int .i64 x.s, .slice x.A x.n x.c, .int .i64 x.r]] w fun e w' => e = .returned (.tuple #[]) ∧ St w0 w' (heapP hb (pushE L x) :: l) := by
  obtain ⟨F, h1, h2, h3, _⟩ := h.open_
  refine (Go.Proofs.Ytbkpjjibgnachaa.heap_push F hb L x w h1.1 hl).mono ?_
  rintro e w' ⟨he, hp, hk⟩
  exact ⟨he, h3 w' _ hk ⟨hp, fun j hj => by
    rcases hj with hj | hj
    · exact Nat.lt_of_lt_of_le (h2 j hj).2 hk.size
    · exact hj.2⟩⟩
theorem St.heap_pop (h : St w0 w (heapP hb L :: l)) (h0 : 0 < L.length) (hl : L.length < 1000000) :
    Calls Try.prog 28 #[.pointer (some ⟨hb, 0, none⟩)] w fun e w' => e = .returned (.tuple #[valE (gE L 0), .bool true]) ∧ St w0 w' (heapP hb (popE L) :: l) := by
  obtain ⟨F, h1, h2, h3, _⟩ := h.open_
  refine (pop_some F hb L w h1.1 h0 hl).mono ?_
  rintro e w' ⟨he, hp, hk⟩
  have hs := hk.size
  exact ⟨he, h3 w' _ (hk.mono (fun j hj hf => by rcases hf with hf | hf; exact hf; omega)) ⟨hp.mono (fun j _ hj => .inl hj), fun j hj => by
    rcases hj with hj | hj
    · exact Nat.lt_of_lt_of_le (h2 j hj).2 hs
    · exact hj.2⟩⟩
theorem St.heap_cell (h : St w0 w (heapP hb L :: l)) : ∃ A c, w.cell? ⟨hb, 0, none⟩ = some (.slice A L.length c) ∧ (0 < L.length → ∃ g, A = some ⟨g, 0, none⟩ ∧ RowE w g c L) := by
  obtain ⟨F, h1, _⟩ := h.open_
  obtain ⟨A, c, hB, hr⟩ := h1.1.head
  exact ⟨A, c, hB.cell 0, fun h0 => by obtain ⟨g, e, _, hr⟩ := hr h0; exact ⟨g, e, hr⟩⟩
theorem St.heap_pop_no (h : St w0 w (heapP hb L :: l)) (h0 : L.length = 0) :
    Calls Try.prog 28 #[.pointer (some ⟨hb, 0, none⟩)] w fun e w' => e = .returned (.tuple #[valE z0, .bool false]) ∧ St w0 w' (heapP hb L :: l) := by
  obtain ⟨A, c, hc, _⟩ := h.heap_cell
  rw [h0] at hc
  exact (pop_none hb A c w hc).mono fun e w' ⟨he, hk⟩ => ⟨he, h.later hk⟩
theorem St.heap_least (h : St w0 w (heapP hb L :: l)) (h0 : 0 < L.length) :
    Calls Try.prog 27 #[.pointer (some ⟨hb, 0, none⟩)] w fun e w' => e = .returned (.tuple #[valE (gE L 0), .bool true]) ∧ St w0 w' (heapP hb L :: l) := by
  obtain ⟨A, c, hc, hr⟩ := h.heap_cell
  obtain ⟨g, rfl, hr2⟩ := hr h0
  exact (least_some hb g c L w hc hr2 h0).mono fun e w' ⟨he, hk⟩ => ⟨he, h.later hk⟩
theorem St.heap_least_no (h : St w0 w (heapP hb L :: l)) (h0 : L.length = 0) :
    Calls Try.prog 27 #[.pointer (some ⟨hb, 0, none⟩)] w fun e w' => e = .returned (.tuple #[valE z0, .bool false]) ∧ St w0 w' (heapP hb L :: l) := by
  obtain ⟨A, c, hc, _⟩ := h.heap_cell
  rw [h0] at hc
  exact (least_none hb A c w hc).mono fun e w' ⟨he, hk⟩ => ⟨he, h.later hk⟩
theorem St.heap_len (h : St w0 w (heapP hb L :: l)) :
    Calls Try.prog 31 #[.pointer (some ⟨hb, 0, none⟩)] w fun e w' => e = .returned (.int .i64 L.length) ∧ w = w' := by
  obtain ⟨A, c, hc, _⟩ := h.heap_cell
  exact (len_any hb A L.length c w hc).mono fun e w' ⟨he, hk⟩ => ⟨he, hk.symm⟩
end
end Go.Proofs.Ytbkpjjibgnachaa
