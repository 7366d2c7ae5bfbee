/- A slice that is only read, as a part of memory. No program in sight. Conditions: none. -/
import Derived.Test.YtkglkpcpgdeneaaSel
namespace Go.Proofs.Ytkglkpcpgdeneaa
open Go.RowKit

def rdP (A : Option Addr) (vs : List Value) : Part where
  at_ w F := RdV w A vs ∧ (∀ x, A = some x → x.block < w.heap.size) ∧ ∀ k, F k ↔ ∃ x, A = some x ∧ x.block = k
  keep h k hd := ⟨h.1.keep k (fun x hx _ => hd _ ((h.2.2 _).2 ⟨x, hx, rfl⟩)), fun x hx => Nat.lt_of_lt_of_le (h.2.1 x hx) k.size, h.2.2⟩
  lt h k hk := by obtain ⟨x, h1, rfl⟩ := (h.2.2 k).1 hk; exact h.2.1 x h1
section
variable {w0 w w' : World} {l : List Part}
theorem St.rdp {A : Option Addr} {vs : List Value} (h : St w0 w (rdP A vs :: l)) : RdV w A vs := by
  obtain ⟨F, h1, _⟩ := h.open_
  exact h1.1
theorem St.rdp_take {A : Option Addr} {vs : List Value} (h : St w0 w (rdP A vs :: l)) (m : Nat) : St w0 w (rdP A (vs.take m) :: l) :=
  h.in_ fun _ ⟨h1, h2⟩ => ⟨h1.take m, h2⟩
/-- The first part turns within its own memory, and a new part is laid. -/
theorem St.two {p : Part} (h : St w0 w (p :: l)) : ∃ F, p.at_ w F ∧ ∀ (w' : World) (q r : Part) (G : Nat → Prop), Keep F w w' → q.at_ w' F → r.at_ w' G → (∀ j, G j → w.heap.size ≤ j) → St w0 w' (r :: q :: l) := by
  obtain ⟨h0, U, F, V, h1, h2, h3, h4, h5⟩ := h
  have hs := h0.size
  have hV := h3.bd
  refine ⟨F, h1, fun w' q r G k hq hr hG => ⟨h0.trans' k (fun j _ hf => h2 j hf), fun j => G j ∨ (F j ∨ V j), G, fun j => F j ∨ V j, hr, fun j hj => by have := hG j hj; omega, ⟨F, V, hq, h2, h3.keep k (fun j hj hf => h4 j hf hj), h4, fun _ => Iff.rfl⟩, fun j hj hv => ?_, fun _ => Iff.rfl⟩⟩
  have g1 := hG j hj
  rcases hv with hv | hv
  · have := p.lt h1 j hv; omega
  · have := (hV j hv).2; omega
/-- What is owned may be read only, and less of it. -/
theorem own_rdp {e : TypeId} {size n c : Nat} {A : Option Addr} {xs : List Value} (h : St w0 w (ownP e size (.slice A n c) n xs :: l)) (m : Nat) : St w0 w (rdP A (xs.take m) :: l) := by
  refine h.in_ fun F ⟨h1, h2⟩ => ?_
  obtain ⟨A', c', e1, _, hr, _⟩ := own_rd h1
  injection e1 with e1 _ _
  subst e1
  refine ⟨hr.take m, fun x hx => ?_, fun k => ?_⟩
  · subst hx
    rcases own_form h1 with ⟨e, _⟩ | ⟨g, _, e, _⟩
    · cases e
    · injection e with e _ _
      cases e
      exact ownBlock_lt h1 g rfl
  · rw [h2 k]
    rcases own_form h1 with ⟨e, _⟩ | ⟨g, _, e, _⟩
    · injection e with e _ _
      subst e
      exact ⟨fun h => (by cases h), fun ⟨x, h, _⟩ => by cases h⟩
    · injection e with e _ _
      subst e
      exact ⟨fun h => ⟨_, rfl, Option.some.inj h⟩, fun ⟨x, h, h'⟩ => by cases h; exact congrArg some h'⟩
end
end Go.Proofs.Ytkglkpcpgdeneaa
