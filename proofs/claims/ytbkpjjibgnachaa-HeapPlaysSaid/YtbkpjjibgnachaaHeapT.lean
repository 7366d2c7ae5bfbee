/- Two heaps beside one another. Conditions: none. -/
import Derived.Test.YtbkpjjibgnachaaHeapE
namespace Go.Proofs.Ytbkpjjibgnachaa

/-- Two heaps that share nothing, all of whose blocks lie from ha on. -/
def Two (w : World) (ha : Nat) (A B : List En) : Prop := ∃ Fa Fb : Nat → Prop, HeapAt w Fa ha A ∧ HeapAt w Fb (ha + 1) B ∧ (∀ k, Fa k → ha ≤ k ∧ k < w.heap.size ∧ ¬ Fb k) ∧ (∀ k, Fb k → ha ≤ k ∧ k < w.heap.size)
theorem Two.keep {w w' : World} {ha : Nat} {A B : List En} (h : Two w ha A B) {G : Nat → Prop} (k : Keep G w w') (hG : ∀ j, j < w.heap.size → ha ≤ j → ¬ G j) : Two w' ha A B := by
  obtain ⟨Fa, Fb, h1, h2, h3, h4⟩ := h
  have hs := k.size
  exact ⟨Fa, Fb, h1.keep k (fun j hj => hG j (h3 j hj).2.1 (h3 j hj).1), h2.keep k (fun j hj => hG j (h4 j hj).2 (h4 j hj).1), fun j hj => ⟨(h3 j hj).1, by have := (h3 j hj).2.1; omega, (h3 j hj).2.2⟩, fun j hj => ⟨(h4 j hj).1, by have := (h4 j hj).2; omega⟩⟩
theorem HeapAt.lt {w : World} {F : Nat → Prop} {hb : Nat} {L : List En} (h : HeapAt w F hb L) : hb < w.heap.size := by
  obtain ⟨_, v, hB, _⟩ := h; exact hB.lt
theorem two_pushA {w w' : World} {ha : Nat} {A' B : List En} {Fa Fb : Nat → Prop} (h2 : HeapAt w Fb (ha + 1) B) (h3 : ∀ k, Fa k → ha ≤ k ∧ k < w.heap.size ∧ ¬ Fb k) (h4 : ∀ k, Fb k → ha ≤ k ∧ k < w.heap.size)
    (h : HeapAt w' (extF Fa w w') ha A') (k : Keep Fa w w') : Two w' ha A' B := by
  have hs := k.size
  have hl := h2.lt
  refine ⟨extF Fa w w', Fb, h, h2.keep k (fun j hj hf => (h3 j hf).2.2 hj), fun j hj => ?_, fun j hj => ⟨(h4 j hj).1, by have := (h4 j hj).2; omega⟩⟩
  rcases hj with hj | ⟨hj, hj2⟩
  · exact ⟨(h3 j hj).1, by have := (h3 j hj).2.1; omega, (h3 j hj).2.2⟩
  · exact ⟨by omega, hj2, fun hf => by have := (h4 j hf).2; omega⟩
theorem two_pushB {w w' : World} {ha : Nat} {A B' : List En} {Fa Fb : Nat → Prop} (h1 : HeapAt w Fa ha A) (h3 : ∀ k, Fa k → ha ≤ k ∧ k < w.heap.size ∧ ¬ Fb k) (h4 : ∀ k, Fb k → ha ≤ k ∧ k < w.heap.size)
    (h : HeapAt w' (extF Fb w w') (ha + 1) B') (k : Keep Fb w w') : Two w' ha A B' := by
  have hs := k.size
  have hl := h1.lt
  refine ⟨Fa, extF Fb w w', h1.keep k (fun j hj hf => (h3 j hj).2.2 hf), h, fun j hj => ⟨(h3 j hj).1, by have := (h3 j hj).2.1; omega, ?_⟩, fun j hj => ?_⟩
  · rintro (hf | ⟨hf, _⟩)
    · exact (h3 j hj).2.2 hf
    · have := (h3 j hj).2.1; omega
  · rcases hj with hj | ⟨hj, hj2⟩
    · exact ⟨(h4 j hj).1, by have := (h4 j hj).2; omega⟩
    · exact ⟨by omega, hj2⟩
theorem two_popA {w w' : World} {ha : Nat} {A' B : List En} {Fa Fb : Nat → Prop} (h2 : HeapAt w Fb (ha + 1) B) (h3 : ∀ k, Fa k → ha ≤ k ∧ k < w.heap.size ∧ ¬ Fb k) (h4 : ∀ k, Fb k → ha ≤ k ∧ k < w.heap.size)
    (h : HeapAt w' Fa ha A') (k : Keep (fun j => Fa j ∨ w.heap.size ≤ j) w w') : Two w' ha A' B := by
  have hs := k.size
  refine ⟨Fa, Fb, h, h2.keep k (fun j hj hf => ?_), fun j hj => ⟨(h3 j hj).1, by have := (h3 j hj).2.1; omega, (h3 j hj).2.2⟩, fun j hj => ⟨(h4 j hj).1, by have := (h4 j hj).2; omega⟩⟩
  rcases hf with hf | hf
  · exact (h3 j hf).2.2 hj
  · have := (h4 j hj).2; omega
theorem two_popB {w w' : World} {ha : Nat} {A B' : List En} {Fa Fb : Nat → Prop} (h1 : HeapAt w Fa ha A) (h3 : ∀ k, Fa k → ha ≤ k ∧ k < w.heap.size ∧ ¬ Fb k) (h4 : ∀ k, Fb k → ha ≤ k ∧ k < w.heap.size)
    (h : HeapAt w' Fb (ha + 1) B') (k : Keep (fun j => Fb j ∨ w.heap.size ≤ j) w w') : Two w' ha A B' := by
  have hs := k.size
  refine ⟨Fa, Fb, h1.keep k (fun j hj hf => ?_), h, fun j hj => ⟨(h3 j hj).1, by have := (h3 j hj).2.1; omega, (h3 j hj).2.2⟩, fun j hj => ⟨(h4 j hj).1, by have := (h4 j hj).2; omega⟩⟩
  rcases hf with hf | hf
  · exact (h3 j hj).2.2 hf
  · have := (h3 j hj).2.1; omega
end Go.Proofs.Ytbkpjjibgnachaa
