/- Parts of memory that share no block, and how a step on one of them leaves the others. No program in sight. Conditions: none. -/
import Derived.Test.YtkglkpcpgdeneaaBase
namespace Go.Proofs.Ytkglkpcpgdeneaa
open Go.RowKit

/-- What lies in memory, said of a world and of the blocks that are its own. -/
structure Part where
  at_ : World → (Nat → Prop) → Prop
  keep : ∀ {w w' : World} {F G : Nat → Prop}, at_ w F → Keep G w w' → (∀ k, F k → ¬ G k) → at_ w' F
  lt : ∀ {w : World} {F : Nat → Prop}, at_ w F → ∀ k, F k → k < w.heap.size

/-- These blocks, and what is new. -/
def more (F : Nat → Prop) (w w' : World) : Nat → Prop := fun k => F k ∨ (w.heap.size ≤ k ∧ k < w'.heap.size)

def Parts (w : World) (lo : Nat) : List Part → (Nat → Prop) → Prop
  | [], U => ∀ k, ¬ U k
  | p :: r, U => ∃ F V : Nat → Prop, p.at_ w F ∧ (∀ k, F k → lo ≤ k) ∧ Parts w lo r V ∧ (∀ k, F k → ¬ V k) ∧ ∀ k, U k ↔ (F k ∨ V k)
theorem Parts.bd {w : World} {lo : Nat} : ∀ {l : List Part} {U : Nat → Prop}, Parts w lo l U → ∀ k, U k → lo ≤ k ∧ k < w.heap.size
  | [], _, h, k, hk => absurd hk (h k)
  | p :: _, _, ⟨_, _, h1, h2, h3, _, h5⟩, k, hk => by
    rcases (h5 k).1 hk with h | h
    · exact ⟨h2 k h, p.lt h1 k h⟩
    · exact Parts.bd h3 k h
theorem Parts.keep {w w' : World} {lo : Nat} {G : Nat → Prop} (k : Keep G w w') : ∀ {l : List Part} {U : Nat → Prop}, Parts w lo l U → (∀ j, U j → ¬ G j) → Parts w' lo l U
  | [], _, h, _ => h
  | p :: _, _, ⟨F, V, h1, h2, h3, h4, h5⟩, hd => ⟨F, V, p.keep h1 k (fun j hj => hd j ((h5 j).2 (.inl hj))), h2, Parts.keep k h3 (fun j hj => hd j ((h5 j).2 (.inr hj))), h4, h5⟩
theorem Parts.swap {w : World} {lo : Nat} {p q : Part} {r : List Part} {U : Nat → Prop} (h : Parts w lo (p :: q :: r) U) : Parts w lo (q :: p :: r) U := by
  obtain ⟨F, V, h1, h2, ⟨G, V2, g1, g2, g3, g4, g5⟩, h4, h5⟩ := h
  refine ⟨G, fun k => F k ∨ V2 k, g1, g2, ⟨F, V2, h1, h2, g3, fun k hk hv => h4 k hk ((g5 k).2 (.inr hv)), fun k => Iff.rfl⟩, fun k hk hv => ?_, fun k => ?_⟩
  · rcases hv with hv | hv
    · exact h4 k hv ((g5 k).2 (.inl hk))
    · exact g4 k hk hv
  · rw [h5 k, g5 k]
    constructor
    · rintro (h | h | h)
      · exact .inr (.inl h)
      · exact .inl h
      · exact .inr (.inr h)
    · rintro (h | h | h)
      · exact .inr (.inl h)
      · exact .inl h
      · exact .inr (.inr h)
theorem Parts.perm {w : World} {lo : Nat} {l m : List Part} (hp : l.Perm m) : ∀ {U : Nat → Prop}, Parts w lo l U → Parts w lo m U := by
  induction hp with
  | nil => exact fun h => h
  | cons p _ ih =>
    rintro U ⟨F, V, h1, h2, h3, h4, h5⟩
    exact ⟨F, V, h1, h2, ih h3, h4, h5⟩
  | swap p q r => exact fun h => h.swap
  | trans _ _ ih1 ih2 => exact fun h => ih2 (ih1 h)

/-- All since w0 is new memory; these parts lie in it. -/
def St (w0 w : World) (l : List Part) : Prop := Keep (fun k => w0.heap.size ≤ k) w0 w ∧ ∃ U, Parts w w0.heap.size l U
section
variable {w0 w w' : World} {p q : Part} {l r : List Part}
theorem St.keep (h : St w0 w l) : Keep (fun k => w0.heap.size ≤ k) w0 w := h.1
theorem St.below (h : St w0 w l) : Below w0.heap.size w0 w := h.1.below (Nat.le_refl _) (fun _ _ h => h)
theorem St.start (w : World) : St w w [] := ⟨Keep.refl _ w, fun _ => False, fun _ h => h⟩
theorem St.perm (h : St w0 w l) (hp : l.Perm r) : St w0 w r := ⟨h.1, h.2.imp fun _ => Parts.perm hp⟩
theorem St.size (h : St w0 w l) : w0.heap.size ≤ w.heap.size := h.1.size
theorem St.tail (h : St w0 w (p :: l)) : St w0 w l := by
  obtain ⟨h0, U, F, V, h1, h2, h3, _⟩ := h
  exact ⟨h0, V, h3⟩
theorem St.swap (h : St w0 w (p :: q :: l)) : St w0 w (q :: p :: l) := ⟨h.1, h.2.imp fun _ => Parts.swap⟩
theorem St.rot (h : St w0 w (p :: l)) : St w0 w (l ++ [p]) := h.perm (List.perm_append_comm (l₁ := [p]) (l₂ := l))
theorem St.nth3 {a b c : Part} (h : St w0 w (a :: b :: c :: l)) : St w0 w (c :: a :: b :: l) := h.perm (((List.Perm.swap c b l).cons a).trans (List.Perm.swap c a (b :: l)))
theorem St.nth4 {a b c d : Part} (h : St w0 w (a :: b :: c :: d :: l)) : St w0 w (d :: a :: b :: c :: l) := h.perm ((((List.Perm.swap d c l).cons b).trans (List.Perm.swap d b (c :: l))).cons a |>.trans (List.Perm.swap d a (b :: c :: l)))
theorem St.in_ (h : St w0 w (q :: l)) (f : ∀ F, q.at_ w F → p.at_ w F) : St w0 w (p :: l) := by
  obtain ⟨h0, U, F, V, h1, h2⟩ := h
  exact ⟨h0, U, F, V, f F h1, h2⟩
/-- The first part, and how the state goes on from a step on it. -/
theorem St.open_ (h : St w0 w (p :: l)) : ∃ F, p.at_ w F ∧ (∀ k, F k → w0.heap.size ≤ k ∧ k < w.heap.size) ∧
    (∀ (w' : World) (q : Part), Keep F w w' → q.at_ w' (more F w w') → St w0 w' (q :: l)) ∧
    (∀ w' : World, Keep F w w' → St w0 w' l) := by
  obtain ⟨h0, U, F, V, h1, h2, h3, h4, h5⟩ := h
  have hs := h0.size
  refine ⟨F, h1, fun k hk => ⟨h2 k hk, p.lt h1 k hk⟩, fun w' q k hq => ⟨h0.trans' k (fun j _ hf => h2 j hf), fun j => more F w w' j ∨ V j, more F w w', V, hq, ?_, h3.keep k (fun j hj hf => h4 j hf hj), ?_, fun _ => Iff.rfl⟩,
    fun w' k => ⟨h0.trans' k (fun j _ hf => h2 j hf), V, h3.keep k (fun j hj hf => h4 j hf hj)⟩⟩
  · rintro j (hj | hj)
    · exact h2 j hj
    · omega
  · rintro j (hj | hj) hv
    · exact h4 j hj hv
    · have := (h3.bd j hv).2; omega
/-- Two parts. -/
theorem St.open2 (h : St w0 w (p :: q :: l)) : ∃ F G, p.at_ w F ∧ q.at_ w G ∧ (∀ k, F k → ¬ G k) ∧ (∀ k, F k ∨ G k → w0.heap.size ≤ k ∧ k < w.heap.size) := by
  obtain ⟨h0, U, F, V, h1, h2, ⟨G, V2, g1, g2, g3, g4, g5⟩, h4, h5⟩ := h
  refine ⟨F, G, h1, g1, fun k hk hg => h4 k hk ((g5 k).2 (.inl hg)), fun k hk => ?_⟩
  rcases hk with hk | hk
  · exact ⟨h2 k hk, p.lt h1 k hk⟩
  · exact ⟨g2 k hk, q.lt g1 k hk⟩
/-- A new part, in new memory. -/
theorem St.new (h : St w0 w l) (k : Keep (fun j => w.heap.size ≤ j) w w') {F : Nat → Prop} (hq : q.at_ w' F) (hF : ∀ j, F j → w.heap.size ≤ j) : St w0 w' (q :: l) := by
  obtain ⟨h0, U, hU⟩ := h
  have hs := h0.size
  refine ⟨h0.trans' k (fun j hj hf => by omega), fun j => F j ∨ U j, F, U, hq, fun j hj => by have := hF j hj; omega, hU.keep k (fun j hj hf => by have := (hU.bd j hj).2; omega), fun j hj hu => by have := (hU.bd j hu).2; have := hF j hj; omega, fun _ => Iff.rfl⟩
/-- Only what is new has turned. -/
theorem St.later (h : St w0 w l) (k : Keep (fun j => w.heap.size ≤ j) w w') : St w0 w' l := by
  obtain ⟨h0, U, hU⟩ := h
  have hs := h0.size
  exact ⟨h0.trans' k (fun j hj hf => by omega), U, hU.keep k (fun j hj hf => by have := (hU.bd j hj).2; omega)⟩
theorem St.same (h : St w0 w l) (k : Keep (fun _ => False) w w') : St w0 w' l := h.later (k.mono (fun _ _ f => f.elim))
theorem St.alloc (h : St w0 w l) (o : Obj) : St w0 (w.alloc o) l := h.same ((Keep.refl _ w).alloc o)
theorem St.drew (h : St w0 w l) : St w0 w.drew l := h.same (Keep.refl _ w).drew
theorem St.drewN (h : St w0 w l) (n : Nat) : St w0 (w.drewN n) l := h.same ((Keep.refl _ w).drewN n)
end

/-- A block, known whole. -/
def blkP (g : Nat) (T : TypeId) (cs : List Value) : Part where
  at_ w F := Blk w g T cs ∧ ∀ k, F k ↔ k = g
  keep h k hd := ⟨h.1.keep k (hd _ ((h.2 _).2 rfl)), h.2⟩
  lt h k hk := by rw [(h.2 k).1 hk]; exact h.1.lt
theorem St.box {w0 w : World} {l : List Part} (h : St w0 w l) (cs : List Value) (T : TypeId) : St w0 (w.alloc (.cells cs.toArray T)) (blkP w.heap.size T cs :: l) :=
  h.new (q := blkP w.heap.size T cs) (F := fun k => k = w.heap.size) ((Keep.refl _ w).alloc _) ⟨Blk.new w T cs, fun _ => Iff.rfl⟩ (fun j hj => by have e : j = _ := hj; omega)
theorem St.blk {w0 w : World} {l : List Part} {g : Nat} {T : TypeId} {cs : List Value} (h : St w0 w (blkP g T cs :: l)) : Blk w g T cs ∧ w0.heap.size ≤ g := by
  obtain ⟨F, h1, h2, _⟩ := h.open_
  exact ⟨h1.1, (h2 g ((h1.2 g).2 rfl)).1⟩
theorem St.set {w0 w : World} {l : List Part} {g : Nat} {T : TypeId} {cs : List Value} (h : St w0 w (blkP g T cs :: l)) (i : Nat) (u : Value) : St w0 (w.setCell ⟨g, i, none⟩ u) (blkP g T (cs.set i u) :: l) := by
  obtain ⟨F, h1, h2, h3, _⟩ := h.open_
  refine h3 _ (blkP g T (cs.set i u)) ((Keep.refl F w).setCell (p := ⟨g, i, none⟩) (.inl ((h1.2 g).2 rfl)) u) ⟨h1.1.set i u, fun k => ?_⟩
  unfold more
  rw [h1.2 k]
  constructor
  · rintro (h | h)
    · exact h
    · have : (w.setCell ⟨g, i, none⟩ u).heap.size = w.heap.size := by simp [World.setCell]
      omega
  · exact .inl

theorem ownBlock_lt {w : World} {base : Nat} {e : TypeId} {size n : Nat} {v : Value} {xs : List Value} (h : w.ownsRow base e size v n xs) (k : Nat) (hk : v.ownBlock = some k) : k < w.heap.size := by
  rcases h.2 with ⟨rfl, _⟩ | ⟨g, cap, cur, rfl, _, hh, _⟩
  · cases hk
  · injection (show some g = some k from hk) with hk
    subst hk
    exact (Array.getElem?_eq_some_iff.1 hh).1
theorem own_keep' {w w' : World} {base : Nat} {e : TypeId} {size n : Nat} {v : Value} {xs : List Value} (h : w.ownsRow base e size v n xs) {F : Nat → Prop} (k : Keep F w w') (hn : ∀ g, v.ownBlock = some g → ¬ F g) : w'.ownsRow base e size v n xs := by
  have hl := ownBlock_lt h
  obtain ⟨h1, h2⟩ := h
  refine ⟨h1, ?_⟩
  rcases h2 with h2 | ⟨g, cap, cur, rfl, hg, hh, r⟩
  · exact .inl h2
  · exact .inr ⟨g, cap, cur, rfl, hg, (k.block g (hl g rfl) (hn g rfl)).trans hh, r⟩
/-- A slice of the call's own. -/
def ownP (e : TypeId) (size : Nat) (v : Value) (n : Nat) (xs : List Value) : Part where
  at_ w F := w.ownsRow 0 e size v n xs ∧ ∀ k, F k ↔ v.ownBlock = some k
  keep h k hd := ⟨own_keep' h.1 k (fun g hg => hd g ((h.2 g).2 hg)), h.2⟩
  lt h k hk := ownBlock_lt h.1 k ((h.2 k).1 hk)
theorem St.own {w0 w : World} {l : List Part} {e : TypeId} {size n : Nat} {v : Value} {xs : List Value} (h : St w0 w (ownP e size v n xs :: l)) : w.ownsRow w0.heap.size e size v n xs := by
  obtain ⟨F, ⟨h1, h1'⟩, h2, _⟩ := h.open_
  obtain ⟨h3, h4⟩ := h1
  refine ⟨h3, ?_⟩
  rcases h4 with h4 | ⟨g, cap, cur, rfl, _, r⟩
  · exact .inl h4
  · exact .inr ⟨g, cap, cur, rfl, (h2 g ((h1' g).2 rfl)).1, r⟩
theorem St.nil {w0 w : World} {l : List Part} (h : St w0 w l) (e : TypeId) (size : Nat) : St w0 w (ownP e size (.slice none 0 0) 0 [] :: l) :=
  h.new (q := ownP e size (.slice none 0 0) 0 []) (F := fun _ => False) (Keep.refl _ w) ⟨World.ownsRow_nil w 0 e size, fun k => ⟨fun h => h.elim, fun h => by cases h⟩⟩ (fun _ h => h.elim)
/-- A slice that the call has made anew. -/
theorem St.made {w0 w w' : World} {l : List Part} (h : St w0 w l) {e : TypeId} {size n : Nat} {v : Value} {xs : List Value} (ho : w'.ownsRow w.heap.size e size v n xs) (k : Keep (fun j => w.heap.size ≤ j) w w') : St w0 w' (ownP e size v n xs :: l) :=
  h.new (q := ownP e size v n xs) (F := fun j => v.ownBlock = some j) k ⟨own_weaken ho (Nat.zero_le _), fun _ => Iff.rfl⟩ (fun j hj => own_base ho j hj)
/-- The slice has grown, or lies anew. -/
theorem St.grown {w0 w w' : World} {l : List Part} {e : TypeId} {size n n' b0 : Nat} {v v' : Value} {xs xs' : List Value} (h : St w0 w (ownP e size v n xs :: l)) (ho : w'.ownsRow b0 e size v' n' xs') (k : Keep (fun j => some j = v.ownBlock ∨ w.heap.size ≤ j) w w')
    (hat : v'.ownBlock = v.ownBlock ∨ ∃ b, v'.ownBlock = some b ∧ w.heap.size ≤ b) : St w0 w' (ownP e size v' n' xs' :: l) := by
  obtain ⟨h0, U, F, V, h1, h2, h3, h4, h5⟩ := h
  have hs := h0.size
  have hV := h3.bd
  refine ⟨h0.trans' k (fun j hj hf => ?_), fun j => v'.ownBlock = some j ∨ V j, fun j => v'.ownBlock = some j, V, ⟨own_weaken ho (Nat.zero_le _), fun _ => Iff.rfl⟩, fun j hj => ?_, h3.keep k (fun j hj hf => ?_), fun j hj hv => ?_, fun _ => Iff.rfl⟩
  · rcases hf with hf | hf
    · exact h2 j ((h1.2 j).2 hf.symm)
    · omega
  · rcases hat with e1 | ⟨b, e1, e2⟩
    · rw [e1] at hj; exact h2 j ((h1.2 j).2 hj)
    · rw [e1] at hj; cases hj; omega
  · rcases hf with hf | hf
    · exact h4 j ((h1.2 j).2 hf.symm) hj
    · have := (hV j hj).2; omega
  · rcases hat with e1 | ⟨b, e1, e2⟩
    · rw [e1] at hj; exact h4 j ((h1.2 j).2 hj) hv
    · rw [e1] at hj; cases hj; have := (hV j hv).2; omega
/-- An old reading is as it was. -/
theorem St.rd {w0 w : World} {l : List Part} (h : St w0 w l) {A : Option Addr} {vs : List Value} (hr : RdV w0 A vs) : RdV w A vs := hr.old h.1
theorem St.cell {w0 w : World} {l : List Part} (h : St w0 w l) {p : Addr} {u : Value} (hr : w0.cell? p = some u) : w.cell? p = some u := old_cell hr h.1
end Go.Proofs.Ytkglkpcpgdeneaa
