/- How the scratch store lies in memory, and that it stays while other blocks are written. Conditions: none. -/
import Derived.Test.YtkglkpcpgdeneaaStoreM
import Derived.Test.YtkglkpcpgdeneaaStoreA
namespace Go.Proofs.Ytkglkpcpgdeneaa
open Go.RowKit

def ints (l : List Int) : List Value := l.map (Value.int .i64)

/-- A run in memory: its number, its block, the slice in it, its bytes. -/
structure Ent where
  id : Int
  blk : Nat
  val : Value
  bytes : List UInt8

structure StoreAt (w : World) (F : Nat → Prop) (sb : Nat) (S : StoreM) (fv : Value) (mb : Nat) (E : List Ent) : Prop where
  self : Blk w sb 79 [.int .i64 S.room, .int .i64 S.next, .int .i64 S.used, .int .i64 S.peak, .int .i64 S.writes, fv, .map (some mb)]
  fails : w.ownsRow 0 3 1 fv S.fails.length (ints S.fails)
  map : MapB w mb (E.map fun e => (e.id, .pointer (some ⟨e.blk, 0, none⟩)))
  ent : ∀ e ∈ E, Blk w e.blk 91 [e.val] ∧ w.ownsRow 0 5 1 e.val e.bytes.length (bys e.bytes)
  apart : E.Pairwise fun a b => a.blk ≠ b.blk ∧ ∀ k, a.val.ownBlock = some k → b.val.ownBlock ≠ some k
  runs : S.runs = E.map fun e => (e.id, e.bytes)
  ok : S.Ok
  fsb : F sb
  fmb : F mb
  ffv : ∀ k, fv.ownBlock = some k → F k
  fent : ∀ e ∈ E, F e.blk ∧ ∀ k, e.val.ownBlock = some k → F k
  lt : ∀ k, F k → k < w.heap.size

/-- Block sb, with the blocks in F, is the store S. -/
def IsStore (w : World) (F : Nat → Prop) (sb : Nat) (S : StoreM) : Prop := ∃ fv mb E, StoreAt w F sb S fv mb E

/-- F, and what has been made between the two worlds. -/
def ext (F : Nat → Prop) (w w' : World) : Nat → Prop := fun k => F k ∨ (w.heap.size ≤ k ∧ k < w'.heap.size)

theorem own_heap {w : World} {base : Nat} {e : TypeId} {size n : Nat} {v : Value} {xs : List Value} (h : w.ownsRow base e size v n xs) (k : Nat) (hk : v.ownBlock = some k) : ∃ cs, Blk w k e cs := by
  rcases h.2 with ⟨rfl, _⟩ | ⟨g, cap, cur, rfl, _, hh, _⟩
  · cases hk
  · injection (show some g = some k from hk) with hk
    subst hk
    exact ⟨cur.toList, by unfold Blk; rw [Array.toArray_toList]; exact hh⟩
theorem Blk.ne {w : World} {g g' : Nat} {T T' : TypeId} {cs cs' : List Value} (h : Blk w g T cs) (h' : Blk w g' T' cs') (hT : T ≠ T') : g ≠ g' := by
  rintro rfl
  unfold Blk at h h'
  rw [h] at h'
  injection h' with h'
  injection h' with _ h' _
  exact hT h'
theorem Blk.ne_map {w : World} {g g' : Nat} {T : TypeId} {cs : List Value} {L : List (Int × Value)} (h : Blk w g T cs) (h' : MapB w g' L) : g ≠ g' := by
  rintro rfl
  obtain ⟨es, c, h', _⟩ := h'
  unfold Blk at h
  rw [h] at h'
  cases h'
theorem own_keep {w w' : World} {base : Nat} {e : TypeId} {size n : Nat} {v : Value} {xs : List Value} (h : w.ownsRow base e size v n xs) {F : Nat → Prop} (k : Keep F w w') (hn : ∀ g, v.ownBlock = some g → ¬ F g) : w'.ownsRow base e size v n xs := by
  obtain ⟨h1, h2⟩ := h
  refine ⟨h1, ?_⟩
  rcases h2 with h2 | ⟨g, cap, cur, rfl, hb, hh, r⟩
  · exact .inl h2
  · exact .inr ⟨g, cap, cur, rfl, hb, (k.block g (Array.getElem?_eq_some_iff.1 hh).1 (hn g rfl)).trans hh, r⟩

theorem StoreAt.keep {w w' : World} {F G : Nat → Prop} {sb : Nat} {S : StoreM} {fv : Value} {mb : Nat} {E : List Ent} (h : StoreAt w F sb S fv mb E) (k : Keep G w w') (hd : ∀ k, F k → ¬ G k) : StoreAt w' F sb S fv mb E :=
  ⟨h.self.keep k (hd _ h.fsb), own_keep h.fails k (fun g hg => hd g (h.ffv g hg)), h.map.keep k (hd _ h.fmb),
   fun e he => ⟨(h.ent e he).1.keep k (hd _ (h.fent e he).1), own_keep (h.ent e he).2 k (fun g hg => hd g ((h.fent e he).2 g hg))⟩,
   h.apart, h.runs, h.ok, h.fsb, h.fmb, h.ffv, h.fent, fun j hj => Nat.lt_of_lt_of_le (h.lt j hj) k.size⟩
theorem IsStore.keep {w w' : World} {F G : Nat → Prop} {sb : Nat} {S : StoreM} (h : IsStore w F sb S) (k : Keep G w w') (hd : ∀ k, F k → ¬ G k) : IsStore w' F sb S := by
  obtain ⟨fv, mb, E, h⟩ := h
  exact ⟨fv, mb, E, h.keep k hd⟩
theorem StoreAt.widen {w : World} {F G : Nat → Prop} {sb : Nat} {S : StoreM} {fv : Value} {mb : Nat} {E : List Ent} (h : StoreAt w F sb S fv mb E) (hs : ∀ k, F k → G k) (hl : ∀ k, G k → k < w.heap.size) : StoreAt w G sb S fv mb E :=
  ⟨h.self, h.fails, h.map, h.ent, h.apart, h.runs, h.ok, hs _ h.fsb, hs _ h.fmb, fun k hk => hs k (h.ffv k hk), fun e he => ⟨hs _ (h.fent e he).1, fun k hk => hs k ((h.fent e he).2 k hk)⟩, hl⟩

theorem own_ne_blk {w : World} {base : Nat} {e T : TypeId} {size n g k : Nat} {v : Value} {xs cs : List Value} (h : w.ownsRow base e size v n xs) (hk : v.ownBlock = some k) (hb : Blk w g T cs) (hT : e ≠ T) : k ≠ g := by
  obtain ⟨cs', h'⟩ := own_heap h k hk
  exact h'.ne hb hT
theorem own_ne_map {w : World} {base : Nat} {e : TypeId} {size n g k : Nat} {v : Value} {xs : List Value} {L : List (Int × Value)} (h : w.ownsRow base e size v n xs) (hk : v.ownBlock = some k) (hb : MapB w g L) : k ≠ g := by
  obtain ⟨cs', h'⟩ := own_heap h k hk
  exact h'.ne_map hb
theorem StoreAt.nes {w : World} {F : Nat → Prop} {sb : Nat} {S : StoreM} {fv : Value} {mb : Nat} {E : List Ent} (h : StoreAt w F sb S fv mb E) :
    sb ≠ mb ∧ (∀ g, fv.ownBlock = some g → g ≠ sb ∧ g ≠ mb ∧ ∀ e ∈ E, g ≠ e.blk) ∧ ∀ e ∈ E, (e.blk ≠ sb ∧ e.blk ≠ mb) ∧ ∀ g, e.val.ownBlock = some g → g ≠ sb ∧ g ≠ mb ∧ (∀ e' ∈ E, g ≠ e'.blk) ∧ ∀ g', fv.ownBlock = some g' → g ≠ g' :=
  ⟨h.self.ne_map h.map, fun g hg => ⟨own_ne_blk h.fails hg h.self (by decide), own_ne_map h.fails hg h.map, fun e he => own_ne_blk h.fails hg (h.ent e he).1 (by decide)⟩,
   fun e he => ⟨⟨(h.ent e he).1.ne h.self (by decide), (h.ent e he).1.ne_map h.map⟩, fun g hg => ⟨own_ne_blk (h.ent e he).2 hg h.self (by decide), own_ne_map (h.ent e he).2 hg h.map,
     fun e' he' => own_ne_blk (h.ent e he).2 hg (h.ent e' he').1 (by decide), fun g' hg' => by
       obtain ⟨cs, hc⟩ := own_heap h.fails g' hg'
       exact own_ne_blk (h.ent e he).2 hg hc (by decide)⟩⟩⟩

/-- The counters alone have turned. -/
theorem StoreAt.counters {w w' : World} {F : Nat → Prop} {sb : Nat} {S S' : StoreM} {fv : Value} {mb : Nat} {E : List Ent} (h : StoreAt w F sb S fv mb E) (k : Keep (fun j => j = sb) w w')
    (hb : Blk w' sb 79 [.int .i64 S'.room, .int .i64 S'.next, .int .i64 S'.used, .int .i64 S'.peak, .int .i64 S'.writes, fv, .map (some mb)]) (hf : S'.fails = S.fails) (hr : S'.runs = S.runs) (ho : S'.Ok) : StoreAt w' F sb S' fv mb E := by
  have n1 : ∀ g, fv.ownBlock = some g → ¬ g = sb := fun g hg e => by
    subst e
    obtain ⟨cs, hB⟩ := own_heap h.fails g hg
    exact h.self.ne hB (by decide) rfl
  have n2 : ¬ mb = sb := fun e => h.self.ne_map h.map e.symm
  have n3 : ∀ e ∈ E, ¬ e.blk = sb ∧ ∀ g, e.val.ownBlock = some g → ¬ g = sb := fun e he => ⟨fun hh => h.self.ne (h.ent e he).1 (by decide) hh.symm, fun g hg hh => by
    subst hh
    obtain ⟨cs, hB⟩ := own_heap (h.ent e he).2 g hg
    exact h.self.ne hB (by decide) rfl⟩
  exact ⟨hb, by rw [hf]; exact own_keep h.fails k n1, h.map.keep k n2, fun e he => ⟨(h.ent e he).1.keep k (n3 e he).1, own_keep (h.ent e he).2 k (n3 e he).2⟩, h.apart, by rw [hr]; exact h.runs, ho, h.fsb, h.fmb, h.ffv, h.fent, fun j hj => Nat.lt_of_lt_of_le (h.lt j hj) k.size⟩

theorem StoreAt.found {w : World} {F : Nat → Prop} {sb : Nat} {S : StoreM} {fv : Value} {mb : Nat} {E : List Ent} (h : StoreAt w F sb S fv mb E) {n : Int} {b : List UInt8} (hf : S.find n = some b) :
    ∃ e ∈ E, e.id = n ∧ e.bytes = b ∧ (E.map fun e => (e.id, Value.pointer (some ⟨e.blk, 0, none⟩))).find? (fun p => p.1 == n) = some (n, .pointer (some ⟨e.blk, 0, none⟩)) := by
  have h1 := (StoreM.find_some hf).2
  rw [h.runs] at h1
  have key : ∀ E : List Ent, (E.map fun e => (e.id, e.bytes)).find? (fun p => p.1 == n) = some (n, b) → ∃ e ∈ E, e.id = n ∧ e.bytes = b ∧ (E.map fun e => (e.id, Value.pointer (some ⟨e.blk, 0, none⟩))).find? (fun p => p.1 == n) = some (n, .pointer (some ⟨e.blk, 0, none⟩)) := by
    intro E
    induction E with
    | nil => intro h; simp at h
    | cons e r ih =>
      intro h
      by_cases c : e.id = n
      · rw [List.map_cons, List.find?_cons_of_pos (by simpa using c)] at h
        injection h with h
        injection h with _ h
        exact ⟨e, List.mem_cons_self, c, h, by rw [List.map_cons, List.find?_cons_of_pos (by simpa using c), c]⟩
      · rw [List.map_cons, List.find?_cons_of_neg (by simpa using c)] at h
        obtain ⟨x, hx, h1, h2, h3⟩ := ih h
        exact ⟨x, List.mem_cons_of_mem _ hx, h1, h2, by rw [List.map_cons, List.find?_cons_of_neg (by simpa using c)]; exact h3⟩
  exact key E h1
theorem StoreAt.lost {w : World} {F : Nat → Prop} {sb : Nat} {S : StoreM} {fv : Value} {mb : Nat} {E : List Ent} (h : StoreAt w F sb S fv mb E) {n : Int} (hf : S.find n = none) :
    (E.map fun e => (e.id, Value.pointer (some ⟨e.blk, 0, none⟩))).find? (fun p => p.1 == n) = none := by
  unfold StoreM.find at hf
  rw [Option.map_eq_none_iff, h.runs] at hf
  rw [List.find?_eq_none] at hf ⊢
  intro p hp
  obtain ⟨e, he, rfl⟩ := List.mem_map.1 hp
  exact hf (e.id, e.bytes) (List.mem_map.2 ⟨e, he, rfl⟩)
end Go.Proofs.Ytkglkpcpgdeneaa
