/- Words of this session's own, over any program: worlds that keep what they are not let to write, slices that read as a list of cells, and append onto a slice of the call's own. Conditions: none. -/
import Derived.WalkKit
import Derived.Below
import Derived.Deep.AppendSrc
import Derived.Deep.QuietTactic
import Derived.BigQuiet
import Derived.Deep.LoopGhost
import Derived.Deep.Draws
import Derived.Lib.Hide
import Derived.KernelRfl
namespace Go.Proofs.Ytkglkpcpgdeneaa
open Go.RowKit

theorem ret_bool {a b : Bool} (h : a = b) : Ending.returned (.bool a) = Ending.returned (.bool b) := by rw [h]
theorem ret_int {k : IntKind} {a b : Int} (h : a = b) : Ending.returned (.int k a) = Ending.returned (.int k b) := by rw [h]

/-- Blocks outside F are as they were; nothing but memory has turned. -/
structure Keep (F : Nat → Prop) (w w' : World) : Prop where
  os : w'.os = w.os
  tape : w'.tape = w.tape
  output : w'.output = w.output
  size : w.heap.size ≤ w'.heap.size
  block : ∀ k, k < w.heap.size → ¬ F k → w'.heap[k]? = w.heap[k]?

theorem Keep.refl (F : Nat → Prop) (w : World) : Keep F w w := ⟨rfl, rfl, rfl, Nat.le_refl _, fun _ _ _ => rfl⟩
theorem Keep.mono {F G : Nat → Prop} {w w' : World} (h : Keep F w w') (hs : ∀ k, k < w.heap.size → F k → G k) : Keep G w w' :=
  ⟨h.os, h.tape, h.output, h.size, fun k hk hn => h.block k hk (fun hf => hn (hs k hk hf))⟩
theorem Keep.trans {F : Nat → Prop} {a b c : World} (h : Keep F a b) (g : Keep F b c) : Keep F a c :=
  ⟨g.os.trans h.os, g.tape.trans h.tape, g.output.trans h.output, Nat.le_trans h.size g.size, fun k hk hn => (g.block k (Nat.lt_of_lt_of_le hk h.size) hn).trans (h.block k hk hn)⟩
/-- The second step may also write what is new. -/
theorem Keep.trans' {F G : Nat → Prop} {a b c : World} (h : Keep F a b) (g : Keep G b c) (hs : ∀ k, k < a.heap.size → G k → F k) : Keep F a c :=
  ⟨g.os.trans h.os, g.tape.trans h.tape, g.output.trans h.output, Nat.le_trans h.size g.size, fun k hk hn => (g.block k (Nat.lt_of_lt_of_le hk h.size) (fun hg => hn (hs k hk hg))).trans (h.block k hk hn)⟩
theorem Keep.of_below {B : Nat} {w w' : World} (h : Below B w w') : Keep (fun k => B ≤ k) w w' :=
  ⟨h.os, h.tape, h.output, h.size, fun k _ hn => h.block k (by omega)⟩
theorem Keep.below {F : Nat → Prop} {B : Nat} {w w' : World} (h : Keep F w w') (hB : B ≤ w.heap.size) (hF : ∀ k, k < w.heap.size → F k → B ≤ k) : Below B w w' :=
  ⟨h.os, h.tape, h.output, h.size, fun k hk => h.block k (by omega) (fun hf => by have := hF k (by omega) hf; omega)⟩
theorem Keep.of_grown {w w' : World} {row : Option Nat} (h : w.grownBy w' row) : Keep (fun k => some k = row) w w' :=
  ⟨h.os, h.tape, h.output, h.size, fun k hk hn => h.block k hk hn⟩
theorem Keep.drew {F : Nat → Prop} {a w : World} (h : Keep F a w) : Keep F a w.drew := ⟨h.os, h.tape, h.output, h.size, h.block⟩
theorem Keep.drewN {F : Nat → Prop} {a w : World} (h : Keep F a w) (n : Nat) : Keep F a (w.drewN n) := ⟨h.os, h.tape, h.output, h.size, h.block⟩
theorem heap_alloc_lt (w : World) (o : Obj) (k : Nat) (h : k < w.heap.size) : (w.alloc o).heap[k]? = w.heap[k]? := Below.heap_alloc w o k h
theorem heap_alloc_eq (w : World) (o : Obj) : (w.alloc o).heap[w.heap.size]? = some o := by
  show (w.heap.push o)[w.heap.size]? = _
  simp
theorem Keep.alloc {F : Nat → Prop} {a w : World} (h : Keep F a w) (o : Obj) : Keep F a (w.alloc o) :=
  h.trans ⟨rfl, rfl, rfl, by simp, fun k hk _ => heap_alloc_lt _ _ _ hk⟩
theorem Keep.setCell {F : Nat → Prop} {a w : World} (h : Keep F a w) {p : Addr} (hp : F p.block ∨ a.heap.size ≤ p.block) (u : Value) : Keep F a (w.setCell p u) :=
  h.trans' (G := fun k => k = p.block) ⟨rfl, rfl, rfl, by simp [World.setCell], fun k _ hn => Below.heap_setCell _ _ _ _ hn⟩ (fun k hk e => by subst e; rcases hp with hp | hp; exact hp; omega)

/-- Block g: these cells, of this type, none of them frozen. -/
def Blk (w : World) (g : Nat) (T : TypeId) (cs : List Value) : Prop := w.heap[g]? = some (.cells cs.toArray T (0, 0))
theorem Blk.lt {w : World} {g : Nat} {T : TypeId} {cs : List Value} (h : Blk w g T cs) : g < w.heap.size := (Array.getElem?_eq_some_iff.1 h).1
theorem Blk.cell {w : World} {g : Nat} {T : TypeId} {cs : List Value} (h : Blk w g T cs) (i : Nat) : w.cell? ⟨g, i, none⟩ = cs[i]? := by
  unfold Blk at h
  simp [World.cell?, h]
theorem Blk.free {w : World} {g : Nat} {T : TypeId} {cs : List Value} (h : Blk w g T cs) (i : Nat) : w.frozen? ⟨g, i, none⟩ = false := by
  unfold Blk at h
  simp [World.frozen?, h]
theorem Blk.keep {w w' : World} {g : Nat} {T : TypeId} {cs : List Value} (h : Blk w g T cs) {F : Nat → Prop} (k : Keep F w w') (hn : ¬ F g) : Blk w' g T cs :=
  (k.block g h.lt hn).trans h
theorem Blk.set {w : World} {g : Nat} {T : TypeId} {cs : List Value} (h : Blk w g T cs) (i : Nat) (u : Value) : Blk (w.setCell ⟨g, i, none⟩ u) g T (cs.set i u) := by
  unfold Blk at h ⊢
  have hlt := (Array.getElem?_eq_some_iff.1 h).1
  simp only [World.setCell, Array.getElem?_modify, h]
  simp
theorem Blk.set_ne {w : World} {g : Nat} {T : TypeId} {cs : List Value} (h : Blk w g T cs) {p : Addr} (hp : g ≠ p.block) (u : Value) : Blk (w.setCell p u) g T cs := by
  unfold Blk at h ⊢
  rw [Below.heap_setCell _ _ _ _ hp]; exact h
theorem Blk.alloc {w : World} {g : Nat} {T : TypeId} {cs : List Value} (h : Blk w g T cs) (o : Obj) : Blk (w.alloc o) g T cs := (heap_alloc_lt w o g h.lt).trans h
theorem Blk.new (w : World) (T : TypeId) (cs : List Value) : Blk (w.alloc (.cells cs.toArray T (0, 0))) w.heap.size T cs := heap_alloc_eq w _

theorem add_plain (b o j : Nat) : (⟨b, o, none⟩ : Addr).add j = ⟨b, o + j, none⟩ := by unfold Addr.add; split <;> simp_all

/-- The cells behind an address are these. -/
def RdV (w : World) (A : Option Addr) (vs : List Value) : Prop := ∀ j u, vs[j]? = some u → ∃ x, A = some x ∧ w.cell? (x.add j) = some u
theorem block_lt {w : World} {x : Addr} {u : Value} (h : w.cell? x = some u) : x.block < w.heap.size := World.block_lt_of_cell? w x h
theorem add_block (x : Addr) (j : Nat) : (x.add j).block = x.block := by unfold Addr.add; split <;> rfl
theorem RdV.keep {w w' : World} {A : Option Addr} {vs : List Value} (h : RdV w A vs) {F : Nat → Prop} (k : Keep F w w') (hn : ∀ x, A = some x → x.block < w.heap.size → ¬ F x.block) : RdV w' A vs := by
  intro j u hj
  obtain ⟨x, rfl, hc⟩ := h j u hj
  have hb := block_lt hc
  rw [add_block] at hb
  exact ⟨x, rfl, (World.cell?_of_block (by rw [add_block]; exact k.block x.block hb (hn x rfl hb))).trans hc⟩
theorem RdV.below {w w' : World} {A : Option Addr} {vs : List Value} (h : RdV w A vs) {B : Nat} (k : Below B w w') (hn : ∀ x, A = some x → x.block < w.heap.size → x.block < B) : RdV w' A vs :=
  h.keep (Keep.of_below k) (fun x hx hb => by have := hn x hx hb; omega)
theorem RdV.take {w : World} {A : Option Addr} {vs : List Value} (h : RdV w A vs) (n : Nat) : RdV w A (vs.take n) := fun j u hj => h j u (by
  rw [List.getElem?_take] at hj
  split at hj
  · exact hj
  · cases hj)
theorem RdV.nil (w : World) (A : Option Addr) : RdV w A [] := fun j u hj => by simp at hj
theorem RdV.of_blk {w : World} {g : Nat} {T : TypeId} {cs : List Value} (h : Blk w g T cs) (o n : Nat) : RdV w (some ⟨g, o, none⟩) ((cs.drop o).take n) := by
  intro j u hj
  refine ⟨_, rfl, ?_⟩
  rw [add_plain, h.cell]
  rw [List.getElem?_take] at hj
  split at hj
  · rwa [List.getElem?_drop] at hj
  · cases hj
theorem RdV.new (w : World) (T : TypeId) (cs : List Value) (b : Nat) (hb : b = w.heap.size) : RdV (w.alloc (.cells cs.toArray T)) (some ⟨b, 0, none⟩) cs := by
  subst hb
  have := RdV.of_blk (Blk.new w T cs) 0 cs.length
  rwa [List.drop_zero, List.take_length] at this

theorem old_cell {w w' : World} {p : Addr} {u : Value} (h : w.cell? p = some u) (k : Keep (fun j => w.heap.size ≤ j) w w') : w'.cell? p = some u := by
  have hb := block_lt h
  exact (World.cell?_of_block (k.block _ hb (by omega))).trans h
theorem RdV.old {w w' : World} {A : Option Addr} {vs : List Value} (h : RdV w A vs) (k : Keep (fun j => w.heap.size ≤ j) w w') : RdV w' A vs := h.keep k (fun _ _ h1 h2 => by omega)
theorem RdV.low {w : World} {A : Option Addr} {vs : List Value} (h : RdV w A vs) (hne : vs ≠ []) (y : Addr) (hy : A = some y) : y.block < w.heap.size := by
  cases vs with
  | nil => exact absurd rfl hne
  | cons u r =>
    obtain ⟨x, hx, hc⟩ := h 0 u rfl
    rw [hy] at hx
    cases hx
    have := block_lt hc
    rwa [add_block] at this

theorem own_rd {w : World} {base size n : Nat} {e : TypeId} {v : Value} {xs : List Value} (h : w.ownsRow base e size v n xs) : ∃ A c, v = .slice A n c ∧ n ≤ c ∧ RdV w A xs ∧ (A = none → n = 0) := by
  rcases h.2 with ⟨rfl, rfl⟩ | ⟨g, cap, cur, rfl, hg, hh, hc, _⟩
  · refine ⟨none, 0, rfl, Nat.le_refl _, ?_, fun _ => rfl⟩
    have : xs = [] := List.eq_nil_of_length_eq_zero (by have := h.1; simpa using this)
    subst this; exact RdV.nil _ _
  · exact ⟨_, _, rfl, hc, fun j u hj => ⟨_, rfl, h.cells (g := g) rfl j u hj⟩, fun e => by cases e⟩

theorem own_len {w : World} {base : Nat} {e : TypeId} {size n : Nat} {v : Value} {xs : List Value} (h : w.ownsRow base e size v n xs) : n ≤ 9223372036854775807 := by
  rcases h.2 with ⟨_, rfl⟩ | ⟨g, cap, cur, rfl, hg, hh, hc, hm, _⟩
  · omega
  · unfold maxLen at hm; omega
theorem own_form {w : World} {base : Nat} {e : TypeId} {size n : Nat} {v : Value} {xs : List Value} (h : w.ownsRow base e size v n xs) :
    (v = .slice none 0 0 ∧ n = 0 ∧ xs = []) ∨ ∃ g c, v = .slice (some ⟨g, 0, none⟩) n c ∧ n ≤ c ∧ c ≤ 9223372036854775807 ∧ ∀ o, RdV w (some ⟨g, o, none⟩) (xs.drop o) := by
  rcases h.2 with ⟨rfl, rfl⟩ | ⟨g, cap, cur, rfl, hg, hh, hc, hm, _⟩
  · exact .inl ⟨rfl, rfl, List.eq_nil_of_length_eq_zero (by have := h.1; simpa using this)⟩
  · refine .inr ⟨g, cap, rfl, hc, by unfold maxLen at hm; omega, fun o j u hj => ⟨_, rfl, ?_⟩⟩
    rw [List.getElem?_drop] at hj
    have := h.cells (g := g) rfl (o + j) u hj
    rw [add_plain] at this ⊢
    rwa [Nat.zero_add] at this
theorem own_base {w : World} {base : Nat} {e : TypeId} {size n : Nat} {v : Value} {xs : List Value} (h : w.ownsRow base e size v n xs) (k : Nat) (hk : v.ownBlock = some k) : base ≤ k := by
  rcases h.2 with ⟨rfl, _⟩ | ⟨g, cap, cur, rfl, hg, _⟩
  · cases hk
  · injection (show some g = some k from hk) with hk; omega
theorem own_weaken {w : World} {base base' : Nat} {e : TypeId} {size n : Nat} {v : Value} {xs : List Value} (h : w.ownsRow base e size v n xs) (hb : base' ≤ base) : w.ownsRow base' e size v n xs := by
  obtain ⟨h1, h2⟩ := h
  refine ⟨h1, ?_⟩
  rcases h2 with h2 | ⟨g, cap, cur, hv, hg, r⟩
  · exact .inl h2
  · exact .inr ⟨g, cap, cur, hv, Nat.le_trans hb hg, r⟩
theorem one_ints (k : IntKind) (l : List Int) : ∀ u ∈ l.map (Value.int k), u.oneCell' = true := by
  intro u hu
  obtain ⟨_, _, rfl⟩ := List.mem_map.1 hu
  rfl
/-- A literal of no element. -/
theorem own_empty (w : World) (base : Nat) (e : TypeId) (size : Nat) (hb : base ≤ w.heap.size) (b : Nat) (hbb : b = w.heap.size) : (w.alloc (.cells #[] e)).ownsRow base e size (.slice (some ⟨b, 0, none⟩) 0 0) 0 [] := by
  subst hbb
  exact ⟨by simp, .inr ⟨w.heap.size, 0, #[], rfl, hb, heap_alloc_eq w _, Nat.le_refl _, by simp [maxLen], by simp, by simp⟩⟩

theorem Src.of_rd {P : Program} {w : World} {size : Nat} {tx e' : TypeId} (hk : P.underlying tx = some (.slice e')) {A : Option Addr} {vs : List Value} (h : RdV w A vs) (n c : Nat) (hl : vs.length = n * size) (h1 : ∀ u ∈ vs, u.oneCell' = true) (hA : A = none → n = 0) :
    Src P size tx (.slice A n c) n vs w := by
  cases A with
  | none =>
    obtain rfl : n = 0 := hA rfl
    have : vs = [] := List.eq_nil_of_length_eq_zero (by simpa using hl)
    subst this
    exact Src.ofNil w hk c
  | some x => exact Src.ofSlice w hk x n c vs hl (fun j u hj => by obtain ⟨y, hy, hc⟩ := h j u hj; cases hy; exact hc) h1

theorem setCells_blk {g : Nat} {T : TypeId} : ∀ (vs : List Value) (o : Nat) (w : World) (cs : List Value), Blk w g T cs → o + vs.length ≤ cs.length → Blk (w.setCells g o vs) g T (cs.take o ++ vs ++ cs.drop (o + vs.length))
  | [], o, w, cs, h, _ => by simpa [World.setCells] using h
  | v :: r, o, w, cs, h, hl => by
    have hl' : o < cs.length := by simp at hl; omega
    have := setCells_blk r (o + 1) (w.setCell ⟨g, o, none⟩ v) (cs.set o v) (h.set o v) (by simp at hl ⊢; omega)
    simp only [World.setCells]
    have e : (cs.set o v).take (o + 1) ++ r ++ (cs.set o v).drop (o + 1 + r.length) = cs.take o ++ (v :: r) ++ cs.drop (o + (v :: r).length) := by
      rw [List.take_succ_eq_append_getElem (by simpa using hl'), List.take_set_of_le (Nat.le_refl _), List.getElem_set_self, List.drop_set_of_lt (by omega)]
      simp [Nat.add_comm, Nat.add_left_comm]
    rw [e] at this
    exact this
theorem setCells_keep {g : Nat} : ∀ (vs : List Value) (o : Nat) (w : World), Keep (fun k => k = g) w (w.setCells g o vs)
  | [], _, w => Keep.refl _ w
  | v :: r, o, w => ((Keep.refl (fun k => k = g) w).setCell (p := ⟨g, o, none⟩) (.inl rfl) v).trans' (setCells_keep r (o + 1) (w.setCell ⟨g, o, none⟩ v)) (fun _ _ h => h)

section
variable {P : Program} (w : World)
/-- append onto what the call owns, of whatever yields cells. -/
theorem run_append_own_src (base : Nat) (t tx ty e : TypeId) (i : TypeInfo) (z : Value) (size bytes : Nat) (ht : P.underlying t = some (.slice e)) (hi : P.info? e = some i) (hz : i.zero = some z)
    (hsize : i.size = size) (hby : i.bytes = bytes) (hzs : z.cells.size = size) (hsz : 0 < size)
    (v : Value) (n : Nat) (xs : List Value) (hown : w.ownsRow base e size v n xs)
    (x : Value) (m : Nat) (news : List Value) (hx : Src P size tx x m news w)
    (h63 : n + m ≤ maxLen) (hbytes : (n + m) * bytes ≤ 140737488355328) (hbase : base ≤ w.heap.size) :
    ∃ v' w', (Builtin.append_ #[t, tx] ty #[v, x]).run P w = .ok v' w' ∧ w'.ownsRow base e size v' (n + m) (xs ++ news) ∧ w.grownBy w' v.ownBlock ∧
      (v'.ownBlock = v.ownBlock ∨ v'.ownBlock = some w.heap.size) := by
  subst hsize
  subst hby
  have hlen : (xs ++ news).length = (n + m) * i.size := by rw [List.length_append, hown.1, hx.newsLen, Nat.add_mul]
  have hsmall : n + m ≤ 9223372036854775807 := by simp only [maxLen] at h63; omega
  have grown : ∀ (old : Nat), old < n + m → ∀ (row : Option Nat),
      (w.drew.alloc (.cells ((xs ++ news).toArray ++ Builtin.zeroCells z.cells (grownCap w (n + m) old e - (n + m))) e)).ownsRow base e i.size
        (.slice (some ⟨w.heap.size, 0, none⟩) (n + m) (grownCap w (n + m) old e)) (n + m) (xs ++ news) ∧
      w.grownBy (w.drew.alloc (.cells ((xs ++ news).toArray ++ Builtin.zeroCells z.cells (grownCap w (n + m) old e - (n + m))) e)) row := by
    intro old ho row
    have hge := grownCap_ge w (n + m) old e
    have hcm : grownCap w (n + m) old e ≤ maxLen := grownCap_le_maxLen w (n + m) old e h63
    refine ⟨⟨hlen, .inr ⟨w.heap.size, _, _, rfl, hbase, heap_alloc_new w.drew _, hge, hcm, ?_, ?_⟩⟩, ⟨rfl, rfl, rfl, by simp, fun k hk _ => heap_alloc_lt w.drew _ k hk⟩⟩
    · rw [Array.size_append, List.size_toArray, size_zeroCells, hzs, hlen, ← Nat.add_mul]
      congr 1
      omega
    · rw [Array.toList_append, ← hlen]
      exact List.take_left
  rcases hown.2 with ⟨rfl, rfl⟩ | ⟨g, cap, cur, rfl, hbg, hg, hnc, hcm, hcs, htake⟩
  · have hx0 : xs = [] := List.eq_nil_of_length_eq_zero (by simpa using hown.1)
    subst hx0
    by_cases hm : m = 0
    · subst hm
      have hn : news = [] := List.eq_nil_of_length_eq_zero (by simpa using hx.newsLen)
      subst hn
      refine ⟨.slice none 0 0, w, ?_, World.ownsRow_nil w base e i.size, ⟨rfl, rfl, rfl, Nat.le_refl _, fun _ _ _ => rfl⟩, .inl rfl⟩
      have hfc := hx.cells
      rcases hx.kind with ⟨e', hk⟩ | hk <;> simp [Builtin.append_, run_underlying ht, run_underlying hk, sizeOf, typeInfo, hi, hx.len, hfc]
    · have hr := run_append_grow_src (P := P) w t tx ty e i z ht hi hz none 0 0 [] (run_firstCells_none w.drew i.size 0 0 0) x m news hx (by omega) (by omega) (growslice_fits (by omega) hbytes)
      have hgr := grown 0 (by omega) (Value.ownBlock (.slice none 0 0))
      exact ⟨_, _, hr, hgr.1, hgr.2, .inr rfl⟩
  · have hB : Blk w g e cur.toList := by unfold Blk; rw [Array.toArray_toList]; exact hg
    by_cases hroom : n + m ≤ cap
    · have hfit : n * i.size + news.length ≤ cur.toList.length := by rw [hx.newsLen, Array.length_toList, hcs, ← Nat.add_mul]; exact Nat.mul_le_mul_right _ hroom
      have hr := run_append_room_src (P := P) w t tx ty e i ht hi g 0 n cap x m news hx hroom
        (fun j hj => by rw [hB.cell, List.getElem?_eq_getElem (by omega)]; rfl) (fun j hj => hB.free _)
      rw [Nat.zero_add] at hr
      have hb2 := setCells_blk news (n * i.size) w cur.toList hB hfit
      have hk2 := setCells_keep (g := g) news (n * i.size) w
      refine ⟨_, _, hr, ⟨hlen, .inr ⟨g, cap, _, rfl, hbg, hb2, hroom, hcm, ?_, ?_⟩⟩, ⟨hk2.os, hk2.tape, hk2.output, hk2.size, fun k hk hne => hk2.block k hk (fun e => hne (by simp [Value.ownBlock, e]))⟩, .inl rfl⟩
      · have hfit2 : n * i.size + news.length ≤ cap * i.size := by rw [hx.newsLen, ← Nat.add_mul]; exact Nat.mul_le_mul_right _ hroom
        simp only [List.size_toArray, List.length_append, List.length_take, List.length_drop, Array.length_toList, hcs]
        rw [Nat.min_eq_left (by omega)]
        omega
      · rw [htake, ← hlen]
        exact List.take_left
    · have holds : ∀ j u, xs[j]? = some u → w.drew.cell? ((⟨g, 0, none⟩ : Addr).add j) = some u := hown.cells (g := g) rfl
      have hr := run_append_grow_src (P := P) w t tx ty e i z ht hi hz (some ⟨g, 0, none⟩) n cap xs (run_firstCells_some w.drew i.size n _ n cap xs hown.1 holds) x m news hx (by omega) (by omega) (growslice_fits (by omega) hbytes)
      have hgr := grown cap (by omega) (Value.ownBlock (.slice (some ⟨g, 0, none⟩) n cap))
      exact ⟨_, _, hr, hgr.1, hgr.2, .inr rfl⟩

/-- The same at the operation, for the walk: behind it 'intro v1 w1 hown1 hg1 hat1'. -/
theorem wpL_append {ops : Array Oper} {rest : List Oper} {o : Oper} {a : Act} {Q : Exit → Act → World → Prop} (hgd : o.guard = none) (s x : Operand) (t tx : TypeId)
    (ho : o.op = .call { callee := .builtin .append, args := #[s, x], argTypes := #[t, tx] })
    (base : Nat) (e : TypeId) (z : Value) (size bytes : Nat) (ht : P.underlying t = some (.slice e)) (hinfo : (P.info? e).map (fun i => (i.zero, i.size, i.bytes)) = some (some z, size, bytes)) (hzs : z.cells.size = size) (hsz : 0 < size)
    (v : Value) (n : Nat) (xs : List Value) (hs : a.eval s = v) (hown : w.ownsRow base e size v n xs)
    (xv : Value) (m : Nat) (news : List Value) (hx : a.eval x = xv) (hsrc : Src P size tx xv m news w)
    (h63 : n + m ≤ maxLen) (hbytes : (n + m) * bytes ≤ 140737488355328) (hbase : base ≤ w.heap.size)
    (h : ∀ v' w', w'.ownsRow base e size v' (n + m) (xs ++ news) → w.grownBy w' v.ownBlock → (v'.ownBlock = v.ownBlock ∨ v'.ownBlock = some w.heap.size) → wpList P ops Q rest (a.put o.dst v') w') :
    wpList P ops Q (o :: rest) a w := by
  refine wpList_plain hgd fun K hK => ?_
  obtain ⟨i0, hi, hzz⟩ := Option.map_eq_some_iff.1 hinfo
  simp only [Prod.mk.injEq] at hzz
  obtain ⟨hz0, hz1, hz2⟩ := hzz
  obtain ⟨v', w', hr, h2, h3, h4⟩ := run_append_own_src (P := P) w base t tx o.type e i0 z size bytes ht hi hz0 hz1 hz2 hzs hsz v n xs hown xv m news hsrc h63 hbytes hbase
  unfold Oper.wp execOp
  simp only [ho, resolve, invoke, builtin, Sem.run_bind, Sem.run_pure, Result.andThen_ok, List.map_toArray, List.map_cons, List.map_nil, hs, hx, hr]
  exact hK _ _ (h v' w' h2 h3 h4)

/-- 'append(T{}, x...)': a row of its own. -/
theorem wpL_fresh {ops : Array Oper} {rest : List Oper} {o : Oper} {a : Act} {Q : Exit → Act → World → Prop} (hgd : o.guard = none) (s x : Operand) (t tx : TypeId)
    (ho : o.op = .call { callee := .builtin .append, args := #[s, x], argTypes := #[t, tx] })
    (e : TypeId) (z : Value) (size bytes : Nat) (ht : P.underlying t = some (.slice e)) (hinfo : (P.info? e).map (fun i => (i.zero, i.size, i.bytes)) = some (some z, size, bytes)) (hzs : z.cells.size = size) (hsz : 0 < size)
    (b : Nat) (hb : b = w.heap.size) (hs : a.eval s = .slice (some ⟨b, 0, none⟩) 0 0)
    (xv : Value) (m : Nat) (news : List Value) (hx : a.eval x = xv) (hsrc : Src P size tx xv m news (w.alloc (.cells #[] e)))
    (h63 : m ≤ maxLen) (hbytes : m * bytes ≤ 140737488355328)
    (h : ∀ v' w', w'.ownsRow w.heap.size e size v' m news → Keep (fun _ => False) w w' → wpList P ops Q rest (a.put o.dst v') w') :
    wpList P ops Q (o :: rest) a (w.alloc (.cells #[] e)) := by
  refine wpL_append (w.alloc (.cells #[] e)) hgd s x t tx ho w.heap.size e z size bytes ht hinfo hzs hsz _ 0 [] hs (own_empty w _ _ size (Nat.le_refl _) b hb) xv m news hx hsrc (by rwa [Nat.zero_add]) (by rwa [Nat.zero_add]) (by simp) ?_
  intro v' w' h1 h2 _
  rw [Nat.zero_add, List.nil_append] at h1
  refine h v' w' h1 (((Keep.refl (fun _ => False) w).alloc _).trans' (Keep.of_grown h2) (fun k hk e => ?_))
  injection (show some k = some b from e) with e2
  omega
/-- 'append(v, y)': one element more. -/
theorem wpL_push {ops : Array Oper} {rest : List Oper} {o : Oper} {a : Act} {Q : Exit → Act → World → Prop} (hgd : o.guard = none) (s x : Operand) (t : TypeId)
    (ho : o.op = .call { callee := .builtin .append, args := #[s, x], argTypes := #[t, t] })
    (base : Nat) (e : TypeId) (z : Value) (size bytes : Nat) (ht : P.underlying t = some (.slice e)) (hinfo : (P.info? e).map (fun i => (i.zero, i.size, i.bytes)) = some (some z, size, bytes)) (hzs : z.cells.size = size) (hsz : 0 < size)
    (v : Value) (n : Nat) (xs : List Value) (hs : a.eval s = v) (hown : w.ownsRow base e size v n xs)
    (ys : List Value) (hy : ys.length = size) (h1 : ∀ u ∈ ys, u.oneCell' = true) (b : Nat) (hb : b = w.heap.size) (hx : a.eval x = .slice (some ⟨b, 0, none⟩) 1 1)
    (h63 : n + 1 ≤ maxLen) (hbytes : (n + 1) * bytes ≤ 140737488355328) (hbase : base ≤ w.heap.size)
    (h : ∀ v' w', w'.ownsRow base e size v' (n + 1) (xs ++ ys) → Keep (fun k => some k = v.ownBlock) w w' → (v'.ownBlock = v.ownBlock ∨ ∃ b, v'.ownBlock = some b ∧ w.heap.size ≤ b) → wpList P ops Q rest (a.put o.dst v') w') :
    wpList P ops Q (o :: rest) a (w.alloc (.cells ys.toArray e)) := by
  refine wpL_append (w.alloc (.cells ys.toArray e)) hgd s x t t ho base e z size bytes ht hinfo hzs hsz v n xs hs (hown.alloc _) _ 1 ys hx
    (Src.of_rd ht (RdV.new w e ys b hb) 1 1 (by rw [hy, Nat.one_mul]) h1 (fun e => by cases e)) h63 hbytes (by simp; omega) ?_
  intro v' w' h2 h3 h4
  refine h v' w' h2 (((Keep.refl (fun k => some k = v.ownBlock) w).alloc _).trans (Keep.of_grown h3)) ?_
  rcases h4 with h4 | h4
  · exact .inl h4
  · exact .inr ⟨_, h4, by simp⟩
end
end Go.Proofs.Ytkglkpcpgdeneaa
