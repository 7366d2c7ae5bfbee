/- Parts joined; a slice of the call's own by its cells; many rows that are read only. No program in sight. Conditions: none. -/
import Derived.Test.YtkglkpcpgdeneaaRdP
import Derived.Test.YtkglkpcpgdeneaaStApp
import Derived.Test.YtkglkpcpgdeneaaStoreM
import Derived.Test.YtkglkpcpgdeneaaStepApp
namespace Go.Proofs.Ytkglkpcpgdeneaa
open Go.RowKit

/-- Two parts as one. -/
def andP (p q : Part) : Part where
  at_ w F := ∃ G H : Nat → Prop, p.at_ w G ∧ q.at_ w H ∧ (∀ k, G k → ¬ H k) ∧ ∀ k, F k ↔ (G k ∨ H k)
  keep := by
    rintro w w' F K ⟨G, H, h1, h2, h3, h4⟩ k hd
    exact ⟨G, H, p.keep h1 k (fun j hj => hd j ((h4 j).2 (.inl hj))), q.keep h2 k (fun j hj => hd j ((h4 j).2 (.inr hj))), h3, h4⟩
  lt := by
    rintro w F ⟨G, H, h1, h2, _, h4⟩ k hk
    rcases (h4 k).1 hk with h | h
    · exact p.lt h1 k h
    · exact q.lt h2 k h
/-- Some part of many. -/
def exP {α : Type} (f : α → Part) : Part where
  at_ w F := ∃ x, (f x).at_ w F
  keep := by
    rintro w w' F K ⟨x, h⟩ k hd
    exact ⟨x, (f x).keep h k hd⟩
  lt := by
    rintro w F ⟨x, h⟩ k hk
    exact (f x).lt h k hk
section
variable {w0 w w' : World} {l : List Part} {p q : Part}
theorem St.split (h : St w0 w (andP p q :: l)) : St w0 w (p :: q :: l) := by
  obtain ⟨h0, U, F, V, ⟨G, H, g1, g2, g3, g4⟩, h2, h3, h4, h5⟩ := h
  refine ⟨h0, U, G, fun k => H k ∨ V k, g1, fun k hk => h2 k ((g4 k).2 (.inl hk)), ⟨H, V, g2, fun k hk => h2 k ((g4 k).2 (.inr hk)), h3, fun k hk hv => h4 k ((g4 k).2 (.inr hk)) hv, fun _ => Iff.rfl⟩, fun k hk hv => ?_, fun k => ?_⟩
  · rcases hv with hv | hv
    · exact g3 k hk hv
    · exact h4 k ((g4 k).2 (.inl hk)) hv
  · rw [h5 k, g4 k, or_assoc]
theorem St.join (h : St w0 w (p :: q :: l)) : St w0 w (andP p q :: l) := by
  obtain ⟨h0, U, F, V, h1, h2, ⟨G, V2, g1, g2, g3, g4, g5⟩, h4, h5⟩ := h
  refine ⟨h0, U, fun k => F k ∨ G k, V2, ⟨F, G, h1, g1, fun k hk hg => h4 k hk ((g5 k).2 (.inl hg)), fun _ => Iff.rfl⟩, ?_, g3, ?_, fun k => ?_⟩
  · rintro k (hk | hk)
    · exact h2 k hk
    · exact g2 k hk
  · rintro k (hk | hk) hv
    · exact h4 k hk ((g5 k).2 (.inr hv))
    · exact g4 k hk hv
  · rw [h5 k, g5 k, or_assoc]
theorem St.ex {α : Type} {f : α → Part} (h : St w0 w (exP f :: l)) : ∃ x, St w0 w (f x :: l) := by
  obtain ⟨h0, U, F, V, ⟨x, h1⟩, h2⟩ := h
  exact ⟨x, h0, U, F, V, h1, h2⟩
theorem St.ex_mk {α : Type} {f : α → Part} (x : α) (h : St w0 w (f x :: l)) : St w0 w (exP f :: l) :=
  h.in_ fun _ hF => ⟨x, hF⟩

/-- A cell of a slice of one's own. -/
theorem own_cell {w : World} {base n c : Nat} {e : TypeId} {A : Option Addr} {xs : List Value} (h : w.ownsRow base e 1 (.slice A n c) n xs) (i : Nat) (hi : i < n) :
    ∃ g cs, A = some ⟨g, 0, none⟩ ∧ Blk w g e cs ∧ (Value.slice A n c).ownBlock = some g ∧ w.cell? ⟨g, i, none⟩ = xs[i]? ∧ w.frozen? ⟨g, i, none⟩ = false ∧ cs.take n = xs ∧ cs.length = c := by
  rcases h.2 with ⟨_, h0⟩ | ⟨g, cap, cur, hv, hg, hh, hc, _, hs, ht⟩
  · omega
  · injection hv with hv _ hc2
    subst hv hc2
    have hb : Blk w g e cur.toList := by unfold Blk; rw [Array.toArray_toList]; exact hh
    rw [Nat.mul_one] at ht hs
    refine ⟨g, cur.toList, rfl, hb, rfl, ?_, hb.free i, ht, by simpa using hs⟩
    rw [hb.cell, ← ht, List.getElem?_take, if_pos hi]
theorem St.own_at {e : TypeId} {n c : Nat} {A : Option Addr} {xs : List Value} (h : St w0 w (ownP e 1 (.slice A n c) n xs :: l)) (i : Nat) (hi : i < n) :
    ∃ g, A = some ⟨g, 0, none⟩ ∧ w.cell? ⟨g, i, none⟩ = xs[i]? ∧ w.frozen? ⟨g, i, none⟩ = false := by
  obtain ⟨g, _, h1, _, _, h2, h3, _⟩ := own_cell h.own i hi
  exact ⟨g, h1, h2, h3⟩
theorem St.own_set {e : TypeId} {n c g : Nat} {xs : List Value} (h : St w0 w (ownP e 1 (.slice (some ⟨g, 0, none⟩) n c) n xs :: l)) (i : Nat) (u : Value) :
    St w0 (w.setCell ⟨g, i, none⟩ u) (ownP e 1 (.slice (some ⟨g, 0, none⟩) n c) n (xs.set i u) :: l) := by
  obtain ⟨F, ⟨h1, h1'⟩, h2, h3, _⟩ := h.open_
  have hF : F g := (h1' g).2 rfl
  rcases h1.2 with ⟨hv, _⟩ | ⟨g', cap, cur, hv, hg, hh, hc, hm, hs, ht⟩
  · cases hv
  · injection hv with hv _ hc2
    injection hv with hv
    injection hv with hv
    subst hv hc2
    have hb : Blk w g e cur.toList := by unfold Blk; rw [Array.toArray_toList]; exact hh
    have hb2 := hb.set i u
    rw [Nat.mul_one] at ht hs
    refine h3 _ (ownP e 1 (.slice (some ⟨g, 0, none⟩) n c) n (xs.set i u)) ((Keep.refl F w).setCell (p := ⟨g, i, none⟩) (.inl hF) u) ⟨⟨by rw [List.length_set]; exact h1.1, .inr ⟨g, c, (cur.toList.set i u).toArray, rfl, Nat.zero_le _, hb2, hc, hm, by simp [hs], ?_⟩⟩, fun k => ?_⟩
    · rw [Nat.mul_one, List.toList_toArray, ← ht, List.take_set]
    · have e1 : (w.setCell ⟨g, i, none⟩ u).heap.size = w.heap.size := by simp [World.setCell]
      constructor
      · rintro (hk | hk)
        · exact (h1' k).1 hk
        · omega
      · exact fun hk => .inl ((h1' k).2 hk)
/-- Rows of bytes that are read only: where they lie, the capacity, the bytes. -/
def rdsP (rows : List (Option Addr × Nat × List UInt8)) : Part where
  at_ w F := (∀ r ∈ rows, RdV w r.1 (bys r.2.2) ∧ (r.1 = none → r.2.2 = []) ∧ (r.2.2 ≠ [] → ∀ y, r.1 = some y → F y.block) ∧ r.2.2.length ≤ r.2.1) ∧ ∀ k, F k → k < w.heap.size
  keep := by
    rintro w w' F K ⟨h, hl⟩ k hd
    refine ⟨fun r hr => ?_, fun j hj => Nat.lt_of_lt_of_le (hl j hj) k.size⟩
    obtain ⟨h1, h2, h3, h4⟩ := h r hr
    refine ⟨?_, h2, h3, h4⟩
    by_cases e : r.2.2 = []
    · rw [e]; exact RdV.nil _ _
    · exact h1.keep k (fun x hx _ => hd _ (h3 e x hx))
  lt h := h.2
theorem St.rds (h : St w0 w l) : St w0 w (rdsP [] :: l) :=
  h.new (q := rdsP []) (F := fun _ => False) (Keep.refl _ w) ⟨fun _ hr => absurd hr List.not_mem_nil, fun _ h => h.elim⟩ (fun _ h => h.elim)
theorem St.rds_at {rows : List (Option Addr × Nat × List UInt8)} (h : St w0 w (rdsP rows :: l)) (r : Option Addr × Nat × List UInt8) (hr : r ∈ rows) : RdV w r.1 (bys r.2.2) ∧ (r.1 = none → r.2.2 = []) := by
  obtain ⟨F, ⟨h1, _⟩, _⟩ := h.open_
  exact ⟨(h1 r hr).1, (h1 r hr).2.1⟩
theorem St.rds_cap {rows : List (Option Addr × Nat × List UInt8)} (h : St w0 w (rdsP rows :: l)) (r : Option Addr × Nat × List UInt8) (hr : r ∈ rows) : r.2.2.length ≤ r.2.1 := by
  obtain ⟨F, ⟨h1, _⟩, _⟩ := h.open_
  exact (h1 r hr).2.2.2
/-- Rows beside a row of one's own, or that are none. -/
theorem St.rds_put {rows rows' : List (Option Addr × Nat × List UInt8)} {A : Option Addr} {n c : Nat} {L : List UInt8} (h : St w0 w (ownP 5 1 (.slice A n c) n (bys L) :: rdsP rows :: l)) (hr : ∀ r ∈ rows', r ∈ rows ∨ r = (A, c, L) ∨ r = (none, 0, [])) : St w0 w (rdsP rows' :: l) :=
  h.join.in_ (p := rdsP rows') (by
    rintro F ⟨G, H, ⟨g1, g2⟩, ⟨k1, k2⟩, _, g4⟩
    obtain ⟨A', c', e1, hcap, hrd, hn⟩ := own_rd g1
    injection e1 with e1 e2 e3
    subst e1 e3
    refine ⟨fun r hr' => ?_, fun k hk => ?_⟩
    · rcases hr r hr' with h1 | rfl | rfl
      · obtain ⟨a, b, c, d⟩ := k1 r h1
        exact ⟨a, b, fun e y hy => (g4 _).2 (.inr (c e y hy)), d⟩
      · have hl : L.length = n := by have := g1.1; simpa [bys] using this
        exact ⟨hrd, fun e => List.eq_nil_of_length_eq_zero (by have h0 := hn e; show L.length = 0; omega), fun e y hy => by
          have hy' : A = some y := hy
          subst hy'
          exact (g4 _).2 (.inl ((g2 _).2 rfl)), by show L.length ≤ c; omega⟩
      · exact ⟨RdV.nil _ _, fun _ => rfl, fun e => absurd rfl e, Nat.le_refl _⟩
    · rcases (g4 k).1 hk with h1 | h1
      · exact ownBlock_lt g1 k ((g2 k).1 h1)
      · exact k2 k h1)
theorem St.rds_sub {rows rows' : List (Option Addr × Nat × List UInt8)} (h : St w0 w (rdsP rows :: l)) (hr : ∀ r ∈ rows', r ∈ rows ∨ r = (none, 0, [])) : St w0 w (rdsP rows' :: l) :=
  St.rds_put (A := none) (n := 0) (c := 0) (L := []) (h.nil 5 1) (fun r hr' => (hr r hr').imp_right .inr)
/-- An append in a region that draws its order, to the first part. -/
theorem step_append_st {P : Program} {ops : Array Oper} {o : Oper} {a : Act} {K : Act → World → Prop} {Q : Exit → Act → World → Prop} {E : Prop} (hgd : o.guard = none) (s x : Operand) (t tx : TypeId)
    (ho : o.op = .call { callee := .builtin .append, args := #[s, x], argTypes := #[t, tx] })
    (e : TypeId) (z : Value) (size bytes : Nat) (ht : P.underlying t = some (.slice e)) (hinfo : (P.info? e).map (fun i => (i.zero, i.size, i.bytes)) = some (some z, size, bytes)) (hzs : z.cells.size = size) (hsz : 0 < size)
    (v : Value) (n : Nat) (xs : List Value) (hs : a.eval s = v) (HS : St w0 w (ownP e size v n xs :: l))
    (xv : Value) (m : Nat) (news : List Value) (hx : a.eval x = xv) (hsrc : Src P size tx xv m news w)
    (h63 : n + m ≤ maxLen) (hbytes : (n + m) * bytes ≤ 140737488355328)
    (h : ∀ A c w', n + m ≤ c → (A = none → n + m = 0) → St w0 w' (ownP e size (.slice A (n + m) c) (n + m) (xs ++ news) :: l) → K (a.put o.dst (.slice A (n + m) c)) w') :
    if Region.wanted o (yielded ops a.tmps) = true then Oper.wp P o a w K Q else E := by
  refine step_append_src hgd s x t tx ho w0.heap.size e z size bytes ht hinfo hzs hsz v n xs hs HS.own xv m news hx hsrc h63 hbytes HS.size ?_
  intro v' w' h1 h2 h3
  have hg := HS.grown h1 ((Keep.of_grown h2).mono (fun k _ hk => .inl hk)) (by
    rcases h3 with h3 | h3
    · exact .inl h3
    · exact .inr ⟨_, h3, Nat.le_refl _⟩)
  obtain ⟨A, c, rfl, hc, _, hn⟩ := own_rd h1
  exact h A c w' hc hn hg
/-- An empty slice, made anew. -/
theorem St.lit (h : St w0 w l) (e : TypeId) (size b : Nat) (hb : b = w.heap.size) : St w0 (w.alloc (.cells #[] e)) (ownP e size (.slice (some ⟨b, 0, none⟩) 0 0) 0 [] :: l) :=
  h.made (own_empty w _ e size (Nat.le_refl _) b hb) ((Keep.refl _ w).alloc _)
end
end Go.Proofs.Ytkglkpcpgdeneaa
