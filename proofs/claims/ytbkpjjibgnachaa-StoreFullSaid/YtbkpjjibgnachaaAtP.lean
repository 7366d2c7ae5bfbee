/- A slice of the call's own that begins anywhere in its block, of elements of one cell: append of one more, and the slice from 1 on. Conditions: none. -/
import Derived.Test.YtbkpjjibgnachaaSt
namespace Go.Proofs.Ytbkpjjibgnachaa
open Go.RowKit

def blkOf : Value → Option Nat
  | .slice (some a) _ _ => some a.block
  | _ => none
def AtRow (w : World) (e : TypeId) (v : Value) (n : Nat) (xs : List Value) : Prop :=
  xs.length = n ∧ ((v = .slice none 0 0 ∧ n = 0) ∨ ∃ g o c pre rest post, v = .slice (some ⟨g, o, none⟩) n c ∧ Blk w g e (pre ++ (xs ++ (rest ++ post))) ∧ pre.length = o ∧ n + rest.length = c ∧ c ≤ maxLen)
theorem AtRow.keep {w w' : World} {e : TypeId} {v : Value} {n : Nat} {xs : List Value} (h : AtRow w e v n xs) {F : Nat → Prop} (k : Keep F w w') (hn : ∀ g, blkOf v = some g → ¬ F g) : AtRow w' e v n xs := by
  obtain ⟨h1, h | ⟨g, o, c, pre, rest, post, rfl, hb, h2⟩⟩ := h
  · exact ⟨h1, .inl h⟩
  · exact ⟨h1, .inr ⟨g, o, c, pre, rest, post, rfl, hb.keep k (hn g rfl), h2⟩⟩
theorem AtRow.lt {w : World} {e : TypeId} {v : Value} {n : Nat} {xs : List Value} (h : AtRow w e v n xs) (k : Nat) (hk : blkOf v = some k) : k < w.heap.size := by
  obtain ⟨h1, ⟨rfl, _⟩ | ⟨g, o, c, pre, rest, post, rfl, hb, _⟩⟩ := h
  · cases hk
  · cases hk; exact hb.lt
def atP (e : TypeId) (v : Value) (n : Nat) (xs : List Value) : Part where
  at_ w F := AtRow w e v n xs ∧ ∀ k, F k ↔ blkOf v = some k
  keep h k hd := ⟨h.1.keep k (fun g hg => hd g ((h.2 g).2 hg)), h.2⟩
  lt h k hk := h.1.lt k ((h.2 k).1 hk)
theorem St.at_nil {w0 w : World} {l : List Part} (h : St w0 w l) (e : TypeId) : St w0 w (atP e (.slice none 0 0) 0 [] :: l) :=
  h.new (q := atP e (.slice none 0 0) 0 []) (F := fun _ => False) (Keep.refl _ w) ⟨⟨rfl, .inl ⟨rfl, rfl⟩⟩, fun k => ⟨fun h => h.elim, fun h => by cases h⟩⟩ (fun _ h => h.elim)
theorem St.at_row {w0 w : World} {l : List Part} {e : TypeId} {v : Value} {n : Nat} {xs : List Value} (h : St w0 w (atP e v n xs :: l)) : AtRow w e v n xs := by
  obtain ⟨F, h1, _⟩ := h.open_
  exact h1.1
theorem St.at_form {w0 w : World} {l : List Part} {e : TypeId} {v : Value} {n : Nat} {xs : List Value} (h : St w0 w (atP e v n xs :: l)) : ∃ A c, v = .slice A n c := by
  obtain ⟨_, ⟨rfl, rfl⟩ | ⟨g, o, c, pre, rest, post, rfl, _⟩⟩ := h.at_row
  · exact ⟨_, _, rfl⟩
  · exact ⟨_, _, rfl⟩
/-- The first element, and what stands behind it. -/
theorem St.at_head {w0 w : World} {l : List Part} {e : TypeId} {A : Option Addr} {c n : Nat} {x : Value} {xs : List Value} (h : St w0 w (atP e (.slice A n c) n (x :: xs) :: l)) :
    ∃ g o, A = some ⟨g, o, none⟩ ∧ w.cell? ⟨g, o, none⟩ = some x ∧ 1 ≤ n ∧ n ≤ c ∧ c ≤ 9223372036854775807 ∧ St w0 w (atP e (.slice (if c = 1 then some ⟨g, o, none⟩ else some ⟨g, o + 1, none⟩) (n - 1) (c - 1)) (n - 1) xs :: l) := by
  obtain ⟨h1, ⟨_, h2⟩ | ⟨g, o, c', pre, rest, post, hv, hb, h2, h3, h4⟩⟩ := h.at_row
  · simp at h1; omega
  · injection hv with e1 _ e2
    subst e1
    subst e2
    subst h1
    refine ⟨g, o, rfl, ?_, by simp, by simp at h3 ⊢; omega, by unfold maxLen at h4; omega, ?_⟩
    · rw [hb.cell]; subst h2; simp
    · obtain ⟨F, q1, q2, q3, _⟩ := h.open_
      have hkk : ∀ k, more F w w k ↔ F k := fun k => ⟨fun h => by rcases h with h | h; exact h; omega, .inl⟩
      by_cases hc : c = 1
      · have hx0 : xs = [] := by cases xs; rfl; simp at h3; omega
        have hr0 : rest = [] := by cases rest; rfl; simp at h3; omega
        subst hx0 hr0 hc
        rw [if_pos rfl]
        refine q3 w (atP e _ _ []) (Keep.refl F w) ⟨⟨rfl, .inr ⟨g, o, 0, pre, [], x :: post, rfl, by simpa using hb, h2, rfl, by unfold maxLen; omega⟩⟩, fun k => ?_⟩
        rw [hkk, q1.2]
        rfl
      · rw [if_neg hc]
        refine q3 w (atP e _ _ xs) (Keep.refl F w) ⟨⟨by simp, .inr ⟨g, o + 1, c - 1, pre ++ [x], rest, post, rfl, by simpa using hb, by simp [h2], by simp at h3 ⊢; omega, by unfold maxLen at h4 ⊢; omega⟩⟩, fun k => ?_⟩
        rw [hkk, q1.2]
        rfl
section
variable {P : Program} {w0 w : World} {l : List Part}
theorem run_push_at (t ty e : TypeId) (i : TypeInfo) (z : Value) (ht : P.underlying t = some (.slice e)) (hi : P.info? e = some i) (hz : i.zero = some z) (hsize : i.size = 1) (hzs : z.cells.size = 1)
    (v : Value) (n : Nat) (xs : List Value) (h : AtRow w e v n xs) (y : Value) (hy : y.oneCell' = true) (h63 : n + 1 ≤ maxLen) (hbytes : (n + 1) * i.bytes ≤ 140737488355328) (b : Nat) (hb : b = w.heap.size) :
    ∃ A' c' w', (Builtin.append_ #[t, t] ty #[v, .slice (some ⟨b, 0, none⟩) 1 1]).run P (w.alloc (.cells #[y] e)) = .ok (.slice A' (n + 1) c') w' ∧ AtRow w' e (.slice A' (n + 1) c') (n + 1) (xs ++ [y]) ∧
      Keep (fun k => some k = blkOf v ∨ w.heap.size ≤ k) w w' ∧ (blkOf (.slice A' (n + 1) c') = blkOf v ∨ ∃ b, blkOf (.slice A' (n + 1) c') = some b ∧ w.heap.size ≤ b) := by
  have hsrc : Src P i.size t (.slice (some ⟨b, 0, none⟩) 1 1) 1 [y] (w.alloc (.cells #[y] e)) :=
    Src.of_rd ht (RdV.new w e [y] b hb) 1 1 (by rw [hsize]; rfl) (fun u hu => by rw [List.mem_singleton.1 hu]; exact hy) (fun e => by cases e)
  have hsm : n + 1 ≤ 9223372036854775807 := by unfold maxLen at h63; omega
  have hk0 : Keep (fun k => some k = blkOf v ∨ w.heap.size ≤ k) w (w.alloc (.cells #[y] e)) := (Keep.refl _ w).alloc _
  have h' : AtRow (w.alloc (.cells #[y] e)) e v n xs := h.keep ((Keep.refl (fun _ => False) w).alloc _) (fun _ _ h => h)
  have hsz : (w.alloc (.cells #[y] e)).heap.size = w.heap.size + 1 := by simp
  generalize w.alloc (.cells #[y] e) = u at hsrc hk0 h' hsz ⊢
  have grown : ∀ (old : Nat), old < n + 1 → ∃ A' c', Value.slice (some ⟨u.heap.size, 0, none⟩) (n + 1) (grownCap u (n + 1) old e) = .slice A' (n + 1) c' ∧
      AtRow (u.drew.alloc (.cells ((xs ++ [y]).toArray ++ Builtin.zeroCells z.cells (grownCap u (n + 1) old e - (n + 1))) e)) e (.slice A' (n + 1) c') (n + 1) (xs ++ [y]) ∧
      Keep (fun k => some k = blkOf v ∨ w.heap.size ≤ k) w (u.drew.alloc (.cells ((xs ++ [y]).toArray ++ Builtin.zeroCells z.cells (grownCap u (n + 1) old e - (n + 1))) e)) ∧ ∃ b, blkOf (.slice A' (n + 1) c') = some b ∧ w.heap.size ≤ b := by
    intro old ho
    have hge := grownCap_ge u (n + 1) old e
    have hcm : grownCap u (n + 1) old e ≤ maxLen := grownCap_le_maxLen u (n + 1) old e h63
    refine ⟨_, _, rfl, ⟨by simp [h.1], .inr ⟨u.heap.size, 0, _, [], (Builtin.zeroCells z.cells (grownCap u (n + 1) old e - (n + 1))).toList, [], rfl, ?_, rfl, ?_, hcm⟩⟩, (hk0.drew).alloc _, u.heap.size, rfl, by omega⟩
    · have := heap_alloc_new u.drew (.cells ((xs ++ [y]).toArray ++ Builtin.zeroCells z.cells (grownCap u (n + 1) old e - (n + 1))) e)
      unfold Blk
      rw [show u.drew.heap.size = u.heap.size from rfl] at this
      rw [this]
      simp
    · rw [Array.length_toList, size_zeroCells, hzs]; omega
  obtain ⟨hl, ⟨rfl, rfl⟩ | ⟨g, o, c, pre, rest, post, rfl, hB, h2, h3, h4⟩⟩ := h'
  · have hx0 : xs = [] := List.eq_nil_of_length_eq_zero hl
    subst hx0
    have hr := run_append_grow_src (P := P) u t t ty e i z ht hi hz none 0 0 [] (run_firstCells_none u.drew i.size 0 0 0) _ 1 [y] hsrc (by omega) (by omega) (growslice_fits (by omega) hbytes)
    obtain ⟨A', c', e1, e2, e3, e4⟩ := grown 0 (by omega)
    rw [← e1] at e2 e4
    exact ⟨_, _, _, hr, e2, e3, .inr e4⟩
  · by_cases hroom : n + 1 ≤ c
    · have hlen : (pre ++ (xs ++ (rest ++ post))).length = o + c + post.length := by simp; omega
      have hr := run_append_room_src (P := P) u t t ty e i ht hi g o n c _ 1 [y] hsrc hroom (fun j hj => by
          have hj0 : j = 0 := by simpa using hj
          rw [hB.cell, hsize, List.getElem?_eq_getElem (by omega)]; rfl) (fun j hj => hB.free _)
      rw [hsize, Nat.mul_one] at hr
      have hb2 := setCells_blk [y] (o + n) u _ hB (by rw [hlen]; simp; omega)
      have hk2 := setCells_keep (g := g) [y] (o + n) u
      refine ⟨_, _, _, hr, ⟨by simp [hl], .inr ⟨g, o, c, pre, rest.drop 1, post, rfl, ?_, h2, by simp; omega, h4⟩⟩, hk0.trans' hk2 (fun j _ e => .inl (by show some j = some g; rw [show j = g from e])), .inl rfl⟩
      have e1 : pre ++ (xs ++ [y] ++ (rest.drop 1 ++ post)) = (pre ++ (xs ++ (rest ++ post))).take (o + n) ++ [y] ++ (pre ++ (xs ++ (rest ++ post))).drop (o + n + [y].length) := by
        have e2 : (pre ++ (xs ++ (rest ++ post))).take (o + n) = pre ++ xs := by
          rw [← List.append_assoc, List.take_append_of_le_length (by simp; omega), List.take_of_length_le (by simp; omega)]
        have e3 : (pre ++ (xs ++ (rest ++ post))).drop (o + n + [y].length) = rest.drop 1 ++ post := by
          rw [← List.append_assoc, List.drop_append, List.drop_of_length_le (by simp; omega), List.nil_append, List.length_append, h2, hl]
          rw [show o + n + [y].length - (o + n) = 1 by simp, List.drop_append_of_le_length (by omega)]
        rw [e2, e3]
        simp
      rw [e1]
      exact hb2
    · have hr := run_append_grow_src (P := P) u t t ty e i z ht hi hz (some ⟨g, o, none⟩) n c xs (run_firstCells_some u.drew i.size n _ n c xs (by rw [hsize, hl, Nat.mul_one]) (fun j x hx => by
        rw [add_plain]
        show u.cell? _ = _
        have hjl : j < xs.length := (List.getElem?_eq_some_iff.1 hx).1
        rw [hB.cell, List.getElem?_append_right (by omega), h2, show o + j - o = j by omega, List.getElem?_append_left hjl]
        exact hx)) _ 1 [y] hsrc (by omega) (by omega) (growslice_fits (by omega) hbytes)
      obtain ⟨A', c', e1, e2, e3, e4⟩ := grown c (by omega)
      rw [← e1] at e2 e4
      exact ⟨_, _, _, hr, e2, e3, .inr e4⟩

/-- 'append(v, y)' in the walk: behind it 'intro A' c' w' hs'. -/
theorem wpL_push_at {ops : Array Oper} {rest : List Oper} {o : Oper} {a : Act} {Q : Exit → Act → World → Prop} (hgd : o.guard = none) (s x : Operand) (t : TypeId)
    (ho : o.op = .call { callee := .builtin .append, args := #[s, x], argTypes := #[t, t] })
    (e : TypeId) (z : Value) (bytes : Nat) (ht : P.underlying t = some (.slice e)) (hinfo : (P.info? e).map (fun i => (i.zero, i.size, i.bytes)) = some (some z, 1, bytes)) (hzs : z.cells.size = 1)
    (v : Value) (n : Nat) (xs : List Value) (hs : a.eval s = v) (h : St w0 w (atP e v n xs :: l)) (y : Value) (hy : y.oneCell' = true) (b : Nat) (hb : b = w.heap.size) (hx : a.eval x = .slice (some ⟨b, 0, none⟩) 1 1)
    (h63 : n + 1 ≤ maxLen) (hbytes : (n + 1) * bytes ≤ 140737488355328)
    (K : ∀ A' c' w', St w0 w' (atP e (.slice A' (n + 1) c') (n + 1) (xs ++ [y]) :: l) → wpList P ops Q rest (a.put o.dst (.slice A' (n + 1) c')) w') : wpList P ops Q (o :: rest) a (w.alloc (.cells #[y] e)) := by
  refine wpList_plain hgd fun K' hK => ?_
  obtain ⟨i0, hi, hzz⟩ := Option.map_eq_some_iff.1 hinfo
  simp only [Prod.mk.injEq] at hzz
  obtain ⟨hz0, hz1, hz2⟩ := hzz
  obtain ⟨A', c', w', hr, h2, h3, h4⟩ := run_push_at (P := P) t o.type e i0 z ht hi hz0 hz1 hzs v n xs h.at_row y hy h63 (by rw [hz2]; exact hbytes) b hb
  unfold Oper.wp execOp
  simp only [ho, resolve, invoke, builtin, Sem.run_bind, Sem.run_pure, Result.andThen_ok, List.map_toArray, List.map_cons, List.map_nil, hs, hx, hr]
  refine hK _ _ (K A' c' w' ?_)
  obtain ⟨h0, U, F, V, q1, q2, q3, q4, q5⟩ := h
  have hss := h0.size
  have hV := q3.bd
  refine ⟨h0.trans' h3 (fun j hj hf => ?_), fun j => blkOf (.slice A' (n + 1) c') = some j ∨ V j, fun j => blkOf (.slice A' (n + 1) c') = some j, V, ⟨h2, fun _ => Iff.rfl⟩, fun j hj => ?_, q3.keep h3 (fun j hj hf => ?_), fun j hj hv => ?_, fun _ => Iff.rfl⟩
  · rcases hf with hf | hf
    · exact q2 j ((q1.2 j).2 hf.symm)
    · omega
  · rcases h4 with e1 | ⟨b, e1, e2⟩
    · rw [e1] at hj; exact q2 j ((q1.2 j).2 hj)
    · rw [e1] at hj; cases hj; omega
  · rcases hf with hf | hf
    · exact q4 j ((q1.2 j).2 hf.symm) hj
    · have := (hV j hj).2; omega
  · rcases h4 with e1 | ⟨b, e1, e2⟩
    · rw [e1] at hj; exact q4 j ((q1.2 j).2 hj) hv
    · rw [e1] at hj; cases hj; have := (hV j hv).2; omega
end
end Go.Proofs.Ytbkpjjibgnachaa
