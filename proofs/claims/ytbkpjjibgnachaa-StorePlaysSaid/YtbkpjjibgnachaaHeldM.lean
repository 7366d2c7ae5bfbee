/- A drawn region whose state moves: reads need D alone, which all steps keep, and leave the world as it is; the rest leads from S to what V says. Along any order that is laid. No program in sight. Conditions: none. -/
import Derived.Test.YtbkpjjibgnachaaHeldO
namespace Go.Proofs.Ytbkpjjibgnachaa
open Go.RowKit
section
variable {P : Program} {ops : Array Oper} {md : Region.Mode} {T : World → World → Prop} {D : World → Prop}

def givesM (P : Program) (ops : Array Oper) (D : World → Prop) (o : Oper) (a : Act) (u : Value) : Prop :=
  (Region.wanted o (yielded ops a.tmps) = false ∧ u = undef) ∨
  (Region.wanted o (yielded ops a.tmps) = true ∧ ∀ w, D w → (execOp a.eval o).run P w = .ok (.value u) w)
def stepM (P : Program) (ops : Array Oper) (T : World → World → Prop) (D S : World → Prop) (o : Oper) (a : Act) (K : (World → Prop) → Act → Prop) : Prop :=
  (∃ u, givesM P ops D o a u ∧ K S (a.put o.dst u)) ∨
  (Region.wanted o (yielded ops a.tmps) = true ∧ ∃ V : Value → World → Prop, (∀ w, D w → S w → gotAt P T o a w V) ∧ ∀ v, K (V v) (a.put o.dst v))
theorem givesM.of_same {o : Oper} {u : Value} {a a' : Act} (hy : givesM P ops D o a u) (he : execOp a'.eval o = execOp a.eval o)
    (hw : Region.wanted o (yielded ops a'.tmps) = Region.wanted o (yielded ops a.tmps)) : givesM P ops D o a' u := by
  unfold givesM at *
  rw [he, hw]
  exact hy
theorem stepM_of_same {S : World → Prop} {o : Oper} {a a' : Act} {K : (World → Prop) → Act → Prop} (he : execOp a'.eval o = execOp a.eval o)
    (hw : Region.wanted o (yielded ops a'.tmps) = Region.wanted o (yielded ops a.tmps)) (hs : stepM P ops T D S o a K) {K' : (World → Prop) → Act → Prop} (hk : ∀ S' u, K S' (a.put o.dst u) → K' S' (a'.put o.dst u)) : stepM P ops T D S o a' K' := by
  rcases hs with ⟨u, h1, h2⟩ | ⟨h1, V, h3, h4⟩
  · exact .inl ⟨u, h1.of_same he hw, hk _ _ h2⟩
  · refine .inr ⟨by rw [hw]; exact h1, V, ?_, fun v => hk _ _ (h4 v)⟩
    unfold gotAt at *
    rw [he]
    exact h3
def heldM (P : Program) (md : Region.Mode) (ops : Array Oper) (T : World → World → Prop) (D : World → Prop) (Q : Exit → Act → World → Prop) : Nat → (World → Prop) → Array Bool → Act → Prop
  | 0, S, listed, a => Region.ready md ops listed = [] ∧ ∀ w, D w → S w → Q .normal a w
  | fuel + 1, S, listed, a => (Region.ready md ops listed = [] → ∀ w, D w → S w → Q .normal a w) ∧
    ∀ i ∈ Region.ready md ops listed, ∃ o, ops[i]? = some o ∧ stepM P ops T D S o a fun S' a' => heldM P md ops T D Q fuel S' (listed.setIfInBounds i true) a'
theorem wpAny_of_M {Q : Exit → Act → World → Prop} (hT : Stays T D) : ∀ (fuel : Nat) (S : World → Prop) (listed : Array Bool) (a : Act) (w : World), D w → S w → heldM P md ops T D Q fuel S listed a → wpAny P md ops Q fuel listed a w
  | 0, _, _, _, _, hD, hS, h => ⟨h.1, h.2 _ hD hS⟩
  | fuel + 1, S, listed, a, w, hD, hS, h => ⟨fun h0 => h.1 h0 _ hD hS, fun i hi => by
      obtain ⟨o, ho, hst⟩ := h.2 i hi
      unfold Go.wpOp
      simp only [ho]
      rcases hst with ⟨u, ⟨h1, rfl⟩ | ⟨h1, h2⟩, h3⟩ | ⟨h1, V, h3, h4⟩
      · simp only [h1, Bool.false_eq_true, if_false]
        exact wpAny_of_M hT fuel _ _ _ w hD hS h3
      · simp only [h1, if_true]
        have hg : gotAt P (fun w w' => w' = w) o a w (fun v _ => v = u) := by unfold gotAt; rw [h2 w hD]; exact ⟨rfl, rfl⟩
        refine .inl (got_wp hg fun v w' ht hv => ?_)
        subst hv ht
        exact wpAny_of_M hT fuel _ _ _ _ hD hS h3
      · simp only [h1, if_true]
        refine .inl (got_wp (h3 w hD hS) fun v w' ht hv => ?_)
        exact wpAny_of_M hT fuel _ _ _ w' (hT w w' hD ht) hv (h4 v)⟩
theorem heldM_first {Q : Exit → Act → World → Prop} {i : Nat} {oi : Oper} {u : Value} (hi : ops[i]? = some oi) (hsel : ∀ (j : Nat) (o : Oper) cs b, ops[j]? = some o → o.op ≠ .select cs b) :
    ∀ (fuel : Nat) (S : World → Prop) (listed : Array Bool) (a : Act),
      (∀ j oj, ops[j]? = some oj → j ≠ i → listed.getD j true = false → (∀ e ∈ oj.after, Region.binds md e = true → e.on ≠ i) → oi.apart ops oj = true) →
      i ∈ Region.ready md ops listed → givesM P ops D oi a u →
      heldM P md ops T D Q fuel S (listed.setIfInBounds i true) (a.put oi.dst u) → heldM P md ops T D Q (fuel + 1) S listed a := by
  intro fuel
  induction fuel with
  | zero =>
    intro S listed a _ hr hy H
    refine ⟨fun h => (by rw [h] at hr; cases hr), fun j hj => ?_⟩
    by_cases hji : j = i
    · subst hji; exact ⟨oi, hi, .inl ⟨u, hy, H⟩⟩
    · have := ready_mono hj hji
      rw [H.1] at this
      cases this
  | succ fuel ih =>
    intro S listed a hfree hr hy H
    refine ⟨fun h => (by rw [h] at hr; cases hr), fun j hj => ?_⟩
    by_cases hji : j = i
    · subst hji; exact ⟨oi, hi, .inl ⟨u, hy, H⟩⟩
    · obtain ⟨oj, hoj, hst⟩ := H.2 j (ready_mono hj hji)
      obtain ⟨hjun, oj', hoj', hall⟩ := mem_ready.1 hj
      obtain rfl : oj' = oj := Option.some.inj (hoj'.symm.trans hoj)
      have hnot : ∀ e ∈ oj'.after, Region.binds md e = true → e.on ≠ i := fun e he hb heq => by
        have h1 := hall e he hb
        rw [heq, getD_both (mem_ready.1 hr).1] at h1
        cases h1
      have hap := hfree j oj' hoj hji hjun hnot
      obtain ⟨h1, h2, h3⟩ := Oper.apart_spec hap
      have hsi : ∀ cs b, oi.op ≠ .select cs b := fun cs b => hsel i oi cs b hi
      have hsj : ∀ cs b, oj'.op ≠ .select cs b := fun cs b => hsel j oj' cs b hoj
      have hfree' : ∀ k ok, ops[k]? = some ok → k ≠ i → (listed.setIfInBounds j true).getD k true = false →
          (∀ e ∈ ok.after, Region.binds md e = true → e.on ≠ i) → oi.apart ops ok = true := fun k ok hk hki hun hno => by
        refine hfree k ok hk hki ?_ hno
        by_cases hjk : j = k
        · subst hjk; exact hjun
        · rw [getD_set_ne true hjk] at hun; exact hun
      refine ⟨oj', hoj, stepM_of_same (execOp_put oj' hsj a oi.dst u h1).symm (wanted_put oj' a oi.dst u h1).symm hst fun S' v hK => ?_⟩
      refine ih S' (listed.setIfInBounds j true) (a.put oj'.dst v) hfree' (ready_mono hr (Ne.symm hji)) (hy.of_same (execOp_put oi hsi a oj'.dst v h3) (wanted_put oi a oj'.dst v h3)) ?_
      rw [Array.setIfInBounds_comm _ _ hji, ← Act.put_comm a u v h2]
      exact hK
/-- The walk along a list of places. -/
def wpM (P : Program) (ops : Array Oper) (T : World → World → Prop) (D : World → Prop) (Q : Exit → Act → World → Prop) (N : List Nat) : (World → Prop) → List (Nat × Oper) → Act → Prop
  | S, [], a => ∀ w, D w → S w → Q .normal a w
  | S, (k, o) :: rest, a => (∃ u, givesM P ops D o a u ∧ wpM P ops T D Q N S rest (a.put o.dst u)) ∨
    (N.contains k = true ∧ Region.wanted o (yielded ops a.tmps) = true ∧ ∃ V : Value → World → Prop, (∀ w, D w → S w → gotAt P T o a w V) ∧ ∀ v, wpM P ops T D Q N (V v) rest (a.put o.dst v))
theorem heldM_order {Q : Exit → Act → World → Prop} {N : List Nat} (hsel : Region.noSelect ops = true) :
    ∀ (ro : List (Nat × Oper)) (S : World → Prop) (listed : Array Bool) (a : Act), (∀ p ∈ ro, ops[p.1]? = some p.2) →
    lexO md ops N (ro.map (·.1)) listed = true → wpM P ops T D Q N S ro a → heldM P md ops T D Q ro.length S listed a
  | [], S, listed, a, _, hB, h => ⟨by simpa [lexO] using hB, h⟩
  | (k, o) :: r, S, listed, a, hl, hB, h => by
    have h0 : ops[k]? = some o := hl (k, o) (List.mem_cons_self ..)
    simp only [List.map_cons, lexO, Bool.and_eq_true] at hB
    obtain ⟨⟨⟨hr, hf⟩, hN⟩, hB'⟩ := hB
    have hr' : k ∈ Region.ready md ops listed := by simpa using hr
    have go : ∀ S' v, wpM P ops T D Q N S' r (a.put o.dst v) → heldM P md ops T D Q r.length S' (listed.setIfInBounds k true) (a.put o.dst v) := fun S' v hw =>
      heldM_order hsel r S' _ _ (fun p hp => hl p (List.mem_cons_of_mem _ hp)) hB' hw
    rcases h with ⟨u, hy, hK⟩ | ⟨hc', hw, V, h3, h4⟩
    · exact heldM_first h0 (Region.noSelect_spec hsel) r.length S listed a (Region.free_spec h0 hf) hr' hy (go S u hK)
    · rw [hc'] at hN
      have hN' : Region.ready md ops listed = [k] := by simpa using hN
      refine ⟨fun hh => (by rw [hh] at hr'; cases hr'), fun j hj => ?_⟩
      obtain rfl : j = k := by rw [hN'] at hj; simpa using hj
      exact ⟨o, h0, .inr ⟨hw, V, h3, fun v => go _ v (h4 v)⟩⟩
theorem wp_region_M {id : Nat} {Q : Exit → Act → World → Prop} {a : Act} {w : World} {l : List Oper} (z : Oper) (order N : List Nat) (T : World → World → Prop) (D S : World → Prop) (hm : P.follows .mixedOrders = true) (hs : Region.noSelect l.toArray = true)
    (hB : (lexO .any l.toArray N order (Array.replicate l.toArray.size false) && (order.all (fun i => Nat.blt i l.length)) && Nat.beq order.length l.length) = true) (hT : Stays T D) (hD : D w.drew) (hS : S w.drew)
    (h : wpM P l.toArray T D Q N S (order.map fun i => (i, l.getD i z)) a) : (Code.region id l.toArray true).wp P Q a w := by
  simp only [Bool.and_eq_true] at hB
  obtain ⟨⟨hB, hb⟩, hn⟩ := hB
  refine wp_region_any hm (wpAny_of_M hT _ S _ _ _ hD hS ?_)
  have hn' : order.length = l.length := Nat.eq_of_beq_eq_true hn
  have := heldM_order (P := P) (md := .any) (T := T) (D := D) (Q := Q) (N := N) hs (order.map fun i => (i, l.getD i z)) S (Array.replicate l.toArray.size false) a (fun p hp => by
    obtain ⟨i, hi, rfl⟩ := List.mem_map.1 hp
    have h1 : i < l.length := Nat.le_of_ble_eq_true (List.all_eq_true.1 hb i hi)
    simp [List.getD, h1]) (by
    rw [List.map_map, show ((fun p : Nat × Oper => p.1) ∘ fun i => (i, l.getD i z)) = (_root_.id : Nat → Nat) from rfl, List.map_id]
    exact hB) h
  rw [List.length_map, hn'] at this
  simpa using this
end
section
variable {P : Program} {ops : Array Oper} {Q : Exit → Act → World → Prop} {T : World → World → Prop} {D : World → Prop} {N : List Nat} {k : Nat} {S : World → Prop} {o : Oper} {rest : List (Nat × Oper)} {a : Act}
theorem wpM_nil (h : ∀ w, D w → S w → Q .normal a w) : wpM P ops T D Q N S [] a := h
theorem wpM_skip (hw : Region.wanted o (yielded ops a.tmps) = false) (hn : wpM P ops T D Q N S rest (a.put o.dst undef)) : wpM P ops T D Q N S ((k, o) :: rest) a :=
  .inl ⟨undef, .inl ⟨hw, rfl⟩, hn⟩
theorem wpM_val {v : Value} (hw : Region.wanted o (yielded ops a.tmps) = true) (h : ∀ w, D w → (execOp a.eval o).run P w = .ok (.value v) w) (hn : wpM P ops T D Q N S rest (a.put o.dst v)) : wpM P ops T D Q N S ((k, o) :: rest) a :=
  .inl ⟨v, .inr ⟨hw, h⟩, hn⟩
/-- Any operation: V is what it leads to. -/
theorem wpM_move (V : Value → World → Prop) (hN : N.contains k = true) (hw : Region.wanted o (yielded ops a.tmps) = true) (hc : ∀ w, D w → S w → gotAt P T o a w V)
    (hn : ∀ v, wpM P ops T D Q N (V v) rest (a.put o.dst v)) : wpM P ops T D Q N S ((k, o) :: rest) a :=
  .inr ⟨hN, hw, V, hc, hn⟩
end
end Go.Proofs.Ytbkpjjibgnachaa
