/- HeldG with a tail: n operations walked in the order of the text under what is known, then the rest, which waits for all of them, one after the other in one world. No program in sight. Conditions: none. -/
import Derived.Test.YtbkpjjibgnachaaHeldG
import Derived.StillTail
namespace Go.Proofs.Ytbkpjjibgnachaa
open Go.RowKit
section
variable {P : Program} {ops : Array Oper} {md : Region.Mode} {T : World → World → Prop}

def heldT (P : Program) (md : Region.Mode) (ops : Array Oper) (T : World → World → Prop) (n : Nat) (L : Array Bool → Prop) (Lq : Act → World → Prop) : Nat → (World → Prop) → Array Bool → Act → Prop
  | 0, S, listed, a => L listed ∧ ∀ w, S w → Lq a w
  | fuel + 1, S, listed, a => Region.ready md ops listed ≠ [] ∧
    ∀ i ∈ Region.ready md ops listed, i < n ∧ ∃ o, ops[i]? = some o ∧ stepG P ops T S o a fun S' a' => heldT P md ops T n L Lq fuel S' (listed.setIfInBounds i true) a'
theorem wpAny_of_T {n g : Nat} {L : Array Bool → Prop} {Lq : Act → World → Prop} {Q : Exit → Act → World → Prop} (hL : ∀ listed a w, L listed → Lq a w → wpAny P md ops Q g listed a w) :
    ∀ (fuel : Nat) (S : World → Prop) (listed : Array Bool) (a : Act) (w : World), Stays T S → S w → (∀ w, T w w) → heldT P md ops T n L Lq fuel S listed a → wpAny P md ops Q (fuel + g) listed a w
  | 0, _, _, _, _, _, hS, _, h => by rw [Nat.zero_add]; exact hL _ _ _ h.1 (h.2 _ hS)
  | fuel + 1, S, listed, a, w, hT, hS, hR, h => by
    rw [show fuel + 1 + g = (fuel + g) + 1 by omega]
    exact ⟨fun h0 => absurd h0 h.1, fun i hi => by
      obtain ⟨_, o, ho, hst⟩ := h.2 i hi
      unfold Go.wpOp
      simp only [ho]
      rcases hst with ⟨u, ⟨h1, rfl⟩ | ⟨h1, h2⟩, h3⟩ | ⟨h1, V, h2, h3, h4⟩
      · simp only [h1, Bool.false_eq_true, if_false]
        exact wpAny_of_T hL fuel _ _ _ w hT hS hR h3
      · simp only [h1, if_true]
        refine .inl (got_wp (h2 w hS) fun v w' ht hv => ?_)
        subst hv
        exact wpAny_of_T hL fuel _ _ _ w' hT (hT w w' hS ht) hR h3
      · simp only [h1, if_true]
        refine .inl (got_wp (h3 w hS) fun v w' ht hv => ?_)
        exact wpAny_of_T hL fuel _ _ _ w' (fun w w' hw ht => ⟨hT w w' hw.1 ht, h2 v w w' hw.2 ht⟩) ⟨hT w w' hS ht, hv⟩ hR (h4 v)⟩
theorem heldT_first {n : Nat} {L : Array Bool → Prop} {Lq : Act → World → Prop} {i : Nat} {oi : Oper} {u : Value} (hi : ops[i]? = some oi) (hsel : ∀ (j : Nat) (o : Oper) cs b, ops[j]? = some o → o.op ≠ .select cs b)
    (hs : Region.sinkB md ops n = true) (hc : Region.chainB md ops n = true) (hn : n < ops.size) (hin : i < n) (hdone : ∀ listed, L listed → ∀ j ∈ Region.ready md ops listed, n ≤ j) :
    ∀ (fuel : Nat) (S : World → Prop) (listed : Array Bool) (a : Act), HeadInv md ops n listed →
      (∀ j oj, ops[j]? = some oj → j ≠ i → listed.getD j true = false → (∀ e ∈ oj.after, Region.binds md e = true → e.on ≠ i) → oi.apart ops oj = true) →
      i ∈ Region.ready md ops listed → givesG P ops T S oi a u →
      heldT P md ops T n L Lq fuel S (listed.setIfInBounds i true) (a.put oi.dst u) → heldT P md ops T n L Lq (fuel + 1) S listed a := by
  intro fuel
  induction fuel with
  | zero =>
    intro S listed a inv _ hr hy H
    have hun := (mem_ready.1 hr).1
    refine ⟨fun h => (by rw [h] at hr; cases hr), fun j hj => ?_⟩
    have hjn : j < n := by
      rcases Nat.lt_or_ge j n with h | h
      · exact h
      · exact absurd hj (tail_waits hs hc hn inv _ i rfl hin hun j h)
    refine ⟨hjn, ?_⟩
    by_cases hji : j = i
    · subst hji; exact ⟨oi, hi, .inl ⟨u, hy, H⟩⟩
    · have := hdone _ H.1 j (ready_mono hj hji)
      omega
  | succ fuel ih =>
    intro S listed a inv hfree hr hy H
    have hun := (mem_ready.1 hr).1
    refine ⟨fun h => (by rw [h] at hr; cases hr), fun j hj => ?_⟩
    have hjn : j < n := by
      rcases Nat.lt_or_ge j n with h | h
      · exact h
      · exact absurd hj (tail_waits hs hc hn inv _ i rfl hin hun j h)
    refine ⟨hjn, ?_⟩
    by_cases hji : j = i
    · subst hji; exact ⟨oi, hi, .inl ⟨u, hy, H⟩⟩
    · obtain ⟨_, oj, hoj, hst⟩ := H.2 j (ready_mono hj hji)
      obtain ⟨hjun, oj', hoj', hall⟩ := mem_ready.1 hj
      obtain rfl : oj' = oj := Option.some.inj (hoj'.symm.trans hoj)
      have hnot : ∀ e ∈ oj'.after, Region.binds md e = true → e.on ≠ i := fun e he hb heq => by
        have h1 := hall e he hb
        rw [heq, getD_both hun] at h1
        cases h1
      have hap := hfree j oj' hoj hji hjun hnot
      obtain ⟨h1, h2, h3⟩ := Oper.apart_spec hap
      have hsi : ∀ cs b, oi.op ≠ .select cs b := fun cs b => hsel i oi cs b hi
      have hsj : ∀ cs b, oj'.op ≠ .select cs b := fun cs b => hsel j oj' cs b hoj
      have hfree' : ∀ k ok, ops[k]? = some ok → k ≠ i → (listed.setIfInBounds j true).getD k true = false →
          (∀ e ∈ ok.after, Region.binds md e = true → e.on ≠ i) → oi.apart ops ok = true := fun k ok hk hki hun hno => by
        refine hfree k ok hk hki ?_ hno
        by_cases hjk : j = k
        · subst hjk; exact hjun
        · rw [getD_set_ne true hjk] at hun; exact hun
      refine ⟨oj', hoj, stepG_of_same (execOp_put oj' hsj a oi.dst u h1).symm (wanted_put oj' a oi.dst u h1).symm hst fun S' v hS' hK => ?_⟩
      refine ih S' (listed.setIfInBounds j true) (a.put oj'.dst v) (inv.set hj hjn) hfree' (ready_mono hr (Ne.symm hji)) ((hy.mono hS').of_same (execOp_put oi hsi a oj'.dst v h3) (wanted_put oi a oj'.dst v h3)) ?_
      rw [Array.setIfInBounds_comm _ _ hji, ← Act.put_comm a u v h2]
      exact hK

/-- The walk of the head in the text's order; then Lq. -/
def wpT (P : Program) (ops : Array Oper) (T : World → World → Prop) (Lq : Act → World → Prop) (N : List Nat) : Nat → (World → Prop) → List Oper → Act → Prop
  | _, S, [], a => ∀ w, S w → Lq a w
  | k, S, o :: rest, a => (∃ u, givesG P ops T S o a u ∧ wpT P ops T Lq N (k + 1) S rest (a.put o.dst u)) ∨
    (N.contains k = true ∧ Region.wanted o (yielded ops a.tmps) = true ∧ ∃ V : Value → World → Prop, (∀ v, Stays T (V v)) ∧ (∀ w, S w → gotAt P T o a w V) ∧ ∀ v, wpT P ops T Lq N (k + 1) (fun w => S w ∧ V v w) rest (a.put o.dst v))
/-- f operations from k on can be walked in the text's order; at the places of N nothing else is ready. -/
def lexT (md : Region.Mode) (ops : Array Oper) (N : List Nat) (g : Nat) : Nat → Nat → Array Bool → Bool
  | 0, k, listed => Region.seqB md ops g k listed
  | f + 1, k, listed => (Region.ready md ops listed).contains k && Region.free md ops listed k && (!N.contains k || decide (Region.ready md ops listed = [k])) && lexT md ops N g f (k + 1) (listed.setIfInBounds k true)
def lexTB (md : Region.Mode) (ops : Array Oper) (N : List Nat) (n : Nat) : Bool :=
  Region.noSelect ops && decide (n < ops.size) && Region.sinkB md ops n && Region.chainB md ops n && lexT md ops N (ops.size - n) n 0 (Array.replicate ops.size false)

theorem heldT_lex {n g : Nat} {Lq : Act → World → Prop} {N : List Nat} (hsel : Region.noSelect ops = true) (hs : Region.sinkB md ops n = true) (hc : Region.chainB md ops n = true) (hn : n < ops.size) :
    ∀ (l : List Oper) (k : Nat) (S : World → Prop) (listed : Array Bool) (a : Act), (∀ j, j < l.length → l[j]? = ops[k + j]?) → k + l.length = n → HeadInv md ops n listed →
    lexT md ops N g l.length k listed = true → wpT P ops T Lq N k S l a → heldT P md ops T n (fun listed' => Region.seqB md ops g n listed' = true) Lq l.length S listed a
  | [], k, S, listed, a, _, hk, _, hB, h => by
    have : k = n := by simpa using hk
    subst this
    exact ⟨by simpa [lexT] using hB, h⟩
  | o :: l, k, S, listed, a, hl, hk, inv, hB, h => by
    have h0 : ops[k]? = some o := by simpa using (hl 0 (by simp)).symm
    simp only [List.length_cons, lexT, Bool.and_eq_true] at hB
    obtain ⟨⟨⟨hr, hf⟩, hN⟩, hB'⟩ := hB
    have hkn : k < n := by simp only [List.length_cons] at hk; omega
    have hr' : k ∈ Region.ready md ops listed := by simpa using hr
    have go : ∀ S' v, wpT P ops T Lq N (k + 1) S' l (a.put o.dst v) → heldT P md ops T n (fun listed' => Region.seqB md ops g n listed' = true) Lq l.length S' (listed.setIfInBounds k true) (a.put o.dst v) := fun S' v hw =>
      heldT_lex hsel hs hc hn l (k + 1) S' _ _ (fun j hj => by have := hl (j + 1) (by simp; omega); simpa [Nat.add_assoc, Nat.add_comm 1 j] using this) (by simp only [List.length_cons] at hk; omega) (inv.set hr' hkn) hB' hw
    rcases h with ⟨u, hy, hK⟩ | ⟨hc', hw, V, h2, h3, h4⟩
    · exact heldT_first h0 (Region.noSelect_spec hsel) hs hc hn hkn (fun listed' hL => seqB_ready hL) l.length S listed a inv (Region.free_spec h0 hf) hr' hy (go S u hK)
    · rw [hc'] at hN
      have hN' : Region.ready md ops listed = [k] := by simpa using hN
      refine ⟨fun hh => (by rw [hh] at hr'; cases hr'), fun j hj => ?_⟩
      obtain rfl : j = k := by rw [hN'] at hj; simpa using hj
      exact ⟨hkn, o, h0, .inr ⟨hw, V, h2, h3, fun v => go _ v (h4 v)⟩⟩
theorem wp_region_T {id : Nat} {Q : Exit → Act → World → Prop} {a : Act} {w : World} {l : List Oper} (n : Nat) (N : List Nat) (T : World → World → Prop) (S : World → Prop) (hm : P.follows .mixedOrders = true) (hB : lexTB .any l.toArray N n = true)
    (hR : ∀ w, T w w) (hT : Stays T S) (hS : S w.drew) (h : wpT P l.toArray T (fun a' w' => wpList P l.toArray Q (l.drop n) a' w') N 0 S (l.take n) a) : (Code.region id l.toArray true).wp P Q a w := by
  simp only [lexTB, Bool.and_eq_true, decide_eq_true_eq] at hB
  obtain ⟨⟨⟨⟨hsel, hn⟩, hs⟩, hc⟩, hlex⟩ := hB
  have hn' : n < l.length := by simpa using hn
  have htl : (l.take n).length = n := by simp; omega
  have hdl : (l.drop n).length = l.toArray.size - n := by simp
  have inv0 : HeadInv .any l.toArray n (Array.replicate l.toArray.size false) :=
    ⟨by simp, fun j oj _ hl => (by rw [getD_replicate_false] at hl; cases hl), fun t _ ht => getD_in (by simpa using ht) (getD_replicate_false _ _)⟩
  have H := heldT_lex (md := .any) (g := l.toArray.size - n) hsel hs hc hn (l.take n) 0 S _ a (fun j hj => by
    have hj' : j < n := by rw [htl] at hj; exact hj
    simp [hj']) (by simpa using htl) inv0 (by rw [htl]; exact hlex) h
  refine wp_region_any hm ?_
  have := wpAny_of_T (Q := Q) (g := l.toArray.size - n) (fun listed a' w' hL hq => by
    have := wpAny_of_seq (md := .any) (Q' := Q) (l.drop n) n listed a' w' (fun j => by simp [List.getElem?_drop]) (by rw [hdl]; exact hL) hq
    rwa [hdl] at this) _ _ _ _ _ hT hS hR H
  rw [htl, show n + (l.toArray.size - n) = l.toArray.size by omega] at this
  exact this
end
section
variable {P : Program} {ops : Array Oper} {Lq : Act → World → Prop} {N : List Nat} {k : Nat} {S : World → Prop} {o : Oper} {rest : List Oper} {a : Act}
theorem wpT_nil {T : World → World → Prop} (h : ∀ w, S w → Lq a w) : wpT P ops T Lq N k S [] a := h
theorem wpT_skip {T : World → World → Prop} (hw : Region.wanted o (yielded ops a.tmps) = false) (hn : wpT P ops T Lq N (k + 1) S rest (a.put o.dst undef)) : wpT P ops T Lq N k S (o :: rest) a :=
  .inl ⟨undef, .inl ⟨hw, rfl⟩, hn⟩
theorem wpT_val {v : Value} (hw : Region.wanted o (yielded ops a.tmps) = true) (h : ∀ w, S w → (execOp a.eval o).run P w = .ok (.value v) w) (hn : wpT P ops Anew Lq N (k + 1) S rest (a.put o.dst v)) : wpT P ops Anew Lq N k S (o :: rest) a :=
  .inl ⟨v, .inr ⟨hw, fun w hS => by unfold gotAt; rw [h w hS]; exact ⟨Anew.refl w, rfl⟩⟩, hn⟩
theorem wpT_call {v : Value} {f : FuncId} {args : Array Value} (hw : Region.wanted o (yielded ops a.tmps) = true) (h : ∀ w, (execOp a.eval o).run P w = .ok (.enter f args) w) (hc : ∀ w, S w → Calls P f args w (fun e w'' => e = .returned v ∧ Anew w w''))
    (hn : wpT P ops Anew Lq N (k + 1) S rest (a.put o.dst v)) : wpT P ops Anew Lq N k S (o :: rest) a :=
  .inl ⟨v, .inr ⟨hw, fun w hS => by unfold gotAt; rw [h w]; exact (hc w hS).mono fun e w' ⟨h1, h2⟩ => ⟨v, h1, h2, rfl⟩⟩, hn⟩
/-- A call that answers whatever V says. -/
theorem wpT_some {f : FuncId} {args : Array Value} (V : Value → World → Prop) (hN : N.contains k = true) (hw : Region.wanted o (yielded ops a.tmps) = true) (h : ∀ w, (execOp a.eval o).run P w = .ok (.enter f args) w) (hV : ∀ v, Stays Anew (V v))
    (hc : ∀ w, S w → Calls P f args w (fun e w'' => ∃ v, e = .returned v ∧ Anew w w'' ∧ V v w''))
    (hn : ∀ v, wpT P ops Anew Lq N (k + 1) (fun w => S w ∧ V v w) rest (a.put o.dst v)) : wpT P ops Anew Lq N k S (o :: rest) a :=
  .inr ⟨hN, hw, V, hV, fun w hS => by unfold gotAt; rw [h w]; exact hc w hS, hn⟩
/-- An operation that makes something new. -/
theorem wpT_make (V : Value → World → Prop) (hN : N.contains k = true) (hw : Region.wanted o (yielded ops a.tmps) = true) (hV : ∀ v, Stays Anew (V v)) (hc : ∀ w, S w → ∃ v w', (execOp a.eval o).run P w = .ok (.value v) w' ∧ Anew w w' ∧ V v w')
    (hn : ∀ v, wpT P ops Anew Lq N (k + 1) (fun w => S w ∧ V v w) rest (a.put o.dst v)) : wpT P ops Anew Lq N k S (o :: rest) a :=
  .inr ⟨hN, hw, V, hV, fun w hS => by obtain ⟨v, w', h1, h2, h3⟩ := hc w hS; unfold gotAt; rw [h1]; exact ⟨h2, h3⟩, hn⟩
end
end Go.Proofs.Ytbkpjjibgnachaa
