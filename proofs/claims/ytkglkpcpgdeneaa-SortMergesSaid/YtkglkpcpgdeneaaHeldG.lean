/- A region that draws its order, walked in the order of its text: each operation makes a step of T; most yield one value in every world that meets S; some, which the rest waits for, yield whatever V says. No program in sight. Conditions: none. -/
import Derived.Test.YtkglkpcpgdeneaaHeldS
import Derived.Test.YtkglkpcpgdeneaaBase
namespace Go.Proofs.Ytkglkpcpgdeneaa
open Go.RowKit
section
variable {P : Program} {ops : Array Oper} {md : Region.Mode} {T : World → World → Prop}

/-- What an operation came to: a value of V's, behind a step of T. -/
def gotUpon (P : Program) (T : World → World → Prop) (w : World) (V : Value → World → Prop) : Result Next → Prop
  | .ok (.value u) w' => T w w' ∧ V u w'
  | .ok .skip w' => T w w' ∧ V undef w'
  | .ok (.enter f args) w' => Calls P f args w' (fun e w'' => ∃ v, e = .returned v ∧ T w w'' ∧ V v w'')
  | _ => False
def gotAt (P : Program) (T : World → World → Prop) (o : Oper) (a : Act) (w : World) (V : Value → World → Prop) : Prop := gotUpon P T w V ((execOp a.eval o).run P w)
theorem gotUpon_mono {w : World} {V V' : Value → World → Prop} (h : ∀ v w', T w w' → V v w' → V' v w') {r : Result Next} (hr : gotUpon P T w V r) : gotUpon P T w V' r := by
  cases r with
  | ok n w' =>
    cases n <;> simp only [gotUpon] at hr ⊢
    case value u => exact ⟨hr.1, h _ _ hr.1 hr.2⟩
    case skip => exact ⟨hr.1, h _ _ hr.1 hr.2⟩
    case enter f args => exact hr.mono fun e w'' ⟨v, h1, h2, h3⟩ => ⟨v, h1, h2, h _ _ h2 h3⟩
  | halt x w' => simp only [gotUpon] at hr
theorem got_wp {w : World} {V : Value → World → Prop} {o : Oper} {a : Act} {K : Act → World → Prop} {Q : Exit → Act → World → Prop} (hr : gotAt P T o a w V) (h : ∀ v w', T w w' → V v w' → K (a.put o.dst v) w') : o.wp P a w K Q := by
  unfold gotAt at hr
  unfold Oper.wp
  generalize (execOp a.eval o).run P w = r at *
  cases r with
  | ok n w' =>
    cases n <;> simp only [gotUpon] at hr <;> simp only [Oper.upon]
    case value u => exact h _ _ hr.1 hr.2
    case skip => exact h _ _ hr.1 hr.2
    case enter f args => exact hr.mono fun e w'' ⟨v, h1, h2, h3⟩ => by subst h1; exact h _ _ h2 h3
  | halt x w' => simp only [gotUpon] at hr
/-- V goes on over T's steps. -/
def Stays (T : World → World → Prop) (S : World → Prop) : Prop := ∀ w w', S w → T w w' → S w'

/-- The operation yields u, in every world that meets S. -/
def givesG (P : Program) (ops : Array Oper) (T : World → World → Prop) (S : World → Prop) (o : Oper) (a : Act) (u : Value) : Prop :=
  (Region.wanted o (yielded ops a.tmps) = false ∧ u = undef) ∨
  (Region.wanted o (yielded ops a.tmps) = true ∧ ∀ w, S w → gotAt P T o a w (fun v _ => v = u))
/-- What one operation does to what is known. -/
def stepG (P : Program) (ops : Array Oper) (T : World → World → Prop) (S : World → Prop) (o : Oper) (a : Act) (K : (World → Prop) → Act → Prop) : Prop :=
  (∃ u, givesG P ops T S o a u ∧ K S (a.put o.dst u)) ∨
  (Region.wanted o (yielded ops a.tmps) = true ∧ ∃ V : Value → World → Prop, (∀ v, Stays T (V v)) ∧ (∀ w, S w → gotAt P T o a w V) ∧ ∀ v, K (fun w => S w ∧ V v w) (a.put o.dst v))
theorem givesG.of_same {S : World → Prop} {o : Oper} {u : Value} {a a' : Act} (hy : givesG P ops T S o a u) (he : execOp a'.eval o = execOp a.eval o)
    (hw : Region.wanted o (yielded ops a'.tmps) = Region.wanted o (yielded ops a.tmps)) : givesG P ops T S o a' u := by
  unfold givesG gotAt at *
  rw [he, hw]
  exact hy
theorem givesG.mono {S S' : World → Prop} {o : Oper} {u : Value} {a : Act} (hy : givesG P ops T S o a u) (h : ∀ w, S' w → S w) : givesG P ops T S' o a u :=
  hy.imp id fun ⟨h1, h2⟩ => ⟨h1, fun w hw => h2 w (h w hw)⟩

def heldG (P : Program) (md : Region.Mode) (ops : Array Oper) (T : World → World → Prop) (Q : Exit → Act → World → Prop) : Nat → (World → Prop) → Array Bool → Act → Prop
  | 0, S, listed, a => Region.ready md ops listed = [] ∧ ∀ w, S w → Q .normal a w
  | fuel + 1, S, listed, a => (Region.ready md ops listed = [] → ∀ w, S w → Q .normal a w) ∧
    ∀ i ∈ Region.ready md ops listed, ∃ o, ops[i]? = some o ∧ stepG P ops T S o a fun S' a' => heldG P md ops T Q fuel S' (listed.setIfInBounds i true) a'
theorem wpAny_of_G {Q : Exit → Act → World → Prop} : ∀ (fuel : Nat) (S : World → Prop) (listed : Array Bool) (a : Act) (w : World), Stays T S → S w → (∀ w, T w w) → heldG P md ops T Q fuel S listed a → wpAny P md ops Q fuel listed a w
  | 0, _, _, _, _, _, hS, _, h => ⟨h.1, h.2 _ hS⟩
  | fuel + 1, S, listed, a, w, hT, hS, hR, h => ⟨fun h0 => h.1 h0 _ hS, fun i hi => by
      obtain ⟨o, ho, hst⟩ := h.2 i hi
      unfold Go.wpOp
      simp only [ho]
      rcases hst with ⟨u, ⟨h1, rfl⟩ | ⟨h1, h2⟩, h3⟩ | ⟨h1, V, h2, h3, h4⟩
      · simp only [h1, Bool.false_eq_true, if_false]
        exact wpAny_of_G fuel _ _ _ w hT hS hR h3
      · simp only [h1, if_true]
        refine .inl (got_wp (h2 w hS) fun v w' ht hv => ?_)
        subst hv
        exact wpAny_of_G fuel _ _ _ w' hT (hT w w' hS ht) hR h3
      · simp only [h1, if_true]
        refine .inl (got_wp (h3 w hS) fun v w' ht hv => ?_)
        exact wpAny_of_G fuel _ _ _ w' (fun w w' hw ht => ⟨hT w w' hw.1 ht, h2 v w w' hw.2 ht⟩) ⟨hT w w' hS ht, hv⟩ hR (h4 v)⟩
theorem stepG_of_same {S : World → Prop} {o : Oper} {a a' : Act} {K : (World → Prop) → Act → Prop} (he : execOp a'.eval o = execOp a.eval o)
    (hw : Region.wanted o (yielded ops a'.tmps) = Region.wanted o (yielded ops a.tmps)) (hs : stepG P ops T S o a K) {K' : (World → Prop) → Act → Prop} (hk : ∀ S' u, (∀ w, S' w → S w) → K S' (a.put o.dst u) → K' S' (a'.put o.dst u)) : stepG P ops T S o a' K' := by
  rcases hs with ⟨u, h1, h2⟩ | ⟨h1, V, h2, h3, h4⟩
  · exact .inl ⟨u, h1.of_same he hw, hk _ _ (fun _ h => h) h2⟩
  · refine .inr ⟨by rw [hw]; exact h1, V, h2, ?_, fun v => hk _ _ (fun _ h => h.1) (h4 v)⟩
    unfold gotAt at *
    rw [he]
    exact h3
theorem heldG_first {Q : Exit → Act → World → Prop} {i : Nat} {oi : Oper} {u : Value} (hi : ops[i]? = some oi) (hsel : ∀ (j : Nat) (o : Oper) cs b, ops[j]? = some o → o.op ≠ .select cs b) :
    ∀ (fuel : Nat) (S : World → Prop) (listed : Array Bool) (a : Act),
      (∀ j oj, ops[j]? = some oj → j ≠ i → listed.getD j true = false → (∀ e ∈ oj.after, Region.binds md e = true → e.on ≠ i) → oi.apart ops oj = true) →
      i ∈ Region.ready md ops listed → givesG P ops T S oi a u →
      heldG P md ops T Q fuel S (listed.setIfInBounds i true) (a.put oi.dst u) → heldG P md ops T Q (fuel + 1) S listed a := by
  intro fuel
  induction fuel with
  | zero =>
    intro S listed a _ hr hy H
    refine ⟨fun h => (by rw [h] at hr; cases hr), fun j hj => ?_⟩
    by_cases hji : j = i
    · subst hji; exact ⟨oi, hi, .inl ⟨u, hy, H⟩⟩
    · have := ready_mono hj hji
      rw [H.1] at this
      cases this
  | succ fuel ih =>
    intro S listed a hfree hr hy H
    refine ⟨fun h => (by rw [h] at hr; cases hr), fun j hj => ?_⟩
    by_cases hji : j = i
    · subst hji; exact ⟨oi, hi, .inl ⟨u, hy, H⟩⟩
    · obtain ⟨oj, hoj, hst⟩ := H.2 j (ready_mono hj hji)
      obtain ⟨hjun, oj', hoj', hall⟩ := mem_ready.1 hj
      obtain rfl : oj' = oj := Option.some.inj (hoj'.symm.trans hoj)
      have hnot : ∀ e ∈ oj'.after, Region.binds md e = true → e.on ≠ i := fun e he hb heq => by
        have h1 := hall e he hb
        have h0 := (mem_ready.1 hr).1
        rw [heq] at h1
        rcases Nat.lt_or_ge i listed.size with h' | h'
        · simp [h'] at h0 h1; rw [h0] at h1; cases h1
        · simp [Array.getElem?_eq_none h'] at h1
      have hap := hfree j oj' hoj hji hjun hnot
      obtain ⟨h1, h2, h3⟩ := Oper.apart_spec hap
      have hsi : ∀ cs b, oi.op ≠ .select cs b := fun cs b => hsel i oi cs b hi
      have hsj : ∀ cs b, oj'.op ≠ .select cs b := fun cs b => hsel j oj' cs b hoj
      have hfree' : ∀ k ok, ops[k]? = some ok → k ≠ i → (listed.setIfInBounds j true).getD k true = false →
          (∀ e ∈ ok.after, Region.binds md e = true → e.on ≠ i) → oi.apart ops ok = true := fun k ok hk hki hun hno => by
        refine hfree k ok hk hki ?_ hno
        by_cases hjk : j = k
        · subst hjk; exact hjun
        · rw [getD_set_ne true hjk] at hun; exact hun
      refine ⟨oj', hoj, stepG_of_same (execOp_put oj' hsj a oi.dst u h1).symm (wanted_put oj' a oi.dst u h1).symm hst fun S' v hS' hK => ?_⟩
      refine ih S' (listed.setIfInBounds j true) (a.put oj'.dst v) hfree' (ready_mono hr (Ne.symm hji)) ((hy.mono hS').of_same (execOp_put oi hsi a oj'.dst v h3) (wanted_put oi a oj'.dst v h3)) ?_
      rw [Array.setIfInBounds_comm _ _ hji, ← Act.put_comm a u v h2]
      exact hK

/-- The walk in the text's order; at the places of N, which all that comes behind waits for, an operation may yield whatever V says. -/
def wpG (P : Program) (ops : Array Oper) (T : World → World → Prop) (Q : Exit → Act → World → Prop) (N : List Nat) : Nat → (World → Prop) → List Oper → Act → Prop
  | _, S, [], a => ∀ w, S w → Q .normal a w
  | k, S, o :: rest, a => (∃ u, givesG P ops T S o a u ∧ wpG P ops T Q N (k + 1) S rest (a.put o.dst u)) ∨
    (N.contains k = true ∧ Region.wanted o (yielded ops a.tmps) = true ∧ ∃ V : Value → World → Prop, (∀ v, Stays T (V v)) ∧ (∀ w, S w → gotAt P T o a w V) ∧ ∀ v, wpG P ops T Q N (k + 1) (fun w => S w ∧ V v w) rest (a.put o.dst v))
def lexG (md : Region.Mode) (ops : Array Oper) (N : List Nat) : Nat → List Oper → Bool
  | _, [] => true
  | k, o :: rest => o.after.toList.all (fun e => !Region.binds md e || Nat.blt e.on k) &&
    rest.all (fun oj => oj.after.toList.any (fun e => Region.binds md e && Nat.beq e.on k) || o.apart ops oj) &&
    (!N.contains k || rest.all (fun oj => oj.after.toList.any (fun e => Region.binds md e && Nat.ble k e.on))) && lexG md ops N (k + 1) rest
theorem heldG_lex {Q : Exit → Act → World → Prop} {N : List Nat} (hs : Region.noSelect ops = true) : ∀ (l : List Oper) (k : Nat) (S : World → Prop) (listed : Array Bool) (a : Act), ops.toList.drop k = l → Done ops.size k listed → k ≤ ops.size →
    lexG md ops N k l = true → wpG P ops T Q N k S l a → heldG P md ops T Q l.length S listed a
  | [], k, S, listed, a, hl, hD, hk, _, h => by
    refine ⟨?_, h⟩
    have hk' : k = ops.size := by
      have := congrArg List.length hl
      simp at this
      omega
    subst hk'
    apply List.eq_nil_iff_forall_not_mem.2
    intro j hj
    obtain ⟨h0, o, ho, _⟩ := mem_ready.1 hj
    have := hD.old (Nat.le_refl _) h0
    rw [Array.getElem?_eq_none this] at ho
    cases ho
  | o :: l, k, S, listed, a, hl, hD, hk, hB, h => by
    have hkn : k < ops.size := by
      have := congrArg List.length hl
      simp at this
      omega
    have h0 : ops[k]? = some o := by
      have : (ops.toList.drop k)[0]? = some o := by rw [hl]; rfl
      rw [List.getElem?_drop] at this
      simpa using this
    have hl' : ops.toList.drop (k + 1) = l := by
      rw [← List.drop_drop, hl]; rfl
    simp only [lexG, Bool.and_eq_true] at hB
    obtain ⟨⟨⟨hr, hf⟩, hN⟩, hB'⟩ := hB
    have behind : ∀ j oj, ops[j]? = some oj → j ≠ k → listed.getD j true = false → oj ∈ l := fun j oj hoj hne hun => by
      have hj := hD.old hk hun
      rw [← hl']
      refine List.mem_of_getElem? (i := j - (k + 1)) ?_
      rw [List.getElem?_drop, show k + 1 + (j - (k + 1)) = j by omega]
      simpa using hoj
    have hmem : k ∈ Region.ready md ops listed := mem_ready.2 ⟨hD.2.2 k (Nat.le_refl _) hkn, o, h0, fun e he hb => by
      have := List.all_eq_true.1 hr e (by simpa using he)
      rw [hb] at this
      have g : Nat.blt e.on k = true := by simpa using this
      exact hD.2.1 _ (Nat.le_of_ble_eq_true g)⟩
    rcases h with ⟨u, hy, hK⟩ | ⟨hc, hw, V, h2, h3, h4⟩
    · refine heldG_first h0 (Region.noSelect_spec hs) l.length S listed a (fun j oj hoj hne hun hno => ?_) hmem hy
        (heldG_lex hs l (k + 1) S _ _ hl' (hD.next hkn) hkn hB' hK)
      have := List.all_eq_true.1 hf oj (behind j oj hoj hne hun)
      rw [Bool.or_eq_true] at this
      rcases this with g | g
      · obtain ⟨e, he, g⟩ := List.any_eq_true.1 g
        rw [Bool.and_eq_true] at g
        exact absurd (Nat.eq_of_beq_eq_true g.2) (hno e (by simpa using he) g.1)
      · exact g
    · refine ⟨fun hh => (by rw [hh] at hmem; cases hmem), fun j hj => ?_⟩
      have hjk : j = k := by
        refine Classical.byContradiction fun hne => ?_
        obtain ⟨hjun, oj, hoj, hall⟩ := mem_ready.1 hj
        rw [hc] at hN
        have hN' : l.all (fun oj => oj.after.toList.any (fun e => Region.binds md e && Nat.ble k e.on)) = true := by simpa using hN
        obtain ⟨e, he, g⟩ := List.any_eq_true.1 (List.all_eq_true.1 hN' oj (behind j oj hoj hne hjun))
        rw [Bool.and_eq_true] at g
        have h5 := hall e (by simpa using he) g.1
        have h6 := Nat.le_of_ble_eq_true g.2
        rcases Nat.lt_or_ge e.on ops.size with h7 | h7
        · have h8 := hD.2.2 e.on h6 h7
          have hs' : e.on < listed.size := by rw [hD.1]; exact h7
          simp [Array.getD, hs'] at h5 h8
          rw [h5] at h8
          cases h8
        · have hs' : ¬ e.on < listed.size := by rw [hD.1]; omega
          simp [Array.getD, hs'] at h5
      subst hjk
      exact ⟨o, h0, .inr ⟨hw, V, h2, h3, fun v => heldG_lex hs l (j + 1) _ _ _ hl' (hD.next hkn) hkn hB' (h4 v)⟩⟩
theorem wp_region_G {id : Nat} {Q : Exit → Act → World → Prop} {a : Act} {w : World} {l : List Oper} (N : List Nat) (T : World → World → Prop) (S : World → Prop) (hm : P.follows .mixedOrders = true) (hs : Region.noSelect l.toArray = true) (hB : lexG .any l.toArray N 0 l = true) (hR : ∀ w, T w w) (hT : Stays T S) (hS : S w.drew)
    (h : wpG P l.toArray T Q N 0 S l a) : (Code.region id l.toArray true).wp P Q a w := by
  refine wp_region_any hm (wpAny_of_G _ S _ _ _ hT hS hR ?_)
  have := heldG_lex (md := .any) hs l 0 S (Array.replicate l.toArray.size false) a (by simp) (Done.start _) (Nat.zero_le _) hB h
  simpa using this

-- the moves of a walk
theorem wpG_nil {Q : Exit → Act → World → Prop} {N : List Nat} {k : Nat} {S : World → Prop} {a : Act} (h : ∀ w, S w → Q .normal a w) : wpG P ops T Q N k S [] a := h
theorem wpG_skip {Q : Exit → Act → World → Prop} {N : List Nat} {k : Nat} {S : World → Prop} {o : Oper} {rest : List Oper} {a : Act} (hw : Region.wanted o (yielded ops a.tmps) = false) (hn : wpG P ops T Q N (k + 1) S rest (a.put o.dst undef)) : wpG P ops T Q N k S (o :: rest) a :=
  .inl ⟨undef, .inl ⟨hw, rfl⟩, hn⟩
end
section
variable {P : Program} {ops : Array Oper} {Q : Exit → Act → World → Prop} {N : List Nat} {k : Nat} {S : World → Prop} {o : Oper} {rest : List Oper} {a : Act}
/-- Only what is new may turn. -/
abbrev Anew (w w' : World) : Prop := Keep (fun j => w.heap.size ≤ j) w w'
theorem Anew.refl (w : World) : Anew w w := Keep.refl _ w
theorem wpG_val {v : Value} (hw : Region.wanted o (yielded ops a.tmps) = true) (h : ∀ w, S w → (execOp a.eval o).run P w = .ok (.value v) w) (hn : wpG P ops Anew Q N (k + 1) S rest (a.put o.dst v)) : wpG P ops Anew Q N k S (o :: rest) a :=
  .inl ⟨v, .inr ⟨hw, fun w hS => by unfold gotAt; rw [h w hS]; exact ⟨Anew.refl w, rfl⟩⟩, hn⟩
theorem wpG_call {v : Value} {f : FuncId} {args : Array Value} (hw : Region.wanted o (yielded ops a.tmps) = true) (h : ∀ w, (execOp a.eval o).run P w = .ok (.enter f args) w) (hc : ∀ w, S w → Calls P f args w (fun e w'' => e = .returned v ∧ Anew w w'')) (hn : wpG P ops Anew Q N (k + 1) S rest (a.put o.dst v)) : wpG P ops Anew Q N k S (o :: rest) a :=
  .inl ⟨v, .inr ⟨hw, fun w hS => by unfold gotAt; rw [h w]; exact (hc w hS).mono fun e w' ⟨h1, h2⟩ => ⟨v, h1, h2, rfl⟩⟩, hn⟩
/-- A call that answers whatever V says. -/
theorem wpG_some {f : FuncId} {args : Array Value} (V : Value → World → Prop) (hN : N.contains k = true) (hw : Region.wanted o (yielded ops a.tmps) = true) (h : ∀ w, (execOp a.eval o).run P w = .ok (.enter f args) w) (hV : ∀ v, Stays Anew (V v)) (hc : ∀ w, S w → Calls P f args w (fun e w'' => ∃ v, e = .returned v ∧ Anew w w'' ∧ V v w''))
    (hn : ∀ v, wpG P ops Anew Q N (k + 1) (fun w => S w ∧ V v w) rest (a.put o.dst v)) : wpG P ops Anew Q N k S (o :: rest) a :=
  .inr ⟨hN, hw, V, hV, fun w hS => by unfold gotAt; rw [h w]; exact hc w hS, hn⟩
end
end Go.Proofs.Ytkglkpcpgdeneaa
