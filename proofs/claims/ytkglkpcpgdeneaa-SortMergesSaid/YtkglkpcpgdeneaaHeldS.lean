/- A region that draws its order, walked in the order of its text: each operation, in every world that meets S, yields one value and leaves a world that meets S. No program in sight. Conditions: none. -/
import Derived.Still
import Derived.WalkKit
namespace Go.Proofs.Ytkglkpcpgdeneaa
open Go.RowKit
section
variable {P : Program} {ops : Array Oper} {md : Region.Mode} {S : World → Prop}

/-- What an operation came to: this value, in a world that meets S. -/
def heldUpon (P : Program) (S : World → Prop) (v : Value) : Result Next → Prop
  | .ok (.value u) w' => u = v ∧ S w'
  | .ok .skip w' => undef = v ∧ S w'
  | .ok (.enter f args) w' => Calls P f args w' (fun e w'' => e = .returned v ∧ S w'')
  | _ => False
theorem heldUpon_value (S : World → Prop) (v u : Value) (w : World) : heldUpon P S v (.ok (.value u) w) = (u = v ∧ S w) := rfl
theorem heldUpon_skip (S : World → Prop) (v : Value) (w : World) : heldUpon P S v (.ok .skip w) = (undef = v ∧ S w) := rfl
theorem heldUpon_enter (S : World → Prop) (v : Value) (w : World) (f : FuncId) (args : Array Value) : heldUpon P S v (.ok (.enter f args) w) = Calls P f args w (fun e w'' => e = .returned v ∧ S w'') := rfl
def heldAt (P : Program) (S : World → Prop) (o : Oper) (a : Act) (w : World) (v : Value) : Prop := heldUpon P S v ((execOp a.eval o).run P w)
def YieldsS (P : Program) (ops : Array Oper) (S : World → Prop) (o : Oper) (v : Value) (a : Act) : Prop :=
  (Region.wanted o (yielded ops a.tmps) = true ∧ ∀ w, S w → heldAt P S o a w v) ∨ (Region.wanted o (yielded ops a.tmps) = false ∧ v = undef)
def wpHeldS (P : Program) (ops : Array Oper) (S : World → Prop) (Q : Act → Prop) : List Oper → Act → Prop
  | [], a => Q a
  | o :: rest, a => ∃ v, YieldsS P ops S o v a ∧ wpHeldS P ops S Q rest (a.put o.dst v)
theorem wpHeldS_nil {Q : Act → Prop} {a : Act} (h : Q a) : wpHeldS P ops S Q [] a := h
theorem wpHeldS_want {Q : Act → Prop} {o : Oper} {rest : List Oper} {a : Act} (v : Value) (hw : Region.wanted o (yielded ops a.tmps) = true) (h : ∀ w, S w → heldUpon P S v ((execOp a.eval o).run P w)) (hn : wpHeldS P ops S Q rest (a.put o.dst v)) : wpHeldS P ops S Q (o :: rest) a := ⟨v, .inl ⟨hw, h⟩, hn⟩
theorem wpHeldS_skip {Q : Act → Prop} {o : Oper} {rest : List Oper} {a : Act} (hw : Region.wanted o (yielded ops a.tmps) = false) (hn : wpHeldS P ops S Q rest (a.put o.dst undef)) : wpHeldS P ops S Q (o :: rest) a := ⟨undef, .inr ⟨hw, rfl⟩, hn⟩

theorem wpHeldS_val {Q : Act → Prop} {o : Oper} {rest : List Oper} {a : Act} {v : Value} (hw : Region.wanted o (yielded ops a.tmps) = true) (h : ∀ w, S w → (execOp a.eval o).run P w = .ok (.value v) w) (hn : wpHeldS P ops S Q rest (a.put o.dst v)) : wpHeldS P ops S Q (o :: rest) a :=
  ⟨v, .inl ⟨hw, fun w hS => by unfold heldAt; rw [h w hS]; exact ⟨rfl, hS⟩⟩, hn⟩
theorem wpHeldS_call {Q : Act → Prop} {o : Oper} {rest : List Oper} {a : Act} {v : Value} {f : FuncId} {args : Array Value} (hw : Region.wanted o (yielded ops a.tmps) = true) (h : ∀ w, (execOp a.eval o).run P w = .ok (.enter f args) w) (hc : ∀ w, S w → Calls P f args w (fun e w'' => e = .returned v ∧ S w'')) (hn : wpHeldS P ops S Q rest (a.put o.dst v)) : wpHeldS P ops S Q (o :: rest) a :=
  ⟨v, .inl ⟨hw, fun w hS => by unfold heldAt; rw [h w]; exact hc w hS⟩, hn⟩

theorem YieldsS.of_same {o : Oper} {v : Value} {a a' : Act} (hy : YieldsS P ops S o v a) (he : execOp a'.eval o = execOp a.eval o)
    (hw : Region.wanted o (yielded ops a'.tmps) = Region.wanted o (yielded ops a.tmps)) : YieldsS P ops S o v a' := by
  unfold YieldsS heldAt at *
  rw [he, hw]
  exact hy
theorem YieldsS.wpOp {Q : Exit → Act → World → Prop} {i : Nat} {o : Oper} {v : Value} {a : Act} (hi : ops[i]? = some o) (hy : YieldsS P ops S o v a) {K : Act → World → Prop} {w : World} (hS : S w) (h : ∀ w', S w' → K (a.put o.dst v) w') : wpOp P ops Q i K a w := by
  unfold Go.wpOp
  simp only [hi]
  rcases hy with ⟨hw, hv⟩ | ⟨hw, rfl⟩
  · simp only [hw, if_true]
    refine .inl ?_
    have hv := hv w hS
    unfold heldAt at hv
    unfold Oper.wp
    generalize (execOp a.eval o).run P w = r at *
    cases r with
    | ok n w' =>
      cases n <;> simp only [heldUpon] at hv <;> simp only [Oper.upon]
      case value u => obtain ⟨rfl, h2⟩ := hv; exact h _ h2
      case skip => obtain ⟨rfl, h2⟩ := hv; exact h _ h2
      case enter f args => exact hv.mono fun e w'' ⟨he, h2⟩ => by subst he; exact h _ h2
    | halt x w' => simp only [heldUpon] at hv
  · simp only [hw, Bool.false_eq_true, if_false]
    exact h _ hS

/-- Whatever order is picked, each operation that comes up yields its one value. -/
def wpAnyD (P : Program) (md : Region.Mode) (ops : Array Oper) (S : World → Prop) (Q : Act → Prop) : Nat → Array Bool → Act → Prop
  | 0, listed, a => Region.ready md ops listed = [] ∧ Q a
  | fuel + 1, listed, a => (Region.ready md ops listed = [] → Q a) ∧
    ∀ i ∈ Region.ready md ops listed, ∃ o v, ops[i]? = some o ∧ YieldsS P ops S o v a ∧ wpAnyD P md ops S Q fuel (listed.setIfInBounds i true) (a.put o.dst v)
theorem wpAny_of_D {Q : Act → Prop} {Q' : Exit → Act → World → Prop} (hQ : ∀ a, Q a → ∀ w, S w → Q' .normal a w) : ∀ (fuel : Nat) (listed : Array Bool) (a : Act) (w : World), S w → wpAnyD P md ops S Q fuel listed a → wpAny P md ops Q' fuel listed a w
  | 0, _, _, _, hS, h => ⟨h.1, hQ _ h.2 _ hS⟩
  | fuel + 1, _, _, _, hS, h => ⟨fun h0 => hQ _ (h.1 h0) _ hS, fun i hi => by
      obtain ⟨o, v, ho, hy, hn⟩ := h.2 i hi
      exact hy.wpOp ho hS (fun w' hS' => wpAny_of_D hQ fuel _ _ w' hS' hn)⟩
theorem wpAnyD_first {Q : Act → Prop} {i : Nat} {oi : Oper} {v : Value} (hi : ops[i]? = some oi) (hsel : ∀ (j : Nat) (o : Oper) cs b, ops[j]? = some o → o.op ≠ .select cs b) :
    ∀ (fuel : Nat) (listed : Array Bool) (a : Act),
      (∀ j oj, ops[j]? = some oj → j ≠ i → listed.getD j true = false → (∀ e ∈ oj.after, Region.binds md e = true → e.on ≠ i) → oi.apart ops oj = true) →
      i ∈ Region.ready md ops listed → YieldsS P ops S oi v a →
      wpAnyD P md ops S Q fuel (listed.setIfInBounds i true) (a.put oi.dst v) → wpAnyD P md ops S Q (fuel + 1) listed a := by
  intro fuel
  induction fuel with
  | zero =>
    intro listed a _ hr hy H
    refine ⟨fun h => (by rw [h] at hr; cases hr), fun j hj => ?_⟩
    by_cases hji : j = i
    · subst hji; exact ⟨oi, v, hi, hy, H⟩
    · have := ready_mono hj hji
      rw [H.1] at this
      cases this
  | succ fuel ih =>
    intro listed a hfree hr hy H
    refine ⟨fun h => (by rw [h] at hr; cases hr), fun j hj => ?_⟩
    by_cases hji : j = i
    · subst hji; exact ⟨oi, v, hi, hy, H⟩
    · obtain ⟨oj, u, hoj, hyj, hnj⟩ := H.2 j (ready_mono hj hji)
      obtain ⟨hjun, oj', hoj', hall⟩ := mem_ready.1 hj
      obtain rfl : oj' = oj := Option.some.inj (hoj'.symm.trans hoj)
      have hnot : ∀ e ∈ oj'.after, Region.binds md e = true → e.on ≠ i := fun e he hb heq => by
        have h1 := hall e he hb
        have h0 := (mem_ready.1 hr).1
        rw [heq] at h1
        rcases Nat.lt_or_ge i listed.size with h' | h'
        · simp [h'] at h0 h1; rw [h0] at h1; cases h1
        · simp [Array.getElem?_eq_none h'] at h1
      have hap := hfree j oj' hoj hji hjun hnot
      obtain ⟨h1, h2, h3⟩ := Oper.apart_spec hap
      have hsi : ∀ cs b, oi.op ≠ .select cs b := fun cs b => hsel i oi cs b hi
      have hsj : ∀ cs b, oj'.op ≠ .select cs b := fun cs b => hsel j oj' cs b hoj
      have hyj' : YieldsS P ops S oj' u a := hyj.of_same (execOp_put oj' hsj a oi.dst v h1).symm (wanted_put oj' a oi.dst v h1).symm
      have hyi' : YieldsS P ops S oi v (a.put oj'.dst u) := hy.of_same (execOp_put oi hsi a oj'.dst u h3) (wanted_put oi a oj'.dst u h3)
      have hfree' : ∀ k ok, ops[k]? = some ok → k ≠ i → (listed.setIfInBounds j true).getD k true = false →
          (∀ e ∈ ok.after, Region.binds md e = true → e.on ≠ i) → oi.apart ops ok = true := fun k ok hk hki hun hno => by
        refine hfree k ok hk hki ?_ hno
        by_cases hjk : j = k
        · subst hjk; exact hjun
        · rw [getD_set_ne true hjk] at hun; exact hun
      refine ⟨oj', u, hoj, hyj', ih (listed.setIfInBounds j true) (a.put oj'.dst u) hfree' (ready_mono hr (Ne.symm hji)) hyi' ?_⟩
      rw [Array.setIfInBounds_comm _ _ hji, ← Act.put_comm a v u h2]
      exact hnj
/-- The text's order may be walked: each operation waits only for those ahead of it, and is apart from those behind it that do not wait for it. -/
def lexQ (md : Region.Mode) (ops : Array Oper) : Nat → List Oper → Bool
  | _, [] => true
  | k, o :: rest => o.after.toList.all (fun e => !Region.binds md e || Nat.blt e.on k) && rest.all (fun oj => oj.after.toList.any (fun e => Region.binds md e && Nat.beq e.on k) || o.apart ops oj) && lexQ md ops (k + 1) rest
/-- The first k are done, no other. -/
def Done (n k : Nat) (listed : Array Bool) : Prop := listed.size = n ∧ (∀ j, j < k → listed.getD j false = true) ∧ ∀ j, k ≤ j → j < n → listed.getD j true = false
theorem Done.start (n : Nat) : Done n 0 (Array.replicate n false) := ⟨by simp, fun j h => absurd h (Nat.not_lt_zero _), fun j _ h => by simp [Array.getD, h]⟩
theorem Done.next {n k : Nat} {listed : Array Bool} (h : Done n k listed) (hk : k < n) : Done n (k + 1) (listed.setIfInBounds k true) := by
  obtain ⟨h1, h2, h3⟩ := h
  refine ⟨by simp [h1], fun j hj => ?_, fun j hj hn => ?_⟩
  · by_cases e : j = k
    · subst e; simp [Array.getD, h1, hk]
    · exact getD_set_true (h2 j (by omega))
  · rw [getD_set_ne true (by omega)]
    exact h3 j (by omega) hn
theorem Done.old {n k j : Nat} {listed : Array Bool} (h : Done n k listed) (hk : k ≤ n) (hj : listed.getD j true = false) : k ≤ j := by
  obtain ⟨h1, h2, h3⟩ := h
  rcases Nat.lt_or_ge j k with g | g
  · have := h2 j g
    have hs : j < listed.size := by omega
    simp [Array.getD, hs] at this hj
    rw [this] at hj
    cases hj
  · exact g
theorem wpAnyD_lexQ {Q : Act → Prop} (hs : Region.noSelect ops = true) : ∀ (l : List Oper) (k : Nat) (listed : Array Bool) (a : Act), ops.toList.drop k = l → Done ops.size k listed → k ≤ ops.size →
    lexQ md ops k l = true → wpHeldS P ops S Q l a → wpAnyD P md ops S Q l.length listed a
  | [], k, listed, a, hl, hD, hk, _, h => by
    refine ⟨?_, h⟩
    have hk' : k = ops.size := by
      have := congrArg List.length hl
      simp at this
      omega
    subst hk'
    apply List.eq_nil_iff_forall_not_mem.2
    intro j hj
    obtain ⟨h0, o, ho, _⟩ := mem_ready.1 hj
    have := hD.old (Nat.le_refl _) h0
    rw [Array.getElem?_eq_none this] at ho
    cases ho
  | o :: l, k, listed, a, hl, hD, hk, hB, h => by
    have hkn : k < ops.size := by
      have := congrArg List.length hl
      simp at this
      omega
    have h0 : ops[k]? = some o := by
      have : (ops.toList.drop k)[0]? = some o := by rw [hl]; rfl
      rw [List.getElem?_drop] at this
      simpa using this
    have hl' : ops.toList.drop (k + 1) = l := by
      rw [← List.drop_drop, hl]; rfl
    simp only [lexQ, Bool.and_eq_true] at hB
    obtain ⟨⟨hr, hf⟩, hB'⟩ := hB
    obtain ⟨v, hy, hK⟩ := h
    refine wpAnyD_first h0 (Region.noSelect_spec hs) l.length listed a (fun j oj hoj hne hun hno => ?_) (mem_ready.2 ⟨hD.2.2 k (Nat.le_refl _) hkn, o, h0, fun e he hb => ?_⟩) hy
      (wpAnyD_lexQ hs l (k + 1) _ _ hl' (hD.next hkn) hkn hB' hK)
    · have hj := hD.old hk hun
      have hmem : oj ∈ l := by
        rw [← hl']
        refine List.mem_of_getElem? (i := j - (k + 1)) ?_
        rw [List.getElem?_drop, show k + 1 + (j - (k + 1)) = j by omega]
        simpa using hoj
      have := List.all_eq_true.1 hf oj hmem
      rw [Bool.or_eq_true] at this
      rcases this with g | g
      · obtain ⟨e, he, g⟩ := List.any_eq_true.1 g
        rw [Bool.and_eq_true] at g
        exact absurd (Nat.eq_of_beq_eq_true g.2) (hno e (by simpa using he) g.1)
      · exact g
    · have := List.all_eq_true.1 hr e (by simpa using he)
      rw [hb] at this
      have g : Nat.blt e.on k = true := by simpa using this
      exact hD.2.1 _ (Nat.le_of_ble_eq_true g)
theorem wp_region_heldS {id : Nat} {Q : Exit → Act → World → Prop} {a : Act} {w : World} {l : List Oper} (S : World → Prop) (hm : P.follows .mixedOrders = true) (hs : Region.noSelect l.toArray = true) (hB : lexQ .any l.toArray 0 l = true) (hS : S w.drew)
    (h : wpHeldS P l.toArray S (fun a' => ∀ w', S w' → Q .normal a' w') l a) : (Code.region id l.toArray true).wp P Q a w := by
  refine wp_region_any hm (wpAny_of_D (S := S) (Q := fun a' => ∀ w', S w' → Q .normal a' w') (fun _ h => h) _ _ _ _ hS ?_)
  have := wpAnyD_lexQ (md := .any) hs l 0 (Array.replicate l.toArray.size false) a (by simp) (Done.start _) (Nat.zero_le _) hB h
  simpa using this
end
end Go.Proofs.Ytkglkpcpgdeneaa
