/- HeldM with writes that end what is known for reads (those of Bk), some orders laid, others walked each. No program in sight. Conditions: none. -/
import Derived.Test.YtbkpjjibgnachaaHeldM
namespace Go.Proofs.Ytbkpjjibgnachaa
open Go.RowKit
section
variable {P : Program} {ops : Array Oper} {md : Region.Mode} {Bk : List Nat}

theorem givesM.weak {D D' : World → Prop} {o : Oper} {u : Value} {a : Act} (h : givesM P ops D o a u) (hd : ∀ w, D' w → D w) : givesM P ops D' o a u :=
  h.imp id fun ⟨h1, h2⟩ => ⟨h1, fun w hw => h2 w (hd w hw)⟩
def stepB (P : Program) (ops : Array Oper) (Bk : List Nat) (D S : World → Prop) (i : Nat) (o : Oper) (a : Act) (K : (World → Prop) → (World → Prop) → Act → Prop) : Prop :=
  (∃ u, givesM P ops D o a u ∧ K D S (a.put o.dst u)) ∨
  (Region.wanted o (yielded ops a.tmps) = true ∧ ∃ V : Value → World → Prop, (∀ w, D w → S w → gotAt P (fun _ w' => D w') o a w V) ∧ ∀ v, K D (V v) (a.put o.dst v)) ∨
  (Bk.contains i = true ∧ Region.wanted o (yielded ops a.tmps) = true ∧ ∃ V : Value → World → Prop, (∀ w, D w → S w → gotAt P (fun _ _ => True) o a w V) ∧ ∀ v, K (fun _ => True) (V v) (a.put o.dst v))
theorem stepB_of_same {D S : World → Prop} {i : Nat} {o : Oper} {a a' : Act} {K : (World → Prop) → (World → Prop) → Act → Prop} (he : execOp a'.eval o = execOp a.eval o)
    (hw : Region.wanted o (yielded ops a'.tmps) = Region.wanted o (yielded ops a.tmps)) (hs : stepB P ops Bk D S i o a K) {K' : (World → Prop) → (World → Prop) → Act → Prop}
    (hk : ∀ D' S' u, (D' = D ∨ (Bk.contains i = true ∧ D' = fun _ => True)) → K D' S' (a.put o.dst u) → K' D' S' (a'.put o.dst u)) : stepB P ops Bk D S i o a' K' := by
  rcases hs with ⟨u, h1, h2⟩ | ⟨h1, V, h3, h4⟩ | ⟨h0, h1, V, h3, h4⟩
  · exact .inl ⟨u, h1.of_same he hw, hk _ _ _ (.inl rfl) h2⟩
  · refine .inr (.inl ⟨by rw [hw]; exact h1, V, ?_, fun v => hk _ _ _ (.inl rfl) (h4 v)⟩)
    unfold gotAt at *
    rw [he]
    exact h3
  · refine .inr (.inr ⟨h0, by rw [hw]; exact h1, V, ?_, fun v => hk _ _ _ (.inr ⟨h0, rfl⟩) (h4 v)⟩)
    unfold gotAt at *
    rw [he]
    exact h3
def heldB (P : Program) (md : Region.Mode) (ops : Array Oper) (Bk : List Nat) (Q : Exit → Act → World → Prop) : Nat → (World → Prop) → (World → Prop) → Array Bool → Act → Prop
  | 0, D, S, listed, a => Region.ready md ops listed = [] ∧ ∀ w, D w → S w → Q .normal a w
  | fuel + 1, D, S, listed, a => (Region.ready md ops listed = [] → ∀ w, D w → S w → Q .normal a w) ∧
    ∀ i ∈ Region.ready md ops listed, ∃ o, ops[i]? = some o ∧ stepB P ops Bk D S i o a fun D' S' a' => heldB P md ops Bk Q fuel D' S' (listed.setIfInBounds i true) a'
theorem wpAny_of_B {Q : Exit → Act → World → Prop} : ∀ (fuel : Nat) (D S : World → Prop) (listed : Array Bool) (a : Act) (w : World), D w → S w → heldB P md ops Bk Q fuel D S listed a → wpAny P md ops Q fuel listed a w
  | 0, _, _, _, _, _, hD, hS, h => ⟨h.1, h.2 _ hD hS⟩
  | fuel + 1, D, S, listed, a, w, hD, hS, h => ⟨fun h0 => h.1 h0 _ hD hS, fun i hi => by
      obtain ⟨o, ho, hst⟩ := h.2 i hi
      unfold Go.wpOp
      simp only [ho]
      rcases hst with ⟨u, ⟨h1, rfl⟩ | ⟨h1, h2⟩, h3⟩ | ⟨h1, V, h3, h4⟩ | ⟨_, h1, V, h3, h4⟩
      · simp only [h1, Bool.false_eq_true, if_false]
        exact wpAny_of_B fuel _ _ _ _ w hD hS h3
      · simp only [h1, if_true]
        have hg : gotAt P (fun w w' => w' = w) o a w (fun v _ => v = u) := by unfold gotAt; rw [h2 w hD]; exact ⟨rfl, rfl⟩
        refine .inl (got_wp hg fun v w' ht hv => ?_)
        subst hv ht
        exact wpAny_of_B fuel _ _ _ _ _ hD hS h3
      · simp only [h1, if_true]
        refine .inl (got_wp (h3 w hD hS) fun v w' ht hv => ?_)
        exact wpAny_of_B fuel _ _ _ _ w' ht hv (h4 v)
      · simp only [h1, if_true]
        refine .inl (got_wp (h3 w hD hS) fun v w' _ hv => ?_)
        exact wpAny_of_B fuel _ _ _ _ w' trivial hv (h4 v)⟩
theorem heldB_first {Q : Exit → Act → World → Prop} {i : Nat} {oi : Oper} {u : Value} (hi : ops[i]? = some oi) (hsel : ∀ (j : Nat) (o : Oper) cs b, ops[j]? = some o → o.op ≠ .select cs b) :
    ∀ (fuel : Nat) (D S : World → Prop) (listed : Array Bool) (a : Act),
      ((∀ j, Bk.contains j = true → Region.waitsFor md ops j i = true) ∨ givesM P ops (fun _ => True) oi a u) →
      (∀ j oj, ops[j]? = some oj → j ≠ i → listed.getD j true = false → (∀ e ∈ oj.after, Region.binds md e = true → e.on ≠ i) → oi.apart ops oj = true) →
      i ∈ Region.ready md ops listed → givesM P ops D oi a u →
      heldB P md ops Bk Q fuel D S (listed.setIfInBounds i true) (a.put oi.dst u) → heldB P md ops Bk Q (fuel + 1) D S listed a := by
  intro fuel
  induction fuel with
  | zero =>
    intro D S listed a _ _ hr hy H
    refine ⟨fun h => (by rw [h] at hr; cases hr), fun j hj => ?_⟩
    by_cases hji : j = i
    · subst hji; exact ⟨oi, hi, .inl ⟨u, hy, H⟩⟩
    · have := ready_mono hj hji
      rw [H.1] at this
      cases this
  | succ fuel ih =>
    intro D S listed a hbk hfree hr hy H
    refine ⟨fun h => (by rw [h] at hr; cases hr), fun j hj => ?_⟩
    by_cases hji : j = i
    · subst hji; exact ⟨oi, hi, .inl ⟨u, hy, H⟩⟩
    · obtain ⟨oj, hoj, hst⟩ := H.2 j (ready_mono hj hji)
      obtain ⟨hjun, oj', hoj', hall⟩ := mem_ready.1 hj
      obtain rfl : oj' = oj := Option.some.inj (hoj'.symm.trans hoj)
      have hnot : ∀ e ∈ oj'.after, Region.binds md e = true → e.on ≠ i := fun e he hb heq => by
        have h1 := hall e he hb
        rw [heq, getD_both (mem_ready.1 hr).1] at h1
        cases h1
      have hap := hfree j oj' hoj hji hjun hnot
      obtain ⟨h1, h2, h3⟩ := Oper.apart_spec hap
      have hsi : ∀ cs b, oi.op ≠ .select cs b := fun cs b => hsel i oi cs b hi
      have hsj : ∀ cs b, oj'.op ≠ .select cs b := fun cs b => hsel j oj' cs b hoj
      have hfree' : ∀ k ok, ops[k]? = some ok → k ≠ i → (listed.setIfInBounds j true).getD k true = false →
          (∀ e ∈ ok.after, Region.binds md e = true → e.on ≠ i) → oi.apart ops ok = true := fun k ok hk hki hun hno => by
        refine hfree k ok hk hki ?_ hno
        by_cases hjk : j = k
        · subst hjk; exact hjun
        · rw [getD_set_ne true hjk] at hun; exact hun
      have hsame : ∀ v, givesM P ops (fun _ => True) oi a u → givesM P ops (fun _ => True) oi (a.put oj'.dst v) u := fun v hy => hy.of_same (execOp_put oi hsi a oj'.dst v h3) (wanted_put oi a oj'.dst v h3)
      refine ⟨oj', hoj, stepB_of_same (execOp_put oj' hsj a oi.dst u h1).symm (wanted_put oj' a oi.dst u h1).symm hst fun D' S' v hD' hK => ?_⟩
      have hy' : givesM P ops D' oi a u := by
        rcases hD' with rfl | ⟨hjb, rfl⟩
        · exact hy
        · rcases hbk with hbk | hbk
          · obtain ⟨o', ho', e, he, hb, hon⟩ := Region.waitsFor_spec (hbk j hjb)
            obtain rfl : o' = oj' := Option.some.inj (ho'.symm.trans hoj)
            exact absurd hon (hnot e he hb)
          · exact hbk
      refine ih D' S' (listed.setIfInBounds j true) (a.put oj'.dst v) (hbk.imp id (hsame v)) hfree' (ready_mono hr (Ne.symm hji)) (hy'.of_same (execOp_put oi hsi a oj'.dst v h3) (wanted_put oi a oj'.dst v h3)) ?_
      rw [Array.setIfInBounds_comm _ _ hji, ← Act.put_comm a u v h2]
      exact hK
/-- The walk along a list of places, then K: pure operations; reads (R: all of Bk wait for these); moves (M: nothing else is ready there). -/
def wpB (P : Program) (ops : Array Oper) (Bk R M : List Nat) (K : (World → Prop) → (World → Prop) → Act → Prop) : (World → Prop) → (World → Prop) → List (Nat × Oper) → Act → Prop
  | D, S, [], a => K D S a
  | D, S, (k, o) :: rest, a => (M.contains k = false ∧ ∃ u, givesM P ops (fun _ => True) o a u ∧ wpB P ops Bk R M K D S rest (a.put o.dst u)) ∨
    (R.contains k = true ∧ M.contains k = false ∧ ∃ u, givesM P ops D o a u ∧ wpB P ops Bk R M K D S rest (a.put o.dst u)) ∨
    (M.contains k = true ∧ stepB P ops Bk D S k o a fun D' S' a' => wpB P ops Bk R M K D' S' rest a')
def listedBy (order : List Nat) (listed : Array Bool) : Array Bool := order.foldl (fun l k => l.setIfInBounds k true) listed
def lexB (md : Region.Mode) (ops : Array Oper) (Bk R M : List Nat) : List Nat → Array Bool → Bool
  | [], _ => true
  | k :: r, listed => (Region.ready md ops listed).contains k && (M.contains k || Region.free md ops listed k) && (!R.contains k || Bk.all (fun j => Region.waitsFor md ops j k)) && (!M.contains k || decide (Region.ready md ops listed = [k])) && lexB md ops Bk R M r (listed.setIfInBounds k true)
theorem heldB_order {Q : Exit → Act → World → Prop} {R M : List Nat} {g : Nat} (hsel : Region.noSelect ops = true) :
    ∀ (ro : List (Nat × Oper)) (D S : World → Prop) (listed : Array Bool) (a : Act), (∀ p ∈ ro, ops[p.1]? = some p.2) →
    lexB md ops Bk R M (ro.map (·.1)) listed = true → wpB P ops Bk R M (fun D' S' a' => heldB P md ops Bk Q g D' S' (listedBy (ro.map (·.1)) listed) a') D S ro a → heldB P md ops Bk Q (ro.length + g) D S listed a
  | [], D, S, listed, a, _, _, h => by simpa [wpB, listedBy] using h
  | (k, o) :: r, D, S, listed, a, hl, hB, h => by
    have h0 : ops[k]? = some o := hl (k, o) (List.mem_cons_self ..)
    simp only [List.map_cons, lexB, Bool.and_eq_true] at hB
    obtain ⟨⟨⟨⟨hr, hf⟩, hR⟩, hM⟩, hB'⟩ := hB
    have hr' : k ∈ Region.ready md ops listed := by simpa using hr
    have go : ∀ D' S' a', wpB P ops Bk R M (fun D' S' a' => heldB P md ops Bk Q g D' S' (listedBy (r.map (·.1)) (listed.setIfInBounds k true)) a') D' S' r a' → heldB P md ops Bk Q (r.length + g) D' S' (listed.setIfInBounds k true) a' := fun D' S' a' hw =>
      heldB_order hsel r D' S' _ _ (fun p hp => hl p (List.mem_cons_of_mem _ hp)) hB' hw
    rw [show ((k, o) :: r).length + g = (r.length + g) + 1 by simp only [List.length_cons]; omega]
    rcases h with ⟨hMk, u, hy, hK⟩ | ⟨hRk, hMk, u, hy, hK⟩ | ⟨hMk, hst⟩
    · rw [hMk] at hf
      exact heldB_first h0 (Region.noSelect_spec hsel) (r.length + g) D S listed a (.inr hy) (Region.free_spec h0 (by simpa using hf)) hr' (hy.weak fun _ _ => trivial) (go D S _ hK)
    · rw [hMk] at hf
      rw [hRk] at hR
      exact heldB_first h0 (Region.noSelect_spec hsel) (r.length + g) D S listed a (.inl fun j hj => List.all_eq_true.1 (by simpa using hR) j (by simpa using hj)) (Region.free_spec h0 (by simpa using hf)) hr' hy (go D S _ hK)
    · rw [hMk] at hM
      have hN' : Region.ready md ops listed = [k] := by simpa using hM
      refine ⟨fun hh => (by rw [hh] at hr'; cases hr'), fun j hj => ?_⟩
      obtain rfl : j = k := by rw [hN'] at hj; simpa using hj
      exact ⟨o, h0, stepB_of_same rfl rfl hst fun D' S' u _ hw => go D' S' _ hw⟩
theorem wp_region_B {id : Nat} {Q : Exit → Act → World → Prop} {a : Act} {w : World} {l : List Oper} (Bk : List Nat) (D S : World → Prop) (hm : P.follows .mixedOrders = true) (hD : D w.drew) (hS : S w.drew)
    (h : heldB P .any l.toArray Bk Q l.length D S (Array.replicate l.length false) a) : (Code.region id l.toArray true).wp P Q a w := by
  refine wp_region_any hm ?_
  have := wpAny_of_B (Q := Q) _ _ _ _ _ _ hD hS h
  simpa using this
end
section
variable {P : Program} {l : List Oper} {md : Region.Mode} {Bk : List Nat} {Q : Exit → Act → World → Prop} {D S : World → Prop} {listed : Array Bool} {a : Act}
/-- The next ones, in this order; g are left behind these. -/
theorem heldB_along {f : Nat} (z : Oper) (order R M : List Nat) (g : Nat) (hf : f = order.length + g) (hB : (Region.noSelect l.toArray && lexB md l.toArray Bk R M order listed && order.all (fun i => Nat.blt i l.length)) = true)
    (h : wpB P l.toArray Bk R M (fun D' S' a' => heldB P md l.toArray Bk Q g D' S' (listedBy order listed) a') D S (order.map fun i => (i, l.getD i z)) a) : heldB P md l.toArray Bk Q f D S listed a := by
  simp only [Bool.and_eq_true] at hB
  obtain ⟨⟨hsel, hlex⟩, hb⟩ := hB
  have hid : (order.map fun i => (i, l.getD i z)).map (·.1) = order := by
    rw [List.map_map, show ((fun p : Nat × Oper => p.1) ∘ fun i => (i, l.getD i z)) = (_root_.id : Nat → Nat) from rfl, List.map_id]
  have H := heldB_order (P := P) (md := md) (Q := Q) (Bk := Bk) (R := R) (M := M) (g := g) hsel (order.map fun i => (i, l.getD i z)) D S listed a (fun p hp => by
      obtain ⟨i, hi, rfl⟩ := List.mem_map.1 hp
      have h1 : i < l.length := Nat.le_of_ble_eq_true (List.all_eq_true.1 hb i hi)
      simp [List.getD, h1]) (by rw [hid]; exact hlex) (by rw [hid]; exact h)
  rw [List.length_map] at H
  rw [hf]
  exact H
/-- Any of these may be next. -/
theorem heldB_by {ops : Array Oper} {f : Nat} (is : List Nat) (hr : Region.ready md ops listed = is) (h0 : is ≠ []) (h : ∀ i ∈ is, ∃ o, ops[i]? = some o ∧ stepB P ops Bk D S i o a fun D' S' a' => heldB P md ops Bk Q f D' S' (listed.setIfInBounds i true) a') : heldB P md ops Bk Q (f + 1) D S listed a :=
  ⟨fun he => absurd (hr.symm.trans he) h0, fun i hi => h i (by rw [← hr]; exact hi)⟩
theorem heldB_by2 {f : Nat} (z : Oper) (is : List Nat) (hr : Region.ready md l.toArray listed = is) (h0 : is ≠ []) (hb : is.all (fun i => Nat.blt i l.length) = true) (h : ∀ i ∈ is, stepB P l.toArray Bk D S i (l.getD i z) a fun D' S' a' => heldB P md l.toArray Bk Q f D' S' (listed.setIfInBounds i true) a') : heldB P md l.toArray Bk Q (f + 1) D S listed a :=
  heldB_by is hr h0 fun i hi => ⟨_, by
    have h1 : i < l.length := Nat.le_of_ble_eq_true (List.all_eq_true.1 hb i hi)
    simp [List.getD, h1], h i hi⟩
theorem heldB_end {ops : Array Oper} (hr : Region.ready md ops listed = []) (h : ∀ w, D w → S w → Q .normal a w) : heldB P md ops Bk Q 0 D S listed a := ⟨hr, h⟩
variable {ops : Array Oper} {R M : List Nat} {K : (World → Prop) → (World → Prop) → Act → Prop} {k : Nat} {o : Oper} {rest : List (Nat × Oper)}
theorem wpB_nil (h : K D S a) : wpB P ops Bk R M K D S [] a := h
theorem wpB_pure {v : Value} (hM : M.contains k = false) (hw : Region.wanted o (yielded ops a.tmps) = true) (h : ∀ w, (execOp a.eval o).run P w = .ok (.value v) w) (hn : wpB P ops Bk R M K D S rest (a.put o.dst v)) : wpB P ops Bk R M K D S ((k, o) :: rest) a :=
  .inl ⟨hM, v, .inr ⟨hw, fun w _ => h w⟩, hn⟩
theorem wpB_skip (hM : M.contains k = false) (hw : Region.wanted o (yielded ops a.tmps) = false) (hn : wpB P ops Bk R M K D S rest (a.put o.dst undef)) : wpB P ops Bk R M K D S ((k, o) :: rest) a :=
  .inl ⟨hM, undef, .inl ⟨hw, rfl⟩, hn⟩
theorem wpB_read {v : Value} (hR : R.contains k = true) (hM : M.contains k = false) (hw : Region.wanted o (yielded ops a.tmps) = true) (h : ∀ w, D w → (execOp a.eval o).run P w = .ok (.value v) w) (hn : wpB P ops Bk R M K D S rest (a.put o.dst v)) : wpB P ops Bk R M K D S ((k, o) :: rest) a :=
  .inr (.inl ⟨hR, hM, v, .inr ⟨hw, h⟩, hn⟩)
theorem wpB_move (hM : M.contains k = true) (h : stepB P ops Bk D S k o a fun D' S' a' => wpB P ops Bk R M K D' S' rest a') : wpB P ops Bk R M K D S ((k, o) :: rest) a :=
  .inr (.inr ⟨hM, h⟩)
theorem stepB_move {i : Nat} (V : Value → World → Prop) (hw : Region.wanted o (yielded ops a.tmps) = true) (hc : ∀ w, D w → S w → gotAt P (fun _ w' => D w') o a w V) (hn : ∀ v, K D (V v) (a.put o.dst v)) : stepB P ops Bk D S i o a K :=
  .inr (.inl ⟨hw, V, hc, hn⟩)
theorem stepB_break {i : Nat} (V : Value → World → Prop) (hb : Bk.contains i = true) (hw : Region.wanted o (yielded ops a.tmps) = true) (hc : ∀ w, D w → S w → gotAt P (fun _ _ => True) o a w V) (hn : ∀ v, K (fun _ => True) (V v) (a.put o.dst v)) : stepB P ops Bk D S i o a K :=
  .inr (.inr ⟨hb, hw, V, hc, hn⟩)
theorem got_skip {T : World → World → Prop} {w w' : World} {V : Value → World → Prop} (hr : (execOp a.eval o).run P w = .ok .skip w') (h : T w w' ∧ V undef w') : gotAt P T o a w V := by
  unfold gotAt
  rw [hr]
  exact h
theorem got_val {T : World → World → Prop} {w w' : World} {v : Value} {V : Value → World → Prop} (hr : (execOp a.eval o).run P w = .ok (.value v) w') (h : T w w' ∧ V v w') : gotAt P T o a w V := by
  unfold gotAt
  rw [hr]
  exact h
end
end Go.Proofs.Ytbkpjjibgnachaa
