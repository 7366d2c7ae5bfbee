/- HeldG along any order that is laid: for a region where what answers freely has to wait behind a few reads. No program in sight. Conditions: none. -/
import Derived.Test.YtbkpjjibgnachaaHeldG
import Derived.StillTail
namespace Go.Proofs.Ytbkpjjibgnachaa
open Go.RowKit
section
variable {P : Program} {ops : Array Oper} {md : Region.Mode} {T : World → World → Prop}

/-- The walk along a list of places; at those of N an operation may yield whatever V says. -/
def wpO (P : Program) (ops : Array Oper) (T : World → World → Prop) (Q : Exit → Act → World → Prop) (N : List Nat) : (World → Prop) → List (Nat × Oper) → Act → Prop
  | S, [], a => ∀ w, S w → Q .normal a w
  | S, (k, o) :: rest, a => (∃ u, givesG P ops T S o a u ∧ wpO P ops T Q N S rest (a.put o.dst u)) ∨
    (N.contains k = true ∧ Region.wanted o (yielded ops a.tmps) = true ∧ ∃ V : Value → World → Prop, (∀ v, Stays T (V v)) ∧ (∀ w, S w → gotAt P T o a w V) ∧ ∀ v, wpO P ops T Q N (fun w => S w ∧ V v w) rest (a.put o.dst v))
def lexO (md : Region.Mode) (ops : Array Oper) (N : List Nat) : List Nat → Array Bool → Bool
  | [], listed => (Region.ready md ops listed).isEmpty
  | k :: r, listed => (Region.ready md ops listed).contains k && Region.free md ops listed k && (!N.contains k || decide (Region.ready md ops listed = [k])) && lexO md ops N r (listed.setIfInBounds k true)
theorem heldG_order {Q : Exit → Act → World → Prop} {N : List Nat} (hsel : Region.noSelect ops = true) :
    ∀ (ro : List (Nat × Oper)) (S : World → Prop) (listed : Array Bool) (a : Act), (∀ p ∈ ro, ops[p.1]? = some p.2) →
    lexO md ops N (ro.map (·.1)) listed = true → wpO P ops T Q N S ro a → heldG P md ops T Q ro.length S listed a
  | [], S, listed, a, _, hB, h => ⟨by simpa [lexO] using hB, h⟩
  | (k, o) :: r, S, listed, a, hl, hB, h => by
    have h0 : ops[k]? = some o := hl (k, o) (List.mem_cons_self ..)
    simp only [List.map_cons, lexO, Bool.and_eq_true] at hB
    obtain ⟨⟨⟨hr, hf⟩, hN⟩, hB'⟩ := hB
    have hr' : k ∈ Region.ready md ops listed := by simpa using hr
    have go : ∀ S' v, wpO P ops T Q N S' r (a.put o.dst v) → heldG P md ops T Q r.length S' (listed.setIfInBounds k true) (a.put o.dst v) := fun S' v hw =>
      heldG_order hsel r S' _ _ (fun p hp => hl p (List.mem_cons_of_mem _ hp)) hB' hw
    rcases h with ⟨u, hy, hK⟩ | ⟨hc', hw, V, h2, h3, h4⟩
    · exact heldG_first h0 (Region.noSelect_spec hsel) r.length S listed a (Region.free_spec h0 hf) hr' hy (go S u hK)
    · rw [hc'] at hN
      have hN' : Region.ready md ops listed = [k] := by simpa using hN
      refine ⟨fun hh => (by rw [hh] at hr'; cases hr'), fun j hj => ?_⟩
      obtain rfl : j = k := by rw [hN'] at hj; simpa using hj
      exact ⟨o, h0, .inr ⟨hw, V, h2, h3, fun v => go _ v (h4 v)⟩⟩
theorem wp_region_O {id : Nat} {Q : Exit → Act → World → Prop} {a : Act} {w : World} {l : List Oper} (z : Oper) (order N : List Nat) (T : World → World → Prop) (S : World → Prop) (hm : P.follows .mixedOrders = true) (hs : Region.noSelect l.toArray = true)
    (hB : (lexO .any l.toArray N order (Array.replicate l.toArray.size false) && (order.all (fun i => Nat.blt i l.length)) && Nat.beq order.length l.length) = true) (hR : ∀ w, T w w) (hT : Stays T S) (hS : S w.drew)
    (h : wpO P l.toArray T Q N S (order.map fun i => (i, l.getD i z)) a) : (Code.region id l.toArray true).wp P Q a w := by
  simp only [Bool.and_eq_true] at hB
  obtain ⟨⟨hB, hb⟩, hn⟩ := hB
  refine wp_region_any hm (wpAny_of_G _ S _ _ _ hT hS hR ?_)
  have hn' : order.length = l.length := Nat.eq_of_beq_eq_true hn
  have := heldG_order (P := P) (md := .any) (T := T) (Q := Q) (N := N) hs (order.map fun i => (i, l.getD i z)) S (Array.replicate l.toArray.size false) a (fun p hp => by
    obtain ⟨i, hi, rfl⟩ := List.mem_map.1 hp
    have h1 : i < l.length := Nat.le_of_ble_eq_true (List.all_eq_true.1 hb i hi)
    simp [List.getD, h1]) (by
    rw [List.map_map, show ((fun p : Nat × Oper => p.1) ∘ fun i => (i, l.getD i z)) = (_root_.id : Nat → Nat) from rfl, List.map_id]
    exact hB) h
  rw [List.length_map, hn'] at this
  simpa using this
end
section
variable {P : Program} {ops : Array Oper} {Q : Exit → Act → World → Prop} {N : List Nat} {k : Nat} {S : World → Prop} {o : Oper} {rest : List (Nat × Oper)} {a : Act}
theorem wpO_nil {T : World → World → Prop} (h : ∀ w, S w → Q .normal a w) : wpO P ops T Q N S [] a := h
theorem wpO_skip {T : World → World → Prop} (hw : Region.wanted o (yielded ops a.tmps) = false) (hn : wpO P ops T Q N S rest (a.put o.dst undef)) : wpO P ops T Q N S ((k, o) :: rest) a :=
  .inl ⟨undef, .inl ⟨hw, rfl⟩, hn⟩
theorem wpO_val {v : Value} (hw : Region.wanted o (yielded ops a.tmps) = true) (h : ∀ w, S w → (execOp a.eval o).run P w = .ok (.value v) w) (hn : wpO P ops Anew Q N S rest (a.put o.dst v)) : wpO P ops Anew Q N S ((k, o) :: rest) a :=
  .inl ⟨v, .inr ⟨hw, fun w hS => by unfold gotAt; rw [h w hS]; exact ⟨Anew.refl w, rfl⟩⟩, hn⟩
theorem wpO_call {v : Value} {f : FuncId} {args : Array Value} (hw : Region.wanted o (yielded ops a.tmps) = true) (h : ∀ w, (execOp a.eval o).run P w = .ok (.enter f args) w) (hc : ∀ w, S w → Calls P f args w (fun e w'' => e = .returned v ∧ Anew w w''))
    (hn : wpO P ops Anew Q N S rest (a.put o.dst v)) : wpO P ops Anew Q N S ((k, o) :: rest) a :=
  .inl ⟨v, .inr ⟨hw, fun w hS => by unfold gotAt; rw [h w]; exact (hc w hS).mono fun e w' ⟨h1, h2⟩ => ⟨v, h1, h2, rfl⟩⟩, hn⟩
/-- A call that answers whatever V says. -/
theorem wpO_some {f : FuncId} {args : Array Value} (V : Value → World → Prop) (hN : N.contains k = true) (hw : Region.wanted o (yielded ops a.tmps) = true) (h : ∀ w, (execOp a.eval o).run P w = .ok (.enter f args) w) (hV : ∀ v, Stays Anew (V v))
    (hc : ∀ w, S w → Calls P f args w (fun e w'' => ∃ v, e = .returned v ∧ Anew w w'' ∧ V v w''))
    (hn : ∀ v, wpO P ops Anew Q N (fun w => S w ∧ V v w) rest (a.put o.dst v)) : wpO P ops Anew Q N S ((k, o) :: rest) a :=
  .inr ⟨hN, hw, V, hV, fun w hS => by unfold gotAt; rw [h w]; exact hc w hS, hn⟩
end
end Go.Proofs.Ytbkpjjibgnachaa
