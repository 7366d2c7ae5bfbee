/- A map from ints to pointers that lies in a block of the call's own, by its list of entries: looked up, one key added, one key dropped. Conditions: none. -/
import Derived.Test.YtkglkpcpgdeneaaBase
import Derived.Maps.OwnOps
import Derived.Maps.OwnSet
namespace Go.Proofs.Ytkglkpcpgdeneaa
open Go.RowKit
open Go.ChangeMaps (setBlock)

/-- Block b: a map of ints to these values, in this order. -/
def MapB (w : World) (b : Nat) (L : List (Int × Value)) : Prop :=
  ∃ es clock, w.heap[b]? = some (.map es clock) ∧ es.toList.map (fun e => (e.key, e.val)) = L.map fun p => (Value.int .i64 p.1, p.2)
theorem MapB.lt {w : World} {b : Nat} {L : List (Int × Value)} (h : MapB w b L) : b < w.heap.size := by
  obtain ⟨es, c, h, _⟩ := h
  exact (Array.getElem?_eq_some_iff.1 h).1
theorem MapB.keep {w w' : World} {b : Nat} {L : List (Int × Value)} (h : MapB w b L) {F : Nat → Prop} (k : Keep F w w') (hn : ¬ F b) : MapB w' b L := by
  have hl := h.lt
  obtain ⟨es, c, h, e⟩ := h
  exact ⟨es, c, (k.block b hl hn).trans h, e⟩
theorem MapB.made (w : World) : MapB (w.alloc (.map #[] 0)) w.heap.size [] := ⟨#[], 0, heap_alloc_eq w _, rfl⟩

def seek (k : Int) : List (Int × Value) → Nat → Option (Nat × Value)
  | [], _ => none
  | p :: r, i => if k == p.1 then some (i, p.2) else seek k r (i + 1)
theorem seek_find (k : Int) : ∀ (L : List (Int × Value)) (i : Nat), match L.find? (fun p => p.1 == k) with
    | none => seek k L i = none ∧ L.eraseP (fun p => p.1 == k) = L
    | some p => p.1 = k ∧ ∃ j, seek k L i = some (i + j, p.2) ∧ j < L.length ∧ L.eraseIdx j = L.eraseP (fun p => p.1 == k)
  | [], i => ⟨rfl, rfl⟩
  | p :: r, i => by
    by_cases h : p.1 = k
    · rw [List.find?_cons_of_pos (by simpa using h)]
      refine ⟨h, 0, ?_, by simp, ?_⟩
      · simp [seek, h]
      · rw [List.eraseP_cons_of_pos (by simpa using h)]; rfl
    · have ih := seek_find k r (i + 1)
      have h2 : (k == p.1) = false := by simp; exact fun e => h e.symm
      rw [List.find?_cons_of_neg (by simpa using h)]
      simp only [seek, h2, Bool.false_eq_true, if_false]
      split at ih
      · exact ⟨ih.1, by rw [List.eraseP_cons_of_neg (by simpa using h), ih.2]⟩
      · obtain ⟨h3, j, h4, h5, h6⟩ := ih
        refine ⟨h3, j + 1, by rw [h4, Nat.add_assoc, Nat.add_comm 1], by simp; omega, ?_⟩
        rw [List.eraseP_cons_of_neg (by simpa using h), ← h6]; rfl

theorem findNow_int (k : Int) : ∀ (es : List MapEntry) (L : List (Int × Value)) (i : Nat), es.map (fun e => (e.key, e.val)) = L.map (fun p => (Value.int .i64 p.1, p.2)) →
    Instr.findNow (.int .i64) (.int .i64 k) es i = some (seek k L i)
  | [], [], _, _ => rfl
  | e :: es, p :: L, i, h => by
    simp only [List.map_cons, List.cons.injEq, Prod.mk.injEq] at h
    obtain ⟨⟨h1, h2⟩, h3⟩ := h
    have ih := findNow_int k es L (i + 1) h3
    simp only [Instr.findNow, Instr.sameNow, h1, if_true, seek]
    cases hb : k == p.1
    · simpa using ih
    · simp [h2]
  | [], _ :: _, _, h => by simp at h
  | _ :: _, [], _, h => by simp at h

section
variable {P : Program} {T K E : TypeId} {w : World} {b : Nat} {L : List (Int × Value)}

theorem run_findKey_int (hk : P.underlying K = some (.int .i64)) {es : Array MapEntry} (h : es.toList.map (fun e => (e.key, e.val)) = L.map (fun p => (Value.int .i64 p.1, p.2))) (k : Int) (w : World) :
    (Instr.findKey K (.int .i64 k) es.toList).run P w = .ok (seek k L 0) w := by
  simp [Instr.findKey, run_underlying hk, findNow_int k es.toList L 0 h]
theorem run_checkKey_int (hk : P.underlying K = some (.int .i64)) (x : Bool) (k : Int) (w : World) : (Instr.checkKey x 10000 K (.int .i64 k)).run P w = .ok () w := by
  unfold Instr.checkKey
  simp only [Sem.run_bind, run_underlying hk, Result.andThen_ok]
  rfl

/-- 'v, ok := m[k]'. -/
theorem run_lookup_ok (ht : P.underlying T = some (.map K E)) (hk : P.underlying K = some (.int .i64)) (z : Value) (hz : (zeroValue E).run P w = .ok z w) (h : MapB w b L) (k : Int) :
    (Instr.lookup T (.map (some b)) (.int .i64 k) true).run P w = .ok (match L.find? (fun p => p.1 == k) with | some p => .tuple #[p.2, .bool true] | none => .tuple #[z, .bool false]) w := by
  obtain ⟨es, c, hb, he⟩ := h
  have hs := seek_find k L 0
  have hf := run_findKey_int (P := P) hk he k w
  cases e : L.find? (fun p => p.1 == k) with
  | none =>
    rw [e] at hs
    rw [hs.1] at hf
    simp [Instr.lookup, run_underlying ht, MapKept.run_getObj_map hb, run_checkKey_int hk, hf, hz, Result.andThen]
  | some p =>
    rw [e] at hs
    obtain ⟨_, j, h1, _⟩ := hs
    rw [h1] at hf
    simp [Instr.lookup, run_underlying ht, MapKept.run_getObj_map hb, run_checkKey_int hk, hf, Result.andThen]

theorem keep_setBlock (w : World) (b : Nat) (o : Obj) : Keep (fun k => k = b) w (setBlock w b o) :=
  ⟨rfl, rfl, rfl, by simp [setBlock], fun k _ hn => by simp only [setBlock]; rw [Array.getElem?_setIfInBounds_ne (fun e => hn e.symm)]⟩

/-- 'm[k] = v', k not there. -/
theorem run_update_new (ht : P.underlying T = some (.map K E)) (hk : P.underlying K = some (.int .i64)) (h : MapB w b L) (k : Int) (v : Value) (hno : L.find? (fun p => p.1 == k) = none) :
    ∃ o, (∀ n, (Instr.mapUpdate T (.map (some b)) (.int .i64 k) v).run P (w.drewN n) = .ok () ((setBlock w b o).drewN n)) ∧ MapB (setBlock w b o) b (L ++ [(k, v)]) := by
  have hl := h.lt
  obtain ⟨es, c, hb, he⟩ := h
  have hs := seek_find k L 0
  rw [hno] at hs
  refine ⟨.map (es.push ⟨.int .i64 k, v, c⟩) (c + 1), fun n => ?_, es.push ⟨.int .i64 k, v, c⟩, c + 1, ?_, ?_⟩
  · have hb' : (w.drewN n).heap[b]? = some (.map es c) := hb
    have hf := run_findKey_int (P := P) hk he k (w.drewN n)
    rw [hs.1] at hf
    simp [Instr.mapUpdate, run_underlying ht, MapKept.run_getObj_map hb', run_checkKey_int hk, hf, MapKept.run_setObj_map _ hb', Result.andThen]
    rfl
  · simp [setBlock, Array.getElem?_setIfInBounds_self_of_lt hl]
  · simp [he]

theorem map_eraseIdx' {α β : Type} (f : α → β) : ∀ (l : List α) (j : Nat), (l.eraseIdx j).map f = (l.map f).eraseIdx j
  | [], _ => by simp
  | _ :: _, 0 => by simp
  | a :: r, j + 1 => by simp [map_eraseIdx' f r j]

/-- 'delete(m, k)'. -/
theorem run_delete_int (ht : P.underlying T = some (.map K E)) (hk : P.underlying K = some (.int .i64)) (h : MapB w b L) (k : Int) (ts : Array TypeId) (ty : TypeId) (hts : ts[0]? = some T) :
    ∃ o, (Builtin.delete_ ts ty #[.map (some b), .int .i64 k]).run P w = .ok (.tuple #[]) (setBlock w b o) ∧ MapB (setBlock w b o) b (L.eraseP fun p => p.1 == k) := by
  have hl := h.lt
  obtain ⟨es, c, hb, he⟩ := h
  have hs := seek_find k L 0
  have hf := run_findKey_int (P := P) hk he k w
  split at hs
  · rename_i e
    rw [hs.1] at hf
    refine ⟨.map es c, ?_, es, c, by simp [setBlock, Array.getElem?_setIfInBounds_self_of_lt hl], by rw [hs.2]; exact he⟩
    simp [Builtin.delete_, hts, run_underlying ht, MapKept.run_getObj_map hb, run_checkKey_int hk, hf, MapKept.run_setObj_map _ hb, Result.andThen, setBlock]
  · rename_i p e
    obtain ⟨_, j, h1, h2, h3⟩ := hs
    rw [h1] at hf
    refine ⟨.map (es.eraseIdxIfInBounds j) c, ?_, es.eraseIdxIfInBounds j, c, by simp [setBlock, Array.getElem?_setIfInBounds_self_of_lt hl], ?_⟩
    · simp [Builtin.delete_, hts, run_underlying ht, MapKept.run_getObj_map hb, run_checkKey_int hk, hf, MapKept.run_setObj_map _ hb, Result.andThen, setBlock]
    · rw [← h3, map_eraseIdx', ← he, ← map_eraseIdx']
      simp [Array.eraseIdxIfInBounds]
      have hjs : j < es.size := by
        have := congrArg List.length he
        simp at this
        omega
      simp [hjs]

/-- 'delete(m, k)' at the operation, for the walk. -/
theorem wpL_delete {ops : Array Oper} {rest : List Oper} {o : Oper} {a : Act} {Q : Exit → Act → World → Prop} (hgd : o.guard = none) (m x : Operand) (ts : Array TypeId)
    (ho : o.op = .call { callee := .builtin .delete, args := #[m, x], argTypes := ts }) (hts : ts[0]? = some T) (ht : P.underlying T = some (.map K E)) (hk : P.underlying K = some (.int .i64)) (hm : a.eval m = .map (some b)) (k : Int) (hx : a.eval x = .int .i64 k) (h : MapB w b L)
    (hK : ∀ w', MapB w' b (L.eraseP fun p => p.1 == k) → Keep (fun j => j = b) w w' → wpList P ops Q rest (a.put o.dst (.tuple #[])) w') : wpList P ops Q (o :: rest) a w := by
  refine wpList_plain hgd fun K' hK' => ?_
  obtain ⟨ob, hr, hm'⟩ := run_delete_int (P := P) ht hk h k ts o.type hts
  unfold Oper.wp execOp
  simp only [ho, resolve, invoke, builtin, Sem.run_bind, Sem.run_pure, Result.andThen_ok, List.map_toArray, List.map_cons, List.map_nil, hm, hx, hr]
  exact hK' _ _ (hK _ hm' (keep_setBlock w b ob))
end
end Go.Proofs.Ytkglkpcpgdeneaa
