/- append(s, make([]byte, k)...), as the model has it: a number in the place of a slice. No program in sight. Conditions: none. -/
import Derived.Test.YtiobacnepacjnaaStApp
import Derived.Test.YtiobacnepacjnaaStepApp
import Derived.Lib.AppendZeros
namespace Go.Proofs.Ytiobacnepacjnaa
open Go.RowKit

/-- A string of bytes 0. -/
def zstr (k : Nat) : ByteArray := ⟨(List.replicate k (0 : UInt8)).toArray⟩
theorem zstr_size (k : Nat) : (zstr k).size = k := by simp [zstr, ByteArray.size]
theorem zstr_cells (k : Nat) : byteCells (zstr k) = (List.replicate k (Value.int .u8 0)) := by
  simp [byteCells, zstr]
theorem zeroCells_eq (k : Nat) : Builtin.zeroCells #[Value.int .u8 0] k = (List.replicate k (Value.int .u8 0)).toArray := by
  apply Array.ext
  · simp [Builtin.zeroCells]
  · intro i h1 h2
    simp [Builtin.zeroCells, Nat.mod_one]
theorem append_zeros_eq {P : Program} (w : World) (t tn tx ty e : TypeId) (i : TypeInfo) (kq kn : IntKind) (ht : P.underlying t = some (.slice e)) (htn : P.underlying tn = some (.int kn)) (htx : P.underlying tx = some .string) (hi : P.info? e = some i) (hz : i.zero = some (.int .u8 0)) (hs : i.size = 1) (hb : i.bytes = 1)
    (base : Option Addr) (sLen sCap k : Nat) (hle : sLen ≤ sCap) (h63 : sLen + k ≤ 140737488355328) :
    (Builtin.append_ #[t, tn] ty #[.slice base sLen sCap, .int kq k]).run P w = (Builtin.append_ #[t, tx] ty #[.slice base sLen sCap, .string (zstr k)]).run P w := by
  have hw : IntKind.i64.wrap (k : Int) = k := by rw [IntKind.wrap_i64]; omega
  have hneg : ¬ ((k : Int) < 0) := by omega
  have h48i : ¬ (281474976710656 < (k : Int)) := by omega
  have h63' : ¬ (9223372036854775807 < ((sLen : Int) + (k : Int))) := by omega
  have hzs := zstr_size k
  have hzc : ((zstr k).extract 0 k).data.map (fun b => Value.int .u8 b.toNat) = (List.replicate k (Value.int .u8 0)).toArray := by
    simp [zstr]
  have hzl : List.take k (List.map (fun b : UInt8 => Value.int .u8 b.toNat) (zstr k).data.toList) = List.replicate k (Value.int .u8 0) := by simp [zstr]
  have hzd : Array.map (fun b : UInt8 => Value.int .u8 b.toNat) (zstr k).data = Array.replicate k (Value.int .u8 0) := by simp [zstr]
  have hw0 : IntKind.i64.wrap 0 = 0 := rfl
  by_cases hn : sLen + k ≤ sCap
  · by_cases hk : k = 0
    · subst hk
      simp [Builtin.append_, run_underlying ht, run_underlying htn, run_underlying htx, sizeOf, typeInfo, zeroValue, hi, hz, hs, hb, asInt, asIntOf, hw0, Builtin.lenOf, Builtin.firstCells, hzs]
      simp [hle]
    · simp [Builtin.append_, run_underlying ht, run_underlying htn, run_underlying htx, sizeOf, typeInfo, zeroValue, hi, hz, hs, hb, asInt, asIntOf, hw, hn, hneg, h48i, hk, Builtin.lenOf, Builtin.firstCells, hzs, hzl, Value.cells, zeroCells_eq]
  · have hk : ¬ k = 0 := by omega
    have hfit : ¬ (281474976710656 < Builtin.nextslicecap (sLen + k) sCap) := by
      have := growslice_fits (bytes := 1) (show sCap < sLen + k by omega) (by omega)
      omega
    simp [Builtin.append_, run_underlying ht, run_underlying htn, run_underlying htx, sizeOf, typeInfo, zeroValue, hi, hz, hs, hb, asInt, asIntOf, hw, hn, hneg, h48i, hk, h63', hfit, Builtin.lenOf, Builtin.firstCells, hzs, hzd, Value.cells, zeroCells_eq]
theorem own_cap {w : World} {base n c : Nat} {e : TypeId} {size : Nat} {A : Option Addr} {xs : List Value} (h : w.ownsRow base e size (.slice A n c) n xs) : n ≤ c := by
  obtain ⟨_, _, e1, h1, _⟩ := own_rd h
  injection e1 with _ _ e1
  omega
theorem run_append_zeros_own {P : Program} (w : World) (base : Nat) (t tn tx ty e : TypeId) (kq kn : IntKind) (ht : P.underlying t = some (.slice e)) (htn : P.underlying tn = some (.int kn)) (htx : P.underlying tx = some .string) (hinfo : (P.info? e).map (fun i => (i.zero, i.size, i.bytes)) = some (some (.int .u8 0), 1, 1))
    (A : Option Addr) (n c : Nat) (xs : List Value) (hown : w.ownsRow base e 1 (.slice A n c) n xs) (k : Nat) (hm : n + k ≤ 140737488355328) (hbase : base ≤ w.heap.size) :
    ∃ v' w', (Builtin.append_ #[t, tn] ty #[.slice A n c, .int kq k]).run P w = .ok v' w' ∧ w'.ownsRow base e 1 v' (n + k) (xs ++ List.replicate k (.int .u8 0)) ∧ w.grownBy w' (Value.ownBlock (.slice A n c)) ∧ (v'.ownBlock = Value.ownBlock (.slice A n c) ∨ v'.ownBlock = some w.heap.size) := by
  obtain ⟨i0, hi, hzz⟩ := Option.map_eq_some_iff.1 hinfo
  simp only [Prod.mk.injEq] at hzz
  obtain ⟨hz0, hz1, hz2⟩ := hzz
  have h := run_append_own_src (P := P) w base t tx ty e i0 (.int .u8 0) 1 1 ht hi hz0 hz1 hz2 rfl (by decide) (.slice A n c) n xs hown (.string (zstr k)) (zstr k).size (byteCells (zstr k)) (Src.ofString w htx (zstr k)) (by rw [zstr_size]; unfold maxLen; omega) (by rw [zstr_size]; omega) hbase
  rw [zstr_size, zstr_cells, ← append_zeros_eq w t tn tx ty e i0 kq kn ht htn htx hi hz0 hz1 hz2 A n c k (own_cap hown) hm] at h
  exact h
theorem wpL_zeros_st {P : Program} {w0 w : World} {l : List Part} {ops : Array Oper} {rest : List Oper} {o : Oper} {a : Act} {Q : Exit → Act → World → Prop} (hgd : o.guard = none) (s x : Operand) (t tn tx : TypeId)
    (ho : o.op = .call { callee := .builtin .append, args := #[s, x], argTypes := #[t, tn] }) (e : TypeId) (kq kn : IntKind) (ht : P.underlying t = some (.slice e)) (htn : P.underlying tn = some (.int kn)) (htx : P.underlying tx = some .string) (hinfo : (P.info? e).map (fun i => (i.zero, i.size, i.bytes)) = some (some (.int .u8 0), 1, 1))
    (A : Option Addr) (n c : Nat) (xs : List Value) (hs : a.eval s = .slice A n c) (HS : St w0 w (ownP e 1 (.slice A n c) n xs :: l)) (k : Nat) (hx : a.eval x = .int kq k) (hm : n + k ≤ 140737488355328)
    (h : ∀ A' c' w', n + k ≤ c' → (A' = none → n + k = 0) → St w0 w' (ownP e 1 (.slice A' (n + k) c') (n + k) (xs ++ List.replicate k (.int .u8 0)) :: l) → wpList P ops Q rest (a.put o.dst (.slice A' (n + k) c')) w') :
    wpList P ops Q (o :: rest) a w := by
  obtain ⟨v', w', hr, h1, h2, h3⟩ := run_append_zeros_own (P := P) w w0.heap.size t tn tx o.type e kq kn ht htn htx hinfo A n c xs HS.own k hm HS.size
  refine Lib.wpList_append_run w hgd s x t tn ho _ _ hs hx v' w' hr ?_
  have hg := HS.grown h1 ((Keep.of_grown h2).mono (fun k _ hk => .inl hk)) (by
    rcases h3 with h3 | h3
    · exact .inl h3
    · exact .inr ⟨_, h3, Nat.le_refl _⟩)
  obtain ⟨A', c', rfl, hc, _, hn⟩ := own_rd h1
  exact h A' c' w' hc hn hg
theorem step_zeros {P : Program} {w : World} {ops : Array Oper} {o : Oper} {a : Act} {K : Act → World → Prop} {Q : Exit → Act → World → Prop} {E : Prop} (hw : Region.wanted o (yielded ops a.tmps) = true) (s x : Operand) (t tn tx : TypeId)
    (ho : o.op = .call { callee := .builtin .append, args := #[s, x], argTypes := #[t, tn] }) (base : Nat) (e : TypeId) (kq kn : IntKind) (ht : P.underlying t = some (.slice e)) (htn : P.underlying tn = some (.int kn)) (htx : P.underlying tx = some .string) (hinfo : (P.info? e).map (fun i => (i.zero, i.size, i.bytes)) = some (some (.int .u8 0), 1, 1))
    (A : Option Addr) (n c : Nat) (xs : List Value) (hs : a.eval s = .slice A n c) (hown : w.ownsRow base e 1 (.slice A n c) n xs) (k : Nat) (hx : a.eval x = .int kq k) (hm : n + k ≤ 140737488355328) (hbase : base ≤ w.heap.size)
    (h : ∀ v' w', w'.ownsRow base e 1 v' (n + k) (xs ++ List.replicate k (.int .u8 0)) → w.grownBy w' (Value.ownBlock (.slice A n c)) → (v'.ownBlock = Value.ownBlock (.slice A n c) ∨ v'.ownBlock = some w.heap.size) → K (a.put o.dst v') w') :
    if Region.wanted o (yielded ops a.tmps) = true then Oper.wp P o a w K Q else E := by
  rw [if_pos hw]
  obtain ⟨v', w', hr, h1, h2, h3⟩ := run_append_zeros_own (P := P) w base t tn tx o.type e kq kn ht htn htx hinfo A n c xs hown k hm hbase
  exact Lib.wp_append_run w s x t tn ho _ _ hs hx v' w' hr (h v' w' h1 h2 h3)
theorem step_zeros_st {P : Program} {w0 w : World} {l : List Part} {ops : Array Oper} {o : Oper} {a : Act} {K : Act → World → Prop} {Q : Exit → Act → World → Prop} {E : Prop} (hw : Region.wanted o (yielded ops a.tmps) = true) (s x : Operand) (t tn tx : TypeId)
    (ho : o.op = .call { callee := .builtin .append, args := #[s, x], argTypes := #[t, tn] }) (e : TypeId) (kq kn : IntKind) (ht : P.underlying t = some (.slice e)) (htn : P.underlying tn = some (.int kn)) (htx : P.underlying tx = some .string) (hinfo : (P.info? e).map (fun i => (i.zero, i.size, i.bytes)) = some (some (.int .u8 0), 1, 1))
    (A : Option Addr) (n c : Nat) (xs : List Value) (hs : a.eval s = .slice A n c) (HS : St w0 w (ownP e 1 (.slice A n c) n xs :: l)) (k : Nat) (hx : a.eval x = .int kq k) (hm : n + k ≤ 140737488355328)
    (h : ∀ A' c' w', n + k ≤ c' → (A' = none → n + k = 0) → St w0 w' (ownP e 1 (.slice A' (n + k) c') (n + k) (xs ++ List.replicate k (.int .u8 0)) :: l) → K (a.put o.dst (.slice A' (n + k) c')) w') :
    if Region.wanted o (yielded ops a.tmps) = true then Oper.wp P o a w K Q else E := by
  refine step_zeros hw s x t tn tx ho w0.heap.size e kq kn ht htn htx hinfo A n c xs hs HS.own k hx hm HS.size (fun v' w' h1 h2 h3 => ?_)
  have hg := HS.grown h1 ((Keep.of_grown h2).mono (fun k _ hk => .inl hk)) (by
    rcases h3 with h3 | h3
    · exact .inl h3
    · exact .inr ⟨_, h3, Nat.le_refl _⟩)
  obtain ⟨A', c', rfl, hc, _, hn⟩ := own_rd h1
  exact h A' c' w' hc hn hg
end Go.Proofs.Ytiobacnepacjnaa
