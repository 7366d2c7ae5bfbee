/- Append over parts of memory. No program in sight. Conditions: none. -/
import Derived.Test.YtkglkpcpgdeneaaSt
import Derived.Test.YtkglkpcpgdeneaaSel
namespace Go.Proofs.Ytkglkpcpgdeneaa
open Go.RowKit

section
variable {P : Program} {w0 w : World} {l : List Part}
/-- 'append(v, x...)', v the first part. -/
theorem wpL_append_st {ops : Array Oper} {rest : List Oper} {o : Oper} {a : Act} {Q : Exit → Act → World → Prop} (hgd : o.guard = none) (s x : Operand) (t tx : TypeId)
    (ho : o.op = .call { callee := .builtin .append, args := #[s, x], argTypes := #[t, tx] })
    (e : TypeId) (z : Value) (size bytes : Nat) (ht : P.underlying t = some (.slice e)) (hinfo : (P.info? e).map (fun i => (i.zero, i.size, i.bytes)) = some (some z, size, bytes)) (hzs : z.cells.size = size) (hsz : 0 < size)
    (v : Value) (n : Nat) (xs : List Value) (hs : a.eval s = v) (HS : St w0 w (ownP e size v n xs :: l))
    (xv : Value) (m : Nat) (news : List Value) (hx : a.eval x = xv) (hsrc : Src P size tx xv m news w)
    (h63 : n + m ≤ maxLen) (hbytes : (n + m) * bytes ≤ 140737488355328)
    (h : ∀ A c w', n + m ≤ c → (A = none → n + m = 0) → St w0 w' (ownP e size (.slice A (n + m) c) (n + m) (xs ++ news) :: l) → wpList P ops Q rest (a.put o.dst (.slice A (n + m) c)) w') :
    wpList P ops Q (o :: rest) a w := by
  refine wpL_append w hgd s x t tx ho w0.heap.size e z size bytes ht hinfo hzs hsz v n xs hs HS.own xv m news hx hsrc h63 hbytes HS.size ?_
  intro v' w' h1 h2 h3
  have hg := HS.grown h1 ((Keep.of_grown h2).mono (fun k _ hk => .inl hk)) (by
    rcases h3 with h3 | h3
    · exact .inl h3
    · exact .inr ⟨_, h3, Nat.le_refl _⟩)
  obtain ⟨A, c, rfl, hc, _, hn⟩ := own_rd h1
  exact h A c w' hc hn hg
/-- 'append(T{}, x...)': a part of its own. -/
theorem wpL_fresh_st {ops : Array Oper} {rest : List Oper} {o : Oper} {a : Act} {Q : Exit → Act → World → Prop} (hgd : o.guard = none) (s x : Operand) (t tx : TypeId)
    (ho : o.op = .call { callee := .builtin .append, args := #[s, x], argTypes := #[t, tx] })
    (e : TypeId) (z : Value) (size bytes : Nat) (ht : P.underlying t = some (.slice e)) (hinfo : (P.info? e).map (fun i => (i.zero, i.size, i.bytes)) = some (some z, size, bytes)) (hzs : z.cells.size = size) (hsz : 0 < size)
    (b : Nat) (hb : b = w.heap.size) (hs : a.eval s = .slice (some ⟨b, 0, none⟩) 0 0) (HS : St w0 w l)
    (xv : Value) (m : Nat) (news : List Value) (hx : a.eval x = xv) (hsrc : Src P size tx xv m news (w.alloc (.cells #[] e)))
    (h63 : m ≤ maxLen) (hbytes : m * bytes ≤ 140737488355328)
    (h : ∀ A c w', m ≤ c → (A = none → m = 0) → St w0 w' (ownP e size (.slice A m c) m news :: l) → Keep (fun j => w.heap.size ≤ j) w w' → wpList P ops Q rest (a.put o.dst (.slice A m c)) w') :
    wpList P ops Q (o :: rest) a (w.alloc (.cells #[] e)) := by
  refine wpL_fresh w hgd s x t tx ho e z size bytes ht hinfo hzs hsz b hb hs xv m news hx hsrc h63 hbytes ?_
  intro v' w' h1 h2
  have k : Keep (fun j => w.heap.size ≤ j) w w' := h2.mono (fun _ _ f => f.elim)
  have hg := HS.made h1 k
  obtain ⟨A, c, rfl, hc, _, hn⟩ := own_rd h1
  exact h A c w' hc hn hg k
/-- 'append(v, y)', v the first part. -/
theorem wpL_push_st {ops : Array Oper} {rest : List Oper} {o : Oper} {a : Act} {Q : Exit → Act → World → Prop} (hgd : o.guard = none) (s x : Operand) (t : TypeId)
    (ho : o.op = .call { callee := .builtin .append, args := #[s, x], argTypes := #[t, t] })
    (e : TypeId) (z : Value) (size bytes : Nat) (ht : P.underlying t = some (.slice e)) (hinfo : (P.info? e).map (fun i => (i.zero, i.size, i.bytes)) = some (some z, size, bytes)) (hzs : z.cells.size = size) (hsz : 0 < size)
    (v : Value) (n : Nat) (xs : List Value) (hs : a.eval s = v) (HS : St w0 w (ownP e size v n xs :: l))
    (ys : List Value) (hy : ys.length = size) (h1 : ∀ u ∈ ys, u.oneCell' = true) (b : Nat) (hb : b = w.heap.size) (hx : a.eval x = .slice (some ⟨b, 0, none⟩) 1 1)
    (h63 : n + 1 ≤ maxLen) (hbytes : (n + 1) * bytes ≤ 140737488355328)
    (h : ∀ A c w', n + 1 ≤ c → (A = none → n + 1 = 0) → St w0 w' (ownP e size (.slice A (n + 1) c) (n + 1) (xs ++ ys) :: l) → wpList P ops Q rest (a.put o.dst (.slice A (n + 1) c)) w') :
    wpList P ops Q (o :: rest) a (w.alloc (.cells ys.toArray e)) := by
  refine wpL_append_st hgd s x t t ho e z size bytes ht hinfo hzs hsz v n xs hs (HS.alloc _) _ 1 ys hx
    (Src.of_rd ht (RdV.new w e ys b hb) 1 1 (by rw [hy, Nat.one_mul]) h1 (fun e => by cases e)) h63 hbytes h
theorem St.own_rdv {e : TypeId} {size n c : Nat} {A : Option Addr} {xs : List Value} (h : St w0 w (ownP e size (.slice A n c) n xs :: l)) : RdV w A xs ∧ n ≤ c ∧ c ≤ 9223372036854775807 ∧ (A = none → n = 0) := by
  have ho := h.own
  obtain ⟨A', c', e1, h1, h2, h3⟩ := own_rd ho
  injection e1 with e2 _ e4
  subst e2 e4
  refine ⟨h2, h1, ?_, h3⟩
  rcases own_form ho with ⟨e, _⟩ | ⟨_, _, e, _, hc, _⟩
  · injection e with _ _ e
    omega
  · injection e with _ _ e
    omega
theorem St.own_len {e : TypeId} {size n : Nat} {v : Value} {xs : List Value} (h : St w0 w (ownP e size v n xs :: l)) : xs.length = n * size := h.own.1
end
end Go.Proofs.Ytkglkpcpgdeneaa
