/- The record's functions over parts of memory, each in one form; append over parts. Conditions: none. -/
import Derived.Test.YtbkpjjibgnachaaRecGetW
import Derived.Test.YtbkpjjibgnachaaRecPut
import Derived.Test.YtbkpjjibgnachaaRecSame
import Derived.Test.YtbkpjjibgnachaaRefBytes
import Derived.Test.YtbkpjjibgnachaaLess13
import Derived.Test.YtbkpjjibgnachaaSame13
import Derived.Test.YtbkpjjibgnachaaPutBeg
import Derived.Test.YtbkpjjibgnachaaMay13
import Derived.Test.YtbkpjjibgnachaaSt
import Derived.Test.YtbkpjjibgnachaaItems
namespace Go.Proofs.Ytbkpjjibgnachaa
open Go.RowKit

section
variable {P : Program} {w0 w : World} {l : List Part}
/-- 'append(v, x...)', v the first part. -/
theorem wpL_append_st {ops : Array Oper} {rest : List Oper} {o : Oper} {a : Act} {Q : Exit → Act → World → Prop} (hgd : o.guard = none) (s x : Operand) (t tx : TypeId)
    (ho : o.op = .call { callee := .builtin .append, args := #[s, x], argTypes := #[t, tx] })
    (e : TypeId) (z : Value) (size bytes : Nat) (ht : P.underlying t = some (.slice e)) (hinfo : (P.info? e).map (fun i => (i.zero, i.size, i.bytes)) = some (some z, size, bytes)) (hzs : z.cells.size = size) (hsz : 0 < size)
    (v : Value) (n : Nat) (xs : List Value) (hs : a.eval s = v) (HS : St w0 w (ownP e size v n xs :: l))
    (xv : Value) (m : Nat) (news : List Value) (hx : a.eval x = xv) (hsrc : Src P size tx xv m news w)
    (h63 : n + m ≤ maxLen) (hbytes : (n + m) * bytes ≤ 140737488355328)
    (h : ∀ A c w', n + m ≤ c → (A = none → n + m = 0) → St w0 w' (ownP e size (.slice A (n + m) c) (n + m) (xs ++ news) :: l) → wpList P ops Q rest (a.put o.dst (.slice A (n + m) c)) w') :
    wpList P ops Q (o :: rest) a w := by
  refine wpL_append w hgd s x t tx ho w0.heap.size e z size bytes ht hinfo hzs hsz v n xs hs HS.own xv m news hx hsrc h63 hbytes HS.size ?_
  intro v' w' h1 h2 h3
  have hg := HS.grown h1 ((Keep.of_grown h2).mono (fun k _ hk => .inl hk)) (by
    rcases h3 with h3 | h3
    · exact .inl h3
    · exact .inr ⟨_, h3, Nat.le_refl _⟩)
  obtain ⟨A, c, rfl, hc, _, hn⟩ := own_rd h1
  exact h A c w' hc hn hg
/-- 'append(T{}, x...)': a part of its own. -/
theorem wpL_fresh_st {ops : Array Oper} {rest : List Oper} {o : Oper} {a : Act} {Q : Exit → Act → World → Prop} (hgd : o.guard = none) (s x : Operand) (t tx : TypeId)
    (ho : o.op = .call { callee := .builtin .append, args := #[s, x], argTypes := #[t, tx] })
    (e : TypeId) (z : Value) (size bytes : Nat) (ht : P.underlying t = some (.slice e)) (hinfo : (P.info? e).map (fun i => (i.zero, i.size, i.bytes)) = some (some z, size, bytes)) (hzs : z.cells.size = size) (hsz : 0 < size)
    (b : Nat) (hb : b = w.heap.size) (hs : a.eval s = .slice (some ⟨b, 0, none⟩) 0 0) (HS : St w0 w l)
    (xv : Value) (m : Nat) (news : List Value) (hx : a.eval x = xv) (hsrc : Src P size tx xv m news (w.alloc (.cells #[] e)))
    (h63 : m ≤ maxLen) (hbytes : m * bytes ≤ 140737488355328)
    (h : ∀ A c w', m ≤ c → (A = none → m = 0) → St w0 w' (ownP e size (.slice A m c) m news :: l) → Keep (fun j => w.heap.size ≤ j) w w' → wpList P ops Q rest (a.put o.dst (.slice A m c)) w') :
    wpList P ops Q (o :: rest) a (w.alloc (.cells #[] e)) := by
  refine wpL_fresh w hgd s x t tx ho e z size bytes ht hinfo hzs hsz b hb hs xv m news hx hsrc h63 hbytes ?_
  intro v' w' h1 h2
  have k : Keep (fun j => w.heap.size ≤ j) w w' := h2.mono (fun _ _ f => f.elim)
  have hg := HS.made h1 k
  obtain ⟨A, c, rfl, hc, _, hn⟩ := own_rd h1
  exact h A c w' hc hn hg k
/-- 'append(v, y)', v the first part. -/
theorem wpL_push_st {ops : Array Oper} {rest : List Oper} {o : Oper} {a : Act} {Q : Exit → Act → World → Prop} (hgd : o.guard = none) (s x : Operand) (t : TypeId)
    (ho : o.op = .call { callee := .builtin .append, args := #[s, x], argTypes := #[t, t] })
    (e : TypeId) (z : Value) (size bytes : Nat) (ht : P.underlying t = some (.slice e)) (hinfo : (P.info? e).map (fun i => (i.zero, i.size, i.bytes)) = some (some z, size, bytes)) (hzs : z.cells.size = size) (hsz : 0 < size)
    (v : Value) (n : Nat) (xs : List Value) (hs : a.eval s = v) (HS : St w0 w (ownP e size v n xs :: l))
    (ys : List Value) (hy : ys.length = size) (h1 : ∀ u ∈ ys, u.oneCell' = true) (b : Nat) (hb : b = w.heap.size) (hx : a.eval x = .slice (some ⟨b, 0, none⟩) 1 1)
    (h63 : n + 1 ≤ maxLen) (hbytes : (n + 1) * bytes ≤ 140737488355328)
    (h : ∀ A c w', n + 1 ≤ c → (A = none → n + 1 = 0) → St w0 w' (ownP e size (.slice A (n + 1) c) (n + 1) (xs ++ ys) :: l) → wpList P ops Q rest (a.put o.dst (.slice A (n + 1) c)) w') :
    wpList P ops Q (o :: rest) a (w.alloc (.cells ys.toArray e)) := by
  refine wpL_append_st hgd s x t t ho e z size bytes ht hinfo hzs hsz v n xs hs (HS.alloc _) _ 1 ys hx
    (Src.of_rd ht (RdV.new w e ys b hb) 1 1 (by rw [hy, Nat.one_mul]) h1 (fun e => by cases e)) h63 hbytes h
theorem St.own_rdv {e : TypeId} {size n c : Nat} {A : Option Addr} {xs : List Value} (h : St w0 w (ownP e size (.slice A n c) n xs :: l)) : RdV w A xs ∧ n ≤ c ∧ c ≤ 9223372036854775807 ∧ (A = none → n = 0) := by
  have ho := h.own
  obtain ⟨A', c', e1, h1, h2, h3⟩ := own_rd ho
  injection e1 with e2 _ e4
  subst e2 e4
  refine ⟨h2, h1, ?_, h3⟩
  rcases own_form ho with ⟨e, _⟩ | ⟨_, _, e, _, hc, _⟩
  · injection e with _ _ e
    omega
  · injection e with _ _ e
    omega
theorem St.own_len {e : TypeId} {size n : Nat} {v : Value} {xs : List Value} (h : St w0 w (ownP e size v n xs :: l)) : xs.length = n * size := h.own.1
end
section
variable {w0 w : World} {l : List Part}
theorem DatI.st {x : It} {d : List UInt8} (hd : DatI w0 x d) (h : St w0 w l) : DatI w x d := hd.keep h.keep
def itN (x : It) : Nat := 16 + x.k.size + x.n
theorem may_parts {k : ByteArray} {s : Int} {n : Nat} (h : mayI k s n = true) : k.size ≤ 200 ∧ 0 ≤ s ∧ s ≤ 4611686018427387904 ∧ n ≤ 1048576 := of_decide_eq_true h
def PutS (w0 : World) (l : List Part) (N : Nat) (L : List UInt8) (e : Ending) (w' : World) : Prop := ∃ A c, e = .returned (.tuple #[.slice A N c, .bool true]) ∧ N ≤ c ∧ St w0 w' (ownP 5 1 (.slice A N c) N (bys L) :: l)
theorem St.rec_put (h : St w0 w l) (x : It) (d : List UInt8) (N : Nat) (L : List UInt8) (hN : N = itN x) (hL : L = putL x.k x.s d) (hd : DatI w x d) (hm : mayI x.k x.s x.n = true) :
    Calls Try.prog 38 #[.agg #[.string x.k, .int .i64 x.s, .slice x.A x.n x.c]] w (PutS w0 l N L) := by
  subst hN hL
  obtain ⟨m1, m2, m3, m4⟩ := may_parts hm
  refine (put_yes x.k x.s x.A x.n x.c d w hd.1 hd.2.2.1 hd.2.2.2 m1 m2 m3 m4).mono ?_
  rintro e w' ⟨A, c, he, h1, _, h3, h4⟩
  exact ⟨A, c, he, h1, h.made h3 h4⟩
theorem St.rec_put_no (h : St w0 w l) (x : It) (hm : mayI x.k x.s x.n = false) :
    Calls Try.prog 38 #[.agg #[.string x.k, .int .i64 x.s, .slice x.A x.n x.c]] w fun e w' => e = .returned (.tuple #[.slice none 0 0, .bool false]) ∧ St w0 w' l :=
  (put_no x.k x.s x.A x.n x.c w (of_decide_eq_false hm)).mono fun _ _ ⟨h1, h2⟩ => ⟨h1, h.later h2⟩
def BytesS (w0 : World) (l : List Part) (N : Nat) (L : List UInt8) (e : Ending) (w' : World) : Prop := ∃ A c, e = .returned (.slice A N c) ∧ N ≤ c ∧ St w0 w' (ownP 5 1 (.slice A N c) N (bys L) :: l)
theorem St.ref_bytes (h : St w0 w l) (x : It) (d : List UInt8) (N : Nat) (L : List UInt8) (hN : N = itN x) (hL : L = putL x.k x.s d) (hd : DatI w x d) (hm : mayI x.k x.s x.n = true) :
    Calls Try.prog 41 #[.agg #[.string x.k, .int .i64 x.s, .slice x.A x.n x.c]] w (BytesS w0 l N L) := by
  subst hN hL
  obtain ⟨m1, m2, m3, m4⟩ := may_parts hm
  refine (refbytes_any x.k x.s x.A x.n x.c d w hd.1 hd.2.2.1 hd.2.2.2 m1 m2 m3 m4).mono ?_
  rintro e w' ⟨A, c, he, h1, _, h3, h4⟩
  exact ⟨A, c, he, h1, h.made h3 h4⟩
/-- What rec.Get says of these bytes. -/
def GetS (w0 : World) (l : List Part) (L : List UInt8) (e : Ending) (w' : World) : Prop := match begS L with
  | none => e = .returned (.tuple #[.agg #[.string ⟨#[]⟩, .int .i64 0, .slice none 0 0], .int .i64 0, .bool false]) ∧ St w0 w' l
  | some (k, s, d, t) => ∃ A c, e = .returned (.tuple #[.agg #[.string (str k), .int .i64 (s : Nat), .slice A d.length c], .int .i64 (t : Nat), .bool true]) ∧ d.length ≤ c ∧ St w0 w' (ownP 5 1 (.slice A d.length c) d.length (bys d) :: l)
theorem St.rec_get (h : St w0 w l) (A : Option Addr) (n c : Nat) (L : List UInt8) (hn : n = L.length) (hb : SlB w A c L) :
    Calls Try.prog 40 #[.slice A n c] w (GetS w0 l L) := by
  subst hn
  refine (get_any A c L w hb).mono ?_
  rintro e w' ⟨hk, ho⟩
  unfold GetS
  cases hbg : begS L with
  | none => rw [hbg] at ho; exact ⟨ho, h.later hk⟩
  | some q =>
    rw [hbg] at ho
    rcases q with ⟨k, s, d, t⟩
    have ho' : ∃ A c b, e = .returned (.tuple #[.agg #[.string (str k), .int .i64 (s : Nat), .slice A d.length c], .int .i64 (t : Nat), .bool true]) ∧ w.heap.size ≤ b ∧ w'.ownsRow b 5 1 (.slice A d.length c) d.length (bys d) := ho
    obtain ⟨A', c', b, he, hb', ho2⟩ := ho'
    obtain ⟨_, _, e1, hc, _, _⟩ := own_rd ho2
    injection e1 with _ _ e4
    subst e4
    exact ⟨A', c', he, hc, h.made (own_weaken ho2 hb') hk⟩
theorem str_list (k : ByteArray) : str k.data.toList = k := by
  apply ByteArray.ext
  simp [str]
/-- An item again, of the bytes that begin with it. -/
theorem St.rec_get_put (h : St w0 w l) (A : Option Addr) (n c : Nat) (L more : List UInt8) (x : It) (d : List UInt8) (hn : n = L.length) (hb : SlB w A c L) (hL : L = putL x.k x.s d ++ more) (hd : x.n = d.length) (hm : mayI x.k x.s x.n = true) :
    Calls Try.prog 40 #[.slice A n c] w fun e w' => ∃ A' c', e = .returned (.tuple #[.agg #[.string x.k, .int .i64 x.s, .slice A' x.n c'], .int .i64 (itN x : Nat), .bool true]) ∧ x.n ≤ c' ∧ St w0 w' (ownP 5 1 (.slice A' x.n c') x.n (bys d) :: l) := by
  obtain ⟨m1, m2, m3, m4⟩ := may_parts hm
  have hbg := begS_put x.k x.s d more m1 m2 m3 (by omega)
  rw [← hL] at hbg
  refine (h.rec_get A n c L hn hb).mono ?_
  intro e w' hg
  unfold GetS at hg
  rw [hbg] at hg
  obtain ⟨A', c', he, hc, hs⟩ := hg
  rw [← hd] at he hc hs
  refine ⟨A', c', ?_, hc, hs⟩
  rw [he, str_list, Int.toNat_of_nonneg m2]
  unfold itN
  rw [hd]
theorem slb_of_own {A : Option Addr} {n c : Nat} {L : List UInt8} (h : St w0 w (ownP 5 1 (.slice A n c) n (bys L) :: l)) : n = L.length ∧ SlB w A c L := by
  have hl : n = L.length := by have := h.own_len; rw [bys_length] at this; omega
  obtain ⟨h1, h2, h3, h4⟩ := h.own_rdv
  refine ⟨hl, by omega, h3, h1, fun e => List.eq_nil_of_length_eq_zero (by have := h4 e; omega), fun y hy => ?_⟩
  subst hy
  have ho := h.own
  rcases own_form ho with ⟨e, _⟩ | ⟨g, c', e, _⟩
  · cases e
  · injection e with e _ _
    cases e
    exact ⟨g, 0, rfl, ownBlock_lt ho g rfl⟩
theorem St.may13 (h : St w0 w l) (x : It) (b : Bool) (hb : mayI x.k x.s x.n = b) :
    Calls Try.prog 39 #[.agg #[.string x.k, .int .i64 x.s, .slice x.A x.n x.c]] w fun e w' => e = .returned (.bool b) ∧ St w0 w' l := by
  subst hb
  exact (Go.Proofs.Ytbkpjjibgnachaa.may13 x.k x.s x.A x.n x.c w).mono fun _ _ ⟨h1, h2⟩ => ⟨h1, h.later h2⟩
/-- A part of a slice of one's own reads. -/
theorem slb_sub {g n c : Nat} {L : List UInt8} (h : St w0 w (ownP 5 1 (.slice (some ⟨g, 0, none⟩) n c) n (bys L) :: l)) (i k : Nat) (hi : i ≤ k) (hk : k ≤ n) : ((L.drop i).take (k - i)).length = k - i ∧ SlB w (some ⟨g, i, none⟩) (c - i) ((L.drop i).take (k - i)) := by
  obtain ⟨hn, h1, h2, h3, _, h5⟩ := slb_of_own h
  have hl : ((L.drop i).take (k - i)).length = k - i := by rw [List.length_take, List.length_drop]; omega
  refine ⟨hl, by omega, by omega, ?_, (fun e => by cases e), fun y hy => ?_⟩
  · have := rd_take (rd_drop (o := 0) h3 i) (k - i)
    rwa [Nat.zero_add] at this
  · cases hy
    obtain ⟨g', o', e, hg⟩ := h5 _ rfl
    cases e
    exact ⟨g, i, rfl, hg⟩
/-- The string of a slice that reads so. -/
theorem conv_rd {A : Option Addr} {n c : Nat} {L : List UInt8} (hr : RdV w A (bys L)) (hn : n = L.length) (hA : A = none → n = 0) (_ : True) : (convert 28 9 (.slice A n c)).run Try.prog w = .ok (.string (str L)) w :=
  run_bytes_str (P := Try.prog) 28 9 5 Try.underlying28 Try.underlying5 Try.underlying9 n c hr hn (fun e => List.eq_nil_of_length_eq_zero (by have := hA e; omega))
theorem conv_own {A : Option Addr} {n c : Nat} {L : List UInt8} (h : St w0 w (ownP 5 1 (.slice A n c) n (bys L) :: l)) (_ : True) : (convert 28 9 (.slice A n c)).run Try.prog w = .ok (.string (str L)) w :=
  conv_rd h.own_rdv.1 (by have := h.own_len; rw [bys_length] at this; omega) h.own_rdv.2.2.2 trivial
theorem dat_own {k : ByteArray} {s : Int} {A : Option Addr} {n c : Nat} {d : List UInt8} (h : St w0 w (ownP 5 1 (.slice A n c) n (bys d) :: l)) : DatI w ⟨k, s, A, n, c⟩ d := by
  obtain ⟨h1, h2, _, h4⟩ := h.own_rdv
  have hl : n = d.length := by have := h.own_len; rw [bys_length] at this; omega
  exact ⟨hl, h2, h1, fun e => List.eq_nil_of_length_eq_zero (by have := h4 e; omega)⟩
/-- Are two items the same? -/
def sameB (p q : It) (d d' : List UInt8) : Bool := (p.k.toList == q.k.toList) && (p.s == q.s) && decide (d = d')
theorem St.rec_same (h : St w0 w l) (p q : It) (d d' : List UInt8) (b : Bool) (hb : sameB p q d d' = b) (h1 : DatI w p d) (h2 : DatI w q d') :
    Calls Try.prog 45 #[.agg #[.string p.k, .int .i64 p.s, .slice p.A p.n p.c], .agg #[.string q.k, .int .i64 q.s, .slice q.A q.n q.c]] w fun e w' => e = .returned (.bool b) ∧ St w0 w' l := by
  subst hb
  exact (Go.Proofs.Ytbkpjjibgnachaa.rec_same p.k q.k p.s q.s p.A q.A p.n q.n p.c q.c d d' w h1.1 h2.1 h1.2.2.1 h2.2.2.1 h1.2.2.2 h2.2.2.2).mono fun _ _ ⟨g1, g2⟩ => ⟨g1, h.later g2⟩
theorem St.ref_same (h : St w0 w l) (p q : It) (d d' : List UInt8) (b : Bool) (hb : sameB p q d d' = b) (h1 : DatI w p d) (h2 : DatI w q d') :
    Calls Try.prog 30 #[.agg #[.string p.k, .int .i64 p.s, .slice p.A p.n p.c], .agg #[.string q.k, .int .i64 q.s, .slice q.A q.n q.c]] w fun e w' => e = .returned (.bool b) ∧ St w0 w' l := by
  subst hb
  refine (same13 p.k q.k p.s q.s p.A q.A p.n q.n p.c q.c d d' w h1.1 h2.1 h1.2.2.1 h2.2.2.1 h1.2.2.2 h2.2.2.2).mono fun _ _ ⟨g1, g2⟩ => ⟨?_, h.later g2⟩
  have e : ((str d).toList == (str d').toList) = decide (d = d') := by
    rw [Lib.toList_data, Lib.toList_data, str_data, str_data]
    by_cases h : d = d' <;> simp [h]
  rw [g1, e]
  rfl
theorem St.rec_less (h : St w0 w l) (p q : It) (b : Bool) (hb : lt2 p.k p.s q.k q.s = b) :
    Calls Try.prog 43 #[.agg #[.string p.k, .int .i64 p.s, .slice p.A p.n p.c], .agg #[.string q.k, .int .i64 q.s, .slice q.A q.n q.c]] w fun e w' => e = .returned (.bool b) ∧ St w0 w' l := by
  subst hb
  exact (Go.Proofs.Ytbkpjjibgnachaa.rec_less p.k q.k p.s q.s _ _ w).mono fun _ _ ⟨h1, h2⟩ => ⟨h1, h.later h2⟩
theorem St.ref_less (h : St w0 w l) (p q : It) (b : Bool) (hb : lt2 p.k p.s q.k q.s = b) :
    Calls Try.prog 44 #[.agg #[.string p.k, .int .i64 p.s, .slice p.A p.n p.c], .agg #[.string q.k, .int .i64 q.s, .slice q.A q.n q.c]] w fun e w' => e = .returned (.bool b) ∧ St w0 w' l := by
  subst hb
  exact (less13 p.k q.k p.s q.s _ _ w).mono fun _ _ ⟨h1, h2⟩ => ⟨h1, h.later h2⟩
end
end Go.Proofs.Ytbkpjjibgnachaa
