/- The record's functions over parts of memory, each in one form; append over parts. Conditions: none. -/
import Derived.Test.YtkglkpcpgdeneaaRecGetW
import Derived.Test.YtkglkpcpgdeneaaRecPut
import Derived.Test.YtkglkpcpgdeneaaRecSame
import Derived.Test.YtkglkpcpgdeneaaRefBytes
import Derived.Test.YtkglkpcpgdeneaaLessR
import Derived.Test.YtkglkpcpgdeneaaSame13
import Derived.Test.YtkglkpcpgdeneaaPutBeg
import Derived.Test.YtkglkpcpgdeneaaMay13
import Derived.Test.YtkglkpcpgdeneaaStApp
import Derived.Test.YtkglkpcpgdeneaaConvB
import Derived.Test.YtkglkpcpgdeneaaItems
namespace Go.Proofs.Ytkglkpcpgdeneaa
open Go.RowKit

section
variable {w0 w : World} {l : List Part}
theorem DatI.st {x : It} {d : List UInt8} (hd : DatI w0 x d) (h : St w0 w l) : DatI w x d := hd.keep h.keep
def itN (x : It) : Nat := 16 + x.k.size + x.n
theorem may_parts {k : ByteArray} {s : Int} {n : Nat} (h : mayI k s n = true) : k.size ≤ 200 ∧ 0 ≤ s ∧ s ≤ 4611686018427387904 ∧ n ≤ 1048576 := of_decide_eq_true h
def PutS (w0 : World) (l : List Part) (N : Nat) (L : List UInt8) (e : Ending) (w' : World) : Prop := ∃ A c, e = .returned (.tuple #[.slice A N c, .bool true]) ∧ N ≤ c ∧ St w0 w' (ownP 5 1 (.slice A N c) N (bys L) :: l)
theorem St.rec_put (h : St w0 w l) (x : It) (d : List UInt8) (N : Nat) (L : List UInt8) (hN : N = itN x) (hL : L = putL x.k x.s d) (hd : DatI w x d) (hm : mayI x.k x.s x.n = true) :
    Calls Try.prog 46 #[.agg #[.string x.k, .int .i64 x.s, .slice x.A x.n x.c]] w (PutS w0 l N L) := by
  subst hN hL
  obtain ⟨m1, m2, m3, m4⟩ := may_parts hm
  refine (put_yes x.k x.s x.A x.n x.c d w hd.1 hd.2.2.1 hd.2.2.2 m1 m2 m3 m4).mono ?_
  rintro e w' ⟨A, c, he, h1, _, h3, h4⟩
  exact ⟨A, c, he, h1, h.made h3 h4⟩
theorem St.rec_put_no (h : St w0 w l) (x : It) (hm : mayI x.k x.s x.n = false) :
    Calls Try.prog 46 #[.agg #[.string x.k, .int .i64 x.s, .slice x.A x.n x.c]] w fun e w' => e = .returned (.tuple #[.slice none 0 0, .bool false]) ∧ St w0 w' l :=
  (put_no x.k x.s x.A x.n x.c w (of_decide_eq_false hm)).mono fun _ _ ⟨h1, h2⟩ => ⟨h1, h.later h2⟩
def BytesS (w0 : World) (l : List Part) (N : Nat) (L : List UInt8) (e : Ending) (w' : World) : Prop := ∃ A c, e = .returned (.slice A N c) ∧ N ≤ c ∧ St w0 w' (ownP 5 1 (.slice A N c) N (bys L) :: l)
theorem St.ref_bytes (h : St w0 w l) (x : It) (d : List UInt8) (N : Nat) (L : List UInt8) (hN : N = itN x) (hL : L = putL x.k x.s d) (hd : DatI w x d) (hm : mayI x.k x.s x.n = true) :
    Calls Try.prog 30 #[.agg #[.string x.k, .int .i64 x.s, .slice x.A x.n x.c]] w (BytesS w0 l N L) := by
  subst hN hL
  obtain ⟨m1, m2, m3, m4⟩ := may_parts hm
  refine (refbytes_any x.k x.s x.A x.n x.c d w hd.1 hd.2.2.1 hd.2.2.2 m1 m2 m3 m4).mono ?_
  rintro e w' ⟨A, c, he, h1, _, h3, h4⟩
  exact ⟨A, c, he, h1, h.made h3 h4⟩
/-- What rec.Get says of these bytes. -/
def GetS (w0 : World) (l : List Part) (L : List UInt8) (e : Ending) (w' : World) : Prop := match begS L with
  | none => e = .returned (.tuple #[.agg #[.string ⟨#[]⟩, .int .i64 0, .slice none 0 0], .int .i64 0, .bool false]) ∧ St w0 w' l
  | some (k, s, d, t) => ∃ A c, e = .returned (.tuple #[.agg #[.string (str k), .int .i64 (s : Nat), .slice A d.length c], .int .i64 (t : Nat), .bool true]) ∧ d.length ≤ c ∧ St w0 w' (ownP 5 1 (.slice A d.length c) d.length (bys d) :: l)
theorem St.rec_get (h : St w0 w l) (A : Option Addr) (n c : Nat) (L : List UInt8) (hn : n = L.length) (hb : SlB w A c L) :
    Calls Try.prog 55 #[.slice A n c] w (GetS w0 l L) := by
  subst hn
  refine (get_any A c L w hb).mono ?_
  rintro e w' ⟨hk, ho⟩
  unfold GetS
  cases hbg : begS L with
  | none => rw [hbg] at ho; exact ⟨ho, h.later hk⟩
  | some q =>
    rw [hbg] at ho
    rcases q with ⟨k, s, d, t⟩
    have ho' : ∃ A c b, e = .returned (.tuple #[.agg #[.string (str k), .int .i64 (s : Nat), .slice A d.length c], .int .i64 (t : Nat), .bool true]) ∧ w.heap.size ≤ b ∧ w'.ownsRow b 5 1 (.slice A d.length c) d.length (bys d) := ho
    obtain ⟨A', c', b, he, hb', ho2⟩ := ho'
    obtain ⟨_, _, e1, hc, _, _⟩ := own_rd ho2
    injection e1 with _ _ e4
    subst e4
    exact ⟨A', c', he, hc, h.made (own_weaken ho2 hb') hk⟩
theorem str_list (k : ByteArray) : str k.data.toList = k := by
  apply ByteArray.ext
  simp [str]
/-- An item again, of the bytes that begin with it. -/
theorem St.rec_get_put (h : St w0 w l) (A : Option Addr) (n c : Nat) (L more : List UInt8) (x : It) (d : List UInt8) (hn : n = L.length) (hb : SlB w A c L) (hL : L = putL x.k x.s d ++ more) (hd : x.n = d.length) (hm : mayI x.k x.s x.n = true) :
    Calls Try.prog 55 #[.slice A n c] w fun e w' => ∃ A' c', e = .returned (.tuple #[.agg #[.string x.k, .int .i64 x.s, .slice A' x.n c'], .int .i64 (itN x : Nat), .bool true]) ∧ x.n ≤ c' ∧ St w0 w' (ownP 5 1 (.slice A' x.n c') x.n (bys d) :: l) := by
  obtain ⟨m1, m2, m3, m4⟩ := may_parts hm
  have hbg := begS_put x.k x.s d more m1 m2 m3 (by omega)
  rw [← hL] at hbg
  refine (h.rec_get A n c L hn hb).mono ?_
  intro e w' hg
  unfold GetS at hg
  rw [hbg] at hg
  obtain ⟨A', c', he, hc, hs⟩ := hg
  rw [← hd] at he hc hs
  refine ⟨A', c', ?_, hc, hs⟩
  rw [he, str_list, Int.toNat_of_nonneg m2]
  unfold itN
  rw [hd]
theorem slb_of_own {A : Option Addr} {n c : Nat} {L : List UInt8} (h : St w0 w (ownP 5 1 (.slice A n c) n (bys L) :: l)) : n = L.length ∧ SlB w A c L := by
  have hl : n = L.length := by have := h.own_len; rw [bys_length] at this; omega
  obtain ⟨h1, h2, h3, h4⟩ := h.own_rdv
  refine ⟨hl, by omega, h3, h1, fun e => List.eq_nil_of_length_eq_zero (by have := h4 e; omega), fun y hy => ?_⟩
  subst hy
  have ho := h.own
  rcases own_form ho with ⟨e, _⟩ | ⟨g, c', e, _⟩
  · cases e
  · injection e with e _ _
    cases e
    exact ⟨g, 0, rfl, ownBlock_lt ho g rfl⟩
theorem St.may13 (h : St w0 w l) (x : It) (b : Bool) (hb : mayI x.k x.s x.n = b) :
    Calls Try.prog 28 #[.agg #[.string x.k, .int .i64 x.s, .slice x.A x.n x.c]] w fun e w' => e = .returned (.bool b) ∧ St w0 w' l := by
  subst hb
  exact (Go.Proofs.Ytkglkpcpgdeneaa.may13 x.k x.s x.A x.n x.c w).mono fun _ _ ⟨h1, h2⟩ => ⟨h1, h.later h2⟩
/-- A part of a slice of one's own reads. -/
theorem slb_sub {g n c : Nat} {L : List UInt8} (h : St w0 w (ownP 5 1 (.slice (some ⟨g, 0, none⟩) n c) n (bys L) :: l)) (i k : Nat) (hi : i ≤ k) (hk : k ≤ n) : ((L.drop i).take (k - i)).length = k - i ∧ SlB w (some ⟨g, i, none⟩) (c - i) ((L.drop i).take (k - i)) := by
  obtain ⟨hn, h1, h2, h3, _, h5⟩ := slb_of_own h
  have hl : ((L.drop i).take (k - i)).length = k - i := by rw [List.length_take, List.length_drop]; omega
  refine ⟨hl, by omega, by omega, ?_, (fun e => by cases e), fun y hy => ?_⟩
  · have := rd_take (rd_drop (o := 0) h3 i) (k - i)
    rwa [Nat.zero_add] at this
  · cases hy
    obtain ⟨g', o', e, hg⟩ := h5 _ rfl
    cases e
    exact ⟨g, i, rfl, hg⟩
theorem dat_own {k : ByteArray} {s : Int} {A : Option Addr} {n c : Nat} {d : List UInt8} (h : St w0 w (ownP 5 1 (.slice A n c) n (bys d) :: l)) : DatI w ⟨k, s, A, n, c⟩ d := by
  obtain ⟨h1, h2, _, h4⟩ := h.own_rdv
  have hl : n = d.length := by have := h.own_len; rw [bys_length] at this; omega
  exact ⟨hl, h2, h1, fun e => List.eq_nil_of_length_eq_zero (by have := h4 e; omega)⟩
/-- Are two items the same? -/
def sameB (p q : It) (d d' : List UInt8) : Bool := (p.k.toList == q.k.toList) && (p.s == q.s) && decide (d = d')
theorem St.ref_same (h : St w0 w l) (p q : It) (d d' : List UInt8) (b : Bool) (hb : sameB p q d d' = b) (h1 : DatI w p d) (h2 : DatI w q d') :
    Calls Try.prog 33 #[.agg #[.string p.k, .int .i64 p.s, .slice p.A p.n p.c], .agg #[.string q.k, .int .i64 q.s, .slice q.A q.n q.c]] w fun e w' => e = .returned (.bool b) ∧ St w0 w' l := by
  subst hb
  refine (same13 p.k q.k p.s q.s p.A q.A p.n q.n p.c q.c d d' w h1.1 h2.1 h1.2.2.1 h2.2.2.1 h1.2.2.2 h2.2.2.2).mono fun _ _ ⟨g1, g2⟩ => ⟨?_, h.later g2⟩
  have e : ((str d).toList == (str d').toList) = decide (d = d') := by
    rw [Lib.toList_data, Lib.toList_data, str_data, str_data]
    by_cases h : d = d' <;> simp [h]
  rw [g1, e]
  rfl
theorem St.rec_less (h : St w0 w l) (p q : It) (b : Bool) (hb : lt2 p.k p.s q.k q.s = b) :
    Calls Try.prog 91 #[.agg #[.string p.k, .int .i64 p.s, .slice p.A p.n p.c], .agg #[.string q.k, .int .i64 q.s, .slice q.A q.n q.c]] w fun e w' => e = .returned (.bool b) ∧ St w0 w' l := by
  subst hb
  exact (Go.Proofs.Ytkglkpcpgdeneaa.rec_less p.k q.k p.s q.s _ _ w).mono fun _ _ ⟨h1, h2⟩ => ⟨h1, h.later h2⟩
theorem St.ref_less (h : St w0 w l) (p q : It) (b : Bool) (hb : lt2 p.k p.s q.k q.s = b) :
    Calls Try.prog 38 #[.agg #[.string p.k, .int .i64 p.s, .slice p.A p.n p.c], .agg #[.string q.k, .int .i64 q.s, .slice q.A q.n q.c]] w fun e w' => e = .returned (.bool b) ∧ St w0 w' l := by
  subst hb
  exact (less13 p.k q.k p.s q.s _ _ w).mono fun _ _ ⟨h1, h2⟩ => ⟨h1, h.later h2⟩
end
end Go.Proofs.Ytkglkpcpgdeneaa
