/- HeapPlays: the walk. Conditions: none. -/
import Derived.Test.YtbkpjjibgnachaaPlaysP
import Derived.Test.YtbkpjjibgnachaaTake15
import Derived.Test.YtbkpjjibgnachaaSame13
import Derived.Test.YtbkpjjibgnachaaStepApp
import Derived.Test.YtbkpjjibgnachaaHeapSorts
import Derived.Test.YtbkpjjibgnachaaHeapQ
import Derived.Deep.RegionHeld3
import Derived.Test.YtbkpjjibgnachaaRowBools
namespace Go.Proofs.Ytbkpjjibgnachaa
open Go.RowKit

/-- An entry's bytes, by choice. -/
noncomputable def datOf (w : World) (e : En) : List UInt8 := by
  classical
  exact if h : DatE w e then h.choose else []
theorem datOf_eq {w : World} {e : En} (h : DatE w e) : e.n = (datOf w e).length ∧ e.n ≤ e.c ∧ RdV w e.A (bys (datOf w e)) ∧ (e.A = none → datOf w e = []) := by
  unfold datOf
  rw [dif_pos h]
  exact h.choose_spec
set_option maxRecDepth 100000 in
theorem heapPlays_big (A : Option Addr) (n c : Nat) (Ap : Option Addr) (np cp : Nat) (w : World) (hl : 100 < n ∨ 300 < np) :
    Calls Try.prog 5 #[.slice A n c, .slice Ap np cp] w fun e w' => e = .returned (.bool true) ∧ Keep (fun b => w.heap.size ≤ b) w w' := by
  go_enter Try.func5, Try.ntmps5
  by_cases h1 : 100 < n
  · have hd : (100 : Int) < (n : Int) := by omega
    clear hl h1
    go_wp2_with (refine (answers15 _).mono ?_; rintro e w' ⟨rfl, hk⟩; have HK := Lib.hid hk; clear hk)
    go_ret
    exact ⟨rfl, HK.out⟩
  · have hd : decide ((100 : Int) < (n : Int)) = false := decide_eq_false (by omega)
    have hd2 : (300 : Int) < (np : Int) := by omega
    clear hl h1
    go_wp2_with (refine (answers15 _).mono ?_; rintro e w' ⟨rfl, hk⟩; have HK := Lib.hid hk; clear hk)
    go_ret
    exact ⟨rfl, HK.out⟩
/-- Heap and list hold the same. -/
structure PlaysOk (w0 : World) (H l : List En) : Prop where
  ord : Ord H
  perm : (H.map (ct (datOf w0))).Perm (l.map (ct (datOf w0)))
  dat : ∀ e, (e ∈ H ∨ e ∈ l) → DatE w0 e
theorem PlaysOk.len {w0 : World} {H l : List En} (h : PlaysOk w0 H l) : H.length = l.length := by
  have := h.perm.length_eq; simpa using this
theorem plays_start (w0 : World) : PlaysOk w0 [] [] := ⟨ord_nil, List.Perm.refl _, (fun e h => by rcases h with h | h <;> cases h)⟩
theorem PlaysOk.push {w0 : World} {H l : List En} {e : En} (h : PlaysOk w0 H l) (he : DatE w0 e) : PlaysOk w0 (pushE H e) (l ++ [e]) := by
  refine ⟨push_ord e h.ord, plays_push _ e h.perm, fun x hx => ?_⟩
  rcases hx with hx | hx
  · have := (push_perm H e).subset hx
    rcases List.mem_cons.1 this with rfl | h3
    · exact he
    · exact h.dat x (.inl h3)
  · rcases List.mem_append.1 hx with h3 | h3
    · exact h.dat x (.inr h3)
    · obtain rfl := List.mem_singleton.1 h3; exact he
theorem PlaysOk.pop {w0 : World} {H l : List En} (h : PlaysOk w0 H l) (h0 : 0 < H.length) (n : Nat) (hn : n < l.length) (he : ct (datOf w0) (gE l n) = ct (datOf w0) (gE H 0)) : PlaysOk w0 (popE H) (l.take n ++ l.drop (n + 1)) := by
  refine ⟨pop_ord h.ord h0, plays_pop _ h.perm h0 n hn he, fun x hx => ?_⟩
  rcases hx with hx | hx
  · exact h.dat x (.inl ((pop_perm H h0).subset (List.mem_cons_of_mem _ hx)))
  · rcases List.mem_append.1 hx with h3 | h3
    · exact h.dat x (.inr (List.mem_of_mem_take h3))
    · exact h.dat x (.inr (List.mem_of_mem_drop h3))
def Lst (A : Option Addr) (c : Nat) (l : List En) : Part := ownP 49 4 (.slice A l.length c) l.length (flatE l)
theorem St.lst {w0 w : World} {r : List Part} {A : Option Addr} {c : Nat} {l : List En} (h : St w0 w (Lst A c l :: r)) (h0 : 0 < l.length) : ∃ g, A = some ⟨g, 0, none⟩ ∧ RowE w g c l := by
  have ho := St.own (e := 49) (size := 4) (v := .slice A l.length c) (n := l.length) (xs := flatE l) h
  rcases ho.2 with ⟨_, h1⟩ | ⟨g, cap, cur, hv, _⟩
  · omega
  · injection hv with e1 e2 e3
    subst e1
    subst e3
    exact ⟨g, rfl, RowE.of_own ho⟩
/-- The last place, of those ahead of j, of one that is the same. -/
def AtOk (w : World) (l : List En) (X : En) (j : Nat) (v : Value) : Prop := (v = .int .i64 (-1) ∧ ∀ n, n < j → ct (datOf w) (gE l n) ≠ ct (datOf w) X) ∨ ∃ a : Nat, a < j ∧ v = .int .i64 a ∧ ct (datOf w) (gE l a) = ct (datOf w) X
theorem row_rd {w : World} {g c : Nat} {l : List En} (h : RowE w g c l) (m : Nat) : RdV w (some ⟨g, m * 4, none⟩) (flatE (l.drop m)) := by
  intro j u hj
  refine ⟨_, rfl, ?_⟩
  rw [add_plain]
  have hlt : j < (l.drop m).length * 4 := by
    rw [← flatE_len]
    exact (List.getElem?_eq_some_iff.1 hj).1
  rw [List.length_drop] at hlt
  have h1 := h.cell (m + j / 4) (j % 4) (by omega) (by omega)
  rw [show (m + j / 4) * 4 + j % 4 = m * 4 + j by omega] at h1
  rw [h1, ← hj]
  have h2 := flatE_get (l.drop m) (j / 4) (j % 4) (by rw [List.length_drop]; omega) (by omega)
  rw [show j / 4 * 4 + j % 4 = j by omega] at h2
  rw [h2]
  simp
theorem src_take {w0 w u : World} {r : List Part} {g c : Nat} {l : List En} (h : St w0 w (Lst (some ⟨g, 0, none⟩) c l :: r)) (a : Nat) (ha : a ≤ l.length) (k : Keep (fun j => w.heap.size ≤ j) w u) :
    Src Try.prog 4 40 (.slice (some ⟨g, 0, none⟩) a c) a (flatE (l.take a)) u := by
  refine Src.of_rd Try.underlying40 ?_ a c (by rw [flatE_len, List.length_take]; omega) (one_En _) (fun e => by cases e)
  rcases Nat.eq_zero_or_pos a with rfl | h0
  · simp only [List.take_zero, flatE_nil]; exact RdV.nil _ _
  obtain ⟨g', hg, hr⟩ := h.lst (by omega)
  cases hg
  have h1 := (row_rd hr 0).old k
  simp only [Nat.zero_mul, List.drop_zero] at h1
  intro j v hj
  have h2 : flatE l = flatE (l.take a) ++ flatE (l.drop a) := by rw [← flatE_append, List.take_append_drop]
  refine h1 j v ?_
  rw [h2, List.getElem?_append_left (List.getElem?_eq_some_iff.1 hj).1]
  exact hj
theorem src_drop {w0 w u : World} {r : List Part} {g c : Nat} {l : List En} (h : St w0 w (Lst (some ⟨g, 0, none⟩) c l :: r)) (a : Nat) (hc : l.length ≤ c) (ha : a ≤ l.length) (k : Keep (fun j => w.heap.size ≤ j) w u) :
    Src Try.prog 4 40 (.slice (if c = a then some ⟨g, 0, none⟩ else some ⟨g, a * 4, none⟩) (l.length - a) (c - a)) (l.length - a) (flatE (l.drop a)) u := by
  refine Src.of_rd Try.underlying40 ?_ (l.length - a) (c - a) (by rw [flatE_len, List.length_drop]) (one_En _) (fun e => by split at e <;> cases e)
  rcases Nat.eq_or_lt_of_le ha with h0 | h0
  · rw [List.drop_of_length_le (by omega)]; exact RdV.nil _ _
  · rw [if_neg (by omega)]
    obtain ⟨g', hg, hr⟩ := h.lst (by omega)
    cases hg
    exact (row_rd hr a).old k
theorem del_keep1 {w w1 : World} (hg : ((w.alloc (Obj.cells #[] 49)).drew).grownBy w1 (Value.slice (some ⟨w.heap.size, 0, none⟩) 0 0).ownBlock) : Keep (fun j => w.heap.size ≤ j) w w1 :=
  (((Keep.refl _ w).alloc _).drew).trans' (Keep.of_grown hg) (fun j _ e => by injection (show some j = some w.heap.size from e) with e; omega)
theorem del_row {w0 w w1 w2 : World} {l H : List En} {A : Option Addr} {a n2 hb xb yb c : Nat} {X Y : En} {v1 v2 : Value} (h : St w0 w [blkP xb 49 X.cells, heapP hb H, blkP yb 49 Y.cells, Lst A c l]) (ha : a < l.length) (hn : n2 + 1 = l.length)
    (o1 : w1.ownsRow w.heap.size 49 4 v1 (0 + a) ([] ++ flatE (l.take a))) (g1 : ((w.alloc (Obj.cells #[] 49)).drew).grownBy w1 (Value.slice (some ⟨w.heap.size, 0, none⟩) 0 0).ownBlock)
    (_at1 : v1.ownBlock = (Value.slice (some ⟨w.heap.size, 0, none⟩) 0 0).ownBlock ∨ v1.ownBlock = some ((w.alloc (Obj.cells #[] 49)).drew).heap.size)
    (o2 : w2.ownsRow w.heap.size 49 4 v2 (0 + a + (l.length - (a + 1))) ([] ++ flatE (l.take a) ++ flatE (l.drop (a + 1)))) (g2 : w1.grownBy w2 v1.ownBlock) :
    ∃ A2 c2, v2 = .slice A2 n2 c2 ∧ St w0 w2 [Lst A2 c2 (l.take a ++ l.drop (a + 1)), heapP hb H] := by
  have k1 := del_keep1 g1
  have hs := k1.size
  have k2 : Keep (fun j => w.heap.size ≤ j) w w2 := k1.trans' (Keep.of_grown g2) (fun j _ e => own_base o1 j (by rw [e]))
  have hl : (l.take a ++ l.drop (a + 1)).length = n2 := by simp; omega
  rw [List.nil_append, ← flatE_append, show 0 + a + (l.length - (a + 1)) = n2 by omega] at o2
  obtain ⟨A2, c2, rfl, _⟩ := own_rd o2
  refine ⟨A2, c2, rfl, ?_⟩
  have h2 : St w0 w [heapP hb H] := by
    have h3 := h.tail
    exact (h3.perm (show [heapP hb H, blkP yb 49 Y.cells, Lst A c l].Perm [Lst A c l, blkP yb 49 Y.cells, heapP hb H] from by
      exact (List.reverse_perm [Lst A c l, blkP yb 49 Y.cells, heapP hb H]))).tail.tail
  unfold Lst
  rw [hl]
  exact h2.made o2 k2
theorem AtOk.miss {w : World} {l : List En} {X : En} {j : Nat} {v : Value} (h : AtOk w l X j v) (hn : ct (datOf w) (gE l j) ≠ ct (datOf w) X) : AtOk w l X (j + 1) v := by
  rcases h with ⟨h1, h2⟩ | ⟨a, h1, h2, h3⟩
  · refine .inl ⟨h1, fun n hn2 => ?_⟩
    rcases Nat.lt_or_ge n j with h | h
    · exact h2 n h
    · rw [show n = j by omega]; exact hn
  · exact .inr ⟨a, by omega, h2, h3⟩
theorem AtOk.found {w : World} {l : List En} {X : En} {j : Nat} {v : Value} (h : AtOk w l X j v) (he : ∃ n, n < l.length ∧ ct (datOf w) (gE l n) = ct (datOf w) X) (hj : l.length ≤ j) : ∃ a : Nat, a < j ∧ v = .int .i64 a ∧ ct (datOf w) (gE l a) = ct (datOf w) X := by
  rcases h with ⟨_, h2⟩ | h
  · obtain ⟨n, h3, h4⟩ := he
    exact absurd h4 (h2 n (by omega))
  · exact h
theorem same_en (w0 : World) (a b : En) (ha : DatE w0 a) (hb : DatE w0 b) (hr : (a.r == b.r) = true) (t : Bool) (ht : decide (ct (datOf w0) a = ct (datOf w0) b) = t) (w : World) (k : Keep (fun j => w0.heap.size ≤ j) w0 w) :
    Calls Try.prog 30 #[.agg #[.string a.k, .int .i64 a.s, .slice a.A a.n a.c], .agg #[.string b.k, .int .i64 b.s, .slice b.A b.n b.c]] w fun e w' => e = .returned (.bool t) ∧ Keep (fun b => w.heap.size ≤ b) w w' := by
  obtain ⟨h1, _, h2, h3⟩ := datOf_eq ha
  obtain ⟨g1, _, g2, g3⟩ := datOf_eq hb
  have := same13 a.k b.k a.s b.s a.A b.A a.n b.n a.c b.c (datOf w0 a) (datOf w0 b) w h1 g1 (h2.old k) (g2.old k) h3 g3
  rw [show ((a.k.toList == b.k.toList) && (a.s == b.s) && ((str (datOf w0 a)).toList == (str (datOf w0 b)).toList)) = t from ?_] at this
  · exact this
  · rw [← ht, Bool.eq_iff_iff]
    have hr : a.r = b.r := by simpa using hr
    simp [ct, rk, hr, and_assoc, Lib.toList_data, str_data]
theorem less_no (a b : En) (h : ltN a b = false) (w : World) :
    Calls Try.prog 29 #[.agg #[.string a.k, .int .i64 a.s, .slice a.A a.n a.c, .int .i64 a.r], .agg #[.string b.k, .int .i64 b.s, .slice b.A b.n b.c, .int .i64 b.r]] w fun e w' => e = .returned (.bool false) ∧ Keep (fun b => w.heap.size ≤ b) w w' := by
  have := less15 a.k b.k a.s a.r b.s b.r (.slice a.A a.n a.c) (.slice b.A b.n b.c) w
  rw [show ltE a.k a.s a.r b.k b.s b.r = false from h] at this
  exact this
theorem one_cells (x : En) : ∀ u ∈ x.cells, u.oneCell' = true := by
  intro u hu
  simp only [En.cells, List.mem_cons, List.not_mem_nil, or_false] at hu
  rcases hu with rfl | rfl | rfl | rfl <;> rfl
theorem take_out {L : List En} {w w' : World} {e : Ending} (h : TakePost L w e w') (h0 : 0 < L.length) : ∃ k : Nat, k < L.length ∧ e = .returned (.int .i64 k) ∧ (∀ j, j < L.length → ltN (gE L j) (gE L k) = false) ∧ Keep (fun b => w.heap.size ≤ b) w w' := by
  obtain ⟨hk, h | ⟨k, h1, h2, h3⟩⟩ := h
  · rw [h.1] at h0; simp at h0
  · exact ⟨k, h1, h2, h3, hk⟩
theorem take_out0 {w w' : World} {e : Ending} (h : TakePost [] w e w') : e = .returned (.int .i64 (-1)) ∧ Keep (fun b => w.heap.size ≤ b) w w' := by
  obtain ⟨hk, h | ⟨k, h1, _⟩⟩ := h
  · exact ⟨h.2, hk⟩
  · simp at h1
theorem push_row {w0 w w' : World} {r : List Part} {A : Option Addr} {c : Nat} {l : List En} {x : En} {v' : Value} {b0 : Nat} (h : St w0 w (Lst A c l :: r)) (ho : w'.ownsRow b0 49 4 v' (l.length + 1) (flatE l ++ x.cells))
    (k : Keep (fun j => some j = (Value.slice A l.length c).ownBlock) w w') (hat : v'.ownBlock = (Value.slice A l.length c).ownBlock ∨ ∃ b, v'.ownBlock = some b ∧ w.heap.size ≤ b) : ∃ A' c', v' = .slice A' (l ++ [x]).length c' ∧ St w0 w' (Lst A' c' (l ++ [x]) :: r) := by
  have h2 : ∃ A' c', v' = .slice A' (l ++ [x]).length c' := by
    rcases ho.2 with ⟨_, h1⟩ | ⟨g, cap, cur, hv, _⟩
    · omega
    · exact ⟨some ⟨g, 0, none⟩, cap, by rw [hv]; simp⟩
  obtain ⟨A', c', rfl⟩ := h2
  refine ⟨A', c', rfl, ?_⟩
  refine St.grown (e := 49) (size := 4) (v := .slice A l.length c) (n := l.length) (xs := flatE l) h (n' := (l ++ [x]).length) (b0 := b0) ?_ (k.mono (fun _ _ e => .inl e)) hat
  rw [flatE_append]
  have e1 : flatE [x] = x.cells := by simp [flatE]
  rw [e1]
  simpa using ho
set_option maxRecDepth 100000 in
set_option maxHeartbeats 8000000 in
theorem heapPlays_small (A : Option Addr) (c : Nat) (L : List En) (Ap : Option Addr) (cp : Nat) (P : List Bool) (w : World) (hr : RdE w A L) (hdat : ∀ e ∈ L, DatE w e) (hl : L.length ≤ 100) (hrp : RdV w Ap (P.map Value.bool)) (hp : P.length ≤ 300) :
    Calls Try.prog 5 #[.slice A L.length c, .slice Ap P.length cp] w fun e w' => e = .returned (.bool true) ∧ Keep (fun b => w.heap.size ≤ b) w w' := by
  have HR := Lib.hid hr
  have HRP := Lib.hid hrp
  have HL := Lib.hid hl
  have HP := Lib.hid hp
  have HD := Lib.hid hdat
  have hd : decide ((100 : Int) < (L.length : Int)) = false := decide_eq_false (by omega)
  have hd2 : decide ((300 : Int) < (P.length : Int)) = false := decide_eq_false (by omega)
  clear hr hrp hl hp hdat
  go_enter Try.func5, Try.ntmps5
  go_wp2_with fail
  have hS : St w (w.alloc (Obj.cells #[.slice none 0 0] 44)) [Lst none 0 [], heapP w.heap.size []] := ((St.start w).heap_new).nil _ 4
  have HS0 := Lib.hid hS
  clear hS
  generalize w.alloc (Obj.cells #[.slice none 0 0] 44) = w1 at HS0 ⊢
  have HB : Hid (∃ b, b = w.heap.size) := Lib.hid ⟨_, rfl⟩
  generalize hhb : w.heap.size = hb at HS0 ⊢
  clear hhb HB
  go_loopw [6, 7, 8] (fun v6 v7 v8 wr => ∃ (i nx : Nat) (H l : List En) (A' : Option Addr) (c' : Nat), i ≤ P.length ∧ nx ≤ L.length ∧ v6 = .slice A' l.length c' ∧ v7 = .int .i64 nx ∧ v8 = .int .i64 i ∧ Hid (l.length ≤ i) ∧ Hid (PlaysOk w H l) ∧ Hid (St w wr [Lst A' c' l, heapP hb H])) (fun _ _ v8 _ => P.length - (intOf v8).toNat)
  case atStart => exact ⟨0, 0, [], [], none, 0, Nat.zero_le _, Nat.zero_le _, rfl, rfl, rfl, Lib.hid (Nat.le_refl _), Lib.hid (plays_start w), HS0⟩
  case round =>
    clear HS0
    obtain ⟨i, nx, H, l, A', c', hi, hnx, rfl, rfl, rfl, HLI, HPL, HST⟩ := hrel
    by_cases hb' : i < P.length
    · obtain ⟨ap, hap, hcp⟩ := (HST.out.rd HRP.out) i (.bool P[i]) (by simp [hb'])
      generalize hPi : P[i] = b at hcp
      subst hap
      have HIP := Lib.hid hb'
      have q1 : (0 : Int) ≤ i := by omega
      have q2 : (i : Int) < (P.length : Int) := by omega
      have hpp := HP.out
      have q3 : (P.length : Int) ≤ 4611686018427387904 := by omega
      have hlll := HL.out
      have q4 : (L.length : Int) ≤ 4611686018427387904 := by omega
      have HL300 : Hid (l.length ≤ 300) := Lib.hid (by have := HLI.out; omega)
      have q5 : (l.length : Int) ≤ 4611686018427387904 := by have := HL300.out; omega
      have HHL : Hid (H.length = l.length) := Lib.hid HPL.out.len
      clear hPi hb' hpp hlll
      by_cases hpush : b = true ∧ nx < L.length
      · obtain ⟨rfl, hnl⟩ := hpush
        rcases HR.out with ⟨_, hL0⟩ | ⟨bA, oA, hAA, hcA⟩
        · rw [hL0] at hnl; simp at hnl
        subst hAA
        have n1 : (0 : Int) ≤ nx := by omega
        have n2 : (nx : Int) < (L.length : Int) := by omega
        have HNL := Lib.hid hnl
        have HDX : Hid (DatE w L[nx]) := Lib.hid (HD.out _ (List.getElem_mem _))
        have HCA : Hid (∀ u, Keep (fun b => w.heap.size ≤ b) w u → u.cell? ⟨bA, oA + nx * 4, none⟩ = some (.string L[nx].k) ∧ u.cell? ⟨bA, oA + nx * 4 + 1, none⟩ = some (.int .i64 L[nx].s) ∧ u.cell? ⟨bA, oA + nx * 4 + 2, none⟩ = some (.slice L[nx].A L[nx].n L[nx].c) ∧ u.cell? ⟨bA, oA + nx * 4 + 3, none⟩ = some (.int .i64 L[nx].r)) := Lib.hid (fun u k => ⟨old_cell (hcA nx 0 hnl (by omega)) k, old_cell (hcA nx 1 hnl (by omega)) k, old_cell (hcA nx 2 hnl (by omega)) k, old_cell (hcA nx 3 hnl (by omega)) k⟩)
        generalize L[nx] = X at HDX HCA
        obtain ⟨x0, x1, x2, x3⟩ := HCA.out _ HST.out.keep
        clear hcA hnl
        go_wp2_with fail
        refine (St.heap_push HST.out.swap X (by rw [HHL.out]; have := HL300.out; omega)).mono ?_
        rintro e w2 ⟨rfl, hs⟩
        have HS2 := Lib.hid hs.swap
        clear hs x0 x1 x2 x3 HST
        obtain ⟨x0, x1, x2, x3⟩ := HCA.out _ HS2.out.keep
        go_wp2_with (
          at_builtin
          refine wpL_push w2 rfl (.tmp 48) (.tmp 53) 40 rfl w.heap.size 49 (.agg #[.string ⟨#[]⟩, .int .i64 0, .slice none 0 0, .int .i64 0]) 4 56 Try.underlying40 infoEn rfl (by decide) (.slice A' l.length c') l.length (flatE l) rfl (St.own HS2.out) X.cells rfl (one_cells X) _ rfl rfl (by have := HL300.out; unfold maxLen; omega) (by have := HL300.out; omega) HS2.out.size ?_
          intro v3 w3 hown3 hk3 hat3
          obtain ⟨A3, c3, rfl, hs3⟩ := push_row HS2.out hown3 hk3 hat3
          have HS3 := Lib.hid hs3
          clear hown3 hk3 hat3 hs3 x0 x1 x2 x3)
        refine (St.heap_len HS3.out.swap).mono ?_
        rintro e w4 ⟨rfl, rfl⟩
        rw [show ((pushE H X).length : Int) = (l.length : Int) + 1 by rw [push_len, HHL.out]; omega]
        go_wp2_with fail
        go_roundw
        case rel => exact ⟨i + 1, nx + 1, pushE H X, l ++ [X], A3, c3, by have := HIP.out; omega, by have := HNL.out; omega, by simp, by go_num, by go_num, Lib.hid (by rw [List.length_append, List.length_singleton]; have := HLI.out; omega), Lib.hid (HPL.out.push HDX.out), HS3⟩
        case measure => have := HIP.out; simp [intOf]; omega
      · -- a pop
        have hpo : b = false ∧ True ∨ b = true ∧ decide (nx < L.length) = false := by
          cases b
          · exact .inl ⟨rfl, trivial⟩
          · exact .inr ⟨rfl, decide_eq_false (fun h => hpush ⟨rfl, h⟩)⟩
        clear hpush
        rcases hpo with ⟨rfl, hdec⟩ | ⟨rfl, hdec⟩
        all_goals
          rcases Nat.eq_zero_or_pos l.length with hl0 | hl0
          · obtain rfl : l = [] := List.eq_nil_of_length_eq_zero hl0
            have HH0 : Hid (H.length = 0) := Lib.hid HHL.out
            clear hl0 HHL q5
            simp only [List.length_nil]
            go_wp2_with fail
            refine (take_nil A' c' wr).mono ?_
            rintro e w2 htk
            obtain ⟨rfl, K2⟩ := take_out0 htk
            have HS2 := Lib.hid (HST.out.later K2)
            clear htk K2 HST
            go_wp2_with fail
            refine (St.heap_least_no HS2.out.swap HH0.out).mono ?_
            rintro e w3 ⟨rfl, hs⟩
            simp only [valE, z0]
            have HS3 : Hid (St w (w3.alloc (Obj.cells #[.string ⟨#[]⟩, .int .i64 0, .slice none 0 0, .int .i64 0] 49)) [heapP hb H, Lst A' c' []]) := Lib.hid (hs.alloc _)
            clear hs HS2
            go_wp2_with fail
            generalize w3.alloc (Obj.cells #[.string ⟨#[]⟩, .int .i64 0, .slice none 0 0, .int .i64 0] 49) = w4 at HS3 ⊢
            refine (St.heap_pop_no HS3.out HH0.out).mono ?_
            rintro e w5 ⟨rfl, hs⟩
            simp only [valE, z0]
            have HS5 : Hid (St w (w5.alloc (Obj.cells #[.string ⟨#[]⟩, .int .i64 0, .slice none 0 0, .int .i64 0] 49)) [heapP hb H, Lst A' c' []]) := Lib.hid (hs.alloc _)
            clear hs HS3
            go_wp2_with fail
            generalize w5.alloc (Obj.cells #[.string ⟨#[]⟩, .int .i64 0, .slice none 0 0, .int .i64 0] 49) = w6 at HS5 ⊢
            refine (St.heap_len HS5.out).mono ?_
            rintro e w11 ⟨rfl, rfl⟩
            rw [HH0.out]
            go_wp2_with fail
            go_roundw
            case rel => exact ⟨i + 1, nx, H, [], A', c', by have := HIP.out; omega, hnx, rfl, rfl, by go_num, Lib.hid (by have := HLI.out; simp), HPL, Lib.hid HS5.out.swap⟩
            case measure => have := HIP.out; simp [intOf]; omega
          · obtain ⟨g, rfl, hrow⟩ := HST.out.lst hl0
            have HROW := Lib.hid hrow
            have HL0 := Lib.hid hl0
            have HH0 : Hid (0 < H.length) := Lib.hid (by rw [HHL.out]; exact hl0)
            have HHM : Hid (H.length < 1000000) := Lib.hid (by rw [HHL.out]; have := HL300.out; omega)
            clear hrow hl0
            go_wp2_with fail
            refine (take_some g c' l wr HROW.out (by have := HL300.out; omega)).mono ?_
            rintro e w2 htk
            obtain ⟨k, hkl, rfl, hmin, K2⟩ := take_out htk HL0.out
            have HS2 := Lib.hid (HST.out.later K2)
            have HKL := Lib.hid hkl
            have HMIN := Lib.hid hmin
            have k1 : (0 : Int) ≤ k := by omega
            have k2 : (k : Int) < (l.length : Int) := by omega
            clear htk K2 hkl hmin HST HROW
            go_wp2_with fail
            refine (St.heap_least HS2.out.swap HH0.out).mono ?_
            rintro e w3 ⟨rfl, hs⟩
            simp only [valE]
            have HS3 : Hid (St w (w3.alloc (Obj.cells #[.string (gE H 0).k, .int .i64 (gE H 0).s, .slice (gE H 0).A (gE H 0).n (gE H 0).c, .int .i64 (gE H 0).r] 49)) [heapP hb H, blkP w3.heap.size 49 (gE H 0).cells, Lst (some ⟨g, 0, none⟩) c' l]) := Lib.hid ((hs.box (gE H 0).cells 49).swap)
            clear hs HS2
            go_wp2_with fail
            generalize w3.alloc (Obj.cells #[.string (gE H 0).k, .int .i64 (gE H 0).s, .slice (gE H 0).A (gE H 0).n (gE H 0).c, .int .i64 (gE H 0).r] 49) = w4 at HS3 ⊢
            generalize w3.heap.size = yb at HS3 ⊢
            refine (St.heap_pop HS3.out HH0.out HHM.out).mono ?_
            rintro e w5 ⟨rfl, hs⟩
            simp only [valE]
            have HS5 : Hid (St w (w5.alloc (Obj.cells #[.string (gE H 0).k, .int .i64 (gE H 0).s, .slice (gE H 0).A (gE H 0).n (gE H 0).c, .int .i64 (gE H 0).r] 49)) [blkP w5.heap.size 49 (gE H 0).cells, heapP hb (popE H), blkP yb 49 (gE H 0).cells, Lst (some ⟨g, 0, none⟩) c' l]) := Lib.hid (hs.box (gE H 0).cells 49)
            clear hs HS3
            go_wp2_with fail
            generalize w5.alloc (Obj.cells #[.string (gE H 0).k, .int .i64 (gE H 0).s, .slice (gE H 0).A (gE H 0).n (gE H 0).c, .int .i64 (gE H 0).r] 49) = w6 at HS5 ⊢
            generalize w5.heap.size = xb at HS5 ⊢
            have HLE : Hid (ltN (gE H 0) (gE l k) = false ∧ ltN (gE l k) (gE H 0) = false) := Lib.hid (plays_least _ HPL.out.ord HPL.out.perm HH0.out k HKL.out HMIN.out)
            have HXX : Hid (ltN (gE H 0) (gE H 0) = false) := Lib.hid (ltN_irr _)
            have HCT : Hid (∃ n, n < l.length ∧ ct (datOf w) (gE l n) = ct (datOf w) (gE H 0)) := Lib.hid (plays_in _ HPL.out.perm HH0.out)
            have HDG : Hid (DatE w (gE H 0)) := Lib.hid (HPL.out.dat _ (.inl (gE_mem HH0.out)))
            have HPO : Hid (∀ n, n < l.length → ct (datOf w) (gE l n) = ct (datOf w) (gE H 0) → PlaysOk w (popE H) (l.take n ++ l.drop (n + 1))) := Lib.hid (fun n hn he => HPL.out.pop HH0.out n hn he)
            generalize gE H 0 = GX at HS5 HLE HXX HCT HDG HPO ⊢
            have hx := (HS5.out.blk).1
            have hs1 := HS5.out.tail.tail
            have hy := hs1.blk.1
            obtain ⟨g', hg', hro⟩ := hs1.tail.lst HL0.out
            cases hg'
            have x0 := hx.cell 0
            have x1 := hx.cell 1
            have x2 := hx.cell 2
            have x3 := hx.cell 3
            have y0 := hy.cell 0
            have y1 := hy.cell 1
            have y2 := hy.cell 2
            have y3 := hy.cell 3
            have z0 := hro.cell k 0 HKL.out (by omega)
            have z1 := hro.cell k 1 HKL.out (by omega)
            have z2 := hro.cell k 2 HKL.out (by omega)
            have z3 := hro.cell k 3 HKL.out (by omega)
            rw [← gE_eq l k HKL.out] at z0 z1 z2 z3
            simp only [En.cells, List.getElem?_cons_zero, List.getElem?_cons_succ, Nat.add_zero] at x0 x1 x2 x3 y0 y1 y2 y3 z0 z1 z2 z3
            clear hx hy hs1 hro
            generalize gE l k = GL at HLE z0 z1 z2 z3 ⊢
            go_region_held3 (fun w' => w'.cell? ⟨xb, 0, none⟩ = some (.string GX.k) ∧ w'.cell? ⟨xb, 1, none⟩ = some (.int .i64 GX.s) ∧ w'.cell? ⟨xb, 2, none⟩ = some (.slice GX.A GX.n GX.c) ∧ w'.cell? ⟨xb, 3, none⟩ = some (.int .i64 GX.r)
                ∧ w'.cell? ⟨yb, 0, none⟩ = some (.string GX.k) ∧ w'.cell? ⟨yb, 1, none⟩ = some (.int .i64 GX.s) ∧ w'.cell? ⟨yb, 2, none⟩ = some (.slice GX.A GX.n GX.c) ∧ w'.cell? ⟨yb, 3, none⟩ = some (.int .i64 GX.r)
                ∧ w'.cell? ⟨g, k * 4, none⟩ = some (.string GL.k) ∧ w'.cell? ⟨g, k * 4 + 1, none⟩ = some (.int .i64 GL.s) ∧ w'.cell? ⟨g, k * 4 + 2, none⟩ = some (.slice GL.A GL.n GL.c) ∧ w'.cell? ⟨g, k * 4 + 3, none⟩ = some (.int .i64 GL.r)
                ∧ Hid (St w w' [blkP xb 49 GX.cells, heapP hb (popE H), blkP yb 49 GX.cells, Lst (some ⟨g, 0, none⟩) c' l]))
              (first
                | (go_split_ands; exact ⟨old_cell (by assumption) K', old_cell (by assumption) K', old_cell (by assumption) K', old_cell (by assumption) K', old_cell (by assumption) K', old_cell (by assumption) K', old_cell (by assumption) K', old_cell (by assumption) K', old_cell (by assumption) K', old_cell (by assumption) K', old_cell (by assumption) K', old_cell (by assumption) K', Lib.hid (St.later (Hid.out (by assumption)) K')⟩)
                | exact ⟨x0, x1, x2, x3, y0, y1, y2, y3, z0, z1, z2, z3, Lib.hid HS5.out.drew⟩
                | exact ⟨x0, x1, x2, x3, y0, y1, y2, y3, z0, z1, z2, z3, HS5⟩
                | go_keep)
              (first
                | (go_at_call 29; ((with_reducible refine (less_no GX GL HLE.out.1 _).mono ?_)); rintro e w' ⟨rfl, K'⟩)
                | (go_at_call 29; ((with_reducible refine (less_no GL GX HLE.out.2 _).mono ?_)); rintro e w' ⟨rfl, K'⟩)
                | (go_at_call 29; ((with_reducible refine (less_no GX GX HXX.out _).mono ?_)); rintro e w' ⟨rfl, K'⟩))
            have HS7 : Hid (St w w' [blkP xb 49 GX.cells, heapP hb (popE H), blkP yb 49 GX.cells, Lst (some ⟨g, 0, none⟩) c' l]) := by go_split_ands; assumption
            clear x0 x1 x2 x3 y0 y1 y2 y3 z0 z1 z2 z3 HS5
            clear K'
            go_wp2_with fail
            go_loopw [14, 15] (fun v14 v15 wr => ∃ j : Nat, j ≤ l.length ∧ v15 = .int .i64 j ∧ Hid (AtOk w l GX j v14) ∧ Hid (St w wr [blkP xb 49 GX.cells, heapP hb (popE H), blkP yb 49 GX.cells, Lst (some ⟨g, 0, none⟩) c' l])) (fun _ v15 _ => l.length - (intOf v15).toNat)
            case atStart => exact ⟨0, Nat.zero_le _, rfl, Lib.hid (.inl ⟨rfl, fun n hn => by omega⟩), HS7⟩
            case round =>
              obtain ⟨j, hj, rfl, HAT, HSR⟩ := hrel
              clear HS7
              by_cases hjl : j < l.length
              · have j1 : (0 : Int) ≤ j := by omega
                have j2 : (j : Int) < (l.length : Int) := by omega
                have HJL := Lib.hid hjl
                have hx := (HSR.out.blk).1
                obtain ⟨g', hg', hro⟩ := HSR.out.tail.tail.tail.lst HL0.out
                cases hg'
                have x0 := hx.cell 0
                have x1 := hx.cell 1
                have x2 := hx.cell 2
                have x3 := hx.cell 3
                have z0 := hro.cell j 0 hjl (by omega)
                have z1 := hro.cell j 1 hjl (by omega)
                have z2 := hro.cell j 2 hjl (by omega)
                have z3 := hro.cell j 3 hjl (by omega)
                rw [← gE_eq l j hjl] at z0 z1 z2 z3
                simp only [En.cells, List.getElem?_cons_zero, List.getElem?_cons_succ, Nat.add_zero] at x0 x1 x2 x3 z0 z1 z2 z3
                have HDJ : Hid (DatE w (gE l j)) := Lib.hid (HPL.out.dat _ (.inr (by rw [gE_eq l j hjl]; exact List.getElem_mem _)))
                clear hx hro hjl
                generalize hGJ : gE l j = GJ at z0 z1 z2 z3 HDJ
                have HGJ := Lib.hid hGJ
                clear hGJ
                cases hrun : (GJ.r == GX.r)
                · have HNE : Hid (ct (datOf w) GJ ≠ ct (datOf w) GX) := Lib.hid (fun e => by
                    have e1 : GJ.r = GX.r := congrArg (fun p => p.1.2.2) e
                    rw [e1] at hrun; simp at hrun)
                  go_wp2_with fail
                  go_quiet (fail)
                  go_wp2_with fail
                  go_roundw
                  case rel => exact ⟨j + 1, by have := HJL.out; omega, by go_num, Lib.hid (HAT.out.miss (by rw [HGJ.out]; exact HNE.out)), Lib.hid (HSR.out.drewN _)⟩
                  case measure => have := HJL.out; simp [intOf]; omega
                · have HRU := Lib.hid hrun
                  go_wp2_with fail
                  by_cases hm : ct (datOf w) GJ = ct (datOf w) GX
                  · have HM := Lib.hid hm
                    clear hm
                    go_region_held3 (fun w' => w'.cell? ⟨xb, 0, none⟩ = some (.string GX.k) ∧ w'.cell? ⟨xb, 1, none⟩ = some (.int .i64 GX.s) ∧ w'.cell? ⟨xb, 2, none⟩ = some (.slice GX.A GX.n GX.c) ∧ w'.cell? ⟨xb, 3, none⟩ = some (.int .i64 GX.r)
                        ∧ w'.cell? ⟨g, j * 4, none⟩ = some (.string GJ.k) ∧ w'.cell? ⟨g, j * 4 + 1, none⟩ = some (.int .i64 GJ.s) ∧ w'.cell? ⟨g, j * 4 + 2, none⟩ = some (.slice GJ.A GJ.n GJ.c) ∧ w'.cell? ⟨g, j * 4 + 3, none⟩ = some (.int .i64 GJ.r)
                        ∧ Hid (St w w' [blkP xb 49 GX.cells, heapP hb (popE H), blkP yb 49 GX.cells, Lst (some ⟨g, 0, none⟩) c' l]))
                      (first
                        | (go_split_ands; exact ⟨old_cell (by assumption) K', old_cell (by assumption) K', old_cell (by assumption) K', old_cell (by assumption) K', old_cell (by assumption) K', old_cell (by assumption) K', old_cell (by assumption) K', old_cell (by assumption) K', Lib.hid (St.later (Hid.out (by assumption)) K')⟩)
                        | exact ⟨x0, x1, x2, x3, z0, z1, z2, z3, Lib.hid HSR.out.drew⟩
                        | exact ⟨x0, x1, x2, x3, z0, z1, z2, z3, HSR⟩
                        | go_keep)
                      (first
                        | (go_at_call 30; ((with_reducible refine (same_en w GJ GX HDJ.out HDG.out HRU.out true (decide_eq_true HM.out) _ (by go_split_ands; exact St.keep (Hid.out (by assumption)))).mono ?_)); rintro e w' ⟨rfl, K'⟩))
                    have HS8 : Hid (St w w' [blkP xb 49 GX.cells, heapP hb (popE H), blkP yb 49 GX.cells, Lst (some ⟨g, 0, none⟩) c' l]) := by go_split_ands; assumption
                    clear K' x0 x1 x2 x3 z0 z1 z2 z3
                    go_wp2_with fail
                    go_roundw
                    case rel => exact ⟨j + 1, by have := HJL.out; omega, by go_num, Lib.hid (.inr ⟨j, by omega, rfl, by rw [HGJ.out]; exact HM.out⟩), HS8⟩
                    case measure => have := HJL.out; simp [intOf]; omega
                  · have HM := Lib.hid hm
                    clear hm
                    go_region_held3 (fun w' => w'.cell? ⟨xb, 0, none⟩ = some (.string GX.k) ∧ w'.cell? ⟨xb, 1, none⟩ = some (.int .i64 GX.s) ∧ w'.cell? ⟨xb, 2, none⟩ = some (.slice GX.A GX.n GX.c) ∧ w'.cell? ⟨xb, 3, none⟩ = some (.int .i64 GX.r)
                        ∧ w'.cell? ⟨g, j * 4, none⟩ = some (.string GJ.k) ∧ w'.cell? ⟨g, j * 4 + 1, none⟩ = some (.int .i64 GJ.s) ∧ w'.cell? ⟨g, j * 4 + 2, none⟩ = some (.slice GJ.A GJ.n GJ.c) ∧ w'.cell? ⟨g, j * 4 + 3, none⟩ = some (.int .i64 GJ.r)
                        ∧ Hid (St w w' [blkP xb 49 GX.cells, heapP hb (popE H), blkP yb 49 GX.cells, Lst (some ⟨g, 0, none⟩) c' l]))
                      (first
                        | (go_split_ands; exact ⟨old_cell (by assumption) K', old_cell (by assumption) K', old_cell (by assumption) K', old_cell (by assumption) K', old_cell (by assumption) K', old_cell (by assumption) K', old_cell (by assumption) K', old_cell (by assumption) K', Lib.hid (St.later (Hid.out (by assumption)) K')⟩)
                        | exact ⟨x0, x1, x2, x3, z0, z1, z2, z3, Lib.hid HSR.out.drew⟩
                        | exact ⟨x0, x1, x2, x3, z0, z1, z2, z3, HSR⟩
                        | go_keep)
                      (first
                        | (go_at_call 30; ((with_reducible refine (same_en w GJ GX HDJ.out HDG.out HRU.out false (decide_eq_false HM.out) _ (by go_split_ands; exact St.keep (Hid.out (by assumption)))).mono ?_)); rintro e w' ⟨rfl, K'⟩))
                    have HS8 : Hid (St w w' [blkP xb 49 GX.cells, heapP hb (popE H), blkP yb 49 GX.cells, Lst (some ⟨g, 0, none⟩) c' l]) := by go_split_ands; assumption
                    clear K' x0 x1 x2 x3 z0 z1 z2 z3
                    go_wp2_with fail
                    go_roundw
                    case rel => exact ⟨j + 1, by have := HJL.out; omega, by go_num, Lib.hid (HAT.out.miss (by rw [HGJ.out]; exact HM.out)), HS8⟩
                    case measure => have := HJL.out; simp [intOf]; omega
              · obtain ⟨a, haj, rfl, hact⟩ := HAT.out.found HCT.out (by omega)
                have a1 : (0 : Int) ≤ a := by omega
                have a2 : (a : Int) < (l.length : Int) := by omega
                have a3 : (a : Int) ≤ (l.length : Int) := by omega
                have a4 : (a : Int) + 1 ≤ (l.length : Int) := by omega
                have HAL : Hid (a < l.length) := Lib.hid (by omega)
                have HOK := Lib.hid (HPO.out a HAL.out hact)
                have HSZ := Lib.hid (HSR.out.tail.tail.tail)
                clear hact haj HAT
                go_wp2_with fail
                have hcc : l.length ≤ c' := by
                  obtain ⟨g', hg', hro⟩ := HSZ.out.lst HL0.out
                  obtain ⟨_, _, _, h, _⟩ := hro
                  exact h
                have hc1 : (l.length : Int) ≤ (c' : Int) := by omega
                have a5 : (a : Int) ≤ (c' : Int) := by omega
                have a6 : (a : Int) + 1 ≤ (c' : Int) := by omega
                have hcc' := Lib.hid hcc
                clear hcc
                have w1 : IntKind.i64.wrap ((a : Int) + 1) = (a : Int) + 1 := by rw [IntKind.wrap_i64]; omega
                have w2' : (0 : Int) ≤ (a : Int) + 1 := by omega
                have w3' : ((a : Int) + 1).toNat = a + 1 := by omega
                obtain ⟨n2, hn2⟩ : ∃ n2, n2 + 1 = l.length := ⟨l.length - 1, by have := HAL.out; omega⟩
                have HN2 := Lib.hid hn2
                clear hn2
                have HOW0 : Hid (((wr.alloc (Obj.cells #[] 49)).drew).ownsRow wr.heap.size 49 4 (.slice (some ⟨wr.heap.size, 0, none⟩) 0 0) 0 []) := Lib.hid (own_empty wr _ _ 4 (Nat.le_refl _) _ rfl)
                have HLEN : Hid (a + (l.length - (a + 1)) ≤ 300) := Lib.hid (by have := HL300.out; have := HAL.out; omega)
                have HSRC1 : Hid (Src Try.prog 4 40 (.slice (some ⟨g, 0, none⟩) a c') a (flatE (l.take a)) ((wr.alloc (Obj.cells #[] 49)).drew)) := Lib.hid (src_take HSZ.out a (by have := HAL.out; omega) (((Keep.refl _ wr).alloc _).drew))
                have HSRC2 : Hid (∀ u, Keep (fun j => wr.heap.size ≤ j) wr u → Src Try.prog 4 40 (.slice (if c' = a + 1 then some ⟨g, 0, none⟩ else some ⟨g, (a + 1) * 4, none⟩) (l.length - (a + 1)) (c' - (a + 1))) (l.length - (a + 1)) (flatE (l.drop (a + 1))) u) := Lib.hid (fun u k => src_drop HSZ.out (a + 1) hcc'.out (by have := HAL.out; omega) k)
                go_region_law (first
                  | ((refine step_append_src rfl (.tmp 130) (.tmp 133) 40 40 rfl wr.heap.size 49 (.agg #[.string ⟨#[]⟩, .int .i64 0, .slice none 0 0, .int .i64 0]) 4 56 Try.underlying40 infoEn rfl (by decide) (.slice (some ⟨wr.heap.size, 0, none⟩) 0 0) 0 [] (by rfl) HOW0.out (.slice (some ⟨g, 0, none⟩) a c') a (flatE (l.take a)) (by rfl) HSRC1.out (by have := HLEN.out; unfold maxLen; omega) (by have := HLEN.out; omega) (by simp) ?_; intro v1 w9 o1 g1 at1))
                  | ((refine step_append_src rfl (.tmp 134) (.tmp 138) 40 40 rfl wr.heap.size 49 (.agg #[.string ⟨#[]⟩, .int .i64 0, .slice none 0 0, .int .i64 0]) 4 56 Try.underlying40 infoEn rfl (by decide) v1 (0 + a) ([] ++ flatE (l.take a)) (by rfl) o1 _ (l.length - (a + 1)) (flatE (l.drop (a + 1))) (by rfl) (HSRC2.out _ (del_keep1 g1)) (by have := HLEN.out; unfold maxLen; omega) (by have := HLEN.out; omega) (del_keep1 g1).size ?_; intro v2 w10 o2 g2 at2; obtain ⟨A2, c2, rfl, hs⟩ := del_row HSR.out HAL.out HN2.out o1 g1 at1 o2 g2)))
                have HS10 := Lib.hid hs
                clear hs o1 o2 g1 g2 at1 at2 HOW0 HSRC1 HSRC2 HSR HSZ w1 w2' w3'
                go_wp2_with fail
                all_goals
                  refine (St.heap_len HS10.out.swap).mono ?_
                  rintro e w11 ⟨rfl, rfl⟩
                  rw [show (popE H).length = n2 by rw [popE_len, HHL.out]; have := HN2.out; omega]
                  go_wp2_with fail
                  go_roundw
                  case rel => exact ⟨i + 1, nx, popE H, l.take a ++ l.drop (a + 1), A2, c2, by have := HIP.out; omega, hnx, by rw [show (l.take a ++ l.drop (a + 1)).length = n2 by have := HN2.out; have := HAL.out; simp; omega], rfl, by go_num, Lib.hid (by have := HN2.out; have := HAL.out; have := HLI.out; simp; omega), HOK, HS10⟩
                  case measure => have := HIP.out; simp [intOf]; omega
    · go_wp2_with (refine (answers15 _).mono ?_; rintro e w' ⟨rfl, hk⟩; have HK := Lib.hid hk; clear hk)
      go_ret
      exact ⟨rfl, (HST.out.later HK.out).keep⟩
theorem heapPlays_walk (w : World) (A : Option Addr) (n c : Nat) (L : List En) (hn : n = L.length) (_ : n ≤ c) (_ : c ≤ 9223372036854775807) (hr : RdE w A L) (hd : ∀ e ∈ L, DatE w e)
    (Ap : Option Addr) (np cp : Nat) (P : List Bool) (hnp : np = P.length) (_ : np ≤ cp) (_ : cp ≤ 9223372036854775807) (hrp : RdV w Ap (P.map Value.bool)) :
    Calls Try.prog 5 #[.slice A n c, .slice Ap np cp] w fun e w' => e = .returned (.bool true) ∧ Below w.heap.size w w' := by
  have h : Calls Try.prog 5 #[.slice A n c, .slice Ap np cp] w fun e w' => e = .returned (.bool true) ∧ Keep (fun b => w.heap.size ≤ b) w w' := by
    by_cases hl : 100 < n ∨ 300 < np
    · exact heapPlays_big A n c Ap np cp w hl
    · subst hn hnp
      exact heapPlays_small A c L Ap cp P w hr hd (by omega) hrp (by omega)
  exact h.mono fun _ _ ⟨h1, h2⟩ => ⟨h1, h2.below (Nat.le_refl _) (fun _ _ h => h)⟩
end Go.Proofs.Ytbkpjjibgnachaa
