/- The sums and products of num and of its reference, and the calls of NumPads, NumIn and NumOrders. Conditions: none. -/
import Derived.Test.YtaapabdjhpoilaaNumPad
import Derived.Test.YtaapabdjhpoilaaRefMay
namespace Go.Proofs.Ytaapabdjhpoilaa
open Go.RowKit

def mulR (a b : Int) : Int × Bool := if 0 ≤ a ∧ a ≤ 4611686018427387904 ∧ 0 ≤ b ∧ b ≤ 4611686018427387904 ∧ a * b ≤ 4611686018427387904 then (a * b, true) else (0, false)
theorem mul_none (a b : Int) (w : World) (h1 : 0 ≤ a ∧ a ≤ 4611686018427387904) (h2 : 0 ≤ b ∧ b ≤ 4611686018427387904) (h3 : ¬ 0 < a) :
    Calls Try.prog 11 #[.int .i64 a, .int .i64 b] w fun e w' => e = .returned (.tuple #[.int .i64 (a * b), .bool true]) ∧ w = w' := by
  obtain rfl : a = 0 := by omega
  go_enter Try.func11, Try.ntmps11
  go_wp2_with fail
  refine (in_yes 0 _ _ _ (by omega) (by omega)).mono ?_
  rintro e w' ⟨rfl, rfl⟩
  go_wp2_with fail
  refine (in_yes b _ _ _ h2.1 h2.2).mono ?_
  rintro e w' ⟨rfl, rfl⟩
  go_wp2_with fail
  go_ret2
  exact ⟨by simp, rfl⟩

theorem mul_pos (a b q : Int) (t : Bool) (w : World) (h1 : 0 ≤ a ∧ a ≤ 4611686018427387904) (h2 : 0 ≤ b ∧ b ≤ 4611686018427387904) (h3 : 0 < a)
    (hq : 4611686018427387904 / a = q) (q0 : 0 ≤ q) (q1 : q ≤ 4611686018427387904) (ht : decide (q < b) = t) :
    Calls Try.prog 11 #[.int .i64 a, .int .i64 b] w fun e w' => e = .returned (if t then (.tuple #[.int .i64 0, .bool false]) else (.tuple #[.int .i64 (wrap64 (a * b)), .bool true])) ∧ w = w' := by
  have g0 : decide (0 < a) = true := decide_eq_true h3
  have g1 : (a == 0) = false := by simp; omega
  have g2 : (a != 0) = true := by simp; omega
  have hd : (4611686018427387904 : Int).tdiv a = q := by rw [Int.tdiv_eq_ediv_of_nonneg (by omega)]; exact hq
  cases t
  · go_enter Try.func11, Try.ntmps11
    go_wp2_with fail
    refine (in_yes a _ _ _ h1.1 h1.2).mono ?_
    rintro e w' ⟨rfl, rfl⟩
    go_wp2_with fail
    refine (in_yes b _ _ _ h2.1 h2.2).mono ?_
    rintro e w' ⟨rfl, rfl⟩
    go_wp2_with fail
    go_ret2
    exact ⟨rfl, rfl⟩
  · go_enter Try.func11, Try.ntmps11
    go_wp2_with fail
    refine (in_yes a _ _ _ h1.1 h1.2).mono ?_
    rintro e w' ⟨rfl, rfl⟩
    go_wp2_with fail
    refine (in_yes b _ _ _ h2.1 h2.2).mono ?_
    rintro e w' ⟨rfl, rfl⟩
    go_wp2_with fail
    go_ret2
    exact ⟨rfl, rfl⟩

theorem mul_any (a b : Int) (w : World) :
    Calls Try.prog 11 #[.int .i64 a, .int .i64 b] w fun e w' => e = .returned (.tuple #[.int .i64 (mulR a b).1, .bool (mulR a b).2]) ∧ w = w' := by
  by_cases h1 : 0 ≤ a ∧ a ≤ 4611686018427387904
  · by_cases h2 : 0 ≤ b ∧ b ≤ 4611686018427387904
    · by_cases h3 : 0 < a
      · have hd0 : 0 ≤ 4611686018427387904 / a := Int.ediv_nonneg (by omega) h1.1
        have hd1 : 4611686018427387904 / a ≤ 4611686018427387904 := Int.ediv_le_self _ (by omega)
        refine (mul_pos a b _ _ w h1 h2 h3 rfl hd0 hd1 rfl).mono ?_
        rintro e w' ⟨rfl, rfl⟩
        refine ⟨?_, rfl⟩
        have hdiv : b ≤ 4611686018427387904 / a ↔ a * b ≤ 4611686018427387904 := by
          rw [Int.le_ediv_iff_mul_le h3, Int.mul_comm]
        unfold mulR
        by_cases hb : a * b ≤ 4611686018427387904
        · have hle := hdiv.2 hb
          have h0 := Int.mul_nonneg h1.1 h2.1
          have : decide (4611686018427387904 / a < b) = false := by simp; omega
          rw [this, if_pos (⟨h1.1, h1.2, h2.1, h2.2, hb⟩ : 0 ≤ a ∧ a ≤ 4611686018427387904 ∧ 0 ≤ b ∧ b ≤ 4611686018427387904 ∧ a * b ≤ 4611686018427387904)]
          simp only [Bool.false_eq_true, if_false]
          rw [show wrap64 (a * b) = a * b from by unfold wrap64; omega]
        · have hle : ¬ b ≤ 4611686018427387904 / a := fun h => hb (hdiv.1 h)
          have : decide (4611686018427387904 / a < b) = true := by simp; omega
          rw [this, if_neg (fun h : 0 ≤ a ∧ a ≤ 4611686018427387904 ∧ 0 ≤ b ∧ b ≤ 4611686018427387904 ∧ a * b ≤ 4611686018427387904 => hb h.2.2.2.2)]; rfl
      · have e : mulR a b = (a * b, true) := by
          obtain rfl : a = 0 := by omega
          unfold mulR; rw [if_pos ⟨by omega, by omega, h2.1, h2.2, by simp⟩]
        rw [e]
        exact mul_none a b w h1 h2 h3
    · have e : mulR a b = (0, false) := by unfold mulR; rw [if_neg (fun h => h2 ⟨h.2.2.1, h.2.2.2.1⟩)]
      rw [e]; clear e
      go_enter Try.func11, Try.ntmps11
      go_wp2_with fail
      refine (in_yes a _ _ _ h1.1 h1.2).mono ?_
      rintro e w' ⟨rfl, rfl⟩
      go_wp2_with fail
      refine (in_no b _ _ _ h2).mono ?_
      rintro e w' ⟨rfl, rfl⟩
      go_wp2_with fail
      go_ret2
      exact ⟨rfl, rfl⟩
  · have e : mulR a b = (0, false) := by unfold mulR; rw [if_neg (fun h => h1 ⟨h.1, h.2.1⟩)]
    rw [e]; clear e
    go_enter Try.func11, Try.ntmps11
    go_wp2_with (go_at_call 14; refine (in_no _ _ _ _ h1).mono ?_; rintro e w' ⟨rfl, rfl⟩)
    go_ret2
    exact ⟨rfl, rfl⟩

def sumF : Int → List Int → Int × Bool
  | s, [] => (s, true)
  | s, x :: r => if 0 ≤ x ∧ x ≤ 4611686018427387904 - s then sumF (s + x) r else (0, false)
def Rd (w : World) (A : Option Addr) (l : List Int) : Prop := ∀ i, i < l.length → ∃ x, A = some x ∧ w.cell? (x.add i) = some (.int .i64 (l.getD i 0))

theorem sumF_step (l : List Int) (i : Nat) (s v : Int) (h : i < l.length) (hv : l.getD i 0 = v) (h0 : 0 ≤ v) (h1 : v ≤ 4611686018427387904 - s) : sumF s (l.drop i) = sumF (s + v) (l.drop (i + 1)) := by
  have hr : l.getD i 0 = l[i] := by simp [List.getD_eq_getElem?_getD, h]
  rw [hr] at hv
  rw [List.drop_eq_getElem_cons h, hv]
  simp only [sumF]
  rw [if_pos ⟨h0, h1⟩]
theorem sumF_stop (l : List Int) (i : Nat) (s v : Int) (h : i < l.length) (hv : l.getD i 0 = v) (h0 : ¬ (0 ≤ v ∧ v ≤ 4611686018427387904 - s)) : sumF s (l.drop i) = (0, false) := by
  have hr : l.getD i 0 = l[i] := by simp [List.getD_eq_getElem?_getD, h]
  rw [hr] at hv
  rw [List.drop_eq_getElem_cons h, hv]
  simp only [sumF]
  rw [if_neg h0]

theorem add_any (A : Option Addr) (c : Nat) (l : List Int) (w : World) (hr : Rd w A l) (hl : l.length ≤ 9223372036854775806) :
    Calls Try.prog 8 #[.slice A l.length c] w fun e w' => e = .returned (.tuple #[.int .i64 (sumF 0 l).1, .bool (sumF 0 l).2]) ∧ w = w' := by
  have HR := Lib.hid hr
  clear hr
  generalize hres : sumF 0 l = res
  go_enter Try.func8, Try.ntmps8
  have HQ := Lib.hid hres
  clear hres
  go_wp2
  go_loop [4, 9] (fun s i => ∃ (k : Nat) (x : Int), k ≤ l.length ∧ i = .int .i64 k ∧ s = .int .i64 x ∧ 0 ≤ x ∧ x ≤ 4611686018427387904 ∧ Hid (sumF x (l.drop k) = res)) (fun _ i => l.length - (intOf i).toNat)
  case atStart => exact ⟨0, 0, by omega, rfl, rfl, by omega, by omega, HQ⟩
  case round =>
    obtain ⟨k, x, hk, rfl, rfl, hx0, hx1, HS⟩ := hrel
    clear HQ
    by_cases hlt : k < l.length
    · obtain ⟨a, rfl, hc⟩ := HR.out k hlt
      generalize hv : l.getD k 0 = v at hc
      have HV := Lib.hid hv
      clear hv
      by_cases hy : 0 ≤ v ∧ v ≤ 4611686018427387904 - x
      · obtain ⟨y0, y1⟩ := hy
        go_wp2_with (go_at_call 14; refine (in_yes _ _ _ _ y0 y1).mono ?_; rintro e w' ⟨rfl, rfl⟩)
        go_round
        case rel => exact ⟨k + 1, x + v, by omega, by go_num, rfl, by omega, by omega, Lib.hid ((sumF_step l k x v hlt HV.out y0 y1).symm.trans HS.out)⟩
        case measure => simp [intOf]; omega
      · go_wp2_with (go_at_call 14; refine (in_no _ _ _ _ hy).mono ?_; rintro e w' ⟨rfl, rfl⟩)
        go_ret2
        exact ⟨ret2b ((sumF_stop l k x v hlt HV.out hy).symm.trans HS.out), rfl⟩
    · go_wp2
      go_ret2
      have := HS.out
      rw [List.drop_of_length_le (by omega)] at this
      exact ⟨ret2b this, rfl⟩

theorem radd_any (A : Option Addr) (c : Nat) (l : List Int) (w : World) (hr : Rd w A l) (hl : l.length ≤ 9223372036854775806) (hw : ∀ x ∈ l, x ≤ 9223372036854775807) :
    Calls Try.prog 9 #[.slice A l.length c] w fun e w' => e = .returned (.tuple #[.int .i64 (sumF 0 l).1, .bool (sumF 0 l).2]) ∧ w = w' := by
  have HR := Lib.hid hr
  have HW := Lib.hid hw
  clear hr hw
  generalize hres : sumF 0 l = res
  go_enter Try.func9, Try.ntmps9
  have HQ := Lib.hid hres
  clear hres
  go_wp2
  go_loop [4, 5] (fun s i => ∃ (k : Nat) (x : Int), k ≤ l.length ∧ i = .int .i64 k ∧ s = .int .i64 x ∧ 0 ≤ x ∧ x ≤ 4611686018427387904 ∧ Hid (sumF x (l.drop k) = res)) (fun _ i => l.length - (intOf i).toNat)
  case atStart => exact ⟨0, 0, by omega, rfl, rfl, by omega, by omega, HQ⟩
  case round =>
    obtain ⟨k, x, hk, rfl, rfl, hx0, hx1, HS⟩ := hrel
    clear HQ
    by_cases hlt : k < l.length
    · obtain ⟨a, rfl, hc⟩ := HR.out k hlt
      have hv2 : l.getD k 0 ≤ 9223372036854775807 := by
        have : l.getD k 0 = l[k] := by simp [List.getD_eq_getElem?_getD, hlt]
        rw [this]; exact HW.out _ (List.getElem_mem _)
      generalize hv : l.getD k 0 = v at hc hv2
      have HV := Lib.hid hv
      clear hv
      by_cases hy : 0 ≤ v ∧ v ≤ 4611686018427387904 - x
      · obtain ⟨y0, y1⟩ := hy
        go_wp2_with (go_at_call 12; refine (may_yes _ _ y0 (by omega)).mono ?_; rintro e w' ⟨rfl, rfl⟩)
        go_round
        case rel => exact ⟨k + 1, x + v, by omega, by go_num, rfl, by omega, by omega, Lib.hid ((sumF_step l k x v hlt HV.out y0 y1).symm.trans HS.out)⟩
        case measure => simp [intOf]; omega
      · by_cases hz : 0 ≤ v ∧ v ≤ 4611686018427387904
        · have hz1 : decide (4611686018427387904 - x < v) = true := by simp; omega
          go_wp2_with (go_at_call 12; refine (may_yes _ _ hz.1 hz.2).mono ?_; rintro e w' ⟨rfl, rfl⟩)
          go_ret2
          exact ⟨ret2b ((sumF_stop l k x v hlt HV.out hy).symm.trans HS.out), rfl⟩
        · go_wp2_with (go_at_call 12; refine (may_no _ _ hz).mono ?_; rintro e w' ⟨rfl, rfl⟩)
          go_ret2
          exact ⟨ret2b ((sumF_stop l k x v hlt HV.out hy).symm.trans HS.out), rfl⟩
    · go_wp2
      go_ret2
      have := HS.out
      rw [List.drop_of_length_le (by omega)] at this
      exact ⟨ret2b this, rfl⟩

theorem mul_c (n m : Int) (a : Int) (b : Bool) (w : World) (h : mulR n m = (a, b)) :
    Calls Try.prog 11 #[.int .i64 n, .int .i64 m] w fun e w' => e = .returned (.tuple #[.int .i64 a, .bool b]) ∧ w = w' :=
  (mul_any n m w).mono fun e w' ⟨p, q⟩ => ⟨by rw [p, h], q⟩
theorem add_c (A : Option Addr) (n c : Nat) (l : List Int) (a : Int) (b : Bool) (w : World) (hn : n = l.length) (hr : Rd w A l) (hl : l.length ≤ 9223372036854775806) (h : sumF 0 l = (a, b)) :
    Calls Try.prog 8 #[.slice A n c] w fun e w' => e = .returned (.tuple #[.int .i64 a, .bool b]) ∧ w = w' := by
  subst hn
  exact (add_any A c l w hr hl).mono fun e w' ⟨p, q⟩ => ⟨by rw [p, h], q⟩

theorem rd_alloc (w : World) (l : List Int) (T : TypeId) (b : Nat) (hb : b = w.heap.size) : Rd (w.alloc (.cells (l.map (Value.int .i64)).toArray T)) (some ⟨b, 0, none⟩) l := by
  subst hb
  intro i hi
  refine ⟨_, rfl, ?_⟩
  have e : (⟨w.heap.size, 0, none⟩ : Addr).add i = ⟨w.heap.size, i, none⟩ := by
    unfold Addr.add; split <;> simp_all
  have g : (w.alloc (.cells (l.map (Value.int .i64)).toArray T)).heap[w.heap.size]? = some (.cells (l.map (Value.int .i64)).toArray T) := by
    show (w.heap.push _)[w.heap.size]? = _
    simp
  rw [e]
  simp only [World.cell?, g]
  simp [List.getD_eq_getElem?_getD, hi]

theorem answers_any (w : World) : Calls Try.prog 10 #[] w fun e w' => e = .returned (.bool true) ∧ Below w.heap.size w w' := by
  go_enter Try.func10, Try.ntmps10
  go_wp2_with fail
  refine (pad_c 513 1024 true _ (by decide)).mono ?_
  rintro e w' ⟨rfl, rfl⟩
  go_wp2_with fail
  refine (add_c _ _ _ [3, 4] 7 true _ rfl ?hr (by decide) (by decide)).mono ?_
  case hr =>
    exact rd_alloc _ [3, 4] 3 _ (by simp)
  rintro e w' ⟨rfl, rfl⟩
  go_wp2_with fail
  refine (mul_c 6 7 42 true _ (by decide)).mono ?_
  rintro e w' ⟨rfl, rfl⟩
  go_wp2_with fail
  refine (in_yes 3 3 4 _ (by decide) (by decide)).mono ?_
  rintro e w' ⟨rfl, rfl⟩
  go_wp2_with fail
  go_ret
  exact ⟨rfl, (Below.refl _ _).alloc (Nat.le_refl _) _⟩

theorem pads_any (n : Int) (w : World) : Calls Try.prog 5 #[.int .i64 n] w fun e w' => e = .returned (.bool true) ∧ Below w.heap.size w w' := by
  by_cases h : 0 ≤ n ∧ n ≤ 4611686018427387904
  · obtain ⟨p, hp⟩ : ∃ p, p = (n + 511) / 512 * 512 := ⟨_, rfl⟩
    have e : padR n = (p, true) := by unfold padR; rw [if_pos h, hp]
    have hm : p % 512 = 0 := by omega
    have hm2 : ((p % 512) == 0) = true := by rw [hm]; rfl
    have h1 : n ≤ p := by omega
    have h2 : p - n < 512 := by omega
    have h3 : p ≤ 4611686018427387904 := by omega
    obtain ⟨g0, g1⟩ := h
    clear hp hm
    have E := Lib.hid e
    clear e
    go_enter Try.func5, Try.ntmps5
    go_wp2_with fail
    refine (pad_c n p true _ E.out).mono ?_
    rintro e w' ⟨rfl, rfl⟩
    go_wp2_with fail
    refine (may_yes n _ g0 g1).mono ?_
    rintro e w' ⟨rfl, rfl⟩
    go_wp2_with fail
    refine (answers_any _).mono ?_
    rintro e w' ⟨rfl, hb⟩
    go_wp2_with fail
    go_ret
    exact ⟨rfl, hb⟩
  · have e : padR n = (0, false) := by unfold padR; rw [if_neg h]
    have E := Lib.hid e
    clear e
    go_enter Try.func5, Try.ntmps5
    go_wp2_with fail
    refine (pad_c n 0 false _ E.out).mono ?_
    rintro e w' ⟨rfl, rfl⟩
    go_wp2_with fail
    refine (may_no n _ h).mono ?_
    rintro e w' ⟨rfl, rfl⟩
    go_wp2_with fail
    refine (answers_any _).mono ?_
    rintro e w' ⟨rfl, hb⟩
    go_wp2_with fail
    go_ret
    exact ⟨rfl, hb⟩

theorem ins_any (n a b : Int) (w : World) : Calls Try.prog 6 #[.int .i64 n, .int .i64 a, .int .i64 b] w fun e w' => e = .returned (.bool true) ∧ Below w.heap.size w w' := by
  obtain ⟨x, hx⟩ : ∃ x, decide (a ≤ n) = x := ⟨_, rfl⟩
  obtain ⟨y, hy⟩ : ∃ x, decide (n ≤ b) = x := ⟨_, rfl⟩
  cases x
  · go_enter Try.func6, Try.ntmps6
    go_wp2_with fail
    refine (answers_any _).mono ?_
    rintro e w' ⟨rfl, hb⟩
    go_wp2_with fail
    refine (in_c n a b false y _ hx hy).mono ?_
    rintro e w' ⟨rfl, rfl⟩
    go_wp2_with fail
    refine (in_no n 1 0 _ (by omega)).mono ?_
    rintro e w' ⟨rfl, rfl⟩
    go_wp2_with fail
    refine (in_yes n n n _ (by omega) (by omega)).mono ?_
    rintro e w' ⟨rfl, rfl⟩
    go_wp2_with fail
    go_ret
    exact ⟨rfl, hb⟩
  · go_enter Try.func6, Try.ntmps6
    go_wp2_with fail
    refine (answers_any _).mono ?_
    rintro e w' ⟨rfl, hb⟩
    go_wp2_with fail
    refine (in_c n a b true y _ hx hy).mono ?_
    rintro e w' ⟨rfl, rfl⟩
    go_wp2_with fail
    refine (in_no n 1 0 _ (by omega)).mono ?_
    rintro e w' ⟨rfl, rfl⟩
    go_wp2_with fail
    refine (in_yes n n n _ (by omega) (by omega)).mono ?_
    rintro e w' ⟨rfl, rfl⟩
    go_wp2_with fail
    go_ret
    exact ⟨rfl, hb⟩

/-- NumOrders' call, its sums and products given. -/
theorem orders_go (a b c x z z2 m : Int) (p r r2 s : Bool) (w : World) (h1 : sumF 0 [a, b, c] = (x, p)) (h2 : sumF 0 [c, a, b] = (x, p)) (h3 : sumF 0 [b, a] = (z, r))
    (h4 : r = true → sumF 0 [z, c] = (z2, r2)) (h5 : mulR a b = (m, s)) (h6 : mulR b a = (m, s)) (h7 : p = true → r = true ∧ r2 = true ∧ z2 = x) :
    Calls Try.prog 7 #[.int .i64 a, .int .i64 b, .int .i64 c] w fun e w' => e = .returned (.bool true) ∧ Below w.heap.size w w' := by
  have H1 := Lib.hid h1
  have H2 := Lib.hid h2
  have H3 := Lib.hid h3
  have H4 := Lib.hid h4
  have H5 := Lib.hid h5
  have H6 := Lib.hid h6
  have H7 := Lib.hid h7
  clear h1 h2 h3 h4 h5 h6 h7
  cases r
  · have hp : p = false := by
      cases p
      · rfl
      · exact absurd (H7.out (by simp)).1 (by decide)
    subst hp
    go_enter Try.func7, Try.ntmps7
    go_wp2_with fail
    refine (add_c _ _ _ [a, b, c] x false _ rfl (rd_alloc _ [a, b, c] 3 _ (by simp)) (by simp) H1.out).mono ?_
    rintro e w' ⟨rfl, rfl⟩
    go_wp2_with fail
    refine (add_c _ _ _ [c, a, b] x false _ rfl (rd_alloc _ [c, a, b] 3 _ (by simp)) (by simp) H2.out).mono ?_
    rintro e w' ⟨rfl, rfl⟩
    go_wp2_with fail
    refine (add_c _ _ _ [b, a] z false _ rfl (rd_alloc _ [b, a] 3 _ (by simp)) (by simp) H3.out).mono ?_
    rintro e w' ⟨rfl, rfl⟩
    go_wp2_with fail
    refine (mul_c a b m s _ H5.out).mono ?_
    rintro e w' ⟨rfl, rfl⟩
    go_wp2_with fail
    refine (mul_c b a m s _ H6.out).mono ?_
    rintro e w' ⟨rfl, rfl⟩
    go_wp2_with fail
    refine (answers_any _).mono ?_
    rintro e w' ⟨rfl, hb⟩
    go_wp2_with fail
    go_ret
    exact ⟨rfl, ((((Below.refl _ _).alloc (Nat.le_refl _) _).alloc (by simp) _).alloc (by simp; omega) _).trans (hb.mono (by simp; omega))⟩
  · go_enter Try.func7, Try.ntmps7
    go_wp2_with fail
    refine (add_c _ _ _ [a, b, c] x p _ rfl (rd_alloc _ [a, b, c] 3 _ (by simp)) (by simp) H1.out).mono ?_
    rintro e w' ⟨rfl, rfl⟩
    go_wp2_with fail
    refine (add_c _ _ _ [c, a, b] x p _ rfl (rd_alloc _ [c, a, b] 3 _ (by simp)) (by simp) H2.out).mono ?_
    rintro e w' ⟨rfl, rfl⟩
    go_wp2_with fail
    refine (add_c _ _ _ [b, a] z true _ rfl (rd_alloc _ [b, a] 3 _ (by simp)) (by simp) H3.out).mono ?_
    rintro e w' ⟨rfl, rfl⟩
    go_wp2_with fail
    refine (add_c _ _ _ [z, c] z2 r2 _ rfl (rd_alloc _ [z, c] 3 _ (by simp)) (by simp) (H4.out (by simp))).mono ?_
    rintro e w' ⟨rfl, rfl⟩
    go_wp2_with fail
    refine (mul_c a b m s _ H5.out).mono ?_
    rintro e w' ⟨rfl, rfl⟩
    go_wp2_with fail
    refine (mul_c b a m s _ H6.out).mono ?_
    rintro e w' ⟨rfl, rfl⟩
    go_wp2_with fail
    refine (answers_any _).mono ?_
    rintro e w' ⟨rfl, hb⟩
    cases p
    · go_wp2_with fail
      go_ret
      exact ⟨rfl, (((((Below.refl _ _).alloc (Nat.le_refl _) _).alloc (by simp) _).alloc (by simp; omega) _).alloc (by simp; omega) _).trans (hb.mono (by simp; omega))⟩
    · obtain ⟨_, h7, h8⟩ := H7.out (by simp)
      subst h7
      subst h8
      go_wp2_with fail
      go_ret
      exact ⟨rfl, (((((Below.refl _ _).alloc (Nat.le_refl _) _).alloc (by simp) _).alloc (by simp; omega) _).alloc (by simp; omega) _).trans (hb.mono (by simp; omega))⟩

theorem info3 : (Try.prog.info? 3).map (fun i => (i.zero, i.size, i.bytes)) = some (some (.int .i64 0), 1, 8) := by kernel_rfl
def ints (l : List Int) : List Value := l.map (Value.int .i64)
theorem rd_own {w : World} {base n : Nat} {e : TypeId} {v : Value} {l : List Int} (h : w.ownsRow base e 1 v n (ints l)) : ∃ A c, v = .slice A n c ∧ n = l.length ∧ Rd w A l := by
  have hl : l.length = n := by have := h.1; simp [ints] at this; exact this
  rcases h.2 with ⟨rfl, rfl⟩ | ⟨g, cap, cur, rfl, hg, hh, r⟩
  · exact ⟨none, 0, rfl, hl.symm, fun i hi => absurd hi (by omega)⟩
  · refine ⟨_, _, rfl, hl.symm, fun i hi => ⟨_, rfl, ?_⟩⟩
    exact h.cells (g := g) rfl i (.int .i64 (l.getD i 0)) (by simp [ints, List.getD_eq_getElem?_getD, hi])

end Go.Proofs.Ytaapabdjhpoilaa
