/- The calls of NumAdds and NumMuls. Conditions: none. -/
import Derived.Test.YtaapabdjhpoilaaNum
import Derived.DataShut
namespace Go.Proofs.Ytaapabdjhpoilaa
open Go.RowKit

theorem rd_of {w : World} {A : Option Addr} {l : List Int} (h : RdV w A (l.map (Value.int .i64))) : Rd w A l := by
  intro i hi
  exact h i _ (by simp [List.getD_eq_getElem?_getD, hi])
theorem adds_any (A : Option Addr) (c : Nat) (l : List Int) (w : World) (hr : RdV w A (l.map (Value.int .i64))) (hA : A = none → l = []) (hl : l.length * 8 ≤ 140737488351232) (hw : ∀ x ∈ l, x ≤ 9223372036854775807) :
    Calls Try.prog 3 #[.slice A l.length c] w fun e w' => e = .returned (.bool true) ∧ Below w.heap.size w w' := by
  obtain ⟨x, p, hx⟩ : ∃ x p, sumF 0 l = (x, p) := ⟨_, _, rfl⟩
  have HX := Lib.hid hx
  have HR := Lib.hid hr
  have HW := Lib.hid hw
  have HA := Lib.hid hA
  have hl2 : l.length ≤ 17592186043904 := by omega
  clear hx hr hw hA hl
  go_enter Try.func3, Try.ntmps3
  go_wp2_with (at_builtin; refine wpL_append _ rfl (.tmp 8) (.tmp 9) 22 22 rfl w.heap.size 3 (.int .i64 0) 1 8 Try.underlying22 info3 rfl (by decide) _ 0 [] rfl (own_empty w _ 3 1 (Nat.le_refl _) _ rfl) _ l.length _ rfl (Src.of_rd Try.underlying22 ((HR.out).keep ((Keep.refl (fun _ => False) w).alloc _) (fun _ _ _ h => h)) l.length c (by simp) (one_ints _ l) (fun e => by rw [HA.out e]; rfl)) (by unfold maxLen; omega) (by omega) (by simp) ?_; intro v1 w1 hown1 hg1 hat1; have HO1 := Lib.hid hown1; have HG1 := Lib.hid hg1; clear hown1 hg1 hat1)
  obtain ⟨A1, c1, rfl, hc1, hr1, hn1⟩ := own_rd HO1.out
  have H1 := Lib.hid (rd_of hr1)
  have HB1 := Lib.hid (((Keep.refl (fun k => w.heap.size ≤ k) w).alloc (.cells #[] 3)).trans' (Keep.of_grown HG1.out) (fun k hk e => by injection (show some k = some w.heap.size from e) with e2; omega))
  have HR1 := Lib.hid (rd_of (HR.out.keep HB1.out (fun _ _ hb => by omega)))
  clear hc1 hr1 hn1 HO1 HG1
  refine (add_c A1 _ c1 l x p _ (by simp) H1.out (by omega) HX.out).mono ?_
  rintro e w' ⟨rfl, rfl⟩
  go_wp2_with fail
  refine (radd_any A c l _ HR1.out (by omega) HW.out).mono ?_
  rintro e w' ⟨rfl, rfl⟩
  rw [HX.out]
  go_wp2_with fail
  refine (answers_any _).mono ?_
  rintro e w' ⟨rfl, hb⟩
  go_wp2_with fail
  go_ret
  exact ⟨rfl, ((HB1.out.trans' (Keep.of_below hb) (fun k _ h => by have := HB1.out.size; omega))).below (Nat.le_refl _) (fun _ _ h => h)⟩
theorem sum_rep (a : Int) : ∀ (n : Nat) (s : Int), 0 ≤ s → s ≤ 4611686018427387904 → sumF s (List.replicate n a) = if n = 0 ∨ (0 ≤ a ∧ s + n * a ≤ 4611686018427387904) then (s + n * a, true) else (0, false) := by
  intro n
  induction n with
  | zero => intro s h0 h1; simp [sumF]
  | succ n ih =>
    intro s h0 h1
    rw [List.replicate_succ]
    simp only [sumF]
    by_cases h : 0 ≤ a ∧ a ≤ 4611686018427387904 - s
    · rw [if_pos h, ih (s + a) (by omega) (by omega)]
      have e : s + a + (n : Int) * a = s + ((n + 1 : Nat) : Int) * a := by
        push_cast; rw [Int.add_mul]; omega
      rw [e]
      by_cases hn : n = 0
      · subst hn; rw [if_pos (Or.inl rfl), if_pos]; right; refine ⟨h.1, ?_⟩; simp; omega
      · by_cases hc : 0 ≤ a ∧ s + ((n + 1 : Nat) : Int) * a ≤ 4611686018427387904
        · rw [if_pos (Or.inr hc), if_pos (Or.inr hc)]
        · rw [if_neg (by simp [hn]; simpa using hc), if_neg (by simp; simpa using hc)]
    · rw [if_neg h, if_neg]
      simp only [Nat.add_eq_zero_iff, Nat.succ_ne_self, and_false, false_or, not_and]
      intro hc
      have hp := Int.mul_nonneg (Int.natCast_nonneg n) hc
      have e : ((n + 1 : Nat) : Int) * a = n * a + a := by push_cast; rw [Int.add_mul]; omega
      rw [e]
      omega
theorem rep_mul (a : Int) (n : Nat) (h : 0 < n) (h3 : n ≤ 300) : sumF 0 (List.replicate n a) = mulR a n := by
  rw [sum_rep a n 0 (by omega) (by omega)]
  unfold mulR
  have hcomm : (n : Int) * a = a * n := Int.mul_comm _ _
  rw [hcomm, Int.zero_add]
  by_cases hx : 0 ≤ a ∧ a * n ≤ 4611686018427387904
  · have ha' : a ≤ 4611686018427387904 := by
      have : a * 1 ≤ a * n := Int.mul_le_mul_of_nonneg_left (by omega) hx.1
      omega
    rw [if_pos (Or.inr hx), if_pos ⟨hx.1, ha', by omega, by omega, hx.2⟩]
  · rw [if_neg (by intro h; rcases h with h | h; omega; exact hx h), if_neg (fun h => hx ⟨h.1, h.2.2.2.2⟩)]
theorem zero_mul' (a : Int) : mulR a 0 = (0, decide (0 ≤ a ∧ a ≤ 4611686018427387904)) := by
  unfold mulR
  by_cases h : 0 ≤ a ∧ a ≤ 4611686018427387904
  · rw [if_pos ⟨h.1, h.2, by omega, by omega, by simp⟩, decide_eq_true h]; simp
  · rw [if_neg (fun g => h ⟨g.1, g.2.1⟩), decide_eq_false h]

theorem radd_c (A : Option Addr) (n c : Nat) (l : List Int) (a : Int) (b : Bool) (w : World) (hn : n = l.length) (hr : Rd w A l) (hl : l.length ≤ 9223372036854775806) (hw : ∀ x ∈ l, x ≤ 9223372036854775807) (h : sumF 0 l = (a, b)) :
    Calls Try.prog 9 #[.slice A n c] w fun e w' => e = .returned (.tuple #[.int .i64 a, .bool b]) ∧ w = w' := by
  subst hn
  exact (radd_any A c l w hr hl hw).mono fun e w' ⟨p, q⟩ => ⟨by rw [p, h], q⟩
theorem may_c (a : Int) (t : Bool) (w : World) (h : decide (0 ≤ a ∧ a ≤ 4611686018427387904) = t) :
    Calls Try.prog 12 #[.int .i64 a] w fun e w' => e = .returned (.bool t) ∧ w = w' :=
  (may_any a w).mono fun e w' ⟨p, q⟩ => ⟨by rw [p, h], q⟩

set_option maxHeartbeats 4000000 in
theorem muls_go (a b s n q : Int) (ok t : Bool) (w : World) (hau : a ≤ 9223372036854775807) (hs0 : 0 ≤ s) (hs1 : s ≤ 65535) (HM : Hid (mulR a b = (n, ok))) (HT : Hid (decide (0 ≤ a ∧ a ≤ 4611686018427387904) = t))
    (D : (a < 0 ∧ n = 0 ∧ ok = false) ∨ (0 ≤ a ∧ 4611686018427387904 < a ∧ n = 0 ∧ ok = false) ∨ (0 ≤ a ∧ a ≤ 4611686018427387904 ∧ b < 0 ∧ n = 0 ∧ ok = false) ∨ (0 ≤ a ∧ a ≤ 4611686018427387904 ∧ 0 ≤ b ∧ 4611686018427387904 < b ∧ n = 0 ∧ ok = false) ∨
      (0 < a ∧ decide (0 ≤ a) = true ∧ decide (a ≤ 4611686018427387904) = true ∧ decide (0 ≤ b) = true ∧ decide (b ≤ 4611686018427387904) = true ∧ decide (a < 0) = false ∧ decide (4611686018427387904 < a) = false ∧ decide (b < 0) = false ∧ decide (4611686018427387904 < b) = false ∧ (a == 0) = false ∧ (a != 0) = true ∧ (4611686018427387904 : Int).tdiv a = q ∧ 4611686018427387904 / a = q ∧ 0 ≤ q ∧ q ≤ 4611686018427387904 ∧ decide (b ≤ q) = false ∧ n = 0 ∧ ok = false) ∨
      (0 < a ∧ 0 ≤ n ∧ n ≤ 4611686018427387904 ∧ decide (a < 0) = false ∧ decide (4611686018427387904 < a) = false ∧ decide (b < 0) = false ∧ decide (4611686018427387904 < b) = false ∧ (a == 0) = false ∧ (a != 0) = true ∧ decide (n < 0) = false ∧ decide (4611686018427387904 < n) = false ∧ n.tdiv a = b ∧ n / a = b ∧ 0 ≤ b ∧ b ≤ 4611686018427387904 ∧ ok = true) ∨
      (0 ≤ a ∧ a ≤ 0 ∧ decide (a < 0) = false ∧ decide (4611686018427387904 < a) = false ∧ decide (b < 0) = false ∧ decide (4611686018427387904 < b) = false ∧ (a == 0) = true ∧ (a != 0) = false ∧ n = 0 ∧ ok = true)) :
    Calls Try.prog 4 #[.int .i64 a, .int .i64 b, .int .u16 s] w fun e w' => e = .returned (.bool true) ∧ Below w.heap.size w w' := by
  rcases D with ⟨d1, rfl, rfl⟩ | ⟨d1, d2, rfl, rfl⟩ | ⟨d1, d2, d3, rfl, rfl⟩ | ⟨d1, d2, d3, d4, rfl, rfl⟩ | ⟨d1, e1, e2, e3, e4, e5, e6, e7, e8, e9, e10, e11, e12, e13, e14, e15, rfl, rfl⟩ | ⟨d1, e1, e2, e3, e4, e5, e6, e7, e8, e9, e10, e11, e12, e13, e14, rfl⟩ | ⟨d1, e1, e2, e3, e4, e5, e6, e7, rfl, rfl⟩
  all_goals
    go_enter Try.func4, Try.ntmps4
    go_wp2_with (first | (go_at_call 11; refine (mul_c _ _ _ _ _ HM.out).mono ?_; rintro e w' ⟨rfl, rfl⟩) | (go_at_call 12; refine (may_any _ _).mono ?_; rintro e w' ⟨rfl, rfl⟩))
    go_loopw [9, 10] (fun v i wr => ∃ k : Nat, (k : Int) ≤ s % 300 ∧ i = .int .i64 k ∧ Hid (wr.ownsRow w.heap.size 3 1 v k (List.replicate k (.int .i64 a))) ∧ Hid (Keep (fun b => w.heap.size ≤ b) w wr)) (fun _ i _ => (s % 300).toNat - (intOf i).toNat)
    case atStart => exact ⟨0, by omega, rfl, Lib.hid (World.ownsRow_nil w _ 3 1), Lib.hid (Keep.refl _ w)⟩
    case round =>
      obtain ⟨k, hk, rfl, HO, HK⟩ := hrel
      have hsz := HK.out.size
      by_cases hlt : (k : Int) < s % 300
      · go_wp2_with (at_builtin; refine wpL_append _ rfl (.tmp 97) (.tmp 99) 22 22 rfl w.heap.size 3 (.int .i64 0) 1 8 Try.underlying22 info3 rfl (by decide) _ k _ rfl (HO.out.alloc _) _ 1 [.int .i64 a] rfl (Src.of_rd Try.underlying22 (RdV.new wr 3 [.int .i64 a] _ rfl) 1 1 rfl (one_ints .i64 [a]) (fun e => by cases e)) (by unfold maxLen; omega) (by omega) (by simp; omega) ?_; intro v1 w1 hown1 hg1 hat1; have HO1 := Lib.hid hown1; have HG1 := Lib.hid hg1; clear hown1 hg1 hat1)
        go_roundw
        case rel =>
          refine ⟨k + 1, by omega, by go_num, Lib.hid (by have := HO1.out; rw [List.replicate_succ']; exact this), Lib.hid ((HK.out.alloc _).trans' (Keep.of_grown HG1.out) (fun j hj e => own_base HO.out j e.symm))⟩
        case measure => simp [intOf]; omega
      · obtain ⟨A1, c1, rfl, hc1, hr1, hn1⟩ := own_rd HO.out
        have HR1 := Lib.hid (rd_of (l := List.replicate k a) (by rw [List.map_replicate]; exact hr1))
        clear hc1 hr1 hn1
        have hks : s % 300 ≤ k := by omega
        have HKS : Hid (s % 300 = k) := Lib.hid (by omega)
        by_cases hk0 : k = 0
        · have q1 : ((k : Int) == 0) = true := by simp; omega
          have HX : Hid (sumF 0 (List.replicate k a) = (0, true)) := Lib.hid (by rw [hk0]; rfl)
          have HY : Hid (mulR a (s % 300) = (0, t)) := Lib.hid (by rw [HKS.out, hk0, ← HT.out]; exact zero_mul' a)
          clear hk0
          go_wp2_with (first | (go_at_call 9; refine (radd_c A1 _ c1 _ 0 true _ (by simp) HR1.out (by simp; omega) (fun x hx => by rw [List.mem_replicate] at hx; omega) HX.out).mono ?_; rintro e w' ⟨rfl, rfl⟩) | (go_at_call 11; refine (mul_c a _ 0 t _ HY.out).mono ?_; rintro e w' ⟨rfl, rfl⟩) | (go_at_call 10; refine (answers_any _).mono ?_; rintro e w' ⟨rfl, hb⟩; have HB := Lib.hid hb; clear hb) | (go_at_call 12; refine (may_c a t _ HT.out).mono ?_; rintro e w' ⟨rfl, rfl⟩))
          go_ret
          exact ⟨rfl, ((HK.out.trans' (Keep.of_below HB.out) (fun k _ h => by omega))).below (Nat.le_refl _) (fun _ _ h => h)⟩
        · obtain ⟨x, g, hx⟩ : ∃ x g, mulR a k = (x, g) := ⟨_, _, rfl⟩
          have q1 : ((k : Int) == 0) = false := by simp; omega
          have q2 : decide (0 < (k : Int)) = true := by simp; omega
          have q3 : 0 < k := by omega
          have HX : Hid (sumF 0 (List.replicate k a) = (x, g)) := Lib.hid (by rw [← hx]; exact rep_mul a k (by omega) (by omega))
          have HY : Hid (mulR a (s % 300) = (x, g)) := Lib.hid (by rw [HKS.out]; exact hx)
          clear hk0 hx
          go_wp2_with (first | (go_at_call 9; refine (radd_c A1 _ c1 _ x g _ (by simp) HR1.out (by simp; omega) (fun x hx => by rw [List.mem_replicate] at hx; omega) HX.out).mono ?_; rintro e w' ⟨rfl, rfl⟩) | (go_at_call 11; refine (mul_c a _ x g _ HY.out).mono ?_; rintro e w' ⟨rfl, rfl⟩) | (go_at_call 10; refine (answers_any _).mono ?_; rintro e w' ⟨rfl, hb⟩; have HB := Lib.hid hb; clear hb) | (go_at_call 12; refine (may_c a t _ HT.out).mono ?_; rintro e w' ⟨rfl, rfl⟩))
          go_ret
          exact ⟨rfl, ((HK.out.trans' (Keep.of_below HB.out) (fun k _ h => by omega))).below (Nat.le_refl _) (fun _ _ h => h)⟩


theorem numMuls_walk (w : World) (a : Int) (ha : IntKind.i64.min ≤ a ∧ a ≤ IntKind.i64.max) (b : Int) (_ : IntKind.i64.min ≤ b ∧ b ≤ IntKind.i64.max) (s : Int) (hs : IntKind.u16.min ≤ s ∧ s ≤ IntKind.u16.max) :
    Calls Try.prog 4 #[.int .i64 a, .int .i64 b, .int .u16 s] w fun e w' => e = .returned (.bool true) ∧ Below w.heap.size w w' := by
  have hau : a ≤ 9223372036854775807 := ha.2
  have hs0 : 0 ≤ s := hs.1
  have hs1 : s ≤ 65535 := hs.2
  have no (h : ¬ (0 ≤ a ∧ a ≤ 4611686018427387904 ∧ 0 ≤ b ∧ b ≤ 4611686018427387904 ∧ a * b ≤ 4611686018427387904)) : mulR a b = (0, false) := by unfold mulR; rw [if_neg h]
  by_cases h1 : a < 0
  · exact muls_go a b s 0 0 false _ w hau hs0 hs1 (Lib.hid (no (by omega))) (Lib.hid rfl) (.inl ⟨h1, rfl, rfl⟩)
  by_cases h2 : 4611686018427387904 < a
  · exact muls_go a b s 0 0 false _ w hau hs0 hs1 (Lib.hid (no (by omega))) (Lib.hid rfl) (.inr (.inl ⟨by omega, h2, rfl, rfl⟩))
  by_cases h3 : b < 0
  · exact muls_go a b s 0 0 false _ w hau hs0 hs1 (Lib.hid (no (by omega))) (Lib.hid rfl) (.inr (.inr (.inl ⟨by omega, by omega, h3, rfl, rfl⟩)))
  by_cases h4 : 4611686018427387904 < b
  · exact muls_go a b s 0 0 false _ w hau hs0 hs1 (Lib.hid (no (by omega))) (Lib.hid rfl) (.inr (.inr (.inr (.inl ⟨by omega, by omega, by omega, h4, rfl, rfl⟩))))
  have d1 : decide (a < 0) = false := decide_eq_false h1
  have d2 : decide (4611686018427387904 < a) = false := decide_eq_false h2
  have d3 : decide (b < 0) = false := decide_eq_false h3
  have d4 : decide (4611686018427387904 < b) = false := decide_eq_false h4
  by_cases h0 : 0 < a
  · have g1 : (a == 0) = false := by simp; omega
    have g2 : (a != 0) = true := by simp; omega
    have hdiv : b ≤ 4611686018427387904 / a ↔ a * b ≤ 4611686018427387904 := by
      rw [Int.le_ediv_iff_mul_le h0, Int.mul_comm]
    by_cases h5 : a * b ≤ 4611686018427387904
    · have hm := Int.mul_nonneg (show (0 : Int) ≤ a by omega) (show (0 : Int) ≤ b by omega)
      have hy : mulR a b = (a * b, true) := by unfold mulR; rw [if_pos ⟨by omega, by omega, by omega, by omega, h5⟩]
      exact muls_go a b s (a * b) 0 true _ w hau hs0 hs1 (Lib.hid hy) (Lib.hid rfl) (.inr (.inr (.inr (.inr (.inr (.inl ⟨h0, hm, h5, d1, d2, d3, d4, g1, g2, decide_eq_false (by omega), decide_eq_false (by omega), Int.mul_tdiv_cancel_left b (by omega), Int.mul_ediv_cancel_left b (by omega), by omega, by omega, rfl⟩))))))
    · refine muls_go a b s 0 (4611686018427387904 / a) false _ w hau hs0 hs1 (Lib.hid (no (fun h => h5 h.2.2.2.2))) (Lib.hid rfl) (.inr (.inr (.inr (.inr (.inl ⟨h0, decide_eq_true (by omega), decide_eq_true (by omega), decide_eq_true (by omega), decide_eq_true (by omega), d1, d2, d3, d4, g1, g2, Int.tdiv_eq_ediv_of_nonneg (by omega), rfl, Int.ediv_nonneg (by omega) (by omega), Int.ediv_le_self _ (by omega), decide_eq_false (fun h => h5 (hdiv.1 h)), rfl, rfl⟩)))))
  · have hy : mulR a b = (0, true) := by
      obtain rfl : a = 0 := by omega
      unfold mulR; rw [if_pos ⟨by omega, by omega, by omega, by omega, by simp⟩]; simp
    exact muls_go a b s 0 0 true _ w hau hs0 hs1 (Lib.hid hy) (Lib.hid rfl) (.inr (.inr (.inr (.inr (.inr (.inr ⟨by omega, by omega, d1, d2, d3, d4, by simp; omega, by simp; omega, rfl, rfl⟩))))))

theorem numAdds_walk (w : World) (A : Option Addr) (n c : Nat) (l : List Int) (hn : n = l.length) (_ : n ≤ c) (hr : RdV w A (l.map (Value.int .i64))) (hA : A = none → l = []) (hw : ∀ x ∈ l, (Lit.int .i64 x).wf = true) (hl : n * 8 ≤ 140737488351232) :
    Calls Try.prog 3 #[.slice A n c] w fun e w' => e = .returned (.bool true) ∧ Below w.heap.size w w' := by
  subst hn
  exact adds_any A c l w hr hA hl (fun x hx => ((Lit.wf_int_iff .i64 x).1 (hw x hx)).2)
end Go.Proofs.Ytaapabdjhpoilaa
