/- rec.Put's refusal; the cursor's take and number. Conditions: none. -/
import Derived.Test.YtkglkpcpgdeneaaRecPut
import Derived.Lib.EndianBits
namespace Go.Proofs.Ytkglkpcpgdeneaa
open Go.RowKit

set_option maxRecDepth 100000 in
set_option maxHeartbeats 4000000 in
theorem put_no (k : ByteArray) (s : Int) (A : Option Addr) (n c : Nat) (w : World) (h : ¬ (k.size ≤ 200 ∧ 0 ≤ s ∧ s ≤ 4611686018427387904 ∧ n ≤ 1048576)) :
    Calls Try.prog 46 #[.agg #[.string k, .int .i64 s, .slice A n c]] w fun e w' => e = .returned (.tuple #[.slice none 0 0, .bool false]) ∧ Keep (fun j => w.heap.size ≤ j) w w' := by
  by_cases h1 : k.size ≤ 200
  · have d1 : decide ((200 : Int) < (k.size : Int)) = false := decide_eq_false (by omega)
    by_cases h2 : 0 ≤ s ∧ s ≤ 4611686018427387904
    · have d2 : decide ((1048576 : Int) < (n : Int)) = true := decide_eq_true (by omega)
      have H2 := Lib.hid h2
      clear h h1 h2
      go_enter Try.func46, Try.ntmps46
      go_wp2_with (go_at_call 63; refine (in_yes _ _ _ _ H2.out.1 H2.out.2).mono ?_; rintro e w' ⟨rfl, rfl⟩)
      go_ret2
      exact ⟨rfl, (Keep.refl _ w).alloc _⟩
    · have H2 := Lib.hid h2
      clear h h1 h2
      go_enter Try.func46, Try.ntmps46
      go_wp2_with (go_at_call 63; refine (in_no _ _ _ _ H2.out).mono ?_; rintro e w' ⟨rfl, rfl⟩)
      go_ret2
      exact ⟨rfl, (Keep.refl _ w).alloc _⟩
  · have d1 : decide ((200 : Int) < (k.size : Int)) = true := decide_eq_true (by omega)
    clear h h1
    go_enter Try.func46, Try.ntmps46
    go_wp2_with fail
    go_ret2
    exact ⟨rfl, (Keep.refl _ w).alloc _⟩

/-- A cursor: what is left, and whether it is bad. -/
def CurAt (w : World) (cb : Nat) (A : Option Addr) (n c : Nat) (bad : Bool) : Prop := Blk w cb 124 [.slice A n c, .bool bad]
set_option maxRecDepth 100000 in
theorem take_bad (cb : Nat) (A : Option Addr) (n c m : Nat) (bad : Bool) (w : World) (hc : CurAt w cb A n c bad) (h : bad = true ∨ n < m) (_ : m ≤ 4611686018427387904) (hn : n ≤ 9223372036854775807) :
    Calls Try.prog 70 #[.pointer (some ⟨cb, 0, none⟩), .int .i64 m] w fun e w' => e = .returned (.slice none 0 0) ∧ CurAt w' cb A n c true ∧ Keep (fun j => j = cb) w w' := by
  have c0 := hc.cell 0
  have c1 := hc.cell 1
  have f1 := hc.free 1
  have HC := Lib.hid hc
  simp only [List.getElem?_cons_zero, List.getElem?_cons_succ] at c0 c1
  have q1 : (n : Int) ≤ 9223372036854775807 := by omega
  have hfin : CurAt (w.setCell ⟨cb, 1, none⟩ (.bool true)) cb A n c true := hc.set 1 (.bool true)
  have HF := Lib.hid hfin
  clear hc hfin
  cases bad with
  | true =>
    go_enter Try.func70, Try.ntmps70
    go_wp2_with fail
    go_ret
    exact ⟨rfl, HF.out, (Keep.refl (fun j => j = cb) w).setCell (p := ⟨cb, 1, none⟩) (.inl rfl) _⟩
  | false =>
    have hlt : (n : Int) < m := by rcases h with h | h; cases h; omega
    have hd : decide (n < m) = true := decide_eq_true (by omega)
    clear h hlt
    go_enter Try.func70, Try.ntmps70
    go_wp2_with fail
    go_ret
    exact ⟨rfl, HF.out, (Keep.refl (fun j => j = cb) w).setCell (p := ⟨cb, 1, none⟩) (.inl rfl) _⟩
def TakeOk (w : World) (cb g o n c m : Nat) (e : Ending) (w' : World) : Prop := e = .returned (.slice (some ⟨g, o, none⟩) m c) ∧ (∃ o', CurAt w' cb (some ⟨g, o', none⟩) (n - m) (c - m) false ∧ (m < n → o' = o + m)) ∧ Keep (fun j => j = cb) w w'
set_option maxRecDepth 100000 in
theorem take_ok (cb g o : Nat) (n c m : Nat) (w : World) (hc : CurAt w cb (some ⟨g, o, none⟩) n c false) (h : m ≤ n) (hn : n ≤ c) (hcc : c ≤ 9223372036854775807) :
    Calls Try.prog 70 #[.pointer (some ⟨cb, 0, none⟩), .int .i64 m] w (TakeOk w cb g o n c m) := by
  have c0 := hc.cell 0
  have c1 := hc.cell 1
  have f0 := hc.free 0
  have HC := Lib.hid hc
  simp only [List.getElem?_cons_zero, List.getElem?_cons_succ] at c0 c1
  have q1 : (n : Int) ≤ c := by omega
  have q2 : (c : Int) ≤ 9223372036854775807 := by omega
  have q3 : (m : Int) ≤ n := by omega
  have q4 : (0 : Int) ≤ m := by omega
  have hd : decide (n < m) = false := decide_eq_false (by omega)
  have HN := Lib.hid (And.intro h hn)
  clear hc h hn
  by_cases hcm : c = m
  · subst hcm
    obtain rfl : n = c := by have := HN.out; omega
    go_enter Try.func70, Try.ntmps70
    go_wp2_with fail
    go_ret
    exact ⟨rfl, ⟨o, by have h2 := HC.out.set 0 (.slice (some ⟨g, o, none⟩) 0 0); simpa [CurAt] using h2, fun h => by omega⟩, (Keep.refl (fun j => j = cb) w).setCell (p := ⟨cb, 0, none⟩) (.inl rfl) _⟩
  · have HCM := Lib.hid hcm
    go_enter Try.func70, Try.ntmps70
    go_wp2_with fail
    go_ret
    exact ⟨rfl, ⟨o + m, HC.out.set 0 (.slice (some ⟨g, o + m, none⟩) (n - m) (c - m)), fun _ => rfl⟩, (Keep.refl (fun j => j = cb) w).setCell (p := ⟨cb, 0, none⟩) (.inl rfl) _⟩
/-- What bytes say, the highest first. -/
def numL (l : List UInt8) : Nat := l.foldl (fun n b => n * 256 + b.toNat) 0
theorem numL_snoc (l : List UInt8) (b : UInt8) : numL (l ++ [b]) = numL l * 256 + b.toNat := by simp [numL]
theorem numL_lt : ∀ l : List UInt8, numL l < 256 ^ l.length := by
  intro l
  generalize hn : l.length = n
  induction n generalizing l with
  | zero => rw [List.eq_nil_of_length_eq_zero hn]; simp [numL]
  | succ n ih =>
    have hne : l ≠ [] := by intro e; rw [e] at hn; simp at hn
    rw [← List.dropLast_concat_getLast hne, numL_snoc]
    have h1 := ih l.dropLast (by simp; omega)
    have h2 := (l.getLast hne).toNat_lt
    rw [Nat.pow_succ]
    omega

set_option maxRecDepth 100000 in
theorem number_bad (cb : Nat) (A : Option Addr) (n c m most : Nat) (bad : Bool) (w : World) (hc : CurAt w cb A n c bad) (h : bad = true ∨ n < m) (hm : m ≤ 8) (hn : n ≤ 9223372036854775807) (hmost : most ≤ 4611686018427387904) :
    Calls Try.prog 71 #[.pointer (some ⟨cb, 0, none⟩), .int .i64 m, .int .i64 most] w fun e w' => e = .returned (.int .i64 0) ∧ CurAt w' cb A n c true ∧ Keep (fun j => j = cb) w w' := by
  have HC := Lib.hid hc
  have H := Lib.hid h
  have q1 : (most : Int) ≤ 4611686018427387904 := by omega
  have q2 : (0 : Int) ≤ most := by omega
  have hd : decide (most < 0) = false := decide_eq_false (by omega)
  clear hc h hmost
  go_enter Try.func71, Try.ntmps71
  go_wp2_with (go_at_call 70; refine (take_bad cb A n c m bad _ HC.out H.out (by omega) hn).mono ?_; rintro e w' ⟨rfl, hs, hk⟩; have HS := Lib.hid hs; have HK := Lib.hid hk; clear hs hk)
  go_loop [7, 14] (fun v7 v14 => v7 = .int .u64 0 ∧ v14 = .int .i64 0) (fun _ _ => 0)
  case atStart => exact ⟨rfl, rfl⟩
  case round =>
    obtain ⟨rfl, rfl⟩ := hrel
    go_wp2_with fail
    go_ret
    exact ⟨rfl, HS.out, HK.out⟩
theorem or_step (v b : Nat) (hv : v < 72057594037927936) (hb : b < 256) : bits .or .u64 (IntKind.u64.wrap ((v : Int) * 256)) (IntKind.u64.wrap (b : Int)) = ((v * 256 + b : Nat) : Int) := by
  rw [wraps_u64 _ (by omega) (by omega), wraps_u64 _ (by omega) (by omega)]
  have h := bits_join .u64 64 (by decide) wraps_u64 8 ((v : Int) * 256) (b : Int) (by omega) (by omega) (by omega) (by omega) (by omega) (by omega)
  rw [h]; omega
def NumOk (w : World) (cb g o n c m most : Nat) (bs : List UInt8) (e : Ending) (w' : World) : Prop := e = .returned (.int .i64 (if numL bs > most then 0 else numL bs : Nat)) ∧ (∃ o', CurAt w' cb (some ⟨g, o', none⟩) (n - m) (c - m) (decide (numL bs > most)) ∧ (m < n → o' = o + m)) ∧ Keep (fun j => j = cb) w w'
set_option maxRecDepth 100000 in
set_option maxHeartbeats 4000000 in
theorem number_ok (cb g o : Nat) (n c m most : Nat) (bs : List UInt8) (w : World) (hc : CurAt w cb (some ⟨g, o, none⟩) n c false) (h : m ≤ n) (hn : n ≤ c) (hcc : c ≤ 9223372036854775807) (hm : m ≤ 8) (hbs : bs.length = m)
    (hr : RdV w (some ⟨g, o, none⟩) (bys bs)) (hg : g ≠ cb) (hmost : most ≤ 4611686018427387904) :
    Calls Try.prog 71 #[.pointer (some ⟨cb, 0, none⟩), .int .i64 m, .int .i64 most] w (NumOk w cb g o n c m most bs) := by
  have HC := Lib.hid hc
  have HR := Lib.hid hr
  have HN := Lib.hid (And.intro h (And.intro hn hcc))
  have HBS := Lib.hid hbs
  have HG := Lib.hid hg
  have q1 : (most : Int) ≤ 4611686018427387904 := by omega
  have q2 : (0 : Int) ≤ most := by omega
  have q3 : (m : Int) ≤ 8 := by omega
  have HM := Lib.hid hm
  clear hc hr h hn hcc hbs hg hmost hm
  go_enter Try.func71, Try.ntmps71
  go_wp2_with (go_at_call 70; refine (take_ok cb g o n c m _ HC.out HN.out.1 HN.out.2.1 HN.out.2.2).mono ?_; rintro e w1 ⟨rfl, hs, hk⟩; have HS := Lib.hid hs; have HK := Lib.hid hk; clear hs hk)
  have HRR : Hid (RdV w1 (some ⟨g, o, none⟩) (bys bs)) := Lib.hid (HR.out.keep HK.out (fun x hx _ e => by cases hx; have e2 : g = cb := e; exact HG.out e2))
  go_loop [7, 14] (fun v7 v14 => ∃ k : Nat, k ≤ m ∧ v7 = .int .u64 (numL (bs.take k) : Nat) ∧ v14 = .int .i64 k) (fun _ v => m - (intOf v).toNat)
  case atStart => exact ⟨0, Nat.zero_le _, rfl, rfl⟩
  case round =>
    obtain ⟨k, hk, rfl, rfl⟩ := hrel
    have hlt := numL_lt (bs.take k)
    by_cases hkm : k < m
    · obtain ⟨x, hx, hcell⟩ := HRR.out k (.int .u8 (bs[k]'(by rw [HBS.out]; exact hkm)).toNat) (by simp [bys, List.getElem?_eq_getElem (show k < bs.length by rw [HBS.out]; exact hkm)])
      cases hx
      rw [add_plain] at hcell
      have z1 : (0 : Int) ≤ k := by omega
      have z2 : (k : Int) < m := by omega
      obtain ⟨v, hv⟩ : ∃ v, v = numL (bs.take k) := ⟨_, rfl⟩
      have HV := Lib.hid hv
      rw [← hv] at hlt ⊢
      clear hv
      go_wp2_with fail
      go_round
      case rel =>
        refine ⟨k + 1, by omega, ?_, by go_num⟩
        have hk7 : (256 : Nat) ^ (bs.take k).length ≤ 72057594037927936 := by
          have h1 : (bs.take k).length ≤ 7 := by have := HM.out; simp; omega
          exact Nat.le_trans (Nat.pow_le_pow_right (by omega) h1) (by decide)
        rw [or_step v _ (by omega) (bs[k]'(by rw [HBS.out]; exact hkm)).toNat_lt, List.take_succ_eq_append_getElem (by rw [HBS.out]; exact hkm), numL_snoc, HV.out]
      case measure => simp [intOf]; omega
    · have hbe : bs.take k = bs := List.take_of_length_le (by rw [HBS.out]; omega)
      rw [hbe] at hlt ⊢
      clear hbe
      have hk8 : (256 : Nat) ^ bs.length ≤ 18446744073709551616 := by
        have h1 : bs.length ≤ 8 := by rw [HBS.out]; exact HM.out
        exact Nat.le_trans (Nat.pow_le_pow_right (by omega) h1) (by decide)
      have hv8 : numL bs < 18446744073709551616 := by omega
      clear hlt hk8
      obtain ⟨v, hv⟩ : ∃ v, v = numL bs := ⟨_, rfl⟩
      have HV := Lib.hid hv
      rw [← hv] at hv8 ⊢
      have HV8 := Lib.hid hv8
      clear hv8 hv
      obtain ⟨o', hcs, ho'⟩ := HS.out
      have c1 := hcs.cell 1
      have f1 := hcs.free 1
      simp only [List.getElem?_cons_succ, List.getElem?_cons_zero] at c1
      have HCS := Lib.hid hcs
      have HO := Lib.hid ho'
      clear hcs ho'
      have hwm : IntKind.u64.wrap (most : Int) = (most : Int) := wraps_u64 _ (by omega) (by omega)
      by_cases hgt : v > most
      · have hd : decide (most < v) = true := decide_eq_true hgt
        have hfin : NumOk w cb g o n c m most bs (.returned (.int .i64 0)) (w1.setCell ⟨cb, 1, none⟩ (.bool true)) := by
          refine ⟨by rw [← HV.out, if_pos hgt]; rfl, ⟨o', ?_, HO.out⟩, HK.out.setCell (p := ⟨cb, 1, none⟩) (.inl rfl) _⟩
          have h2 := HCS.out.set 1 (.bool true)
          rw [← HV.out, decide_eq_true hgt]; exact h2
        have HF := Lib.hid hfin
        clear hgt hfin
        go_wp2_with fail
        go_ret
        exact HF.out
      · have hd : decide (most < v) = false := decide_eq_false hgt
        have hfin : NumOk w cb g o n c m most bs (.returned (.int .i64 v)) w1 := by
          refine ⟨by rw [← HV.out, if_neg hgt], ⟨o', ?_, HO.out⟩, HK.out⟩
          rw [← HV.out, decide_eq_false hgt]; exact HCS.out
        have HF := Lib.hid hfin
        have hvm : (v : Int) ≤ 4611686018427387904 := by omega
        clear hgt hfin
        go_wp2_with fail
        go_ret
        exact HF.out
end Go.Proofs.Ytkglkpcpgdeneaa
