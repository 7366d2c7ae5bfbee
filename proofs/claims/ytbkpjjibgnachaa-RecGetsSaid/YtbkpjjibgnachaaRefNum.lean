/- The reference's number of bytes. Conditions: none. -/
import Derived.Test.YtbkpjjibgnachaaRecGet
namespace Go.Proofs.Ytbkpjjibgnachaa
open Go.RowKit

theorem foldl_ge (l : List UInt8) : ∀ n : Nat, n ≤ l.foldl (fun n b => n * 256 + b.toNat) n := by
  induction l with
  | nil => intro n; exact Nat.le_refl _
  | cons b r ih => intro n; exact Nat.le_trans (show n ≤ n * 256 + b.toNat by omega) (ih _)
theorem numL_take_le (l : List UInt8) (k : Nat) : numL (l.take k) ≤ numL l := by
  have h : numL l = (l.drop k).foldl (fun n b => n * 256 + b.toNat) (numL (l.take k)) := by
    unfold numL
    rw [← List.foldl_append, List.take_append_drop]
  rw [h]
  exact foldl_ge _ _
set_option maxRecDepth 100000 in
set_option maxHeartbeats 4000000 in
theorem refnumber_any (A : Option Addr) (n c most : Nat) (zm : Int) (l : List UInt8) (w : World) (hz : zm = most) (hn : n = l.length) (hr : RdV w A (bys l)) (hb : numL l ≤ 9223372036854775807) (hm : most ≤ 4611686018427387904) (hl : l.length ≤ 4611686018427387904) :
    Calls Try.prog 65 #[.slice A n c, .int .i64 zm] w fun e w' => e = .returned (.int .i64 (if numL l ≤ most then (numL l : Int) else -1)) ∧ w = w' := by
  subst hz hn
  have HR := Lib.hid hr
  have HB := Lib.hid hb
  have q1 : (most : Int) ≤ 4611686018427387904 := by omega
  have q0 : (0 : Int) ≤ most := by omega
  have q2 : (l.length : Int) ≤ 4611686018427387904 := by omega
  obtain ⟨R, hR⟩ : ∃ R : Int, R = if numL l ≤ most then (numL l : Int) else -1 := ⟨_, rfl⟩
  rw [← hR]
  have HRE := Lib.hid hR
  clear hr hb hm hl hR
  go_enter Try.func65, Try.ntmps65
  go_wp2_with fail
  go_loop [5, 6] (fun v5 v6 => ∃ i : Nat, i ≤ l.length ∧ v5 = .int .i64 (numL (l.take i) : Nat) ∧ v6 = .int .i64 i) (fun _ v6 => l.length - (intOf v6).toNat)
  case atStart => exact ⟨0, Nat.zero_le _, rfl, rfl⟩
  case round =>
    obtain ⟨i, hi, rfl, rfl⟩ := hrel
    have ht := numL_take_le l i
    by_cases hlt : i < l.length
    · obtain ⟨x, rfl, hc⟩ := HR.out i (.int .u8 (l[i].toNat : Int)) (by simp [bys, hlt])
      have hs : numL (l.take (i + 1)) = numL (l.take i) * 256 + l[i].toNat := by rw [List.take_succ_eq_append_getElem hlt, numL_snoc]
      have ht2 := numL_take_le l (i + 1)
      have HS := Lib.hid hs
      have hb := HB.out
      have hbt := l[i].toNat_lt
      have q3 : (0 : Int) ≤ i := by omega
      have q4 : (i : Int) < l.length := by omega
      rw [hs] at ht2
      have HLT := Lib.hid hlt
      clear hs
      generalize hv : l[i].toNat = v at hc ht2 hbt HS
      clear hv hlt
      obtain ⟨m, hm⟩ : ∃ m, m = numL (l.take i) := ⟨_, rfl⟩
      rw [← hm] at ht2 ht ⊢
      have HM := Lib.hid hm
      by_cases hgt : m > most
      · have hd : decide (most < m) = true := decide_eq_true hgt
        have HF : Hid (R = -1) := Lib.hid (by rw [HRE.out, if_neg (by omega)])
        clear hgt ht ht2 hb hm
        go_wp2_with fail
        go_ret
        exact ⟨ret_int HF.out.symm, rfl⟩
      · have hd : decide (most < m) = false := decide_eq_false hgt
        have q5 : (m : Int) ≤ 4611686018427387904 := by omega
        have q6 : (m : Int) * 256 + (v : Int) ≤ 9223372036854775807 := by omega
        have q7 : (0 : Int) ≤ m := by omega
        have q8 : (0 : Int) ≤ v := by omega
        have q9 : (v : Int) ≤ 255 := by omega
        clear hgt ht ht2 hb hm hbt
        go_wp2_with fail
        go_round
        case rel => exact ⟨i + 1, HLT.out, by rw [HS.out, ← HM.out]; go_num, by go_num⟩
        case measure => have := HLT.out; simp [intOf]; omega
    · obtain rfl : i = l.length := by omega
      rw [List.take_length]
      clear ht hlt
      obtain ⟨m, hm⟩ : ∃ m, m = numL l := ⟨_, rfl⟩
      rw [← hm]
      by_cases hgt : m > most
      · have hd : decide (most < m) = true := decide_eq_true hgt
        have HF : Hid (R = -1) := Lib.hid (by rw [HRE.out, if_neg (by omega)])
        clear hgt hm
        go_wp2_with fail
        go_ret
        exact ⟨ret_int HF.out.symm, rfl⟩
      · have hd : decide (most < m) = false := decide_eq_false hgt
        have HF : Hid (R = m) := Lib.hid (by rw [HRE.out, if_pos (by omega), hm])
        clear hgt hm
        go_wp2_with fail
        go_ret
        exact ⟨ret_int HF.out.symm, rfl⟩
end Go.Proofs.Ytbkpjjibgnachaa
