/- FieldOctal. (alias Tryd) Conditions: none. -/
import Derived.Test.YtgealodojemoeaaDoorFieldWide
namespace Go.Proofs.YtgealodojemoeaaDoor
open Go.RowKit
set_option linter.unusedVariables false
set_option linter.unusedSimpArgs false

set_option maxRecDepth 100000 in
set_option maxHeartbeats 4000000 in
theorem fieldOctal_walk (n : Int) (hn : IntKind.i64.min ≤ n ∧ n ≤ IntKind.i64.max) (z : Int) (hw : IntKind.u8.min ≤ z ∧ z ≤ IntKind.u8.max) (w : World) :
    Calls Tryd.prog 7 #[.int .i64 n, .int .u8 z] w fun e w' => e = .returned (.bool true) ∧ Kp w w' := by
  have hz : 0 ≤ z ∧ z ≤ 255 := by have e1 : IntKind.u8.min = 0 := rfl; have e2 : IntKind.u8.max = 255 := rfl; omega
  obtain ⟨k, rfl⟩ := Int.eq_ofNat_of_zero_le hz.1
  obtain ⟨r, hr⟩ : ∃ r, r = k % 20 := ⟨_, rfl⟩
  have hr2 : r < 20 := by omega
  have t1 : (k : Int).tmod 20 = (r : Int) := by rw [hr]; rfl
  have t2 : (k : Int) % 20 = (r : Int) := by rw [hr]; rfl
  have t3 : IntKind.u8.wrap (r : Int) = (r : Int) := by rw [IntKind.wrap_u8]; omega
  have q0 : (k : Int) ≤ 255 := by omega
  have q1 : (r : Int) < 20 := by omega
  have HR := Lib.hid hr2
  clear hw hz hr
  rcases put_cases2 n (r + 2) ((r : Int) + 2) (by omega) (by omega) (by omega) with ⟨h1, h1b | ⟨m, rfl, hm, hp⟩⟩ | ⟨m, L, rfl, hm, hL, h1⟩
  · have H1 := Lib.hid h1
    have hcs : n < 0 ∨ (0 ≤ n ∧ 4611686018427387904 < n) := by omega
    clear h1 h1b
    rcases hcs with hcs | ⟨hcs, hcs2⟩
    · go_enter Tryd.func7, Tryd.ntmps7
      go_wp2_with fail
      refine (H1.out w).mono ?_
      rintro e w1 ⟨rfl, hk⟩
      have HK1 := Lib.hid hk
      clear hk
      go_wp2_with fail
      refine (answers2 w1).mono ?_
      rintro e w3 ⟨rfl, hk⟩
      have HK3 := Lib.hid (Kp.trans HK1.out hk)
      clear hk
      go_wp2_with fail
      go_ret
      exact ⟨rfl, HK3.out⟩
    · have q5 : ¬ n < 0 := by omega
      go_enter Tryd.func7, Tryd.ntmps7
      go_wp2_with fail
      refine (H1.out w).mono ?_
      rintro e w1 ⟨rfl, hk⟩
      have HK1 := Lib.hid hk
      clear hk
      go_wp2_with fail
      refine (answers2 w1).mono ?_
      rintro e w3 ⟨rfl, hk⟩
      have HK3 := Lib.hid (Kp.trans HK1.out hk)
      clear hk
      go_wp2_with fail
      go_ret
      exact ⟨rfl, HK3.out⟩
  · have H1 := Lib.hid h1
    have b1 : decide ((21 : Int) ≤ (r : Int) + 2 - 1) = false := decide_eq_false (by omega)
    have b2 : decide ((m : Int) < 0) = false := decide_eq_false (by omega)
    have b3 : decide ((4611686018427387904 : Int) < (m : Int)) = false := decide_eq_false (by omega)
    obtain ⟨x, hx⟩ : ∃ x, x = m / 8 ^ (r + 1) := ⟨_, rfl⟩
    have t4 : (m : Int) / 2 ^ (3 * (r + 1)) = (x : Int) := by
      rw [hx, Int.pow_mul]
      push_cast
      rfl
    have hx0 : ¬ x = 0 := by
      intro e
      rw [hx] at e
      unfold putF at hp
      rw [show r + 2 - 1 = r + 1 by omega, if_pos e] at hp
      cases hp
    have b4 : ((x : Int) == 0) = false := by simpa using hx0
    clear h1 hm hp hx hx0
    go_enter Tryd.func7, Tryd.ntmps7
    go_wp2_with fail
    refine (H1.out w).mono ?_
    rintro e w1 ⟨rfl, hk⟩
    have HK1 := Lib.hid hk
    clear hk
    go_wp2_with fail
    refine (answers2 w1).mono ?_
    rintro e w3 ⟨rfl, hk⟩
    have HK3 := Lib.hid (Kp.trans HK1.out hk)
    clear hk
    go_wp2_with fail
    go_ret
    exact ⟨rfl, HK3.out⟩
  · have H1 := Lib.hid h1
    have b1 : decide ((21 : Int) ≤ (r : Int) + 2 - 1) = false := decide_eq_false (by omega)
    have b2 : decide ((m : Int) < 0) = false := decide_eq_false (by omega)
    have b3 : decide ((4611686018427387904 : Int) < (m : Int)) = false := decide_eq_false (by omega)
    obtain ⟨x, hx⟩ : ∃ x, x = m / 8 ^ (r + 1) := ⟨_, rfl⟩
    have t4 : (m : Int) / 2 ^ (3 * (r + 1)) = (x : Int) := by
      rw [hx, Int.pow_mul]
      push_cast
      rfl
    obtain ⟨d, hd0, hd⟩ := put_head (by omega) hL
    rw [show r + 2 - 1 = r + 1 by omega, ← hx] at hd
    have HLN := Lib.hid (put_len (by omega) hL)
    clear h1 hm hL hx
    rcases hd with ⟨rfl, hd1, hd2, hd3⟩ | ⟨hx0, hd1⟩
    · have q5 : (48 : Int) ≤ (d.toNat : Int) := by omega
      have q6 : (d.toNat : Int) ≤ 55 := by omega
      obtain ⟨y, hy⟩ : ∃ y, y = (d.toNat : Int) := ⟨_, rfl⟩
      rw [← hy] at q5 q6
      have e1 : (r : Int) + 2 - 1 = ((r + 1 : Nat) : Int) := by omega
      obtain ⟨s, hs⟩ : ∃ s, s = r + 1 := ⟨_, rfl⟩
      have e2 : IntKind.i64.wrap ((r : Int) + 2 - 1) = (s : Int) := by rw [IntWalk.i64_in _ (by omega)]; omega
      have e3 : (r : Int) + 2 - 1 = (s : Int) := by omega
      have q7 : (s : Int) < (r : Int) + 2 := by omega
      have t5 : (m : Int) / 2 ^ (3 * s) = 0 := by rw [hs]; exact t4
      have b5 : decide ((21 : Int) ≤ (s : Int)) = false := decide_eq_false (by omega)
      rw [← hs] at hd3
      have HD := Lib.hid (And.intro hd0 (And.intro hd3 hy))
      clear hd0 hd1 hd2 hd3 hy e1 hs
      go_enter Tryd.func7, Tryd.ntmps7
      go_wp2_with fail
      refine (H1.out w).mono ?_
      rintro e w1 ⟨rfl, hb, hk⟩
      generalize w.heap.size = g at hb ⊢
      have HK1 := Lib.hid hk
      have HB1 := Lib.hid hb
      clear hk hb
      go_wp2_with fail
      refine (answers2 w1).mono ?_
      rintro e w3 ⟨rfl, hk⟩
      have HK3 := Lib.hid (Kp.trans HK1.out hk)
      have d0 := rd_at (blk_rd (Kp.blk HB1.out hk)) 0 d HD.out.1
      have d1 : w3.cell? ⟨g, s, none⟩ = some (.int .u8 0) := by
        have h := rd_at (blk_rd (Kp.blk HB1.out hk)) s 0 HD.out.2.1
        rw [Nat.zero_add] at h
        exact h
      rw [← HD.out.2.2] at d0
      clear hk
      go_wp2_with fail
      go_ret
      exact ⟨rfl, HK3.out⟩
    · have b4 : ((x : Int) == 0) = false := by simpa using hx0
      have hy : (d.toNat : Int) = 128 := by omega
      have HD := Lib.hid (And.intro hd0 hy)
      clear hd0 hy hd1 hx0
      go_enter Tryd.func7, Tryd.ntmps7
      go_wp2_with fail
      refine (H1.out w).mono ?_
      rintro e w1 ⟨rfl, hb, hk⟩
      generalize w.heap.size = g at hb ⊢
      have HK1 := Lib.hid hk
      have HB1 := Lib.hid hb
      clear hk hb
      go_wp2_with fail
      refine (answers2 w1).mono ?_
      rintro e w3 ⟨rfl, hk⟩
      have HK3 := Lib.hid (Kp.trans HK1.out hk)
      have d0 := rd_at (blk_rd (Kp.blk HB1.out hk)) 0 d HD.out.1
      rw [HD.out.2] at d0
      clear hk
      go_wp2_with fail
      go_ret
      exact ⟨rfl, HK3.out⟩
end Go.Proofs.YtgealodojemoeaaDoor
