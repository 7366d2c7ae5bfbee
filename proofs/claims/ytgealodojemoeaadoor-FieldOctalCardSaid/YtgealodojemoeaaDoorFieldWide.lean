/- FieldWide. (alias Tryd) Conditions: none. -/
import Derived.Test.YtgealodojemoeaaDoorFieldP
namespace Go.Proofs.YtgealodojemoeaaDoor
open Go.RowKit
set_option linter.unusedVariables false
set_option linter.unusedSimpArgs false

/-- Either none, or these bytes. -/
theorem put_cases2 (n : Int) (k : Nat) (wi : Int) (hwi : wi = k) (h2 : 2 ≤ k) (h3 : k ≤ 100) :
    (∀ w, Calls Tryd.prog 11 #[.int .i64 n, .int .i64 wi] w fun e w' => e = .returned (.tuple #[.slice none 0 0, .bool false]) ∧ Kp w w') ∧ (¬ (0 ≤ n ∧ n ≤ 4611686018427387904) ∨ ∃ m : Nat, n = m ∧ m ≤ 4611686018427387904 ∧ putF m k = none)
    ∨ ∃ (m : Nat) (L : List UInt8), n = m ∧ m ≤ 4611686018427387904 ∧ putF m k = some L ∧ ∀ w, Calls Tryd.prog 11 #[.int .i64 n, .int .i64 wi] w fun e w' => e = .returned (.tuple #[.slice (some ⟨w.heap.size, 0, none⟩) k k, .bool true]) ∧ Blk w' w.heap.size 5 (bys L) ∧ Kp w w' := by
  subst hwi
  by_cases h : 0 ≤ n ∧ n ≤ 4611686018427387904
  · obtain ⟨m, rfl⟩ := Int.eq_ofNat_of_zero_le h.1
    rcases hp : putF m k with _ | L
    · exact .inl ⟨fun w => put_none w m k m k rfl rfl (by omega) (by omega) (by omega) hp, .inr ⟨m, rfl, by omega, hp⟩⟩
    · exact .inr ⟨m, L, rfl, by omega, hp, fun w => put_some w m k m k rfl rfl (by omega) (by omega) (by omega) L hp⟩
  · refine .inl ⟨fun w => (field_put_no w n k (fun h1 => h ⟨h1.1, h1.2.1⟩)).mono ?_, .inl h⟩
    rintro e w' ⟨rfl, rfl⟩
    exact ⟨rfl, Keep.refl _ _⟩
set_option maxRecDepth 100000 in
set_option maxHeartbeats 4000000 in
theorem fieldWide_walk (n : Int) (hn : IntKind.i64.min ≤ n ∧ n ≤ IntKind.i64.max) (z : Int) (hw : IntKind.u8.min ≤ z ∧ z ≤ IntKind.u8.max) (w : World) :
    Calls Tryd.prog 5 #[.int .i64 n, .int .u8 z] w fun e w' => e = .returned (.bool true) ∧ Kp w w' := by
  have hz : 0 ≤ z ∧ z ≤ 255 := by have e1 : IntKind.u8.min = 0 := rfl; have e2 : IntKind.u8.max = 255 := rfl; omega
  obtain ⟨k, rfl⟩ := Int.eq_ofNat_of_zero_le hz.1
  obtain ⟨r, hr⟩ : ∃ r, r = k % 90 := ⟨_, rfl⟩
  have hr2 : r < 90 := by omega
  have t1 : (k : Int).tmod 90 = (r : Int) := by rw [hr]; rfl
  have t2 : (k : Int) % 90 = (r : Int) := by rw [hr]; rfl
  have t3 : IntKind.u8.wrap (r : Int) = (r : Int) := by rw [IntKind.wrap_u8]; omega
  have q0 : (k : Int) ≤ 255 := by omega
  have q1 : (r : Int) < 90 := by omega
  have HR := Lib.hid hr2
  clear hn hw hz hr
  rcases put_cases2 n (r + 2) ((r : Int) + 2) (by omega) (by omega) (by omega) with ⟨h1, h1b⟩ | ⟨m, L, rfl, hm, hL, h1⟩
  · have H1 := Lib.hid h1
    clear h1 h1b
    rcases put_cases2 n (r + 3) ((r : Int) + 3) (by omega) (by omega) (by omega) with ⟨h2, _⟩ | ⟨m, L, rfl, hm, hL, h2⟩
    · have H2 := Lib.hid h2
      clear h2 hr2
      go_enter Tryd.func5, Tryd.ntmps5
      go_wp2_with fail
      refine (H1.out w).mono ?_
      rintro e w1 ⟨rfl, hk⟩
      have HK1 := Lib.hid hk
      clear hk
      go_wp2_with fail
      refine (H2.out w1).mono ?_
      rintro e w2 ⟨rfl, hk⟩
      have HK2 := Lib.hid (Kp.trans HK1.out hk)
      clear hk
      go_wp2_with fail
      refine (answers2 w2).mono ?_
      rintro e w3 ⟨rfl, hk⟩
      have HK3 := Lib.hid (Kp.trans HK2.out hk)
      clear hk
      go_wp2_with fail
      go_ret
      exact ⟨rfl, HK3.out⟩
    · have H2 := Lib.hid h2
      clear h2 hr2 hm hL
      go_enter Tryd.func5, Tryd.ntmps5
      go_wp2_with fail
      refine (H1.out w).mono ?_
      rintro e w1 ⟨rfl, hk⟩
      have HK1 := Lib.hid hk
      clear hk
      go_wp2_with fail
      refine (H2.out w1).mono ?_
      rintro e w2 ⟨rfl, hb, hk⟩
      have HK2 := Lib.hid (Kp.trans HK1.out hk)
      clear hk hb
      go_wp2_with fail
      refine (answers2 w2).mono ?_
      rintro e w3 ⟨rfl, hk⟩
      have HK3 := Lib.hid (Kp.trans HK2.out hk)
      clear hk
      go_wp2_with fail
      go_ret
      exact ⟨rfl, HK3.out⟩
  · have H1 := Lib.hid h1
    obtain ⟨L', hL'⟩ := put_wide (by omega : 2 ≤ r + 2) hL
    obtain ⟨d, hd0, hd1⟩ := put_head (by omega) hL
    obtain ⟨d', hd0', hd1'⟩ := put_head (by omega) hL'
    have H2 := Lib.hid (fun w => put_some w m (r + 3) m ((r : Int) + 3) rfl (by omega) hm (by omega) (by omega) L' hL')
    have HP := Lib.hid (And.intro (parse_put hm (by omega) hL) (And.intro (parse_put hm (by omega) hL') (And.intro (put_len (by omega) hL) (And.intro (put_len (by omega) hL') (And.intro hd0 hd0')))))
    have hdc : ¬ d.toNat = 128 ∨ (d.toNat = 128 ∧ (d'.toNat = 128 ∨ (d'.toNat = 48 ∨ (49 ≤ d'.toNat ∧ d'.toNat ≤ 55)))) := by omega
    obtain ⟨y, hy⟩ : ∃ y, y = d.toNat := ⟨_, rfl⟩
    obtain ⟨y', hy'⟩ : ∃ y', y' = d'.toNat := ⟨_, rfl⟩
    rw [← hy, ← hy'] at hdc
    have HY := Lib.hid (And.intro hy hy')
    have HDC := Lib.hid hdc
    clear h1 hr2 hm hL hL' hd0 hd0' hd1 hd1' hy hy' hdc
    go_enter Tryd.func5, Tryd.ntmps5
    go_wp2_with fail
    refine (H1.out w).mono ?_
    rintro e w1 ⟨rfl, hb, hk⟩
    generalize w.heap.size = g at hb ⊢
    have HK1 := Lib.hid hk
    have HB1 := Lib.hid hb
    clear hk hb
    go_wp2_with fail
    refine (H2.out w1).mono ?_
    rintro e w2 ⟨rfl, hb, hk⟩
    generalize w1.heap.size = g2 at hb ⊢
    have HK2 := Lib.hid (Kp.trans HK1.out hk)
    have HB2 := Lib.hid (And.intro (Kp.blk HB1.out hk) hb)
    clear hk hb HB1 HK1
    go_wp2_with fail
    refine (parse_blk w2 g (r + 2) L HP.out.2.2.1.symm HB2.out.1 (by have := HR.out; omega) _ HP.out.1).mono ?_
    rintro e w3 ⟨rfl, hk⟩
    have HK3 := Lib.hid (Kp.trans HK2.out hk)
    have HB3 := Lib.hid (And.intro (Kp.blk HB2.out.1 hk) (Kp.blk HB2.out.2 hk))
    clear hk HB2 HK2
    go_wp2_with fail
    refine (parse_blk w3 g2 (r + 3) L' HP.out.2.2.2.1.symm HB3.out.2 (by have := HR.out; omega) _ HP.out.2.1).mono ?_
    rintro e w4 ⟨rfl, hk⟩
    have HK4 := Lib.hid (Kp.trans HK3.out hk)
    have HB4 := Lib.hid (And.intro (Kp.blk HB3.out.1 hk) (Kp.blk HB3.out.2 hk))
    clear hk HB3 HK3
    go_wp2_with fail
    refine (answers2 w4).mono ?_
    rintro e w5 ⟨rfl, hk⟩
    have HK5 := Lib.hid (Kp.trans HK4.out hk)
    have d0 := rd_at (blk_rd (Kp.blk HB4.out.1 hk)) 0 d HP.out.2.2.2.2.1
    have d1 := rd_at (blk_rd (Kp.blk HB4.out.2 hk)) 0 d' HP.out.2.2.2.2.2
    rw [← HY.out.1] at d0
    rw [← HY.out.2] at d1
    clear hk HB4 HK4
    rcases HDC.out with hdc | ⟨rfl, rfl | rfl | ⟨hdc, hdc2⟩⟩
    · have q5 : ¬ (y : Int) = 128 := by omega
      clear hdc
      go_wp2_with fail
      go_ret
      exact ⟨rfl, HK5.out⟩
    · go_wp2_with fail
      go_ret
      exact ⟨rfl, HK5.out⟩
    · go_wp2_with fail
      go_ret
      exact ⟨rfl, HK5.out⟩
    · have q5 : (49 : Int) ≤ (y' : Int) := by omega
      have q6 : (y' : Int) ≤ 55 := by omega
      clear hdc hdc2
      go_wp2_with fail
      go_ret
      exact ⟨rfl, HK5.out⟩
end Go.Proofs.YtgealodojemoeaaDoor
