/- FieldPuts. (alias Tryd) Conditions: none. -/
import Derived.Test.YtgealodojemoeaaDoorFieldP
namespace Go.Proofs.YtgealodojemoeaaDoor
open Go.RowKit
set_option linter.unusedVariables false
set_option linter.unusedSimpArgs false

theorem ref_some (w : World) (n wide : Nat) (ni wi : Int) (hni : ni = n) (hwi : wi = wide) (hn : n ≤ 4611686018427387904) (h2 : 2 ≤ wide) (h3 : wide ≤ 100) (L : List UInt8) (hp : putF n wide = some L) :
    Calls Tryd.prog 12 #[.int .i64 ni, .int .i64 wi] w fun e w' => e = .returned (.tuple #[.slice (some ⟨w.heap.size, 0, none⟩) wide wide, .bool true]) ∧ Blk w' w.heap.size 5 (bys L) ∧ Kp w w' := by
  subst hni hwi
  refine (ref_put w n wide hn h2 h3).mono ?_
  intro e w' h
  unfold PutA at h
  rw [hp] at h
  exact h
theorem ref_none (w : World) (n wide : Nat) (ni wi : Int) (hni : ni = n) (hwi : wi = wide) (hn : n ≤ 4611686018427387904) (h2 : 2 ≤ wide) (h3 : wide ≤ 100) (hp : putF n wide = none) :
    Calls Tryd.prog 12 #[.int .i64 ni, .int .i64 wi] w fun e w' => e = .returned (.tuple #[.slice none 0 0, .bool false]) ∧ Kp w w' := by
  subst hni hwi
  refine (ref_put w n wide hn h2 h3).mono ?_
  intro e w' h
  unfold PutA at h
  rw [hp] at h
  exact h
/-- Either both tell of none, or both tell the same bytes. -/
theorem put_cases (n wide : Int) :
    (∀ w, Calls Tryd.prog 11 #[.int .i64 n, .int .i64 wide] w fun e w' => e = .returned (.tuple #[.slice none 0 0, .bool false]) ∧ Kp w w') ∧ (∀ w, Calls Tryd.prog 12 #[.int .i64 n, .int .i64 wide] w fun e w' => e = .returned (.tuple #[.slice none 0 0, .bool false]) ∧ Kp w w')
    ∨ ∃ (m k : Nat) (L : List UInt8), n = m ∧ wide = k ∧ m ≤ 4611686018427387904 ∧ 2 ≤ k ∧ k ≤ 100 ∧ putF m k = some L := by
  by_cases h : 0 ≤ n ∧ n ≤ 4611686018427387904 ∧ 2 ≤ wide ∧ wide ≤ 100
  · obtain ⟨m, rfl⟩ := Int.eq_ofNat_of_zero_le h.1
    obtain ⟨k, rfl⟩ := Int.eq_ofNat_of_zero_le (show 0 ≤ wide by omega)
    rcases hp : putF m k with _ | L
    · exact .inl ⟨fun w => put_none w m k m k rfl rfl (by omega) (by omega) (by omega) hp, fun w => ref_none w m k m k rfl rfl (by omega) (by omega) (by omega) hp⟩
    · exact .inr ⟨m, k, L, rfl, rfl, by omega, by omega, by omega, hp⟩
  · refine .inl ⟨fun w => (field_put_no w n wide h).mono ?_, fun w => (ref_put_no w n wide h).mono ?_⟩
    · rintro e w' ⟨rfl, rfl⟩
      exact ⟨rfl, Keep.refl _ _⟩
    · rintro e w' ⟨rfl, rfl⟩
      exact ⟨rfl, Keep.refl _ _⟩
theorem conv_blk (w : World) (g n c : Nat) (L : List UInt8) (hn : n = L.length) (h : Blk w g 5 (bys L)) : (convert 22 9 (.slice (some ⟨g, 0, none⟩) n c)).run Tryd.prog w = .ok (.string (str L)) w :=
  conv_rd (blk_rd h) hn (fun h => by cases h) trivial
set_option maxRecDepth 100000 in
set_option maxHeartbeats 4000000 in
theorem fieldPuts_walk (n : Int) (hn : IntKind.i64.min ≤ n ∧ n ≤ IntKind.i64.max) (wide : Int) (hw : IntKind.i64.min ≤ wide ∧ wide ≤ IntKind.i64.max) (w : World) :
    Calls Tryd.prog 4 #[.int .i64 n, .int .i64 wide] w fun e w' => e = .returned (.bool true) ∧ Kp w w' := by
  clear hn hw
  rcases put_cases n wide with ⟨h1, h2⟩ | ⟨m, k, L, rfl, rfl, hm, hk2, hk3, hL⟩
  · have H1 := Lib.hid (And.intro h1 h2)
    clear h1 h2
    have kc : ∀ w, (convert 22 9 (.slice none 0 0)).run Tryd.prog w = .ok (.string (str [])) w := fun w => conv_rd (RdV.nil _ _) rfl (fun _ => rfl) trivial
    generalize str [] = s at kc
    go_enter Tryd.func4, Tryd.ntmps4
    go_wp2_with fail
    refine (H1.out.1 w).mono ?_
    rintro e w1 ⟨rfl, hk⟩
    have HK1 := Lib.hid hk
    clear hk
    go_wp2_with fail
    refine (H1.out.2 w1).mono ?_
    rintro e w2 ⟨rfl, hk⟩
    have HK2 := Lib.hid (Kp.trans HK1.out hk)
    clear hk
    go_wp2_with fail
    refine (answers2 w2).mono ?_
    rintro e w3 ⟨rfl, hk⟩
    have HK3 := Lib.hid (Kp.trans HK2.out hk)
    clear hk
    go_wp2_with fail
    go_ret
    exact ⟨rfl, HK3.out⟩
  · have HL := Lib.hid (And.intro hm (And.intro hk2 (And.intro hk3 hL)))
    clear hm hk2 hk3 hL
    go_enter Tryd.func4, Tryd.ntmps4
    go_wp2_with fail
    refine (put_some w m k m k rfl rfl HL.out.1 HL.out.2.1 HL.out.2.2.1 L HL.out.2.2.2).mono ?_
    rintro e w1 ⟨rfl, hb, hk⟩
    generalize w.heap.size = g at hb ⊢
    have HK1 := Lib.hid hk
    have HB1 := Lib.hid hb
    clear hk hb
    go_wp2_with fail
    refine (ref_some w1 m k m k rfl rfl HL.out.1 HL.out.2.1 HL.out.2.2.1 L HL.out.2.2.2).mono ?_
    rintro e w2 ⟨rfl, hb, hk⟩
    generalize w1.heap.size = g2 at hb ⊢
    have HK2 := Lib.hid (Kp.trans HK1.out hk)
    have hb1 := Kp.blk HB1.out hk
    have c1 : True → _ := fun _ => conv_blk w2 g k k L (put_len HL.out.2.1 HL.out.2.2.2).symm hb1
    have c2 : True → _ := fun _ => conv_blk w2 g2 k k L (put_len HL.out.2.1 HL.out.2.2.2).symm hb
    generalize str L = s at c1 c2
    have HB := Lib.hid hb1
    clear hk hb hb1 HK1 HB1
    go_wp2_with fail
    refine (parse_blk w2 g k L (put_len HL.out.2.1 HL.out.2.2.2).symm HB.out (by have := HL.out; omega) _ (parse_put HL.out.1 HL.out.2.1 HL.out.2.2.2)).mono ?_
    rintro e w3 ⟨rfl, hk⟩
    have HK3 := Lib.hid (Kp.trans HK2.out hk)
    clear hk c1 c2
    go_wp2_with fail
    refine (answers2 w3).mono ?_
    rintro e w4 ⟨rfl, hk⟩
    have HK4 := Lib.hid (Kp.trans HK3.out hk)
    clear hk
    go_wp2_with fail
    go_ret
    exact ⟨rfl, HK4.out⟩
end Go.Proofs.YtgealodojemoeaaDoor
