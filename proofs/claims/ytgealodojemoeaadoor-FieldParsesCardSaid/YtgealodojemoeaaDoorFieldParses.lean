/- FieldParses. (alias Tryd) Conditions: none. -/
import Derived.Test.YtgealodojemoeaaDoorFieldP
namespace Go.Proofs.YtgealodojemoeaaDoor
open Go.RowKit
set_option linter.unusedVariables false
set_option linter.unusedSimpArgs false

/-- Parse of a row of its own. -/
theorem parse_own (w : World) (base : Nat) (v : Value) (n : Nat) (L : List UInt8) (h : w.ownsRow base 5 1 v n (bys L)) (hl : n ≤ 140737488355328) :
    Calls Tryd.prog 9 #[v] w fun e w' => e = .returned (.tuple #[.int .i64 (parseF L).1, .bool (parseF L).2]) ∧ Kp w w' := by
  rcases own_form h with ⟨rfl, rfl, hL⟩ | ⟨g, c, rfl, hc, hc2, hr⟩
  · have : L = [] := List.eq_nil_of_length_eq_zero (by have := congrArg List.length hL; simpa [bys] using this)
    subst this
    exact field_parse w none 0 0 [] rfl (RdV.nil _ _) (fun x hx => by cases hx) (fun _ => rfl) (Nat.le_refl _) (by omega) (by omega)
  · have h0 := hr 0
    rw [List.drop_zero] at h0
    have hn : n = L.length := by have := h.1; simpa [bys] using this.symm
    exact field_parse w _ n c L hn h0 (fun x hx => ⟨_, _, (Option.some.inj hx).symm⟩) (fun hx => by cases hx) hc hc2 hl
set_option maxRecDepth 100000 in
set_option maxHeartbeats 4000000 in
theorem fieldParses_any (A : Option Addr) (c : Nat) (l : List UInt8) (w : World) (hr : RdV w A (bys l)) (hA : A = none → l = []) (hl : l.length ≤ c) (hc : c ≤ 9223372036854775807) :
    Calls Tryd.prog 3 #[.slice A l.length c] w fun e w' => e = .returned (.bool true) ∧ Kp w w' := by
  have HR := Lib.hid (And.intro hr (And.intro hA (And.intro hl hc)))
  by_cases h3 : l.length ≤ 300
  · have d1 : decide ((300 : Int) < (l.length : Int)) = false := decide_eq_false (by omega)
    have HL := Lib.hid h3
    have key : ∀ w', Kp w w' → Calls Tryd.prog 10 #[.slice A l.length c] w' fun e w'' => e = .returned (.tuple #[.int .i64 (fieldR l).1, .bool (fieldR l).2]) ∧ w' = w'' := fun w' hk =>
      ref_field w' A l.length c l rfl (hr.old hk) (fun h => by rw [hA h]; rfl) hl hc (by omega)
    have KEY := Lib.hid key
    obtain ⟨n, hn⟩ : ∃ n, n = l.length := ⟨_, rfl⟩
    rw [← hn] at d1 KEY ⊢
    have HN := Lib.hid hn
    clear hr hA hl hc h3 key hn
    go_enter Tryd.func3, Tryd.ntmps3
    go_wp2_with (
      at_builtin
      refine wpL_fresh _ rfl (.tmp 12) (.tmp 13) 22 22 rfl 5 (.int .u8 0) 1 1 Tryd.underlying22 infoU8f rfl (by decide) _ rfl rfl _ n (bys l) rfl (Src.of_rd Tryd.underlying22 (HR.out.1.old ((Keep.refl _ w).alloc _)) n c (by rw [bys_length, Nat.mul_one]; exact HN.out.symm) (one_bys _) (fun e => by have := HR.out.2.1 e; rw [HN.out, this]; rfl)) (by have := HL.out; have := HN.out; unfold maxLen; omega) (by have := HL.out; have := HN.out; omega) ?_
      intro v1 w1 hown1 hk1
      have HO1 := Lib.hid hown1
      have HK1 : Hid (Kp w w1) := Lib.hid (hk1.mono (fun _ _ h => h.elim))
      clear hown1 hk1)
    refine (parse_own w1 _ v1 n l HO1.out (by have := HL.out; have := HN.out; omega)).mono ?_
    rintro e w2 ⟨rfl, hk⟩
    have HK2 := Lib.hid (Kp.trans HK1.out hk)
    clear hk
    have hpf := parse_field l
    obtain ⟨p, hp⟩ : ∃ p, p = parseF l := ⟨_, rfl⟩
    obtain ⟨q, hq⟩ : ∃ q, q = fieldR l := ⟨_, rfl⟩
    rw [← hp, ← hq] at hpf
    rw [← hp]
    rw [← hq] at KEY
    have HPQ := Lib.hid hpf
    clear hpf hp hq
    go_wp2_with fail
    refine (KEY.out w2 HK2.out).mono ?_
    rintro e w3 ⟨rfl, rfl⟩
    rcases q with ⟨m, b⟩
    have hpq := HPQ.out
    clear HPQ
    subst hpq
    cases b
    · go_wp2_with fail
      refine (answers2 w2).mono ?_
      rintro e w3 ⟨rfl, hk⟩
      have HK3 := Lib.hid (Kp.trans HK2.out hk)
      clear hk
      go_wp2_with fail
      go_ret
      exact ⟨rfl, HK3.out⟩
    · go_wp2_with fail
      refine (answers2 w2).mono ?_
      rintro e w3 ⟨rfl, hk⟩
      have HK3 := Lib.hid (Kp.trans HK2.out hk)
      clear hk
      go_wp2_with fail
      go_ret
      exact ⟨rfl, HK3.out⟩
  · have d1 : decide ((300 : Int) < (l.length : Int)) = true := decide_eq_true (by omega)
    clear hr hA hl hc h3
    go_enter Tryd.func3, Tryd.ntmps3
    go_wp2_with fail
    refine (answers2 w).mono ?_
    rintro e w3 ⟨rfl, hk⟩
    have HK3 := Lib.hid hk
    clear hk
    go_wp2_with fail
    go_ret
    exact ⟨rfl, HK3.out⟩
end Go.Proofs.YtgealodojemoeaaDoor
