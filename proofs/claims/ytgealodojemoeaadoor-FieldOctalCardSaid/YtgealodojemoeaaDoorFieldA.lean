/- field: read, kept, write. (alias Tryd) Conditions: none. -/
import Derived.Test.YtgealodojemoeaaDoorNumIn
import Derived.Test.YtgealodojemoeaaDoorStApp
import Derived.Test.YtgealodojemoeaaDoorStr
import Derived.Test.YtgealodojemoeaaDoorRows
import Derived.Deep.OwnRows
namespace Go.Proofs.YtgealodojemoeaaDoor
open Go.RowKit
set_option linter.unusedVariables false

/-- Digits of a base, the highest first: the number, and whether it may be. -/
def readL (base : Nat) : Nat → List UInt8 → Nat × Bool
  | n, [] => (n, decide (n ≤ 4611686018427387904))
  | n, d :: r => if base ≤ d.toNat ∨ 4611686018427387904 / base < n then (0, false) else readL base (n * base + d.toNat) r
theorem readL_le (base : Nat) (hb : base = 8 ∨ base = 256) : ∀ (L : List UInt8) (n : Nat), n ≤ 4611686018427388160 → (readL base n L).1 ≤ 4611686018427388160
  | [], n, h => h
  | d :: r, n, h => by
    unfold readL
    split
    · simp
    · rename_i h1
      refine readL_le base hb r _ ?_
      have h2 : n ≤ 4611686018427387904 / base := by omega
      have h3 : d.toNat < base := by omega
      rcases hb with rfl | rfl <;> omega
theorem rd_at {w : World} {g o : Nat} {L : List UInt8} (h : RdV w (some ⟨g, o, none⟩) (bys L)) (i : Nat) (d : UInt8) (hi : L[i]? = some d) : w.cell? ⟨g, o + i, none⟩ = some (.int .u8 (d.toNat : Int)) := by
  obtain ⟨a, ha, hc⟩ := h i (.int .u8 (d.toNat : Int)) (by simp [bys, hi])
  cases ha
  rwa [add_plain] at hc
set_option maxRecDepth 100000 in
set_option maxHeartbeats 4000000 in
theorem field_read (w : World) (base : Nat) (hb : base = 8 ∨ base = 256) (A : Option Addr) (n c : Nat) (L : List UInt8) (hn : n = L.length) (hr : RdV w A (bys L)) (hA : ∀ x, A = some x → ∃ g o, x = ⟨g, o, none⟩) (hA0 : A = none → n = 0) (hc : n ≤ 140737488355328) :
    Calls Tryd.prog 14 #[.int .i64 base, .slice A n c] w fun e w' => e = .returned (.tuple #[.int .i64 (readL base 0 L).1, .bool (readL base 0 L).2]) ∧ w = w' := by
  subst hn
  have HR := Lib.hid (And.intro hr (And.intro hA hA0))
  have q0 : (L.length : Int) ≤ 140737488355328 := by omega
  clear hr hA hA0 hc
  obtain ⟨mx, hmx⟩ : ∃ mx, mx = 4611686018427387904 / base := ⟨_, rfl⟩
  have HMX : Hid (mx * base + base ≤ 4611686018427388160 ∧ mx = 4611686018427387904 / base ∧ base ≤ 256) := Lib.hid (by rcases hb with rfl | rfl <;> omega)
  have e0 : (4611686018427387904 : Int).tdiv (base : Int) = (mx : Int) := by rcases hb with rfl | rfl <;> subst hmx <;> rfl
  have e0' : (4611686018427387904 : Int) / (base : Int) = (mx : Int) := by rcases hb with rfl | rfl <;> subst hmx <;> rfl
  have q1 : ¬ (base : Int) = 0 := by rcases hb with rfl | rfl <;> omega
  have q1' : (0 : Int) < (base : Int) := by rcases hb with rfl | rfl <;> omega
  have q1m : (mx : Int) ≤ 4611686018427387904 := by rcases hb with rfl | rfl <;> omega
  have q1n : (0 : Int) ≤ (mx : Int) := by omega
  have HBB := Lib.hid hb
  clear hmx hb
  go_enter Tryd.func14, Tryd.ntmps14
  go_wp2_with fail
  go_loopw [6, 11] (fun v6 v11 wr => ∃ (i m : Nat), i ≤ L.length ∧ v6 = .int .i64 m ∧ v11 = .int .i64 i ∧ Hid (m ≤ 4611686018427388160 ∧ readL base m (L.drop i) = readL base 0 L) ∧ wr = w) (fun _ v11 _ => L.length - (intOf v11).toNat)
  case atStart => exact ⟨0, 0, Nat.zero_le _, rfl, rfl, Lib.hid ⟨by omega, by rw [List.drop_zero]⟩, rfl⟩
  case round =>
    obtain ⟨i, m, hi, rfl, rfl, HM, rfl⟩ := hrel
    have q2 : (m : Int) ≤ 4611686018427388160 := by have := HM.out.1; omega
    by_cases hlt : i < L.length
    · obtain ⟨d, hd⟩ : ∃ d, L[i]? = some d := ⟨_, List.getElem?_eq_getElem hlt⟩
      have hdr : L.drop i = d :: L.drop (i + 1) := by
        rw [List.drop_eq_getElem_cons hlt]
        congr 1
        exact (List.getElem?_eq_some_iff.1 hd).2
      rcases A with _ | ⟨⟩
      · have := HR.out.2.2 rfl; omega
      · rename_i ab ao asp
        obtain ⟨g, o, hx⟩ := HR.out.2.1 _ rfl
        cases hx
        have d0 := rd_at HR.out.1 i d hd
        obtain ⟨z, hz⟩ : ∃ z, z = d.toNat := ⟨_, rfl⟩
        rw [← hz] at d0
        have hz2 : z ≤ 255 := by have := d.toNat_lt; omega
        have q3 : (z : Int) ≤ 255 := by omega
        have q4 : (i : Int) < (L.length : Int) := by omega
        have HD := Lib.hid (And.intro hdr (And.intro hz hlt))
        clear hd hdr hz hlt hz2
        by_cases hzb : base ≤ z
        · have q5 : (base : Int) ≤ (z : Int) := by omega
          go_wp2_with fail
          go_ret2
          have h1 : readL base 0 L = (0, false) := by rw [← HM.out.2, HD.out.1, readL, if_pos (.inl (by rw [← HD.out.2.1]; exact hzb))]
          rw [h1]
          exact ⟨rfl, rfl⟩
        · have q5 : ¬ (base : Int) ≤ (z : Int) := by omega
          by_cases hmm : mx < m
          · have q6 : (mx : Int) < (m : Int) := by omega
            go_wp2_with fail
            go_ret2
            have h1 : readL base 0 L = (0, false) := by rw [← HM.out.2, HD.out.1, readL, if_pos (.inr (by rw [← HMX.out.2.1]; exact hmm))]
            rw [h1]
            exact ⟨rfl, rfl⟩
          · have q6 : ¬ (mx : Int) < (m : Int) := by omega
            have hmb : m * base ≤ mx * base := Nat.mul_le_mul_right _ (by omega)
            obtain ⟨p, hp⟩ : ∃ p, p = m * base := ⟨_, rfl⟩
            obtain ⟨s, hs⟩ : ∃ s, s = p + z := ⟨_, rfl⟩
            have e1 : IntKind.i64.wrap ((m : Int) * (base : Int)) = (p : Int) := by
              have h3 : (m : Int) * (base : Int) = (p : Int) := by rw [hp]; exact (Int.natCast_mul m base).symm
              rw [h3]; exact IntWalk.i64_in _ (by have := HMX.out; omega)
            have e2 : IntKind.i64.wrap ((p : Int) + (z : Int)) = (s : Int) := by rw [IntWalk.i64_in _ (by have := HMX.out; omega)]; omega
            have HS : Hid (s ≤ 4611686018427388160 ∧ s = m * base + z) := Lib.hid (by have := HMX.out; omega)
            have HN := Lib.hid (And.intro hzb hmm)
            clear hp hs hmb hzb hmm
            go_wp2_with fail
            go_roundw
            case rel =>
              refine ⟨i + 1, s, HD.out.2.2, rfl, by go_num, Lib.hid ⟨HS.out.1, ?_⟩, trivial⟩
              rw [← HM.out.2, HD.out.1, readL, if_neg (by rw [← HD.out.2.1, ← HMX.out.2.1]; have := HN.out; omega), HS.out.2, HD.out.2.1]
            case measure => have := HD.out.2.2; simp [intOf]; omega
    · have hil : i = L.length := by omega
      subst hil
      clear hlt
      have h1 : readL base 0 L = (m, decide (m ≤ 4611686018427387904)) := by rw [← HM.out.2, List.drop_length, readL]
      have H1 := Lib.hid h1
      clear h1
      by_cases hm : m ≤ 4611686018427387904
      · have q5 : (m : Int) ≤ 4611686018427387904 := by omega
        have HH := Lib.hid hm
        clear hm
        go_wp2_with fail
        go_ret2
        rw [H1.out, decide_eq_true HH.out]
        exact ⟨rfl, rfl⟩
      · have q5 : ¬ (m : Int) ≤ 4611686018427387904 := by omega
        have HH := Lib.hid hm
        clear hm
        go_wp2_with fail
        go_ret2
        rw [H1.out, decide_eq_false HH.out]
        exact ⟨rfl, rfl⟩
end Go.Proofs.YtgealodojemoeaaDoor
