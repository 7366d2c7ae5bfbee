/- bytes: trimLeftByte. (alias Tryd) Conditions: none. -/
import Derived.Test.YtgealodojemoeaaDoorFieldA
namespace Go.Proofs.YtgealodojemoeaaDoor
open Go.RowKit
set_option linter.unusedVariables false

/-- How many bytes ahead are this one. -/
def lead (b : UInt8) (L : List UInt8) : Nat := (L.takeWhile (· == b)).length
theorem lead_stop {b : UInt8} : ∀ {L : List UInt8} {j : Nat}, (∀ i, i < j → L[i]? = some b) → (j = L.length ∨ ∃ d, L[j]? = some d ∧ d ≠ b) → lead b L = j
  | [], j, h1, h2 => by
    rcases h2 with h2 | ⟨d, h2, _⟩
    · rw [h2]; rfl
    · simp at h2
  | a :: L, 0, h1, h2 => by
    rcases h2 with h2 | ⟨d, h2, h3⟩
    · simp at h2
    · simp at h2
      subst h2
      unfold lead
      rw [List.takeWhile_cons_of_neg (by simpa using h3)]
      rfl
  | a :: L, j + 1, h1, h2 => by
    have ha : a = b := by have := h1 0 (by omega); simpa using this
    subst ha
    have ih := lead_stop (b := a) (L := L) (j := j) (fun i hi => by have := h1 (i + 1) (by omega); simpa using this) (by
      rcases h2 with h2 | ⟨d, h2, h3⟩
      · exact .inl (by simpa using h2)
      · exact .inr ⟨d, by simpa using h2, h3⟩)
    unfold lead at ih ⊢
    rw [List.takeWhile_cons_of_pos (by simp)]
    simp [ih]
/-- What is left behind j bytes. -/
def leftF (g o n c j : Nat) : Value := if j = n then .slice none 0 0 else .slice (some ⟨g, o + j, none⟩) (n - j) (c - j)
def lenF (v : Value) : Nat := match v with | .slice _ m _ => m | _ => 0
set_option maxRecDepth 100000 in
set_option maxHeartbeats 4000000 in
theorem trimLeftByte_any (w : World) (g o n c : Nat) (L : List UInt8) (b : UInt8) (z : Int) (hz : z = (b.toNat : Int)) (hn : n = L.length) (hc : n ≤ c) (hc2 : c ≤ 9223372036854775807) (hr : RdV w (some ⟨g, o, none⟩) (bys L)) :
    Calls Tryd.prog 25 #[.slice (some ⟨g, o, none⟩) n c, .int .u8 z] w fun e w' => e = .returned (leftF g o n c (lead b L)) ∧ w = w' := by
  have HR := Lib.hid (And.intro hr (And.intro hz (And.intro hn (And.intro hc hc2))))
  clear hr hz hn hc hc2
  go_enter Tryd.func25, Tryd.ntmps25
  go_wp2_with fail
  go_loopw [0] (fun v0 wr => ∃ (j : Nat) (A : Option Addr) (c' m : Nat), v0 = .slice A m c' ∧ Hid (m = n - j ∧ j ≤ n ∧ m ≤ c' ∧ c' ≤ 9223372036854775807 ∧ (j < n → A = some ⟨g, o + j, none⟩ ∧ c' = c - j) ∧ (∀ i, i < j → L[i]? = some b)) ∧ wr = w) (fun v0 _ => lenF v0)
  case atStart => exact ⟨0, some ⟨g, o, none⟩, c, n, rfl, Lib.hid (by have := HR.out; exact ⟨by omega, Nat.zero_le _, by omega, by omega, fun _ => ⟨rfl, rfl⟩, fun i h => absurd h (Nat.not_lt_zero i)⟩), rfl⟩
  case round =>
    obtain ⟨j, A, c', m, rfl, HJ, rfl⟩ := hrel
    by_cases hm : 0 < m
    · have hjn : j < n := by have := HJ.out; omega
      obtain ⟨hA, hc'⟩ := HJ.out.2.2.2.2.1 hjn
      subst hA
      obtain ⟨d, hd⟩ : ∃ d, L[j]? = some d := ⟨_, List.getElem?_eq_getElem (by have := HR.out; omega)⟩
      have d0 := rd_at HR.out.1 j d hd
      obtain ⟨y, hy⟩ : ∃ y, y = (d.toNat : Int) := ⟨_, rfl⟩
      rw [← hy] at d0
      have q1 : (0 : Int) < (m : Int) := by omega
      have q2 : (1 : Int) ≤ (m : Int) := by omega
      have q3 : (m : Int) ≤ (c' : Int) := by have := HJ.out; omega
      have HD := Lib.hid (And.intro hd (And.intro hy (And.intro hjn (And.intro hc' hm))))
      clear hd hy hjn hc'
      by_cases hyz : y = z
      · subst hyz
        go_wp2_with fail
        go_roundw
        case rel =>
          have h1 := HJ.out
          have h2 := HD.out
          have h3 := HR.out
          refine ⟨j + 1, _, c' - 1, m - 1, rfl, Lib.hid ⟨by omega, by omega, by omega, by omega, fun h => ⟨?_, by omega⟩, fun i hi => ?_⟩, trivial⟩
          · rw [if_neg (by omega), Nat.add_assoc]
          · rcases Nat.lt_or_ge i j with h4 | h4
            · exact h1.2.2.2.2.2 i h4
            · obtain rfl : i = j := by omega
              rw [h2.1]
              congr 1
              apply UInt8.toNat_inj.1
              have := h2.2.1
              have := h3.2.1
              omega
        case measure => have := HD.out; simp [lenF]; omega
      · have hl : lead b L = j := lead_stop HJ.out.2.2.2.2.2 (.inr ⟨d, HD.out.1, fun e => hyz (by have h2 := HD.out.2.1; have h3 := HR.out.2.1; rw [h2, h3, e])⟩)
        have HL := Lib.hid hl
        clear hl
        go_wp2_with fail
        go_ret
        refine ⟨?_, rfl⟩
        rw [HL.out]
        unfold leftF
        have h1 := HJ.out
        have h2 := HD.out
        rw [if_neg (by omega), ← h2.2.2.2.1, ← h1.1]
        rfl
    · have hjn : j = n := by have := HJ.out; omega
      have hm0 : m = 0 := by omega
      subst hm0
      have hl : lead b L = j := lead_stop HJ.out.2.2.2.2.2 (.inl (by have := HR.out; omega))
      have HL := Lib.hid (And.intro hl hjn)
      clear hl hjn hm
      go_wp2_with fail
      go_ret
      refine ⟨?_, rfl⟩
      rw [HL.out.1]
      unfold leftF
      rw [if_pos HL.out.2]
      rfl
set_option maxRecDepth 100000 in
set_option maxHeartbeats 4000000 in
/-- TrimLeft at one byte, a blank. -/
theorem trimLeft_blank (w : World) (g o n c : Nat) (L : List UInt8) (hn : n = L.length) (h0 : 0 < n) (hc : n ≤ c) (hc2 : c ≤ 9223372036854775807) (hr : RdV w (some ⟨g, o, none⟩) (bys L)) :
    Calls Tryd.prog 16 #[.slice (some ⟨g, o, none⟩) n c, .string ⟨#[32]⟩] w fun e w' => e = .returned (leftF g o n c (lead 32 L)) ∧ w = w' := by
  have HR := Lib.hid (And.intro hr (And.intro hn (And.intro hc hc2)))
  have q0 : ¬ (n : Int) = 0 := by omega
  clear hr hn hc hc2 h0
  go_enter Tryd.func16, Tryd.ntmps16
  go_wp2_with fail
  refine (trimLeftByte_any w g o n c L 32 32 rfl HR.out.2.1 HR.out.2.2.1 HR.out.2.2.2 HR.out.1).mono ?_
  rintro e w1 ⟨rfl, rfl⟩
  obtain ⟨v, hv⟩ : ∃ v, v = leftF g o n c (lead 32 L) := ⟨_, rfl⟩
  rw [← hv]
  have HV := Lib.hid hv
  clear hv
  go_wp2_with fail
  go_ret
  refine ⟨?_, rfl⟩
  rw [← HV.out]
  rfl
/-- A set of bytes as a row of 256 marks. -/
def SetAt (w : World) (ab : Nat) (S : UInt8 → Bool) : Prop := ∀ d : UInt8, w.cell? ⟨ab, d.toNat, none⟩ = some (.bool (S d))
set_option maxRecDepth 100000 in
theorem contains_any (w : World) (ab : Nat) (S : UInt8 → Bool) (d : UInt8) (z : Int) (hz : z = (d.toNat : Int)) (h : SetAt w ab S) :
    Calls Tryd.prog 28 #[.pointer (some ⟨ab, 0, none⟩), .int .u8 z] w fun e w' => e = .returned (.bool (S d)) ∧ w = w' := by
  subst hz
  have d0 := h d
  have q0 : (d.toNat : Int) ≤ 255 := by have := d.toNat_lt; omega
  generalize S d = v at d0
  generalize d.toNat = m at d0 q0
  clear h
  go_enter Tryd.func28, Tryd.ntmps28
  go_wp2_with fail
  go_ret
  exact ⟨rfl, rfl⟩
end Go.Proofs.YtgealodojemoeaaDoor
