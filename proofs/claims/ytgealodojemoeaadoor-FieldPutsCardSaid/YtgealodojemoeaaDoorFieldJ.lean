/- ref01: Octal. (alias Tryd) Conditions: none. -/
import Derived.Test.YtgealodojemoeaaDoorFieldI
import Derived.Test.YtgealodojemoeaaDoorConvB
namespace Go.Proofs.YtgealodojemoeaaDoor
open Go.RowKit
set_option linter.unusedVariables false
set_option linter.unusedSimpArgs false

theorem run_index_str (w : World) (L : List UInt8) (i : Nat) (d : UInt8) (hd : L[i]? = some d) : (Instr.index 9 (.string (str L)) (.int .i64 (i : Int))).run Tryd.prog w = .ok (.int .u8 (d.toNat : Int)) w := by
  obtain ⟨hlt, rfl⟩ := List.getElem?_eq_some_iff.1 hd
  rw [run_index_string w 9 (str L) .i64 i Tryd.underlying9, dif_pos ⟨by omega, by rw [str_size]; omega⟩]
  rfl
theorem oct_digit (d : UInt8) : 8 ≤ (d - 48).toNat ↔ d.toNat < 48 ∨ 55 < d.toNat := by
  rw [UInt8.toNat_sub]
  have h1 := d.toNat_lt
  have h2 : (48 : UInt8).toNat = 48 := rfl
  rw [h2]
  omega
set_option maxRecDepth 100000 in
set_option maxHeartbeats 4000000 in
theorem ref_octal (w : World) (L : List UInt8) (hc : L.length ≤ 140737488355328) :
    Calls Tryd.prog 17 #[.string (str L)] w fun e w' => e = .returned (.tuple #[.int .i64 (readL 8 0 (L.map (· - 48))).1, .bool (readL 8 0 (L.map (· - 48))).2]) ∧ w = w' := by
  obtain ⟨s, hs⟩ : ∃ s, s = str L := ⟨_, rfl⟩
  obtain ⟨n, hn⟩ : ∃ n, n = L.length := ⟨_, rfl⟩
  have hsz : s.size = n := by rw [hs, str_size, hn]
  have hix : ∀ (w : World) (i : Nat) (d : UInt8), L[i]? = some d → (Instr.index 9 (.string s) (.int .i64 (i : Int))).run Tryd.prog w = .ok (.int .u8 (d.toNat : Int)) w := fun w i d h => by rw [hs]; exact run_index_str w L i d h
  have HIX := Lib.hid (And.intro hix (And.intro hn hc))
  have q0 : (n : Int) ≤ 140737488355328 := by omega
  rw [← hs]
  clear hix hs hc hn
  go_enter Tryd.func17, Tryd.ntmps17
  go_wp2_with fail
  go_loopw [4, 5] (fun v4 v5 wr => ∃ (i m : Nat), i ≤ n ∧ v4 = .int .i64 m ∧ v5 = .int .i64 i ∧ Hid (m ≤ 4611686018427388160 ∧ readL 8 m ((L.map (· - 48)).drop i) = readL 8 0 (L.map (· - 48))) ∧ wr = w) (fun _ v5 _ => n - (intOf v5).toNat)
  case atStart => exact ⟨0, 0, Nat.zero_le _, rfl, rfl, Lib.hid ⟨by omega, by rw [List.drop_zero]⟩, rfl⟩
  case round =>
    obtain ⟨i, m, hi, rfl, rfl, HM, rfl⟩ := hrel
    have q2 : (m : Int) ≤ 4611686018427388160 := by have := HM.out.1; omega
    by_cases hlt : i < n
    · obtain ⟨d, hd⟩ : ∃ d, L[i]? = some d := ⟨_, List.getElem?_eq_getElem (by have := HIX.out.2.1; omega)⟩
      have hdr : (L.map (· - 48)).drop i = (d - 48) :: (L.map (· - 48)).drop (i + 1) := by
        have hl2 : i < (L.map (· - 48)).length := by rw [List.length_map]; have := HIX.out.2.1; omega
        rw [List.drop_eq_getElem_cons hl2]
        congr 1
        rw [List.getElem_map]
        congr 1
        exact (List.getElem?_eq_some_iff.1 hd).2
      have hx := fun (w : World) => HIX.out.1 w i d hd
      have ho := oct_digit d
      obtain ⟨z, hz⟩ : ∃ z, z = d.toNat := ⟨_, rfl⟩
      rw [← hz] at hx ho
      have hz2 : z ≤ 255 := by have := d.toNat_lt; omega
      have q3 : (z : Int) ≤ 255 := by omega
      have q4 : (i : Int) < (n : Int) := by omega
      have HD := Lib.hid (And.intro hdr (And.intro hz hlt))
      clear hd hdr hz hlt hz2
      by_cases hz8 : z < 48 ∨ 55 < z
      · have h1 : readL 8 0 (L.map (· - 48)) = (0, false) := by rw [← HM.out.2, HD.out.1, readL, if_pos (.inl (ho.2 hz8))]
        have H1 := Lib.hid h1
        clear h1 ho
        rcases hz8 with hz8 | hz8
        · have q5 : (z : Int) < 48 := by omega
          go_wp2_with fail
          go_ret2
          rw [H1.out]
          exact ⟨rfl, rfl⟩
        · have q5 : ¬ (z : Int) < 48 := by omega
          have q6 : (55 : Int) < (z : Int) := by omega
          go_wp2_with fail
          go_ret2
          rw [H1.out]
          exact ⟨rfl, rfl⟩
      · have q5 : ¬ (z : Int) < 48 := by omega
        have q6 : ¬ (55 : Int) < (z : Int) := by omega
        by_cases hmm : 576460752303423488 < m
        · have q7 : (576460752303423488 : Int) < (m : Int) := by omega
          have h1 : readL 8 0 (L.map (· - 48)) = (0, false) := by rw [← HM.out.2, HD.out.1, readL, if_pos (.inr (by omega))]
          have H1 := Lib.hid h1
          clear h1 ho hz8 hmm
          go_wp2_with fail
          go_ret2
          rw [H1.out]
          exact ⟨rfl, rfl⟩
        · have q7 : ¬ (576460752303423488 : Int) < (m : Int) := by omega
          have hd8 : (d - 48).toNat + 48 = z := by
            have h1 : ¬ 8 ≤ (d - 48).toNat := fun h => hz8 (ho.1 h)
            have h2 := d.toNat_lt
            have h3 : (48 : UInt8).toNat = 48 := rfl
            rw [UInt8.toNat_sub, h3] at h1 ⊢
            have := HD.out.2.1
            omega
          have HN := Lib.hid (And.intro hz8 (And.intro hmm (And.intro hd8 ho)))
          have q8 : (48 : Int) ≤ z := by omega
          clear hz8 hmm hd8 ho
          go_wp2_with fail
          go_roundw
          case rel =>
            have h9 := HN.out
            refine ⟨i + 1, m * 8 + (d - 48).toNat, HD.out.2.2, ?_, by go_num, Lib.hid ⟨by omega, ?_⟩, trivial⟩
            · go_num
            · rw [← HM.out.2, HD.out.1, readL, if_neg (by have h8 := h9.2.2.2; omega)]
          case measure => have := HD.out.2.2; simp [intOf]; omega
    · have hil : i = n := by omega
      subst hil
      clear hlt
      have h1 : readL 8 0 (L.map (· - 48)) = (m, decide (m ≤ 4611686018427387904)) := by
        have h2 := HIX.out.2.1
        rw [← HM.out.2, List.drop_of_length_le (by rw [List.length_map]; omega), readL]
      have H1 := Lib.hid h1
      clear h1
      by_cases hm : m ≤ 4611686018427387904
      · have q5 : (m : Int) ≤ 4611686018427387904 := by omega
        have HH := Lib.hid hm
        clear hm
        go_wp2_with fail
        go_ret2
        rw [H1.out, decide_eq_true HH.out]
        exact ⟨rfl, rfl⟩
      · have q5 : ¬ (m : Int) ≤ 4611686018427387904 := by omega
        have HH := Lib.hid hm
        clear hm
        go_wp2_with fail
        go_ret2
        rw [H1.out, decide_eq_false HH.out]
        exact ⟨rfl, rfl⟩
end Go.Proofs.YtgealodojemoeaaDoor
