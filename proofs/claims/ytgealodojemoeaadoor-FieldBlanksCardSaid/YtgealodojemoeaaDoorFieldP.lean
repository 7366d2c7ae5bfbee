/- The plain law of fields: what was put is read. Conditions: none. -/
import Derived.Test.YtgealodojemoeaaDoorFieldL
namespace Go.Proofs.YtgealodojemoeaaDoor
open Go.RowKit
set_option linter.unusedVariables false
set_option linter.unusedSimpArgs false

theorem digL_succ (base zr n m : Nat) : digL base zr n (m + 1) = UInt8.ofNat (zr + n / base ^ m % base) :: digL base zr n m := by
  unfold digL
  rw [List.range_succ_eq_map, List.map_cons, List.map_map]
  congr 1
  apply List.map_congr_left
  intro j hj
  show UInt8.ofNat (zr + n / base ^ (m + 1 - 1 - (j + 1)) % base) = _
  rw [show m + 1 - 1 - (j + 1) = m - 1 - j by omega]
theorem readL_dig (base : Nat) (hb : base = 8 ∨ base = 256) (n : Nat) (hn : n ≤ 4611686018427387904) : ∀ m, readL base (n / base ^ m) (digL base 0 n m) = (n, true)
  | 0 => by
    rw [Nat.pow_zero, Nat.div_one]
    show readL base n [] = _
    rw [readL, decide_eq_true hn]
  | m + 1 => by
    have h0 : 0 < base := by omega
    have h1 : n / base ^ m % base < base := Nat.mod_lt _ h0
    have h2 : (UInt8.ofNat (0 + n / base ^ m % base)).toNat = n / base ^ m % base := by
      rw [UInt8.toNat_ofNat']
      omega
    have h3 : n / base ^ (m + 1) ≤ 4611686018427387904 / base := by
      rw [Nat.pow_succ, Nat.mul_comm, ← Nat.div_div_eq_div_mul]
      exact Nat.le_trans (Nat.div_le_self _ _) (Nat.div_le_div_right hn)
    rw [digL_succ, readL, h2, if_neg (by omega)]
    have h4 : n / base ^ (m + 1) * base + n / base ^ m % base = n / base ^ m := by
      rw [Nat.pow_succ, ← Nat.div_div_eq_div_mul, Nat.mul_comm]
      exact Nat.div_add_mod _ _
    rw [h4]
    exact readL_dig base hb n hn m
theorem dig_mem {n m : Nat} {x : UInt8} (h : x ∈ digL 8 48 n m) : 48 ≤ x.toNat ∧ x.toNat ≤ 55 := by
  simp only [digL, List.mem_map, List.mem_range] at h
  obtain ⟨j, hj, rfl⟩ := h
  rw [UInt8.toNat_ofNat']
  omega
theorem dig_map (n m : Nat) : (digL 8 48 n m).map (· - 48) = digL 8 0 n m := by
  simp only [digL, List.map_map]
  apply List.map_congr_left
  intro j hj
  show UInt8.ofNat (48 + n / 8 ^ (m - 1 - j) % 8) - 48 = _
  apply UInt8.toNat_inj.1
  have h2 : (48 : UInt8).toNat = 48 := rfl
  rw [UInt8.toNat_sub, h2, UInt8.toNat_ofNat', UInt8.toNat_ofNat']
  omega
theorem dig_not {x : UInt8} (h : 48 ≤ x.toNat ∧ x.toNat ≤ 55) : x ≠ 32 ∧ isBZ x = false ∧ x ≠ 128 := by
  refine ⟨?_, ?_, ?_⟩
  · rintro rfl
    have : (32 : UInt8).toNat = 32 := rfl
    omega
  · cases hb : isBZ x
    · rfl
    · have := (bz_iff x).1 hb
      omega
  · rintro rfl
    have : (128 : UInt8).toNat = 128 := rfl
    omega
theorem trim_mid (A D B : List UInt8) (hA : ∀ x ∈ A, x = 32) (h0 : D ≠ []) (hD : ∀ x ∈ D, 48 ≤ x.toNat ∧ x.toNat ≤ 55) (hB : ∀ x ∈ B, isBZ x = true) : trimF (A ++ D ++ B) = D := by
  obtain ⟨d, r, rfl⟩ : ∃ d r, D = d :: r := by
    rcases D with _ | ⟨d, r⟩
    · exact absurd rfl h0
    · exact ⟨d, r, rfl⟩
  have hl : lead 32 (A ++ (d :: r) ++ B) = A.length := by
    refine lead_stop (fun i hi => ?_) (.inr ⟨d, ?_, (dig_not (hD d List.mem_cons_self)).1⟩)
    · rw [List.append_assoc, List.getElem?_append_left hi, List.getElem?_eq_getElem hi]
      rw [hA _ (List.getElem_mem hi)]
    · rw [List.append_assoc, List.getElem?_append_right (Nat.le_refl _), Nat.sub_self]
      rfl
  have hd : (A ++ (d :: r) ++ B).drop A.length = (d :: r) ++ B := by
    rw [List.append_assoc, List.drop_left]
  have hk : keptR isBZ ((d :: r) ++ B) = (d :: r).length := by
    refine keptR_stop (by simp) (fun i x h1 h2 => ?_) (.inr ?_)
    · rw [List.getElem?_append_right h1] at h2
      exact hB x (List.mem_of_getElem? h2)
    · have hlt : (d :: r).length - 1 < (d :: r).length := by simp
      refine ⟨(d :: r)[(d :: r).length - 1], ?_, (dig_not (hD _ (List.getElem_mem hlt))).2.1⟩
      rw [List.getElem?_append_left hlt, List.getElem?_eq_getElem hlt]
  unfold trimF
  rw [hl, hd, hk, List.take_left]
theorem parse_oct (L : List UInt8) (h0 : L ≠ []) (h1 : L.head? ≠ some 128) : parseF L = keptP (readL 8 0 ((trimF L).map (· - 48))) := by
  rcases L with _ | ⟨d, r⟩
  · exact absurd rfl h0
  · unfold parseF
    exact if_neg (fun e => h1 (by rw [e]; rfl))
/-- Octal digits between blanks. -/
theorem parse_mid (A B : List UInt8) (n m : Nat) (hA : ∀ x ∈ A, x = 32) (hB : ∀ x ∈ B, isBZ x = true) (hm : 1 ≤ m) (hn : n ≤ 4611686018427387904) (h8 : n / 8 ^ m = 0) : parseF (A ++ digL 8 48 n m ++ B) = (n, true) := by
  obtain ⟨d, r, hdr⟩ : ∃ d r, digL 8 48 n m = d :: r := by
    rcases h : digL 8 48 n m with _ | ⟨d, r⟩
    · have := digL_len 8 48 n m
      rw [h] at this
      simp at this
      omega
    · exact ⟨d, r, rfl⟩
  have hD : ∀ x ∈ digL 8 48 n m, 48 ≤ x.toNat ∧ x.toNat ≤ 55 := fun x hx => dig_mem hx
  have h0 : digL 8 48 n m ≠ [] := by rw [hdr]; exact List.cons_ne_nil _ _
  rw [parse_oct, trim_mid A _ B hA h0 hD hB, dig_map]
  · have := readL_dig 8 (.inl rfl) n hn m
    rw [h8] at this
    rw [this]
    rfl
  · rw [hdr]; simp
  · rcases A with _ | ⟨a, A⟩
    · rw [hdr]
      intro e
      have e2 : d = 128 := Option.some.inj e
      exact (dig_not (hD d (by rw [hdr]; exact List.mem_cons_self))).2.2 e2
    · intro e
      have e2 : a = 128 := Option.some.inj e
      have e3 := hA a List.mem_cons_self
      rw [e3] at e2
      exact absurd e2 (by decide)
/-- What was put is read. -/
theorem parse_put {n wide : Nat} {L : List UInt8} (hn : n ≤ 4611686018427387904) (h2 : 2 ≤ wide) (h : putF n wide = some L) : parseF L = (n, true) := by
  unfold putF at h
  split at h
  · rename_i h8
    obtain rfl := Option.some.inj h
    exact parse_mid [] [0] n (wide - 1) (by simp) (by intro x hx; simp at hx; subst hx; rfl) (by omega) hn h8
  · split at h
    · rename_i h8 h256
      obtain rfl := Option.some.inj h
      show keptP (readL 256 0 (digL 256 0 n (wide - 1))) = _
      have := readL_dig 256 (.inr rfl) n hn (wide - 1)
      rw [h256] at this
      rw [this]
      rfl
    · cases h
theorem put_len {n wide : Nat} {L : List UInt8} (h2 : 2 ≤ wide) (h : putF n wide = some L) : L.length = wide := by
  unfold putF at h
  split at h
  · obtain rfl := Option.some.inj h
    rw [List.length_append, digL_len]
    simp
    omega
  · split at h
    · obtain rfl := Option.some.inj h
      rw [List.length_cons, digL_len]
      omega
    · cases h
/-- The first byte of what was put. -/
theorem put_head {n wide : Nat} {L : List UInt8} (h2 : 2 ≤ wide) (h : putF n wide = some L) : ∃ d, L[0]? = some d ∧ (n / 8 ^ (wide - 1) = 0 ∧ 48 ≤ d.toNat ∧ d.toNat ≤ 55 ∧ L[wide - 1]? = some 0 ∨ ¬ n / 8 ^ (wide - 1) = 0 ∧ d.toNat = 128) := by
  unfold putF at h
  split at h
  · rename_i h8
    obtain rfl := Option.some.inj h
    obtain ⟨m, hm⟩ : ∃ m, wide - 1 = m + 1 := ⟨wide - 2, by omega⟩
    rw [hm] at h8 ⊢
    refine ⟨UInt8.ofNat (48 + n / 8 ^ m % 8), by rw [digL_succ]; rfl, .inl ⟨h8, ?_, ?_, ?_⟩⟩
    · rw [UInt8.toNat_ofNat']; omega
    · rw [UInt8.toNat_ofNat']; omega
    · rw [List.getElem?_append_right (by rw [digL_len]; exact Nat.le_refl _), digL_len, Nat.sub_self]
      rfl
  · split at h
    · rename_i h8 h256
      obtain rfl := Option.some.inj h
      exact ⟨128, rfl, .inr ⟨h8, rfl⟩⟩
    · cases h
theorem put_wide {n wide : Nat} {L : List UInt8} (h2 : 2 ≤ wide) (h : putF n wide = some L) : ∃ L', putF n (wide + 1) = some L' := by
  have hdz : ∀ b k, n / b ^ k = 0 → n / b ^ (k + 1) = 0 := by
    intro b k h
    rw [Nat.pow_succ, ← Nat.div_div_eq_div_mul, h, Nat.zero_div]
  have e : wide + 1 - 1 = (wide - 1) + 1 := by omega
  by_cases h8 : n / 8 ^ (wide - 1) = 0
  · exact ⟨_, by unfold putF; rw [e, if_pos (hdz 8 _ h8)]⟩
  · by_cases h256 : n / 256 ^ (wide - 1) = 0
    · unfold putF
      rw [e]
      by_cases h9 : n / 8 ^ (wide - 1 + 1) = 0
      · exact ⟨_, if_pos h9⟩
      · exact ⟨_, by rw [if_neg h9, if_pos (hdz 256 _ h256)]⟩
    · unfold putF at h
      rw [if_neg h8, if_neg h256] at h
      cases h
end Go.Proofs.YtgealodojemoeaaDoor
