/- The plain law of the heap: what Push and Pop make of a list. No program in sight. Conditions: none. -/
import Derived.Test.YtbkpjjibgnachaaHeapE
namespace Go.Proofs.Ytbkpjjibgnachaa

abbrev K3 := List UInt8 × Int × Int
def lt3 (x y : K3) : Prop := x.1 < y.1 ∨ (x.1 = y.1 ∧ (x.2.1 < y.2.1 ∨ (x.2.1 = y.2.1 ∧ x.2.2 < y.2.2)))
def rk (e : En) : K3 := (e.k.toList, e.s, e.r)
theorem list_tri (x y : List UInt8) : x < y ∨ x = y ∨ y < x := by
  rcases List.le_total x y with h | h <;> rcases (List.le_iff_lt_or_eq.mp h) with h | h
  · exact .inl h
  · exact .inr (.inl h)
  · exact .inr (.inr h)
  · exact .inr (.inl h.symm)
theorem lt3_irr (x : K3) : ¬ lt3 x x := by
  rintro (h | ⟨_, h | ⟨_, h⟩⟩)
  · exact absurd h (List.lt_irrefl _)
  · omega
  · omega
theorem lt3_tri (x y : K3) : lt3 x y ∨ x = y ∨ lt3 y x := by
  obtain ⟨a, b, c⟩ := x
  obtain ⟨a', b', c'⟩ := y
  rcases list_tri a a' with h | h | h
  · exact .inl (.inl h)
  · subst h
    rcases Int.lt_trichotomy b b' with h | h | h
    · exact .inl (.inr ⟨rfl, .inl h⟩)
    · subst h
      rcases Int.lt_trichotomy c c' with h | h | h
      · exact .inl (.inr ⟨rfl, .inr ⟨rfl, h⟩⟩)
      · subst h; exact .inr (.inl rfl)
      · exact .inr (.inr (.inr ⟨rfl, .inr ⟨rfl, h⟩⟩))
    · exact .inr (.inr (.inr ⟨rfl, .inl h⟩))
  · exact .inr (.inr (.inl h))
theorem lt3_trans {x y z : K3} (h : lt3 x y) (g : lt3 y z) : lt3 x z := by
  rcases h with h | ⟨h, h'⟩ <;> rcases g with g | ⟨g, g'⟩
  · exact .inl (List.lt_trans h g)
  · exact .inl (by rw [← g]; exact h)
  · exact .inl (by rw [h]; exact g)
  · refine .inr ⟨h.trans g, ?_⟩
    rcases h' with h' | ⟨h', h''⟩ <;> rcases g' with g' | ⟨g', g''⟩
    · exact .inl (by omega)
    · exact .inl (by omega)
    · exact .inl (by omega)
    · exact .inr ⟨by omega, by omega⟩
theorem lt2_iff (k : ByteArray) (s : Int) (k' : ByteArray) (s' : Int) : lt2 k s k' s' = true ↔ (k.toList < k'.toList ∨ (k.toList = k'.toList ∧ s < s')) := by
  unfold lt2 cmp2 or2 sgn
  rw [bytesLess_eq, bytesLess_eq]
  rcases list_tri k.toList k'.toList with h | h | h
  · simp [h]
  · rw [h]
    have hi : ¬ k'.toList < k'.toList := List.lt_irrefl _
    by_cases h1 : s < s'
    · simp [hi, h1]
    · by_cases h2 : s' < s <;> simp [hi, h1, h2]
  · have h1 : ¬ k.toList < k'.toList := List.lt_asymm h
    have h2 : ¬ k.toList = k'.toList := fun e => by rw [e] at h; exact absurd h (List.lt_irrefl _)
    simp [h, h1, h2]
theorem ltN_iff (a b : En) : ltN a b = true ↔ lt3 (rk a) (rk b) := by
  unfold ltN ltE lt3 rk
  rw [Bool.or_eq_true, Bool.and_eq_true, Bool.not_eq_true', decide_eq_true_eq, lt2_iff, ← Bool.not_eq_true, lt2_iff]
  constructor
  · rintro ((h | ⟨h1, h2⟩) | ⟨h1, h2⟩)
    · exact .inl h
    · exact .inr ⟨h1, .inl h2⟩
    · rcases list_tri a.k.toList b.k.toList with h | h | h
      · exact .inl h
      · refine .inr ⟨h, ?_⟩
        have h3 : ¬ b.s < a.s := fun h4 => h1 (.inr ⟨h.symm, h4⟩)
        rcases Int.lt_trichotomy a.s b.s with h5 | h5 | h5
        · exact .inl h5
        · exact .inr ⟨h5, h2⟩
        · exact absurd h5 h3
      · exact absurd (.inl h) h1
  · rintro (h | ⟨h, h1 | ⟨h1, h2⟩⟩)
    · exact .inl (.inl h)
    · exact .inl (.inr ⟨h, h1⟩)
    · refine .inr ⟨?_, h2⟩
      rintro (h3 | ⟨_, h3⟩)
      · have h4 : b.k.toList < a.k.toList := h3
        rw [show a.k.toList = b.k.toList from h] at h4
        exact absurd h4 (List.lt_irrefl _)
      · have h4 : b.s < a.s := h3
        have h5 : a.s = b.s := h1
        omega
theorem ltN_irr (a : En) : ltN a a = false := by
  rw [← Bool.not_eq_true, ltN_iff]; exact lt3_irr _
theorem ltN_neg {a b c : En} (h : ltN a b = false) (g : ltN b c = false) : ltN a c = false := by
  rw [← Bool.not_eq_true, ltN_iff] at h g ⊢
  intro k
  rcases lt3_tri (rk a) (rk b) with h1 | h1 | h1
  · exact h h1
  · rw [h1] at k; exact g k
  · exact g (lt3_trans h1 k)
theorem ltN_asymm {a b : En} (h : ltN a b = true) : ltN b a = false := by
  rw [← Bool.not_eq_true, ltN_iff]
  rw [ltN_iff] at h
  exact fun g => lt3_irr _ (lt3_trans h g)
theorem ltN_eq {a b : En} (h : ltN a b = false) (g : ltN b a = false) : rk a = rk b := by
  rw [← Bool.not_eq_true, ltN_iff] at h g
  rcases lt3_tri (rk a) (rk b) with h1 | h1 | h1
  · exact absurd h1 h
  · exact h1
  · exact absurd h1 g
theorem ltN_rk {a b a' b' : En} (h : rk a = rk a') (g : rk b = rk b') : ltN a b = ltN a' b' := by
  rw [Bool.eq_iff_iff, ltN_iff, ltN_iff, h, g]

/-! ### The heap's order -/
theorem gE_swap (L : List En) (x y i : Nat) (hx : x < L.length) (hy : y < L.length) : gE (swapE L x y) i = if i = y then gE L x else if i = x then gE L y else gE L i := by
  unfold gE swapE
  simp only [List.getD_eq_getElem?_getD, List.getElem?_set]
  by_cases h1 : i = y
  · subst h1; simp [hy, gE]
  · by_cases h2 : i = x
    · subst h2; simp [h1, Ne.symm h1, hx, gE]
    · simp [h1, h2, Ne.symm h1, Ne.symm h2]
theorem swap_perm (L : List En) (x y : Nat) (hx : x < L.length) (hy : y < L.length) : (swapE L x y).Perm L := by
  rw [swapE, gE_eq L x hx, gE_eq L y hy]
  exact List.set_set_perm hx hy
/-- In order. -/
def Ord (L : List En) : Prop := ∀ i, 0 < i → i < L.length → ltN (gE L i) (gE L ((i - 1) / 2)) = false
theorem Ord.root {L : List En} (h : Ord L) : ∀ i, i < L.length → ltN (gE L i) (gE L 0) = false := by
  intro i
  induction i using Nat.strongRecOn with
  | _ i ih =>
    intro hi
    by_cases h0 : i = 0
    · subst h0; exact ltN_irr _
    · exact ltN_neg (h i (by omega) hi) (ih ((i - 1) / 2) (by omega) (by omega))
/-- In order but at n, upward. -/
def OrdUp (n : Nat) (L : List En) : Prop := (∀ i, 0 < i → i < L.length → i ≠ n → ltN (gE L i) (gE L ((i - 1) / 2)) = false) ∧
  (∀ i, 0 < i → i < L.length → (i - 1) / 2 = n → 0 < n → ltN (gE L i) (gE L ((n - 1) / 2)) = false)
theorem upE_ord : ∀ (n : Nat) (L : List En), n < L.length → OrdUp n L → Ord (upE n L) := by
  intro n
  induction n using Nat.strongRecOn with
  | _ n ih =>
    intro L hn ⟨h1, h2⟩
    by_cases h0 : n = 0
    · subst h0
      rw [upE_zero]
      exact fun i hi hl => h1 i hi hl (by omega)
    · cases hlt : ltN (gE L n) (gE L ((n - 1) / 2))
      · rw [upE_end n L hlt]
        intro i hi hl
        by_cases hin : i = n
        · subst hin; exact hlt
        · exact h1 i hi hl hin
      · have hp : (n - 1) / 2 < n := by omega
        rw [upE_go n L (by omega) hlt]
        refine ih _ hp _ (by rw [swapE_len]; omega) ⟨?_, ?_⟩
        · intro i hi hl hne
          rw [swapE_len] at hl
          rw [gE_swap L n _ _ hn (by omega), gE_swap L n _ _ hn (by omega)]
          generalize hpp : (n - 1) / 2 = p at *
          by_cases hin : i = n
          · subst hin
            rw [if_neg (by omega), if_pos rfl, hpp, if_pos rfl]
            exact ltN_asymm hlt
          · rw [if_neg hne, if_neg hin]
            by_cases hq : (i - 1) / 2 = p
            · rw [if_pos hq]
              have := h1 i hi hl hin
              rw [hq] at this
              exact ltN_neg this (ltN_asymm hlt)
            · rw [if_neg hq]
              by_cases hr : (i - 1) / 2 = n
              · rw [if_pos hr]
                exact h2 i hi hl hr (by omega)
              · rw [if_neg hr]
                exact h1 i hi hl hin
        · intro i hi hl hq hp0
          rw [swapE_len] at hl
          rw [gE_swap L n _ _ hn (by omega), gE_swap L n _ _ hn (by omega)]
          generalize hpp : (n - 1) / 2 = p at *
          rw [if_neg (show ¬ (p - 1) / 2 = p by omega), if_neg (show ¬ (p - 1) / 2 = n by omega)]
          have hpl : ltN (gE L p) (gE L ((p - 1) / 2)) = false := h1 p hp0 (by omega) (by omega)
          by_cases hin : i = n
          · subst hin
            rw [if_neg (by omega), if_pos rfl]
            exact hpl
          · rw [if_neg (by omega), if_neg hin]
            have := h1 i hi hl hin
            rw [hq] at this
            exact ltN_neg this hpl
theorem push_ord {L : List En} (e : En) (h : Ord L) : Ord (pushE L e) := by
  refine upE_ord _ _ (by simp) ⟨?_, ?_⟩
  · intro i hi hl hne
    have hl' : i < L.length := by simp at hl; omega
    have e1 : ∀ j, j < L.length → gE (L ++ [e]) j = gE L j := fun j hj => by simp [gE, List.getElem?_append_left hj]
    rw [e1 i hl', e1 _ (by omega)]
    exact h i hi hl'
  · intro i hi hl hq _
    simp at hl
    omega
theorem upE_perm : ∀ (n : Nat) (L : List En), n < L.length → (upE n L).Perm L := by
  intro n
  induction n using Nat.strongRecOn with
  | _ n ih =>
    intro L hn
    by_cases h0 : n = 0
    · subst h0; rw [upE_zero]
    · cases hlt : ltN (gE L n) (gE L ((n - 1) / 2))
      · rw [upE_end n L hlt]
      · rw [upE_go n L (by omega) hlt]
        exact (ih _ (by omega) _ (by rw [swapE_len]; omega)).trans (swap_perm L n _ hn (by omega))
theorem push_perm (L : List En) (e : En) : (pushE L e).Perm (e :: L) :=
  (upE_perm _ _ (by simp)).trans (List.perm_append_singleton e L)
theorem push_len (L : List En) (e : En) : (pushE L e).length = L.length + 1 := by rw [pushE, upE_len]; simp

/-- In order but below n. -/
def OrdDown (n : Nat) (L : List En) : Prop := (∀ i, 0 < i → i < L.length → (i - 1) / 2 ≠ n → ltN (gE L i) (gE L ((i - 1) / 2)) = false) ∧
  (∀ i, 0 < i → i < L.length → (i - 1) / 2 = n → 0 < n → ltN (gE L i) (gE L ((n - 1) / 2)) = false)
theorem kidE_par (L : List En) (n : Nat) : (kidE L n - 1) / 2 = n := by unfold kidE; split <;> omega
theorem kidE_least (L : List En) (n i : Nat) (hi : 0 < i) (hl : i < L.length) (hp : (i - 1) / 2 = n) : ltN (gE L i) (gE L (kidE L n)) = false := by
  have h2 : i = 2 * n + 1 ∨ i = 2 * n + 2 := by omega
  unfold kidE
  split
  · rename_i h
    rcases h2 with rfl | rfl
    · exact ltN_asymm h.2
    · exact ltN_irr _
  · rename_i h
    rcases h2 with rfl | rfl
    · exact ltN_irr _
    · cases hq : ltN (gE L (2 * n + 2)) (gE L (2 * n + 1))
      · rfl
      · exact absurd ⟨hl, hq⟩ h
theorem downE_ord : ∀ (f n : Nat) (L : List En), L.length ≤ f + n → OrdDown n L → Ord (downE n L) := by
  intro f
  induction f with
  | zero =>
    intro n L hl ⟨h1, _⟩
    rw [downE_last n L (by omega)]
    exact fun i hi hil => h1 i hi hil (by omega)
  | succ f ih =>
    intro n L hl ⟨h1, h2⟩
    by_cases hk : 2 * n + 1 < L.length
    · have hkl := kidE_lt L n hk
      have hkg := kidE_ge L n
      have hkp := kidE_par L n
      have hleast := kidE_least L n
      cases hlt : ltN (gE L (kidE L n)) (gE L n)
      · rw [downE_end n L hlt]
        intro i hi hil
        by_cases hp : (i - 1) / 2 = n
        · rw [hp]; exact ltN_neg (hleast i hi hil hp) hlt
        · exact h1 i hi hil hp
      · rw [downE_go n L hk hlt]
        generalize kidE L n = k at *
        have hn : n < L.length := by omega
        refine ih _ _ (by rw [swapE_len]; omega) ⟨?_, ?_⟩
        · intro i hi hil hne
          rw [swapE_len] at hil
          rw [gE_swap L n k _ hn hkl, gE_swap L n k _ hn hkl]
          by_cases hik : i = k
          · subst hik
            rw [if_pos rfl, hkp, if_neg (by omega), if_pos rfl]
            exact ltN_asymm hlt
          · rw [if_neg hik, if_neg hne]
            by_cases hin : i = n
            · subst hin
              rw [if_pos rfl, if_neg (by omega)]
              exact h2 k (by omega) hkl hkp hi
            · rw [if_neg hin]
              by_cases hp : (i - 1) / 2 = n
              · rw [if_pos hp]; exact hleast i hi hil hp
              · rw [if_neg hp]; exact h1 i hi hil hp
        · intro i hi hil hp _
          rw [swapE_len] at hil
          rw [gE_swap L n k _ hn hkl, gE_swap L n k _ hn hkl, hkp, if_neg (by omega), if_neg (by omega), if_neg (by omega), if_pos rfl]
          have := h1 i hi hil (by omega)
          rwa [hp] at this
    · rw [downE_last n L (by omega)]
      exact fun i hi hil => h1 i hi hil (by omega)
theorem downE_perm : ∀ (f n : Nat) (L : List En), L.length ≤ f + n → (downE n L).Perm L := by
  intro f
  induction f with
  | zero => intro n L hl; rw [downE_last n L (by omega)]
  | succ f ih =>
    intro n L hl
    by_cases hk : 2 * n + 1 < L.length
    · cases hlt : ltN (gE L (kidE L n)) (gE L n)
      · rw [downE_end n L hlt]
      · have := kidE_ge L n
        rw [downE_go n L hk hlt]
        exact (ih _ _ (by rw [swapE_len]; omega)).trans (swap_perm L n _ (by omega) (kidE_lt L n hk))
    · rw [downE_last n L (by omega)]
theorem gE_take (L : List En) (m i : Nat) (h : i < m) : gE (L.take m) i = gE L i := by
  simp [gE, h]
theorem pop_ord {L : List En} (h : Ord L) (hl : 0 < L.length) : Ord (popE L) := by
  refine downE_ord _ 0 _ (Nat.le_refl _) ⟨?_, fun _ _ _ _ h => absurd h (by omega)⟩
  intro i hi hil hne
  rw [List.length_take, swapE_len] at hil
  rw [gE_take _ _ _ (by omega), gE_take _ _ _ (by omega), gE_swap L 0 _ _ hl (by omega), gE_swap L 0 _ _ hl (by omega), if_neg (by omega), if_neg (by omega), if_neg (by omega), if_neg hne]
  exact h i hi (by omega)
theorem pop_perm (L : List En) (hl : 0 < L.length) : (gE L 0 :: popE L).Perm L := by
  have h1 : (popE L).Perm ((swapE L 0 (L.length - 1)).take (L.length - 1)) := downE_perm _ 0 _ (Nat.le_refl _)
  have h2 : (swapE L 0 (L.length - 1)).take (L.length - 1) ++ [gE L 0] = swapE L 0 (L.length - 1) := by
    have hlt : L.length - 1 < (swapE L 0 (L.length - 1)).length := by rw [swapE_len]; omega
    have h3 : (swapE L 0 (L.length - 1))[L.length - 1] = gE L 0 := by
      rw [← gE_eq _ _ hlt, gE_swap L 0 _ _ hl (by omega), if_pos rfl]
    rw [← h3, ← List.take_succ_eq_append_getElem hlt]
    exact List.take_of_length_le (by rw [swapE_len]; omega)
  have h3 := swap_perm L 0 (L.length - 1) hl (by omega)
  rw [← h2] at h3
  exact ((List.Perm.cons _ h1).trans (List.perm_append_singleton (gE L 0) _).symm).trans h3
end Go.Proofs.Ytbkpjjibgnachaa
