/- A stable sort of items: slices' sort, rec.Sorted, the reference's, and items as parts of memory. Conditions: none. -/
import Derived.WalkKit
import Derived.Test.YtkglkpcpgdeneaaItems
import Derived.Test.YtkglkpcpgdeneaaRecLess
import Derived.BigRegion
import Derived.Test.YtkglkpcpgdeneaaHeldG
import Derived.Test.YtkglkpcpgdeneaaLtTwo
import Derived.Deep.CutBlock
import Derived.Deep.DeepCutAuto
import Derived.Deep.CutRange
import Derived.Test.YtkglkpcpgdeneaaJoinP
import Derived.Laws.MakeOwn
import Derived.Lib.SliceRun
import Derived.Deep.Heap
import Derived.Test.YtkglkpcpgdeneaaLessR
import Derived.Test.YtkglkpcpgdeneaaStRec
import Derived.Laws.BitsAllLaws
namespace Go.Proofs.Ytkglkpcpgdeneaa

/-- A strict weak order. -/
structure SWO {α : Type} (lt : α → α → Bool) : Prop where
  asym : ∀ x y, lt x y = true → lt y x = false
  ntr : ∀ x y z, lt x y = false → lt y z = false → lt x z = false
section
variable {α : Type} {lt : α → α → Bool}
theorem SWO.irr (h : SWO lt) (x : α) : lt x x = false := by
  cases e : lt x x
  · rfl
  · have := h.asym x x e; rw [e] at this; cases this
/-- Neither is less. -/
def eqv (lt : α → α → Bool) (x y : α) : Bool := !lt x y && !lt y x
theorem eqv_iff {x y : α} : eqv lt x y = true ↔ lt x y = false ∧ lt y x = false := by simp [eqv]
/-- Alike ones are as they were. -/
def Stab (lt : α → α → Bool) (L M : List α) : Prop := M.length = L.length ∧ ∀ x, M.filter (eqv lt x) = L.filter (eqv lt x)
theorem Stab.refl (L : List α) : Stab lt L L := ⟨rfl, fun _ => rfl⟩
theorem Stab.trans {L M N : List α} (h : Stab lt L M) (g : Stab lt M N) : Stab lt L N := ⟨g.1.trans h.1, fun x => (g.2 x).trans (h.2 x)⟩
theorem Stab.symm {L M : List α} (h : Stab lt L M) : Stab lt M L := ⟨h.1.symm, fun x => (h.2 x).symm⟩
theorem stab_blocks (h : SWO lt) (A u v B : List α) (hlt : ∀ p ∈ u, ∀ q ∈ v, lt q p = true) : Stab lt (A ++ u ++ v ++ B) (A ++ v ++ u ++ B) := by
  refine ⟨by simp; omega, fun x => ?_⟩
  simp only [List.filter_append, List.append_assoc]
  congr 1
  have e : v.filter (eqv lt x) = [] ∨ u.filter (eqv lt x) = [] := by
    rcases hv : v.filter (eqv lt x) with _ | ⟨q, _⟩
    · exact .inl rfl
    · rcases hu : u.filter (eqv lt x) with _ | ⟨p, _⟩
      · exact .inr rfl
      · exfalso
        have hq : q ∈ v.filter (eqv lt x) := by rw [hv]; exact List.mem_cons_self
        have hp : p ∈ u.filter (eqv lt x) := by rw [hu]; exact List.mem_cons_self
        rw [List.mem_filter] at hq hp
        have e1 := eqv_iff.1 hq.2
        have e2 := eqv_iff.1 hp.2
        have := hlt p hp.1 q hq.1
        rw [h.ntr q x p e1.2 e2.1] at this
        cases this
  rcases e with e | e <;> simp [e]

/-- In order, from a to b. -/
def Srt (lt : α → α → Bool) (L : List α) (a b : Nat) : Prop := ∀ i j x y, a ≤ i → i < j → j < b → L[i]? = some x → L[j]? = some y → lt y x = false
theorem Srt.sub {L : List α} {a b a' b' : Nat} (h : Srt lt L a b) (ha : a ≤ a') (hb : b' ≤ b) : Srt lt L a' b' := fun i j x y h1 h2 h3 => h i j x y (by omega) h2 (by omega)
theorem Srt.one (L : List α) {a b : Nat} (h : b ≤ a + 1) : Srt lt L a b := fun i j _ _ h1 h2 h3 => by omega
theorem Srt.of_eq {L M : List α} {a b : Nat} (h : Srt lt L a b) (he : ∀ i, a ≤ i → i < b → M[i]? = L[i]?) : Srt lt M a b := fun i j x y h1 h2 h3 hx hy => h i j x y h1 h2 h3 (by rw [← he i h1 (by omega)]; exact hx) (by rw [← he j (by omega) h3]; exact hy)
/-- What lies from a to b has been moved about there; the rest is as it was. -/
structure Mv (lt : α → α → Bool) (a b : Nat) (L M : List α) : Prop where
  stab : Stab lt L M
  out : ∀ i, i < a ∨ b ≤ i → M[i]? = L[i]?
  from_ : ∀ i x, a ≤ i → i < b → M[i]? = some x → ∃ j, a ≤ j ∧ j < b ∧ L[j]? = some x
theorem Mv.refl (a b : Nat) (L : List α) : Mv lt a b L L := ⟨Stab.refl L, fun _ _ => rfl, fun i _ h1 h2 h3 => ⟨i, h1, h2, h3⟩⟩
theorem Mv.len {a b : Nat} {L M : List α} (h : Mv lt a b L M) : M.length = L.length := h.stab.1
theorem Mv.trans {a b : Nat} {L M N : List α} (h : Mv lt a b L M) (g : Mv lt a b M N) : Mv lt a b L N :=
  ⟨h.stab.trans g.stab, fun i hi => (g.out i hi).trans (h.out i hi), fun i x h1 h2 h3 => by obtain ⟨j, j1, j2, j3⟩ := g.from_ i x h1 h2 h3; exact h.from_ j x j1 j2 j3⟩
theorem Mv.wide {a b a' b' : Nat} {L M : List α} (h : Mv lt a b L M) (ha : a' ≤ a) (hb : b ≤ b') : Mv lt a' b' L M :=
  ⟨h.stab, fun i hi => h.out i (by omega), fun i x h1 h2 h3 => by
    by_cases hc : a ≤ i ∧ i < b
    · obtain ⟨j, j1, j2, j3⟩ := h.from_ i x hc.1 hc.2 h3; exact ⟨j, by omega, by omega, j3⟩
    · exact ⟨i, h1, h2, by rw [← h.out i (by omega)]; exact h3⟩⟩
/-- Sorted lists that are alike are the same. -/
theorem stab_unique (h : SWO lt) : ∀ (L M : List α), Srt lt L 0 L.length → Srt lt M 0 M.length → Stab lt L M → L = M
  | [], M, _, _, hs => (List.eq_nil_of_length_eq_zero hs.1).symm
  | x :: L, [], _, _, hs => by have := hs.1; simp at this
  | x :: L, y :: M, h1, h2, hs => by
    have hmin : ∀ (z : α) (K : List α), Srt lt (z :: K) 0 (z :: K).length → ∀ u ∈ z :: K, lt u z = false := by
      intro z K hk u hu
      obtain ⟨i, hi, rfl⟩ := List.getElem_of_mem hu
      rcases Nat.eq_zero_or_pos i with rfl | h0
      · exact h.irr _
      · exact hk 0 i z _ (Nat.zero_le _) h0 hi rfl (List.getElem?_eq_getElem hi)
    have exx : eqv lt x x = true := eqv_iff.2 ⟨h.irr x, h.irr x⟩
    have eyy : eqv lt y y = true := eqv_iff.2 ⟨h.irr y, h.irr y⟩
    have hxM : x ∈ y :: M := by
      have : x ∈ (y :: M).filter (eqv lt x) := by rw [hs.2 x]; exact List.mem_filter.2 ⟨List.mem_cons_self, exx⟩
      exact (List.mem_filter.1 this).1
    have hyL : y ∈ x :: L := by
      have : y ∈ (x :: L).filter (eqv lt y) := by rw [← hs.2 y]; exact List.mem_filter.2 ⟨List.mem_cons_self, eyy⟩
      exact (List.mem_filter.1 this).1
    have exy : eqv lt x y = true := eqv_iff.2 ⟨hmin y M h2 x hxM, hmin x L h1 y hyL⟩
    have he := hs.2 x
    rw [List.filter_cons_of_pos exy, List.filter_cons_of_pos exx] at he
    have hxy : y = x := (List.cons.inj he).1
    subst hxy
    have ht : Stab lt L M := by
      refine ⟨by have := hs.1; simpa using this, fun z => ?_⟩
      have hz := hs.2 z
      by_cases c : eqv lt z y = true
      · rw [List.filter_cons_of_pos c, List.filter_cons_of_pos c] at hz
        exact (List.cons.inj hz).2
      · rw [List.filter_cons_of_neg c, List.filter_cons_of_neg c] at hz
        exact hz
    have tl : ∀ (z : α) (K : List α), Srt lt (z :: K) 0 (z :: K).length → Srt lt K 0 K.length := fun z K hk i j u v a1 a2 a3 a4 a5 => hk (i + 1) (j + 1) u v (by omega) (by omega) (by simpa using a3) (by simpa using a4) (by simpa using a5)
    rw [stab_unique h L M (tl _ _ h1) (tl _ _ h2) ht]

/-- Two places exchanged. -/
def SwpOf (L M : List α) (x y : Nat) : Prop := ∀ k, M[k]? = if k = x then L[y]? else if k = y then L[x]? else L[k]?
/-- Two blocks, one behind the other, exchanged. -/
def RotOf (L M : List α) (a m b : Nat) : Prop := ∀ k, M[k]? = if k < a then L[k]? else if k < a + (b - m) then L[k - a + m]? else if k < b then L[k - (b - m)]? else L[k]?
theorem ext_get {L M : List α} (h : ∀ k : Nat, L[k]? = M[k]?) : L = M := List.ext_getElem? h
theorem rot_dec {L M : List α} {a m b : Nat} (hr : RotOf L M a m b) (h1 : a ≤ m) (h2 : m ≤ b) (h3 : b ≤ L.length) :
    L = L.take a ++ (L.drop a).take (m - a) ++ (L.drop m).take (b - m) ++ L.drop b ∧ M = L.take a ++ (L.drop m).take (b - m) ++ (L.drop a).take (m - a) ++ L.drop b := by
  constructor
  · apply ext_get
    intro k
    simp only [List.getElem?_append, List.getElem?_take, List.getElem?_drop, List.length_append, List.length_take, List.length_drop]
    repeat' split
    all_goals first | (congr 1; omega) | omega | rfl
  · apply ext_get
    intro k
    rw [hr k]
    simp only [List.getElem?_append, List.getElem?_take, List.getElem?_drop, List.length_append, List.length_take, List.length_drop]
    repeat' split
    all_goals first | (congr 1; omega) | omega | rfl
theorem rot_mv (h : SWO lt) {L M : List α} {a m b : Nat} (hr : RotOf L M a m b) (h1 : a ≤ m) (h2 : m ≤ b) (h3 : b ≤ L.length)
    (hlt : ∀ i j x y, a ≤ i → i < m → m ≤ j → j < b → L[i]? = some x → L[j]? = some y → lt y x = true) : Mv lt a b L M := by
  obtain ⟨d1, d2⟩ := rot_dec hr h1 h2 h3
  refine ⟨?_, fun i hi => ?_, fun i x a1 a2 a3 => ?_⟩
  · have hs := stab_blocks h (L.take a) ((L.drop a).take (m - a)) ((L.drop m).take (b - m)) (L.drop b) (fun p hp q hq => by
      obtain ⟨i, hi, rfl⟩ := List.getElem_of_mem hp
      obtain ⟨j, hj, rfl⟩ := List.getElem_of_mem hq
      simp only [List.length_take, List.length_drop] at hi hj
      refine hlt (a + i) (m + j) _ _ (by omega) (by omega) (by omega) (by omega) ?_ ?_
      · rw [List.getElem?_eq_getElem (by omega)]; simp
      · rw [List.getElem?_eq_getElem (by omega)]; simp)
    rw [← d1, ← d2] at hs
    exact hs
  · rw [hr i]
    repeat' split
    all_goals first | rfl | omega
  · rw [hr i] at a3
    rw [if_neg (by omega)] at a3
    split at a3
    · exact ⟨_, by omega, by omega, a3⟩
    · first | rw [if_pos (by omega)] at a3 | skip
      exact ⟨_, by omega, by omega, a3⟩
theorem swp_rot {L M : List α} {j : Nat} (h : SwpOf L M j (j + 1)) : RotOf L M j (j + 1) (j + 2) := by
  intro k
  rw [h k]
  repeat' split
  all_goals first | rfl | omega | (congr 1; omega)
theorem SwpOf.symm {L M : List α} {x y : Nat} (h : SwpOf L M x y) : SwpOf L M y x := by
  intro k
  rw [h k]
  by_cases h1 : k = x <;> by_cases h2 : k = y <;> simp_all
theorem swp_mv (h : SWO lt) {L M : List α} {j a b : Nat} {x y : α} (hs : SwpOf L M j (j + 1)) (hx : L[j]? = some x) (hy : L[j + 1]? = some y) (hlt : lt y x = true) (ha : a ≤ j) (hb : j + 2 ≤ b) : Mv lt a b L M := by
  have hl : j + 1 < L.length := (List.getElem?_eq_some_iff.1 hy).1
  refine (rot_mv h (swp_rot hs) (by omega) (by omega) (by omega) (fun i k u v a1 a2 a3 a4 a5 a6 => ?_)).wide ha hb
  obtain rfl : i = j := by omega
  obtain rfl : k = i + 1 := by omega
  rw [hx] at a5
  rw [hy] at a6
  cases a5
  cases a6
  exact hlt

/-- In order but for place j, which is not above what stands behind it. -/
def SrtX (lt : α → α → Bool) (L : List α) (a b j : Nat) : Prop := ∀ p q x y, a ≤ p → p < q → q < b → q ≠ j → L[p]? = some x → L[q]? = some y → lt y x = false
theorem srtX_start {L : List α} {a i : Nat} (h : Srt lt L a i) : SrtX lt L a (i + 1) i := fun p q x y h1 h2 h3 h4 => h p q x y h1 h2 (by omega)
theorem srtX_end (h : SWO lt) {L : List α} {a b j : Nat} (hs : SrtX lt L a b j) (hj : j = a ∨ ∃ x y, L[j - 1]? = some x ∧ L[j]? = some y ∧ lt y x = false) : Srt lt L a b := by
  intro p q x y h1 h2 h3 h4 h5
  by_cases hq : q = j
  · subst hq
    rcases hj with hj | ⟨u, v, hu, hv, hlt⟩
    · omega
    · rw [hv] at h5
      cases h5
      by_cases hp : p = q - 1
      · subst hp
        rw [hu] at h4
        cases h4
        exact hlt
      · exact h.ntr _ u _ hlt (hs p (q - 1) x u h1 (by omega) (by omega) (by omega) h4 hu)
  · exact hs p q x y h1 h2 h3 hq h4 h5
theorem srtX_step (h : SWO lt) {L M : List α} {a b j : Nat} {x y : α} (hs : SrtX lt L a b (j + 1)) (hj : a ≤ j) (hm : SwpOf L M j (j + 1)) (hx : L[j]? = some x) (hy : L[j + 1]? = some y) (hlt : lt y x = true) : SrtX lt M a b j := by
  intro p q u v h1 h2 h3 h4 h5 h6
  rw [hm p] at h5
  rw [hm q, if_neg h4] at h6
  split at h6
  · rename_i hq
    rw [hx] at h6
    cases h6
    split at h5
    · rw [hy] at h5
      cases h5
      exact h.asym _ _ hlt
    · rw [if_neg (by omega)] at h5
      exact hs p j u x h1 (by omega) (by omega) (by omega) h5 hx
  · split at h5
    · rename_i hp
      rw [hy] at h5
      cases h5
      exact hs (j + 1) q y v (by omega) (by omega) h3 (by omega) hy h6
    · split at h5
      · rw [hx] at h5
        cases h5
        exact hs j q x v (by omega) (by omega) h3 (by omega) hx h6
      · exact hs p q u v h1 h2 h3 (by omega) h5 h6

/-- What stands ahead of m is not above what stands behind it. -/
def Crs (lt : α → α → Bool) (L : List α) (a m b : Nat) : Prop := ∀ i j x y, a ≤ i → i < m → m ≤ j → j < b → L[i]? = some x → L[j]? = some y → lt y x = false
theorem Crs.srt {L : List α} {a m b : Nat} (h : Crs lt L a m b) (h1 : Srt lt L a m) (h2 : Srt lt L m b) : Srt lt L a b := by
  intro i j x y a1 a2 a3 a4 a5
  by_cases c1 : j < m
  · exact h1 i j x y a1 a2 c1 a4 a5
  · by_cases c2 : i < m
    · exact h i j x y a1 c2 (by omega) a3 a4 a5
    · exact h2 i j x y (by omega) a2 a3 a4 a5
theorem Crs.left {L M : List α} {a m b : Nat} (h : Crs lt L a m b) (k : Mv lt a m L M) : Crs lt M a m b := by
  intro i j x y a1 a2 a3 a4 a5 a6
  obtain ⟨i', b1, b2, b3⟩ := k.from_ i x a1 a2 a5
  rw [k.out j (by omega)] at a6
  exact h i' j x y b1 b2 a3 a4 b3 a6
theorem Crs.right {L M : List α} {a m b : Nat} (h : Crs lt L a m b) (k : Mv lt m b L M) : Crs lt M a m b := by
  intro i j x y a1 a2 a3 a4 a5 a6
  obtain ⟨j', b1, b2, b3⟩ := k.from_ j y a3 a4 a6
  rw [k.out i (by omega)] at a5
  exact h i j' x y a1 a2 b1 b2 a5 b3

/-- The first rotation of a merge: s, e: what the search found (n = mid + m, e = n - s). -/
theorem merge_rot (h : SWO lt) {L M : List α} {a m b mid s e lo hi : Nat} (h1 : Srt lt L a m) (h2 : Srt lt L m b) (hb : b ≤ L.length) (ham : a < m) (hmb : m < b) (hmid : mid = (a + b) / 2) (he : e + s = mid + m)
    (hlo : lo = if m > mid then mid + m - b else a) (hhi : hi = if m > mid then mid else m) (hs1 : lo ≤ s) (hs2 : s ≤ hi)
    (hno : ∀ c x y, lo ≤ c → c < s → L[c]? = some x → L[mid + m - 1 - c]? = some y → lt y x = false)
    (hyes : ∀ c x y, s ≤ c → c < hi → L[c]? = some x → L[mid + m - 1 - c]? = some y → lt y x = true)
    (hr : RotOf L M s m e) :
    a ≤ s ∧ s ≤ m ∧ m ≤ e ∧ e ≤ b ∧ s ≤ mid ∧ mid ≤ e ∧ Mv lt a b L M ∧ Srt lt M a s ∧ Srt lt M s mid ∧ Srt lt M mid e ∧ Srt lt M e b ∧ Crs lt M a mid b := by
  have q : a ≤ s ∧ s ≤ m ∧ m ≤ e ∧ e ≤ b ∧ s ≤ mid ∧ mid ≤ e := by split at hlo <;> split at hhi <;> omega
  obtain ⟨q1, q2, q3, q4, q5, q6⟩ := q
  -- all of v are less than all of u
  have huv : ∀ i j x y, s ≤ i → i < m → m ≤ j → j < e → L[i]? = some x → L[j]? = some y → lt y x = true := by
    intro i j x y b1 b2 b3 b4 b5 b6
    have hsm : s < hi := by split at hhi <;> omega
    have l1 : s < L.length := by omega
    have l2 : mid + m - 1 - s < L.length := by omega
    have g := hyes s _ _ (Nat.le_refl _) hsm (List.getElem?_eq_getElem l1) (List.getElem?_eq_getElem l2)
    -- y ≤ L[e - 1] < L[s] ≤ x
    have g1 : lt x L[s] = false := by
      rcases Nat.eq_or_lt_of_le b1 with e1 | e1
      · subst e1
        rw [List.getElem?_eq_getElem l1] at b5
        cases b5
        exact h.irr _
      · exact h1 s i _ x q1 e1 b2 (List.getElem?_eq_getElem l1) b5
    have g2 : lt L[mid + m - 1 - s] y = false := by
      rcases Nat.eq_or_lt_of_le (show j ≤ mid + m - 1 - s by omega) with e1 | e1
      · subst e1
        rw [List.getElem?_eq_getElem l2] at b6
        cases b6
        exact h.irr _
      · exact h2 j (mid + m - 1 - s) y _ b3 e1 (by omega) b6 (List.getElem?_eq_getElem l2)
    cases c : lt y x
    · have := h.ntr _ _ _ g2 (h.ntr _ _ _ c g1)
      rw [this] at g
      cases g
    · rfl
  have hmv : Mv lt s e L M := rot_mv h hr q2 q3 (by omega) huv
  -- what M has
  have m1 : ∀ k, k < s → M[k]? = L[k]? := fun k hk => hmv.out k (.inl hk)
  have m2 : ∀ k, s ≤ k → k < mid → M[k]? = L[k - s + m]? := fun k k1 k2 => by rw [hr k, if_neg (by omega), if_pos (by omega)]
  have m3 : ∀ k, mid ≤ k → k < e → M[k]? = L[k - (e - m)]? := fun k k1 k2 => by rw [hr k, if_neg (by omega), if_neg (by omega), if_pos k2]
  have m4 : ∀ k, e ≤ k → M[k]? = L[k]? := fun k hk => hmv.out k (.inr hk)
  refine ⟨q1, q2, q3, q4, q5, q6, hmv.wide q1 q4, (h1.sub (Nat.le_refl _) q2).of_eq (fun i _ hi => m1 i hi), ?_, ?_, (h2.sub q3 (Nat.le_refl _)).of_eq (fun i hi _ => m4 i hi), ?_⟩
  · intro i j x y b1 b2 b3 b4 b5
    rw [m2 i b1 (by omega)] at b4
    rw [m2 j (by omega) b3] at b5
    exact h2 _ _ x y (by omega) (by omega) (by omega) b4 b5
  · intro i j x y b1 b2 b3 b4 b5
    rw [m3 i b1 (by omega)] at b4
    rw [m3 j (by omega) b3] at b5
    exact h1 _ _ x y (by omega) (by omega) (by omega) b4 b5
  · intro i j x y b1 b2 b3 b4 b5 b6
    by_cases ci : i < s
    · rw [m1 i ci] at b5
      by_cases cj : j < e
      · rw [m3 j b3 cj] at b6
        exact h1 _ _ x y b1 (by omega) (by omega) b5 b6
      · rw [m4 j (by omega)] at b6
        -- x ≤ L[s - 1] ≤ L[e] ≤ y
        by_cases cl : lo < s
        · have l1 : s - 1 < L.length := by omega
          have l2 : e < L.length := by omega
          have g := hno (s - 1) _ L[e] (by omega) (by omega) (List.getElem?_eq_getElem l1) (by rw [show mid + m - 1 - (s - 1) = e by omega]; exact List.getElem?_eq_getElem l2)
          have g1 : lt L[s - 1] x = false := by
            rcases Nat.eq_or_lt_of_le (show i ≤ s - 1 by omega) with e1 | e1
            · subst e1
              rw [List.getElem?_eq_getElem l1] at b5
              cases b5
              exact h.irr _
            · exact h1 i (s - 1) x _ b1 e1 (by omega) b5 (List.getElem?_eq_getElem l1)
          have g2 : lt y L[e] = false := by
            rcases Nat.eq_or_lt_of_le (show e ≤ j by omega) with e1 | e1
            · subst e1
              rw [List.getElem?_eq_getElem l2] at b6
              cases b6
              exact h.irr _
            · exact h2 e j _ y q3 e1 b4 (List.getElem?_eq_getElem l2) b6
          exact h.ntr _ _ _ g2 (h.ntr _ _ _ g g1)
        · exfalso
          split at hlo <;> omega
    · rw [m2 i (by omega) b2] at b5
      by_cases cj : j < e
      · rw [m3 j b3 cj] at b6
        exact h.asym _ _ (huv _ _ y x (by omega) (by omega) (by omega) (by omega) b6 b5)
      · rw [m4 j (by omega)] at b6
        exact h2 _ _ x y (by omega) (by omega) b4 b5 b6
theorem SWO.le_lt (h : SWO lt) {x y z : α} (h1 : lt y x = false) (h2 : lt y z = true) : lt x z = true := by
  cases c : lt x z
  · rw [h.ntr _ _ _ h1 c] at h2; cases h2
  · rfl
theorem SWO.lt_le (h : SWO lt) {x y z : α} (h1 : lt x y = true) (h2 : lt z y = false) : lt x z = true := by
  cases c : lt x z
  · rw [h.ntr _ _ _ c h2] at h1; cases h1
  · rfl
/-- Is what stands at i less than what stands at j? -/
def ltAt (lt : α → α → Bool) (L : List α) (i j : Nat) : Bool := match L[i]?, L[j]? with | some x, some y => lt x y | _, _ => false
theorem ltAt_eq {L : List α} {i j : Nat} {x y : α} (hx : L[i]? = some x) (hy : L[j]? = some y) : ltAt lt L i j = lt x y := by unfold ltAt; rw [hx, hy]
/-- A search between i and j, for the first place where f is false. -/
structure BS (f : Nat → Bool) (l0 h0 i j : Nat) : Prop where
  lo : l0 ≤ i
  le : i ≤ j
  hi : j ≤ h0
  yes : ∀ c, l0 ≤ c → c < i → f c = true
  no : ∀ c, j ≤ c → c < h0 → f c = false
def Mono (f : Nat → Bool) (lo hi : Nat) : Prop := ∀ c d, lo ≤ c → c ≤ d → d < hi → f d = true → f c = true
theorem BS.start {f : Nat → Bool} {lo hi : Nat} (h : lo ≤ hi) : BS f lo hi lo hi := ⟨Nat.le_refl _, h, Nat.le_refl _, fun c h1 h2 => by omega, fun c h1 h2 => by omega⟩
theorem BS.up {f : Nat → Bool} {lo hi i j m : Nat} (h : BS f lo hi i j) (hf : Mono f lo hi) (h1 : i ≤ m) (h2 : m < j) (hm : f m = true) : BS f lo hi (m + 1) j :=
  ⟨by have := h.lo; omega, by omega, h.hi, fun c c1 c2 => hf c m c1 (by omega) (by have := h.hi; omega) hm, h.no⟩
theorem BS.down {f : Nat → Bool} {lo hi i j m : Nat} (h : BS f lo hi i j) (hf : Mono f lo hi) (h1 : i ≤ m) (h2 : m < j) (hm : f m = false) : BS f lo hi i m :=
  ⟨h.lo, h1, by have := h.hi; omega, h.yes, fun c c1 c2 => by
    cases e : f c
    · rfl
    · rw [hf m c (by have := h.lo; omega) c1 c2 e] at hm; cases hm⟩
theorem some_at {L : List α} {i : Nat} (h : i < L.length) : ∃ x, L[i]? = some x := ⟨_, List.getElem?_eq_getElem h⟩
theorem mono_left (h : SWO lt) {L : List α} {a m b : Nat} (hs : Srt lt L m b) (hb : b ≤ L.length) (ha : a < L.length) : Mono (fun c => ltAt lt L c a) m b := by
  intro c d h1 h2 h3 h4
  obtain ⟨x, hx⟩ := some_at (show c < L.length by omega)
  obtain ⟨y, hy⟩ := some_at (show d < L.length by omega)
  obtain ⟨z, hz⟩ := some_at ha
  show ltAt lt L c a = true
  have h4 : ltAt lt L d a = true := h4
  rw [ltAt_eq hy hz] at h4
  rw [ltAt_eq hx hz]
  rcases Nat.eq_or_lt_of_le h2 with e | e
  · subst e; rw [hx] at hy; cases hy; exact h4
  · exact h.le_lt (hs c d x y h1 e h3 hx hy) h4
theorem mono_right (h : SWO lt) {L : List α} {a m : Nat} (hs : Srt lt L a m) (hm : m < L.length) : Mono (fun c => !ltAt lt L m c) a m := by
  intro c d h1 h2 h3 h4
  obtain ⟨x, hx⟩ := some_at (show c < L.length by omega)
  obtain ⟨y, hy⟩ := some_at (show d < L.length by omega)
  obtain ⟨z, hz⟩ := some_at hm
  show (!ltAt lt L m c) = true
  have h4 : (!ltAt lt L m d) = true := h4
  rw [ltAt_eq hz hy] at h4
  rw [ltAt_eq hz hx]
  rcases Nat.eq_or_lt_of_le h2 with e | e
  · subst e; rw [hx] at hy; cases hy; exact h4
  · rw [Bool.not_eq_true'] at h4 ⊢
    cases c0 : lt z x
    · rfl
    · rw [h.lt_le c0 (hs c d x y h1 e h3 hx hy)] at h4; cases h4
theorem mono_both (h : SWO lt) {L : List α} {a m b p lo hi : Nat} (h1 : Srt lt L a m) (h2 : Srt lt L m b) (hb : b ≤ L.length) (hlo : a ≤ lo) (hhi : hi ≤ m) (hp1 : ∀ c, lo ≤ c → c < hi → m ≤ p - c ∧ p - c < b) (hp : hi ≤ p + 1) : Mono (fun c => !ltAt lt L (p - c) c) lo hi := by
  intro c d c1 c2 c3 c4
  have q1 := hp1 c c1 (by omega)
  have q2 := hp1 d (by omega) c3
  obtain ⟨x, hx⟩ := some_at (show c < L.length by omega)
  obtain ⟨y, hy⟩ := some_at (show d < L.length by omega)
  obtain ⟨u, hu⟩ := some_at (show p - c < L.length by omega)
  obtain ⟨v, hv⟩ := some_at (show p - d < L.length by omega)
  show (!ltAt lt L (p - c) c) = true
  have c4 : (!ltAt lt L (p - d) d) = true := c4
  rw [ltAt_eq hv hy, Bool.not_eq_true'] at c4
  rw [ltAt_eq hu hx, Bool.not_eq_true']
  rcases Nat.eq_or_lt_of_le c2 with e | e
  · subst e; rw [hx] at hy; cases hy; rw [hu] at hv; cases hv; exact c4
  · exact h.ntr _ _ _ (h2 (p - d) (p - c) v u (by omega) (by omega) (by omega) hv hu) (h.ntr _ _ _ c4 (h1 c d x y (by omega) e (by omega) hx hy))

/-- One ahead of a row. -/
theorem merge_left (h : SWO lt) {L M : List α} {a b i : Nat} (hs : Srt lt L (a + 1) b) (hb : b ≤ L.length) (hB : BS (fun c => ltAt lt L c a) (a + 1) b i i) (hr : RotOf L M a (a + 1) i) : Mv lt a b L M ∧ Srt lt M a b := by
  have hi1 := hB.lo
  have hi2 := hB.hi
  have hyes := hB.yes
  have hno := hB.no
  obtain ⟨z, hz⟩ := some_at (show a < L.length by omega)
  refine ⟨(rot_mv h hr (by omega) (by omega) (by omega) (fun p q x y a1 a2 a3 a4 a5 a6 => ?_)).wide (Nat.le_refl _) hi2, ?_⟩
  · obtain rfl : p = a := by omega
    have := hyes q a3 a4
    rw [show ltAt lt L q p = lt y x from ltAt_eq a6 a5] at this
    exact this
  · have g : ∀ k, M[k]? = if k < a then L[k]? else if k < i - 1 then L[k + 1]? else if k = i - 1 then some z else L[k]? := by
      intro k
      rw [hr k]
      repeat' split
      all_goals first | rfl | omega | (congr 1; omega) | skip
      rename_i c1 c2 c3 c4 c5
      rw [show k - (i - (a + 1)) = a by omega]; exact hz
    intro p q x y a1 a2 a3 a4 a5
    rw [g p, if_neg (by omega)] at a4
    rw [g q, if_neg (by omega)] at a5
    split at a4
    · split at a5
      · exact hs _ _ x y (by omega) (by omega) (by omega) a4 a5
      · split at a5
        · cases a5
          have := hyes (p + 1) (by omega) (by omega)
          rw [show ltAt lt L (p + 1) a = lt x z from ltAt_eq a4 hz] at this
          exact h.asym _ _ this
        · exact hs _ _ x y (by omega) (by omega) a3 a4 a5
    · rw [if_neg (by omega), if_neg (by omega)] at a5
      split at a4
      · cases a4
        have := hno q (by omega) a3
        rw [show ltAt lt L q a = lt y z from ltAt_eq a5 hz] at this
        exact this
      · exact hs p q x y (by omega) a2 a3 a4 a5
theorem rot_left_step {L M N : List α} {a k : Nat} (hr : RotOf L M a (a + 1) (k + 1)) (hk : a ≤ k) (hs : SwpOf M N k (k + 1)) : RotOf L N a (a + 1) (k + 2) := by
  intro q
  rw [hs q, hr k, hr (k + 1), hr q]
  repeat' split
  all_goals first | rfl | omega | (congr 1; omega)
theorem rot_id (L : List α) (a m : Nat) : RotOf L L a m m := by
  intro q
  repeat' split
  all_goals first | rfl | omega | (congr 1; omega)
theorem rot_id' (L : List α) (m b : Nat) (h : m ≤ b) : RotOf L L m m b := by
  intro q
  repeat' split
  all_goals first | rfl | omega | (congr 1; omega)
/-- One behind a row. -/
theorem merge_right (h : SWO lt) {L M : List α} {a m i : Nat} (hs : Srt lt L a m) (hb : m < L.length) (hB : BS (fun c => !ltAt lt L m c) a m i i) (hr : RotOf L M i m (m + 1)) : Mv lt a (m + 1) L M ∧ Srt lt M a (m + 1) := by
  have hi1 := hB.lo
  have hi2 := hB.hi
  have hyes := hB.yes
  have hno := hB.no
  obtain ⟨z, hz⟩ := some_at hb
  refine ⟨(rot_mv h hr (by omega) (by omega) (by omega) (fun p q x y a1 a2 a3 a4 a5 a6 => ?_)).wide hi1 (Nat.le_refl _), ?_⟩
  · obtain rfl : q = m := by omega
    have := hno p a1 a2
    rw [show ltAt lt L q p = lt y x from ltAt_eq a6 a5] at this
    simpa using this
  · have g : ∀ k, M[k]? = if k < i then L[k]? else if k = i then some z else if k < m + 1 then L[k - 1]? else L[k]? := by
      intro k
      rw [hr k]
      repeat' split
      all_goals first | rfl | omega | (congr 1; omega) | skip
      rename_i c1 c2 c3
      rw [show k - i + m = m by omega]; exact hz
    intro p q x y a1 a2 a3 a4 a5
    rw [g p] at a4
    rw [g q] at a5
    split at a4
    · split at a5
      · exact hs p q x y a1 a2 (by omega) a4 a5
      · split at a5
        · cases a5
          have := hyes p a1 (by omega)
          rw [show ltAt lt L m p = lt z x from ltAt_eq hz a4] at this
          simpa using this
        · exact hs _ _ x y a1 (by omega) (by omega) a4 a5
    · rw [if_neg (by omega), if_neg (by omega), if_pos a3] at a5
      split at a4
      · cases a4
        have := hno (q - 1) (by omega) (by omega)
        rw [show ltAt lt L m (q - 1) = lt z y from ltAt_eq hz a5] at this
        exact h.asym _ _ (by simpa using this)
      · rw [if_pos (by omega)] at a4
        exact hs _ _ x y (by omega) (by omega) (by omega) a4 a5
theorem rot_right_step {L M N : List α} {m k : Nat} (hr : RotOf L M (k + 1) m (m + 1)) (hk : k < m) (hs : SwpOf M N (k + 1) k) : RotOf L N k m (m + 1) := by
  intro q
  rw [hs q, hr k, hr (k + 1), hr q]
  repeat' split
  all_goals first | rfl | omega | (congr 1; omega)

/-- Two ranges exchanged. -/
def SwrOf (L M : List α) (x y n : Nat) : Prop := ∀ k, M[k]? = if x ≤ k ∧ k < x + n then L[k - x + y]? else if y ≤ k ∧ k < y + n then L[k - y + x]? else L[k]?
theorem swr_zero (L : List α) (x y : Nat) : SwrOf L L x y 0 := by
  intro k
  repeat' split
  all_goals first | rfl | omega
theorem swr_step {L M N : List α} {x y n : Nat} (h : SwrOf L M x y n) (hd : x + n < y) (hs : SwpOf M N (x + n) (y + n)) : SwrOf L N x y (n + 1) := by
  intro q
  rw [hs q, h (x + n), h (y + n), h q]
  repeat' split
  all_goals first | rfl | omega | (congr 1; omega)
theorem rot_gt {L M T : List α} {m i j : Nat} (hi : i ≤ m) (hj : j < i) (hs : SwrOf L M (m - i) m j) (hr : RotOf M T (m - (i - j)) m (m + j)) : RotOf L T (m - i) m (m + j) := by
  intro q
  rw [hr q, hs q, hs (q - (m - (i - j)) + m), hs (q - (m + j - m))]
  repeat' split
  all_goals first | rfl | omega | (congr 1; omega)
theorem rot_lt {L M T : List α} {m i j : Nat} (hi : i ≤ m) (hj : i < j) (hs : SwrOf L M (m - i) (m + j - i) i) (hr : RotOf M T (m - i) m (m + (j - i))) : RotOf L T (m - i) m (m + j) := by
  intro q
  rw [hr q, hs q, hs (q - (m - i) + m), hs (q - (m + (j - i) - m))]
  repeat' split
  all_goals first | rfl | omega | (congr 1; omega)
theorem rot_eq {L T : List α} {m i : Nat} (hi : i ≤ m) (hs : SwrOf L T (m - i) m i) : RotOf L T (m - i) m (m + i) := by
  intro q
  rw [hs q]
  repeat' split
  all_goals first | rfl | omega | (congr 1; omega)

/-- Each one behind those that it is not less than. -/
def ins (lt : α → α → Bool) (x : α) : List α → List α
  | [] => [x]
  | y :: r => if lt x y then x :: y :: r else y :: ins lt x r
def srt (lt : α → α → Bool) (L : List α) : List α := L.foldl (fun r x => ins lt x r) []
theorem srt_iff {L : List α} : Srt lt L 0 L.length ↔ L.Pairwise fun x y => lt y x = false := by
  rw [List.pairwise_iff_getElem]
  constructor
  · intro h i j hi hj hij
    exact h i j _ _ (Nat.zero_le _) hij hj (List.getElem?_eq_getElem hi) (List.getElem?_eq_getElem hj)
  · intro h i j x y _ hij hj hx hy
    obtain ⟨h1, rfl⟩ := List.getElem?_eq_some_iff.1 hx
    obtain ⟨h2, rfl⟩ := List.getElem?_eq_some_iff.1 hy
    exact h i j h1 h2 hij
theorem ins_split (h : SWO lt) (x : α) : ∀ L : List α, L.Pairwise (fun x y => lt y x = false) → ∃ A B, L = A ++ B ∧ ins lt x L = A ++ [x] ++ B ∧ (∀ p ∈ B, lt x p = true) ∧ ∀ p ∈ A, lt x p = false
  | [], _ => ⟨[], [], rfl, rfl, (fun _ h => by cases h), fun _ h => by cases h⟩
  | y :: r, hp => by
    rw [List.pairwise_cons] at hp
    cases c : lt x y
    · obtain ⟨A, B, e1, e2, e3, e4⟩ := ins_split h x r hp.2
      refine ⟨y :: A, B, by rw [e1]; rfl, by simp [ins, c, e2], e3, fun p hp' => ?_⟩
      rcases List.mem_cons.1 hp' with rfl | hp'
      · exact c
      · exact e4 p hp'
    · refine ⟨[], y :: r, rfl, by simp [ins, c], fun p hp' => ?_, fun _ h => by cases h⟩
      rcases List.mem_cons.1 hp' with rfl | hp'
      · exact c
      · exact h.lt_le c (hp.1 p hp')
theorem ins_srt (h : SWO lt) (x : α) (L : List α) (hp : L.Pairwise fun x y => lt y x = false) : (ins lt x L).Pairwise (fun x y => lt y x = false) ∧ Stab lt (L ++ [x]) (ins lt x L) := by
  obtain ⟨A, B, e1, e2, e3, e4⟩ := ins_split h x L hp
  subst e1
  rw [e2]
  refine ⟨?_, ?_⟩
  · rw [List.pairwise_append] at hp
    rw [List.append_assoc, List.pairwise_append]
    refine ⟨hp.1, ?_, fun a ha b hb => ?_⟩
    · rw [List.singleton_append, List.pairwise_cons]
      exact ⟨fun b hb => h.asym _ _ (e3 b hb), hp.2.1⟩
    · rcases List.mem_append.1 hb with hb | hb
      · rw [List.mem_singleton.1 hb]; exact e4 a ha
      · exact hp.2.2 a ha b hb
  · have := stab_blocks h A B [x] [] (fun p hp q hq => by rw [List.mem_singleton.1 hq]; exact e3 p hp)
    simpa using this
theorem Stab.append_right {L M : List α} (h : Stab lt L M) (K : List α) : Stab lt (L ++ K) (M ++ K) := ⟨by simp [h.1], fun x => by rw [List.filter_append, List.filter_append, h.2 x]⟩
theorem srt_both (h : SWO lt) : ∀ (L R S : List α), S.Pairwise (fun x y => lt y x = false) → Stab lt R S → (L.foldl (fun r x => ins lt x r) S).Pairwise (fun x y => lt y x = false) ∧ Stab lt (R ++ L) (L.foldl (fun r x => ins lt x r) S)
  | [], R, S, h1, h2 => by simpa using ⟨h1, h2⟩
  | x :: L, R, S, h1, h2 => by
    have g := ins_srt h x S h1
    have := srt_both h L (R ++ [x]) (ins lt x S) g.1 ((h2.append_right [x]).trans g.2)
    simpa using this
theorem srt_sorted (h : SWO lt) (L : List α) : (srt lt L).Pairwise fun x y => lt y x = false := (srt_both h L [] [] List.Pairwise.nil (Stab.refl _)).1
theorem srt_stab (h : SWO lt) (L : List α) : Stab lt L (srt lt L) := (srt_both h L [] [] List.Pairwise.nil (Stab.refl _)).2
/-- What is in order, alike ones as they were, is this. -/
theorem srt_is (h : SWO lt) {L M : List α} (h1 : Srt lt M 0 M.length) (h2 : Stab lt L M) : M = srt lt L :=
  stab_unique h M _ h1 (srt_iff.2 (srt_sorted h L)) (h2.symm.trans (srt_stab h L))
theorem srt_len (h : SWO lt) (L : List α) : (srt lt L).length = L.length := (srt_stab h L).1
theorem srt_succ (L : List α) (x : α) : srt lt (L ++ [x]) = ins lt x (srt lt L) := by simp [srt]
theorem ins_perm (x : α) : ∀ L : List α, (ins lt x L).Perm (x :: L)
  | [] => List.Perm.refl _
  | y :: r => by
    unfold ins
    split
    · exact List.Perm.refl _
    · exact ((ins_perm x r).cons y).trans (List.Perm.swap x y r)
theorem srt_perm_go : ∀ (L S : List α), (L.foldl (fun r x => ins lt x r) S).Perm (S ++ L)
  | [], S => by simp
  | x :: L, S => by
    refine (srt_perm_go L (ins lt x S)).trans ?_
    have h1 := (ins_perm (lt := lt) x S).append_right L
    exact h1.trans (by simpa using (List.perm_middle (a := x) (l₁ := S) (l₂ := L)).symm)
theorem srt_perm (L : List α) : (srt lt L).Perm L := by simpa [srt] using srt_perm_go (lt := lt) L []
end
end Go.Proofs.Ytkglkpcpgdeneaa
namespace Go.Proofs.Ytkglkpcpgdeneaa
open Go.RowKit

def swpI (M : List It) (p q : Nat) (hp : p < M.length) (hq : q < M.length) : List It := (M.set p M[q]).set q M[p]
theorem swpI_len {M : List It} {p q : Nat} (hp : p < M.length) (hq : q < M.length) : (swpI M p q hp hq).length = M.length := by simp [swpI]
theorem swpI_of {M : List It} {p q : Nat} (hp : p < M.length) (hq : q < M.length) : SwpOf M (swpI M p q hp hq) p q := by
  intro k
  unfold swpI
  by_cases h2 : k = q
  · subst h2
    rw [List.getElem?_set_self (by simpa using hq)]
    by_cases h1 : k = p
    · subst h1; simp [hp]
    · simp [h1, hp]
  · rw [List.getElem?_set_ne (Ne.symm h2)]
    by_cases h1 : k = p
    · subst h1; simp [hp, hq]
    · rw [List.getElem?_set_ne (Ne.symm h1)]; simp [h1, h2]
set_option maxRecDepth 100000 in
set_option maxHeartbeats 4000000 in
theorem sort_swapRange (w : World) (g cap : Nat) (L : List It) (x y n : Nat) (f : Value) (hr : RowI w g cap L) (hxy : x + n ≤ y) (hyn : y + n ≤ L.length) (hL : L.length ≤ 4611686018427387904) :
    Calls Try.prog 98 #[.slice (some ⟨g, 0, none⟩) L.length cap, .int .i64 x, .int .i64 y, .int .i64 n, f] w fun e w' => e = .returned (.tuple #[]) ∧ ∃ M, RowI w' g cap M ∧ SwrOf L M x y n ∧ M.length = L.length ∧ Keep (fun k => k = g) w w' := by
  have HR := Lib.hid hr
  have HXY := Lib.hid (And.intro hxy (And.intro hyn hL))
  clear hr hxy hyn hL
  go_enter Try.func98, Try.ntmps98
  go_wp2_with fail
  go_loopw [10] (fun v10 wr => ∃ (i : Nat) (M : List It), i ≤ n ∧ v10 = .int .i64 i ∧ Hid (RowI wr g cap M ∧ SwrOf L M x y i ∧ M.length = L.length ∧ Keep (fun k => k = g) w wr)) (fun v10 _ => n - (intOf v10).toNat)
  case atStart => exact ⟨0, L, Nat.zero_le _, rfl, Lib.hid ⟨HR.out, swr_zero L x y, rfl, Keep.refl _ w⟩⟩
  case round =>
    obtain ⟨i, M, hi, rfl, HM⟩ := hrel
    by_cases hlt : i < n
    · obtain ⟨p, hp⟩ : ∃ p, p = x + i := ⟨_, rfl⟩
      obtain ⟨q, hq⟩ : ∃ q, q = y + i := ⟨_, rfl⟩
      have hpM : p < M.length := by have h1 := HXY.out; have h2 := HM.out.2.2.1; omega
      have hqM : q < M.length := by have h1 := HXY.out; have h2 := HM.out.2.2.1; omega
      have hpq : p < q := by have h1 := HXY.out; omega
      have e1 : IntKind.i64.wrap ((x : Int) + (i : Int)) = (p : Int) := by rw [IntWalk.i64_in _ (by have h1 := HXY.out; omega)]; omega
      have e2 : IntKind.i64.wrap ((y : Int) + (i : Int)) = (q : Int) := by rw [IntWalk.i64_in _ (by have h1 := HXY.out; omega)]; omega
      have q1 : (p : Int) < (L.length : Int) := by have h2 := HM.out.2.2.1; omega
      have q2 : (q : Int) < (L.length : Int) := by have h2 := HM.out.2.2.1; omega
      have q3 : (i : Int) < (n : Int) := by omega
      have q4 : (n : Int) ≤ 4611686018427387904 := by have h1 := HXY.out; omega
      have x0 := HM.out.1.cell p 0 hpM (by omega)
      have x1 := HM.out.1.cell p 1 hpM (by omega)
      have x2 := HM.out.1.cell p 2 hpM (by omega)
      have fx0 := HM.out.1.free (p * 3)
      have fx1 := HM.out.1.free (p * 3 + 1)
      have fx2 := HM.out.1.free (p * 3 + 2)
      have y0 := HM.out.1.cell q 0 hqM (by omega)
      have y1 := HM.out.1.cell q 1 hqM (by omega)
      have y2 := HM.out.1.cell q 2 hqM (by omega)
      have fy0 := HM.out.1.free (q * 3)
      have fy1 := HM.out.1.free (q * 3 + 1)
      have fy2 := HM.out.1.free (q * 3 + 2)
      generalize hex : M[p]'(hpM) = xa at x0 x1 x2
      generalize hey : M[q]'(hqM) = ya at y0 y1 y2
      obtain ⟨k, s, A, n0, c⟩ := xa
      obtain ⟨k', s', A', n', c'⟩ := ya
      simp only [It.cells, List.getElem?_cons_zero, List.getElem?_cons_succ, Nat.add_zero] at x0 x1 x2 y0 y1 y2
      have HX := Lib.hid hex
      have HY := Lib.hid hey
      clear hex hey
      have n00 : ¬ p * 3 = q * 3 := by omega
      have m00 : ¬ q * 3 = p * 3 := by omega
      have n01 : ¬ p * 3 = q * 3 + 1 := by omega
      have m01 : ¬ q * 3 + 1 = p * 3 := by omega
      have n02 : ¬ p * 3 = q * 3 + 2 := by omega
      have m02 : ¬ q * 3 + 2 = p * 3 := by omega
      have n10 : ¬ p * 3 + 1 = q * 3 := by omega
      have m10 : ¬ q * 3 = p * 3 + 1 := by omega
      have n11 : ¬ p * 3 + 1 = q * 3 + 1 := by omega
      have m11 : ¬ q * 3 + 1 = p * 3 + 1 := by omega
      have n12 : ¬ p * 3 + 1 = q * 3 + 2 := by omega
      have m12 : ¬ q * 3 + 2 = p * 3 + 1 := by omega
      have n20 : ¬ p * 3 + 2 = q * 3 := by omega
      have m20 : ¬ q * 3 = p * 3 + 2 := by omega
      have n21 : ¬ p * 3 + 2 = q * 3 + 1 := by omega
      have m21 : ¬ q * 3 + 1 = p * 3 + 2 := by omega
      have n22 : ¬ p * 3 + 2 = q * 3 + 2 := by omega
      have m22 : ¬ q * 3 + 2 = p * 3 + 2 := by omega
      have HPQ := Lib.hid (And.intro hp (And.intro hq hlt))
      clear hp hq hlt
      go_wp2_with fail
      go_region
      go_wp2_with fail
      go_roundw
      case rel =>
        refine ⟨i + 1, swpI M p q hpM hqM, HPQ.out.2.2, by go_num, Lib.hid ⟨?_, ?_, by rw [swpI_len]; exact HM.out.2.2.1, ?_⟩⟩
        · unfold swpI
          rw [HX.out, HY.out]
          exact ((HM.out.1.put p ⟨k', s', A', n', c'⟩ hpM).put q ⟨k, s, A, n0, c⟩ (by simpa using hqM)).drew
        · have h1 := swr_step (N := swpI M p q hpM hqM) HM.out.2.1 (by have h1 := HXY.out; have := HPQ.out.2.2; omega) (by rw [← HPQ.out.1, ← HPQ.out.2.1]; exact swpI_of hpM hqM)
          exact h1
        · exact HM.out.2.2.2.trans' ((put3_keep wr g (p * 3) (.string k') (.int .i64 s') (.slice A' n' c')).trans' (put3_keep _ g (q * 3) (.string k) (.int .i64 s) (.slice A n0 c)) (fun _ _ h => h)).drew (fun _ _ h => h)
      case measure => have := HPQ.out.2.2; simp [intOf]; omega
    · obtain rfl : i = n := by omega
      go_wp2_with fail
      go_end0
      exact ⟨rfl, M, HM.out.1, HM.out.2.1, HM.out.2.2.1, HM.out.2.2.2⟩
end Go.Proofs.Ytkglkpcpgdeneaa
namespace Go.Proofs.Ytkglkpcpgdeneaa
open Go.RowKit

theorem sort_swapRange' (w : World) (g cap len : Nat) (L : List It) (hlen : L.length = len) (x y n : Nat) (f : Value) (hr : RowI w g cap L) (hxy : x + n ≤ y) (hyn : y + n ≤ len) (hL : len ≤ 4611686018427387904) :
    Calls Try.prog 98 #[.slice (some ⟨g, 0, none⟩) len cap, .int .i64 x, .int .i64 y, .int .i64 n, f] w fun e w' => e = .returned (.tuple #[]) ∧ ∃ M, RowI w' g cap M ∧ SwrOf L M x y n ∧ M.length = len ∧ Keep (fun k => k = g) w w' := by
  subst hlen
  exact sort_swapRange w g cap L x y n f hr hxy hyn hL
set_option maxRecDepth 100000 in
set_option maxHeartbeats 4000000 in
theorem sort_rotate (w : World) (g cap len : Nat) (L : List It) (hlen : L.length = len) (a m b : Nat) (f : Value) (hr : RowI w g cap L) (ham : a < m) (hmb : m < b) (hb : b ≤ len) (hL : len ≤ 2305843009213693952) :
    Calls Try.prog 97 #[.slice (some ⟨g, 0, none⟩) len cap, .int .i64 a, .int .i64 m, .int .i64 b, f] w fun e w' => e = .returned (.tuple #[]) ∧ ∃ M, RowI w' g cap M ∧ RotOf L M a m b ∧ M.length = len ∧ Keep (fun k => k = g) w w' := by
  have HR := Lib.hid hr
  have HB := Lib.hid (And.intro ham (And.intro hmb (And.intro hb (And.intro hL hlen))))
  obtain ⟨i0, hi0⟩ : ∃ i, i = m - a := ⟨_, rfl⟩
  obtain ⟨j0, hj0⟩ : ∃ j, j = b - m := ⟨_, rfl⟩
  have e1 : IntKind.i64.wrap ((m : Int) - (a : Int)) = (i0 : Int) := by rw [IntWalk.i64_in _ (by omega)]; omega
  have e2 : IntKind.i64.wrap ((b : Int) - (m : Int)) = (j0 : Int) := by rw [IntWalk.i64_in _ (by omega)]; omega
  have HI := Lib.hid (And.intro hi0 hj0)
  clear hr ham hmb hb hL hlen hi0 hj0
  go_enter Try.func97, Try.ntmps97
  go_wp2_with fail
  go_loopw [10, 11] (fun v10 v11 wr => ∃ (i j : Nat) (M : List It), v10 = .int .i64 i ∧ v11 = .int .i64 j ∧ Hid (0 < i ∧ 0 < j ∧ i ≤ m ∧ m + j ≤ len) ∧ Hid (RowI wr g cap M ∧ M.length = len ∧ (∀ T, RotOf M T (m - i) m (m + j) → RotOf L T a m b) ∧ Keep (fun k => k = g) w wr)) (fun v10 v11 _ => (intOf v10).toNat + (intOf v11).toNat)
  case atStart =>
    have h1 := HB.out
    have h2 := HI.out
    exact ⟨i0, j0, L, rfl, rfl, Lib.hid (by omega), Lib.hid ⟨HR.out, h1.2.2.2.2, fun T hT => by rw [h2.1, h2.2, show m - (m - a) = a by omega, show m + (b - m) = b by omega] at hT; exact hT, Keep.refl _ w⟩⟩
  case round =>
    clear e1 e2
    obtain ⟨i, j, M, rfl, rfl, HIJ, HM⟩ := hrel
    obtain ⟨x, hx⟩ : ∃ x, x = m - i := ⟨_, rfl⟩
    have e1 : IntKind.i64.wrap ((m : Int) - (i : Int)) = (x : Int) := by rw [IntWalk.i64_in _ (by have h1 := HB.out; have h2 := HIJ.out; omega)]; have h2 := HIJ.out; omega
    have HX := Lib.hid hx
    clear hx
    rcases Nat.lt_trichotomy i j with hlt | heq | hgt
    · obtain ⟨y, hy⟩ : ∃ y, y = m + j := ⟨_, rfl⟩
      obtain ⟨z, hz⟩ : ∃ z, z = m + j - i := ⟨_, rfl⟩
      obtain ⟨j', hj'⟩ : ∃ j', j' = j - i := ⟨_, rfl⟩
      have e2 : IntKind.i64.wrap ((m : Int) + (j : Int)) = (y : Int) := by rw [IntWalk.i64_in _ (by have h1 := HB.out; have h2 := HIJ.out; omega)]; omega
      have e3 : IntKind.i64.wrap ((y : Int) - (i : Int)) = (z : Int) := by rw [IntWalk.i64_in _ (by have h1 := HB.out; have h2 := HIJ.out; omega)]; omega
      have e4 : IntKind.i64.wrap ((j : Int) - (i : Int)) = (j' : Int) := by rw [IntWalk.i64_in _ (by have h1 := HB.out; have h2 := HIJ.out; omega)]; omega
      have q1 : (i : Int) < (j : Int) := by omega
      have HZ := Lib.hid (And.intro hz (And.intro hj' hlt))
      clear hy hz hj' hlt
      go_wp2_with fail
      refine (sort_swapRange' wr g cap len M HM.out.2.1 x z i f HM.out.1 (by have h1 := HB.out; have h2 := HIJ.out; have h3 := HX.out; have h4 := HZ.out; omega) (by have h1 := HB.out; have h2 := HIJ.out; have h3 := HX.out; have h4 := HZ.out; omega) (by have h1 := HB.out; omega)).mono ?_
      rintro e w2 ⟨rfl, N, hn1, hn2, hn3, hn4⟩
      have HN := Lib.hid (And.intro hn1 (And.intro hn2 (And.intro hn3 hn4)))
      clear hn1 hn2 hn3 hn4
      go_wp2_with fail
      go_roundw
      case rel =>
        have h2 := HIJ.out
        have h4 := HZ.out
        refine ⟨i, j', N, rfl, rfl, Lib.hid (by omega), Lib.hid ⟨HN.out.1, HN.out.2.2.1, fun T hT => HM.out.2.2.1 T ?_, HM.out.2.2.2.trans' HN.out.2.2.2 (fun _ _ h => h)⟩⟩
        refine rot_lt h2.2.2.1 h4.2.2 (M := N) ?_ ?_
        · have := HN.out.2.1
          rwa [HX.out, h4.1] at this
        · rw [h4.2.1] at hT; exact hT
      case measure => have h2 := HIJ.out; have h4 := HZ.out; simp [intOf]; omega
    · subst heq
      go_wp2_with fail
      refine (sort_swapRange' wr g cap len M HM.out.2.1 x m i f HM.out.1 (by have h1 := HB.out; have h2 := HIJ.out; have h3 := HX.out; omega) (by have h1 := HB.out; have h2 := HIJ.out; omega) (by have h1 := HB.out; omega)).mono ?_
      rintro e w2 ⟨rfl, N, hn1, hn2, hn3, hn4⟩
      have HN := Lib.hid (And.intro hn1 (And.intro hn2 (And.intro hn3 hn4)))
      clear hn1 hn2 hn3 hn4
      go_wp2_with fail
      go_end0
      refine ⟨rfl, N, HN.out.1, HM.out.2.2.1 N (rot_eq HIJ.out.2.2.1 ?_), HN.out.2.2.1, HM.out.2.2.2.trans' HN.out.2.2.2 (fun _ _ h => h)⟩
      have := HN.out.2.1
      rwa [HX.out] at this
    · obtain ⟨i', hi'⟩ : ∃ i', i' = i - j := ⟨_, rfl⟩
      have e4 : IntKind.i64.wrap ((i : Int) - (j : Int)) = (i' : Int) := by rw [IntWalk.i64_in _ (by have h1 := HB.out; have h2 := HIJ.out; omega)]; omega
      have q1 : (j : Int) < (i : Int) := by omega
      have HZ := Lib.hid (And.intro hi' hgt)
      clear hi' hgt
      go_wp2_with fail
      refine (sort_swapRange' wr g cap len M HM.out.2.1 x m j f HM.out.1 (by have h1 := HB.out; have h2 := HIJ.out; have h3 := HX.out; have h4 := HZ.out; omega) (by have h1 := HB.out; have h2 := HIJ.out; omega) (by have h1 := HB.out; omega)).mono ?_
      rintro e w2 ⟨rfl, N, hn1, hn2, hn3, hn4⟩
      have HN := Lib.hid (And.intro hn1 (And.intro hn2 (And.intro hn3 hn4)))
      clear hn1 hn2 hn3 hn4
      go_wp2_with fail
      go_roundw
      case rel =>
        have h2 := HIJ.out
        have h4 := HZ.out
        refine ⟨i', j, N, rfl, rfl, Lib.hid (by omega), Lib.hid ⟨HN.out.1, HN.out.2.2.1, fun T hT => HM.out.2.2.1 T ?_, HM.out.2.2.2.trans' HN.out.2.2.2 (fun _ _ h => h)⟩⟩
        refine rot_gt h2.2.2.1 h4.2 (M := N) ?_ ?_
        · have := HN.out.2.1
          rwa [HX.out] at this
        · rw [h4.1] at hT; exact hT
      case measure => have h2 := HIJ.out; have h4 := HZ.out; simp [intOf]; omega
end Go.Proofs.Ytkglkpcpgdeneaa
namespace Go.Proofs.Ytkglkpcpgdeneaa
open Go.RowKit

/-- The order of items. -/
def ltI (x y : It) : Bool := lt2 x.k x.s y.k y.s
theorem swoI : SWO ltI where
  asym x y h := by
    unfold ltI at *
    rw [lt2_iff] at h
    rw [← Bool.not_eq_true, lt2_iff]
    rintro (g | ⟨g1, g2⟩)
    · rcases h with h | ⟨h1, h2⟩
      · exact absurd g (List.lt_asymm h)
      · rw [h1] at g; exact absurd g (List.lt_irrefl _)
    · rcases h with h | ⟨h1, h2⟩
      · rw [g1] at h; exact absurd h (List.lt_irrefl _)
      · omega
  ntr x y z h g := by
    unfold ltI at *
    rw [← Bool.not_eq_true, lt2_iff] at h g ⊢
    intro hc
    rcases list_tri x.k.toList y.k.toList with h1 | h1 | h1
    · exact h (.inl h1)
    · rcases list_tri y.k.toList z.k.toList with h2 | h2 | h2
      · exact g (.inl h2)
      · rcases hc with hc | ⟨_, hc⟩
        · rw [h1, h2] at hc; exact absurd hc (List.lt_irrefl _)
        · have h3 : ¬ x.s < y.s := fun e => h (.inr ⟨h1, e⟩)
          have h4 : ¬ y.s < z.s := fun e => g (.inr ⟨h2, e⟩)
          omega
      · rcases hc with hc | ⟨hc, _⟩
        · rw [h1] at hc; exact absurd hc (List.lt_asymm h2)
        · rw [← hc, h1] at h2; exact absurd h2 (List.lt_irrefl _)
    · rcases list_tri y.k.toList z.k.toList with h2 | h2 | h2
      · exact g (.inl h2)
      · rcases hc with hc | ⟨hc, _⟩
        · rw [← h2] at hc; exact absurd hc (List.lt_asymm h1)
        · rw [h2, hc] at h1; exact absurd h1 (List.lt_irrefl _)
      · have h3 := List.lt_trans h2 h1
        rcases hc with hc | ⟨hc, _⟩
        · exact absurd hc (List.lt_asymm h3)
        · rw [hc] at h3; exact absurd h3 (List.lt_irrefl _)
/-- The comparison as a value. -/
abbrev cmpF : Value := .func (.func 80) #[] #[]
/-- A row of items, and what else may have turned since w. -/
def RowS (w : World) (g cap : Nat) (M : List It) (u : World) : Prop := RowI u g cap M ∧ Keep (fun k => k = g ∨ w.heap.size ≤ k) w u
theorem RowS.stays (w : World) (g cap : Nat) (M : List It) : Stays Anew (RowS w g cap M) := fun u u' h k =>
  ⟨h.1.keep k (fun e => by have := h.1.lt; omega), h.2.trans' k (fun j hj hf => by have := h.2.size; omega)⟩
theorem RowS.start {w : World} {g cap : Nat} {M : List It} (h : RowI w g cap M) : RowS w g cap M w := ⟨h, Keep.refl _ w⟩
theorem RowS.drew {w u : World} {g cap : Nat} {M : List It} (h : RowS w g cap M u) : RowS w g cap M u.drew := ⟨h.1.drew, h.2.drew⟩
theorem RowS.at {w u : World} {g cap : Nat} {M : List It} (h : RowS w g cap M u) (i : Nat) (x : It) (hx : M[i]? = some x) :
    u.cell? ⟨g, i * 3, none⟩ = some (.string x.k) ∧ u.cell? ⟨g, i * 3 + 1, none⟩ = some (.int .i64 x.s) ∧ u.cell? ⟨g, i * 3 + 2, none⟩ = some (.slice x.A x.n x.c) := by
  obtain ⟨hi, rfl⟩ := List.getElem?_eq_some_iff.1 hx
  exact ⟨h.1.cell i 0 hi (by omega), h.1.cell i 1 hi (by omega), h.1.cell i 2 hi (by omega)⟩
theorem RowS.step {w u u' : World} {g cap : Nat} {M N : List It} (h : RowS w g cap M u) (hr : RowI u' g cap N) (k : Keep (fun k => k = g) u u') : RowS w g cap N u' := ⟨hr, h.2.trans' k (fun _ _ e => .inl e)⟩
theorem RowS.step2 {w u u' : World} {g cap : Nat} {M N : List It} (h : RowS w g cap M u) (hr : RowS u g cap N u') : RowS w g cap N u' :=
  ⟨hr.1, h.2.trans' hr.2 (fun j _ e => by rcases e with e | e; exact .inl e; exact .inr (by have := h.2.size; omega))⟩
theorem cmp_call {w u : World} {g cap : Nat} {M : List It} (x y : It) (r : Int) (hr : r = cmp2 x.k x.s y.k y.s) (_ : RowS w g cap M u) :
    Calls Try.prog 80 #[.agg #[.string x.k, .int .i64 x.s, .slice x.A x.n x.c], .agg #[.string y.k, .int .i64 y.s, .slice y.A y.n y.c]] u fun e u' => e = .returned (.int .i64 r) ∧ Anew u u' := by
  subst hr
  exact rec_compare x.k y.k x.s y.s _ _ u
set_option maxRecDepth 100000 in
set_option maxHeartbeats 8000000 in
theorem sort_insertion (w : World) (g cap len : Nat) (L : List It) (hlen : L.length = len) (a b : Nat) (hr : RowI w g cap L) (hab : a ≤ b) (hb : b ≤ len) (hL : len ≤ 2305843009213693952) :
    Calls Try.prog 93 #[.slice (some ⟨g, 0, none⟩) len cap, .int .i64 a, .int .i64 b, cmpF] w fun e w' => e = .returned (.tuple #[]) ∧ ∃ M, RowS w g cap M w' ∧ Mv ltI a b L M ∧ Srt ltI M a b := by
  have HR := Lib.hid hr
  have HB := Lib.hid (And.intro hab (And.intro hb (And.intro hL hlen)))
  obtain ⟨i0, hi0⟩ : ∃ i, i = a + 1 := ⟨_, rfl⟩
  have e0 : IntKind.i64.wrap ((a : Int) + 1) = (i0 : Int) := by rw [IntWalk.i64_in _ (by omega)]; omega
  have HI := Lib.hid hi0
  clear hr hab hb hL hlen hi0
  go_enter Try.func93, Try.ntmps93
  go_wp2_with fail
  go_loopw [8] (fun v8 wr => ∃ (i : Nat) (M : List It), v8 = .int .i64 i ∧ Hid (a + 1 ≤ i ∧ (i = a + 1 ∨ i ≤ b) ∧ i ≤ len + 1) ∧ Hid (RowS w g cap M wr ∧ Mv ltI a b L M ∧ Srt ltI M a i)) (fun v8 _ => b - (intOf v8).toNat)
  case atStart => exact ⟨i0, L, rfl, Lib.hid (by have h1 := HB.out; have h2 := HI.out; omega), Lib.hid ⟨RowS.start HR.out, Mv.refl a b L, Srt.one L (by have h2 := HI.out; omega)⟩⟩
  case round =>
    clear e0
    obtain ⟨i, M, rfl, HB2, HM⟩ := hrel
    by_cases hlt : i < b
    · have q1 : (i : Int) < (b : Int) := by omega
      have HLT := Lib.hid hlt
      obtain ⟨i1, hi1⟩ : ∃ i1, i1 = i + 1 := ⟨_, rfl⟩
      have e9 : IntKind.i64.wrap ((i : Int) + 1) = (i1 : Int) := by rw [IntWalk.i64_in _ (by have h1 := HB.out; omega)]; omega
      have HI1 := Lib.hid hi1
      clear hi1
      have HML : Hid (M.length = len) := Lib.hid (by have := HM.out.2.1.len; have h1 := HB.out; omega)
      clear hlt
      go_wp2_with fail
      go_loopw [9] (fun v9 wr => ∃ (j : Nat) (M : List It), v9 = .int .i64 j ∧ Hid (a ≤ j ∧ j ≤ i) ∧ Hid (RowS w g cap M wr ∧ Mv ltI a b L M ∧ SrtX ltI M a (i + 1) j ∧ M.length = len)) (fun v9 _ => (intOf v9).toNat)
      case atStart => exact ⟨i, M, rfl, Lib.hid (by have := HB2.out; omega), Lib.hid ⟨HM.out.1, HM.out.2.1, srtX_start HM.out.2.2, HML.out⟩⟩
      case round =>
        obtain ⟨j, N, rfl, HJ, HN⟩ := hrel
        clear HM HML
        by_cases hj : a < j
        · obtain ⟨p, hp⟩ : ∃ p, p = j - 1 := ⟨_, rfl⟩
          have hjN : j < N.length := by have h1 := HB.out; have h2 := HLT.out; have h3 := HJ.out; have h4 := HN.out.2.2.2; omega
          have hpN : p < N.length := by omega
          have e1 : IntKind.i64.wrap ((j : Int) - 1) = (p : Int) := by rw [IntWalk.i64_in _ (by have h1 := HB.out; have h2 := HLT.out; have h3 := HJ.out; omega)]; omega
          have q2 : (a : Int) < (j : Int) := by omega
          have q3 : (j : Int) < (len : Int) := by have h4 := HN.out.2.2.2; omega
          have q4 : (p : Int) < (len : Int) := by have h4 := HN.out.2.2.2; omega
          obtain ⟨x, hx⟩ : ∃ x, N[j]? = some x := some_at hjN
          obtain ⟨y, hy⟩ : ∃ y, N[p]? = some y := some_at hpN
          have HXY := Lib.hid (And.intro hx hy)
          obtain ⟨r, hr⟩ : ∃ r, r = cmp2 x.k x.s y.k y.s := ⟨_, rfl⟩
          have HRR := Lib.hid hr
          have HP := Lib.hid (And.intro hp hj)
          have HIN := Lib.hid (And.intro hjN hpN)
          clear hx hy hr hp hj hjN hpN
          go_wp2_with fail
          refine wp_region_G [] Anew (RowS w g cap N) (by kernel_rfl) (by kernel_rfl) (by kernel_rfl) Anew.refl (RowS.stays _ _ _ _) HN.out.1.drew ?_
          repeat (first
            | (apply wpG_skip
               · rfl
               simp only [Act.put, List.setIfInBounds_toArray, List.set_cons_zero, List.set_cons_succ])
            | (apply wpG_val
               · rfl
               · intro u hu
                 obtain ⟨x0, x1, x2⟩ := hu.at j x HXY.out.1
                 obtain ⟨y0, y1, y2⟩ := hu.at p y HXY.out.2
                 clear hu
                 (go_simp <;> with_reducible rfl)
               simp only [Act.put, List.setIfInBounds_toArray, List.set_cons_zero, List.set_cons_succ])
            | (apply wpG_call
               · rfl
               · intro u
                 go_simp
                 exact ⟨rfl, rfl⟩
               · intro u hu
                 exact cmp_call x y r HRR.out hu
               simp only [Act.put, List.setIfInBounds_toArray, List.set_cons_zero, List.set_cons_succ]))
          refine wpG_nil ?_
          intro w3 hs3
          have HS3 := Lib.hid hs3
          clear hs3
          by_cases hneg : r < 0
          · have HNEG : Hid (ltI x y = true) := Lib.hid (by unfold ltI lt2; rw [← HRR.out]; simpa using hneg)
            have hpq : p < j := by have := HP.out; omega
            have x0 := HS3.out.1.cell j 0 HIN.out.1 (by omega)
            have x1 := HS3.out.1.cell j 1 HIN.out.1 (by omega)
            have x2 := HS3.out.1.cell j 2 HIN.out.1 (by omega)
            have fx0 := HS3.out.1.free (j * 3)
            have fx1 := HS3.out.1.free (j * 3 + 1)
            have fx2 := HS3.out.1.free (j * 3 + 2)
            have y0 := HS3.out.1.cell p 0 HIN.out.2 (by omega)
            have y1 := HS3.out.1.cell p 1 HIN.out.2 (by omega)
            have y2 := HS3.out.1.cell p 2 HIN.out.2 (by omega)
            have fy0 := HS3.out.1.free (p * 3)
            have fy1 := HS3.out.1.free (p * 3 + 1)
            have fy2 := HS3.out.1.free (p * 3 + 2)
            generalize hex : N[j]'(HIN.out.1) = xa at x0 x1 x2
            generalize hey : N[p]'(HIN.out.2) = ya at y0 y1 y2
            obtain ⟨k, s, A, n0, c⟩ := xa
            obtain ⟨k', s', A', n', c'⟩ := ya
            simp only [It.cells, List.getElem?_cons_zero, List.getElem?_cons_succ, Nat.add_zero] at x0 x1 x2 y0 y1 y2
            have HX := Lib.hid hex
            have HY := Lib.hid hey
            clear hex hey
            have n00 : ¬ j * 3 = p * 3 := by omega
            have m00 : ¬ p * 3 = j * 3 := by omega
            have n01 : ¬ j * 3 = p * 3 + 1 := by omega
            have m01 : ¬ p * 3 + 1 = j * 3 := by omega
            have n02 : ¬ j * 3 = p * 3 + 2 := by omega
            have m02 : ¬ p * 3 + 2 = j * 3 := by omega
            have n10 : ¬ j * 3 + 1 = p * 3 := by omega
            have m10 : ¬ p * 3 = j * 3 + 1 := by omega
            have n11 : ¬ j * 3 + 1 = p * 3 + 1 := by omega
            have m11 : ¬ p * 3 + 1 = j * 3 + 1 := by omega
            have n12 : ¬ j * 3 + 1 = p * 3 + 2 := by omega
            have m12 : ¬ p * 3 + 2 = j * 3 + 1 := by omega
            have n20 : ¬ j * 3 + 2 = p * 3 := by omega
            have m20 : ¬ p * 3 = j * 3 + 2 := by omega
            have n21 : ¬ j * 3 + 2 = p * 3 + 1 := by omega
            have m21 : ¬ p * 3 + 1 = j * 3 + 2 := by omega
            have n22 : ¬ j * 3 + 2 = p * 3 + 2 := by omega
            have m22 : ¬ p * 3 + 2 = j * 3 + 2 := by omega
            clear hpq
            go_wp2_with fail
            go_region
            go_wp2_with fail
            go_roundw
            case rel =>
              have hjp : p + 1 = j := by have := HP.out; omega
              have hsw : SwpOf N (swpI N j p HIN.out.1 HIN.out.2) p (p + 1) := by rw [hjp]; exact (swpI_of HIN.out.1 HIN.out.2).symm
              have hx1 : N[p + 1]? = some x := by rw [hjp]; exact HXY.out.1
              have hap : a ≤ p := by have := HP.out; omega
              refine ⟨p, swpI N j p HIN.out.1 HIN.out.2, rfl, Lib.hid ⟨hap, by have := HJ.out; have := HP.out; omega⟩, Lib.hid ⟨HS3.out.step ?_ ?_, ?_, ?_, by rw [swpI_len]; exact HN.out.2.2.2⟩⟩
              · unfold swpI
                rw [HX.out, HY.out]
                exact ((HS3.out.1.put j ⟨k', s', A', n', c'⟩ HIN.out.1).put p ⟨k, s, A, n0, c⟩ (by simpa using HIN.out.2)).drew
              · exact ((put3_keep w3 g (j * 3) (.string k') (.int .i64 s') (.slice A' n' c')).trans' (put3_keep _ g (p * 3) (.string k) (.int .i64 s) (.slice A n0 c)) (fun _ _ h => h)).drew
              · exact HN.out.2.1.trans (swp_mv swoI hsw HXY.out.2 hx1 HNEG.out hap (by have h2 := HLT.out; have h3 := HJ.out; omega))
              · exact srtX_step swoI (by rw [hjp]; exact HN.out.2.2.1) hap hsw HXY.out.2 hx1 HNEG.out
            case measure => have := HP.out; simp [intOf]; omega
          · have HNEG : Hid (ltI x y = false) := Lib.hid (by unfold ltI lt2; rw [← HRR.out]; simpa using hneg)
            go_wp2_with fail
            go_roundw
            case rel =>
              refine ⟨i1, N, rfl, Lib.hid (by have h0 := HI1.out; have h1 := HB2.out; have h2 := HLT.out; have h3 := HB.out; omega), Lib.hid ⟨HS3.out, HN.out.2.1, HI1.out ▸ srtX_end swoI HN.out.2.2.1 (.inr ⟨y, x, ?_, HXY.out.1, HNEG.out⟩)⟩⟩
              rw [show j - 1 = p by have := HP.out; omega]; exact HXY.out.2
            case measure => have := HLT.out; have := HI1.out; simp [intOf]; omega
        · have q2 : ¬ (a : Int) < (j : Int) := by omega
          have hja : j = a := by have := HJ.out; omega
          clear hj
          subst hja
          go_wp2_with fail
          refine wp_region_G [] Anew (RowS w g cap N) (by kernel_rfl) (by kernel_rfl) (by kernel_rfl) Anew.refl (RowS.stays _ _ _ _) HN.out.1.drew ?_
          repeat (first
            | (apply wpG_skip
               · rfl
               simp only [Act.put, List.setIfInBounds_toArray, List.set_cons_zero, List.set_cons_succ])
            | (apply wpG_val
               · rfl
               · intro u hu
                 clear hu
                 (go_simp <;> with_reducible rfl)
               simp only [Act.put, List.setIfInBounds_toArray, List.set_cons_zero, List.set_cons_succ]))
          refine wpG_nil ?_
          intro w3 hs3
          have HS3 := Lib.hid hs3
          clear hs3
          go_wp2_with fail
          go_roundw
          case rel => exact ⟨i1, N, rfl, Lib.hid (by have h0 := HI1.out; have h1 := HB2.out; have h2 := HLT.out; have h3 := HB.out; omega), Lib.hid ⟨HS3.out, HN.out.2.1, HI1.out ▸ srtX_end swoI HN.out.2.2.1 (.inl rfl)⟩⟩
          case measure => have := HLT.out; have := HI1.out; simp [intOf]; omega
    · go_wp2_with fail
      go_end0
      exact ⟨rfl, M, HM.out.1, HM.out.2.1, HM.out.2.2.sub (Nat.le_refl _) (by omega)⟩
end Go.Proofs.Ytkglkpcpgdeneaa
namespace Go.Proofs.Ytkglkpcpgdeneaa
open Go.RowKit

set_option maxRecDepth 100000 in
set_option maxHeartbeats 8000000 in
theorem sort_merge_left (g cap len : Nat) (hL : len ≤ 2305843009213693952) (w : World) (L : List It) (a m b : Nat) (hlen : L.length = len) (hr : RowI w g cap L) (ham : a < m) (hmb : m < b) (hb : b ≤ len) (hs2 : Srt ltI L m b) (hone : m - a = 1) :
    Calls Try.prog 94 #[.slice (some ⟨g, 0, none⟩) len cap, .int .i64 a, .int .i64 m, .int .i64 b, cmpF] w fun e w' => e = .returned (.tuple #[]) ∧ ∃ M, RowS w g cap M w' ∧ Mv ltI a b L M ∧ Srt ltI M a b := by
  have HR := Lib.hid (And.intro hr hs2)
  have HB := Lib.hid (And.intro ham (And.intro hmb (And.intro hb (And.intro hlen (And.intro hL hone)))))
  have HLH : Hid (b ≤ len) := Lib.hid hb
  have e1 : IntKind.i64.wrap ((m : Int) - (a : Int)) = 1 := by rw [IntWalk.i64_in _ (by omega)]; omega
  have q1 : (a : Int) < (len : Int) := by omega
  clear hr ham hmb hb hlen hs2 hone
  go_enter Try.func94, Try.ntmps94
  go_wp2_with fail
  go_loopw [10, 11] (fun v10 v11 wr => ∃ i j : Nat, v10 = .int .i64 i ∧ v11 = .int .i64 j ∧ Hid (BS (fun c => ltAt ltI L c a) m b i j) ∧ Hid (RowS w g cap L wr)) (fun v10 v11 _ => (intOf v11).toNat - (intOf v10).toNat)
  case atStart => exact ⟨m, b, rfl, rfl, Lib.hid (BS.start (by have := HB.out; omega)), Lib.hid (RowS.start HR.out.1)⟩
  case round =>
    obtain ⟨i, j, rfl, rfl, HBS, HS⟩ := hrel
    have HMO : Hid (Mono (fun c => ltAt ltI L c a) m b) := Lib.hid (mono_left swoI HR.out.2 (by have h1 := HB.out; omega) (by have h1 := HB.out; omega))
    by_cases hlt : i < j
    · obtain ⟨s, hs⟩ : ∃ s, s = i + j := ⟨_, rfl⟩
      obtain ⟨h, hh⟩ : ∃ h, h = s / 2 := ⟨_, rfl⟩
      have e2 : IntKind.i64.wrap ((i : Int) + (j : Int)) = (s : Int) := by rw [IntWalk.i64_in _ (by have h1 := HB.out; have h2 := HBS.out.hi; have h3 := HLH.out; omega)]; omega
      have e3 : (s : Int) / 2 = (h : Int) := by omega
      have q2 : (i : Int) < (j : Int) := by omega
      have q3 : (s : Int) ≤ 4611686018427387904 := by have h1 := HB.out; have h2 := HBS.out.hi; have h3 := HLH.out; omega
      have hih : i ≤ h ∧ h < j := by omega
      have hhb : h < len := by have h1 := HB.out; have h2 := HBS.out.hi; have h3 := HLH.out; omega
      have q4 : (h : Int) < (len : Int) := by omega
      obtain ⟨x, hx⟩ : ∃ x, L[h]? = some x := some_at (by have h1 := HB.out; omega)
      obtain ⟨y, hy⟩ : ∃ y, L[a]? = some y := some_at (by have h1 := HB.out; omega)
      obtain ⟨r, hr⟩ : ∃ r, r = cmp2 x.k x.s y.k y.s := ⟨_, rfl⟩
      have HXY := Lib.hid (And.intro hx (And.intro hy hr))
      clear hx hy hr
      obtain ⟨h1, hh1⟩ : ∃ h1, h1 = h + 1 := ⟨_, rfl⟩
      have e4 : IntKind.i64.wrap ((h : Int) + 1) = (h1 : Int) := by rw [IntWalk.i64_in _ (by have h3 := HB.out; omega)]; omega
      have HSS := Lib.hid (And.intro hih hh1)
      clear hs hh hlt hih hhb hh1
      go_wp2_with fail
      refine wp_region_G [] Anew (RowS w g cap L) (by kernel_rfl) (by kernel_rfl) (by kernel_rfl) Anew.refl (RowS.stays _ _ _ _) HS.out.drew ?_
      repeat (first
        | (apply wpG_skip
           · rfl
           simp only [Act.put, List.setIfInBounds_toArray, List.set_cons_zero, List.set_cons_succ])
        | (apply wpG_val
           · rfl
           · intro u hu
             obtain ⟨x0, x1, x2⟩ := hu.at h x HXY.out.1
             obtain ⟨y0, y1, y2⟩ := hu.at a y HXY.out.2.1
             clear hu
             (go_simp <;> with_reducible rfl)
           simp only [Act.put, List.setIfInBounds_toArray, List.set_cons_zero, List.set_cons_succ])
        | (apply wpG_call
           · rfl
           · intro u
             go_simp
             exact ⟨rfl, rfl⟩
           · intro u hu
             exact cmp_call x y r HXY.out.2.2 hu
           simp only [Act.put, List.setIfInBounds_toArray, List.set_cons_zero, List.set_cons_succ]))
      refine wpG_nil ?_
      intro w3 hs3
      have HS3 := Lib.hid hs3
      clear hs3
      cases hneg : decide (r < 0) with
      | true =>
        try simp only [Bool.not_true]
        go_wp2_with fail
        go_roundw
        case rel => exact ⟨h1, j, rfl, rfl, Lib.hid (by
          have h2 := HSS.out
          rw [h2.2]
          exact HBS.out.up HMO.out h2.1.1 h2.1.2 (by show ltAt ltI L h a = true; rw [ltAt_eq HXY.out.1 HXY.out.2.1]; exact (by unfold ltI lt2; rw [← HXY.out.2.2]; simpa using hneg))), HS3⟩
        case measure => have h2 := HSS.out; simp [intOf]; omega
      | false =>
        try simp only [Bool.not_false]
        go_wp2_with fail
        go_roundw
        case rel => exact ⟨i, h, rfl, rfl, Lib.hid (by
          have h2 := HSS.out
          exact HBS.out.down HMO.out h2.1.1 h2.1.2 (by show ltAt ltI L h a = false; rw [ltAt_eq HXY.out.1 HXY.out.2.1]; exact (by unfold ltI lt2; rw [← HXY.out.2.2]; simpa using hneg))), HS3⟩
        case measure => have h2 := HSS.out; simp [intOf]; omega
    · have hij : j = i := by have := HBS.out.le; omega
      subst hij
      clear hlt
      have hj1 := HBS.out.lo
      have hj2 := HBS.out.hi
      obtain ⟨t, ht⟩ : ∃ t, t = j - 1 := ⟨_, rfl⟩
      have e5 : IntKind.i64.wrap ((j : Int) - 1) = (t : Int) := by rw [IntWalk.i64_in _ (by have h1 := HB.out; omega)]; have h1 := HB.out; omega
      have HT := Lib.hid (And.intro ht (And.intro hj1 hj2))
      clear ht hj1 hj2 e1
      go_wp2_with fail
      go_loopw [13] (fun v13 wr => ∃ (k : Nat) (M : List It), v13 = .int .i64 k ∧ Hid (a ≤ k ∧ k ≤ t) ∧ Hid (RowS w g cap M wr ∧ RotOf L M a (a + 1) (k + 1) ∧ M.length = len)) (fun v13 _ => t - (intOf v13).toNat)
      case atStart => exact ⟨a, L, rfl, Lib.hid (by have h1 := HB.out; have h2 := HT.out; omega), Lib.hid ⟨HS.out, rot_id L a (a + 1), HB.out.2.2.2.1⟩⟩
      case round =>
        obtain ⟨k0, M, rfl, HK, HM⟩ := hrel
        by_cases hkt : k0 < t
        · obtain ⟨p, hp⟩ : ∃ p, p = k0 + 1 := ⟨_, rfl⟩
          have hkM : k0 < M.length := by have h1 := HB.out; have h2 := HT.out; have h3 := HM.out.2.2; omega
          have hpM : p < M.length := by have h1 := HB.out; have h2 := HT.out; have h3 := HM.out.2.2; omega
          have e6 : IntKind.i64.wrap ((k0 : Int) + 1) = (p : Int) := by rw [IntWalk.i64_in _ (by have h1 := HB.out; have h2 := HT.out; omega)]; omega
          have q2 : (k0 : Int) < (t : Int) := by omega
          have q3 : (k0 : Int) < (len : Int) := by have h3 := HM.out.2.2; omega
          have q4 : (p : Int) < (len : Int) := by have h3 := HM.out.2.2; omega
          have hpq : k0 < p := by omega
          have x0 := HM.out.1.1.cell k0 0 hkM (by omega)
          have x1 := HM.out.1.1.cell k0 1 hkM (by omega)
          have x2 := HM.out.1.1.cell k0 2 hkM (by omega)
          have fx0 := HM.out.1.1.free (k0 * 3)
          have fx1 := HM.out.1.1.free (k0 * 3 + 1)
          have fx2 := HM.out.1.1.free (k0 * 3 + 2)
          have y0 := HM.out.1.1.cell p 0 hpM (by omega)
          have y1 := HM.out.1.1.cell p 1 hpM (by omega)
          have y2 := HM.out.1.1.cell p 2 hpM (by omega)
          have fy0 := HM.out.1.1.free (p * 3)
          have fy1 := HM.out.1.1.free (p * 3 + 1)
          have fy2 := HM.out.1.1.free (p * 3 + 2)
          generalize hex : M[k0]'(hkM) = xa at x0 x1 x2
          generalize hey : M[p]'(hpM) = ya at y0 y1 y2
          obtain ⟨k, s, A, n0, c⟩ := xa
          obtain ⟨k', s', A', n', c'⟩ := ya
          simp only [It.cells, List.getElem?_cons_zero, List.getElem?_cons_succ, Nat.add_zero] at x0 x1 x2 y0 y1 y2
          have HX := Lib.hid hex
          have HY := Lib.hid hey
          clear hex hey
          have n00 : ¬ k0 * 3 = p * 3 := by omega
          have m00 : ¬ p * 3 = k0 * 3 := by omega
          have n01 : ¬ k0 * 3 = p * 3 + 1 := by omega
          have m01 : ¬ p * 3 + 1 = k0 * 3 := by omega
          have n02 : ¬ k0 * 3 = p * 3 + 2 := by omega
          have m02 : ¬ p * 3 + 2 = k0 * 3 := by omega
          have n10 : ¬ k0 * 3 + 1 = p * 3 := by omega
          have m10 : ¬ p * 3 = k0 * 3 + 1 := by omega
          have n11 : ¬ k0 * 3 + 1 = p * 3 + 1 := by omega
          have m11 : ¬ p * 3 + 1 = k0 * 3 + 1 := by omega
          have n12 : ¬ k0 * 3 + 1 = p * 3 + 2 := by omega
          have m12 : ¬ p * 3 + 2 = k0 * 3 + 1 := by omega
          have n20 : ¬ k0 * 3 + 2 = p * 3 := by omega
          have m20 : ¬ p * 3 = k0 * 3 + 2 := by omega
          have n21 : ¬ k0 * 3 + 2 = p * 3 + 1 := by omega
          have m21 : ¬ p * 3 + 1 = k0 * 3 + 2 := by omega
          have n22 : ¬ k0 * 3 + 2 = p * 3 + 2 := by omega
          have m22 : ¬ p * 3 + 2 = k0 * 3 + 2 := by omega
          have HP := Lib.hid (And.intro hp hkt)
          have HIN := Lib.hid (And.intro hkM hpM)
          clear hp hkt hpq
          go_wp2_with fail
          go_region
          go_wp2_with fail
          go_roundw
          case rel =>
            refine ⟨p, swpI M k0 p HIN.out.1 HIN.out.2, rfl, Lib.hid (by have h1 := HP.out; have h2 := HK.out; omega), Lib.hid ⟨HM.out.1.step ?_ ?_, ?_, by rw [swpI_len]; exact HM.out.2.2⟩⟩
            · unfold swpI
              rw [HX.out, HY.out]
              exact ((HM.out.1.1.put k0 ⟨k', s', A', n', c'⟩ HIN.out.1).put p ⟨k, s, A, n0, c⟩ (by simpa using HIN.out.2)).drew
            · exact ((put3_keep wr g (k0 * 3) (.string k') (.int .i64 s') (.slice A' n' c')).trans' (put3_keep _ g (p * 3) (.string k) (.int .i64 s) (.slice A n0 c)) (fun _ _ h => h)).drew
            · have hsw := swpI_of HIN.out.1 HIN.out.2
              have hpk := HP.out.1
              have h5 := rot_left_step (N := swpI M k0 p HIN.out.1 HIN.out.2) HM.out.2.1 HK.out.1 (by rw [← hpk]; exact hsw)
              rw [show p + 1 = k0 + 2 by omega]
              exact h5
          case measure => have h1 := HP.out; simp [intOf]; omega
        · have hkt' : k0 = t := by have := HK.out; omega
          subst hkt'
          go_wp2_with fail
          refine bodyPost_ret (results_none rfl _ _ _) rfl ?_
          have h1 := HB.out
          have h2 := HT.out
          have h3 : RotOf L M a (a + 1) j := by have := HM.out.2.1; rwa [show k0 + 1 = j by omega] at this
          have hma : m = a + 1 := by omega
          obtain ⟨g1, g2⟩ := merge_left swoI (i := j) (by rw [← hma]; exact HR.out.2) (by omega) (by rw [← hma]; exact HBS.out) h3
          exact ⟨rfl, M, HM.out.1, g1, g2⟩
set_option maxRecDepth 100000 in
set_option maxHeartbeats 8000000 in
theorem sort_merge_right (g cap len : Nat) (hL : len ≤ 2305843009213693952) (w : World) (L : List It) (a m b : Nat) (hlen : L.length = len) (hr : RowI w g cap L) (ham : a < m) (hmb : m < b) (hb : b ≤ len) (hs1 : Srt ltI L a m) (htwo : ¬ m - a = 1) (hone : b - m = 1) :
    Calls Try.prog 94 #[.slice (some ⟨g, 0, none⟩) len cap, .int .i64 a, .int .i64 m, .int .i64 b, cmpF] w fun e w' => e = .returned (.tuple #[]) ∧ ∃ M, RowS w g cap M w' ∧ Mv ltI a b L M ∧ Srt ltI M a b := by
  have HR := Lib.hid (And.intro hr hs1)
  have HB := Lib.hid (And.intro ham (And.intro hmb (And.intro hb (And.intro hlen (And.intro hL hone)))))
  have HLH : Hid (m ≤ len) := Lib.hid (by omega)
  obtain ⟨x0, hx0⟩ : ∃ x, x = m - a := ⟨_, rfl⟩
  have e0 : IntKind.i64.wrap ((m : Int) - (a : Int)) = (x0 : Int) := by rw [IntWalk.i64_in _ (by omega)]; omega
  have q0 : ¬ (x0 : Int) = 1 := by omega
  have e1 : IntKind.i64.wrap ((b : Int) - (m : Int)) = 1 := by rw [IntWalk.i64_in _ (by omega)]; omega
  have q1 : (m : Int) < (len : Int) := by omega
  clear hr ham hmb hb hlen hs1 hone htwo hx0
  go_enter Try.func94, Try.ntmps94
  go_wp2_with fail
  go_loopw [14, 15] (fun v14 v15 wr => ∃ i j : Nat, v14 = .int .i64 i ∧ v15 = .int .i64 j ∧ Hid (BS (fun c => !ltAt ltI L m c) a m i j) ∧ Hid (RowS w g cap L wr)) (fun v14 v15 _ => (intOf v15).toNat - (intOf v14).toNat)
  case atStart => exact ⟨a, m, rfl, rfl, Lib.hid (BS.start (by have := HB.out; omega)), Lib.hid (RowS.start HR.out.1)⟩
  case round =>
    obtain ⟨i, j, rfl, rfl, HBS, HS⟩ := hrel
    have HMO : Hid (Mono (fun c => !ltAt ltI L m c) a m) := Lib.hid (mono_right swoI HR.out.2 (by have h1 := HB.out; omega))
    by_cases hlt : i < j
    · obtain ⟨s, hs⟩ : ∃ s, s = i + j := ⟨_, rfl⟩
      obtain ⟨h, hh⟩ : ∃ h, h = s / 2 := ⟨_, rfl⟩
      have e2 : IntKind.i64.wrap ((i : Int) + (j : Int)) = (s : Int) := by rw [IntWalk.i64_in _ (by have h1 := HB.out; have h2 := HBS.out.hi; have h3 := HLH.out; omega)]; omega
      have e3 : (s : Int) / 2 = (h : Int) := by omega
      have q2 : (i : Int) < (j : Int) := by omega
      have q3 : (s : Int) ≤ 4611686018427387904 := by have h1 := HB.out; have h2 := HBS.out.hi; have h3 := HLH.out; omega
      have hih : i ≤ h ∧ h < j := by omega
      have hhb : h < len := by have h1 := HB.out; have h2 := HBS.out.hi; have h3 := HLH.out; omega
      have q4 : (h : Int) < (len : Int) := by omega
      obtain ⟨x, hx⟩ : ∃ x, L[m]? = some x := some_at (by have h1 := HB.out; omega)
      obtain ⟨y, hy⟩ : ∃ y, L[h]? = some y := some_at (by have h1 := HB.out; omega)
      obtain ⟨r, hr⟩ : ∃ r, r = cmp2 x.k x.s y.k y.s := ⟨_, rfl⟩
      have HXY := Lib.hid (And.intro hx (And.intro hy hr))
      clear hx hy hr
      obtain ⟨h1, hh1⟩ : ∃ h1, h1 = h + 1 := ⟨_, rfl⟩
      have e4 : IntKind.i64.wrap ((h : Int) + 1) = (h1 : Int) := by rw [IntWalk.i64_in _ (by have h3 := HB.out; omega)]; omega
      have HSS := Lib.hid (And.intro hih hh1)
      clear hs hh hlt hih hhb hh1
      go_wp2_with fail
      refine wp_region_G [] Anew (RowS w g cap L) (by kernel_rfl) (by kernel_rfl) (by kernel_rfl) Anew.refl (RowS.stays _ _ _ _) HS.out.drew ?_
      repeat (first
        | (apply wpG_skip
           · rfl
           simp only [Act.put, List.setIfInBounds_toArray, List.set_cons_zero, List.set_cons_succ])
        | (apply wpG_val
           · rfl
           · intro u hu
             obtain ⟨x0, x1, x2⟩ := hu.at m x HXY.out.1
             obtain ⟨y0, y1, y2⟩ := hu.at h y HXY.out.2.1
             clear hu
             (go_simp <;> with_reducible rfl)
           simp only [Act.put, List.setIfInBounds_toArray, List.set_cons_zero, List.set_cons_succ])
        | (apply wpG_call
           · rfl
           · intro u
             go_simp
             exact ⟨rfl, rfl⟩
           · intro u hu
             exact cmp_call x y r HXY.out.2.2 hu
           simp only [Act.put, List.setIfInBounds_toArray, List.set_cons_zero, List.set_cons_succ]))
      refine wpG_nil ?_
      intro w3 hs3
      have HS3 := Lib.hid hs3
      clear hs3
      cases hneg : decide (r < 0) with
      | true =>
        try simp only [Bool.not_true]
        go_wp2_with fail
        go_roundw
        case rel => exact ⟨i, h, rfl, rfl, Lib.hid (by
          have h2 := HSS.out
          have h3 : ltAt ltI L m h = true := by rw [ltAt_eq HXY.out.1 HXY.out.2.1]; exact (by unfold ltI lt2; rw [← HXY.out.2.2]; simpa using hneg)
          exact HBS.out.down HMO.out h2.1.1 h2.1.2 (by show (!ltAt ltI L m h) = false; rw [h3]; rfl)), HS3⟩
        case measure => have h2 := HSS.out; simp [intOf]; omega
      | false =>
        try simp only [Bool.not_false]
        go_wp2_with fail
        go_roundw
        case rel => exact ⟨h1, j, rfl, rfl, Lib.hid (by
          have h2 := HSS.out
          have h3 : ltAt ltI L m h = false := by rw [ltAt_eq HXY.out.1 HXY.out.2.1]; exact (by unfold ltI lt2; rw [← HXY.out.2.2]; simpa using hneg)
          rw [h2.2]
          exact HBS.out.up HMO.out h2.1.1 h2.1.2 (by show (!ltAt ltI L m h) = true; rw [h3]; rfl)), HS3⟩
        case measure => have h2 := HSS.out; simp [intOf]; omega
    · have hij : j = i := by have := HBS.out.le; omega
      subst hij
      clear hlt
      have hj1 := HBS.out.lo
      have hj2 := HBS.out.hi
      have HT := Lib.hid (And.intro hj1 hj2)
      clear hj1 hj2 e1
      go_wp2_with fail
      go_loopw [17] (fun v17 wr => ∃ (k : Nat) (M : List It), v17 = .int .i64 k ∧ Hid (j ≤ k ∧ k ≤ m) ∧ Hid (RowS w g cap M wr ∧ RotOf L M k m (m + 1) ∧ M.length = len)) (fun v17 _ => (intOf v17).toNat)
      case atStart => exact ⟨m, L, rfl, Lib.hid (by have h2 := HT.out; omega), Lib.hid ⟨HS.out, rot_id' L m (m + 1) (Nat.le_succ _), HB.out.2.2.2.1⟩⟩
      case round =>
        obtain ⟨k0, M, rfl, HK, HM⟩ := hrel
        by_cases hkt : j < k0
        · obtain ⟨p, hp⟩ : ∃ p, p = k0 - 1 := ⟨_, rfl⟩
          have hkM : k0 < M.length := by have h1 := HB.out; have h2 := HK.out; have h3 := HM.out.2.2; omega
          have hpM : p < M.length := by omega
          have e6 : IntKind.i64.wrap ((k0 : Int) - 1) = (p : Int) := by rw [IntWalk.i64_in _ (by have h1 := HB.out; have h2 := HK.out; omega)]; omega
          have q2 : (j : Int) < (k0 : Int) := by omega
          have q3 : (k0 : Int) < (len : Int) := by have h3 := HM.out.2.2; omega
          have q4 : (p : Int) < (len : Int) := by have h3 := HM.out.2.2; omega
          have hpq : p < k0 := by omega
          have x0 := HM.out.1.1.cell k0 0 hkM (by omega)
          have x1 := HM.out.1.1.cell k0 1 hkM (by omega)
          have x2 := HM.out.1.1.cell k0 2 hkM (by omega)
          have fx0 := HM.out.1.1.free (k0 * 3)
          have fx1 := HM.out.1.1.free (k0 * 3 + 1)
          have fx2 := HM.out.1.1.free (k0 * 3 + 2)
          have y0 := HM.out.1.1.cell p 0 hpM (by omega)
          have y1 := HM.out.1.1.cell p 1 hpM (by omega)
          have y2 := HM.out.1.1.cell p 2 hpM (by omega)
          have fy0 := HM.out.1.1.free (p * 3)
          have fy1 := HM.out.1.1.free (p * 3 + 1)
          have fy2 := HM.out.1.1.free (p * 3 + 2)
          generalize hex : M[k0]'(hkM) = xa at x0 x1 x2
          generalize hey : M[p]'(hpM) = ya at y0 y1 y2
          obtain ⟨k, s, A, n0, c⟩ := xa
          obtain ⟨k', s', A', n', c'⟩ := ya
          simp only [It.cells, List.getElem?_cons_zero, List.getElem?_cons_succ, Nat.add_zero] at x0 x1 x2 y0 y1 y2
          have HX := Lib.hid hex
          have HY := Lib.hid hey
          clear hex hey
          have n00 : ¬ k0 * 3 = p * 3 := by omega
          have m00 : ¬ p * 3 = k0 * 3 := by omega
          have n01 : ¬ k0 * 3 = p * 3 + 1 := by omega
          have m01 : ¬ p * 3 + 1 = k0 * 3 := by omega
          have n02 : ¬ k0 * 3 = p * 3 + 2 := by omega
          have m02 : ¬ p * 3 + 2 = k0 * 3 := by omega
          have n10 : ¬ k0 * 3 + 1 = p * 3 := by omega
          have m10 : ¬ p * 3 = k0 * 3 + 1 := by omega
          have n11 : ¬ k0 * 3 + 1 = p * 3 + 1 := by omega
          have m11 : ¬ p * 3 + 1 = k0 * 3 + 1 := by omega
          have n12 : ¬ k0 * 3 + 1 = p * 3 + 2 := by omega
          have m12 : ¬ p * 3 + 2 = k0 * 3 + 1 := by omega
          have n20 : ¬ k0 * 3 + 2 = p * 3 := by omega
          have m20 : ¬ p * 3 = k0 * 3 + 2 := by omega
          have n21 : ¬ k0 * 3 + 2 = p * 3 + 1 := by omega
          have m21 : ¬ p * 3 + 1 = k0 * 3 + 2 := by omega
          have n22 : ¬ k0 * 3 + 2 = p * 3 + 2 := by omega
          have m22 : ¬ p * 3 + 2 = k0 * 3 + 2 := by omega
          have HP := Lib.hid (And.intro hp hkt)
          have HIN := Lib.hid (And.intro hkM hpM)
          clear hp hkt hpq
          go_wp2_with fail
          go_region
          go_wp2_with fail
          go_roundw
          case rel =>
            refine ⟨p, swpI M k0 p HIN.out.1 HIN.out.2, rfl, Lib.hid (by have h1 := HP.out; have h2 := HK.out; omega), Lib.hid ⟨HM.out.1.step ?_ ?_, ?_, by rw [swpI_len]; exact HM.out.2.2⟩⟩
            · unfold swpI
              rw [HX.out, HY.out]
              exact ((HM.out.1.1.put k0 ⟨k', s', A', n', c'⟩ HIN.out.1).put p ⟨k, s, A, n0, c⟩ (by simpa using HIN.out.2)).drew
            · exact ((put3_keep wr g (k0 * 3) (.string k') (.int .i64 s') (.slice A' n' c')).trans' (put3_keep _ g (p * 3) (.string k) (.int .i64 s) (.slice A n0 c)) (fun _ _ h => h)).drew
            · have hsw := swpI_of HIN.out.1 HIN.out.2
              have hpk : k0 = p + 1 := by have := HP.out; omega
              exact rot_right_step (k := p) (by rw [← hpk]; exact HM.out.2.1) (by have h1 := HK.out; omega) (by rw [← hpk]; exact hsw)
          case measure => have h1 := HP.out; simp [intOf]; omega
        · have hkt' : k0 = j := by have := HK.out; omega
          subst hkt'
          go_wp2_with fail
          refine bodyPost_ret (results_none rfl _ _ _) rfl ?_
          have h1 := HB.out
          have h2 := HT.out
          obtain ⟨g1, g2⟩ := merge_right swoI HR.out.2 (by omega) HBS.out HM.out.2.1
          rw [show b = m + 1 by omega]
          exact ⟨rfl, M, HM.out.1, g1, g2⟩
end Go.Proofs.Ytkglkpcpgdeneaa
namespace Go.Proofs.Ytkglkpcpgdeneaa
open Go.RowKit
set_option linter.unusedVariables false

set_option maxRecDepth 100000 in
set_option maxHeartbeats 16000000 in
theorem sort_merge_hi (g cap len : Nat) (hL : len ≤ 2305843009213693952) (w : World) (L : List It) (a m b : Nat)
    (ih : ∀ (w : World) (L : List It) (a' m b' : Nat), b' - a' < b - a → L.length = len → RowI w g cap L → a' < m → m < b' → b' ≤ len → Srt ltI L a' m → Srt ltI L m b' →
      Calls Try.prog 94 #[.slice (some ⟨g, 0, none⟩) len cap, .int .i64 a', .int .i64 m, .int .i64 b', cmpF] w fun e w' => e = .returned (.tuple #[]) ∧ ∃ M, RowS w g cap M w' ∧ Mv ltI a' b' L M ∧ Srt ltI M a' b')
    (hlen : L.length = len) (hr : RowI w g cap L) (ham : a < m) (hmb : m < b) (hb : b ≤ len) (hs1 : Srt ltI L a m) (hs2 : Srt ltI L m b) (h1 : ¬ m - a = 1) (h2 : ¬ b - m = 1) (hcc : m > (a + b) / 2) :
    Calls Try.prog 94 #[.slice (some ⟨g, 0, none⟩) len cap, .int .i64 a, .int .i64 m, .int .i64 b, cmpF] w fun e w' => e = .returned (.tuple #[]) ∧ ∃ M, RowS w g cap M w' ∧ Mv ltI a b L M ∧ Srt ltI M a b := by
  obtain ⟨x0, hx0⟩ : ∃ x, x = m - a := ⟨_, rfl⟩
  obtain ⟨y0, hy0⟩ : ∃ y, y = b - m := ⟨_, rfl⟩
  have e0 : IntKind.i64.wrap ((m : Int) - (a : Int)) = (x0 : Int) := by rw [IntWalk.i64_in _ (by omega)]; omega
  have q0 : ¬ (x0 : Int) = 1 := by omega
  have e1 : IntKind.i64.wrap ((b : Int) - (m : Int)) = (y0 : Int) := by rw [IntWalk.i64_in _ (by omega)]; omega
  have q1 : ¬ (y0 : Int) = 1 := by omega
  obtain ⟨t, ht⟩ : ∃ t, t = a + b := ⟨_, rfl⟩
  obtain ⟨mid, hmid⟩ : ∃ mid, mid = t / 2 := ⟨_, rfl⟩
  obtain ⟨n, hn⟩ : ∃ n, n = mid + m := ⟨_, rfl⟩
  obtain ⟨p, hp⟩ : ∃ p, p = n - 1 := ⟨_, rfl⟩
  have e2 : IntKind.i64.wrap ((a : Int) + (b : Int)) = (t : Int) := by rw [IntWalk.i64_in _ (by omega)]; omega
  have e3 : (t : Int) / 2 = (mid : Int) := by omega
  have q2 : (t : Int) ≤ 4611686018427387904 := by omega
  have e4 : IntKind.i64.wrap ((mid : Int) + (m : Int)) = (n : Int) := by rw [IntWalk.i64_in _ (by omega)]; omega
  have e5 : IntKind.i64.wrap ((n : Int) - 1) = (p : Int) := by rw [IntWalk.i64_in _ (by omega)]; omega
  obtain ⟨lo, hlo⟩ : ∃ lo, lo = if m > mid then n - b else a := ⟨_, rfl⟩
  obtain ⟨hi, hhi⟩ : ∃ hi, hi = if m > mid then mid else m := ⟨_, rfl⟩
  have e6 : m > mid → IntKind.i64.wrap ((n : Int) - (b : Int)) = (lo : Int) := fun hc => by rw [if_pos hc] at hlo; rw [IntWalk.i64_in _ (by omega)]; omega
  have HQ : Hid (p + 1 = n ∧ n = mid + m ∧ mid = (a + b) / 2 ∧ lo ≤ hi ∧ hi ≤ m ∧ a ≤ lo ∧ n ≤ b + lo ∧ m + hi ≤ n) := Lib.hid (by split at hlo <;> split at hhi <;> omega)
  have HMO : Hid (Mono (fun c => !ltAt ltI L (p - c) c) lo hi) := Lib.hid (mono_both swoI hs1 hs2 (by omega) HQ.out.2.2.2.2.2.1 HQ.out.2.2.2.2.1 (fun c c1 c2 => by have := HQ.out; omega) (by have := HQ.out; omega))
  have HIH := Lib.hid ih
  have HR := Lib.hid (And.intro hr (And.intro hs1 hs2))
  have HB := Lib.hid (And.intro ham (And.intro hmb (And.intro hb (And.intro hlen hL))))
  have HLH : Hid (hi ≤ len) := Lib.hid (by have := HQ.out; omega)
  have HLO := Lib.hid (And.intro hlo (And.intro hhi (And.intro hmid (And.intro ht hn))))
  have H6 := Lib.hid e6
  have HC : ((m : Int) > (mid : Int) ∧ lo = n - b ∧ hi = mid) ∨ (¬ (m : Int) > (mid : Int) ∧ lo = a ∧ hi = m) := by
    by_cases hc : m > mid
    · rw [if_pos hc] at hlo hhi; exact .inl ⟨by omega, hlo, hhi⟩
    · rw [if_neg hc] at hlo hhi; exact .inr ⟨by omega, hlo, hhi⟩
  have HCH := Lib.hid HC
  have hmm : mid = (a + b) / 2 := HQ.out.2.2.1
  rw [← hmm] at hcc
  clear ih hr hs1 hs2 ham hmb hb hlen hx0 hy0 ht hmid hn hp hlo hhi e6 h1 h2 HC hmm
  have hc2 : (mid : Int) < (m : Int) := by omega
  have e7 := H6.out (by omega)
  clear hcc
  have HLL : Hid (lo = n - b ∧ hi = mid) := Lib.hid (by rcases HCH.out with ⟨hc, h⟩ | ⟨hc, h⟩; exact h; exact absurd hc2 hc)
  go_enter Try.func94, Try.ntmps94
  go_wp2_with fail
  go_loopw [20, 21] (fun v20 v21 wr => ∃ i j : Nat, v20 = .int .i64 i ∧ v21 = .int .i64 j ∧ Hid (BS (fun c => !ltAt ltI L (p - c) c) lo hi i j) ∧ Hid (RowS w g cap L wr)) (fun v20 v21 _ => (intOf v21).toNat - (intOf v20).toNat)
  case atStart => exact ⟨lo, hi, (by first | rfl | rw [HLL.out.1]), (by first | rfl | rw [HLL.out.2]), Lib.hid (BS.start (by have := HQ.out; omega)), Lib.hid (RowS.start HR.out.1)⟩
  case round =>
    obtain ⟨i, j, rfl, rfl, HBS, HS⟩ := hrel
    by_cases hlt : i < j
    · obtain ⟨s, hs⟩ : ∃ s, s = i + j := ⟨_, rfl⟩
      obtain ⟨h, hh⟩ : ∃ h, h = s / 2 := ⟨_, rfl⟩
      have e2 : IntKind.i64.wrap ((i : Int) + (j : Int)) = (s : Int) := by rw [IntWalk.i64_in _ (by have h1 := HB.out; have h2 := HBS.out.hi; have h3 := HLH.out; omega)]; omega
      have e3 : (s : Int) / 2 = (h : Int) := by omega
      have q2 : (i : Int) < (j : Int) := by omega
      have q3 : (s : Int) ≤ 4611686018427387904 := by have h1 := HB.out; have h2 := HBS.out.hi; have h3 := HLH.out; omega
      have hih : i ≤ h ∧ h < j := by omega
      have hhb : h < len := by have h1 := HB.out; have h2 := HBS.out.hi; have h3 := HLH.out; omega
      have q4 : (h : Int) < (len : Int) := by omega
      obtain ⟨z, hz⟩ : ∃ z, z = p - h := ⟨_, rfl⟩
      have e8 : IntKind.i64.wrap ((p : Int) - (h : Int)) = (z : Int) := by rw [IntWalk.i64_in _ (by have h1 := HB.out; have h2 := HBS.out.hi; have h4 := HQ.out; omega)]; have h2 := HBS.out.hi; have h4 := HQ.out; have h3 := HBS.out.lo; omega
      have hzl : z < len := by have h1 := HB.out; have h2 := HBS.out.hi; have h3 := HBS.out.lo; have h4 := HQ.out; omega
      have q5 : (z : Int) < (len : Int) := by omega
      obtain ⟨x, hx⟩ : ∃ x, L[z]? = some x := some_at (by have h1 := HB.out; omega)
      obtain ⟨y, hy⟩ : ∃ y, L[h]? = some y := some_at (by have h1 := HB.out; omega)
      obtain ⟨r, hr⟩ : ∃ r, r = cmp2 x.k x.s y.k y.s := ⟨_, rfl⟩
      have HXY := Lib.hid (And.intro hx (And.intro hy hr))
      have HZ := Lib.hid hz
      clear hx hy hr hz hzl
      obtain ⟨h1, hh1⟩ : ∃ h1, h1 = h + 1 := ⟨_, rfl⟩
      have e4 : IntKind.i64.wrap ((h : Int) + 1) = (h1 : Int) := by rw [IntWalk.i64_in _ (by have h3 := HB.out; omega)]; omega
      have HSS := Lib.hid (And.intro hih hh1)
      clear hs hh hlt hih hhb hh1
      go_wp2_with fail
      refine wp_region_G [] Anew (RowS w g cap L) (by kernel_rfl) (by kernel_rfl) (by kernel_rfl) Anew.refl (RowS.stays _ _ _ _) HS.out.drew ?_
      repeat (first
        | (apply wpG_skip
           · rfl
           simp only [Act.put, List.setIfInBounds_toArray, List.set_cons_zero, List.set_cons_succ])
        | (apply wpG_val
           · rfl
           · intro u hu
             obtain ⟨x0, x1, x2⟩ := hu.at z x HXY.out.1
             obtain ⟨y0, y1, y2⟩ := hu.at h y HXY.out.2.1
             clear hu
             (go_simp <;> with_reducible rfl)
           simp only [Act.put, List.setIfInBounds_toArray, List.set_cons_zero, List.set_cons_succ])
        | (apply wpG_call
           · rfl
           · intro u
             go_simp
             exact ⟨rfl, rfl⟩
           · intro u hu
             exact cmp_call x y r HXY.out.2.2 hu
           simp only [Act.put, List.setIfInBounds_toArray, List.set_cons_zero, List.set_cons_succ]))
      refine wpG_nil ?_
      intro w3 hs3
      have HS3 := Lib.hid hs3
      clear hs3
      cases hneg : decide (r < 0) with
      | true =>
        try simp only [Bool.not_true]
        go_wp2_with fail
        go_roundw
        case rel => exact ⟨i, h, rfl, rfl, Lib.hid (by
          have h2 := HSS.out
          have h3 : ltAt ltI L (p - h) h = true := by rw [← HZ.out, ltAt_eq HXY.out.1 HXY.out.2.1]; exact (by unfold ltI lt2; rw [← HXY.out.2.2]; simpa using hneg)
          exact HBS.out.down HMO.out h2.1.1 h2.1.2 (by show (!ltAt ltI L (p - h) h) = false; rw [h3]; rfl)), HS3⟩
        case measure => have h2 := HSS.out; simp [intOf]; omega
      | false =>
        try simp only [Bool.not_false]
        go_wp2_with fail
        go_roundw
        case rel => exact ⟨h1, j, rfl, rfl, Lib.hid (by
          have h2 := HSS.out
          have h3 : ltAt ltI L (p - h) h = false := by rw [← HZ.out, ltAt_eq HXY.out.1 HXY.out.2.1]; exact (by unfold ltI lt2; rw [← HXY.out.2.2]; simpa using hneg)
          rw [h2.2]
          exact HBS.out.up HMO.out h2.1.1 h2.1.2 (by show (!ltAt ltI L (p - h) h) = true; rw [h3]; rfl)), HS3⟩
        case measure => have h2 := HSS.out; simp [intOf]; omega
    · have hij : j = i := by have := HBS.out.le; omega
      subst hij
      obtain ⟨e, he⟩ : ∃ e, e = n - j := ⟨_, rfl⟩
      have e9 : IntKind.i64.wrap ((n : Int) - (j : Int)) = (e : Int) := by rw [IntWalk.i64_in _ (by have h1 := HB.out; have h2 := HQ.out; have h3 := HBS.out.hi; omega)]; have h2 := HQ.out; have h3 := HBS.out.hi; omega
      have HE := Lib.hid he
      clear hlt he
      obtain ⟨bb, hbb⟩ : ∃ bb, bb = (decide (j < m) && decide (m < e)) := ⟨_, rfl⟩
      have HBB := Lib.hid hbb
      clear hbb
      go_upto_region 39 with fail
      clear e0 e1 e2 e3 e4 e5 hc2 q0 q1 q2
      go_cut [185] from 178 to 184 (fun c wx => c = .bool bb ∧ wx = wr)
      case first =>
        by_cases c0 : j < m
        · have c1 : (j : Int) < (m : Int) := by omega
          have HC0 := Lib.hid c0
          clear c0
          go_wp2_with fail
          go_meet
          case rel => exact ⟨by rw [HBB.out, decide_eq_true HC0.out]; rfl, rfl⟩
        · have c1 : ¬ (j : Int) < (m : Int) := by omega
          have HC0 := Lib.hid c0
          clear c0
          go_wp2_with fail
          go_meet
          case rel => exact ⟨by rw [HBB.out, decide_eq_false HC0.out]; rfl, rfl⟩
      case rest =>
        obtain ⟨rfl, rfl⟩ := hcut
        go_upto_if 185 with fail
        go_cut [] from 186 to 191 (fun wx => ∃ M, Hid (RowS w g cap M wx ∧ RotOf L M j m e))
        case first =>
          cases bb with
          | true =>
            have hjm : j < m ∧ m < e := by have h1 := HBB.out; simp at h1; omega
            go_wp2_with fail
            refine (sort_rotate _ g cap len L HB.out.2.2.2.1 j m e cmpF HS.out.1 hjm.1 hjm.2 (by have h1 := HB.out; have h2 := HQ.out; have h3 := HBS.out.lo; have h4 := HE.out; omega) hL).mono ?_
            rintro e' w5 ⟨rfl, M, g1, g2, _, g3⟩
            have HG := Lib.hid (And.intro g1 (And.intro g2 g3))
            clear g1 g2 g3
            go_wp2_with fail
            go_meet
            case rel => exact ⟨M, Lib.hid ⟨HS.out.step HG.out.1 HG.out.2.2, HG.out.2.1⟩⟩
          | false =>
            have hjm : j < m → ¬ m < e := by have h1 := HBB.out; simp at h1; omega
            have HJM := Lib.hid hjm
            clear hjm
            go_wp2_with fail
            go_meet
            case rel => exact ⟨L, Lib.hid ⟨HS.out, by
              have h1 := HJM.out
              have h2 := HQ.out
              have h3 := HBS.out.hi
              have h4 := HE.out
              by_cases h5 : j < m
              · rw [show e = m by have := h1 h5; omega]; exact rot_id L j m
              · rw [show j = m by omega]; exact rot_id' L m e (by omega)⟩⟩
        case rest =>
          obtain ⟨M, HM⟩ := hcut
          obtain ⟨r1, r2, r3, r4, r5, r6, r7, r8, r9, r10, r11, r12⟩ := merge_rot swoI (L := L) (M := M) (a := a) (m := m) (b := b) (mid := mid) (s := j) (e := e) (lo := lo) (hi := hi) HR.out.2.1 HR.out.2.2 (by have h1 := HB.out; omega) HB.out.1 HB.out.2.1 HQ.out.2.2.1 (by have h2 := HQ.out; have h3 := HBS.out.hi; have h4 := HE.out; omega)
            (by have h5 := HLO.out; rw [h5.1, h5.2.2.2.2]) HLO.out.2.1 HBS.out.lo HBS.out.hi
            (fun c x y c1 c2 c3 c4 => by
              have h6 := HBS.out.yes c c1 c2
              rw [show mid + m - 1 - c = p - c by have h2 := HQ.out; omega] at c4
              have h7 : (!ltAt ltI L (p - c) c) = true := h6
              rw [ltAt_eq c4 c3] at h7
              simpa using h7)
            (fun c x y c1 c2 c3 c4 => by
              have h6 := HBS.out.no c c1 c2
              rw [show mid + m - 1 - c = p - c by have h2 := HQ.out; omega] at c4
              have h7 : (!ltAt ltI L (p - c) c) = false := h6
              rw [ltAt_eq c4 c3] at h7
              simpa using h7) HM.out.2
          have HRR := Lib.hid (And.intro r1 (And.intro r4 (And.intro r5 r6)))
          have HS1 := Lib.hid (And.intro r7 (And.intro r8 (And.intro r9 (And.intro r10 (And.intro r11 r12)))))
          clear r1 r2 r3 r4 r5 r6 r7 r8 r9 r10 r11 r12
          have HML : Hid (M.length = len) := Lib.hid (by have := HS1.out.1.len; have h1 := HB.out; omega)
          obtain ⟨b2, hb2⟩ : ∃ b2, b2 = (decide (a < j) && decide (j < mid)) := ⟨_, rfl⟩
          have HB2 := Lib.hid hb2
          clear hb2
          go_upto_region 41 with fail
          go_cut [199] from 192 to 198 (fun c wx => c = .bool b2 ∧ wx = wc)
          case first =>
            by_cases c0 : a < j
            · have c1 : (a : Int) < (j : Int) := by omega
              have HC0 := Lib.hid c0
              clear c0
              go_wp2_with fail
              go_meet
              case rel => exact ⟨by rw [HB2.out, decide_eq_true HC0.out]; rfl, rfl⟩
            · have c1 : ¬ (a : Int) < (j : Int) := by omega
              have HC0 := Lib.hid c0
              clear c0
              go_wp2_with fail
              go_meet
              case rel => exact ⟨by rw [HB2.out, decide_eq_false HC0.out]; rfl, rfl⟩
          case rest =>
            obtain ⟨rfl, rfl⟩ := hcut
            go_upto_if 199 with fail
            go_cut [] from 200 to 205 (fun wx => ∃ M1, Hid (RowS w g cap M1 wx ∧ Mv ltI a mid M M1 ∧ Srt ltI M1 a mid))
            case first =>
              cases b2 with
              | true =>
                have hjm : a < j ∧ j < mid := by have h1 := HB2.out; simp at h1; omega
                go_wp2_with fail
                refine (HIH.out _ M a j mid (by have h1 := HB.out; have h2 := HQ.out; omega) HML.out HM.out.1.1 hjm.1 hjm.2 (by have h1 := HB.out; have h2 := HRR.out; omega) HS1.out.2.1 HS1.out.2.2.1).mono ?_
                rintro e' w5 ⟨rfl, M1, g1, g2, g3⟩
                have HG := Lib.hid (And.intro g1 (And.intro g2 g3))
                clear g1 g2 g3
                go_wp2_with fail
                go_meet
                case rel => exact ⟨M1, Lib.hid ⟨HM.out.1.step2 HG.out.1, HG.out.2.1, HG.out.2.2⟩⟩
              | false =>
                have hjm : a < j → ¬ j < mid := by have h1 := HB2.out; simp at h1; omega
                have HJM := Lib.hid hjm
                clear hjm
                go_wp2_with fail
                go_meet
                case rel => exact ⟨M, Lib.hid ⟨HM.out.1, Mv.refl _ _ _, by
                  have h1 := HJM.out
                  have h2 := HRR.out
                  by_cases h5 : a < j
                  · rw [show mid = j by have := h1 h5; omega]; exact HS1.out.2.1
                  · rw [show a = j by omega]; exact HS1.out.2.2.1⟩⟩
            case rest =>
              obtain ⟨M1, HM1⟩ := hcut
              have HL1 : Hid (M1.length = len) := Lib.hid (by have := HM1.out.2.1.len; have h1 := HML.out; omega)
              have HS2 : Hid (Srt ltI M1 mid e ∧ Srt ltI M1 e b ∧ Crs ltI M1 a mid b) := Lib.hid ⟨HS1.out.2.2.2.1.of_eq (fun i h1 _ => HM1.out.2.1.out i (.inr h1)), HS1.out.2.2.2.2.1.of_eq (fun i h1 _ => HM1.out.2.1.out i (.inr (by have := HRR.out; omega))), HS1.out.2.2.2.2.2.left HM1.out.2.1⟩
              have HF : Hid (∀ M2, Mv ltI mid b M1 M2 → Srt ltI M2 mid b → Mv ltI a b L M2 ∧ Srt ltI M2 a b) := Lib.hid (fun M2 v1 v2 => by
                have h2 := HRR.out
                refine ⟨(HS1.out.1.trans (HM1.out.2.1.wide (Nat.le_refl _) (by omega))).trans (v1.wide (by omega) (Nat.le_refl _)), ?_⟩
                exact (HS2.out.2.2.right v1).srt (HM1.out.2.2.of_eq (fun i _ h1 => v1.out i (.inl h1))) v2)
              obtain ⟨b3, hb3⟩ : ∃ b3, b3 = (decide (mid < e) && decide (e < b)) := ⟨_, rfl⟩
              have HB3 := Lib.hid hb3
              clear hb3
              go_upto_region 43 with fail
              go_cut [213] from 206 to 212 (fun c wx => c = .bool b3 ∧ wx = wc)
              case first =>
                by_cases c0 : mid < e
                · have c1 : (mid : Int) < (e : Int) := by omega
                  have HC0 := Lib.hid c0
                  clear c0
                  go_wp2_with fail
                  go_meet
                  case rel => exact ⟨by rw [HB3.out, decide_eq_true HC0.out]; rfl, rfl⟩
                · have c1 : ¬ (mid : Int) < (e : Int) := by omega
                  have HC0 := Lib.hid c0
                  clear c0
                  go_wp2_with fail
                  go_meet
                  case rel => exact ⟨by rw [HB3.out, decide_eq_false HC0.out]; rfl, rfl⟩
              case rest =>
                obtain ⟨rfl, rfl⟩ := hcut
                cases b3 with
                | true =>
                  have hjm : mid < e ∧ e < b := by have h1 := HB3.out; simp at h1; omega
                  go_wp2_with fail
                  refine (HIH.out _ M1 mid e b (by have h1 := HB.out; have h2 := HQ.out; omega) HL1.out HM1.out.1.1 hjm.1 hjm.2 HB.out.2.2.1 HS2.out.1 HS2.out.2.1).mono ?_
                  rintro e' w5 ⟨rfl, M2, g1, g2, g3⟩
                  have HG := Lib.hid (And.intro g1 (And.intro g2 g3))
                  clear g1 g2 g3
                  go_wp2_with fail
                  go_end0
                  exact ⟨rfl, M2, HM1.out.1.step2 HG.out.1, HF.out M2 HG.out.2.1 HG.out.2.2⟩
                | false =>
                  have hjm : mid < e → ¬ e < b := by have h1 := HB3.out; simp at h1; omega
                  have HJM := Lib.hid hjm
                  clear hjm
                  go_wp2_with fail
                  go_end0
                  exact ⟨rfl, M1, HM1.out.1, HF.out M1 (Mv.refl _ _ _) (by
                    have h1 := HJM.out
                    have h2 := HRR.out
                    by_cases h5 : mid < e
                    · rw [show b = e by have := h1 h5; omega]; exact HS2.out.1
                    · rw [show mid = e by omega]; exact HS2.out.2.1)⟩
set_option maxRecDepth 100000 in
set_option maxHeartbeats 16000000 in
theorem sort_merge_lo (g cap len : Nat) (hL : len ≤ 2305843009213693952) (w : World) (L : List It) (a m b : Nat)
    (ih : ∀ (w : World) (L : List It) (a' m b' : Nat), b' - a' < b - a → L.length = len → RowI w g cap L → a' < m → m < b' → b' ≤ len → Srt ltI L a' m → Srt ltI L m b' →
      Calls Try.prog 94 #[.slice (some ⟨g, 0, none⟩) len cap, .int .i64 a', .int .i64 m, .int .i64 b', cmpF] w fun e w' => e = .returned (.tuple #[]) ∧ ∃ M, RowS w g cap M w' ∧ Mv ltI a' b' L M ∧ Srt ltI M a' b')
    (hlen : L.length = len) (hr : RowI w g cap L) (ham : a < m) (hmb : m < b) (hb : b ≤ len) (hs1 : Srt ltI L a m) (hs2 : Srt ltI L m b) (h1 : ¬ m - a = 1) (h2 : ¬ b - m = 1) (hcc : ¬ m > (a + b) / 2) :
    Calls Try.prog 94 #[.slice (some ⟨g, 0, none⟩) len cap, .int .i64 a, .int .i64 m, .int .i64 b, cmpF] w fun e w' => e = .returned (.tuple #[]) ∧ ∃ M, RowS w g cap M w' ∧ Mv ltI a b L M ∧ Srt ltI M a b := by
  obtain ⟨x0, hx0⟩ : ∃ x, x = m - a := ⟨_, rfl⟩
  obtain ⟨y0, hy0⟩ : ∃ y, y = b - m := ⟨_, rfl⟩
  have e0 : IntKind.i64.wrap ((m : Int) - (a : Int)) = (x0 : Int) := by rw [IntWalk.i64_in _ (by omega)]; omega
  have q0 : ¬ (x0 : Int) = 1 := by omega
  have e1 : IntKind.i64.wrap ((b : Int) - (m : Int)) = (y0 : Int) := by rw [IntWalk.i64_in _ (by omega)]; omega
  have q1 : ¬ (y0 : Int) = 1 := by omega
  obtain ⟨t, ht⟩ : ∃ t, t = a + b := ⟨_, rfl⟩
  obtain ⟨mid, hmid⟩ : ∃ mid, mid = t / 2 := ⟨_, rfl⟩
  obtain ⟨n, hn⟩ : ∃ n, n = mid + m := ⟨_, rfl⟩
  obtain ⟨p, hp⟩ : ∃ p, p = n - 1 := ⟨_, rfl⟩
  have e2 : IntKind.i64.wrap ((a : Int) + (b : Int)) = (t : Int) := by rw [IntWalk.i64_in _ (by omega)]; omega
  have e3 : (t : Int) / 2 = (mid : Int) := by omega
  have q2 : (t : Int) ≤ 4611686018427387904 := by omega
  have e4 : IntKind.i64.wrap ((mid : Int) + (m : Int)) = (n : Int) := by rw [IntWalk.i64_in _ (by omega)]; omega
  have e5 : IntKind.i64.wrap ((n : Int) - 1) = (p : Int) := by rw [IntWalk.i64_in _ (by omega)]; omega
  obtain ⟨lo, hlo⟩ : ∃ lo, lo = if m > mid then n - b else a := ⟨_, rfl⟩
  obtain ⟨hi, hhi⟩ : ∃ hi, hi = if m > mid then mid else m := ⟨_, rfl⟩
  have e6 : m > mid → IntKind.i64.wrap ((n : Int) - (b : Int)) = (lo : Int) := fun hc => by rw [if_pos hc] at hlo; rw [IntWalk.i64_in _ (by omega)]; omega
  have HQ : Hid (p + 1 = n ∧ n = mid + m ∧ mid = (a + b) / 2 ∧ lo ≤ hi ∧ hi ≤ m ∧ a ≤ lo ∧ n ≤ b + lo ∧ m + hi ≤ n) := Lib.hid (by split at hlo <;> split at hhi <;> omega)
  have HMO : Hid (Mono (fun c => !ltAt ltI L (p - c) c) lo hi) := Lib.hid (mono_both swoI hs1 hs2 (by omega) HQ.out.2.2.2.2.2.1 HQ.out.2.2.2.2.1 (fun c c1 c2 => by have := HQ.out; omega) (by have := HQ.out; omega))
  have HIH := Lib.hid ih
  have HR := Lib.hid (And.intro hr (And.intro hs1 hs2))
  have HB := Lib.hid (And.intro ham (And.intro hmb (And.intro hb (And.intro hlen hL))))
  have HLH : Hid (hi ≤ len) := Lib.hid (by have := HQ.out; omega)
  have HLO := Lib.hid (And.intro hlo (And.intro hhi (And.intro hmid (And.intro ht hn))))
  have H6 := Lib.hid e6
  have HC : ((m : Int) > (mid : Int) ∧ lo = n - b ∧ hi = mid) ∨ (¬ (m : Int) > (mid : Int) ∧ lo = a ∧ hi = m) := by
    by_cases hc : m > mid
    · rw [if_pos hc] at hlo hhi; exact .inl ⟨by omega, hlo, hhi⟩
    · rw [if_neg hc] at hlo hhi; exact .inr ⟨by omega, hlo, hhi⟩
  have HCH := Lib.hid HC
  have hmm : mid = (a + b) / 2 := HQ.out.2.2.1
  rw [← hmm] at hcc
  clear ih hr hs1 hs2 ham hmb hb hlen hx0 hy0 ht hmid hn hp hlo hhi e6 h1 h2 HC hmm
  have hc2 : ¬ (mid : Int) < (m : Int) := by omega
  clear hcc
  have HLL : Hid (lo = a ∧ hi = m) := Lib.hid (by rcases HCH.out with ⟨hc, h⟩ | ⟨hc, h⟩; exact absurd hc hc2; exact h)
  go_enter Try.func94, Try.ntmps94
  go_wp2_with fail
  go_loopw [20, 21] (fun v20 v21 wr => ∃ i j : Nat, v20 = .int .i64 i ∧ v21 = .int .i64 j ∧ Hid (BS (fun c => !ltAt ltI L (p - c) c) lo hi i j) ∧ Hid (RowS w g cap L wr)) (fun v20 v21 _ => (intOf v21).toNat - (intOf v20).toNat)
  case atStart => exact ⟨lo, hi, (by first | rfl | rw [HLL.out.1]), (by first | rfl | rw [HLL.out.2]), Lib.hid (BS.start (by have := HQ.out; omega)), Lib.hid (RowS.start HR.out.1)⟩
  case round =>
    obtain ⟨i, j, rfl, rfl, HBS, HS⟩ := hrel
    by_cases hlt : i < j
    · obtain ⟨s, hs⟩ : ∃ s, s = i + j := ⟨_, rfl⟩
      obtain ⟨h, hh⟩ : ∃ h, h = s / 2 := ⟨_, rfl⟩
      have e2 : IntKind.i64.wrap ((i : Int) + (j : Int)) = (s : Int) := by rw [IntWalk.i64_in _ (by have h1 := HB.out; have h2 := HBS.out.hi; have h3 := HLH.out; omega)]; omega
      have e3 : (s : Int) / 2 = (h : Int) := by omega
      have q2 : (i : Int) < (j : Int) := by omega
      have q3 : (s : Int) ≤ 4611686018427387904 := by have h1 := HB.out; have h2 := HBS.out.hi; have h3 := HLH.out; omega
      have hih : i ≤ h ∧ h < j := by omega
      have hhb : h < len := by have h1 := HB.out; have h2 := HBS.out.hi; have h3 := HLH.out; omega
      have q4 : (h : Int) < (len : Int) := by omega
      obtain ⟨z, hz⟩ : ∃ z, z = p - h := ⟨_, rfl⟩
      have e8 : IntKind.i64.wrap ((p : Int) - (h : Int)) = (z : Int) := by rw [IntWalk.i64_in _ (by have h1 := HB.out; have h2 := HBS.out.hi; have h4 := HQ.out; omega)]; have h2 := HBS.out.hi; have h4 := HQ.out; have h3 := HBS.out.lo; omega
      have hzl : z < len := by have h1 := HB.out; have h2 := HBS.out.hi; have h3 := HBS.out.lo; have h4 := HQ.out; omega
      have q5 : (z : Int) < (len : Int) := by omega
      obtain ⟨x, hx⟩ : ∃ x, L[z]? = some x := some_at (by have h1 := HB.out; omega)
      obtain ⟨y, hy⟩ : ∃ y, L[h]? = some y := some_at (by have h1 := HB.out; omega)
      obtain ⟨r, hr⟩ : ∃ r, r = cmp2 x.k x.s y.k y.s := ⟨_, rfl⟩
      have HXY := Lib.hid (And.intro hx (And.intro hy hr))
      have HZ := Lib.hid hz
      clear hx hy hr hz hzl
      obtain ⟨h1, hh1⟩ : ∃ h1, h1 = h + 1 := ⟨_, rfl⟩
      have e4 : IntKind.i64.wrap ((h : Int) + 1) = (h1 : Int) := by rw [IntWalk.i64_in _ (by have h3 := HB.out; omega)]; omega
      have HSS := Lib.hid (And.intro hih hh1)
      clear hs hh hlt hih hhb hh1
      go_wp2_with fail
      refine wp_region_G [] Anew (RowS w g cap L) (by kernel_rfl) (by kernel_rfl) (by kernel_rfl) Anew.refl (RowS.stays _ _ _ _) HS.out.drew ?_
      repeat (first
        | (apply wpG_skip
           · rfl
           simp only [Act.put, List.setIfInBounds_toArray, List.set_cons_zero, List.set_cons_succ])
        | (apply wpG_val
           · rfl
           · intro u hu
             obtain ⟨x0, x1, x2⟩ := hu.at z x HXY.out.1
             obtain ⟨y0, y1, y2⟩ := hu.at h y HXY.out.2.1
             clear hu
             (go_simp <;> with_reducible rfl)
           simp only [Act.put, List.setIfInBounds_toArray, List.set_cons_zero, List.set_cons_succ])
        | (apply wpG_call
           · rfl
           · intro u
             go_simp
             exact ⟨rfl, rfl⟩
           · intro u hu
             exact cmp_call x y r HXY.out.2.2 hu
           simp only [Act.put, List.setIfInBounds_toArray, List.set_cons_zero, List.set_cons_succ]))
      refine wpG_nil ?_
      intro w3 hs3
      have HS3 := Lib.hid hs3
      clear hs3
      cases hneg : decide (r < 0) with
      | true =>
        try simp only [Bool.not_true]
        go_wp2_with fail
        go_roundw
        case rel => exact ⟨i, h, rfl, rfl, Lib.hid (by
          have h2 := HSS.out
          have h3 : ltAt ltI L (p - h) h = true := by rw [← HZ.out, ltAt_eq HXY.out.1 HXY.out.2.1]; exact (by unfold ltI lt2; rw [← HXY.out.2.2]; simpa using hneg)
          exact HBS.out.down HMO.out h2.1.1 h2.1.2 (by show (!ltAt ltI L (p - h) h) = false; rw [h3]; rfl)), HS3⟩
        case measure => have h2 := HSS.out; simp [intOf]; omega
      | false =>
        try simp only [Bool.not_false]
        go_wp2_with fail
        go_roundw
        case rel => exact ⟨h1, j, rfl, rfl, Lib.hid (by
          have h2 := HSS.out
          have h3 : ltAt ltI L (p - h) h = false := by rw [← HZ.out, ltAt_eq HXY.out.1 HXY.out.2.1]; exact (by unfold ltI lt2; rw [← HXY.out.2.2]; simpa using hneg)
          rw [h2.2]
          exact HBS.out.up HMO.out h2.1.1 h2.1.2 (by show (!ltAt ltI L (p - h) h) = true; rw [h3]; rfl)), HS3⟩
        case measure => have h2 := HSS.out; simp [intOf]; omega
    · have hij : j = i := by have := HBS.out.le; omega
      subst hij
      obtain ⟨e, he⟩ : ∃ e, e = n - j := ⟨_, rfl⟩
      have e9 : IntKind.i64.wrap ((n : Int) - (j : Int)) = (e : Int) := by rw [IntWalk.i64_in _ (by have h1 := HB.out; have h2 := HQ.out; have h3 := HBS.out.hi; omega)]; have h2 := HQ.out; have h3 := HBS.out.hi; omega
      have HE := Lib.hid he
      clear hlt he
      obtain ⟨bb, hbb⟩ : ∃ bb, bb = (decide (j < m) && decide (m < e)) := ⟨_, rfl⟩
      have HBB := Lib.hid hbb
      clear hbb
      go_upto_region 39 with fail
      clear e0 e1 e2 e3 e4 e5 hc2 q0 q1 q2
      go_cut [185] from 178 to 184 (fun c wx => c = .bool bb ∧ wx = wr)
      case first =>
        by_cases c0 : j < m
        · have c1 : (j : Int) < (m : Int) := by omega
          have HC0 := Lib.hid c0
          clear c0
          go_wp2_with fail
          go_meet
          case rel => exact ⟨by rw [HBB.out, decide_eq_true HC0.out]; rfl, rfl⟩
        · have c1 : ¬ (j : Int) < (m : Int) := by omega
          have HC0 := Lib.hid c0
          clear c0
          go_wp2_with fail
          go_meet
          case rel => exact ⟨by rw [HBB.out, decide_eq_false HC0.out]; rfl, rfl⟩
      case rest =>
        obtain ⟨rfl, rfl⟩ := hcut
        go_upto_if 185 with fail
        go_cut [] from 186 to 191 (fun wx => ∃ M, Hid (RowS w g cap M wx ∧ RotOf L M j m e))
        case first =>
          cases bb with
          | true =>
            have hjm : j < m ∧ m < e := by have h1 := HBB.out; simp at h1; omega
            go_wp2_with fail
            refine (sort_rotate _ g cap len L HB.out.2.2.2.1 j m e cmpF HS.out.1 hjm.1 hjm.2 (by have h1 := HB.out; have h2 := HQ.out; have h3 := HBS.out.lo; have h4 := HE.out; omega) hL).mono ?_
            rintro e' w5 ⟨rfl, M, g1, g2, _, g3⟩
            have HG := Lib.hid (And.intro g1 (And.intro g2 g3))
            clear g1 g2 g3
            go_wp2_with fail
            go_meet
            case rel => exact ⟨M, Lib.hid ⟨HS.out.step HG.out.1 HG.out.2.2, HG.out.2.1⟩⟩
          | false =>
            have hjm : j < m → ¬ m < e := by have h1 := HBB.out; simp at h1; omega
            have HJM := Lib.hid hjm
            clear hjm
            go_wp2_with fail
            go_meet
            case rel => exact ⟨L, Lib.hid ⟨HS.out, by
              have h1 := HJM.out
              have h2 := HQ.out
              have h3 := HBS.out.hi
              have h4 := HE.out
              by_cases h5 : j < m
              · rw [show e = m by have := h1 h5; omega]; exact rot_id L j m
              · rw [show j = m by omega]; exact rot_id' L m e (by omega)⟩⟩
        case rest =>
          obtain ⟨M, HM⟩ := hcut
          obtain ⟨r1, r2, r3, r4, r5, r6, r7, r8, r9, r10, r11, r12⟩ := merge_rot swoI (L := L) (M := M) (a := a) (m := m) (b := b) (mid := mid) (s := j) (e := e) (lo := lo) (hi := hi) HR.out.2.1 HR.out.2.2 (by have h1 := HB.out; omega) HB.out.1 HB.out.2.1 HQ.out.2.2.1 (by have h2 := HQ.out; have h3 := HBS.out.hi; have h4 := HE.out; omega)
            (by have h5 := HLO.out; rw [h5.1, h5.2.2.2.2]) HLO.out.2.1 HBS.out.lo HBS.out.hi
            (fun c x y c1 c2 c3 c4 => by
              have h6 := HBS.out.yes c c1 c2
              rw [show mid + m - 1 - c = p - c by have h2 := HQ.out; omega] at c4
              have h7 : (!ltAt ltI L (p - c) c) = true := h6
              rw [ltAt_eq c4 c3] at h7
              simpa using h7)
            (fun c x y c1 c2 c3 c4 => by
              have h6 := HBS.out.no c c1 c2
              rw [show mid + m - 1 - c = p - c by have h2 := HQ.out; omega] at c4
              have h7 : (!ltAt ltI L (p - c) c) = false := h6
              rw [ltAt_eq c4 c3] at h7
              simpa using h7) HM.out.2
          have HRR := Lib.hid (And.intro r1 (And.intro r4 (And.intro r5 r6)))
          have HS1 := Lib.hid (And.intro r7 (And.intro r8 (And.intro r9 (And.intro r10 (And.intro r11 r12)))))
          clear r1 r2 r3 r4 r5 r6 r7 r8 r9 r10 r11 r12
          have HML : Hid (M.length = len) := Lib.hid (by have := HS1.out.1.len; have h1 := HB.out; omega)
          obtain ⟨b2, hb2⟩ : ∃ b2, b2 = (decide (a < j) && decide (j < mid)) := ⟨_, rfl⟩
          have HB2 := Lib.hid hb2
          clear hb2
          go_upto_region 41 with fail
          go_cut [199] from 192 to 198 (fun c wx => c = .bool b2 ∧ wx = wc)
          case first =>
            by_cases c0 : a < j
            · have c1 : (a : Int) < (j : Int) := by omega
              have HC0 := Lib.hid c0
              clear c0
              go_wp2_with fail
              go_meet
              case rel => exact ⟨by rw [HB2.out, decide_eq_true HC0.out]; rfl, rfl⟩
            · have c1 : ¬ (a : Int) < (j : Int) := by omega
              have HC0 := Lib.hid c0
              clear c0
              go_wp2_with fail
              go_meet
              case rel => exact ⟨by rw [HB2.out, decide_eq_false HC0.out]; rfl, rfl⟩
          case rest =>
            obtain ⟨rfl, rfl⟩ := hcut
            go_upto_if 199 with fail
            go_cut [] from 200 to 205 (fun wx => ∃ M1, Hid (RowS w g cap M1 wx ∧ Mv ltI a mid M M1 ∧ Srt ltI M1 a mid))
            case first =>
              cases b2 with
              | true =>
                have hjm : a < j ∧ j < mid := by have h1 := HB2.out; simp at h1; omega
                go_wp2_with fail
                refine (HIH.out _ M a j mid (by have h1 := HB.out; have h2 := HQ.out; omega) HML.out HM.out.1.1 hjm.1 hjm.2 (by have h1 := HB.out; have h2 := HRR.out; omega) HS1.out.2.1 HS1.out.2.2.1).mono ?_
                rintro e' w5 ⟨rfl, M1, g1, g2, g3⟩
                have HG := Lib.hid (And.intro g1 (And.intro g2 g3))
                clear g1 g2 g3
                go_wp2_with fail
                go_meet
                case rel => exact ⟨M1, Lib.hid ⟨HM.out.1.step2 HG.out.1, HG.out.2.1, HG.out.2.2⟩⟩
              | false =>
                have hjm : a < j → ¬ j < mid := by have h1 := HB2.out; simp at h1; omega
                have HJM := Lib.hid hjm
                clear hjm
                go_wp2_with fail
                go_meet
                case rel => exact ⟨M, Lib.hid ⟨HM.out.1, Mv.refl _ _ _, by
                  have h1 := HJM.out
                  have h2 := HRR.out
                  by_cases h5 : a < j
                  · rw [show mid = j by have := h1 h5; omega]; exact HS1.out.2.1
                  · rw [show a = j by omega]; exact HS1.out.2.2.1⟩⟩
            case rest =>
              obtain ⟨M1, HM1⟩ := hcut
              have HL1 : Hid (M1.length = len) := Lib.hid (by have := HM1.out.2.1.len; have h1 := HML.out; omega)
              have HS2 : Hid (Srt ltI M1 mid e ∧ Srt ltI M1 e b ∧ Crs ltI M1 a mid b) := Lib.hid ⟨HS1.out.2.2.2.1.of_eq (fun i h1 _ => HM1.out.2.1.out i (.inr h1)), HS1.out.2.2.2.2.1.of_eq (fun i h1 _ => HM1.out.2.1.out i (.inr (by have := HRR.out; omega))), HS1.out.2.2.2.2.2.left HM1.out.2.1⟩
              have HF : Hid (∀ M2, Mv ltI mid b M1 M2 → Srt ltI M2 mid b → Mv ltI a b L M2 ∧ Srt ltI M2 a b) := Lib.hid (fun M2 v1 v2 => by
                have h2 := HRR.out
                refine ⟨(HS1.out.1.trans (HM1.out.2.1.wide (Nat.le_refl _) (by omega))).trans (v1.wide (by omega) (Nat.le_refl _)), ?_⟩
                exact (HS2.out.2.2.right v1).srt (HM1.out.2.2.of_eq (fun i _ h1 => v1.out i (.inl h1))) v2)
              obtain ⟨b3, hb3⟩ : ∃ b3, b3 = (decide (mid < e) && decide (e < b)) := ⟨_, rfl⟩
              have HB3 := Lib.hid hb3
              clear hb3
              go_upto_region 43 with fail
              go_cut [213] from 206 to 212 (fun c wx => c = .bool b3 ∧ wx = wc)
              case first =>
                by_cases c0 : mid < e
                · have c1 : (mid : Int) < (e : Int) := by omega
                  have HC0 := Lib.hid c0
                  clear c0
                  go_wp2_with fail
                  go_meet
                  case rel => exact ⟨by rw [HB3.out, decide_eq_true HC0.out]; rfl, rfl⟩
                · have c1 : ¬ (mid : Int) < (e : Int) := by omega
                  have HC0 := Lib.hid c0
                  clear c0
                  go_wp2_with fail
                  go_meet
                  case rel => exact ⟨by rw [HB3.out, decide_eq_false HC0.out]; rfl, rfl⟩
              case rest =>
                obtain ⟨rfl, rfl⟩ := hcut
                cases b3 with
                | true =>
                  have hjm : mid < e ∧ e < b := by have h1 := HB3.out; simp at h1; omega
                  go_wp2_with fail
                  refine (HIH.out _ M1 mid e b (by have h1 := HB.out; have h2 := HQ.out; omega) HL1.out HM1.out.1.1 hjm.1 hjm.2 HB.out.2.2.1 HS2.out.1 HS2.out.2.1).mono ?_
                  rintro e' w5 ⟨rfl, M2, g1, g2, g3⟩
                  have HG := Lib.hid (And.intro g1 (And.intro g2 g3))
                  clear g1 g2 g3
                  go_wp2_with fail
                  go_end0
                  exact ⟨rfl, M2, HM1.out.1.step2 HG.out.1, HF.out M2 HG.out.2.1 HG.out.2.2⟩
                | false =>
                  have hjm : mid < e → ¬ e < b := by have h1 := HB3.out; simp at h1; omega
                  have HJM := Lib.hid hjm
                  clear hjm
                  go_wp2_with fail
                  go_end0
                  exact ⟨rfl, M1, HM1.out.1, HF.out M1 (Mv.refl _ _ _) (by
                    have h1 := HJM.out
                    have h2 := HRR.out
                    by_cases h5 : mid < e
                    · rw [show b = e by have := h1 h5; omega]; exact HS2.out.1
                    · rw [show mid = e by omega]; exact HS2.out.2.1)⟩
set_option maxRecDepth 100000 in
theorem sort_merge (g cap len : Nat) (hL : len ≤ 2305843009213693952) : ∀ (d : Nat) (w : World) (L : List It) (a m b : Nat), b - a ≤ d → L.length = len → RowI w g cap L → a < m → m < b → b ≤ len → Srt ltI L a m → Srt ltI L m b →
    Calls Try.prog 94 #[.slice (some ⟨g, 0, none⟩) len cap, .int .i64 a, .int .i64 m, .int .i64 b, cmpF] w fun e w' => e = .returned (.tuple #[]) ∧ ∃ M, RowS w g cap M w' ∧ Mv ltI a b L M ∧ Srt ltI M a b
  | 0, _, _, a, m, b, hd, _, _, h1, h2, _, _, _ => by omega
  | d + 1, w, L, a, m, b, hd, hlen, hr, ham, hmb, hb, hs1, hs2 => by
    by_cases h1 : m - a = 1
    · exact sort_merge_left g cap len hL w L a m b hlen hr ham hmb hb hs2 h1
    · by_cases h2 : b - m = 1
      · exact sort_merge_right g cap len hL w L a m b hlen hr ham hmb hb hs1 h1 h2
      · by_cases hcc : m > (a + b) / 2
        · exact sort_merge_hi g cap len hL w L a m b (fun w L a' m' b' hd' => sort_merge g cap len hL d w L a' m' b' (by omega)) hlen hr ham hmb hb hs1 hs2 h1 h2 hcc
        · exact sort_merge_lo g cap len hL w L a m b (fun w L a' m' b' hd' => sort_merge g cap len hL d w L a' m' b' (by omega)) hlen hr ham hmb hb hs1 hs2 h1 h2 hcc
end Go.Proofs.Ytkglkpcpgdeneaa
namespace Go.Proofs.Ytkglkpcpgdeneaa
section
variable {α : Type} {lt : α → α → Bool}
theorem dvd_gap {s c a : Nat} (h1 : s ∣ c) (h2 : s ∣ a) (h : c < a) : c + s ≤ a := by
  obtain ⟨k, rfl⟩ := h1
  obtain ⟨j, rfl⟩ := h2
  have hk : k < j := Nat.lt_of_mul_lt_mul_left h
  have := Nat.mul_le_mul_left s (show k + 1 ≤ j from hk)
  rw [Nat.mul_succ] at this
  exact this
/-- Blocks of s are in order, those below a. -/
def BlkL (lt : α → α → Bool) (s a : Nat) (M : List α) : Prop := ∀ c, s ∣ c → c < a → Srt lt M c (c + s)
/-- Blocks of s are in order, those from a on; the last one ends at n. -/
def BlkR (lt : α → α → Bool) (s a n : Nat) (M : List α) : Prop := ∀ c, s ∣ c → a ≤ c → c < n → Srt lt M c (min (c + s) n)
theorem blkL_zero (s : Nat) (M : List α) : BlkL lt s 0 M := fun _ _ h => absurd h (Nat.not_lt_zero _)
theorem blkL_step {s a : Nat} {M N : List α} (h : BlkL lt s a M) (ha : s ∣ a) (hm : Mv lt a (a + s) M N) (hs : Srt lt N a (a + s)) : BlkL lt s (a + s) N := by
  intro c hc hl
  rcases Nat.lt_trichotomy c a with h1 | rfl | h1
  · have h2 := dvd_gap hc ha h1
    exact (h c hc h1).of_eq (fun i _ hi => hm.out i (.inl (by omega)))
  · exact hs
  · have := dvd_gap ha hc h1; omega
theorem blkL_end {s a n : Nat} {M N : List α} (h : BlkL lt s a M) (ha : s ∣ a) (h1 : a ≤ n) (h2 : n < a + s) (hm : Mv lt a n M N) (hs : Srt lt N a n) : BlkR lt s 0 n N := by
  intro c hc _ hl
  rcases Nat.lt_trichotomy c a with h3 | rfl | h3
  · have h4 := dvd_gap hc ha h3
    rw [Nat.min_eq_left (by omega)]
    exact (h c hc h3).of_eq (fun i _ hi => hm.out i (.inl (by omega)))
  · rw [Nat.min_eq_right (by omega)]; exact hs
  · have := dvd_gap ha hc h3; omega
theorem blkR_later {s a b n : Nat} {M N : List α} (h : BlkR lt s a n M) (hab : a ≤ b) (hm : Mv lt a b M N) : BlkR lt s b n N := fun c hc hb hl =>
  (h c hc (by omega) hl).of_eq (fun i hi _ => hm.out i (.inr (by omega)))
theorem two_dvd {s a : Nat} (h : 2 * s ∣ a) : s ∣ a ∧ s ∣ a + s := by
  have h1 : s ∣ a := Nat.dvd_trans ⟨2, by omega⟩ h
  exact ⟨h1, (Nat.dvd_add_right h1).2 (Nat.dvd_refl s)⟩
/-- The two blocks at a. -/
theorem blkR_two {s a n : Nat} {M : List α} (h : BlkR lt s a n M) (ha : 2 * s ∣ a) (hn : a + s < n) : Srt lt M a (a + s) ∧ Srt lt M (a + s) (min (a + 2 * s) n) := by
  obtain ⟨h1, h2⟩ := two_dvd ha
  have g1 := h a h1 (Nat.le_refl _) (by omega)
  have g2 := h (a + s) h2 (by omega) hn
  rw [Nat.min_eq_left (by omega)] at g1
  rw [show a + s + s = a + 2 * s by omega] at g2
  exact ⟨g1, g2⟩
theorem blkR_one {s a n : Nat} {M : List α} (h : BlkR lt s a n M) (ha : 2 * s ∣ a) (han : a ≤ n) (hn : n ≤ a + s) : Srt lt M a n := by
  rcases Nat.lt_or_ge a n with h3 | h3
  · have g1 := h a (two_dvd ha).1 (Nat.le_refl _) h3
    rwa [Nat.min_eq_right (by omega)] at g1
  · exact Srt.one M (by omega)
theorem blkR_whole {s n : Nat} {M : List α} (h : BlkR lt s 0 n M) (hn : n ≤ s) : Srt lt M 0 n := by
  rcases Nat.eq_zero_or_pos n with rfl | h3
  · exact Srt.one M (by omega)
  · have g1 := h 0 (Nat.dvd_zero s) (Nat.le_refl _) h3
    rwa [Nat.min_eq_right (by omega)] at g1
end
end Go.Proofs.Ytkglkpcpgdeneaa
namespace Go.Proofs.Ytkglkpcpgdeneaa
open Go.RowKit

set_option maxRecDepth 100000 in
set_option maxHeartbeats 8000000 in
theorem sort_stable (w : World) (g cap n : Nat) (L : List It) (hlen : L.length = n) (hr : RowI w g cap L) (hL : n ≤ 1152921504606846976) :
    Calls Try.prog 87 #[.slice (some ⟨g, 0, none⟩) n cap, .int .i64 n, cmpF] w fun e w' => e = .returned (.tuple #[]) ∧ ∃ M, RowS w g cap M w' ∧ Mv ltI 0 n L M ∧ Srt ltI M 0 n := by
  have HR := Lib.hid hr
  have HB := Lib.hid (And.intro hlen hL)
  clear hr hlen hL
  go_enter Try.func87, Try.ntmps87
  go_wp2_with fail
  go_loopw [7, 8] (fun v7 v8 wr => ∃ (a b : Nat) (M : List It), v7 = .int .i64 a ∧ v8 = .int .i64 b ∧ Hid (b = a + 20 ∧ 20 ∣ a ∧ a ≤ n) ∧ Hid (RowS w g cap M wr ∧ Mv ltI 0 n L M ∧ BlkL ltI 20 a M)) (fun _ v8 _ => n + 1 - (intOf v8).toNat)
  case atStart => exact ⟨0, 20, L, rfl, rfl, Lib.hid ⟨rfl, Nat.dvd_zero _, Nat.zero_le _⟩, Lib.hid ⟨RowS.start HR.out, Mv.refl _ _ _, blkL_zero _ _⟩⟩
  case round =>
    obtain ⟨a, b, M, rfl, rfl, HA, HM⟩ := hrel
    have HML : Hid (M.length = n) := Lib.hid (by have := HM.out.2.1.len; have h1 := HB.out; omega)
    by_cases hbn : b ≤ n
    · obtain ⟨b', hb'⟩ : ∃ b', b' = b + 20 := ⟨_, rfl⟩
      have e1 : IntKind.i64.wrap ((b : Int) + 20) = (b' : Int) := by rw [IntWalk.i64_in _ (by have h1 := HB.out; omega)]; omega
      have q1 : (b : Int) ≤ (n : Int) := by omega
      have HBN := Lib.hid (And.intro hbn hb')
      clear hbn hb'
      go_wp2_with fail
      refine (sort_insertion wr g cap n M HML.out a b HM.out.1.1 (by have h1 := HA.out; omega) HBN.out.1 (by have h1 := HB.out; omega)).mono ?_
      rintro e w3 ⟨rfl, N, g1, g2, g3⟩
      have HG := Lib.hid (And.intro g1 (And.intro g2 g3))
      clear g1 g2 g3
      go_wp2_with fail
      go_roundw
      case rel =>
        have h1 := HA.out
        have h2 := HBN.out
        have h3 := HG.out
        refine ⟨b, b', N, rfl, rfl, Lib.hid ⟨h2.2, by rw [h1.1]; exact (Nat.dvd_add_right h1.2.1).2 (Nat.dvd_refl _), h2.1⟩, Lib.hid ⟨HM.out.1.step2 h3.1, HM.out.2.1.trans (h3.2.1.wide (Nat.zero_le _) h2.1), ?_⟩⟩
        rw [h1.1]
        rw [h1.1] at h3
        exact blkL_step HM.out.2.2 h1.2.1 h3.2.1 h3.2.2
      case measure => have h2 := HBN.out; simp [intOf]; omega
    · have HBN := Lib.hid hbn
      have q1 : ¬ (b : Int) ≤ (n : Int) := by omega
      clear hbn
      go_wp2_with fail
      refine (sort_insertion wr g cap n M HML.out a n HM.out.1.1 HA.out.2.2 (Nat.le_refl _) (by have h1 := HB.out; omega)).mono ?_
      rintro e w3 ⟨rfl, N, g1, g2, g3⟩
      have HN : Hid (RowS w g cap N w3 ∧ Mv ltI 0 n L N ∧ BlkR ltI 20 0 n N) := Lib.hid (by
        have h1 := HA.out
        have h2 := HBN.out
        exact ⟨HM.out.1.step2 g1, HM.out.2.1.trans (g2.wide (Nat.zero_le _) (Nat.le_refl _)), blkL_end HM.out.2.2 h1.2.1 h1.2.2 (by omega) g2 g3⟩)
      clear g1 g2 g3 HM HML HBN q1
      go_wp2_with fail
      go_loopw [6] (fun v6 wr => ∃ (s : Nat) (M : List It), v6 = .int .i64 s ∧ Hid (0 < s ∧ s ≤ 2 * n + 40) ∧ Hid (RowS w g cap M wr ∧ Mv ltI 0 n L M ∧ BlkR ltI s 0 n M)) (fun v6 _ => n - (intOf v6).toNat)
      case atStart => exact ⟨20, N, rfl, Lib.hid (by omega), HN⟩
      case round =>
        clear HN HA
        obtain ⟨s, M, rfl, HS, HM⟩ := hrel
        by_cases hsn : s < n
        · obtain ⟨s2, hs2⟩ : ∃ s2, s2 = 2 * s := ⟨_, rfl⟩
          have e1 : IntKind.i64.wrap (2 * (s : Int)) = (s2 : Int) := by rw [IntWalk.i64_in _ (by have h1 := HB.out; omega)]; omega
          have e2 : IntKind.i64.wrap ((s : Int) * 2) = (s2 : Int) := by rw [IntWalk.i64_in _ (by have h1 := HB.out; omega)]; omega
          have q1 : (s : Int) < (n : Int) := by omega
          have HS2 := Lib.hid (And.intro hs2 hsn)
          clear hs2 hsn
          go_wp2_with fail
          go_loopw [7, 8] (fun v7 v8 wr => ∃ (a b : Nat) (N : List It), v7 = .int .i64 a ∧ v8 = .int .i64 b ∧ Hid (b = a + s2 ∧ s2 ∣ a ∧ a ≤ n) ∧ Hid (RowS w g cap N wr ∧ Mv ltI 0 n L N ∧ BlkL ltI s2 a N ∧ BlkR ltI s a n N)) (fun _ v8 _ => n + 1 - (intOf v8).toNat)
          case atStart => exact ⟨0, s2, M, rfl, rfl, Lib.hid ⟨by omega, Nat.dvd_zero _, Nat.zero_le _⟩, Lib.hid ⟨HM.out.1, HM.out.2.1, blkL_zero _ _, HM.out.2.2⟩⟩
          case round =>
            clear HM
            obtain ⟨a, b, N, rfl, rfl, HA, HN⟩ := hrel
            have HNL : Hid (N.length = n) := Lib.hid (by have := HN.out.2.1.len; have h1 := HB.out; omega)
            obtain ⟨m, hm⟩ : ∃ m, m = a + s := ⟨_, rfl⟩
            have e3 : IntKind.i64.wrap ((a : Int) + (s : Int)) = (m : Int) := by rw [IntWalk.i64_in _ (by have h1 := HB.out; have h2 := HA.out; have h3 := HS.out; omega)]; omega
            have HMM := Lib.hid hm
            clear hm
            have HD : Hid (2 * s ∣ a) := Lib.hid (by have h1 := HA.out.2.1; rwa [HS2.out.1] at h1)
            by_cases hbn : b ≤ n
            · obtain ⟨b', hb'⟩ : ∃ b', b' = b + s2 := ⟨_, rfl⟩
              have e4 : IntKind.i64.wrap ((b : Int) + (s2 : Int)) = (b' : Int) := by rw [IntWalk.i64_in _ (by have h1 := HB.out; have h2 := HS2.out; have h3 := HS.out; omega)]; omega
              have q2 : (b : Int) ≤ (n : Int) := by omega
              have HBN := Lib.hid (And.intro hbn hb')
              clear hbn hb'
              go_wp2_with fail
              have hT := blkR_two (s := s) HN.out.2.2.2 HD.out (by have h1 := HA.out; have h2 := HS2.out; have h3 := HS.out; have h4 := HBN.out; omega)
              rw [Nat.min_eq_left (by have h1 := HA.out; have h2 := HS2.out; have h4 := HBN.out; omega), show a + 2 * s = b by have h1 := HA.out; have h2 := HS2.out; omega, ← HMM.out] at hT
              refine (sort_merge g cap n (by have h1 := HB.out; omega) (b - a) wr N a m b (Nat.le_refl _) HNL.out HN.out.1.1 (by have h3 := HS.out; have h4 := HMM.out; omega) (by have h1 := HA.out; have h2 := HS2.out; have h3 := HS.out; have h4 := HMM.out; omega) HBN.out.1 hT.1 hT.2).mono ?_
              rintro e w4 ⟨rfl, M2, g1, g2, g3⟩
              have HG := Lib.hid (And.intro g1 (And.intro g2 g3))
              clear g1 g2 g3 hT
              go_wp2_with fail
              go_roundw
              case rel =>
                have h1 := HA.out
                have h2 := HBN.out
                have h3 := HG.out
                refine ⟨b, b', M2, rfl, rfl, Lib.hid ⟨h2.2, by rw [h1.1]; exact (Nat.dvd_add_right h1.2.1).2 (Nat.dvd_refl _), h2.1⟩, Lib.hid ⟨HN.out.1.step2 h3.1, HN.out.2.1.trans (h3.2.1.wide (Nat.zero_le _) h2.1), ?_, blkR_later HN.out.2.2.2 (by omega) h3.2.1⟩⟩
                rw [h1.1]
                rw [h1.1] at h3
                exact blkL_step HN.out.2.2.1 h1.2.1 h3.2.1 h3.2.2
              case measure => have h2 := HBN.out; have h3 := HS.out; have h4 := HS2.out; simp [intOf]; omega
            · have q2 : ¬ (b : Int) ≤ (n : Int) := by omega
              have HBN := Lib.hid hbn
              clear hbn
              by_cases hmn : m < n
              · have q3 : (m : Int) < (n : Int) := by omega
                have HMN := Lib.hid hmn
                clear hmn
                go_wp2_with fail
                have hT := blkR_two (s := s) HN.out.2.2.2 HD.out (by have h1 := HMM.out; have h2 := HMN.out; omega)
                rw [Nat.min_eq_right (by have h1 := HA.out; have h2 := HS2.out; have h4 := HBN.out; omega), ← HMM.out] at hT
                refine (sort_merge g cap n (by have h1 := HB.out; omega) (n - a) wr N a m n (Nat.le_refl _) HNL.out HN.out.1.1 (by have h3 := HS.out; have h4 := HMM.out; omega) HMN.out (Nat.le_refl _) hT.1 hT.2).mono ?_
                rintro e w4 ⟨rfl, M2, g1, g2, g3⟩
                have HG := Lib.hid (And.intro g1 (And.intro g2 g3))
                clear g1 g2 g3 hT
                go_wp2_with fail
                go_roundw
                case rel =>
                  have h1 := HA.out
                  have h2 := HBN.out
                  have h3 := HG.out
                  refine ⟨s2, M2, rfl, Lib.hid (by have h4 := HS2.out; have h5 := HS.out; omega), Lib.hid ⟨HN.out.1.step2 h3.1, HN.out.2.1.trans (h3.2.1.wide (Nat.zero_le _) (Nat.le_refl _)), ?_⟩⟩
                  exact blkL_end HN.out.2.2.1 h1.2.1 h1.2.2 (by omega) h3.2.1 h3.2.2
                case measure => have h4 := HS2.out; have h5 := HS.out; simp [intOf]; omega
              · have q3 : ¬ (m : Int) < (n : Int) := by omega
                have HMN := Lib.hid hmn
                clear hmn
                go_wp2_with fail
                go_roundw
                case rel =>
                  have h1 := HA.out
                  have h2 := HBN.out
                  refine ⟨s2, N, rfl, Lib.hid (by have h4 := HS2.out; have h5 := HS.out; omega), Lib.hid ⟨HN.out.1, HN.out.2.1, ?_⟩⟩
                  exact blkL_end HN.out.2.2.1 h1.2.1 h1.2.2 (by omega) (Mv.refl _ _ _) (blkR_one (s := s) HN.out.2.2.2 HD.out h1.2.2 (by have h3 := HMN.out; have h4 := HMM.out; omega))
                case measure => have h4 := HS2.out; have h5 := HS.out; simp [intOf]; omega
        · have q1 : ¬ (s : Int) < (n : Int) := by omega
          go_wp2_with fail
          go_end0
          exact ⟨rfl, M, HM.out.1, HM.out.2.1, blkR_whole HM.out.2.2 (by omega)⟩
theorem sort_func (w : World) (g cap n : Nat) (L : List It) (hlen : L.length = n) (hr : RowI w g cap L) (hL : n ≤ 1152921504606846976) :
    Calls Try.prog 79 #[.slice (some ⟨g, 0, none⟩) n cap, cmpF] w fun e w' => e = .returned (.tuple #[]) ∧ RowS w g cap (srt ltI L) w' := by
  have HR := Lib.hid hr
  have HB := Lib.hid (And.intro hlen hL)
  clear hr hlen hL
  go_enter Try.func79, Try.ntmps79
  go_wp2_with fail
  refine (sort_stable w g cap n L HB.out.1 HR.out HB.out.2).mono ?_
  rintro e w3 ⟨rfl, M, g1, g2, g3⟩
  have HM : Hid (RowS w g cap (srt ltI L) w3) := Lib.hid (by
    have h1 := HB.out.1
    have h2 := g2.len
    rwa [srt_is swoI (by rw [h2, h1]; exact g3) g2.stab] at g1)
  clear g1 g2 g3
  go_wp2_with fail
  go_end0
  exact ⟨rfl, HM.out⟩
end Go.Proofs.Ytkglkpcpgdeneaa
namespace Go.Proofs.Ytkglkpcpgdeneaa
open Go.RowKit

theorem Parts.app {w : World} {lo : Nat} {l : List Part} {V : Nat → Prop} : ∀ {ps : List Part} {F : Nat → Prop}, Parts w 0 ps F → (∀ k, F k → lo ≤ k) → Parts w lo l V → (∀ k, F k → ¬ V k) → Parts w lo (ps ++ l) (fun k => F k ∨ V k)
  | [], F, h, _, hv, _ => by
    have e : (fun k => F k ∨ V k) = V := funext fun k => propext ⟨fun h' => h'.elim (fun f => absurd f (h k)) id, .inr⟩
    rw [e]; exact hv
  | p :: ps, F, ⟨G, H, h1, _, h3, h4, h5⟩, hlo, hv, hd =>
    ⟨G, fun k => H k ∨ V k, h1, fun k hk => hlo k ((h5 k).2 (.inl hk)), Parts.app h3 (fun k hk => hlo k ((h5 k).2 (.inr hk))) hv (fun k hk => hd k ((h5 k).2 (.inr hk))),
      fun k hk hv' => hv'.elim (h4 k hk) (hd k ((h5 k).2 (.inl hk))), fun k => by show (F k ∨ V k) ↔ (G k ∨ H k ∨ V k); rw [h5 k, or_assoc]⟩
theorem Parts.cut {w : World} {lo : Nat} {l : List Part} : ∀ {ps : List Part} {U : Nat → Prop}, Parts w lo (ps ++ l) U → ∃ F V, Parts w 0 ps F ∧ (∀ k, F k → lo ≤ k) ∧ Parts w lo l V ∧ (∀ k, F k → ¬ V k) ∧ ∀ k, U k ↔ (F k ∨ V k)
  | [], U, h => ⟨fun _ => False, U, fun _ h => h, fun _ h => h.elim, h, fun _ h => h.elim, fun k => by simp⟩
  | p :: ps, U, ⟨G, H, h1, h2, h3, h4, h5⟩ => by
    obtain ⟨F, V, g1, g2, g3, g4, g5⟩ := Parts.cut h3
    refine ⟨fun k => G k ∨ F k, V, ⟨G, F, h1, fun _ _ => Nat.zero_le _, g1, fun k hk hf => h4 k hk ((g5 k).2 (.inl hf)), fun _ => Iff.rfl⟩, ?_, g3, ?_, fun k => by rw [h5 k, g5 k, or_assoc]⟩
    · rintro k (hk | hk)
      · exact h2 k hk
      · exact g2 k hk
    · rintro k (hk | hk) hv
      · exact h4 k hk ((g5 k).2 (.inr hv))
      · exact g4 k hk hv
theorem getElem_eraseIdx_perm {α : Type} : ∀ {l : List α} {i : Nat} (h : i < l.length), (l[i] :: l.eraseIdx i).Perm l
  | _ :: _, 0, _ => List.Perm.refl _
  | a :: l, i + 1, h => by
    have h' : i < l.length := by simpa using h
    exact (List.Perm.swap a (l[i]) (l.eraseIdx i)).trans ((getElem_eraseIdx_perm h').cons a)
/-- Many parts as one. -/
def allP (ps : List Part) : Part where
  at_ w F := Parts w 0 ps F
  keep h k hd := h.keep k hd
  lt h k hk := (h.bd k hk).2
section
variable {w0 w w' : World} {l ps : List Part}
theorem St.all (h : St w0 w (allP ps :: l)) : St w0 w (ps ++ l) := by
  obtain ⟨h0, U, F, V, h1, h2, h3, h4, h5⟩ := h
  have e : U = fun k => F k ∨ V k := funext fun k => propext (h5 k)
  subst e
  exact ⟨h0, _, Parts.app h1 h2 h3 h4⟩
theorem St.all_mk (h : St w0 w (ps ++ l)) : St w0 w (allP ps :: l) := by
  obtain ⟨h0, U, hU⟩ := h
  obtain ⟨F, V, h1, h2, h3, h4, h5⟩ := Parts.cut hU
  exact ⟨h0, U, F, V, h1, h2, h3, h4, h5⟩
theorem St.all_nil (h : St w0 w l) : St w0 w (allP [] :: l) := St.all_mk (ps := []) h
theorem St.all_add {p : Part} (h : St w0 w (p :: allP ps :: l)) : St w0 w (allP (ps ++ [p]) :: l) := by
  refine St.all_mk ?_
  have h1 := h.swap.all
  exact h1.perm (by rw [List.append_assoc]; exact (List.Perm.refl _))
theorem St.all_perm {qs : List Part} (h : St w0 w (allP ps :: l)) (hp : ps.Perm qs) : St w0 w (allP qs :: l) :=
  St.all_mk (h.all.perm (hp.append_right l))
/-- One of many. -/
theorem St.all_at (h : St w0 w (allP ps :: l)) (i : Nat) (hi : i < ps.length) : St w0 w (ps[i] :: l) := by
  have hp : ps.Perm (ps[i] :: ps.eraseIdx i) := (getElem_eraseIdx_perm hi).symm
  have h1 := (h.all_perm hp).all
  exact (h1.perm (show ((ps[i] :: ps.eraseIdx i) ++ l).Perm (ps.eraseIdx i ++ (ps[i] :: l)) by simpa using (List.perm_middle (a := ps[i]) (l₁ := ps.eraseIdx i) (l₂ := l)).symm)).app
/-- One of many, to be put back. -/
theorem St.all_open (h : St w0 w (allP ps :: l)) (i : Nat) (hi : i < ps.length) : St w0 w (ps[i] :: allP (ps.eraseIdx i) :: l) := by
  have hp : ps.Perm (ps[i] :: ps.eraseIdx i) := (getElem_eraseIdx_perm hi).symm
  have h1 := (h.all_perm hp).all
  exact (St.all_mk (ps := ps.eraseIdx i) (l := ps[i] :: l) (h1.perm (show ((ps[i] :: ps.eraseIdx i) ++ l).Perm (ps.eraseIdx i ++ (ps[i] :: l)) by simpa using (List.perm_middle (a := ps[i]) (l₁ := ps.eraseIdx i) (l₂ := l)).symm))).swap
theorem St.all_close {p : Part} {i : Nat} (hi : i < ps.length) (h : St w0 w (p :: allP (ps.eraseIdx i) :: l)) : St w0 w (allP (ps.set i p) :: l) := by
  have hp : (p :: ps.eraseIdx i).Perm (ps.set i p) := by
    have h2 : i < (ps.set i p).length := by simpa using hi
    have := getElem_eraseIdx_perm h2
    rwa [List.getElem_set_self, List.eraseIdx_set_eq] at this
  refine St.all_mk ?_
  have h1 : St w0 w (p :: (ps.eraseIdx i ++ l)) := (h.swap.all).perm (List.perm_middle (a := p) (l₁ := ps.eraseIdx i) (l₂ := l))
  exact h1.perm (hp.append_right l)
/-- An item and its bytes. -/
abbrev ItX := It × List UInt8
def datP (x : ItX) : Part := ownP 5 1 (.slice x.1.A x.1.n x.1.c) x.1.n (bys x.2)
/-- What an item says. -/
def keyX (x : ItX) : ByteArray × Int × List UInt8 := (x.1.k, x.1.s, x.2)
/-- Items that own their bytes. -/
def itsP (A : Option Addr) (c : Nat) (X : List ItX) : Part := andP (ownP 44 3 (.slice A X.length c) X.length (flatI (X.map Prod.fst))) (allP (X.map datP))
theorem St.its {A : Option Addr} {c : Nat} {X : List ItX} (h : St w0 w (itsP A c X :: l)) : St w0 w (ownP 44 3 (.slice A X.length c) X.length (flatI (X.map Prod.fst)) :: allP (X.map datP) :: l) := h.split
theorem St.its_mk {A : Option Addr} {c : Nat} {X : List ItX} (h : St w0 w (ownP 44 3 (.slice A X.length c) X.length (flatI (X.map Prod.fst)) :: allP (X.map datP) :: l)) : St w0 w (itsP A c X :: l) := h.join
theorem St.its_nil (h : St w0 w l) : St w0 w (itsP none 0 [] :: l) := St.its_mk (X := []) (h.all_nil.nil 44 3)
/-- One more. -/
theorem St.its_add {A : Option Addr} {c : Nat} {X : List ItX} {x : ItX} (h : St w0 w (ownP 44 3 (.slice A (X.length + 1) c) (X.length + 1) (flatI (X.map Prod.fst) ++ x.1.cells) :: datP x :: allP (X.map datP) :: l)) : St w0 w (itsP A c (X ++ [x]) :: l) := by
  have h1 := (h.swap.nth3.swap.all_add).swap
  refine St.its_mk ?_
  rw [List.length_append, List.length_singleton, List.map_append, flatI_append, List.map_append]
  rw [show flatI ([x].map Prod.fst) = x.1.cells from flatI_one x.1]
  exact h1
theorem datP_dat {x : ItX} (h : St w0 w (datP x :: l)) : DatI w x.1 x.2 := by
  obtain ⟨h1, h2, _, h4⟩ := St.own_rdv h
  have hl : x.1.n = x.2.length := by have := St.own_len h; rw [bys_length] at this; omega
  exact ⟨hl, h2, h1, fun e => List.eq_nil_of_length_eq_zero (by have := h4 e; omega)⟩
theorem St.its_dat {A : Option Addr} {c : Nat} {X : List ItX} (h : St w0 w (itsP A c X :: l)) (x : ItX) (hx : x ∈ X) : DatI w x.1 x.2 := by
  obtain ⟨i, hi, rfl⟩ := List.getElem_of_mem hx
  have h1 := h.its.tail.all_at i (by simpa using hi)
  rw [List.getElem_map] at h1
  exact datP_dat h1
theorem St.its_len {A : Option Addr} {c : Nat} {X : List ItX} (h : St w0 w (itsP A c X :: l)) : X.length ≤ c ∧ c ≤ 9223372036854775807 ∧ (A = none → X = []) := by
  obtain ⟨_, h2, h3, h4⟩ := h.its.own_rdv
  exact ⟨h2, h3, fun e => List.eq_nil_of_length_eq_zero (h4 e)⟩
theorem own_row {e : TypeId} {n c b : Nat} {A : Option Addr} {L : List It} (h : w.ownsRow b e 3 (.slice A n c) n (flatI L)) (he : e = 44) : (A = none ∧ L = []) ∨ ∃ g, A = some ⟨g, 0, none⟩ ∧ RowI w g c L := by
  subst he
  rcases h.2 with ⟨hv, h0⟩ | ⟨g, cap, cur, hv, _⟩
  · injection hv with hv _ _
    refine .inl ⟨hv, ?_⟩
    have := h.1
    rw [flatI_len, h0] at this
    exact List.eq_nil_of_length_eq_zero (by omega)
  · injection hv with hv _ hc
    subst hv hc
    exact .inr ⟨g, rfl, RowI.of_own h⟩
theorem St.its_rd {A : Option Addr} {c : Nat} {X : List ItX} (h : St w0 w (itsP A c X :: l)) : RdI w A (X.map Prod.fst) := by
  rcases own_row h.its.own rfl with h1 | ⟨g, rfl, h1⟩
  · exact .inl h1
  · exact h1.rd
end
end Go.Proofs.Ytkglkpcpgdeneaa
namespace Go.Proofs.Ytkglkpcpgdeneaa
open Go.RowKit
set_option linter.unusedVariables false

theorem Parts.weak {w : World} {lo lo' : Nat} (hlo : lo' ≤ lo) : ∀ {ps : List Part} {F : Nat → Prop}, Parts w lo ps F → Parts w lo' ps F
  | [], _, h => h
  | p :: ps, F, ⟨G, H, h1, h2, h3, h4, h5⟩ => ⟨G, H, h1, fun k hk => Nat.le_trans hlo (h2 k hk), Parts.weak hlo h3, h4, h5⟩
/-- What a call has made of its own. -/
theorem St.lift {w0 w w' : World} {l ps : List Part} (h : St w0 w l) (g : St w w' ps) : St w0 w' (ps ++ l) := by
  obtain ⟨h0, U, hU⟩ := h
  obtain ⟨g0, V, hV⟩ := g
  have hs := h0.size
  have hb := hV.bd
  refine ⟨h0.trans' g0 (fun j hj hf => by omega), _, Parts.app (hV.weak (Nat.zero_le _)) (fun k hk => by have := (hb k hk).1; omega) (hU.keep g0 (fun j hj hf => by have := (hU.bd j hj).2; omega)) (fun k hk hu => by have := (hU.bd k hu).2; have := (hb k hk).1; omega)⟩
theorem infoU8g : (Try.prog.info? 5).map (fun i => (i.zero, i.size, i.bytes)) = some (some (.int .u8 0), 1, 1) := by kernel_rfl
theorem infoItg : (Try.prog.info? 44).map (fun i => (i.zero, i.size, i.bytes)) = some (some (.agg #[.string ⟨#[]⟩, .int .i64 0, .slice none 0 0]), 3, 48) := by kernel_rfl
section
variable {w0 w : World} {l : List Part}
theorem St.bclone (h : St w0 w l) (A : Option Addr) (n c : Nat) (d : List UInt8) (hr : RdV w A (bys d)) (hl : n = d.length) (hA : A = none → d = []) (hb : n ≤ 140737488355328) :
    Calls Try.prog 72 #[.slice A n c] w fun e w' => ∃ A' c', e = .returned (.slice A' n c') ∧ St w0 w' (ownP 5 1 (.slice A' n c') n (bys d) :: l) ∧ Keep (fun j => w.heap.size ≤ j) w w' := by
  cases A with
  | none =>
    obtain rfl := hA rfl
    subst hl
    have HS := Lib.hid h
    clear hb hA hr h
    have hE := Lib.run_eql_slice_nil (P := Try.prog) w 42 5 none 0 c 0 0 Try.underlying42
    go_enter Try.func72, Try.ntmps72
    go_wp2
    go_ret
    exact ⟨none, 0, rfl, HS.out.nil _ _, Keep.refl _ w⟩
  | some x =>
    have HS := Lib.hid h
    have HR := Lib.hid hr
    have HL := Lib.hid hl
    have hE := Lib.run_eql_slice_nil (P := Try.prog) w 42 5 (some x) n c 0 0 Try.underlying42
    have HB := Lib.hid hb
    clear hr hA hl hb h
    go_enter Try.func72, Try.ntmps72
    go_wp2_with (
      at_builtin
      refine wpL_fresh_st rfl (.tmp 5) (.tmp 6) 42 42 rfl 5 (.int .u8 0) 1 1 Try.underlying42 infoU8g rfl (by decide) _ rfl rfl HS.out (.slice (some x) n c) n (bys d) rfl (Src.of_rd Try.underlying42 ((HR.out).keep ((Keep.refl (fun _ => False) w).alloc _) (fun _ _ _ h => h)) n c (by rw [HL.out, bys_length, Nat.mul_one]) (one_bys _) (fun e => by cases e)) (by have := HB.out; unfold maxLen; omega) (by have := HB.out; omega) ?_
      intro A1 c1 w1 _ hn1 hs1 hk1
      have HS1 := Lib.hid hs1
      have HK1 := Lib.hid hk1
      clear hs1 hk1)
    go_ret
    exact ⟨A1, c1, rfl, HS1.out, HK1.out⟩
/-- make([]Item, 0, n). -/
theorem run_make_items (n : Nat) (hn : n ≤ 1000000000000) (w : World) :
    (Instr.makeSlice 22 (.int .i64 0) (.int .i64 (n : Int))).run Try.prog w = .ok (.slice (some ⟨w.heap.size, 0, none⟩) 0 n) (w.alloc (.cells (madeCells #[.string ⟨#[]⟩, .int .i64 0, .slice none 0 0] (n * 3)) 44)) := by
  obtain ⟨i, hi, hzz⟩ := Option.map_eq_some_iff.1 infoItg
  simp only [Prod.mk.injEq] at hzz
  obtain ⟨hz, hs, hb⟩ := hzz
  have hr := run_make (P := Try.prog) w 22 44 i _ Try.underlying22 hi hz .i64 .i64 0 n (Int.le_refl _) (by omega) (by rw [hb]; omega) (by omega)
  rw [hs] at hr
  exact hr
theorem St.make_items (h : St w0 w l) (n b : Nat) (hb : b = w.heap.size) (hn : n ≤ 1000000000000) : St w0 (w.alloc (.cells (madeCells #[.string ⟨#[]⟩, .int .i64 0, .slice none 0 0] (n * 3)) 44)) (itsP (some ⟨b, 0, none⟩) n [] :: l) := by
  subst hb
  refine St.its_mk (X := []) ?_
  have h1 : St w0 (w.alloc (.cells (madeCells #[.string ⟨#[]⟩, .int .i64 0, .slice none 0 0] (n * 3)) 44)) (ownP 44 3 (.slice (some ⟨w.heap.size, 0, none⟩) 0 n) 0 [] :: l) := by
    refine h.made ?_ ((Keep.refl _ w).alloc _)
    exact ⟨rfl, .inr ⟨w.heap.size, n, madeCells #[.string ⟨#[]⟩, .int .i64 0, .slice none 0 0] (n * 3), rfl, Nat.le_refl _, Go.Deep.blk_alloc_new _ _, Nat.zero_le _, by unfold maxLen; omega, size_madeCells _ _, by simp⟩⟩
  exact h1.all_nil.swap
end
end Go.Proofs.Ytkglkpcpgdeneaa
namespace Go.Proofs.Ytkglkpcpgdeneaa
open Go.RowKit
set_option linter.unusedVariables false

/-- The order by what items say. -/
def ltX (x y : ItX) : Bool := ltI x.1 y.1
def ltK (a b : ByteArray × Int × List UInt8) : Bool := lt2 a.1 a.2.1 b.1 b.2.1
theorem ltX_key (x y : ItX) : ltX x y = ltK (keyX x) (keyX y) := rfl
theorem ins_map {α β : Type} {lt : α → α → Bool} {lt' : β → β → Bool} (f : α → β) (hf : ∀ x y, lt x y = lt' (f x) (f y)) (x : α) : ∀ L : List α, (ins lt x L).map f = ins lt' (f x) (L.map f)
  | [] => rfl
  | y :: r => by
    unfold ins
    rw [List.map_cons, hf x y]
    split
    · simp_all
    · simp_all [ins_map f hf x r]
theorem srt_map {α β : Type} {lt : α → α → Bool} {lt' : β → β → Bool} (f : α → β) (hf : ∀ x y, lt x y = lt' (f x) (f y)) : ∀ (L S : List α), (L.foldl (fun r x => ins lt x r) S).map f = (L.map f).foldl (fun r x => ins lt' x r) (S.map f)
  | [], _ => rfl
  | x :: L, S => by
    rw [List.foldl_cons, List.map_cons, List.foldl_cons, srt_map f hf L, ins_map f hf]
theorem srt_keys (X : List ItX) : (srt ltX X).map keyX = srt ltK (X.map keyX) := by
  have := srt_map keyX ltX_key X []
  simpa [srt] using this
theorem srt_items (X : List ItX) : (srt ltX X).map Prod.fst = srt ltI (X.map Prod.fst) := by
  have := srt_map (lt := ltX) (lt' := ltI) Prod.fst (fun _ _ => rfl) X []
  simpa [srt] using this
section
variable {w0 w : World} {l : List Part}
theorem St.itemAt {b o : Nat} {L : List It} (hc : ∀ i j (h : i < L.length), j < 3 → w.cell? ⟨b, o + i * 3 + j, none⟩ = L[i].cells[j]?) (i : Nat) (x : It) (hx : L[i]? = some x) :
    w.cell? ⟨b, o + i * 3, none⟩ = some (.string x.k) ∧ w.cell? ⟨b, o + i * 3 + 1, none⟩ = some (.int .i64 x.s) ∧ w.cell? ⟨b, o + i * 3 + 2, none⟩ = some (.slice x.A x.n x.c) := by
  obtain ⟨hi, rfl⟩ := List.getElem?_eq_some_iff.1 hx
  exact ⟨hc i 0 hi (by omega), hc i 1 hi (by omega), hc i 2 hi (by omega)⟩
theorem St.boxX (h : St w0 w l) (x : It) (b : Nat) (hb : b = w.heap.size) : St w0 (w.alloc (Obj.cells #[.string x.k, .int .i64 x.s, .slice x.A x.n x.c] 44)) (blkP b 44 x.cells :: l) := by
  subst hb
  exact h.box x.cells 44
/-- The sorted row with its bytes. -/
theorem St.its_sorted {g c : Nat} {X : List ItX} {w' : World} (h : St w0 w (itsP (some ⟨g, 0, none⟩) c X :: l)) (hr : RowS w g c (srt ltI (X.map Prod.fst)) w') : St w0 w' (itsP (some ⟨g, 0, none⟩) c (srt ltX X) :: l) := by
  have h1 := h.its
  obtain ⟨F, ⟨f1, f2⟩, f3, f4, f5⟩ := h1.open_
  have hlen : (srt ltX X).length = X.length := srt_len (lt := ltX) ⟨fun x y => swoI.asym x.1 y.1, fun x y z => swoI.ntr x.1 y.1 z.1⟩ X
  have hF : F g := (f2 g).2 rfl
  refine St.its_mk ?_
  have hk : Keep (fun k => F k ∨ w.heap.size ≤ k) w w' := hr.2.mono (fun k _ hk => hk.imp (fun e => by rw [e]; exact hF) id)
  have hown := hr.1.own
  have e1 : (srt ltI (X.map Prod.fst)).length = X.length := by rw [← srt_items, List.length_map, hlen]
  rw [e1] at hown
  rw [hlen, srt_items]
  have h2 : St w0 w' (ownP 44 3 (.slice (some ⟨g, 0, none⟩) X.length c) X.length (flatI (srt ltI (X.map Prod.fst))) :: allP (X.map datP) :: l) := by
    refine h1.grown hown ?_ (.inl rfl)
    exact hr.2.mono (fun k _ hk => hk.imp (fun e => by rw [e]; rfl) id)
  exact (h2.swap.all_perm ((srt_perm (lt := ltX) X).symm.map datP)).swap
end
set_option maxRecDepth 100000 in
set_option maxHeartbeats 8000000 in
theorem rec_sorted (w : World) (a : Option Addr) (n c : Nat) (X : List ItX) (hn : n = X.length) (hrd : RdI w a (X.map Prod.fst)) (hd : ∀ x ∈ X, DatI w x.1 x.2 ∧ x.2.length ≤ 140737488355328) (hb : n ≤ 1000000) :
    Calls Try.prog 74 #[.slice a n c] w fun e w' => ∃ A c' Y, e = .returned (.slice A Y.length c') ∧ Y.map keyX = srt ltK (X.map keyX) ∧ St w w' [itsP A c' Y] := by
  subst hn
  have HR := Lib.hid (And.intro hrd (And.intro hd hb))
  have HS := Lib.hid (St.start w)
  have hmk := run_make_items X.length (by omega)
  have q0 : (X.length : Int) ≤ 1000000 := by omega
  clear hrd hd hb
  go_enter Try.func74, Try.ntmps74
  go_wp2_with fail
  have HS1 := Lib.hid (HS.out.make_items X.length w.heap.size rfl (by have := HR.out.2.2; omega))
  clear HS hmk
  go_loopw [3, 11] (fun v3 v11 wr => ∃ (i : Nat) (g c' : Nat) (Y : List ItX), i ≤ X.length ∧ v3 = .slice (some ⟨g, 0, none⟩) i c' ∧ v11 = .int .i64 i ∧ Hid (Y.length = i ∧ Y.map keyX = (X.take i).map keyX) ∧ Hid (St w wr [itsP (some ⟨g, 0, none⟩) c' Y])) (fun _ v11 _ => X.length - (intOf v11).toNat)
  case atStart => exact ⟨0, w.heap.size, X.length, [], Nat.zero_le _, rfl, rfl, Lib.hid ⟨rfl, rfl⟩, HS1⟩
  case round =>
    clear HS1
    obtain ⟨i, g, c', Y, hi, rfl, rfl, HY, HS⟩ := hrel
    by_cases hlt : i < X.length
    · rcases (HR.out.1.keep HS.out.keep) with ⟨_, h0⟩ | ⟨ba, o, hA, hc⟩
      · have h1 := congrArg List.length h0
        simp at h1
        rw [h1] at hlt
        simp at hlt
      subst hA
      obtain ⟨x, hx⟩ : ∃ x, X[i]? = some x := ⟨_, List.getElem?_eq_getElem hlt⟩
      obtain ⟨d0, d1, d2⟩ := St.itemAt hc i x.1 (by rw [List.getElem?_map, hx]; rfl)
      have HX := Lib.hid hx
      have HD := Lib.hid (HR.out.2.1 x (List.mem_of_getElem? hx))
      have HLT := Lib.hid hlt
      have q1 : (i : Int) < (X.length : Int) := by omega
      clear hc hx hlt
      obtain ⟨⟨k, s, A, n, c2⟩, d⟩ := x
      obtain ⟨ob, hob⟩ : ∃ ob, ob = wr.heap.size := ⟨_, rfl⟩
      have HS2 := Lib.hid (HS.out.boxX ⟨k, s, A, n, c2⟩ ob hob)
      clear HS
      have b0 := HS2.out.blk.1.cell 0
      have b1 := HS2.out.blk.1.cell 1
      have b2 := HS2.out.blk.1.cell 2
      simp only [It.cells, List.getElem?_cons_zero, List.getElem?_cons_succ] at b0 b1 b2
      go_upto_region 5 with fail
      rw [← hob]
      clear d0 d1 d2 hob
      go_wp2_with fail
      refine (St.bclone HS2.out A n c2 d (HD.out.1.2.2.1.old HS2.out.keep) HD.out.1.1 HD.out.1.2.2.2 (by have h1 := HD.out.1.1; have h2 := HD.out.2; simp only at h1 h2; omega)).mono ?_
      rintro e w3 ⟨A3, c3, rfl, hs3, hk3⟩
      have hn3 : n = d.length := HD.out.1.1
      have HN3 := Lib.hid hn3
      have HS3 := Lib.hid hs3
      clear hs3 hk3 hn3 b0 b1 b2 HS2
      have f2 := (HS3.out.tail.blk).1.free 2
      have b2 := (HS3.out.tail.blk).1.cell 2
      have hs4 := HS3.out.swap.set 2 (.slice A3 n c3)
      have HS4 : Hid (St w (w3.setCell ⟨ob, 2, none⟩ (.slice A3 n c3)) (blkP ob 44 [.string k, .int .i64 s, .slice A3 n c3] :: ownP 5 1 (.slice A3 n c3) n (bys d) :: [itsP (some ⟨g, 0, none⟩) c' Y])) := Lib.hid hs4
      clear hs4
      have g0 := HS4.out.blk.1.cell 0
      have g1 := HS4.out.blk.1.cell 1
      have g2 := HS4.out.blk.1.cell 2
      simp only [It.cells, List.getElem?_cons_zero, List.getElem?_cons_succ] at b2 g0 g1 g2
      go_upto_region 6 with fail
      clear f2 b2
      generalize w3.setCell ⟨ob, 2, none⟩ (.slice A3 n c3) = w4 at HS4 g0 g1 g2 ⊢
      clear HS3
      have HP := Lib.hid (St.its (HS4.out.sel [2, 1, 0] (by decide) (by simp)))
      go_wp2_with (
        at_builtin
        refine wpL_push_st rfl (.tmp 19) (.tmp 21) 22 rfl 44 (.agg #[.string ⟨#[]⟩, .int .i64 0, .slice none 0 0]) 3 48 Try.underlying22 infoItg rfl (by decide) (.slice (some ⟨g, 0, none⟩) i c') i (flatI (Y.map Prod.fst)) rfl (by have h1 := HP.out; rw [HY.out.1] at h1; exact h1) [.string k, .int .i64 s, .slice A3 n c3] rfl (by intro u hu; simp at hu; rcases hu with rfl | rfl | rfl <;> rfl) _ rfl rfl (by have := HLT.out; unfold maxLen; omega) (by have := HLT.out; omega) ?_
        intro A5 c5 w5 hc5 hn5 hs5
        have HN5 := Lib.hid hn5
        have HS5 := Lib.hid hs5
        clear hs5 hn5)
      obtain ⟨g5, hg5⟩ : ∃ g5, A5 = some ⟨g5, 0, none⟩ := by
        rcases own_row (L := (Y.map Prod.fst) ++ [⟨k, s, A3, n, c3⟩]) (by have h1 := HS5.out.own; rw [flatI_append, flatI_one]; exact h1) rfl with ⟨h1, _⟩ | ⟨g5, h1, _⟩
        · exact absurd (HN5.out h1) (by omega)
        · exact ⟨g5, h1⟩
      subst hg5
      have HS6 : Hid (St w w5 [itsP (some ⟨g5, 0, none⟩) c5 (Y ++ [(⟨k, s, A3, n, c3⟩, d)])]) := Lib.hid (by
        have h1 := HS5.out.sel [0, 2, 1] (by decide) (by simp)
        have h2 := St.its_add (x := (⟨k, s, A3, n, c3⟩, d)) (X := Y) (by rw [HY.out.1]; exact h1)
        exact h2)
      clear HS5 HP HS4 g0 g1 g2
      go_wp2_with fail
      go_roundw
      case rel =>
        refine ⟨i + 1, g5, c5, Y ++ [(⟨k, s, A3, n, c3⟩, d)], HLT.out, rfl, by go_num, Lib.hid ⟨by simp [HY.out.1], ?_⟩, HS6⟩
        rw [List.map_append, HY.out.2, List.take_add_one, HX.out]
        simp [keyX]
      case measure => have := HLT.out; simp [intOf]; omega
    · have hin : i = X.length := by omega
      subst hin
      clear hlt
      go_wp2_with fail
      have HW := Lib.hid (own_row HS.out.its.own rfl)
      refine (sort_func wr g c' X.length (Y.map Prod.fst) (by simp [HY.out.1]) (by
        rcases HW.out with ⟨h1, _⟩ | ⟨g', h1, h2⟩
        · cases h1
        · cases h1; exact h2) (by have := HR.out.2.2; omega)).mono ?_
      rintro e w3 ⟨rfl, hs3⟩
      have HS3 : Hid (St w w3 [itsP (some ⟨g, 0, none⟩) c' (srt ltX Y)]) := Lib.hid (HS.out.its_sorted hs3)
      clear hs3
      go_wp2_with fail
      go_ret
      have hl : (srt ltX Y).length = X.length := by
        have := congrArg List.length (srt_items Y)
        rw [List.length_map, srt_len swoI, List.length_map, HY.out.1] at this
        exact this
      refine ⟨some ⟨g, 0, none⟩, c', srt ltX Y, by rw [hl]; rfl, ?_, HS3.out⟩
      rw [srt_keys, HY.out.2, List.take_length]
end Go.Proofs.Ytkglkpcpgdeneaa
namespace Go.Proofs.Ytkglkpcpgdeneaa
open Go.RowKit
set_option linter.unusedVariables false

set_option maxRecDepth 100000 in
set_option maxHeartbeats 8000000 in
theorem ref_own (w : World) (a : Option Addr) (n c : Nat) (X : List ItX) (hn : n = X.length) (hrd : RdI w a (X.map Prod.fst)) (hd : ∀ x ∈ X, DatI w x.1 x.2 ∧ x.2.length ≤ 140737488355328) (hb : n ≤ 1000000) :
    Calls Try.prog 18 #[.slice a n c] w fun e w' => ∃ A c' Y, e = .returned (.slice A Y.length c') ∧ Y.map keyX = X.map keyX ∧ St w w' [itsP A c' Y] := by
  subst hn
  have HR := Lib.hid (And.intro hrd (And.intro hd hb))
  have HS1 := Lib.hid (St.start w).its_nil
  have q0 : (X.length : Int) ≤ 1000000 := by omega
  clear hrd hd hb
  go_enter Try.func18, Try.ntmps18
  go_wp2_with fail
  go_loopw [3, 4] (fun v3 v4 wr => ∃ (i : Nat) (G : Option Addr) (c' : Nat) (Y : List ItX), i ≤ X.length ∧ v3 = .slice G i c' ∧ v4 = .int .i64 i ∧ Hid (Y.length = i ∧ Y.map keyX = (X.take i).map keyX) ∧ Hid (St w wr [itsP G c' Y])) (fun _ v4 _ => X.length - (intOf v4).toNat)
  case atStart => exact ⟨0, none, 0, [], Nat.zero_le _, rfl, rfl, Lib.hid ⟨rfl, rfl⟩, HS1⟩
  case round =>
    clear HS1
    obtain ⟨i, G, c', Y, hi, rfl, rfl, HY, HS⟩ := hrel
    by_cases hlt : i < X.length
    · rcases (HR.out.1.keep HS.out.keep) with ⟨_, h0⟩ | ⟨ba, o, hA, hc⟩
      · have h1 := congrArg List.length h0
        simp at h1
        rw [h1] at hlt
        simp at hlt
      subst hA
      obtain ⟨x, hx⟩ : ∃ x, X[i]? = some x := ⟨_, List.getElem?_eq_getElem hlt⟩
      obtain ⟨d0, d1, d2⟩ := St.itemAt hc i x.1 (by rw [List.getElem?_map, hx]; rfl)
      have HX := Lib.hid hx
      have HD := Lib.hid (HR.out.2.1 x (List.mem_of_getElem? hx))
      have HLT := Lib.hid hlt
      have q1 : (i : Int) < (X.length : Int) := by omega
      clear hc hx hlt
      obtain ⟨⟨k, s, A, n, c2⟩, d⟩ := x
      obtain ⟨ob, hob⟩ : ∃ ob, ob = wr.heap.size := ⟨_, rfl⟩
      have HS2 := Lib.hid (HS.out.boxX ⟨k, s, A, n, c2⟩ ob hob)
      clear HS
      go_upto_region 6 with fail
      rw [← hob]
      clear d0 d1 d2 hob
      have HS2' : Hid (St w (wr.alloc (Obj.cells #[.string k, .int .i64 s, .slice A n c2] 44)) [blkP ob 44 [.string k, .int .i64 s, .slice A n c2], itsP G c' Y]) := HS2
      clear HS2
      generalize wr.alloc (Obj.cells #[.string k, .int .i64 s, .slice A n c2] 44) = w2 at HS2' ⊢
      have HS2 := HS2'
      clear HS2'
      have b2 : (w2.alloc (Obj.cells #[] 5)).cell? ⟨ob, 2, none⟩ = some (.slice A n c2) := ((HS2.out.alloc _).blk).1.cell 2
      have HI8 := Lib.hid infoU8g
      go_upto_region 7 with (
        at_builtin
        refine wpL_fresh_st rfl (.tmp 16) (.tmp 18) 42 42 rfl 5 (.int .u8 0) 1 1 Try.underlying42 HI8.out rfl (by decide) _ rfl rfl HS2.out (.slice A n c2) n (bys d) rfl (Src.of_rd Try.underlying42 (HD.out.1.2.2.1.old (HS2.out.alloc _).keep) n c2 (by rw [bys_length, Nat.mul_one]; exact HD.out.1.1.symm) (one_bys _) (fun e => by
          have h1 := HD.out.1.2.2.2 e
          have h2 := HD.out.1.1
          simp only at h1 h2
          rw [h2, h1]; rfl)) (by have h1 := HD.out.1.1; have h2 := HD.out.2; simp only at h1 h2; unfold maxLen; omega) (by have h1 := HD.out.1.1; have h2 := HD.out.2; simp only at h1 h2; omega) ?_
        intro A3 c3 w3 _ hn3 hs3 _
        have HS3 := Lib.hid hs3
        have f2 := (HS3.out.tail.blk).1.free 2
        have b3 := (HS3.out.tail.blk).1.cell 2
        simp only [List.getElem?_cons_zero, List.getElem?_cons_succ] at b3
        clear hs3 hn3 b2)
      have hs4 := HS3.out.swap.set 2 (.slice A3 n c3)
      have HS4 : Hid (St w (w3.setCell ⟨ob, 2, none⟩ (.slice A3 n c3)) (blkP ob 44 [.string k, .int .i64 s, .slice A3 n c3] :: ownP 5 1 (.slice A3 n c3) n (bys d) :: [itsP G c' Y])) := Lib.hid hs4
      clear hs4
      have g0 := HS4.out.blk.1.cell 0
      have g1 := HS4.out.blk.1.cell 1
      have g2 := HS4.out.blk.1.cell 2
      simp only [List.getElem?_cons_zero, List.getElem?_cons_succ] at g0 g1 g2
      clear f2 b3
      generalize w3.setCell ⟨ob, 2, none⟩ (.slice A3 n c3) = w4 at HS4 g0 g1 g2 ⊢
      clear HS3
      have HP := Lib.hid (St.its (HS4.out.sel [2, 1, 0] (by decide) (by simp)))
      go_wp2_with (
        at_builtin
        refine wpL_push_st rfl (.tmp 21) (.tmp 23) 22 rfl 44 (.agg #[.string ⟨#[]⟩, .int .i64 0, .slice none 0 0]) 3 48 Try.underlying22 infoItg rfl (by decide) (.slice G i c') i (flatI (Y.map Prod.fst)) rfl (by have h1 := HP.out; rw [HY.out.1] at h1; exact h1) [.string k, .int .i64 s, .slice A3 n c3] rfl (by intro u hu; simp at hu; rcases hu with rfl | rfl | rfl <;> rfl) _ rfl rfl (by have := HLT.out; unfold maxLen; omega) (by have := HLT.out; omega) ?_
        intro A5 c5 w5 hc5 hn5 hs5
        have HS5 := Lib.hid hs5
        clear hs5 hn5 hc5)
      have HS6 : Hid (St w w5 [itsP A5 c5 (Y ++ [(⟨k, s, A3, n, c3⟩, d)])]) := Lib.hid (by
        have h1 := HS5.out.sel [0, 2, 1] (by decide) (by simp)
        have h2 := St.its_add (x := (⟨k, s, A3, n, c3⟩, d)) (X := Y) (by rw [HY.out.1]; exact h1)
        exact h2)
      clear HS5 HP HS4 g0 g1 g2
      go_wp2_with fail
      go_roundw
      case rel =>
        refine ⟨i + 1, A5, c5, Y ++ [(⟨k, s, A3, n, c3⟩, d)], HLT.out, rfl, by go_num, Lib.hid ⟨by simp [HY.out.1], ?_⟩, HS6⟩
        rw [List.map_append, HY.out.2, List.take_add_one, HX.out]
        simp [keyX]
      case measure => have := HLT.out; simp [intOf]; omega
    · have hin : i = X.length := by omega
      subst hin
      clear hlt
      go_wp2_with fail
      go_ret
      refine ⟨G, c', Y, by rw [HY.out.1]; rfl, ?_, HS.out⟩
      rw [HY.out.2, List.take_length]
end Go.Proofs.Ytkglkpcpgdeneaa
namespace Go.Proofs.Ytkglkpcpgdeneaa
open Go.RowKit
set_option linter.unusedVariables false

theorem less_call {w u : World} {g cap : Nat} {M : List It} (x y : It) (r : Bool) (hr : r = ltI x y) (_ : RowS w g cap M u) :
    Calls Try.prog 38 #[.agg #[.string x.k, .int .i64 x.s, .slice x.A x.n x.c], .agg #[.string y.k, .int .i64 y.s, .slice y.A y.n y.c]] u fun e u' => e = .returned (.bool r) ∧ Anew u u' := by
  subst hr
  exact less13 x.k y.k x.s y.s _ _ u
/-- A row whose items have been moved about. -/
theorem St.rows {w0 w w' : World} {l : List Part} {g c n : Nat} {L M : List It} (h : St w0 w (ownP 44 3 (.slice (some ⟨g, 0, none⟩) n c) n (flatI L) :: l)) (hr : RowS w g c M w') (hl : M.length = L.length) : St w0 w' (ownP 44 3 (.slice (some ⟨g, 0, none⟩) n c) n (flatI M) :: l) := by
  have hn : L.length = n := by have := h.own_len; rw [flatI_len] at this; omega
  have hown := hr.1.own
  rw [hl, hn] at hown
  exact h.grown hown (hr.2.mono (fun k _ hk => hk.imp (fun e => by rw [e]; rfl) id)) (.inl rfl)
theorem RdI.src {w : World} {a : Option Addr} {L : List It} (h : RdI w a L) : RdV w a (flatI L) := by
  rcases h with ⟨rfl, rfl⟩ | ⟨b, o, rfl, hc⟩
  · exact RdV.nil _ _
  · intro i v hv
    have hi : i < (flatI L).length := (List.getElem?_eq_some_iff.1 hv).1
    rw [flatI_len] at hi
    have e : i = i / 3 * 3 + i % 3 := by omega
    have h3 : i / 3 < L.length := by omega
    have h1 := hc (i / 3) (i % 3) h3 (by omega)
    rw [← flatI_get L (i / 3) (i % 3) h3 (by omega), ← e, hv, show o + i / 3 * 3 + i % 3 = o + i by omega] at h1
    exact ⟨_, rfl, by rw [add_plain]; exact h1⟩
set_option maxRecDepth 100000 in
set_option maxHeartbeats 8000000 in
theorem ref_sorted (w : World) (a : Option Addr) (n c : Nat) (L : List It) (hn : L.length = n) (hrd : RdI w a L) (hb : n ≤ 1000000) :
    Calls Try.prog 20 #[.slice a n c] w fun e w' => ∃ A c', e = .returned (.slice A n c') ∧ St w w' [ownP 44 3 (.slice A n c') n (flatI (srt ltI L))] := by
  have HIN := Lib.hid (And.intro hrd (And.intro hn hb))
  have HS := Lib.hid (St.start w)
  have hnil : a = none → n = 0 := fun e => by
    rcases hrd with ⟨_, h0⟩ | ⟨b, o, h0, _⟩
    · rw [h0] at hn; exact hn.symm
    · rw [h0] at e; cases e
  have HNIL := Lib.hid hnil
  have q0 : (n : Int) ≤ 1000000 := by omega
  clear hrd hb hn hnil
  go_enter Try.func20, Try.ntmps20
  go_upto_region 2 with (
    at_builtin
    refine wpL_fresh_st rfl (.tmp 6) (.tmp 7) 22 22 rfl 44 (.agg #[.string ⟨#[]⟩, .int .i64 0, .slice none 0 0]) 3 48 Try.underlying22 infoItg rfl (by decide) _ rfl rfl HS.out (.slice a n c) n (flatI L) rfl (Src.of_rd Try.underlying22 ((HIN.out.1.src).keep ((Keep.refl (fun _ => False) w).alloc _) (fun _ _ _ h => h)) n c (by rw [flatI_len, HIN.out.2.1]) (one_It _) HNIL.out) (by have := HIN.out.2.2; unfold maxLen; omega) (by have := HIN.out.2.2; omega) ?_
    intro A1 cap w1 _ hn1 hs1 _
    have HN1 := Lib.hid hn1
    have HS1 := Lib.hid hs1
    clear hs1 hn1)
  rcases own_row HS1.out.own rfl with ⟨h1, h2⟩ | ⟨g, h1, h2⟩
  · subst h1 h2
    have hn0 : n = 0 := by have := HIN.out.2.1; simpa using this.symm
    subst hn0
    go_wp2_with fail
    go_loopw [4] (fun v4 wr => v4 = .int .i64 1 ∧ wr = w1) (fun _ _ => 0)
    case atStart => exact ⟨rfl, rfl⟩
    case round =>
      obtain ⟨rfl, rfl⟩ := hrel
      go_wp2_with fail
      go_ret
      exact ⟨none, cap, rfl, HS1.out⟩
  · subst h1
    have HR := Lib.hid h2
    have HB : Hid (0 ≤ n ∧ n ≤ n ∧ n ≤ 2305843009213693952 ∧ L.length = n) := Lib.hid ⟨Nat.zero_le _, Nat.le_refl _, by have := HIN.out.2.2; omega, HIN.out.2.1⟩
    clear h2
    go_wp2_with fail
    go_loopw [4] (fun v4 wr => ∃ (i : Nat) (M : List It), v4 = .int .i64 i ∧ Hid (1 ≤ i ∧ (i = 1 ∨ i ≤ n) ∧ i ≤ n + 1) ∧ Hid (RowS w1 g cap M wr ∧ Mv ltI 0 n L M ∧ Srt ltI M 0 i)) (fun v4 _ => n - (intOf v4).toNat)
    case atStart => exact ⟨1, L, rfl, Lib.hid ⟨Nat.le_refl _, .inl rfl, by omega⟩, Lib.hid ⟨RowS.start HR.out, Mv.refl 0 n L, Srt.one L (by omega)⟩⟩
    case round =>
      obtain ⟨i, M, rfl, HB2, HM⟩ := hrel
      by_cases hlt : i < n
      · have q1 : (i : Int) < (n : Int) := by omega
        have HLT := Lib.hid hlt
        obtain ⟨i1, hi1⟩ : ∃ i1, i1 = i + 1 := ⟨_, rfl⟩
        have e9 : IntKind.i64.wrap ((i : Int) + 1) = (i1 : Int) := by rw [IntWalk.i64_in _ (by have h1 := HB.out; omega)]; omega
        have HI1 := Lib.hid hi1
        clear hi1
        have HML : Hid (M.length = n) := Lib.hid (by have := HM.out.2.1.len; have h1 := HB.out; omega)
        clear hlt
        go_wp2_with fail
        go_loopw [5] (fun v5 wr => ∃ (j : Nat) (M : List It), v5 = .int .i64 j ∧ Hid (0 ≤ j ∧ j ≤ i) ∧ Hid (RowS w1 g cap M wr ∧ Mv ltI 0 n L M ∧ SrtX ltI M 0 (i + 1) j ∧ M.length = n)) (fun v5 _ => (intOf v5).toNat)
        case atStart => exact ⟨i, M, rfl, Lib.hid (by have := HB2.out; omega), Lib.hid ⟨HM.out.1, HM.out.2.1, srtX_start HM.out.2.2, HML.out⟩⟩
        case round =>
          obtain ⟨j, N, rfl, HJ, HN⟩ := hrel
          clear HM HML
          by_cases hj : 0 < j
          · obtain ⟨p, hp⟩ : ∃ p, p = j - 1 := ⟨_, rfl⟩
            have hjN : j < N.length := by have h1 := HB.out; have h2 := HLT.out; have h3 := HJ.out; have h4 := HN.out.2.2.2; omega
            have hpN : p < N.length := by omega
            have e1 : IntKind.i64.wrap ((j : Int) - 1) = (p : Int) := by rw [IntWalk.i64_in _ (by have h1 := HB.out; have h2 := HLT.out; have h3 := HJ.out; omega)]; omega
            have q2 : (0 : Int) < (j : Int) := by omega
            have q3 : (j : Int) < (n : Int) := by have h4 := HN.out.2.2.2; omega
            have q4 : (p : Int) < (n : Int) := by have h4 := HN.out.2.2.2; omega
            obtain ⟨x, hx⟩ : ∃ x, N[j]? = some x := some_at hjN
            obtain ⟨y, hy⟩ : ∃ y, N[p]? = some y := some_at hpN
            have HXY := Lib.hid (And.intro hx hy)
            obtain ⟨r, hr⟩ : ∃ r, r = ltI x y := ⟨_, rfl⟩
            have HRR := Lib.hid hr
            have HP := Lib.hid (And.intro hp hj)
            have HIN := Lib.hid (And.intro hjN hpN)
            clear hx hy hr hp hjN hpN
            have q5 : decide (0 < j) = true := decide_eq_true hj
            go_wp2_with fail
            refine wp_region_G [] Anew (RowS w1 g cap N) (by kernel_rfl) (by kernel_rfl) (by kernel_rfl) Anew.refl (RowS.stays _ _ _ _) HN.out.1.drew ?_
            repeat (first
              | (apply wpG_skip
                 · rfl
                 simp only [Act.put, List.setIfInBounds_toArray, List.set_cons_zero, List.set_cons_succ])
              | (apply wpG_val
                 · rfl
                 · intro u hu
                   obtain ⟨x0, x1, x2⟩ := hu.at j x HXY.out.1
                   obtain ⟨y0, y1, y2⟩ := hu.at p y HXY.out.2
                   clear hu
                   (go_simp <;> with_reducible rfl)
                 simp only [Act.put, List.setIfInBounds_toArray, List.set_cons_zero, List.set_cons_succ])
              | (apply wpG_call
                 · rfl
                 · intro u
                   go_simp
                   exact ⟨rfl, rfl⟩
                 · intro u hu
                   exact less_call x y r HRR.out hu
                 simp only [Act.put, List.setIfInBounds_toArray, List.set_cons_zero, List.set_cons_succ]))
            refine wpG_nil ?_
            intro w3 hs3
            have HS3 := Lib.hid hs3
            clear hs3
            cases r with
            | true =>
              have HNEG : Hid (ltI x y = true) := Lib.hid HRR.out.symm
              have hpq : p < j := by have := HP.out; omega
              have x0 := HS3.out.1.cell j 0 HIN.out.1 (by omega)
              have x1 := HS3.out.1.cell j 1 HIN.out.1 (by omega)
              have x2 := HS3.out.1.cell j 2 HIN.out.1 (by omega)
              have fx0 := HS3.out.1.free (j * 3)
              have fx1 := HS3.out.1.free (j * 3 + 1)
              have fx2 := HS3.out.1.free (j * 3 + 2)
              have y0 := HS3.out.1.cell p 0 HIN.out.2 (by omega)
              have y1 := HS3.out.1.cell p 1 HIN.out.2 (by omega)
              have y2 := HS3.out.1.cell p 2 HIN.out.2 (by omega)
              have fy0 := HS3.out.1.free (p * 3)
              have fy1 := HS3.out.1.free (p * 3 + 1)
              have fy2 := HS3.out.1.free (p * 3 + 2)
              generalize hex : N[j]'(HIN.out.1) = xa at x0 x1 x2
              generalize hey : N[p]'(HIN.out.2) = ya at y0 y1 y2
              obtain ⟨k, s, A, n0, c⟩ := xa
              obtain ⟨k', s', A', n', c'⟩ := ya
              simp only [It.cells, List.getElem?_cons_zero, List.getElem?_cons_succ, Nat.add_zero] at x0 x1 x2 y0 y1 y2
              have HX := Lib.hid hex
              have HY := Lib.hid hey
              clear hex hey
              have n00 : ¬ j * 3 = p * 3 := by omega
              have m00 : ¬ p * 3 = j * 3 := by omega
              have n01 : ¬ j * 3 = p * 3 + 1 := by omega
              have m01 : ¬ p * 3 + 1 = j * 3 := by omega
              have n02 : ¬ j * 3 = p * 3 + 2 := by omega
              have m02 : ¬ p * 3 + 2 = j * 3 := by omega
              have n10 : ¬ j * 3 + 1 = p * 3 := by omega
              have m10 : ¬ p * 3 = j * 3 + 1 := by omega
              have n11 : ¬ j * 3 + 1 = p * 3 + 1 := by omega
              have m11 : ¬ p * 3 + 1 = j * 3 + 1 := by omega
              have n12 : ¬ j * 3 + 1 = p * 3 + 2 := by omega
              have m12 : ¬ p * 3 + 2 = j * 3 + 1 := by omega
              have n20 : ¬ j * 3 + 2 = p * 3 := by omega
              have m20 : ¬ p * 3 = j * 3 + 2 := by omega
              have n21 : ¬ j * 3 + 2 = p * 3 + 1 := by omega
              have m21 : ¬ p * 3 + 1 = j * 3 + 2 := by omega
              have n22 : ¬ j * 3 + 2 = p * 3 + 2 := by omega
              have m22 : ¬ p * 3 + 2 = j * 3 + 2 := by omega
              clear hpq
              go_wp2_with fail
              go_region
              go_wp2_with fail
              go_roundw
              case rel =>
                have hjp : p + 1 = j := by have := HP.out; omega
                have hsw : SwpOf N (swpI N j p HIN.out.1 HIN.out.2) p (p + 1) := by rw [hjp]; exact (swpI_of HIN.out.1 HIN.out.2).symm
                have hx1 : N[p + 1]? = some x := by rw [hjp]; exact HXY.out.1
                have hap : 0 ≤ p := Nat.zero_le _
                refine ⟨p, swpI N j p HIN.out.1 HIN.out.2, rfl, Lib.hid ⟨hap, by have := HJ.out; have := HP.out; omega⟩, Lib.hid ⟨HS3.out.step ?_ ?_, ?_, ?_, by rw [swpI_len]; exact HN.out.2.2.2⟩⟩
                · unfold swpI
                  rw [HX.out, HY.out]
                  exact ((HS3.out.1.put j ⟨k', s', A', n', c'⟩ HIN.out.1).put p ⟨k, s, A, n0, c⟩ (by simpa using HIN.out.2)).drew
                · exact ((put3_keep w3 g (j * 3) (.string k') (.int .i64 s') (.slice A' n' c')).trans' (put3_keep _ g (p * 3) (.string k) (.int .i64 s) (.slice A n0 c)) (fun _ _ h => h)).drew
                · exact HN.out.2.1.trans (swp_mv swoI hsw HXY.out.2 hx1 HNEG.out hap (by have h2 := HLT.out; have h3 := HJ.out; omega))
                · exact srtX_step swoI (by rw [hjp]; exact HN.out.2.2.1) hap hsw HXY.out.2 hx1 HNEG.out
              case measure => have := HP.out; simp [intOf]; omega
            | false =>
              have HNEG : Hid (ltI x y = false) := Lib.hid HRR.out.symm
              go_wp2_with fail
              go_roundw
              case rel =>
                refine ⟨i1, N, rfl, Lib.hid (by have h0 := HI1.out; have h1 := HB2.out; have h2 := HLT.out; have h3 := HB.out; omega), Lib.hid ⟨HS3.out, HN.out.2.1, HI1.out ▸ srtX_end swoI HN.out.2.2.1 (.inr ⟨y, x, ?_, HXY.out.1, HNEG.out⟩)⟩⟩
                rw [show j - 1 = p by have := HP.out; omega]; exact HXY.out.2
              case measure => have := HLT.out; have := HI1.out; simp [intOf]; omega
          · have q2 : ¬ (0 : Int) < (j : Int) := by omega
            have hja : j = 0 := by omega
            subst hja
            clear hj
            go_wp2_with fail
            refine wp_region_G [] Anew (RowS w1 g cap N) (by kernel_rfl) (by kernel_rfl) (by kernel_rfl) Anew.refl (RowS.stays _ _ _ _) HN.out.1.drew ?_
            repeat (first
              | (apply wpG_skip
                 · rfl
                 simp only [Act.put, List.setIfInBounds_toArray, List.set_cons_zero, List.set_cons_succ])
              | (apply wpG_val
                 · rfl
                 · intro u hu
                   clear hu
                   (go_simp <;> with_reducible rfl)
                 simp only [Act.put, List.setIfInBounds_toArray, List.set_cons_zero, List.set_cons_succ]))
            refine wpG_nil ?_
            intro w3 hs3
            have HS3 := Lib.hid hs3
            clear hs3
            go_wp2_with fail
            go_roundw
            case rel => exact ⟨i1, N, rfl, Lib.hid (by have h0 := HI1.out; have h1 := HB2.out; have h2 := HLT.out; have h3 := HB.out; omega), Lib.hid ⟨HS3.out, HN.out.2.1, HI1.out ▸ srtX_end swoI HN.out.2.2.1 (.inl rfl)⟩⟩
            case measure => have := HLT.out; have := HI1.out; simp [intOf]; omega
      · go_wp2_with fail
        go_ret
        have hM : M = srt ltI L := srt_is swoI (by rw [HM.out.2.1.len, HB.out.2.2.2]; exact HM.out.2.2.sub (Nat.le_refl _) (by omega)) HM.out.2.1.stab
        refine ⟨some ⟨g, 0, none⟩, cap, rfl, ?_⟩
        have h1 := HS1.out.rows HM.out.1 HM.out.2.1.len
        rw [hM] at h1
        exact h1
end Go.Proofs.Ytkglkpcpgdeneaa
namespace Go.Proofs.Ytkglkpcpgdeneaa
open Go.RowKit
set_option linter.unusedVariables false

theorem keep_staysA (w : World) : Stays Anew (fun u => Keep (fun j => w.heap.size ≤ j) w u) := fun u u' h k => h.trans' k (fun j _ hf => by have := h.size; omega)
theorem same_call {w u : World} (x y : ItX) (hk : keyX x = keyX y) (h1 : DatI w x.1 x.2) (h2 : DatI w y.1 y.2) (k : Keep (fun j => w.heap.size ≤ j) w u) :
    Calls Try.prog 33 #[.agg #[.string x.1.k, .int .i64 x.1.s, .slice x.1.A x.1.n x.1.c], .agg #[.string y.1.k, .int .i64 y.1.s, .slice y.1.A y.1.n y.1.c]] u fun e u' => e = .returned (.bool true) ∧ Anew u u' := by
  have hb : sameB x.1 y.1 x.2 y.2 = true := by
    unfold keyX at hk
    injection hk with e1 e2
    injection e2 with e2 e3
    unfold sameB
    rw [e1, e2, e3]
    simp
  exact ((St.start u).ref_same x.1 y.1 x.2 y.2 true hb (h1.keep k) (h2.keep k)).mono fun _ _ ⟨g1, g2⟩ => ⟨g1, g2.keep⟩
set_option maxRecDepth 100000 in
set_option maxHeartbeats 8000000 in
theorem ref_sameall (w : World) (a a' : Option Addr) (n n' c c' : Nat) (X Y : List ItX) (hn : X.length = n) (hn' : Y.length = n') (hk : X.map keyX = Y.map keyX) (h1 : RdI w a (X.map Prod.fst)) (h2 : RdI w a' (Y.map Prod.fst)) (hd1 : ∀ x ∈ X, DatI w x.1 x.2) (hd2 : ∀ x ∈ Y, DatI w x.1 x.2) (hb : n ≤ 1000000) :
    Calls Try.prog 19 #[.slice a n c, .slice a' n' c'] w fun e w' => e = .returned (.bool true) ∧ Anew w w' := by
  have hnn : n' = n := by have := congrArg List.length hk; simp at this; omega
  subst hnn
  have HK := Lib.hid (And.intro hk (And.intro hn hn'))
  have HD := Lib.hid (And.intro hd1 hd2)
  have H1 := Lib.hid h1
  have H2 := Lib.hid h2
  have q0 : (n' : Int) ≤ 1000000 := by omega
  clear hk hn hn' hd1 hd2 hb h1 h2
  go_enter Try.func19, Try.ntmps19
  go_wp2_with fail
  go_loopw [5] (fun v5 wr => ∃ i : Nat, i ≤ n' ∧ v5 = .int .i64 i ∧ Hid (Keep (fun j => w.heap.size ≤ j) w wr)) (fun v5 _ => n' - (intOf v5).toNat)
  case atStart => exact ⟨0, Nat.zero_le _, rfl, Lib.hid (Keep.refl _ w)⟩
  case round =>
    obtain ⟨i, hi, rfl, HS⟩ := hrel
    by_cases hlt : i < n'
    · rcases H1.out with ⟨_, h0⟩ | ⟨b1, o1, hA1, hc1⟩
      · have h1 := congrArg List.length h0
        have h2 := HK.out.2.1
        simp at h1
        rw [h1] at h2
        simp at h2
        omega
      rcases H2.out with ⟨_, h0⟩ | ⟨b2, o2, hA2, hc2⟩
      · have h1 := congrArg List.length h0
        have h2 := HK.out.2.2
        simp at h1
        rw [h1] at h2
        simp at h2
        omega
      subst hA1 hA2
      obtain ⟨x, hx⟩ : ∃ x, X[i]? = some x := ⟨_, List.getElem?_eq_getElem (by have := HK.out.2.1; omega)⟩
      obtain ⟨y, hy⟩ : ∃ y, Y[i]? = some y := ⟨_, List.getElem?_eq_getElem (by have := HK.out.2.2; omega)⟩
      have HXY := Lib.hid (show keyX x = keyX y from by
        have h3 := congrArg (·[i]?) HK.out.1
        simp only [List.getElem?_map, hx, hy, Option.map_some, Option.some.injEq] at h3
        exact h3)
      have HDX := Lib.hid (HD.out.1 x (List.mem_of_getElem? hx))
      have HDY := Lib.hid (HD.out.2 y (List.mem_of_getElem? hy))
      have HC1 := Lib.hid (St.itemAt hc1 i x.1 (by rw [List.getElem?_map, hx]; rfl))
      have HC2 := Lib.hid (St.itemAt hc2 i y.1 (by rw [List.getElem?_map, hy]; rfl))
      have HLT := Lib.hid hlt
      have q1 : (i : Int) < (n' : Int) := by omega
      clear hc1 hc2 hx hy hlt
      go_wp2_with fail
      refine wp_region_G [] Anew (fun u => Keep (fun j => w.heap.size ≤ j) w u) (by kernel_rfl) (by kernel_rfl) (by kernel_rfl) Anew.refl (keep_staysA w) HS.out.drew ?_
      repeat (first
        | (apply wpG_skip
           · rfl
           simp only [Act.put, List.setIfInBounds_toArray, List.set_cons_zero, List.set_cons_succ])
        | (apply wpG_val
           · rfl
           · intro u hu
             have x0 := old_cell HC1.out.1 hu
             have x1 := old_cell HC1.out.2.1 hu
             have x2 := old_cell HC1.out.2.2 hu
             have y0 := old_cell HC2.out.1 hu
             have y1 := old_cell HC2.out.2.1 hu
             have y2 := old_cell HC2.out.2.2 hu
             clear hu
             (go_simp <;> with_reducible rfl)
           simp only [Act.put, List.setIfInBounds_toArray, List.set_cons_zero, List.set_cons_succ])
        | (apply wpG_call
           · rfl
           · intro u
             go_simp
             exact ⟨rfl, rfl⟩
           · intro u hu
             exact same_call x y HXY.out HDX.out HDY.out hu
           simp only [Act.put, List.setIfInBounds_toArray, List.set_cons_zero, List.set_cons_succ]))
      refine wpG_nil ?_
      intro w3 hs3
      have HS3 := Lib.hid hs3
      clear hs3
      go_wp2_with fail
      go_roundw
      case rel => exact ⟨i + 1, HLT.out, by go_num, HS3⟩
      case measure => have := HLT.out; simp [intOf]; omega
    · have hin : i = n' := by omega
      subst hin
      clear hlt
      go_wp2_with fail
      go_ret
      exact ⟨rfl, HS.out⟩
end Go.Proofs.Ytkglkpcpgdeneaa
namespace Go.Proofs.Ytkglkpcpgdeneaa
open Go.RowKit
section
variable {w0 w : World} {l : List Part}
/-- A row of the call's own, of n bytes. -/
def u8P (A : Option Addr) (n : Nat) : Part where
  at_ w F := (n = 0 ∨ ∃ g cs, A = some ⟨g, 0, none⟩ ∧ F g ∧ Blk w g 5 cs ∧ ∀ i, i < n → ∃ z : Int, cs[i]? = some (.int .u8 z) ∧ 0 ≤ z ∧ z ≤ 255) ∧ ∀ k, F k → k < w.heap.size
  keep := by
    rintro w w' F G ⟨h, hl⟩ k hd
    refine ⟨?_, fun j hj => Nat.lt_of_lt_of_le (hl j hj) k.size⟩
    rcases h with h | ⟨g, cs, hA, hg, hb, hu⟩
    · exact .inl h
    · exact .inr ⟨g, cs, hA, hg, hb.keep k (hd g hg), hu⟩
  lt h := h.2
theorem u8_in {w : World} {F : Nat → Prop} {A : Option Addr} {n c : Nat} {L : List UInt8} (hF : (ownP 5 1 (.slice A n c) n (bys L)).at_ w F) : (u8P A n).at_ w F := by
  refine ⟨?_, (ownP 5 1 (.slice A n c) n (bys L)).lt hF⟩
  obtain ⟨ho, hown⟩ := hF
  rcases ho.2 with ⟨_, h0⟩ | ⟨g, cap, cur, hv, hg, hh, hc, _, hs, ht⟩
  · exact .inl h0
  · injection hv with hv
    subst hv
    refine .inr ⟨g, cur.toList, rfl, (hown g).2 rfl, by unfold Blk; rw [Array.toArray_toList]; exact hh, fun i hi => ?_⟩
    have hl : L.length = n := by have := ho.1; simpa [bys] using this
    have h1 : (cur.toList.take (n * 1))[i]? = (bys L)[i]? := by rw [ht]
    rw [List.getElem?_take, if_pos (by omega)] at h1
    rw [h1]
    refine ⟨(L[i]'(by omega)).toNat, ?_, by omega, ?_⟩
    · simp [bys, show i < L.length by omega]
    · have := (L[i]'(by omega)).toNat_lt; omega
theorem St.u8_at {A : Option Addr} {n : Nat} (h : St w0 w (u8P A n :: l)) (i : Nat) (hi : i < n) : ∃ g, ∃ z : Int, A = some ⟨g, 0, none⟩ ∧ w.cell? ⟨g, i, none⟩ = some (.int .u8 z) ∧ w.frozen? ⟨g, i, none⟩ = false ∧ 0 ≤ z ∧ z ≤ 255 := by
  obtain ⟨F, ⟨h1, _⟩, _⟩ := h.open_
  rcases h1 with h1 | ⟨g, cs, hA, _, hb, hu⟩
  · omega
  · obtain ⟨z, hz, h0, h1⟩ := hu i hi
    exact ⟨g, z, hA, by rw [hb.cell, hz], hb.free i, h0, h1⟩
theorem St.u8_set {g n : Nat} (h : St w0 w (u8P (some ⟨g, 0, none⟩) n :: l)) (i : Nat) (hi : i < n) (z : Int) (h0 : 0 ≤ z) (h1 : z ≤ 255) : St w0 (w.setCell ⟨g, i, none⟩ (.int .u8 z)) (u8P (some ⟨g, 0, none⟩) n :: l) := by
  obtain ⟨F, ⟨q1, q2⟩, _, h3, _⟩ := h.open_
  rcases q1 with q1 | ⟨g', cs, hA, hg, hb, hu⟩
  · omega
  · injection hA with hA
    injection hA with hA
    subst hA
    refine h3 _ (u8P (some ⟨g, 0, none⟩) n) ((Keep.refl F w).setCell (p := ⟨g, i, none⟩) (.inl hg) _) ⟨.inr ⟨g, _, rfl, .inl hg, hb.set i (.int .u8 z), fun j hj => ?_⟩, fun k hk => ?_⟩
    · obtain ⟨z', hz', h0', h1'⟩ := hu j hj
      have hlt : j < cs.length := (List.getElem?_eq_some_iff.1 hz').1
      by_cases e : i = j
      · subst e
        exact ⟨z, by rw [List.getElem?_set_self hlt], h0, h1⟩
      · exact ⟨z', by rw [List.getElem?_set_ne e, hz'], h0', h1'⟩
    · have e : (w.setCell ⟨g, i, none⟩ (.int .u8 z)).heap.size = w.heap.size := by simp [World.setCell]
      rcases hk with hk | hk
      · rw [e]; exact q2 k hk
      · exact hk.2
theorem xor255 (z : Int) (h0 : 0 ≤ z) (h1 : z ≤ 255) : 0 ≤ bits .xor .u8 z 255 ∧ bits .xor .u8 z 255 ≤ 255 := by
  rw [u8_xor z 255 h0 (by omega) (by omega) (by omega)]
  have : z.toNat ^^^ (255 : Int).toNat < 2 ^ 8 := Nat.xor_lt_two_pow (by omega) (by decide)
  omega

theorem St.all_in {α : Type} {f g : α → Part} (hfg : ∀ x w F, (f x).at_ w F → (g x).at_ w F) {X : List α} (h : St w0 w (allP (X.map f) :: l)) : St w0 w (allP (X.map g) :: l) :=
  h.in_ (p := allP (X.map g)) (fun F hF => by
    have go : ∀ (X : List α) (F : Nat → Prop), Parts w 0 (X.map f) F → Parts w 0 (X.map g) F := by
      intro X
      induction X with
      | nil => exact fun F h => h
      | cons x X ih =>
        rintro F ⟨G, H, h1, h2, h3, h4, h5⟩
        exact ⟨G, H, hfg _ _ _ h1, h2, ih _ h3, h4, h5⟩
    exact go X F hF)
/-- The bytes of items as whatever bytes. -/
def uP (x : It) : Part := u8P x.A x.n
theorem St.its_u {A : Option Addr} {c : Nat} {X : List ItX} (h : St w0 w (itsP A c X :: l)) : St w0 w (ownP 44 3 (.slice A X.length c) X.length (flatI (X.map Prod.fst)) :: allP ((X.map Prod.fst).map uP) :: l) := by
  have h1 := h.its.swap
  have h2 : St w0 w (allP (X.map fun x => uP x.1) :: _) := h1.all_in (f := datP) (g := fun x => uP x.1) (fun x w F hF => u8_in hF)
  rw [List.map_map]
  exact h2.swap
end
end Go.Proofs.Ytkglkpcpgdeneaa
