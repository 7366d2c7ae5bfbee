/- The plain law of a former over a store that does not fail: its runs. Conditions: none. -/
import Derived.Test.YtkglkpcpgdeneaaLaw16S
namespace Go.Proofs.Ytkglkpcpgdeneaa
open Go.RowKit
set_option linter.unusedVariables false
set_option linter.unusedSimpArgs false

def runsC : Nat → List (List K3i) → List (Int × List UInt8)
  | _, [] => []
  | n, c :: r => ((n : Int), flatK c) :: runsC (n + 1) r
def totC (C : List (List K3i)) : Nat := (C.map sumK).sum
def cntC (C : List (List K3i)) : Nat := (C.map List.length).sum
theorem totC_app (C D : List (List K3i)) : totC (C ++ D) = totC C + totC D := by simp [totC]
theorem cntC_app (C D : List (List K3i)) : cntC (C ++ D) = cntC C + cntC D := by simp [cntC]
theorem totC_one (c : List K3i) : totC [c] = sumK c := by simp [totC]
theorem cntC_one (c : List K3i) : cntC [c] = c.length := by simp [cntC]
theorem runsC_app : ∀ (n : Nat) (C D : List (List K3i)), runsC n (C ++ D) = runsC n C ++ runsC (n + C.length) D
  | n, [], D => by simp [runsC]
  | n, c :: r, D => by
    rw [List.cons_append, runsC, runsC, runsC_app (n + 1) r D, List.length_cons, List.cons_append]
    rw [show n + 1 + r.length = n + (r.length + 1) by omega]
theorem runsC_find : ∀ (n : Nat) (C : List (List K3i)) (j : Nat) (c : List K3i), C[j]? = some c → ((runsC n C).find? fun p => p.1 == ((n + j : Nat) : Int)) = some (((n + j : Nat) : Int), flatK c)
  | n, [], j, c, h => by simp at h
  | n, d :: r, 0, c, h => by
    simp at h
    subst h
    rw [runsC, List.find?_cons_of_pos (by simp), Nat.add_zero]
  | n, d :: r, j + 1, c, h => by
    have ih := runsC_find (n + 1) r j c (by simpa using h)
    rw [runsC, List.find?_cons_of_neg (by simp; omega), show n + (j + 1) = n + 1 + j by omega]
    exact ih
theorem runsC_keep (b : List UInt8) : ∀ (n : Nat) (C : List (List K3i)) (id : Int), ((n + C.length : Nat) : Int) ≤ id → ((runsC n C).map fun p => if p.1 == id then (p.1, p.2 ++ b) else p) = runsC n C
  | n, [], id, h => rfl
  | n, c :: r, id, h => by
    rw [runsC, List.map_cons, runsC_keep b (n + 1) r id (by rw [List.length_cons] at h; omega), if_neg (by simp; rw [List.length_cons] at h; omega)]
/-- The store that has these runs. -/
def SMM (C : List (List K3i)) : StoreM := ⟨16777216, (C.length : Nat), (totC C : Nat), (totC C : Nat), (cntC C : Nat), [], runsC 0 C⟩
theorem SMM_find {C : List (List K3i)} {j : Nat} {c : List K3i} (h : C[j]? = some c) : (SMM C).find (j : Int) = some (flatK c) := by
  unfold StoreM.find SMM
  have := runsC_find 0 C j c h
  rw [Nat.zero_add] at this
  simp only
  rw [this]
  rfl
theorem SMM_create {C : List (List K3i)} (h : C.length < 65536) : (SMM C).create = SMM (C ++ [[]]) := by
  unfold StoreM.create
  rw [if_neg (by show ¬ ((C.length : Nat) : Int) ≥ 65536; omega)]
  unfold SMM
  rw [runsC_app, totC_app, cntC_app, List.length_append]
  simp [runsC, totC, cntC, flatK, sumK]
theorem SMM_add (C : List (List K3i)) (D : List K3i) (x : K3i) (h : totC C + sumK D + lenK x ≤ 16777216) : (SMM (C ++ [D])).appendE (C.length : Nat) (encK x) = 0 ∧ (SMM (C ++ [D])).append (C.length : Nat) (encK x) = SMM (C ++ [D ++ [x]]) := by
  have hf : (SMM (C ++ [D])).find (C.length : Nat) = some (flatK D) := SMM_find (by rw [List.getElem?_append_right (Nat.le_refl _), Nat.sub_self]; rfl)
  have h1 : ¬ ((encK x).length : Int) > 16777216 - ((totC (C ++ [D]) : Nat) : Int) := by rw [encK_len, totC_app, totC_one]; omega
  constructor
  · unfold StoreM.appendE
    rw [hf]
    show (if ((cntC (C ++ [D]) : Nat) : Int) ∈ ([] : List Int) then 13 else if ((encK x).length : Int) > 16777216 - ((totC (C ++ [D]) : Nat) : Int) then 12 else (0 : Int)) = 0
    rw [if_neg (by simp), if_neg h1]
  · unfold StoreM.append
    rw [hf]
    show (if ((cntC (C ++ [D]) : Nat) : Int) ∈ ([] : List Int) then _ else if ((encK x).length : Int) > 16777216 - ((totC (C ++ [D]) : Nat) : Int) then _ else (SMM (C ++ [D])).add (C.length : Nat) (encK x)) = _
    rw [if_neg (by simp), if_neg h1]
    unfold StoreM.add SMM
    have e1 : sumK (D ++ [x]) = sumK D + lenK x := by rw [sumK_app]; simp [sumK]
    simp only [runsC_app, List.map_append, totC_app, totC_one, cntC_app, cntC_one, e1, encK_len, List.length_append, List.length_singleton]
    rw [runsC_keep _ 0 C _ (by omega)]
    have e2 : (runsC (0 + C.length) [D]).map (fun p => if p.1 == ((C.length : Nat) : Int) then (p.1, p.2 ++ encK x) else p) = runsC (0 + C.length) [D ++ [x]] := by
      simp [runsC, flatK_app, flatK_one]
    rw [e2]
    congr 1 <;> omega
theorem writeL_SMM (C : List (List K3i)) : ∀ (L D : List K3i), totC C + sumK D + sumK L ≤ 16777216 → writeL (C.length : Nat) (SMM (C ++ [D])) L = (SMM (C ++ [D ++ L]), 0)
  | [], D, _ => by rw [List.append_nil]; rfl
  | x :: r, D, h => by
    rw [sumK_cons] at h
    obtain ⟨h1, h2⟩ := SMM_add C D x (by omega)
    have ih := writeL_SMM C r (D ++ [x]) (by rw [sumK_app]; simp [sumK] at h ⊢; omega)
    rw [writeL, h1, h2, if_pos rfl, ih, List.append_assoc]
    rfl
theorem wrS_SMM (C : List (List K3i)) (H : List K3i) (h1 : C.length < 65536) (h2 : totC C + sumK H ≤ 16777216) : wrS (SMM C) H = (SMM (C ++ [srt ltK H]), 0) := by
  unfold wrS
  rw [if_pos (by show ((C.length : Nat) : Int) < 65536; omega), SMM_create h1]
  have := writeL_SMM C (srt ltK H) [] (by rw [srtK_sum]; simp [sumK] at h2 ⊢; omega)
  rwa [List.nil_append] at this
def idsC (n : Nat) : List Int := (List.range n).map fun j => ((j : Nat) : Int)
theorem idsC_succ (n : Nat) : idsC (n + 1) = idsC n ++ [(n : Int)] := by unfold idsC; rw [List.range_succ, List.map_append]; rfl
theorem idsC_len (n : Nat) : (idsC n).length = n := by simp [idsC]
theorem idsC_get (n j : Nat) (h : j < n) : (ints (idsC n))[j]? = some (.int .i64 (j : Int)) := by simp [ints, idsC, h]
def FMC (C : List (List K3i)) (H : List K3i) : FM := ⟨SMM C, H, idsC C.length, 0⟩
theorem flush_FMC (C : List (List K3i)) (H : List K3i) (h1 : C.length < 65536) (h2 : totC C + sumK H ≤ 16777216) : (FMC C H).flush = FMC (C ++ [srt ltK H]) [] := by
  unfold FM.flush FMC
  simp only [if_true]
  rw [wrS_SMM C H h1 h2]
  simp only [if_true]
  rw [List.length_append, List.length_singleton, idsC_succ]
  rfl
theorem swoK : SWO ltK := ⟨fun x y => swoI.asym ⟨x.1, x.2.1, none, 0, 0⟩ ⟨y.1, y.2.1, none, 0, 0⟩, fun x y z => swoI.ntr ⟨x.1, x.2.1, none, 0, 0⟩ ⟨y.1, y.2.1, none, 0, 0⟩ ⟨z.1, z.2.1, none, 0, 0⟩⟩
/-- A run: sorted items that may be. -/
def RunOk (c : List K3i) : Prop := c.Pairwise (fun x y => ltK y x = false) ∧ ∀ x ∈ c, mayK x = true
theorem RunOk.srt {H : List K3i} (h : ∀ x ∈ H, mayK x = true) : RunOk (srt ltK H) := ⟨srt_sorted swoK H, fun x hx => h x ((srt_perm H).mem_iff.1 hx)⟩
structure CInv (k : Nat) (C : List (List K3i)) (H : List K3i) (N T : Nat) : Prop where
  full : ∀ c ∈ C, c.length = k ∧ RunOk c
  held : H.length < k
  may : ∀ x ∈ H, mayK x = true
  cnt : k * C.length + H.length = N
  tot : totC C + sumK H = T
theorem cnt_full (k : Nat) : ∀ (C : List (List K3i)), (∀ c ∈ C, c.length = k) → cntC C = k * C.length
  | [], _ => rfl
  | c :: r, h => by
    have ih := cnt_full k r (fun d hd => h d (List.mem_cons_of_mem _ hd))
    have h1 := h c List.mem_cons_self
    show ((c :: r).map List.length).sum = _
    rw [List.map_cons, List.sum_cons, h1, List.length_cons, Nat.mul_succ]
    show k + cntC r = _
    omega
theorem addL_FMC (k : Nat) : ∀ (K : List K3i) (C : List (List K3i)) (H : List K3i) (N T : Nat), CInv k C H N T → (∀ x ∈ K, mayK x = true) → T + sumK K ≤ 16777216 → N + K.length < 65536 →
    ∃ C' H', (FMC C H).addL (k : Int) K = (FMC C' H', 0) ∧ CInv k C' H' (N + K.length) (T + sumK K)
  | [], C, H, N, T, hI, _, _, _ => ⟨C, H, rfl, by simpa [sumK] using hI⟩
  | x :: r, C, H, N, T, hI, hm, hT, hN => by
    have hk : 0 < k := by have := hI.held; omega
    rw [sumK_cons] at hT ⊢
    rw [List.length_cons] at hN ⊢
    have hmx := hm x List.mem_cons_self
    have hmr : ∀ y ∈ r, mayK y = true := fun y hy => hm y (List.mem_cons_of_mem _ hy)
    have hCl : C.length < 65536 := by
      have h1 := hI.cnt
      have h2 : C.length ≤ k * C.length := Nat.le_mul_of_pos_left _ hk
      omega
    have hmH : ∀ y ∈ H ++ [x], mayK y = true := fun y hy => by
      rcases List.mem_append.1 hy with h | h
      · exact hI.may y h
      · rw [List.mem_singleton.1 h]; exact hmx
    have hsH : sumK (H ++ [x]) = sumK H + lenK x := by rw [sumK_app]; simp [sumK]
    by_cases hlt : H.length + 1 < k
    · have hadd : (FMC C H).add (k : Int) x = (FMC C (H ++ [x]), 0) := by
        unfold FM.add
        rw [if_pos hmx]
        show (if ((H.length + 1 : Nat) : Int) < (k : Int) then _ else _) = _
        rw [if_pos (by omega)]
        rfl
      have hI2 : CInv k C (H ++ [x]) (N + 1) (T + lenK x) := ⟨hI.full, by simp; omega, hmH, by have := hI.cnt; simp; omega, by have := hI.tot; rw [hsH]; omega⟩
      obtain ⟨C', H', h1, h2⟩ := addL_FMC k r C (H ++ [x]) (N + 1) (T + lenK x) hI2 hmr (by omega) (by omega)
      refine ⟨C', H', ?_, by rw [show N + (r.length + 1) = N + 1 + r.length by omega, show T + (lenK x + sumK r) = T + lenK x + sumK r by omega]; exact h2⟩
      rw [FM.addL_cons, hadd]
      show (if (0 : Int) = 0 then (if (0 : Int) = 0 then _ else _) else _) = _
      rw [if_pos rfl, if_pos rfl]
      exact h1
    · have hfl : (FMC C (H ++ [x])).flush = FMC (C ++ [srt ltK (H ++ [x])]) [] := flush_FMC C (H ++ [x]) hCl (by have := hI.tot; rw [hsH]; omega)
      have hadd : (FMC C H).add (k : Int) x = (FMC (C ++ [srt ltK (H ++ [x])]) [], 0) := by
        unfold FM.add
        rw [if_pos hmx]
        show (if ((H.length + 1 : Nat) : Int) < (k : Int) then _ else ((FMC C (H ++ [x])).flush, (FMC C (H ++ [x])).flush.bad)) = _
        rw [if_neg (by omega), hfl]
        rfl
      have hI2 : CInv k (C ++ [srt ltK (H ++ [x])]) [] (N + 1) (T + lenK x) := by
        have h1 := hI.held
        refine ⟨fun c hc => ?_, hk, (fun y hy => by cases hy), ?_, ?_⟩
        · rcases List.mem_append.1 hc with h | h
          · exact hI.full c h
          · rw [List.mem_singleton.1 h]
            refine ⟨?_, RunOk.srt hmH⟩
            rw [srtK_len]
            simp
            omega
        · have := hI.cnt
          rw [List.length_append, List.length_singleton, Nat.mul_succ]
          simp
          omega
        · have := hI.tot
          rw [totC_app, totC_one, srtK_sum, hsH]
          simp [sumK] at this ⊢
          omega
      obtain ⟨C', H', h1, h2⟩ := addL_FMC k r (C ++ [srt ltK (H ++ [x])]) [] (N + 1) (T + lenK x) hI2 hmr (by omega) (by omega)
      refine ⟨C', H', ?_, by rw [show N + (r.length + 1) = N + 1 + r.length by omega, show T + (lenK x + sumK r) = T + lenK x + sumK r by omega]; exact h2⟩
      rw [FM.addL_cons, hadd]
      show (if (0 : Int) = 0 then (if (0 : Int) = 0 then _ else _) else _) = _
      rw [if_pos rfl, if_pos rfl]
      exact h1
/-- All runs in the end. -/
structure CEnd (k : Nat) (C : List (List K3i)) (N T : Nat) : Prop where
  run : ∀ (i : Nat) (c : List K3i), C[i]? = some c → RunOk c ∧ 0 < c.length ∧ c.length ≤ k ∧ (i + 1 < C.length → c.length = k)
  num : C.length = (N + k - 1) / k
  cnt : cntC C = N
  tot : totC C = T
theorem shut_FMC {k : Nat} {C : List (List K3i)} {H : List K3i} {N T : Nat} (hI : CInv k C H N T) (hT : T ≤ 16777216) (hN : N < 65536) : ∃ C', (FMC C H).shut = FMC C' [] ∧ CEnd k C' N T := by
  have hk : 0 < k := by have := hI.held; omega
  have hCl : C.length < 65536 := by
    have h1 := hI.cnt
    have h2 : C.length ≤ k * C.length := Nat.le_mul_of_pos_left _ hk
    omega
  have hcf := cnt_full k C (fun c hc => (hI.full c hc).1)
  by_cases hH : H = []
  · subst hH
    refine ⟨C, by unfold FM.shut; rw [if_neg (fun h => h.2 rfl)], fun i c hc => ?_, ?_, ?_, ?_⟩
    · obtain ⟨h1, h2⟩ := hI.full c (List.mem_of_getElem? hc)
      exact ⟨h2, by omega, by omega, fun _ => h1⟩
    · have h1 := hI.cnt
      simp at h1
      rw [← h1, show k * C.length + k - 1 = (k - 1) + k * C.length by omega, Nat.add_mul_div_left _ _ hk, Nat.div_eq_of_lt (by omega), Nat.zero_add]
    · rw [hcf]; have := hI.cnt; simpa using this
    · have := hI.tot; simpa [sumK] using this
  · have hl : 0 < H.length := List.length_pos_iff.2 hH
    refine ⟨C ++ [srt ltK H], by unfold FM.shut; rw [if_pos ⟨rfl, hH⟩]; exact flush_FMC C H hCl (by have := hI.tot; omega), fun i c hc => ?_, ?_, ?_, ?_⟩
    · rcases Nat.lt_or_ge i C.length with h | h
      · rw [List.getElem?_append_left h] at hc
        obtain ⟨h1, h2⟩ := hI.full c (List.mem_of_getElem? hc)
        exact ⟨h2, by omega, by omega, fun _ => h1⟩
      · rw [List.getElem?_append_right h] at hc
        have hc2 : c = srt ltK H := by
          have := List.mem_of_getElem? hc
          exact List.mem_singleton.1 this
        have hi : i - C.length < 1 := (List.getElem?_eq_some_iff.1 hc).1
        subst hc2
        have h3 := hI.held
        refine ⟨RunOk.srt hI.may, by rw [srtK_len]; exact hl, by rw [srtK_len]; omega, fun h4 => ?_⟩
        simp at h4
        omega
    · have h1 := hI.cnt
      have h2 := hI.held
      rw [List.length_append, List.length_singleton, ← h1, show k * C.length + H.length + k - 1 = (H.length - 1) + k * (C.length + 1) by rw [Nat.mul_succ]; omega, Nat.add_mul_div_left _ _ hk, Nat.div_eq_of_lt (by omega), Nat.zero_add]
    · rw [cntC_app, cntC_one, srtK_len, hcf]; exact hI.cnt
    · rw [totC_app, totC_one, srtK_sum]; exact hI.tot
end Go.Proofs.Ytkglkpcpgdeneaa
