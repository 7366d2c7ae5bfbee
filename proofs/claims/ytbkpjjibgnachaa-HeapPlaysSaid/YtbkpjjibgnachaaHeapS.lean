/- The plain law of two heaps that hold the same ranks. No program in sight. Conditions: none. -/
import Derived.Test.YtbkpjjibgnachaaHeapP
namespace Go.Proofs.Ytbkpjjibgnachaa

def pushAll (L : List En) : List En := L.foldl pushE []
theorem pushAll_succ (L : List En) (i : Nat) (h : i < L.length) : pushAll (L.take (i + 1)) = pushE (pushAll (L.take i)) (gE L i) := by
  rw [List.take_succ_eq_append_getElem h, pushAll, List.foldl_append, ← gE_eq L i h]; rfl
theorem foldl_push (L : List En) : ∀ H : List En, Ord H → Ord (L.foldl pushE H) ∧ (L.foldl pushE H).Perm (H ++ L) ∧ (L.foldl pushE H).length = H.length + L.length := by
  induction L with
  | nil => intro H h; exact ⟨h, by simp, rfl⟩
  | cons e L ih =>
    intro H h
    obtain ⟨h1, h2, h3⟩ := ih (pushE H e) (push_ord e h)
    refine ⟨h1, ?_, ?_⟩
    · refine h2.trans (((push_perm H e).append_right L).trans ?_)
      exact List.perm_middle.symm
    · show (L.foldl pushE (pushE H e)).length = _
      rw [h3, push_len]; simp; omega
theorem ord_nil : Ord [] := fun i _ h => absurd h (by simp)
theorem pushAll_ord (L : List En) : Ord (pushAll L) := (foldl_push L [] ord_nil).1
theorem pushAll_perm (L : List En) : (pushAll L).Perm L := (foldl_push L [] ord_nil).2.1
theorem pushAll_len (L : List En) : (pushAll L).length = L.length := by have h := (foldl_push L [] ord_nil).2.2; rw [List.length_nil, Nat.zero_add] at h; exact h
theorem Ord.min {L : List En} (h : Ord L) (e : En) (he : e ∈ L) : ltN e (gE L 0) = false := by
  obtain ⟨i, hi, rfl⟩ := List.getElem_of_mem he
  rw [← gE_eq L i hi]
  exact h.root i hi
theorem gE_mem {L : List En} (h : 0 < L.length) : gE L 0 ∈ L := by rw [gE_eq L 0 h]; exact List.getElem_mem _
theorem pop_min {L : List En} (h : Ord L) (hl : 0 < L.length) (e : En) (he : e ∈ popE L) : ltN e (gE L 0) = false :=
  h.min e ((pop_perm L hl).subset (List.mem_cons_of_mem _ he))
theorem pair_le {A B : List En} (hB : Ord B) (hp : (A.map rk).Perm (B.map rk)) (hl : 0 < A.length) : ltN (gE A 0) (gE B 0) = false := by
  obtain ⟨b, hb, hr⟩ := List.mem_map.1 (hp.subset (List.mem_map_of_mem (gE_mem hl)))
  have := hB.min b hb
  rwa [ltN_rk hr (rfl : rk (gE B 0) = rk (gE B 0))] at this
theorem pair_eq {A B : List En} (hA : Ord A) (hB : Ord B) (hp : (A.map rk).Perm (B.map rk)) (hl : 0 < A.length) : ltN (gE A 0) (gE B 0) = false ∧ ltN (gE B 0) (gE A 0) = false ∧ ((popE A).map rk).Perm ((popE B).map rk) := by
  have hlb : 0 < B.length := by have := hp.length_eq; simp at this; omega
  have h1 := pair_le hB hp hl
  have h2 := pair_le hA hp.symm hlb
  refine ⟨h1, h2, ?_⟩
  have h3 := ((pop_perm A hl).map rk).trans (hp.trans ((pop_perm B hlb).map rk).symm)
  simp only [List.map_cons] at h3
  rw [ltN_eq h1 h2] at h3
  exact h3.cons_inv
end Go.Proofs.Ytbkpjjibgnachaa
