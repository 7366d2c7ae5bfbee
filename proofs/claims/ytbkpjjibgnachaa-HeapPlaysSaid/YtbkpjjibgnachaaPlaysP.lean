/- The plain law of a heap and a list that hold the same. No program in sight. Conditions: none. -/
import Derived.Test.YtbkpjjibgnachaaHeapS
namespace Go.Proofs.Ytbkpjjibgnachaa

/-- What an entry holds. -/
def ct (f : En → List UInt8) (e : En) : K3 × List UInt8 := (rk e, f e)
theorem plays_push (f : En → List UInt8) {H l : List En} (e : En) (hp : (H.map (ct f)).Perm (l.map (ct f))) : ((pushE H e).map (ct f)).Perm ((l ++ [e]).map (ct f)) := by
  refine ((push_perm H e).map _).trans ?_
  rw [List.map_cons, List.map_append]
  exact (hp.cons _).trans (List.perm_append_singleton _ _).symm
theorem plays_pop (f : En → List UInt8) {H l : List En} (hp : (H.map (ct f)).Perm (l.map (ct f))) (hl : 0 < H.length) (n : Nat) (hn : n < l.length) (he : ct f (gE l n) = ct f (gE H 0)) :
    ((popE H).map (ct f)).Perm ((l.take n ++ l.drop (n + 1)).map (ct f)) := by
  have h1 : (l[n] :: (l.take n ++ l.drop (n + 1))).Perm l := by
    have h2 : l.take n ++ l[n] :: l.drop (n + 1) = l := by rw [← List.drop_eq_getElem_cons hn, List.take_append_drop]
    have h3 : (l.take n ++ l[n] :: l.drop (n + 1)).Perm (l[n] :: (l.take n ++ l.drop (n + 1))) := List.perm_middle
    rw [h2] at h3
    exact h3.symm
  have h4 := ((pop_perm H hl).map (ct f)).trans (hp.trans (h1.map (ct f)).symm)
  simp only [List.map_cons] at h4
  rw [← he, gE_eq l n hn] at h4
  exact h4.cons_inv
theorem plays_in (f : En → List UInt8) {H l : List En} (hp : (H.map (ct f)).Perm (l.map (ct f))) (hl : 0 < H.length) : ∃ n, n < l.length ∧ ct f (gE l n) = ct f (gE H 0) := by
  obtain ⟨e, he, hr⟩ := List.mem_map.1 (hp.subset (List.mem_map_of_mem (gE_mem hl)))
  obtain ⟨n, hn, rfl⟩ := List.getElem_of_mem he
  exact ⟨n, hn, by rw [gE_eq l n hn]; exact hr⟩
theorem plays_rk (f : En → List UInt8) {H l : List En} (hp : (H.map (ct f)).Perm (l.map (ct f))) : (H.map rk).Perm (l.map rk) := by
  have h := hp.map Prod.fst
  simp only [List.map_map] at h
  exact h
/-- The least of the list and the heap's are alike. -/
theorem plays_least (f : En → List UInt8) {H l : List En} (hO : Ord H) (hp : (H.map (ct f)).Perm (l.map (ct f))) (hl : 0 < H.length) (k : Nat) (hk : k < l.length) (hm : ∀ j, j < l.length → ltN (gE l j) (gE l k) = false) :
    ltN (gE H 0) (gE l k) = false ∧ ltN (gE l k) (gE H 0) = false := by
  have hr := plays_rk f hp
  constructor
  · obtain ⟨n, hn, he⟩ := plays_in f hp hl
    have := hm n hn
    rwa [ltN_rk (congrArg Prod.fst he : rk (gE l n) = rk (gE H 0)) (rfl : rk (gE l k) = rk (gE l k))] at this
  · obtain ⟨e, he, hr2⟩ := List.mem_map.1 (hr.symm.subset (List.mem_map_of_mem (show gE l k ∈ l by rw [gE_eq l k hk]; exact List.getElem_mem _)))
    have := hO.min e he
    rwa [ltN_rk hr2 (rfl : rk (gE H 0) = rk (gE H 0))] at this
end Go.Proofs.Ytbkpjjibgnachaa
