/- What a store's runs are behind create, append and drop. No program in sight. Conditions: none. -/
import Derived.Test.YtbkpjjibgnachaaStoreM
namespace Go.Proofs.Ytbkpjjibgnachaa
namespace StoreM
theorem find_create {S : StoreM} (h : S.Ok) (hn : S.next < 65536) (id : Int) : S.create.find id = if id = S.next then some [] else S.find id := by
  unfold create
  rw [if_neg (by omega)]
  unfold find
  simp only [List.find?_append]
  have h1 := find_next h
  by_cases c : id = S.next
  · subst c
    rw [h1, if_pos rfl]
    simp
  · rw [if_neg c]
    have : ([(S.next, ([] : List UInt8))].find? fun p => p.1 == id) = none := by
      rw [List.find?_eq_none]
      intro p hp
      rw [List.mem_singleton.1 hp]
      simp
      exact fun e => c e.symm
    rw [this, Option.or_none]
theorem find_add (S : StoreM) (n : Int) (b : List UInt8) (id : Int) : (S.add n b).find id = (S.find id).map fun x => if id = n then x ++ b else x := by
  unfold add find
  simp only [List.find?_map]
  have e : ((fun p : Int × List UInt8 => p.1 == id) ∘ fun p => if (p.1 == n) = true then (p.1, p.2 ++ b) else p) = fun p => p.1 == id := by
    funext p
    simp only [Function.comp]
    split <;> rfl
  rw [e]
  cases h : S.runs.find? fun p => p.1 == id with
  | none => rfl
  | some p =>
    have hp := List.find?_some h
    simp only [beq_iff_eq] at hp
    simp only [Option.map_some]
    rw [hp]
    by_cases c : id = n
    · simp [c]
    · simp [c]
theorem find_drop {S : StoreM} (h : S.Ok) (n id : Int) : (S.drop n).find id = if id = n then none else S.find id := by
  unfold drop
  cases hf : S.find n with
  | none =>
    simp only
    split
    · rename_i c; rw [c]; exact hf
    · rfl
  | some b =>
    simp only
    unfold find
    have hids := h.ids
    generalize S.runs = R at hids ⊢
    clear hf h
    induction R with
    | nil => simp
    | cons p R ih =>
      rw [List.pairwise_cons] at hids
      by_cases c : p.1 = n
      · rw [List.eraseP_cons_of_pos (by simpa using c)]
        by_cases c2 : id = n
        · rw [if_pos c2]
          have : (R.find? fun q => q.1 == id) = none := by
            rw [List.find?_eq_none]
            intro q hq
            have := hids.1 q hq
            simp
            rw [c2, ← c]
            exact fun e => this e.symm
          rw [this]; rfl
        · rw [if_neg c2, List.find?_cons_of_neg (by simp; rw [c]; exact fun e => c2 e.symm)]
      · rw [List.eraseP_cons_of_neg (by simpa using c)]
        by_cases c3 : p.1 = id
        · rw [List.find?_cons_of_pos (by simpa using c3), List.find?_cons_of_pos (by simpa using c3), if_neg (by rw [← c3]; exact c)]
        · rw [List.find?_cons_of_neg (by simpa using c3), List.find?_cons_of_neg (by simpa using c3)]
          exact ih hids.2
def dropE' (S : StoreM) (n : Int) : Int := if (S.find n).isSome then 0 else 14
theorem create_ok {S : StoreM} (hn : S.next < 65536) : S.create.next = S.next + 1 ∧ S.create.used = S.used ∧ S.create.room = S.room ∧ S.create.writes = S.writes ∧ S.create.fails = S.fails ∧ S.create.peak = S.peak := by
  unfold create
  rw [if_neg (by omega)]
  exact ⟨rfl, rfl, rfl, rfl, rfl, rfl⟩
end StoreM
end Go.Proofs.Ytbkpjjibgnachaa
