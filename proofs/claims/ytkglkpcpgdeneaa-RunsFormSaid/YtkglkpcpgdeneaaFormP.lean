/- The plain law of a former beside the reference: bounds, and what is found again. Conditions: none. -/
import Derived.Test.YtkglkpcpgdeneaaFlushR
namespace Go.Proofs.Ytkglkpcpgdeneaa
open Go.RowKit
set_option linter.unusedVariables false
set_option linter.unusedSimpArgs false

theorem writeL_used (id : Int) : ∀ (L : List K3i) (S : StoreM), (writeL id S L).1.used ≤ S.used + sumK L
  | [], S => by simp [writeL, sumK]
  | x :: r, S => by
    have h1 := append_used S id (encK x)
    rw [encK_len] at h1
    rw [sumK_cons]
    unfold writeL
    split
    · have h2 := writeL_used id r (S.append id (encK x))
      omega
    · simp only
      omega
theorem create_used (S : StoreM) : S.create.used = S.used := by
  unfold StoreM.create
  split <;> rfl
theorem wrS_used (S : StoreM) (L : List K3i) : (wrS S L).1.used ≤ S.used + sumK L := by
  unfold wrS
  split
  · have h1 := writeL_used S.next (srt ltK L) S.create
    rw [srtK_sum, create_used] at h1
    exact h1
  · simp only
    omega
/-- What has been found is found. -/
theorem find_create_keep {S : StoreM} {id : Int} (h : S.find id ≠ none) : S.create.find id ≠ none := by
  unfold StoreM.create
  split
  · exact h
  · unfold StoreM.find at h ⊢
    show ((S.runs ++ [(S.next, [])]).find? fun p : Int × List UInt8 => p.1 == id).map Prod.snd ≠ none
    rw [List.find?_append]
    intro e
    apply h
    cases hf : S.runs.find? (fun p => p.1 == id) with
    | none => rfl
    | some p => rw [hf] at e; simp at e
theorem find_append_keep {S : StoreM} {id n : Int} {b : List UInt8} (h : S.find id ≠ none) : (S.append n b).find id ≠ none := by
  unfold StoreM.append
  split
  · exact h
  · split
    · exact h
    · split
      · exact h
      · unfold StoreM.find at h ⊢
        unfold StoreM.add
        intro e
        apply h
        rw [Option.map_eq_none_iff] at e ⊢
        rw [List.find?_eq_none] at e ⊢
        intro p hp hpe
        have h1 := e _ (List.mem_map_of_mem hp)
        apply h1
        show ((if p.1 == n then (p.1, p.2 ++ b) else p).1 == id) = true
        split <;> exact hpe
theorem find_write_keep {id n : Int} : ∀ (L : List K3i) {S : StoreM}, S.find id ≠ none → (writeL n S L).1.find id ≠ none
  | [], S, h => h
  | x :: r, S, h => by
    unfold writeL
    split
    · exact find_write_keep r (find_append_keep h)
    · exact find_append_keep h
theorem find_wrS_keep {S : StoreM} {L : List K3i} {id : Int} (h : S.find id ≠ none) : (wrS S L).1.find id ≠ none := by
  unfold wrS
  split
  · exact find_write_keep _ (find_create_keep h)
  · exact h
theorem find_wrS_new {S : StoreM} {L : List K3i} (hok : S.Ok) (hn : S.next < 65536) : (wrS S L).1.find S.next ≠ none := by
  unfold wrS
  rw [if_pos hn]
  refine find_write_keep _ ?_
  rw [find_create hok hn]
  exact fun h => by cases h
/-- What a former's model is in, all along. -/
structure FInv (bud : Int) (F : FM) (i m : Nat) : Prop where
  bd : F.Bd 0 i m
  may : F.May
  held : F.bad = 0 → (F.held.length : Int) < bud
  used : F.S.used + (if F.bad = 0 then sumK F.held else 0 : Nat) ≤ m
  ids : ∀ id ∈ F.ids, F.S.find id ≠ none
/-- One item: what a former and the law make of it. -/
def stepF (bud : Int) (F : FM) (x : K3i) : FM × Int := if F.bad = 0 then F.add bud x else (F, F.bad)
theorem addL_one (bud : Int) (F : FM) (x : K3i) : F.addL bud [x] = stepF bud F x := by
  rw [FM.addL_cons]
  unfold stepF
  by_cases hb : F.bad = 0
  · rw [if_pos hb, if_pos hb]
    by_cases h0 : (F.add bud x).2 = 0
    · rw [if_pos h0, FM.addL_nil]
      have h1 : (F.add bud x).1.bad = 0 := by
        unfold FM.add at h0 ⊢
        split at h0
        · rename_i hm
          split at h0
          · rename_i hlt
            rw [if_pos hm, if_pos hlt]
            exact hb
          · rename_i hlt
            rw [if_pos hm, if_neg hlt]
            exact h0
        · cases h0
      exact Prod.ext rfl (h1.trans h0.symm)
    · rw [if_neg h0]
  · rw [if_neg hb, if_neg hb]
theorem FInv.flush {bud : Int} {F : FM} {i m : Nat} (hb : 1 ≤ bud) (h : F.Bd 0 i m ∧ F.May ∧ F.bad = 0 ∧ F.held ≠ [] ∧ F.S.used + (sumK F.held : Nat) ≤ m ∧ ∀ id ∈ F.ids, F.S.find id ≠ none) (hok : F.S.Ok) (hn : F.S.next < 65536) : FInv bud F.flush i m := by
  obtain ⟨h1, h2, h3, h4, h5, h6⟩ := h
  have hu := wrS_used F.S F.held
  refine ⟨h1.flush h4, h2.flush, ?_, ?_, ?_⟩
  · unfold FM.flush
    rw [if_pos h3]
    simp only
    split
    · intro _; simp; omega
    · rename_i he
      intro he2
      exact absurd he2 he
  · unfold FM.flush
    rw [if_pos h3]
    simp only
    split
    · simp [sumK]; simp [sumK] at h5 hu; omega
    · rename_i he
      simp only [he, if_false]
      simp; omega
  · unfold FM.flush
    rw [if_pos h3]
    simp only
    split
    · intro id hid
      rcases List.mem_append.1 hid with h | h
      · exact find_wrS_keep (h6 id h)
      · rw [List.mem_singleton.1 h]; exact find_wrS_new hok hn
    · intro id hid
      exact find_wrS_keep (h6 id hid)
end Go.Proofs.Ytkglkpcpgdeneaa
