/- bytes: trimRightASCII, makeASCIISet, TrimRight. (alias Tryd) Conditions: none. -/
import Derived.Test.YtgealodojemoeaaDoorFieldE
namespace Go.Proofs.YtgealodojemoeaaDoor
open Go.RowKit
set_option linter.unusedVariables false

theorem drop_all {α : Type} {S : α → Bool} : ∀ {l : List α}, (∀ x ∈ l, S x = true) → l.dropWhile S = []
  | [], _ => rfl
  | a :: l, h => by
    rw [List.dropWhile_cons_of_pos (h a List.mem_cons_self)]
    exact drop_all fun x hx => h x (List.mem_cons_of_mem _ hx)
/-- How many bytes are left where those of a set are cut from the end. -/
def keptR (S : UInt8 → Bool) (L : List UInt8) : Nat := (L.reverse.dropWhile S).length
theorem keptR_stop {S : UInt8 → Bool} {L : List UInt8} {j : Nat} (hj : j ≤ L.length) (h1 : ∀ i d, j ≤ i → L[i]? = some d → S d = true) (h2 : j = 0 ∨ ∃ d, L[j - 1]? = some d ∧ S d = false) : keptR S L = j := by
  have e : L = L.take j ++ L.drop j := (List.take_append_drop j L).symm
  have h3 : (L.drop j).reverse.dropWhile S = [] := by
    refine drop_all fun x hx => ?_
    obtain ⟨i, hi⟩ := List.getElem?_of_mem (List.mem_reverse.1 hx)
    rw [List.getElem?_drop] at hi
    exact h1 (j + i) x (by omega) hi
  unfold keptR
  rw [e, List.reverse_append, List.dropWhile_append, h3]
  simp only [List.isEmpty_nil, if_true]
  rcases h2 with rfl | ⟨d, hd, hs⟩
  · simp
  · obtain ⟨p, rfl⟩ : ∃ p, j = p + 1 := by
      rcases j with _ | p
      · have h4 := h1 0 d (Nat.le_refl _) hd
        rw [hs] at h4; cases h4
      · exact ⟨p, rfl⟩
    rw [Nat.add_sub_cancel] at hd
    have hp : p < L.length := by omega
    rw [List.take_succ_eq_append_getElem hp, List.reverse_append]
    have hd2 : L[p] = d := by rw [List.getElem?_eq_getElem hp] at hd; exact Option.some.inj hd
    simp only [List.reverse_cons, List.reverse_nil, List.nil_append, List.singleton_append]
    rw [List.dropWhile_cons_of_neg (by rw [hd2, hs]; exact Bool.false_ne_true)]
    simp; omega
set_option maxRecDepth 100000 in
set_option maxHeartbeats 4000000 in
theorem trimRightASCII_any (w : World) (g o n c ab : Nat) (L : List UInt8) (S : UInt8 → Bool) (hS : SetAt w ab S) (hn : n = L.length) (hc : n ≤ c) (hc2 : c ≤ 9223372036854775807) (hr : RdV w (some ⟨g, o, none⟩) (bys L)) :
    Calls Tryd.prog 23 #[.slice (some ⟨g, o, none⟩) n c, .pointer (some ⟨ab, 0, none⟩)] w fun e w' => e = .returned (.slice (some ⟨g, o, none⟩) (keptR S L) c) ∧ w = w' := by
  have HR := Lib.hid (And.intro hr (And.intro hn (And.intro hc (And.intro hc2 hS))))
  clear hr hn hc hc2 hS
  go_enter Tryd.func23, Tryd.ntmps23
  go_wp2_with fail
  go_loopw [0] (fun v0 wr => ∃ j : Nat, j ≤ n ∧ v0 = .slice (some ⟨g, o, none⟩) j c ∧ Hid (∀ i d, j ≤ i → L[i]? = some d → S d = true) ∧ wr = w) (fun v0 _ => lenF v0)
  case atStart => exact ⟨n, Nat.le_refl _, rfl, Lib.hid (fun i d h1 h2 => by
    have := (List.getElem?_eq_some_iff.1 h2).1
    have := HR.out.2.1
    omega), rfl⟩
  case round =>
    obtain ⟨j, hj, rfl, HJ, rfl⟩ := hrel
    by_cases h0 : 0 < j
    · obtain ⟨p, hp⟩ : ∃ p, p = j - 1 := ⟨_, rfl⟩
      obtain ⟨d, hd⟩ : ∃ d, L[p]? = some d := ⟨_, List.getElem?_eq_getElem (by have := HR.out.2.1; omega)⟩
      have d0 := rd_at HR.out.1 p d hd
      obtain ⟨y, hy⟩ : ∃ y, y = (d.toNat : Int) := ⟨_, rfl⟩
      rw [← hy] at d0
      have e1 : IntKind.i64.wrap ((j : Int) - 1) = (p : Int) := by rw [IntWalk.i64_in _ (by have := HR.out; omega)]; omega
      have q1 : (0 : Int) < (j : Int) := by omega
      have q2 : (p : Int) < (j : Int) := by omega
      have q3 : (p : Int) ≤ (c : Int) := by have := HR.out; omega
      have q4 : (0 : Int) ≤ (p : Int) := by omega
      have HD := Lib.hid (And.intro hd (And.intro hy (And.intro hp h0)))
      clear hd hy hp h0
      go_wp2_with fail
      refine (contains_any _ ab S d y HD.out.2.1 HR.out.2.2.2.2).mono ?_
      rintro e w1 ⟨rfl, rfl⟩
      cases hs : S d with
      | true =>
        have HSD := Lib.hid hs
        clear hs
        go_wp2_with fail
        go_roundw
        case rel =>
          have h9 := HD.out
          refine ⟨p, by omega, rfl, Lib.hid (fun i d' h1 h2 => ?_), trivial⟩
          rcases Nat.lt_or_ge i j with h3 | h3
          · obtain rfl : i = p := by omega
            rw [h9.1] at h2
            cases h2
            exact HSD.out
          · exact HJ.out i d' h3 h2
        case measure => have := HD.out; simp [lenF]; omega
      | false =>
        have hk : keptR S L = j := keptR_stop (by have := HR.out.2.1; omega) HJ.out (.inr ⟨d, by have h9 := HD.out; rw [← h9.2.2.1]; exact h9.1, hs⟩)
        have HK := Lib.hid hk
        clear hs hk
        go_wp2_with fail
        go_ret
        exact ⟨by rw [HK.out]; rfl, rfl⟩
    · have hj0 : j = 0 := by omega
      subst hj0
      have hk : keptR S L = 0 := keptR_stop (Nat.zero_le _) HJ.out (.inl rfl)
      have HK := Lib.hid hk
      clear hk h0
      go_wp2_with fail
      go_ret
      exact ⟨by rw [HK.out]; rfl, rfl⟩
end Go.Proofs.YtgealodojemoeaaDoor
