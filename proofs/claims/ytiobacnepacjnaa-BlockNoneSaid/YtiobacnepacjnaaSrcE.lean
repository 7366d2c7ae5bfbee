/- A source's Block and Body, each in one form. Conditions: none. -/
import Derived.Test.YtiobacnepacjnaaSrcD
namespace Go.Proofs.Ytiobacnepacjnaa
open Go.RowKit

/-- What Block answers of what is left: the error, the bytes, and how many are read. -/
def blockF (l : List UInt8) : Int × List UInt8 × Nat := if l = [] then (14, [], 0) else if l.length < 512 then (2, [], l.length) else (0, l.take 512, 512)
def bodyF (l : List UInt8) (n : Int) : Int × List UInt8 × Nat := if ¬ (0 ≤ n ∧ n ≤ 4611686018427387904) then (4, [], 0) else if l.length < padN n.toNat then (2, [], l.length) else (0, l.take n.toNat, padN n.toNat)
def AskS (w0 : World) (ps : List Part) (sb : Nat) (l : List UInt8) (pl : Nat) (R : Int × List UInt8 × Nat) (e : Ending) (w' : World) : Prop := ∃ (A : Option Addr) (c : Nat), e = .returned (.tuple #[.slice A R.2.1.length c, .int .i64 R.1]) ∧ (A = none → R.2.1.length = 0) ∧ St w0 w' (rdP A (bys R.2.1) :: srcP sb (l.drop R.2.2) (pl + R.2.2) :: ps)
section
variable {w0 w : World} {ps : List Part} {sb : Nat} {l : List UInt8} {place : Nat}
theorem St.rd_nil (h : St w0 w ps) : St w0 w (rdP none [] :: ps) :=
  h.new (q := rdP none []) (F := fun _ => False) (Keep.refl _ w) ⟨RdV.nil _ _, (fun x hx => by cases hx), fun k => ⟨fun h => h.elim, fun ⟨x, h, _⟩ => by cases h⟩⟩ (fun _ h => h.elim)
theorem blockF_le (l : List UInt8) : (blockF l).2.2 ≤ l.length := by
  unfold blockF
  split
  · exact Nat.zero_le _
  · split
    · exact Nat.le_refl _
    · show 512 ≤ l.length; omega
theorem bodyF_le (l : List UInt8) (n : Int) : (bodyF l n).2.2 ≤ l.length := by
  unfold bodyF
  split
  · exact Nat.zero_le _
  · split
    · exact Nat.le_refl _
    · show padN n.toNat ≤ l.length; omega
theorem St.src_block_f (h : St w0 w (srcP sb l place :: ps)) (hok : SrcOk l place) (R : Int × List UInt8 × Nat) (hR : R = blockF l) :
    Calls Try.prog 10 #[.pointer (some ⟨sb, 0, none⟩)] w (AskS w0 ps sb l place R) := by
  subst hR
  unfold blockF
  by_cases h1 : l = []
  · rw [if_pos h1]
    subst h1
    refine (St.src_block_none h).mono ?_
    rintro e w' ⟨rfl, rfl⟩
    exact ⟨none, 0, rfl, fun _ => rfl, h.rd_nil⟩
  · rw [if_neg h1]
    by_cases h2 : l.length < 512
    · rw [if_pos h2]
      refine (St.src_block_short h h1 h2 hok).mono ?_
      rintro e w' ⟨rfl, hs⟩
      refine ⟨none, 0, rfl, fun _ => rfl, ?_⟩
      have h3 := hs.rd_nil
      rw [← List.drop_length (l := l)] at h3
      exact h3
    · rw [if_neg h2]
      refine (St.src_block h (by omega) hok).mono ?_
      rintro e w' ⟨A, c, rfl, hA, _, hs⟩
      have hl : (l.take 512).length = 512 := by rw [List.length_take]; omega
      refine ⟨A, c, by show _ = Ending.returned (.tuple #[.slice A (l.take 512).length c, .int .i64 0]); rw [hl], (fun e => by rw [e] at hA; cases hA), hs⟩
theorem St.src_body_f (h : St w0 w (srcP sb l place :: ps)) (hok : SrcOk l place) (n : Int) (R : Int × List UInt8 × Nat) (hR : R = bodyF l n) :
    Calls Try.prog 11 #[.pointer (some ⟨sb, 0, none⟩), .int .i64 n] w (AskS w0 ps sb l place R) := by
  subst hR
  unfold bodyF
  by_cases h1 : ¬ (0 ≤ n ∧ n ≤ 4611686018427387904)
  · rw [if_pos h1]
    refine (St.src_body_no h n h1).mono ?_
    rintro e w' ⟨rfl, rfl⟩
    exact ⟨none, 0, rfl, fun _ => rfl, h.rd_nil⟩
  · rw [if_neg h1]
    have h0 : 0 ≤ n ∧ n ≤ 4611686018427387904 := Decidable.of_not_not h1
    by_cases h2 : l.length < padN n.toNat
    · rw [if_pos h2]
      refine (St.src_body_short h n.toNat n (by omega) h2 (by omega) hok).mono ?_
      rintro e w' ⟨rfl, hs⟩
      refine ⟨none, 0, rfl, fun _ => rfl, ?_⟩
      have h3 := hs.rd_nil
      rw [← List.drop_length (l := l)] at h3
      exact h3
    · rw [if_neg h2]
      refine (St.src_body h n.toNat (padN n.toNat) n (by omega) rfl (by omega) (by omega) hok).mono ?_
      rintro e w' ⟨A, c, rfl, hA, _, hs⟩
      have hl : (l.take n.toNat).length = n.toNat := by rw [List.length_take]; have := padN_ge n.toNat; omega
      refine ⟨A, c, by show _ = Ending.returned (.tuple #[.slice A (l.take n.toNat).length c, .int .i64 0]); rw [hl], (fun e => by rw [e] at hA; cases hA), hs⟩
end
end Go.Proofs.Ytiobacnepacjnaa
