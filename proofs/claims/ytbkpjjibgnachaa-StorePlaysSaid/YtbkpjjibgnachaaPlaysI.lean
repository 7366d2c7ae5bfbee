/- What goes on holding through StorePlays. No program in sight. Conditions: none. -/
import Derived.Test.YtbkpjjibgnachaaRefSim
namespace Go.Proofs.Ytbkpjjibgnachaa
open Go.RowKit

structure PlaysInv (fl : List Int) (i : Nat) (S : StoreM) (R : RefM) : Prop where
  sim : Sim S R
  fails : R.fails = fl
  runs : R.runs.length ≤ i
  used : R.used ≤ i * 500
  writes : 0 ≤ R.writes ∧ R.writes ≤ i
  room : 0 ≤ R.room ∧ R.room ≤ 9223372036854775807
namespace PlaysInv
variable {fl : List Int} {i : Nat} {S : StoreM} {R : RefM}
theorem step (h : PlaysInv fl i S R) : PlaysInv fl (i + 1) S R := by
  have h1 := h.runs
  have h2 := h.used
  have h3 := h.writes
  have e1 : R.runs.length ≤ i + 1 := by omega
  have e2 : R.used ≤ (i + 1) * 500 := by
    generalize R.used = u at h2 ⊢
    rw [Nat.add_mul]
    exact Nat.le_trans h2 (Nat.le_add_right _ _)
  exact ⟨h.sim, h.fails, e1, e2, ⟨h3.1, by omega⟩, h.room⟩
theorem create (h : PlaysInv fl i S R) (hn : S.next < 65536) : PlaysInv fl (i + 1) S.create R.create := by
  have hs := h.sim.create hn
  clear hn
  have h1 := h.runs
  have h2 := h.used
  have h3 := h.writes
  have e : R.create.used = R.used := RefM.used_create R h.sim.len
  have e2 : R.create.runs.length = R.runs.length + 1 := by unfold RefM.create; rw [List.length_append]; rfl
  exact ⟨hs, h.fails, by omega, by omega, ⟨h3.1, by show R.writes ≤ _; omega⟩, h.room⟩
theorem append (h : PlaysInv fl i S R) (id : Int) (B : List UInt8) (hB : B.length ≤ 500) : PlaysInv fl (i + 1) (S.append id B) (R.append id B) := by
  have hs := h.sim.append id B
  have hw : R.wrote.used = R.used := rfl
  have h1 := h.runs
  have h2 := h.used
  have h3 := h.writes
  have key : (R.append id B).fails = R.fails ∧ (R.append id B).room = R.room ∧ (R.append id B).runs.length = R.runs.length ∧ R.writes ≤ (R.append id B).writes ∧ (R.append id B).writes ≤ R.writes + 1 ∧ (R.append id B).used ≤ R.used + B.length := by
    unfold RefM.append
    by_cases hh : R.has id = true
    · rw [if_pos hh]
      by_cases e : R.fails.contains R.writes = true
      · rw [if_pos e]
        exact ⟨rfl, rfl, rfl, by show R.writes ≤ R.writes + 1; omega, Int.le_refl _, by rw [hw]; omega⟩
      · rw [if_neg e]
        by_cases e2 : R.room - R.used < (B.length : Int)
        · rw [if_pos e2]
          exact ⟨rfl, rfl, rfl, by show R.writes ≤ R.writes + 1; omega, Int.le_refl _, by rw [hw]; omega⟩
        · rw [if_neg e2]
          obtain ⟨i0, i1, i2⟩ := (RefM.has_iff R id).1 hh
          have hu : (R.wrote.put id.toNat B).used = R.used + B.length := RefM.used_put R.wrote id.toNat B (by show id.toNat < R.runs.length; omega) i2
          have hu2 : (R.wrote.put id.toNat B).top.used = (R.wrote.put id.toNat B).used := rfl
          refine ⟨rfl, rfl, by show (R.runs.set _ _).length = _; rw [List.length_set], by show R.writes ≤ R.writes + 1; omega, Int.le_refl _, by rw [hu2, hu]; omega⟩
    · rw [if_neg hh]
      exact ⟨rfl, rfl, rfl, Int.le_refl _, by omega, by omega⟩
  obtain ⟨k1, k2, k3, k4, k5, k6⟩ := key
  exact ⟨hs, by rw [k1]; exact h.fails, by rw [k3]; omega, by omega, by omega, by rw [k2]; exact h.room⟩
theorem drop (h : PlaysInv fl i S R) (id : Int) (hh : R.has id = true) : PlaysInv fl (i + 1) (S.drop id) (R.drop id.toNat) := by
  obtain ⟨i0, i1, i2⟩ := (RefM.has_iff R id).1 hh
  have hu := RefM.used_drop R id.toNat (by omega) h.sim.len i2
  exact ⟨(h.sim.drop id hh).2, h.fails, by have := h.runs; show R.runs.length ≤ _; omega, by have := h.used; omega, by have := h.writes; show 0 ≤ R.writes ∧ R.writes ≤ _; omega, h.room⟩
end PlaysInv
end Go.Proofs.Ytbkpjjibgnachaa
