/- Two stores asked the same, the one of which has room and does not fail. No program in sight. Conditions: none. -/
import Derived.Test.YtkglkpcpgdeneaaSort17
namespace Go.Proofs.Ytkglkpcpgdeneaa
open Go.RowKit
set_option linter.unusedVariables false
set_option linter.unusedSimpArgs false

/-- Alike but for what fails and how much room there is. -/
structure Alike (S W : StoreM) : Prop where
  next : S.next = W.next
  used : S.used = W.used
  peak : S.peak = W.peak
  writes : S.writes = W.writes
  runs : S.runs = W.runs
theorem stS_keep (S : StoreM) (o : OpS) : (stS S o).fails = S.fails ∧ (stS S o).room = S.room ∧ S.writes ≤ (stS S o).writes ∧ S.peak ≤ (stS S o).peak := by
  cases o with
  | create =>
    show S.create.fails = S.fails ∧ S.create.room = S.room ∧ S.writes ≤ S.create.writes ∧ S.peak ≤ S.create.peak
    unfold StoreM.create
    split <;> exact ⟨rfl, rfl, Int.le_refl _, Int.le_refl _⟩
  | app id b =>
    show (S.append id b).fails = S.fails ∧ (S.append id b).room = S.room ∧ S.writes ≤ (S.append id b).writes ∧ S.peak ≤ (S.append id b).peak
    unfold StoreM.append
    split
    · exact ⟨rfl, rfl, Int.le_refl _, Int.le_refl _⟩
    · split
      · exact ⟨rfl, rfl, by simp; omega, Int.le_refl _⟩
      · split
        · exact ⟨rfl, rfl, by simp; omega, Int.le_refl _⟩
        · exact ⟨rfl, rfl, by simp [StoreM.add]; omega, by simp only [StoreM.add]; omega⟩
  | drop id =>
    obtain ⟨_, h2, h3, h4, h5⟩ := drop_keep S id
    show (S.drop id).fails = S.fails ∧ (S.drop id).room = S.room ∧ S.writes ≤ (S.drop id).writes ∧ S.peak ≤ (S.drop id).peak
    exact ⟨h4, h3, by omega, by omega⟩
theorem runO_keep : ∀ (ops : List OpS) (S : StoreM), (runO S ops).1.fails = S.fails ∧ (runO S ops).1.room = S.room ∧ S.writes ≤ (runO S ops).1.writes ∧ S.peak ≤ (runO S ops).1.peak
  | [], S => ⟨rfl, rfl, Int.le_refl _, Int.le_refl _⟩
  | o :: r, S => by
    obtain ⟨h1, h2, h3, h4⟩ := stS_keep S o
    unfold runO
    split
    · obtain ⟨g1, g2, g3, g4⟩ := runO_keep r (stS S o)
      exact ⟨g1.trans h1, g2.trans h2, by omega, by omega⟩
    · exact ⟨h1, h2, h3, h4⟩
theorem Alike.find {S W : StoreM} (h : Alike S W) (id : Int) : S.find id = W.find id := by
  unfold StoreM.find
  rw [h.runs]
theorem lock_step {S W : StoreM} (h : Alike S W) (o : OpS) (hw : stE W o = 0) :
    (stE S o = 0 ∧ Alike (stS S o) (stS W o) ∧ ((stS W o).writes = W.writes ∨ ((stS W o).writes = W.writes + 1 ∧ W.writes ∉ S.fails))) ∨
    (stE S o = 13 ∧ W.writes ∈ S.fails ∧ (stS S o).writes = W.writes + 1 ∧ (stS W o).writes = W.writes + 1) ∨
    (stE S o = 12 ∧ W.writes ∉ S.fails ∧ (stS S o).writes = W.writes + 1 ∧ (stS W o).writes = W.writes + 1 ∧ S.room < (stS W o).peak) := by
  cases o with
  | create =>
    left
    have hn : W.next < 65536 := by
      have hw' : (if W.next < 65536 then (0 : Int) else 12) = 0 := hw
      split at hw'
      · assumption
      · cases hw'
    have hn2 : S.next < 65536 := by rw [h.next]; exact hn
    refine ⟨if_pos hn2, ?_, .inl ?_⟩
    · show Alike S.create W.create
      unfold StoreM.create
      rw [if_neg (by omega), if_neg (by omega)]
      exact ⟨by show S.next + 1 = W.next + 1; rw [h.next], h.used, h.peak, h.writes, by show S.runs ++ _ = W.runs ++ _; rw [h.runs, h.next]⟩
    · show W.create.writes = _
      unfold StoreM.create
      rw [if_neg (by omega)]
  | drop id =>
    left
    refine ⟨rfl, ?_, .inl (drop_keep W id).2.1⟩
    have hf := h.find id
    show Alike (S.drop id) (W.drop id)
    unfold StoreM.drop
    rw [hf]
    cases W.find id with
    | none => exact h
    | some b => exact ⟨h.next, by show S.used - _ = W.used - _; rw [h.used], h.peak, h.writes, by show S.runs.eraseP _ = W.runs.eraseP _; rw [h.runs]⟩
  | app id b =>
    have hw' : W.appendE id b = 0 := hw
    have hf := h.find id
    unfold StoreM.appendE at hw'
    cases hfw : W.find id with
    | none => rw [hfw] at hw'; cases hw'
    | some bs =>
      rw [hfw] at hw' hf
      simp only at hw'
      split at hw'
      · cases hw'
      · rename_i n1
        split at hw'
        · cases hw'
        · rename_i n2
          have hWa : W.append id b = W.add id b := by
            unfold StoreM.append
            rw [hfw]
            simp only
            rw [if_neg n1, if_neg n2]
          have hWw : (stS W (.app id b)).writes = W.writes + 1 := by show (W.append id b).writes = _; rw [hWa]; rfl
          by_cases m1 : S.writes ∈ S.fails
          · right; left
            refine ⟨?_, by rw [← h.writes]; exact m1, ?_, hWw⟩
            · show S.appendE id b = 13
              unfold StoreM.appendE
              rw [hf]
              simp only
              rw [if_pos m1]
            · show (S.append id b).writes = _
              unfold StoreM.append
              rw [hf]
              simp only
              rw [if_pos m1, ← h.writes]
          · by_cases m2 : (b.length : Int) > S.room - S.used
            · right; right
              refine ⟨?_, by rw [← h.writes]; exact m1, ?_, hWw, ?_⟩
              · show S.appendE id b = 12
                unfold StoreM.appendE
                rw [hf]
                simp only
                rw [if_neg m1, if_pos m2]
              · show (S.append id b).writes = _
                unfold StoreM.append
                rw [hf]
                simp only
                rw [if_neg m1, if_pos m2, ← h.writes]
              · show S.room < (W.append id b).peak
                rw [hWa]
                show S.room < max W.peak (W.used + b.length)
                have := h.used
                omega
            · left
              have hSa : S.append id b = S.add id b := by
                unfold StoreM.append
                rw [hf]
                simp only
                rw [if_neg m1, if_neg m2]
              refine ⟨?_, ?_, .inr ⟨hWw, by rw [← h.writes]; exact m1⟩⟩
              · show S.appendE id b = 0
                unfold StoreM.appendE
                rw [hf]
                simp only
                rw [if_neg m1, if_neg m2]
              · show Alike (S.append id b) (W.append id b)
                rw [hSa, hWa]
                exact ⟨h.next, by show S.used + _ = W.used + _; rw [h.used], by show max S.peak (S.used + _) = max W.peak (W.used + _); rw [h.peak, h.used], by show S.writes + 1 = W.writes + 1; rw [h.writes], by show S.runs.map _ = W.runs.map _; rw [h.runs]⟩
/-- What comes of the one, when the other takes all. -/
def LockS (S W W' : StoreM) (r : StoreM × Int) : Prop :=
  (r.2 = 0 ∧ Alike r.1 W' ∧ ∀ k, W.writes ≤ k → k < W'.writes → k ∉ S.fails) ∨
  (r.2 = 13 ∧ ∃ n, W.writes ≤ n ∧ n < W'.writes ∧ n ∈ S.fails ∧ r.1.writes = n + 1 ∧ ∀ k, W.writes ≤ k → k < n → k ∉ S.fails) ∨
  (r.2 = 12 ∧ ∃ n, W.writes ≤ n ∧ n < W'.writes ∧ r.1.writes = n + 1 ∧ (∀ k, W.writes ≤ k → k ≤ n → k ∉ S.fails) ∧ S.room < W'.peak)
theorem lock : ∀ (ops : List OpS) {S W W' : StoreM}, Alike S W → runO W ops = (W', 0) → LockS S W W' (runO S ops)
  | [], S, W, W', h, hr => by
    obtain rfl : W = W' := congrArg Prod.fst hr
    exact .inl ⟨rfl, h, fun k h1 h2 => absurd h1 (by omega)⟩
  | o :: r, S, W, W', h, hr => by
    have hw : stE W o = 0 := by
      unfold runO at hr
      split at hr
      · assumption
      · rename_i h0; exact absurd (congrArg Prod.snd hr) h0
    have hr2 : runO (stS W o) r = (W', 0) := by
      unfold runO at hr
      rw [if_pos hw] at hr
      exact hr
    have hk := runO_keep r (stS W o)
    rw [hr2] at hk
    obtain ⟨_, _, k3, k4⟩ := hk
    simp only at k3 k4
    rcases lock_step h o hw with ⟨h1, h2, h3⟩ | ⟨h1, h2, h3, h4⟩ | ⟨h1, h2, h3, h4, h5⟩
    · have hS := stS_keep S o
      have hstep : runO S (o :: r) = runO (stS S o) r := by
        show (if stE S o = 0 then _ else _) = _
        rw [if_pos h1]
      rw [hstep]
      have hno : ∀ k, W.writes ≤ k → k < (stS W o).writes → k ∉ S.fails := by
        intro k g1 g2
        rcases h3 with h3 | ⟨h3, h4⟩
        · omega
        · have : k = W.writes := by omega
          rw [this]; exact h4
      have hle : W.writes ≤ (stS W o).writes := (stS_keep W o).2.2.1
      rcases lock r h2 hr2 with ⟨g1, g2, g3⟩ | ⟨g1, n, g2, g3, g4, g5, g6⟩ | ⟨g1, n, g2, g3, g4, g5, g6⟩
      · rw [hS.1] at g3
        refine .inl ⟨g1, g2, fun k x1 x2 => ?_⟩
        rcases Int.lt_or_le k (stS W o).writes with x3 | x3
        · exact hno k x1 x3
        · exact g3 k x3 x2
      · rw [hS.1] at g4 g6
        refine .inr (.inl ⟨g1, n, by omega, g3, g4, g5, fun k x1 x2 => ?_⟩)
        rcases Int.lt_or_le k (stS W o).writes with x3 | x3
        · exact hno k x1 x3
        · exact g6 k x3 x2
      · rw [hS.1] at g5
        rw [hS.2.1] at g6
        refine .inr (.inr ⟨g1, n, by omega, g3, g4, fun k x1 x2 => ?_, g6⟩)
        rcases Int.lt_or_le k (stS W o).writes with x3 | x3
        · exact hno k x1 x3
        · exact g5 k x3 x2
    · have hstep : runO S (o :: r) = (stS S o, 13) := by
        show (if stE S o = 0 then _ else (stS S o, stE S o)) = _
        rw [h1, if_neg (by decide)]
      rw [hstep]
      exact .inr (.inl ⟨rfl, W.writes, Int.le_refl _, by omega, h2, h3, fun k x1 x2 => absurd x1 (by omega)⟩)
    · have hstep : runO S (o :: r) = (stS S o, 12) := by
        show (if stE S o = 0 then _ else (stS S o, stE S o)) = _
        rw [h1, if_neg (by decide)]
      rw [hstep]
      refine .inr (.inr ⟨rfl, W.writes, Int.le_refl _, by omega, h3, fun k x1 x2 => ?_, by show S.room < W'.peak; omega⟩)
      have : k = W.writes := by omega
      rw [this]; exact h2
/-- The first of the numbers that is told of below w. -/
structure First (fl : List Int) (W first : Int) : Prop where
  le : first ≤ W
  all : ∀ z ∈ fl, 0 ≤ z → first ≤ z
  is : first = W ∨ (first ∈ fl ∧ 0 ≤ first)
theorem First.zero {fl : List Int} {W : Int} : First [] W W := ⟨Int.le_refl _, fun z h => (List.not_mem_nil h).elim, .inl rfl⟩
theorem First.step {fl : List Int} {W f z : Int} (h : First fl W f) : First (fl ++ [z]) W (if 0 ≤ z ∧ z < f then z else f) := by
  split
  · rename_i hz
    refine ⟨by have := h.le; omega, fun y hy h0 => ?_, .inr ⟨by simp, hz.1⟩⟩
    rcases List.mem_append.1 hy with hy | hy
    · have := h.all y hy h0; omega
    · rw [List.mem_singleton.1 hy]; omega
  · rename_i hz
    refine ⟨h.le, fun y hy h0 => ?_, h.is.imp id fun ⟨h1, h2⟩ => ⟨by simp [h1], h2⟩⟩
    rcases List.mem_append.1 hy with hy | hy
    · exact h.all y hy h0
    · rw [List.mem_singleton.1 hy] at h0 ⊢; omega
end Go.Proofs.Ytkglkpcpgdeneaa
