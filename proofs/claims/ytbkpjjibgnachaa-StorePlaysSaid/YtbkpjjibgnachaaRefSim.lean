/- The reference's store says what the store says. No program in sight. Conditions: none. -/
import Derived.Test.YtbkpjjibgnachaaRefM
namespace Go.Proofs.Ytbkpjjibgnachaa
open Go.RowKit

theorem sum_one (id : Nat) (f g : Nat → Nat) (h : ∀ j, j ≠ id → f j = g j) : ∀ n, ((List.range n).map f).sum + (if id < n then g id else 0) = ((List.range n).map g).sum + (if id < n then f id else 0)
  | 0 => by simp
  | n + 1 => by
    have ih := sum_one id f g h n
    rw [List.range_succ, List.map_append, List.map_append, List.sum_append, List.sum_append]
    simp only [List.map_cons, List.map_nil, List.sum_cons, List.sum_nil, Nat.add_zero]
    by_cases e : n = id
    · subst e
      rw [if_neg (by omega), if_neg (by omega)] at ih
      rw [if_pos (by omega), if_pos (by omega)]
      omega
    · have := h n e
      by_cases e2 : id < n
      · rw [if_pos e2, if_pos e2] at ih
        rw [if_pos (by omega), if_pos (by omega)]
        omega
      · rw [if_neg e2, if_neg e2] at ih
        rw [if_neg (by omega), if_neg (by omega)]
        omega
/-- The store as the model has it. -/
structure Sim (S : StoreM) (R : RefM) : Prop where
  ok : S.Ok
  len : R.there.length = R.runs.length
  room : S.room = R.room
  next : S.next = R.runs.length
  used : S.used = R.used
  peak : S.peak = R.peak
  writes : S.writes = R.writes
  fails : S.fails = R.fails
  find : ∀ id, S.find id = if R.has id then some (R.runs.getD id.toNat []) else none
namespace RefM
theorem has_iff (R : RefM) (id : Int) : R.has id = true ↔ (0 ≤ id ∧ id < R.runs.length ∧ R.there.getD id.toNat false = true) := by
  simp [has]
theorem used_put (R : RefM) (id : Nat) (b : List UInt8) (hi : id < R.runs.length) (ht : R.there.getD id false = true) : (R.put id b).used = R.used + b.length := by
  have h := sum_one id (fun i => if R.there.getD i false then ((R.runs.set id (R.runs.getD id [] ++ b)).getD i []).length else 0) (fun i => if R.there.getD i false then (R.runs.getD i []).length else 0) (fun j hj => by
    simp only [List.getD_eq_getElem?_getD, List.getElem?_set_ne (Ne.symm hj)]) R.runs.length
  rw [if_pos hi, if_pos hi] at h
  simp only [ht, if_true] at h
  have e : ((R.runs.set id (R.runs.getD id [] ++ b)).getD id []).length = (R.runs.getD id []).length + b.length := by
    simp [List.getD_eq_getElem?_getD, hi]
  rw [e] at h
  have e2 : (R.put id b).used = ((List.range R.runs.length).map (fun i => if R.there.getD i false then ((R.runs.set id (R.runs.getD id [] ++ b)).getD i []).length else 0)).sum := by
    unfold used put
    rw [List.length_set]
  have e3 : R.used = ((List.range R.runs.length).map (fun i => if R.there.getD i false then (R.runs.getD i []).length else 0)).sum := rfl
  omega
theorem used_drop (R : RefM) (id : Nat) (hi : id < R.runs.length) (hl : R.there.length = R.runs.length) (ht : R.there.getD id false = true) : (R.drop id).used + (R.runs.getD id []).length = R.used := by
  have h := sum_one id (fun i => if (R.there.set id false).getD i false then (R.runs.getD i []).length else 0) (fun i => if R.there.getD i false then (R.runs.getD i []).length else 0) (fun j hj => by
    simp only [List.getD_eq_getElem?_getD, List.getElem?_set_ne (Ne.symm hj)]) R.runs.length
  rw [if_pos hi, if_pos hi] at h
  have e : (R.there.set id false).getD id false = false := by simp [List.getD_eq_getElem?_getD, hl, hi]
  simp only [ht, e, if_true, Bool.false_eq_true, if_false] at h
  have e3 : R.used = ((List.range R.runs.length).map (fun i => if R.there.getD i false then (R.runs.getD i []).length else 0)).sum := rfl
  have e2 : (R.drop id).used = ((List.range R.runs.length).map (fun i => if (R.there.set id false).getD i false then (R.runs.getD i []).length else 0)).sum := rfl
  omega
theorem used_create (R : RefM) (hl : R.there.length = R.runs.length) : R.create.used = R.used := by
  have e : R.create.used = R.create.usedTo (R.runs.length + 1) := by
    rw [← usedTo_all]
    unfold create
    simp
  rw [e, usedTo_succ]
  have e2 : (R.create.runs.getD R.runs.length []).length = 0 := by simp [create, List.getD_eq_getElem?_getD]
  rw [e2]
  simp only [ite_self, Nat.add_zero]
  unfold usedTo used
  congr 1
  apply List.map_congr_left
  intro i hi
  have hi' := List.mem_range.1 hi
  simp [create, List.getD_eq_getElem?_getD, List.getElem?_append_left, hi', hl]
end RefM
theorem sim_made (room : Int) (fails : List Int) (h : room ≤ 9223372036854775807) : Sim (StoreM.made room fails) ⟨max room 0, fails, [], [], 0, 0⟩ :=
  ⟨StoreM.ok_made room fails h, rfl, rfl, rfl, rfl, rfl, rfl, rfl, fun id => by
    have : (RefM.has ⟨max room 0, fails, [], [], 0, 0⟩ id) = false := by
      simp [RefM.has]
    rw [this]; rfl⟩
theorem Sim.create {S : StoreM} {R : RefM} (h : Sim S R) (hn : S.next < 65536) : Sim S.create R.create := by
  obtain ⟨c1, c2, c3, c4, c5, c6⟩ := StoreM.create_ok hn
  have hl := h.len
  refine ⟨h.ok.create, by simp [RefM.create, hl], by rw [c3, h.room]; rfl, by rw [c1, h.next]; simp [RefM.create], by rw [c2, h.used, RefM.used_create R hl], by rw [c6, h.peak]; rfl, by rw [c4, h.writes]; rfl, by rw [c5, h.fails]; rfl, fun id => ?_⟩
  rw [StoreM.find_create h.ok hn, h.next, h.find id]
  by_cases e : id = (R.runs.length : Int)
  · subst e
    have : R.create.has (R.runs.length : Int) = true := by
      rw [RefM.has_iff]
      refine ⟨by omega, by simp [RefM.create]; omega, ?_⟩
      simp [RefM.create, List.getD_eq_getElem?_getD, ← hl]
    rw [if_pos rfl, if_pos this]
    simp [RefM.create, List.getD_eq_getElem?_getD]
  · rw [if_neg e]
    have : R.create.has id = R.has id := by
      rw [Bool.eq_iff_iff, RefM.has_iff, RefM.has_iff]
      constructor
      · rintro ⟨a, b, c⟩
        have hb : id < (R.runs.length : Int) := by simp [RefM.create] at b; omega
        have ht : id.toNat < R.there.length := by omega
        refine ⟨a, hb, ?_⟩
        simpa [RefM.create, List.getD_eq_getElem?_getD, List.getElem?_append_left ht] using c
      · rintro ⟨a, b, c⟩
        have ht : id.toNat < R.there.length := by omega
        refine ⟨a, by simp [RefM.create]; omega, ?_⟩
        simpa [RefM.create, List.getD_eq_getElem?_getD, List.getElem?_append_left ht] using c
    rw [this]
    by_cases hb : R.has id = true
    · rw [if_pos hb, if_pos hb]
      have := (RefM.has_iff R id).1 hb
      have ht : id.toNat < R.runs.length := by omega
      simp [RefM.create, List.getD_eq_getElem?_getD, List.getElem?_append_left ht]
    · rw [if_neg hb, if_neg hb]
theorem Sim.yes {S : StoreM} {R : RefM} (h : Sim S R) {id : Int} (hh : R.has id = true) : S.find id = some (R.runs.getD id.toNat []) := by rw [h.find id, if_pos hh]
theorem Sim.no {S : StoreM} {R : RefM} (h : Sim S R) {id : Int} (hh : R.has id = false) : S.find id = none := by rw [h.find id, hh]; rfl
theorem Sim.appendE {S : StoreM} {R : RefM} (h : Sim S R) (id : Int) (b : List UInt8) : S.appendE id b = R.appendE id b := by
  unfold StoreM.appendE RefM.appendE
  cases hh : R.has id with
  | false => rw [h.no hh]; rfl
  | true =>
    rw [h.yes hh]
    simp only [if_true, h.writes, h.fails, h.room, h.used]
    by_cases e : R.writes ∈ R.fails
    · simp [e]
    · simp only [e, if_false, List.contains_iff_mem]
theorem Sim.append {S : StoreM} {R : RefM} (h : Sim S R) (id : Int) (b : List UInt8) : Sim (S.append id b) (R.append id b) := by
  unfold StoreM.append RefM.append
  cases hh : R.has id with
  | false => rw [h.no hh]; exact h
  | true =>
    rw [h.yes hh]
    have hw : Sim { S with writes := S.writes + 1 } R.wrote := ⟨h.ok.wrote, h.len, h.room, h.next, h.used, h.peak, by show S.writes + 1 = R.writes + 1; rw [h.writes], h.fails, h.find⟩
    have q1 : (S.writes ∈ S.fails) = (R.writes ∈ R.fails) := by rw [h.writes, h.fails]
    have q2 : ((b.length : Int) > S.room - S.used) = (R.room - R.used < (b.length : Int)) := by rw [h.room, h.used]
    simp only [if_true, List.contains_iff_mem, q1, q2]
    by_cases e : R.writes ∈ R.fails
    · rw [if_pos e, if_pos e]; exact hw
    · rw [if_neg e, if_neg e]
      by_cases e2 : R.room - R.used < (b.length : Int)
      · rw [if_pos e2, if_pos e2]; exact hw
      · rw [if_neg e2, if_neg e2]
        obtain ⟨i0, i1, i2⟩ := (RefM.has_iff R id).1 hh
        have hi : id.toNat < R.runs.length := by omega
        have hu : (R.wrote.put id.toNat b).used = R.used + b.length := RefM.used_put R.wrote id.toNat b hi i2
        refine ⟨h.ok.add id b (by rw [h.yes hh]; exact fun h => by cases h) (by rw [h.room, h.used]; omega), ?_, h.room, ?_, ?_, ?_, ?_, h.fails, fun k => ?_⟩
        · show R.there.length = (R.runs.set id.toNat _).length
          rw [List.length_set]; exact h.len
        · show S.next = ((R.runs.set id.toNat _).length : Nat)
          rw [List.length_set]; exact h.next
        · show S.used + b.length = (((R.wrote.put id.toNat b).used : Nat) : Int)
          rw [hu, h.used]; omega
        · show max S.peak (S.used + b.length) = if R.peak < (((R.wrote.put id.toNat b).used : Nat) : Int) then (((R.wrote.put id.toNat b).used : Nat) : Int) else R.peak
          rw [hu, h.used, h.peak]
          split <;> omega
        · show S.writes + 1 = R.writes + 1
          rw [h.writes]
        · rw [StoreM.find_add, h.find k]
          have e3 : (R.wrote.put id.toNat b).top.has k = R.has k := by
            unfold RefM.has RefM.top RefM.put RefM.wrote
            simp only [List.length_set]
          rw [e3]
          by_cases hk : R.has k = true
          · rw [if_pos hk, if_pos hk]
            obtain ⟨k0, k1, _⟩ := (RefM.has_iff R k).1 hk
            show some _ = some ((R.runs.set id.toNat (R.runs.getD id.toNat [] ++ b)).getD k.toNat [])
            by_cases ek : k = id
            · subst ek
              simp [List.getD_eq_getElem?_getD, hi]
            · have : id.toNat ≠ k.toNat := by omega
              simp [List.getD_eq_getElem?_getD, List.getElem?_set_ne this, ek]
          · rw [if_neg hk, if_neg hk]; rfl
theorem Sim.drop {S : StoreM} {R : RefM} (h : Sim S R) (id : Int) (hh : R.has id = true) : S.dropE' id = 0 ∧ Sim (S.drop id) (R.drop id.toNat) := by
  obtain ⟨i0, i1, i2⟩ := (RefM.has_iff R id).1 hh
  have hi : id.toNat < R.runs.length := by omega
  have hl := h.len
  refine ⟨by unfold StoreM.dropE'; rw [h.yes hh]; rfl, ?_⟩
  have hd : S.drop id = { S with used := S.used - (R.runs.getD id.toNat []).length, runs := S.runs.eraseP fun p => p.1 == id } := by
    unfold StoreM.drop; rw [h.yes hh]
  have hu := RefM.used_drop R id.toNat hi hl i2
  refine ⟨h.ok.drop id, by show (R.there.set id.toNat false).length = _; rw [List.length_set]; exact hl, by rw [hd]; exact h.room, by rw [hd]; exact h.next, ?_, by rw [hd]; exact h.peak, by rw [hd]; exact h.writes, by rw [hd]; exact h.fails, fun k => ?_⟩
  · rw [hd]
    show S.used - _ = _
    rw [h.used]; omega
  · rw [StoreM.find_drop h.ok, h.find k]
    by_cases ek : k = id
    · subst ek
      have : (R.drop k.toNat).has k = false := by
        unfold RefM.has RefM.drop
        simp [List.getD_eq_getElem?_getD]
        intro _ _
        rw [List.getElem?_set_self (by omega)]
        rfl
      rw [if_pos rfl, this]; rfl
    · rw [if_neg ek]
      have : (R.drop id.toNat).has k = R.has k := by
        rw [Bool.eq_iff_iff, RefM.has_iff, RefM.has_iff]
        have e4 : 0 ≤ k → (R.there.set id.toNat false).getD k.toNat false = R.there.getD k.toNat false := fun k0 => by
          simp only [List.getD_eq_getElem?_getD, List.getElem?_set_ne (show id.toNat ≠ k.toNat by omega)]
        constructor
        · rintro ⟨a, b, c⟩
          exact ⟨a, b, by rw [← e4 a]; exact c⟩
        · rintro ⟨a, b, c⟩
          exact ⟨a, b, by show (R.there.set id.toNat false).getD k.toNat false = true; rw [e4 a]; exact c⟩
      rw [this]; rfl
theorem Sim.drop_no {S : StoreM} {R : RefM} (h : Sim S R) (id : Int) (hh : R.has id = false) : S.dropE' id = 14 ∧ S.drop id = S := by
  refine ⟨by unfold StoreM.dropE'; rw [h.no hh]; rfl, ?_⟩
  unfold StoreM.drop; rw [h.no hh]
end Go.Proofs.Ytbkpjjibgnachaa
