/- The reference's store: its plain model, that it says what the store says, its rows in memory, its methods. Conditions: none. -/
import Derived.Test.YtkglkpcpgdeneaaStoS
import Derived.Test.YtkglkpcpgdeneaaJoinP
import Derived.Test.YtkglkpcpgdeneaaHeldG
namespace Go.Proofs.Ytkglkpcpgdeneaa
open Go.RowKit
set_option linter.unusedVariables false
set_option linter.unusedSimpArgs false

structure RefM where
  room : Int
  fails : List Int
  runs : List (List UInt8)
  there : List Bool
  writes : Int
  peak : Int
namespace RefM
def used (R : RefM) : Nat := ((List.range R.runs.length).map fun i => if R.there.getD i false then (R.runs.getD i []).length else 0).sum
def usedTo (R : RefM) (i : Nat) : Nat := ((List.range i).map fun j => if R.there.getD j false then (R.runs.getD j []).length else 0).sum
theorem usedTo_succ (R : RefM) (i : Nat) : R.usedTo (i + 1) = R.usedTo i + (if R.there.getD i false then (R.runs.getD i []).length else 0) := by
  unfold usedTo
  rw [List.range_succ, List.map_append, List.sum_append]
  simp
theorem usedTo_all (R : RefM) : R.usedTo R.runs.length = R.used := rfl
theorem usedTo_le (R : RefM) {i j : Nat} (h : i ≤ j) : R.usedTo i ≤ R.usedTo j := by
  induction h with
  | refl => exact Nat.le_refl _
  | step _ ih => rw [usedTo_succ]; omega
def has (R : RefM) (id : Int) : Bool := decide (0 ≤ id) && (decide (id < R.runs.length) && R.there.getD id.toNat false)
def wrote (R : RefM) : RefM := { R with writes := R.writes + 1 }
def put (R : RefM) (id : Nat) (b : List UInt8) : RefM := { R with runs := R.runs.set id (R.runs.getD id [] ++ b) }
def top (R : RefM) : RefM := { R with peak := if R.peak < R.used then R.used else R.peak }
def appendE (R : RefM) (id : Int) (b : List UInt8) : Int :=
  if R.has id then (if R.fails.contains R.writes then 13 else if R.room - R.used < (b.length : Int) then 12 else 0) else 14
def append (R : RefM) (id : Int) (b : List UInt8) : RefM :=
  if R.has id then (if R.fails.contains R.writes then R.wrote else if R.room - R.used < (b.length : Int) then R.wrote else (R.wrote.put id.toNat b).top) else R
def create (R : RefM) : RefM := { R with runs := R.runs ++ [[]], there := R.there ++ [true] }
def drop (R : RefM) (id : Nat) : RefM := { R with there := R.there.set id false }
end RefM
end Go.Proofs.Ytkglkpcpgdeneaa
namespace Go.Proofs.Ytkglkpcpgdeneaa
open Go.RowKit

theorem sum_one (id : Nat) (f g : Nat → Nat) (h : ∀ j, j ≠ id → f j = g j) : ∀ n, ((List.range n).map f).sum + (if id < n then g id else 0) = ((List.range n).map g).sum + (if id < n then f id else 0)
  | 0 => by simp
  | n + 1 => by
    have ih := sum_one id f g h n
    rw [List.range_succ, List.map_append, List.map_append, List.sum_append, List.sum_append]
    simp only [List.map_cons, List.map_nil, List.sum_cons, List.sum_nil, Nat.add_zero]
    by_cases e : n = id
    · subst e
      rw [if_neg (by omega), if_neg (by omega)] at ih
      rw [if_pos (by omega), if_pos (by omega)]
      omega
    · have := h n e
      by_cases e2 : id < n
      · rw [if_pos e2, if_pos e2] at ih
        rw [if_pos (by omega), if_pos (by omega)]
        omega
      · rw [if_neg e2, if_neg e2] at ih
        rw [if_neg (by omega), if_neg (by omega)]
        omega
/-- The store as the model has it. -/
structure Sim (S : StoreM) (R : RefM) : Prop where
  ok : S.Ok
  len : R.there.length = R.runs.length
  room : S.room = R.room
  next : S.next = R.runs.length
  used : S.used = R.used
  peak : S.peak = R.peak
  writes : S.writes = R.writes
  fails : S.fails = R.fails
  find : ∀ id, S.find id = if R.has id then some (R.runs.getD id.toNat []) else none
namespace RefM
theorem has_iff (R : RefM) (id : Int) : R.has id = true ↔ (0 ≤ id ∧ id < R.runs.length ∧ R.there.getD id.toNat false = true) := by
  simp [has]
theorem used_put (R : RefM) (id : Nat) (b : List UInt8) (hi : id < R.runs.length) (ht : R.there.getD id false = true) : (R.put id b).used = R.used + b.length := by
  have h := sum_one id (fun i => if R.there.getD i false then ((R.runs.set id (R.runs.getD id [] ++ b)).getD i []).length else 0) (fun i => if R.there.getD i false then (R.runs.getD i []).length else 0) (fun j hj => by
    simp only [List.getD_eq_getElem?_getD, List.getElem?_set_ne (Ne.symm hj)]) R.runs.length
  rw [if_pos hi, if_pos hi] at h
  simp only [ht, if_true] at h
  have e : ((R.runs.set id (R.runs.getD id [] ++ b)).getD id []).length = (R.runs.getD id []).length + b.length := by
    simp [List.getD_eq_getElem?_getD, hi]
  rw [e] at h
  have e2 : (R.put id b).used = ((List.range R.runs.length).map (fun i => if R.there.getD i false then ((R.runs.set id (R.runs.getD id [] ++ b)).getD i []).length else 0)).sum := by
    unfold used put
    rw [List.length_set]
  have e3 : R.used = ((List.range R.runs.length).map (fun i => if R.there.getD i false then (R.runs.getD i []).length else 0)).sum := rfl
  omega
theorem used_drop (R : RefM) (id : Nat) (hi : id < R.runs.length) (hl : R.there.length = R.runs.length) (ht : R.there.getD id false = true) : (R.drop id).used + (R.runs.getD id []).length = R.used := by
  have h := sum_one id (fun i => if (R.there.set id false).getD i false then (R.runs.getD i []).length else 0) (fun i => if R.there.getD i false then (R.runs.getD i []).length else 0) (fun j hj => by
    simp only [List.getD_eq_getElem?_getD, List.getElem?_set_ne (Ne.symm hj)]) R.runs.length
  rw [if_pos hi, if_pos hi] at h
  have e : (R.there.set id false).getD id false = false := by simp [List.getD_eq_getElem?_getD, hl, hi]
  simp only [ht, e, if_true, Bool.false_eq_true, if_false] at h
  have e3 : R.used = ((List.range R.runs.length).map (fun i => if R.there.getD i false then (R.runs.getD i []).length else 0)).sum := rfl
  have e2 : (R.drop id).used = ((List.range R.runs.length).map (fun i => if (R.there.set id false).getD i false then (R.runs.getD i []).length else 0)).sum := rfl
  omega
theorem used_create (R : RefM) (hl : R.there.length = R.runs.length) : R.create.used = R.used := by
  have e : R.create.used = R.create.usedTo (R.runs.length + 1) := by
    rw [← usedTo_all]
    unfold create
    simp
  rw [e, usedTo_succ]
  have e2 : (R.create.runs.getD R.runs.length []).length = 0 := by simp [create, List.getD_eq_getElem?_getD]
  rw [e2]
  simp only [ite_self, Nat.add_zero]
  unfold usedTo used
  congr 1
  apply List.map_congr_left
  intro i hi
  have hi' := List.mem_range.1 hi
  simp [create, List.getD_eq_getElem?_getD, List.getElem?_append_left, hi', hl]
end RefM
theorem sim_made (room : Int) (fails : List Int) (h : room ≤ 9223372036854775807) : Sim (StoreM.made room fails) ⟨max room 0, fails, [], [], 0, 0⟩ :=
  ⟨StoreM.ok_made room fails h, rfl, rfl, rfl, rfl, rfl, rfl, rfl, fun id => by
    have : (RefM.has ⟨max room 0, fails, [], [], 0, 0⟩ id) = false := by
      simp [RefM.has]
    rw [this]; rfl⟩
theorem Sim.create {S : StoreM} {R : RefM} (h : Sim S R) (hn : S.next < 65536) : Sim S.create R.create := by
  obtain ⟨c1, c2, c3, c4, c5, c6⟩ := StoreM.create_ok hn
  have hl := h.len
  refine ⟨h.ok.create, by simp [RefM.create, hl], by rw [c3, h.room]; rfl, by rw [c1, h.next]; simp [RefM.create], by rw [c2, h.used, RefM.used_create R hl], by rw [c6, h.peak]; rfl, by rw [c4, h.writes]; rfl, by rw [c5, h.fails]; rfl, fun id => ?_⟩
  rw [StoreM.find_create h.ok hn, h.next, h.find id]
  by_cases e : id = (R.runs.length : Int)
  · subst e
    have : R.create.has (R.runs.length : Int) = true := by
      rw [RefM.has_iff]
      refine ⟨by omega, by simp [RefM.create]; omega, ?_⟩
      simp [RefM.create, List.getD_eq_getElem?_getD, ← hl]
    rw [if_pos rfl, if_pos this]
    simp [RefM.create, List.getD_eq_getElem?_getD]
  · rw [if_neg e]
    have : R.create.has id = R.has id := by
      rw [Bool.eq_iff_iff, RefM.has_iff, RefM.has_iff]
      constructor
      · rintro ⟨a, b, c⟩
        have hb : id < (R.runs.length : Int) := by simp [RefM.create] at b; omega
        have ht : id.toNat < R.there.length := by omega
        refine ⟨a, hb, ?_⟩
        simpa [RefM.create, List.getD_eq_getElem?_getD, List.getElem?_append_left ht] using c
      · rintro ⟨a, b, c⟩
        have ht : id.toNat < R.there.length := by omega
        refine ⟨a, by simp [RefM.create]; omega, ?_⟩
        simpa [RefM.create, List.getD_eq_getElem?_getD, List.getElem?_append_left ht] using c
    rw [this]
    by_cases hb : R.has id = true
    · rw [if_pos hb, if_pos hb]
      have := (RefM.has_iff R id).1 hb
      have ht : id.toNat < R.runs.length := by omega
      simp [RefM.create, List.getD_eq_getElem?_getD, List.getElem?_append_left ht]
    · rw [if_neg hb, if_neg hb]
theorem Sim.yes {S : StoreM} {R : RefM} (h : Sim S R) {id : Int} (hh : R.has id = true) : S.find id = some (R.runs.getD id.toNat []) := by rw [h.find id, if_pos hh]
theorem Sim.no {S : StoreM} {R : RefM} (h : Sim S R) {id : Int} (hh : R.has id = false) : S.find id = none := by rw [h.find id, hh]; rfl
theorem Sim.appendE {S : StoreM} {R : RefM} (h : Sim S R) (id : Int) (b : List UInt8) : S.appendE id b = R.appendE id b := by
  unfold StoreM.appendE RefM.appendE
  cases hh : R.has id with
  | false => rw [h.no hh]; rfl
  | true =>
    rw [h.yes hh]
    simp only [if_true, h.writes, h.fails, h.room, h.used]
    by_cases e : R.writes ∈ R.fails
    · simp [e]
    · simp only [e, if_false, List.contains_iff_mem]
theorem Sim.append {S : StoreM} {R : RefM} (h : Sim S R) (id : Int) (b : List UInt8) : Sim (S.append id b) (R.append id b) := by
  unfold StoreM.append RefM.append
  cases hh : R.has id with
  | false => rw [h.no hh]; exact h
  | true =>
    rw [h.yes hh]
    have hw : Sim { S with writes := S.writes + 1 } R.wrote := ⟨h.ok.wrote, h.len, h.room, h.next, h.used, h.peak, by show S.writes + 1 = R.writes + 1; rw [h.writes], h.fails, h.find⟩
    have q1 : (S.writes ∈ S.fails) = (R.writes ∈ R.fails) := by rw [h.writes, h.fails]
    have q2 : ((b.length : Int) > S.room - S.used) = (R.room - R.used < (b.length : Int)) := by rw [h.room, h.used]
    simp only [if_true, List.contains_iff_mem, q1, q2]
    by_cases e : R.writes ∈ R.fails
    · rw [if_pos e, if_pos e]; exact hw
    · rw [if_neg e, if_neg e]
      by_cases e2 : R.room - R.used < (b.length : Int)
      · rw [if_pos e2, if_pos e2]; exact hw
      · rw [if_neg e2, if_neg e2]
        obtain ⟨i0, i1, i2⟩ := (RefM.has_iff R id).1 hh
        have hi : id.toNat < R.runs.length := by omega
        have hu : (R.wrote.put id.toNat b).used = R.used + b.length := RefM.used_put R.wrote id.toNat b hi i2
        refine ⟨h.ok.add id b (by rw [h.yes hh]; exact fun h => by cases h) (by rw [h.room, h.used]; omega), ?_, h.room, ?_, ?_, ?_, ?_, h.fails, fun k => ?_⟩
        · show R.there.length = (R.runs.set id.toNat _).length
          rw [List.length_set]; exact h.len
        · show S.next = ((R.runs.set id.toNat _).length : Nat)
          rw [List.length_set]; exact h.next
        · show S.used + b.length = (((R.wrote.put id.toNat b).used : Nat) : Int)
          rw [hu, h.used]; omega
        · show max S.peak (S.used + b.length) = if R.peak < (((R.wrote.put id.toNat b).used : Nat) : Int) then (((R.wrote.put id.toNat b).used : Nat) : Int) else R.peak
          rw [hu, h.used, h.peak]
          split <;> omega
        · show S.writes + 1 = R.writes + 1
          rw [h.writes]
        · rw [StoreM.find_add, h.find k]
          have e3 : (R.wrote.put id.toNat b).top.has k = R.has k := by
            unfold RefM.has RefM.top RefM.put RefM.wrote
            simp only [List.length_set]
          rw [e3]
          by_cases hk : R.has k = true
          · rw [if_pos hk, if_pos hk]
            obtain ⟨k0, k1, _⟩ := (RefM.has_iff R k).1 hk
            show some _ = some ((R.runs.set id.toNat (R.runs.getD id.toNat [] ++ b)).getD k.toNat [])
            by_cases ek : k = id
            · subst ek
              simp [List.getD_eq_getElem?_getD, hi]
            · have : id.toNat ≠ k.toNat := by omega
              simp [List.getD_eq_getElem?_getD, List.getElem?_set_ne this, ek]
          · rw [if_neg hk, if_neg hk]; rfl
theorem Sim.drop {S : StoreM} {R : RefM} (h : Sim S R) (id : Int) (hh : R.has id = true) : S.dropE' id = 0 ∧ Sim (S.drop id) (R.drop id.toNat) := by
  obtain ⟨i0, i1, i2⟩ := (RefM.has_iff R id).1 hh
  have hi : id.toNat < R.runs.length := by omega
  have hl := h.len
  refine ⟨by unfold StoreM.dropE'; rw [h.yes hh]; rfl, ?_⟩
  have hd : S.drop id = { S with used := S.used - (R.runs.getD id.toNat []).length, runs := S.runs.eraseP fun p => p.1 == id } := by
    unfold StoreM.drop; rw [h.yes hh]
  have hu := RefM.used_drop R id.toNat hi hl i2
  refine ⟨h.ok.drop id, by show (R.there.set id.toNat false).length = _; rw [List.length_set]; exact hl, by rw [hd]; exact h.room, by rw [hd]; exact h.next, ?_, by rw [hd]; exact h.peak, by rw [hd]; exact h.writes, by rw [hd]; exact h.fails, fun k => ?_⟩
  · rw [hd]
    show S.used - _ = _
    rw [h.used]; omega
  · rw [StoreM.find_drop h.ok, h.find k]
    by_cases ek : k = id
    · subst ek
      have : (R.drop k.toNat).has k = false := by
        unfold RefM.has RefM.drop
        simp [List.getD_eq_getElem?_getD]
        intro _ _
        rw [List.getElem?_set_self (by omega)]
        rfl
      rw [if_pos rfl, this]; rfl
    · rw [if_neg ek]
      have : (R.drop id.toNat).has k = R.has k := by
        rw [Bool.eq_iff_iff, RefM.has_iff, RefM.has_iff]
        have e4 : 0 ≤ k → (R.there.set id.toNat false).getD k.toNat false = R.there.getD k.toNat false := fun k0 => by
          simp only [List.getD_eq_getElem?_getD, List.getElem?_set_ne (show id.toNat ≠ k.toNat by omega)]
        constructor
        · rintro ⟨a, b, c⟩
          exact ⟨a, b, by rw [← e4 a]; exact c⟩
        · rintro ⟨a, b, c⟩
          exact ⟨a, b, by show (R.there.set id.toNat false).getD k.toNat false = true; rw [e4 a]; exact c⟩
      rw [this]; rfl
theorem Sim.drop_no {S : StoreM} {R : RefM} (h : Sim S R) (id : Int) (hh : R.has id = false) : S.dropE' id = 14 ∧ S.drop id = S := by
  refine ⟨by unfold StoreM.dropE'; rw [h.no hh]; rfl, ?_⟩
  unfold StoreM.drop; rw [h.no hh]
end Go.Proofs.Ytkglkpcpgdeneaa
namespace Go.Proofs.Ytkglkpcpgdeneaa
open Go.RowKit

/-- Where the reference's store keeps its rows. -/
structure RefW where
  A2 : Option Addr
  c2 : Nat
  A3 : Option Addr
  c3 : Nat
  rows : List (Option Addr × Nat × List UInt8)
def rowV (r : Option Addr × Nat × List UInt8) : Value := .slice r.1 r.2.2.length r.2.1
def RefW.cells (x : RefW) (Af : Option Addr) (nf cf : Nat) (R : RefM) : List Value := [.int .i64 R.room, .slice Af nf cf, .slice x.A2 R.runs.length x.c2, .slice x.A3 R.runs.length x.c3, .int .i64 R.writes, .int .i64 R.peak]
def refQ (rb : Nat) (Af : Option Addr) (nf cf : Nat) (R : RefM) (x : RefW) : Part :=
  andP (blkP rb 64 (x.cells Af nf cf R)) (andP (ownP 42 1 (.slice x.A2 R.runs.length x.c2) R.runs.length (x.rows.map rowV)) (andP (ownP 4 1 (.slice x.A3 R.runs.length x.c3) R.runs.length (R.there.map Value.bool)) (rdsP x.rows)))
/-- The reference's store. -/
def refP (rb : Nat) (Af : Option Addr) (nf cf : Nat) (R : RefM) : Part := exP fun x : { x : RefW // x.rows.map (·.2.2) = R.runs } => refQ rb Af nf cf R x.1
section
variable {w0 w : World} {l : List Part} {rb nf cf : Nat} {Af : Option Addr} {R : RefM}
/-- Opened. -/
theorem St.ref (h : St w0 w (refP rb Af nf cf R :: l)) : ∃ x : RefW, x.rows.map (·.2.2) = R.runs ∧ St w0 w (blkP rb 64 (x.cells Af nf cf R) :: ownP 42 1 (.slice x.A2 R.runs.length x.c2) R.runs.length (x.rows.map rowV) :: ownP 4 1 (.slice x.A3 R.runs.length x.c3) R.runs.length (R.there.map Value.bool) :: rdsP x.rows :: l) := by
  obtain ⟨⟨x, hx⟩, h1⟩ := St.ex h
  refine ⟨x, hx, ?_⟩
  exact (((h1.split).swap.split).swap.split).nth4.nth4.swap
theorem St.ref_mk (x : RefW) (hx : x.rows.map (·.2.2) = R.runs) (h : St w0 w (blkP rb 64 (x.cells Af nf cf R) :: ownP 42 1 (.slice x.A2 R.runs.length x.c2) R.runs.length (x.rows.map rowV) :: ownP 4 1 (.slice x.A3 R.runs.length x.c3) R.runs.length (R.there.map Value.bool) :: rdsP x.rows :: l)) : St w0 w (refP rb Af nf cf R :: l) := by
  refine St.ex_mk (f := fun x : { x : RefW // x.rows.map (·.2.2) = R.runs } => refQ rb Af nf cf R x.1) ⟨x, hx⟩ ?_
  exact ((h.nth3.nth4.swap.join).nth3.join).swap.join
theorem St.ref_len (h : St w0 w (refP rb Af nf cf R :: l)) : R.there.length = R.runs.length ∧ R.runs.length ≤ 9223372036854775807 := by
  obtain ⟨x, _, h1⟩ := h.ref
  have h3 := h1.tail.tail
  have e := h3.own_len
  obtain ⟨_, a, b, _⟩ := h3.own_rdv
  exact ⟨by simpa using e, by omega⟩
/-- The cells of the struct. -/
theorem St.ref_cells (h : St w0 w (refP rb Af nf cf R :: l)) : ∃ x : RefW, x.rows.map (·.2.2) = R.runs ∧ w.cell? ⟨rb, 0, none⟩ = some (.int .i64 R.room) ∧ w.cell? ⟨rb, 1, none⟩ = some (.slice Af nf cf) ∧ w.cell? ⟨rb, 2, none⟩ = some (.slice x.A2 R.runs.length x.c2) ∧ w.cell? ⟨rb, 3, none⟩ = some (.slice x.A3 R.runs.length x.c3) ∧ w.cell? ⟨rb, 4, none⟩ = some (.int .i64 R.writes) ∧ w.cell? ⟨rb, 5, none⟩ = some (.int .i64 R.peak) ∧
    (∀ i, i < R.runs.length → ∃ g, x.A3 = some ⟨g, 0, none⟩ ∧ w.cell? ⟨g, i, none⟩ = some (.bool (R.there.getD i false))) ∧
    (∀ i, i < R.runs.length → ∃ g A c, x.A2 = some ⟨g, 0, none⟩ ∧ w.cell? ⟨g, i, none⟩ = some (.slice A (R.runs.getD i []).length c) ∧ RdV w A (bys (R.runs.getD i [])) ∧ (A = none → R.runs.getD i [] = [])) := by
  have hl := h.ref_len.1
  obtain ⟨x, hx, h1⟩ := h.ref
  have hb := h1.blk.1
  refine ⟨x, hx, hb.cell 0, hb.cell 1, hb.cell 2, hb.cell 3, hb.cell 4, hb.cell 5, fun i hi => ?_, fun i hi => ?_⟩
  · obtain ⟨g, e, hc, _⟩ := h1.tail.tail.own_at i hi
    exact ⟨g, e, by rw [hc]; simp [List.getD_eq_getElem?_getD, hl, hi]⟩
  · obtain ⟨g, e, hc, _⟩ := h1.tail.own_at i hi
    have hi2 : i < x.rows.length := by
      have := congrArg List.length hx
      simp at this
      omega
    have hr := St.rds_at h1.nth4 x.rows[i] (List.getElem_mem hi2)
    have e2 : R.runs.getD i [] = x.rows[i].2.2 := by rw [← hx]; simp [List.getD_eq_getElem?_getD, hi2]
    rw [e2]
    exact ⟨g, x.rows[i].1, x.rows[i].2.1, e, by rw [hc]; simp [hi2, rowV], hr.1, hr.2⟩
set_option maxRecDepth 100000 in
theorem St.ref_has (h : St w0 w (refP rb Af nf cf R :: l)) (id : Int) (b : Bool) (hb : R.has id = b) :
    Calls Try.prog 75 #[.pointer (some ⟨rb, 0, none⟩), .int .i64 id] w fun e w' => e = .returned (.bool b) ∧ w = w' := by
  have hl := h.ref_len
  obtain ⟨x, _, _, _, c2, c3, _, _, h3, _⟩ := h.ref_cells
  have q0 : (R.runs.length : Int) ≤ 9223372036854775807 := by have := hl.2; omega
  clear h hl
  subst hb
  by_cases i0 : 0 ≤ id
  · by_cases i1 : id < (R.runs.length : Int)
    · obtain ⟨i, rfl⟩ : ∃ i : Nat, id = (i : Int) := ⟨id.toNat, by omega⟩
      obtain ⟨g, e, h4⟩ := h3 i (by omega)
      have hv : R.has (i : Int) = R.there.getD i false := by
        unfold RefM.has
        rw [decide_eq_true i0, decide_eq_true i1]; simp
      rw [hv]
      rw [e] at c3
      generalize R.there.getD i false = v at h4
      have e3 : (⟨g, 0, none⟩ : Addr).add i = ⟨g, i, none⟩ := by rw [add_plain, Nat.zero_add]
      clear h3 hv
      generalize R.runs.length = n at *
      go_enter Try.func75, Try.ntmps75
      go_wp2_with fail
      go_ret
      exact ⟨rfl, rfl⟩
    · have hv : R.has id = false := by unfold RefM.has; rw [decide_eq_false i1]; simp
      rw [hv]
      clear h3 hv
      generalize R.runs.length = n at *
      go_enter Try.func75, Try.ntmps75
      go_wp2_with fail
      go_ret
      exact ⟨rfl, rfl⟩
  · have hv : R.has id = false := by unfold RefM.has; rw [decide_eq_false i0]; rfl
    rw [hv]
    clear h3 hv c2 c3
    go_enter Try.func75, Try.ntmps75
    go_wp2_with fail
    go_ret
    exact ⟨rfl, rfl⟩
set_option maxRecDepth 100000 in
theorem St.ref_used (h : St w0 w (refP rb Af nf cf R :: l)) (hu : R.used ≤ 4611686018427387904) :
    Calls Try.prog 40 #[.pointer (some ⟨rb, 0, none⟩)] w fun e w' => e = .returned (.int .i64 R.used) ∧ w = w' := by
  have hl := h.ref_len
  obtain ⟨x, _, _, _, c2, c3, _, _, h3, h4⟩ := h.ref_cells
  have q0 : (R.runs.length : Int) ≤ 9223372036854775807 := by have := hl.2; omega
  have HU := Lib.hid hu
  have H3 := Lib.hid h3
  have H4 := Lib.hid h4
  clear h hl hu h3 h4
  obtain ⟨n, hn⟩ : ∃ n, n = R.runs.length := ⟨_, rfl⟩
  have HN := Lib.hid hn
  rw [← hn] at c2 c3 q0
  clear hn
  go_enter Try.func40, Try.ntmps40
  go_wp2_with fail
  go_loopw [3, 4] (fun v3 v4 wr => ∃ i : Nat, i ≤ n ∧ v3 = .int .i64 (R.usedTo i) ∧ v4 = .int .i64 i ∧ wr = w) (fun _ v4 _ => n - (intOf v4).toNat)
  case atStart => exact ⟨0, Nat.zero_le _, rfl, rfl, rfl⟩
  case round =>
    obtain ⟨i, hi, rfl, rfl, rfl⟩ := hrel
    by_cases hlt : i < n
    · obtain ⟨g3, e3, d3⟩ := H3.out i (by have := HN.out; omega)
      obtain ⟨g2, A, c, e2, d2, _, _⟩ := H4.out i (by have := HN.out; omega)
      rw [e3] at c3
      rw [e2] at c2
      have hs := R.usedTo_succ i
      have hm := R.usedTo_le (i := i + 1) (j := n) (by omega)
      have hmm : R.usedTo n ≤ 4611686018427387904 := by have := HU.out; rw [HN.out]; exact this
      have HS := Lib.hid hs
      have b1 : (R.usedTo i : Int) ≤ 4611686018427387904 := by have := R.usedTo_le (i := i) (j := n) (by omega); omega
      have b2 : (R.usedTo (i + 1) : Int) ≤ 4611686018427387904 := by omega
      clear hs hm hmm
      obtain ⟨m, hm⟩ : ∃ m, m = (R.runs.getD i []).length := ⟨_, rfl⟩
      rw [← hm] at d2
      have HM := Lib.hid hm
      clear hm
      by_cases ht : R.there.getD i false = true
      · rw [ht] at d3
        have b3 : (R.usedTo i : Int) + (m : Int) ≤ 4611686018427387904 := by have := HS.out; rw [if_pos ht, ← HM.out] at this; omega
        have HT := Lib.hid ht
        clear ht
        go_wp2_with fail
        go_roundw
        case rel =>
          have hv : (R.usedTo (i + 1) : Int) = (R.usedTo i : Int) + (m : Int) := by
            have := HS.out
            rw [if_pos HT.out, ← HM.out] at this
            omega
          exact ⟨i + 1, hlt, by rw [hv], by go_num, trivial⟩
        case measure => simp [intOf]; omega
      · have ht' : R.there.getD i false = false := by simpa using ht
        rw [ht'] at d3
        have HT := Lib.hid ht'
        clear ht ht'
        go_wp2_with fail
        go_roundw
        case rel => exact ⟨i + 1, hlt, by have := HS.out; rw [HT.out, if_neg Bool.false_ne_true] at this; rw [this]; rfl, by go_num, trivial⟩
        case measure => simp [intOf]; omega
    · obtain rfl : i = n := by omega
      have e : R.usedTo i = R.used := by rw [HN.out]; rfl
      rw [e]
      clear e hlt
      go_wp2_with fail
      go_ret
      exact ⟨rfl, rfl⟩
end
end Go.Proofs.Ytkglkpcpgdeneaa
namespace Go.Proofs.Ytkglkpcpgdeneaa
open Go.RowKit
theorem infoU8a : (Try.prog.info? 5).map (fun i => (i.zero, i.size, i.bytes)) = some (some (.int .u8 0), 1, 1) := by kernel_rfl
theorem St.staysA (w0 : World) (l : List Part) : Stays Anew (fun u => St w0 u l) := fun _ _ h k => St.later h k
theorem St.nth5 {w0 w : World} {l : List Part} {a b c d e : Part} (h : St w0 w (a :: b :: c :: d :: e :: l)) : St w0 w (e :: a :: b :: c :: d :: l) := h.perm (List.perm_middle (l₁ := [a, b, c, d]))
section
variable {w0 w : World} {l : List Part} {rb nf cf : Nat} {Af : Option Addr} {R : RefM}
theorem St.ref_plain (h : St w0 w (refP rb Af nf cf R :: l)) : w.cell? ⟨rb, 0, none⟩ = some (.int .i64 R.room) ∧ w.cell? ⟨rb, 1, none⟩ = some (.slice Af nf cf) ∧ w.cell? ⟨rb, 4, none⟩ = some (.int .i64 R.writes) ∧ w.cell? ⟨rb, 5, none⟩ = some (.int .i64 R.peak) := by
  obtain ⟨x, _, c0, c1, _, _, c4, c5, _⟩ := h.ref_cells
  exact ⟨c0, c1, c4, c5⟩
theorem St.ref_wrote (h : St w0 w (refP rb Af nf cf R :: l)) : w.frozen? ⟨rb, 4, none⟩ = false ∧ St w0 (w.setCell ⟨rb, 4, none⟩ (.int .i64 (R.writes + 1))) (refP rb Af nf cf R.wrote :: l) := by
  obtain ⟨x, hx, h1⟩ := h.ref
  exact ⟨h1.blk.1.free 4, St.ref_mk x hx (h1.set 4 _)⟩
theorem St.ref_top (h : St w0 w (refP rb Af nf cf R :: l)) (v : Int) : w.frozen? ⟨rb, 5, none⟩ = false ∧ St w0 (w.setCell ⟨rb, 5, none⟩ (.int .i64 v)) (refP rb Af nf cf { R with peak := v } :: l) := by
  obtain ⟨x, hx, h1⟩ := h.ref
  exact ⟨h1.blk.1.free 5, St.ref_mk x hx (h1.set 5 _)⟩
/-- A row of one's own takes a row's place. -/
theorem St.ref_put {A : Option Addr} {n c g i : Nat} {B : List UInt8} {x : RefW} (hx : x.rows.map (·.2.2) = R.runs) (hg : x.A2 = some ⟨g, 0, none⟩) (hn : n = (R.runs.getD i [] ++ B).length)
    (h : St w0 w (ownP 5 1 (.slice A n c) n (bys (R.runs.getD i [] ++ B)) :: blkP rb 64 (x.cells Af nf cf R) :: ownP 42 1 (.slice x.A2 R.runs.length x.c2) R.runs.length (x.rows.map rowV) :: ownP 4 1 (.slice x.A3 R.runs.length x.c3) R.runs.length (R.there.map Value.bool) :: rdsP x.rows :: l)) :
    St w0 (w.setCell ⟨g, i, none⟩ (.slice A n c)) (refP rb Af nf cf (R.put i B) :: l) := by
  subst hn
  obtain ⟨A2, c2, A3, c3, rows⟩ := x
  dsimp only at *
  subst hg
  have h1 := St.rds_put (rows' := rows.set i (A, c, R.runs.getD i [] ++ B)) h.nth5.swap (fun r hr => by
    rcases List.mem_or_eq_of_mem_set hr with h | h
    · exact .inl h
    · exact .inr (.inl h))
  have h2 := (h1.nth3.own_set i (.slice A (R.runs.getD i [] ++ B).length c)).nth4.nth4.nth3.swap
  have e : (R.put i B).runs.length = R.runs.length := List.length_set
  refine St.ref_mk (R := R.put i B) ⟨some ⟨g, 0, none⟩, c2, A3, c3, rows.set i (A, c, R.runs.getD i [] ++ B)⟩ ?_ ?_
  · show (rows.set i _).map _ = R.runs.set i _
    rw [List.map_set, hx]
  · unfold RefW.cells
    rw [e, List.map_set]
    exact h2
set_option maxRecDepth 100000 in
set_option maxHeartbeats 4000000 in
theorem St.ref_append_g (h : St w0 w (refP rb Af nf cf R :: l)) (hrf : RdV w0 Af (ints R.fails)) (hnf : nf = R.fails.length) (hnl : nf ≤ 4611686018427387904) (id : Int) (A : Option Addr) (n c : Nat) (B : List UInt8) (hr : ∀ u, St w0 u l → RdV u A (bys B)) (hn : n = B.length) (hA : A = none → B = [])
    (hb : R.used + B.length ≤ 140737488350000) (hw : 0 ≤ R.writes ∧ R.writes ≤ 4611686018427387904) (hm : 0 ≤ R.room ∧ R.room ≤ 9223372036854775807) :
    Calls Try.prog 58 #[.pointer (some ⟨rb, 0, none⟩), .int .i64 id, .slice A n c] w fun e w' => e = .returned (.int .i64 (R.appendE id B)) ∧ St w0 w' (refP rb Af nf cf (R.append id B) :: l) := by
  subst hn hnf
  have HS := Lib.hid h
  have HRF := Lib.hid hrf
  have HR := Lib.hid (And.intro hr hA)
  have HB := Lib.hid hb
  have b1 : (R.fails.length : Int) ≤ 4611686018427387904 := by omega
  obtain ⟨b2, b3⟩ := hw
  obtain ⟨b4, b5⟩ := hm
  have b6 : (B.length : Int) ≤ 140737488350000 := by omega
  clear h hrf hr hA hb hnl
  go_enter Try.func58, Try.ntmps58
  go_wp2_with fail
  refine (St.ref_has HS.out id (R.has id) rfl).mono ?_
  rintro e w' ⟨rfl, rfl⟩
  cases hh : R.has id with
  | false =>
    go_wp2_with fail
    go_ret
    unfold RefM.appendE RefM.append
    rw [hh]
    exact ⟨rfl, HS.out⟩
  | true =>
    have HH := Lib.hid hh
    clear hh
    obtain ⟨_, _, c4, _⟩ := HS.out.ref_plain
    obtain ⟨f4, hs2⟩ := HS.out.ref_wrote
    have e1 : IntKind.i64.wrap (R.writes + 1) = R.writes + 1 := IntWalk.i64_in _ (by omega)
    have HS2 := Lib.hid hs2
    clear hs2
    go_wp2_with fail
    go_loopw [7] (fun v7 wr => ∃ i : Nat, i ≤ R.fails.length ∧ v7 = .int .i64 i ∧ Hid (∀ (j : Nat) (z : Int), j < i → R.fails[j]? = some z → z ≠ R.writes) ∧ Hid (St w0 wr (refP rb Af R.fails.length cf R.wrote :: l))) (fun v7 _ => R.fails.length - (intOf v7).toNat)
    case atStart => exact ⟨0, Nat.zero_le _, rfl, Lib.hid (fun j _ h => absurd h (Nat.not_lt_zero j)), HS2⟩
    case round =>
      clear HS2 c4 f4 HS
      obtain ⟨i, hi, rfl, HF, HS⟩ := hrel
      obtain ⟨_, c1, c4', _⟩ := HS.out.ref_plain
      have c4 : wr.cell? ⟨rb, 4, none⟩ = some (.int .i64 (R.writes + 1)) := c4'
      clear c4'
      by_cases hlt : i < R.fails.length
      · have hz : R.fails[i]? = some R.fails[i] := List.getElem?_eq_getElem hlt
        obtain ⟨a, ha, hc⟩ := HRF.out i (.int .i64 R.fails[i]) (by simp [ints, hlt])
        have ha' := HS.out.cell hc
        subst ha
        generalize R.fails[i] = z at hz ha' hc
        have HZ := Lib.hid hz
        have HC := Lib.hid hc
        have e2 : IntKind.i64.wrap R.writes = R.writes := IntWalk.i64_in _ (by omega)
        clear hz hc
        by_cases ez : z = R.writes
        · subst ez
          go_wp2_with fail
          refine wp_region_G [] Anew (fun u => St w0 u (refP rb (some a) R.fails.length cf R.wrote :: l)) (by kernel_rfl) (by kernel_rfl) (by kernel_rfl) Anew.refl (St.staysA _ _) HS.out.drew ?_
          clear c1 c4 ha'
          repeat (
            (apply wpG_val
             · rfl
             · intro u hu
               obtain ⟨_, c1, c4', _⟩ := hu.ref_plain
               have c4 : u.cell? ⟨rb, 4, none⟩ = some (.int .i64 (R.writes + 1)) := c4'
               have ha' := hu.cell HC.out
               clear hu c4'
               (go_simp <;> with_reducible rfl)
             simp only [Act.put, List.setIfInBounds_toArray, List.set_cons_zero, List.set_cons_succ]))
          refine wpG_nil ?_
          intro w3 hs3
          have HS3 := Lib.hid hs3
          clear hs3 HS
          go_wp2_with fail
          go_ret
          have hm : R.fails.contains R.writes = true := by
            rw [List.contains_iff_mem]
            exact List.mem_of_getElem? HZ.out
          unfold RefM.appendE RefM.append
          rw [if_pos HH.out, if_pos HH.out, if_pos hm, if_pos hm]
          exact ⟨rfl, HS3.out⟩
        · go_wp2_with fail
          refine wp_region_G [] Anew (fun u => St w0 u (refP rb (some a) R.fails.length cf R.wrote :: l)) (by kernel_rfl) (by kernel_rfl) (by kernel_rfl) Anew.refl (St.staysA _ _) HS.out.drew ?_
          clear c1 c4 ha'
          repeat (
            (apply wpG_val
             · rfl
             · intro u hu
               obtain ⟨_, c1, c4', _⟩ := hu.ref_plain
               have c4 : u.cell? ⟨rb, 4, none⟩ = some (.int .i64 (R.writes + 1)) := c4'
               have ha' := hu.cell HC.out
               clear hu c4'
               (go_simp <;> with_reducible rfl)
             simp only [Act.put, List.setIfInBounds_toArray, List.set_cons_zero, List.set_cons_succ]))
          refine wpG_nil ?_
          intro w3 hs3
          have HS3 := Lib.hid hs3
          clear hs3 HS
          go_wp2_with fail
          go_roundw
          case rel =>
            refine ⟨i + 1, hlt, by go_num, Lib.hid (fun j y hj hy => ?_), HS3⟩
            rcases Nat.lt_or_ge j i with hji | hji
            · exact HF.out j y hji hy
            · obtain rfl : j = i := by omega
              rw [HZ.out] at hy
              cases hy
              exact ez
          case measure => simp [intOf]; omega
      · have hno : ¬ R.fails.contains R.writes = true := by
          rw [List.contains_iff_mem]
          intro hm
          obtain ⟨j, hj⟩ := List.getElem?_of_mem hm
          have hjl : j < R.fails.length := by
            rcases Nat.lt_or_ge j R.fails.length with h | h
            · exact h
            · rw [List.getElem?_eq_none h] at hj; cases hj
          exact HF.out j _ (by omega) hj rfl
        have HNO := Lib.hid hno
        clear hno c1 c4
        obtain ⟨c0, c1, c4, _⟩ := HS.out.ref_plain
        go_wp2_with fail
        have b7 : (R.used : Int) ≤ 140737488350000 := by have := HB.out; omega
        have b8 : (0 : Int) ≤ (R.used : Int) := by omega
        have e3 : IntKind.i64.wrap (R.room - (R.used : Int)) = R.room - (R.used : Int) := IntWalk.i64_in _ (by omega)
        have HUB : Hid (R.wrote.used ≤ 4611686018427387904) := Lib.hid (by have := HB.out; show R.used ≤ _; omega)
        refine wp_region_G [] Anew (fun u => St w0 u (refP rb Af R.fails.length cf R.wrote :: l)) (by kernel_rfl) (by kernel_rfl) (by kernel_rfl) Anew.refl (St.staysA _ _) HS.out.drew ?_
        clear c0 c1 c4
        repeat (first
          | (apply wpG_val
             · rfl
             · intro u hu
               obtain ⟨c0', c1, _, _⟩ := hu.ref_plain
               have c0 : u.cell? ⟨rb, 0, none⟩ = some (.int .i64 R.room) := c0'
               clear hu c0'
               (go_simp <;> with_reducible rfl)
             simp only [Act.put, List.setIfInBounds_toArray, List.set_cons_zero, List.set_cons_succ])
          | (apply wpG_call (v := .int .i64 R.used)
             · rfl
             · intro u
               go_simp
               exact ⟨rfl, rfl⟩
             · intro u hu
               exact (St.ref_used hu HUB.out).mono fun _ _ ⟨h1, h2⟩ => ⟨h1, h2 ▸ Anew.refl _⟩
             simp only [Act.put, List.setIfInBounds_toArray, List.set_cons_zero, List.set_cons_succ]))
        refine wpG_nil ?_
        intro w3 hs3
        have HS3 := Lib.hid hs3
        clear hs3 HS
        by_cases hfull : R.room - (R.used : Int) < (B.length : Int)
        · go_wp2_with fail
          go_ret
          unfold RefM.appendE RefM.append
          rw [if_pos HH.out, if_pos HH.out, if_neg HNO.out, if_neg HNO.out, if_pos hfull, if_pos hfull]
          exact ⟨rfl, HS3.out⟩
        · go_wp2_with fail
          obtain ⟨i0, i1, i2⟩ := (RefM.has_iff R id).1 HH.out
          obtain ⟨i, rfl⟩ : ∃ i : Nat, id = (i : Int) := ⟨id.toNat, by omega⟩
          obtain ⟨⟨A2, c2, A3, c3, rows⟩, hx, hq⟩ := HS3.out.ref
          have hi : i < R.runs.length := by omega
          have hx' : rows.map (·.2.2) = R.runs := hx
          have hil : i < rows.length := by
            have := congrArg List.length hx'
            simp at this
            omega
          obtain ⟨g, e2, _, _⟩ := hq.tail.own_at i hi
          have e2' : A2 = some ⟨g, 0, none⟩ := e2
          subst e2'
          obtain ⟨⟨ar, cr, lr⟩, hrow⟩ : ∃ r, rows[i]? = some r := ⟨_, List.getElem?_eq_getElem hil⟩
          have hlr : R.runs.getD i [] = lr := by rw [← hx']; simp [List.getD_eq_getElem?_getD, hrow]
          have hu : (R.runs.getD i []).length ≤ R.used := by
            have h1 := R.usedTo_succ i
            have h2 := R.usedTo_le (i := i + 1) (j := R.runs.length) (by omega)
            have h3 : R.there.getD i false = true := by simpa using i2
            rw [if_pos h3] at h1
            rw [RefM.usedTo_all] at h2
            omega
          rw [hlr] at hu
          have hqf : ∀ u, St w0 u (blkP rb 64 (RefW.cells ⟨some ⟨g, 0, none⟩, c2, A3, c3, rows⟩ Af R.fails.length cf R.wrote) :: ownP 42 1 (.slice (some ⟨g, 0, none⟩) R.runs.length c2) R.runs.length (rows.map rowV) :: ownP 4 1 (.slice A3 R.runs.length c3) R.runs.length (R.there.map Value.bool) :: rdsP rows :: l) →
              u.cell? ⟨rb, 2, none⟩ = some (.slice (some ⟨g, 0, none⟩) R.runs.length c2) ∧ u.cell? ⟨g, i, none⟩ = some (.slice ar lr.length cr) ∧ u.frozen? ⟨g, i, none⟩ = false ∧ RdV u ar (bys lr) ∧ (ar = none → lr = []) := by
            intro u hu
            obtain ⟨g', e, hc, hf⟩ := hu.tail.own_at i hi
            injection e with e
            injection e with e
            subst e
            refine ⟨hu.blk.1.cell 2, by rw [hc, List.getElem?_map, hrow]; rfl, hf, ?_⟩
            exact St.rds_at hu.nth4 (ar, cr, lr) (List.mem_of_getElem? hrow)
          have HQF := Lib.hid hqf
          have HQ := Lib.hid hq
          have HX := Lib.hid (And.intro hx hlr)
          have HU := Lib.hid hu
          have HIU : Hid (i < R.runs.length ∧ R.there.getD i false = true) := Lib.hid ⟨hi, by simpa using i2⟩
          have q1 : (i : Int) < (R.runs.length : Int) := by omega
          have q2 : (R.runs.length : Int) ≤ 9223372036854775807 := by have := HS3.out.ref_len.2; have e : R.wrote.runs.length = R.runs.length := rfl; omega
          clear hqf hq hx hx' hil hrow hlr hu e2 HS3 i0 i1 i2
          have HL : Hid (St w0 ((w3.alloc (Obj.cells #[] 5)).drew) _) := Lib.hid (HQ.out.drew.lit 5 1 w3.heap.size rfl)
          obtain ⟨c2a, cga, _, _, _⟩ := HQF.out _ HQ.out.drew
          obtain ⟨c2b, cgb, _, hrb, hnb⟩ := HQF.out _ HL.out.tail
          have HRB := Lib.hid (And.intro hrb hnb)
          clear hrb hnb
          have HI8 := Lib.hid infoU8a
          go_region_law (first
            | (refine step_append_st rfl (.tmp 57) (.tmp 64) 42 42 rfl 5 (.int .u8 0) 1 1 Try.underlying42 HI8.out rfl (by decide) (.slice (some ⟨w3.heap.size, 0, none⟩) 0 0) 0 [] rfl HL.out (.slice ar lr.length cr) lr.length (bys lr) rfl (Src.of_rd Try.underlying42 HRB.out.1 _ _ (by rw [bys_length, Nat.mul_one]) (one_bys _) (fun e => by rw [HRB.out.2 e]; rfl)) (by have := HU.out; have := HB.out; unfold maxLen; omega) (by have := HU.out; have := HB.out; omega) ?_
               intro A5 c5 w5 _ _ hs5
               obtain ⟨c2c, cgc, _, _, _⟩ := HQF.out _ hs5.tail
               rw [Nat.zero_add, List.nil_append] at hs5
               have HS5 := Lib.hid hs5
               clear hs5)
            | (refine step_append_st rfl (.tmp 65) (.tmp 66) 42 42 rfl 5 (.int .u8 0) 1 1 Try.underlying42 HI8.out rfl (by decide) (.slice A5 lr.length c5) lr.length (bys lr) rfl HS5.out (.slice A B.length c) B.length (bys B) rfl (Src.of_rd Try.underlying42 (HR.out.1 _ HS5.out.tail.tail.tail.tail.tail) _ _ (by rw [bys_length, Nat.mul_one]) (one_bys _) (fun e => by rw [HR.out.2 e]; rfl)) (by have := HU.out; have := HB.out; unfold maxLen; omega) (by have := HU.out; have := HB.out; omega) ?_
               intro A6 c6 w6 _ _ hs6
               obtain ⟨c2d, cgd, fzd, _, _⟩ := HQF.out _ hs6.tail
               have HS6 := Lib.hid hs6
               clear hs6))
          all_goals
            have hs7 : St w0 (w6.setCell ⟨g, i, none⟩ (.slice A6 (lr.length + B.length) c6)) (refP rb Af R.fails.length cf (R.wrote.put i B) :: l) := by
              refine St.ref_put (n := lr.length + B.length) (c := c6) (R := R.wrote) (x := ⟨some ⟨g, 0, none⟩, c2, A3, c3, rows⟩) HX.out.1 rfl ?_ ?_
              · have e : (R.wrote.runs.getD i []) = lr := HX.out.2
                rw [e, List.length_append]
              · have e : (R.wrote.runs.getD i []) = lr := HX.out.2
                rw [e, bys_append]
                exact HS6.out
            have HS7 := Lib.hid hs7
            clear hs7 HS6 HS5 HL HQ HQF HRB c2a cga c2b cgb c2c cgc c2d cgd fzd
            have hub : (R.wrote.put i B).used = R.used + B.length := RefM.used_put R.wrote i B HIU.out.1 HIU.out.2
            have HAP : Hid (R.appendE i B = 0 ∧ R.append i B = (R.wrote.put i B).top) := Lib.hid (by
              unfold RefM.appendE RefM.append
              rw [if_pos HH.out, if_pos HH.out, if_neg HNO.out, if_neg HNO.out, if_neg (by omega), if_neg (by omega)]
              exact ⟨rfl, rfl⟩)
            have HUB2 : Hid ((R.wrote.put i B).used ≤ 4611686018427387904) := Lib.hid (by rw [hub]; have := HB.out; omega)
            clear hub
            go_wp2_with fail
            refine (St.ref_used HS7.out HUB2.out).mono ?_
            rintro e w8 ⟨rfl, rfl⟩
            obtain ⟨uu, huu⟩ : ∃ uu, uu = (R.wrote.put i B).used := ⟨_, rfl⟩
            obtain ⟨_, _, _, c5'⟩ := HS7.out.ref_plain
            have c5p : (w6.setCell ⟨g, i, none⟩ (.slice A6 (lr.length + B.length) c6)).cell? ⟨rb, 5, none⟩ = some (.int .i64 R.peak) := c5'
            obtain ⟨f5, hs8⟩ := HS7.out.ref_top uu
            rw [← huu]
            have HUU := Lib.hid huu
            clear huu c5'
            generalize w6.setCell ⟨g, i, none⟩ (.slice A6 (lr.length + B.length) c6) = w7 at *
            have HS8 := Lib.hid hs8
            clear hs8
            by_cases hp : R.peak < (uu : Int)
            · go_wp2_with fail
              go_ret
              refine ⟨by rw [HAP.out.1]; rfl, ?_⟩
              rw [HAP.out.2]
              have e : (R.wrote.put i B).top = { R.wrote.put i B with peak := (uu : Int) } := by
                unfold RefM.top
                rw [← HUU.out]
                show RefM.mk _ _ _ _ _ (if R.peak < (uu : Int) then (uu : Int) else R.peak) = _
                rw [if_pos (by omega)]
              rw [e]
              exact HS8.out
            · go_wp2_with fail
              go_ret
              refine ⟨by rw [HAP.out.1]; rfl, ?_⟩
              rw [HAP.out.2]
              have e : (R.wrote.put i B).top = R.wrote.put i B := by
                unfold RefM.top
                rw [← HUU.out]
                show RefM.mk _ _ _ _ _ (if R.peak < (uu : Int) then (uu : Int) else R.peak) = _
                rw [if_neg (by omega)]
                rfl
              rw [e]
              exact HS7.out
theorem St.ref_append (h : St w0 w (refP rb Af nf cf R :: l)) (hrf : RdV w0 Af (ints R.fails)) (hnf : nf = R.fails.length) (hnl : nf ≤ 4611686018427387904) (id : Int) (A : Option Addr) (n c : Nat) (B : List UInt8) (hr : RdV w0 A (bys B)) (hn : n = B.length) (hA : A = none → B = [])
    (hb : R.used + B.length ≤ 140737488350000) (hw : 0 ≤ R.writes ∧ R.writes ≤ 4611686018427387904) (hm : 0 ≤ R.room ∧ R.room ≤ 9223372036854775807) :
    Calls Try.prog 58 #[.pointer (some ⟨rb, 0, none⟩), .int .i64 id, .slice A n c] w fun e w' => e = .returned (.int .i64 (R.appendE id B)) ∧ St w0 w' (refP rb Af nf cf (R.append id B) :: l) :=
  h.ref_append_g hrf hnf hnl id A n c B (fun _ hu => hu.rd hr) hn hA hb hw hm
/-- A new one. -/
theorem St.ref_new (h : St w0 w l) (b : Nat) (hb : b = w.heap.size) (room : Int) (fl : List Int) : St w0 (w.alloc (.cells #[.int .i64 room, .slice Af nf cf, .slice none 0 0, .slice none 0 0, .int .i64 0, .int .i64 0] 64)) (refP b Af nf cf ⟨room, fl, [], [], 0, 0⟩ :: l) := by
  subst hb
  refine St.ref_mk (R := ⟨room, fl, [], [], 0, 0⟩) ⟨none, 0, none, 0, []⟩ rfl ?_
  exact ((h.rds.nil 4 1).nil 42 1).box [.int .i64 room, .slice Af nf cf, .slice none 0 0, .slice none 0 0, .int .i64 0, .int .i64 0] 64
end
end Go.Proofs.Ytkglkpcpgdeneaa
namespace Go.Proofs.Ytkglkpcpgdeneaa
open Go.RowKit
theorem infoRow : (Try.prog.info? 42).map (fun i => (i.zero, i.size, i.bytes)) = some (some (.slice none 0 0), 1, 24) := by kernel_rfl
theorem infoMark : (Try.prog.info? 4).map (fun i => (i.zero, i.size, i.bytes)) = some (some (.bool false), 1, 1) := by kernel_rfl
section
variable {w0 w : World} {l : List Part}
theorem St.boxB (h : St w0 w l) (cs : List Value) (T : TypeId) (b : Nat) (hb : b = w.heap.size) : St w0 (w.alloc (.cells cs.toArray T)) (blkP b T cs :: l) := by
  subst hb; exact h.box cs T
theorem St.blk_rd {g : Nat} {T : TypeId} {cs : List Value} (h : St w0 w (blkP g T cs :: l)) : RdV w (some ⟨g, 0, none⟩) cs := by
  have := RdV.of_blk h.blk.1 0 cs.length
  rwa [List.drop_zero, List.take_length] at this
/-- One more row, and it is none. -/
theorem step_row {ops : Array Oper} {o : Oper} {a : Act} {K : Act → World → Prop} {Q : Exit → Act → World → Prop} {E : Prop} (hgd : o.guard = none) (s x : Operand)
    (ho : o.op = .call { callee := .builtin .append, args := #[s, x], argTypes := #[61, 61] })
    {A : Option Addr} {n c g : Nat} {T : TypeId} {xs : List Value} (HS : St w0 w (ownP 42 1 (.slice A n c) n xs :: blkP g T [.slice none 0 0] :: l)) (hs : a.eval s = .slice A n c) (hx : a.eval x = .slice (some ⟨g, 0, none⟩) 1 1) (hn : n ≤ 1000000)
    (h : ∀ A c w', St w0 w' (ownP 42 1 (.slice A (n + 1) c) (n + 1) (xs ++ [.slice none 0 0]) :: blkP g T [.slice none 0 0] :: l) → K (a.put o.dst (.slice A (n + 1) c)) w') :
    if Region.wanted o (yielded ops a.tmps) = true then Oper.wp Try.prog o a w K Q else E := by
  refine step_append_st hgd s x 61 61 ho 42 (.slice none 0 0) 1 24 Try.underlying61 infoRow rfl (by decide) (.slice A n c) n xs hs HS (.slice (some ⟨g, 0, none⟩) 1 1) 1 [.slice none 0 0] hx
    (Src.of_rd Try.underlying61 HS.tail.blk_rd 1 1 rfl (by intro u hu; simp at hu; subst hu; rfl) (fun e => by cases e)) (by unfold maxLen; omega) (by omega) ?_
  intro A' c' w' _ _ h1
  exact h A' c' w' h1
/-- One more mark. -/
theorem step_mark {ops : Array Oper} {o : Oper} {a : Act} {K : Act → World → Prop} {Q : Exit → Act → World → Prop} {E : Prop} (hgd : o.guard = none) (s x : Operand)
    (ho : o.op = .call { callee := .builtin .append, args := #[s, x], argTypes := #[62, 62] })
    {A : Option Addr} {n c g : Nat} {T : TypeId} {xs : List Value} {b : Bool} (HS : St w0 w (ownP 4 1 (.slice A n c) n xs :: blkP g T [.bool b] :: l)) (hs : a.eval s = .slice A n c) (hx : a.eval x = .slice (some ⟨g, 0, none⟩) 1 1) (hn : n ≤ 1000000)
    (h : ∀ A c w', St w0 w' (ownP 4 1 (.slice A (n + 1) c) (n + 1) (xs ++ [.bool b]) :: blkP g T [.bool b] :: l) → K (a.put o.dst (.slice A (n + 1) c)) w') :
    if Region.wanted o (yielded ops a.tmps) = true then Oper.wp Try.prog o a w K Q else E := by
  refine step_append_st hgd s x 62 62 ho 4 (.bool false) 1 1 Try.underlying62 infoMark rfl (by decide) (.slice A n c) n xs hs HS (.slice (some ⟨g, 0, none⟩) 1 1) 1 [.bool b] hx
    (Src.of_rd Try.underlying62 HS.tail.blk_rd 1 1 rfl (by intro u hu; simp at hu; subst hu; rfl) (fun e => by cases e)) (by unfold maxLen; omega) (by omega) ?_
  intro A' c' w' _ _ h1
  exact h A' c' w' h1
/-- The reference's store, one row more: the rows' place. -/
theorem St.ref_more1 {rb nf cf : Nat} {Af : Option Addr} {R : RefM} {x : RefW} {p q : Part} {v : Value}
    (h : St w0 w (blkP rb 64 (x.cells Af nf cf R) :: p :: q :: l)) :
    w.cell? ⟨rb, 2, none⟩ = some (.slice x.A2 R.runs.length x.c2) ∧ w.frozen? ⟨rb, 2, none⟩ = false ∧ St w0 (w.setCell ⟨rb, 2, none⟩ v) (blkP rb 64 ((x.cells Af nf cf R).set 2 v) :: p :: q :: l) :=
  ⟨h.blk.1.cell 2, h.blk.1.free 2, h.set 2 v⟩
/-- One row more: the marks' place. -/
theorem St.ref_more2 {rb nf cf : Nat} {Af : Option Addr} {R : RefM} {x : RefW} (hx : x.rows.map (·.2.2) = R.runs) {A2 A3 : Option Addr} {c2 c3 : Nat}
    (h : St w0 w (blkP rb 64 ((x.cells Af nf cf R).set 2 (.slice A2 (R.runs.length + 1) c2)) :: ownP 42 1 (.slice A2 (R.runs.length + 1) c2) (R.runs.length + 1) (x.rows.map rowV ++ [.slice none 0 0]) :: ownP 4 1 (.slice A3 (R.runs.length + 1) c3) (R.runs.length + 1) (R.there.map Value.bool ++ [.bool true]) :: rdsP x.rows :: l)) :
    w.cell? ⟨rb, 3, none⟩ = some (.slice x.A3 R.runs.length x.c3) ∧ w.frozen? ⟨rb, 3, none⟩ = false ∧
    St w0 (w.setCell ⟨rb, 3, none⟩ (.slice A3 (R.runs.length + 1) c3)) (refP rb Af nf cf R.create :: l) := by
  have h3 := h.set 3 (.slice A3 (R.runs.length + 1) c3)
  refine ⟨h.blk.1.cell 3, h.blk.1.free 3, ?_⟩
  have h4 := St.rds_sub (rows' := x.rows ++ [(none, 0, [])]) h3.nth4 (fun r hr => by
    rcases List.mem_append.1 hr with h | h
    · exact .inl h
    · exact .inr (by simpa using h))
  have e : R.create.runs.length = R.runs.length + 1 := by unfold RefM.create; rw [List.length_append]; rfl
  refine St.ref_mk (R := R.create) ⟨A2, c2, A3, c3, x.rows ++ [(none, 0, [])]⟩ ?_ ?_
  · show (x.rows ++ [(none, 0, [])]).map _ = R.runs ++ [[]]
    rw [List.map_append, hx]; rfl
  · unfold RefW.cells
    rw [e, List.map_append, show R.create.there = R.there ++ [true] from rfl, List.map_append]
    exact h4.nth4.nth4.nth4
end
end Go.Proofs.Ytkglkpcpgdeneaa
