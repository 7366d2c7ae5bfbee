/- The reference's store in memory, and its methods. Conditions: none. -/
import Derived.Test.YtbkpjjibgnachaaJoinP
import Derived.Test.YtbkpjjibgnachaaRefM
import Derived.Test.YtbkpjjibgnachaaStoreQ
namespace Go.Proofs.Ytbkpjjibgnachaa
open Go.RowKit

/-- Where the reference's store keeps its rows. -/
structure RefW where
  A2 : Option Addr
  c2 : Nat
  A3 : Option Addr
  c3 : Nat
  rows : List (Option Addr × Nat × List UInt8)
def rowV (r : Option Addr × Nat × List UInt8) : Value := .slice r.1 r.2.2.length r.2.1
def RefW.cells (x : RefW) (Af : Option Addr) (nf cf : Nat) (R : RefM) : List Value := [.int .i64 R.room, .slice Af nf cf, .slice x.A2 R.runs.length x.c2, .slice x.A3 R.runs.length x.c3, .int .i64 R.writes, .int .i64 R.peak]
def refQ (rb : Nat) (Af : Option Addr) (nf cf : Nat) (R : RefM) (x : RefW) : Part :=
  andP (blkP rb 61 (x.cells Af nf cf R)) (andP (ownP 28 1 (.slice x.A2 R.runs.length x.c2) R.runs.length (x.rows.map rowV)) (andP (ownP 4 1 (.slice x.A3 R.runs.length x.c3) R.runs.length (R.there.map Value.bool)) (rdsP x.rows)))
/-- The reference's store. -/
def refP (rb : Nat) (Af : Option Addr) (nf cf : Nat) (R : RefM) : Part := exP fun x : { x : RefW // x.rows.map (·.2.2) = R.runs } => refQ rb Af nf cf R x.1
section
variable {w0 w : World} {l : List Part} {rb nf cf : Nat} {Af : Option Addr} {R : RefM}
/-- Opened. -/
theorem St.ref (h : St w0 w (refP rb Af nf cf R :: l)) : ∃ x : RefW, x.rows.map (·.2.2) = R.runs ∧ St w0 w (blkP rb 61 (x.cells Af nf cf R) :: ownP 28 1 (.slice x.A2 R.runs.length x.c2) R.runs.length (x.rows.map rowV) :: ownP 4 1 (.slice x.A3 R.runs.length x.c3) R.runs.length (R.there.map Value.bool) :: rdsP x.rows :: l) := by
  obtain ⟨⟨x, hx⟩, h1⟩ := St.ex h
  refine ⟨x, hx, ?_⟩
  exact (((h1.split).swap.split).swap.split).nth4.nth4.swap
theorem St.ref_mk (x : RefW) (hx : x.rows.map (·.2.2) = R.runs) (h : St w0 w (blkP rb 61 (x.cells Af nf cf R) :: ownP 28 1 (.slice x.A2 R.runs.length x.c2) R.runs.length (x.rows.map rowV) :: ownP 4 1 (.slice x.A3 R.runs.length x.c3) R.runs.length (R.there.map Value.bool) :: rdsP x.rows :: l)) : St w0 w (refP rb Af nf cf R :: l) := by
  refine St.ex_mk (f := fun x : { x : RefW // x.rows.map (·.2.2) = R.runs } => refQ rb Af nf cf R x.1) ⟨x, hx⟩ ?_
  exact ((h.nth3.nth4.swap.join).nth3.join).swap.join
theorem St.ref_len (h : St w0 w (refP rb Af nf cf R :: l)) : R.there.length = R.runs.length ∧ R.runs.length ≤ 9223372036854775807 := by
  obtain ⟨x, _, h1⟩ := h.ref
  have h3 := h1.tail.tail
  have e := h3.own_len
  obtain ⟨_, a, b, _⟩ := h3.own_rdv
  exact ⟨by simpa using e, by omega⟩
/-- The cells of the struct. -/
theorem St.ref_cells (h : St w0 w (refP rb Af nf cf R :: l)) : ∃ x : RefW, x.rows.map (·.2.2) = R.runs ∧ w.cell? ⟨rb, 0, none⟩ = some (.int .i64 R.room) ∧ w.cell? ⟨rb, 1, none⟩ = some (.slice Af nf cf) ∧ w.cell? ⟨rb, 2, none⟩ = some (.slice x.A2 R.runs.length x.c2) ∧ w.cell? ⟨rb, 3, none⟩ = some (.slice x.A3 R.runs.length x.c3) ∧ w.cell? ⟨rb, 4, none⟩ = some (.int .i64 R.writes) ∧ w.cell? ⟨rb, 5, none⟩ = some (.int .i64 R.peak) ∧
    (∀ i, i < R.runs.length → ∃ g, x.A3 = some ⟨g, 0, none⟩ ∧ w.cell? ⟨g, i, none⟩ = some (.bool (R.there.getD i false))) ∧
    (∀ i, i < R.runs.length → ∃ g A c, x.A2 = some ⟨g, 0, none⟩ ∧ w.cell? ⟨g, i, none⟩ = some (.slice A (R.runs.getD i []).length c) ∧ RdV w A (bys (R.runs.getD i [])) ∧ (A = none → R.runs.getD i [] = [])) := by
  have hl := h.ref_len.1
  obtain ⟨x, hx, h1⟩ := h.ref
  have hb := h1.blk.1
  refine ⟨x, hx, hb.cell 0, hb.cell 1, hb.cell 2, hb.cell 3, hb.cell 4, hb.cell 5, fun i hi => ?_, fun i hi => ?_⟩
  · obtain ⟨g, e, hc, _⟩ := h1.tail.tail.own_at i hi
    exact ⟨g, e, by rw [hc]; simp [List.getD_eq_getElem?_getD, hl, hi]⟩
  · obtain ⟨g, e, hc, _⟩ := h1.tail.own_at i hi
    have hi2 : i < x.rows.length := by
      have := congrArg List.length hx
      simp at this
      omega
    have hr := St.rds_at h1.nth4 x.rows[i] (List.getElem_mem hi2)
    have e2 : R.runs.getD i [] = x.rows[i].2.2 := by rw [← hx]; simp [List.getD_eq_getElem?_getD, hi2]
    rw [e2]
    exact ⟨g, x.rows[i].1, x.rows[i].2.1, e, by rw [hc]; simp [hi2, rowV], hr.1, hr.2⟩
set_option maxRecDepth 100000 in
theorem St.ref_has (h : St w0 w (refP rb Af nf cf R :: l)) (id : Int) (b : Bool) (hb : R.has id = b) :
    Calls Try.prog 33 #[.pointer (some ⟨rb, 0, none⟩), .int .i64 id] w fun e w' => e = .returned (.bool b) ∧ w = w' := by
  have hl := h.ref_len
  obtain ⟨x, _, _, _, c2, c3, _, _, h3, _⟩ := h.ref_cells
  have q0 : (R.runs.length : Int) ≤ 9223372036854775807 := by have := hl.2; omega
  clear h hl
  subst hb
  by_cases i0 : 0 ≤ id
  · by_cases i1 : id < (R.runs.length : Int)
    · obtain ⟨i, rfl⟩ : ∃ i : Nat, id = (i : Int) := ⟨id.toNat, by omega⟩
      obtain ⟨g, e, h4⟩ := h3 i (by omega)
      have hv : R.has (i : Int) = R.there.getD i false := by
        unfold RefM.has
        rw [decide_eq_true i0, decide_eq_true i1]; simp
      rw [hv]
      rw [e] at c3
      generalize R.there.getD i false = v at h4
      have e3 : (⟨g, 0, none⟩ : Addr).add i = ⟨g, i, none⟩ := by rw [add_plain, Nat.zero_add]
      clear h3 hv
      generalize R.runs.length = n at *
      go_enter Try.func33, Try.ntmps33
      go_wp2_with fail
      go_ret
      exact ⟨rfl, rfl⟩
    · have hv : R.has id = false := by unfold RefM.has; rw [decide_eq_false i1]; simp
      rw [hv]
      clear h3 hv
      generalize R.runs.length = n at *
      go_enter Try.func33, Try.ntmps33
      go_wp2_with fail
      go_ret
      exact ⟨rfl, rfl⟩
  · have hv : R.has id = false := by unfold RefM.has; rw [decide_eq_false i0]; rfl
    rw [hv]
    clear h3 hv c2 c3
    go_enter Try.func33, Try.ntmps33
    go_wp2_with fail
    go_ret
    exact ⟨rfl, rfl⟩
set_option maxRecDepth 100000 in
theorem St.ref_used (h : St w0 w (refP rb Af nf cf R :: l)) (hu : R.used ≤ 4611686018427387904) :
    Calls Try.prog 34 #[.pointer (some ⟨rb, 0, none⟩)] w fun e w' => e = .returned (.int .i64 R.used) ∧ w = w' := by
  have hl := h.ref_len
  obtain ⟨x, _, _, _, c2, c3, _, _, h3, h4⟩ := h.ref_cells
  have q0 : (R.runs.length : Int) ≤ 9223372036854775807 := by have := hl.2; omega
  have HU := Lib.hid hu
  have H3 := Lib.hid h3
  have H4 := Lib.hid h4
  clear h hl hu h3 h4
  obtain ⟨n, hn⟩ : ∃ n, n = R.runs.length := ⟨_, rfl⟩
  have HN := Lib.hid hn
  rw [← hn] at c2 c3 q0
  clear hn
  go_enter Try.func34, Try.ntmps34
  go_wp2_with fail
  go_loopw [3, 4] (fun v3 v4 wr => ∃ i : Nat, i ≤ n ∧ v3 = .int .i64 (R.usedTo i) ∧ v4 = .int .i64 i ∧ wr = w) (fun _ v4 _ => n - (intOf v4).toNat)
  case atStart => exact ⟨0, Nat.zero_le _, rfl, rfl, rfl⟩
  case round =>
    obtain ⟨i, hi, rfl, rfl, rfl⟩ := hrel
    by_cases hlt : i < n
    · obtain ⟨g3, e3, d3⟩ := H3.out i (by have := HN.out; omega)
      obtain ⟨g2, A, c, e2, d2, _, _⟩ := H4.out i (by have := HN.out; omega)
      rw [e3] at c3
      rw [e2] at c2
      have hs := R.usedTo_succ i
      have hm := R.usedTo_le (i := i + 1) (j := n) (by omega)
      have hmm : R.usedTo n ≤ 4611686018427387904 := by have := HU.out; rw [HN.out]; exact this
      have HS := Lib.hid hs
      have b1 : (R.usedTo i : Int) ≤ 4611686018427387904 := by have := R.usedTo_le (i := i) (j := n) (by omega); omega
      have b2 : (R.usedTo (i + 1) : Int) ≤ 4611686018427387904 := by omega
      clear hs hm hmm
      obtain ⟨m, hm⟩ : ∃ m, m = (R.runs.getD i []).length := ⟨_, rfl⟩
      rw [← hm] at d2
      have HM := Lib.hid hm
      clear hm
      by_cases ht : R.there.getD i false = true
      · rw [ht] at d3
        have b3 : (R.usedTo i : Int) + (m : Int) ≤ 4611686018427387904 := by have := HS.out; rw [if_pos ht, ← HM.out] at this; omega
        have HT := Lib.hid ht
        clear ht
        go_wp2_with fail
        go_roundw
        case rel =>
          have hv : (R.usedTo (i + 1) : Int) = (R.usedTo i : Int) + (m : Int) := by
            have := HS.out
            rw [if_pos HT.out, ← HM.out] at this
            omega
          exact ⟨i + 1, hlt, by rw [hv], by go_num, trivial⟩
        case measure => simp [intOf]; omega
      · have ht' : R.there.getD i false = false := by simpa using ht
        rw [ht'] at d3
        have HT := Lib.hid ht'
        clear ht ht'
        go_wp2_with fail
        go_roundw
        case rel => exact ⟨i + 1, hlt, by have := HS.out; rw [HT.out, if_neg Bool.false_ne_true] at this; rw [this]; rfl, by go_num, trivial⟩
        case measure => simp [intOf]; omega
    · obtain rfl : i = n := by omega
      have e : R.usedTo i = R.used := by rw [HN.out]; rfl
      rw [e]
      clear e hlt
      go_wp2_with fail
      go_ret
      exact ⟨rfl, rfl⟩
end
end Go.Proofs.Ytbkpjjibgnachaa
