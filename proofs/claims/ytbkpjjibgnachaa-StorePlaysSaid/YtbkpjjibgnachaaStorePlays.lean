/- StorePlays. Conditions: none. -/
import Derived.Test.YtbkpjjibgnachaaRefC
import Derived.Test.YtbkpjjibgnachaaConvB
import Derived.Test.YtbkpjjibgnachaaLaw14
import Derived.Test.YtbkpjjibgnachaaRowOp
import Derived.Test.YtbkpjjibgnachaaHeldT
import Derived.Test.YtbkpjjibgnachaaHeldB
import Derived.Test.YtbkpjjibgnachaaHeldMA
import Derived.Test.YtbkpjjibgnachaaPlaysI
import Derived.Deep.CutBlock
import Derived.Deep.DeepCutAuto
namespace Go.Proofs.Ytbkpjjibgnachaa
open Go.RowKit

section
variable {w0 w : World} {l : List Part} {rb nf cf : Nat} {Af : Option Addr} {R : RefM}
theorem St.ref_more {x : RefW} (hx : x.rows.map (·.2.2) = R.runs) {A2 A3 : Option Addr} {c2 c3 : Nat}
    (h : St w0 w (ownP 28 1 (.slice A2 (R.runs.length + 1) c2) (R.runs.length + 1) (x.rows.map rowV ++ [.slice none 0 0]) :: ownP 4 1 (.slice A3 (R.runs.length + 1) c3) (R.runs.length + 1) (R.there.map Value.bool ++ [.bool true]) :: blkP rb 61 (x.cells Af nf cf R) :: rdsP x.rows :: l)) :
    w.cell? ⟨rb, 2, none⟩ = some (.slice x.A2 R.runs.length x.c2) ∧ w.frozen? ⟨rb, 2, none⟩ = false ∧
    (w.setCell ⟨rb, 2, none⟩ (.slice A2 (R.runs.length + 1) c2)).cell? ⟨rb, 3, none⟩ = some (.slice x.A3 R.runs.length x.c3) ∧ (w.setCell ⟨rb, 2, none⟩ (.slice A2 (R.runs.length + 1) c2)).frozen? ⟨rb, 3, none⟩ = false ∧
    St w0 ((w.setCell ⟨rb, 2, none⟩ (.slice A2 (R.runs.length + 1) c2)).setCell ⟨rb, 3, none⟩ (.slice A3 (R.runs.length + 1) c3)) (refP rb Af nf cf R.create :: l) := by
  obtain ⟨h1, h2, h3⟩ := St.ref_more1 (v := .slice A2 (R.runs.length + 1) c2) h.nth3
  obtain ⟨h4, h5, h6⟩ := St.ref_more2 hx h3
  exact ⟨h1, h2, h4, h5, h6⟩
end
theorem infoInt9 : (Try.prog.info? 3).map (fun i => (i.zero, i.size, i.bytes)) = some (some (.int .i64 0), 1, 8) := by kernel_rfl
theorem St.ans14 {w0 w : World} {ps : List Part} (h : St w0 w ps) : Calls Try.prog 17 #[] w fun e w' => e = .returned (.bool true) ∧ St w0 w' ps :=
  (answers14 w).mono fun _ _ ⟨h1, h2⟩ => ⟨h1, h.later (Keep.of_below h2)⟩
set_option maxRecDepth 100000 in
theorem plays_big (w : World) (room : Int) (Af : Option Addr) (nf cf : Nat) (A : Option Addr) (n c : Nat) (h : 100 < nf ∨ 100 < n) : Calls Try.prog 8 #[.int .i64 room, .slice Af nf cf, .slice A n c] w fun e w' => e = .returned (.bool true) ∧ Keep (fun b => w.heap.size ≤ b) w w' := by
  have hc : (100 : Int) < (nf : Int) ∨ ((nf : Int) ≤ 100 ∧ (100 : Int) < (n : Int)) := by omega
  have HS := Lib.hid (St.start w)
  clear h
  rcases hc with b1 | ⟨b1, b2⟩
  all_goals
    go_enter Try.func8, Try.ntmps8
    go_wp2_with fail
    refine (St.ans14 HS.out).mono ?_
    rintro e w3 ⟨rfl, hs3⟩
    have HS3 := Lib.hid hs3
    clear hs3 HS
    go_wp2_with fail
    go_ret
    exact ⟨rfl, HS3.out.keep⟩
abbrev refL (rb : Nat) (Af : Option Addr) (nf cf : Nat) (R : RefM) (x : RefW) (l : List Part) : List Part := blkP rb 61 (x.cells Af nf cf R) :: ownP 28 1 (.slice x.A2 R.runs.length x.c2) R.runs.length (x.rows.map rowV) :: ownP 4 1 (.slice x.A3 R.runs.length x.c3) R.runs.length (R.there.map Value.bool) :: rdsP x.rows :: l
theorem St.refq_row {w0 w : World} {l : List Part} {rb nf cf : Nat} {Af : Option Addr} {R : RefM} {x : RefW} (hx : x.rows.map (·.2.2) = R.runs) (j : Nat) (hj : j < R.runs.length) (h : St w0 w (refL rb Af nf cf R x l)) :
    ∃ g A c, x.A2 = some ⟨g, 0, none⟩ ∧ (A = none → R.runs.getD j [] = []) ∧ (R.runs.getD j []).length ≤ c ∧ ∀ u, St w0 u (refL rb Af nf cf R x l) → u.cell? ⟨rb, 2, none⟩ = some (.slice (some ⟨g, 0, none⟩) R.runs.length x.c2) ∧ u.cell? ⟨g, j, none⟩ = some (.slice A (R.runs.getD j []).length c) ∧ RdV u A (bys (R.runs.getD j [])) := by
  obtain ⟨g, e, _, _⟩ := h.tail.own_at j hj
  have hi2 : j < x.rows.length := by
    have := congrArg List.length hx
    simp at this
    omega
  have e2 : R.runs.getD j [] = x.rows[j].2.2 := by rw [← hx]; simp [List.getD_eq_getElem?_getD, hi2]
  refine ⟨g, x.rows[j].1, x.rows[j].2.1, e, by rw [e2]; exact (St.rds_at h.nth4 x.rows[j] (List.getElem_mem hi2)).2, by rw [e2]; exact St.rds_cap h.nth4 x.rows[j] (List.getElem_mem hi2), fun u hu => ?_⟩
  obtain ⟨g', e', hc, _⟩ := hu.tail.own_at j hj
  rw [e] at e'
  injection e' with e'
  injection e' with e'
  subst e'
  have hb := hu.blk.1.cell 2
  refine ⟨by rw [hb]; show some (Value.slice x.A2 _ _) = _; rw [e], by rw [hc, e2]; simp [hi2, rowV], ?_⟩
  rw [e2]
  exact (St.rds_at hu.nth4 x.rows[j] (List.getElem_mem hi2)).1
theorem St.refq_there {w0 w : World} {l : List Part} {rb nf cf : Nat} {Af : Option Addr} {R : RefM} {x : RefW} (hx : x.rows.map (·.2.2) = R.runs) (j : Nat) (hj : j < R.runs.length) (h : St w0 w (refL rb Af nf cf R x l)) :
    ∃ g, x.A3 = some ⟨g, 0, none⟩ ∧ (∀ u, St w0 u (refL rb Af nf cf R x l) → u.cell? ⟨rb, 3, none⟩ = some (.slice (some ⟨g, 0, none⟩) R.runs.length x.c3) ∧ (∃ v, u.cell? ⟨g, j, none⟩ = some v) ∧ u.frozen? ⟨g, j, none⟩ = false ∧ St w0 (u.setCell ⟨g, j, none⟩ (.bool false)) (refP rb Af nf cf (R.drop j) :: l)) := by
  obtain ⟨g, e, _, _⟩ := h.tail.tail.own_at j hj
  refine ⟨g, e, fun u hu => ?_⟩
  obtain ⟨A2, c2, A3, c3, rows⟩ := x
  have e' : A3 = some ⟨g, 0, none⟩ := e
  subst e'
  obtain ⟨g', e2, hc, hf⟩ := hu.tail.tail.own_at j hj
  injection e2 with e2
  injection e2 with e2
  subst e2
  have hl : (R.there.map Value.bool).length = R.runs.length := by have := hu.tail.tail.own_len; simpa using this
  refine ⟨hu.blk.1.cell 3, ⟨_, by rw [hc]; exact List.getElem?_eq_getElem (by rw [hl]; exact hj)⟩, hf, ?_⟩
  have h2 := (hu.nth3.own_set j (.bool false)).swap.nth3.swap
  refine St.ref_mk (R := R.drop j) ⟨A2, c2, some ⟨g, 0, none⟩, c3, rows⟩ hx ?_
  have e3 : (R.drop j).there.map Value.bool = (R.there.map Value.bool).set j (.bool false) := by
    show (R.there.set j false).map Value.bool = _
    rw [List.map_set]
  rw [e3]
  exact h2
theorem str_take (L : List UInt8) (k : Nat) : (str L).extract 0 k = str (L.take k) := by
  apply ByteArray.ext
  simp [str]
/-- Where a slice begins behind a. -/
def slA (A : Option Addr) (c a : Nat) : Option Addr := match A with | none => none | some xx => if c = a then some xx else some (xx.add a)
theorem conv_from {w : World} {A : Option Addr} {bs : List UInt8} {c a : Nat} (hr : RdV w A (bys bs)) (hn : A = none → bs = []) (hc : bs.length ≤ c) (ha : a ≤ bs.length) (_ : True) : (convert 28 9 (.slice (slA A c a) (bs.length - a) (c - a))).run Try.prog w = .ok (.string (str (bs.drop a))) w := by
  cases A with
  | none =>
    have h0 := hn rfl
    subst h0
    have ha0 : a = 0 := by simpa using ha
    subst ha0
    exact conv_rd (RdV.nil _ _) rfl (fun _ => rfl) trivial
  | some xx =>
    by_cases hca : c = a
    · have e0 : bs.drop a = [] := List.drop_of_length_le (by omega)
      rw [e0]
      exact conv_rd (RdV.nil _ _) (by simp; omega) (fun e => by simp [slA, hca] at e) trivial
    · refine conv_rd ?_ (by simp) (fun e => by simp [slA, hca] at e) trivial
      intro i v hi
      have hb : bys (bs.drop a) = (bys bs).drop a := by simp [bys]
      rw [hb, List.getElem?_drop] at hi
      obtain ⟨y, hy, hc⟩ := hr (a + i) v hi
      cases hy
      refine ⟨xx.add a, by simp [slA, hca], ?_⟩
      rw [← hc]
      by_cases h1 : a = 0
      · subst h1; simp [Addr.add]
      · by_cases h2 : i = 0
        · subst h2; simp [Addr.add, h1]
        · simp [Addr.add, h1, h2, Nat.add_assoc]
set_option maxRecDepth 100000 in
set_option maxHeartbeats 16000000 in
theorem plays_small (w : World) (room : Int) (hroom : room ≤ 9223372036854775807) (Af : Option Addr) (cf : Nat) (fl : List Int) (hrf : RdV w Af (ints fl)) (hnf : fl.length ≤ 100) (hAf : Af = none → fl = [])
    (A : Option Addr) (c : Nat) (L : List OpI) (hr : RdO w A L) (hok : ∀ x ∈ L, OpOk w x) (hl : L.length ≤ 100) :
    Calls Try.prog 8 #[.int .i64 room, .slice Af fl.length cf, .slice A L.length c] w fun e w' => e = .returned (.bool true) ∧ Keep (fun b => w.heap.size ≤ b) w w' := by
  have b1 : (fl.length : Int) ≤ 100 := by omega
  have b2 : (L.length : Int) ≤ 100 := by omega
  have HRF := Lib.hid (And.intro hrf (And.intro hAf hnf))
  have HRO := Lib.hid (And.intro hr (And.intro hok hl))
  have HS := Lib.hid (St.start w)
  have HIN := Lib.hid infoInt9
  have HRM := Lib.hid hroom
  clear hr hok hl hrf hAf hnf hroom
  go_enter Try.func8, Try.ntmps8
  go_wp2_with (
    at_builtin
    refine wpL_fresh_st rfl (.tmp 29) (.tmp 30) 37 37 rfl 3 (.int .i64 0) 1 8 Try.underlying37 HIN.out rfl (by decide) _ rfl rfl HS.out (.slice Af fl.length cf) fl.length (ints fl) rfl (Src.of_rd Try.underlying37 ((HS.out.alloc _).rd HRF.out.1) fl.length cf (by simp [ints]) (by intro u hu; obtain ⟨z, _, rfl⟩ := List.mem_map.1 hu; rfl) (fun e => by rw [HRF.out.2.1 e]; rfl)) (by have := HRF.out.2.2; unfold maxLen; omega) (by have := HRF.out.2.2; omega) ?_
    intro A1 c1 w1 _ hn1 hs1 _
    have HN1 := Lib.hid hn1
    have HS1 := Lib.hid hs1
    clear hs1 hn1)
  refine (St.store_new HS1.out.tail room A1 fl.length c1 fl HRM.out (St.own_rdv HS1.out).1 rfl (fun e => ⟨HN1.out e, by
    rcases (St.own HS1.out).2 with ⟨h0, _⟩ | ⟨g, _, _, h0, _⟩
    · injection h0
    · injection h0 with h0; rw [e] at h0; cases h0⟩) (by have := HRF.out.2.2; omega)).mono ?_
  rintro e w2 ⟨sb, rfl, hs2⟩
  have HS2 := Lib.hid hs2
  clear hs2 HS1 HS
  go_upto_region 4 with fail
  rw [show (if room < 0 then 0 else room) = max room 0 by split <;> omega]
  obtain ⟨rm, hrm⟩ : ∃ rm, rm = max room 0 := ⟨_, rfl⟩
  have hsim := sim_made room fl HRM.out
  have hrm0 : 0 ≤ rm ∧ rm ≤ 9223372036854775807 := by have := HRM.out; omega
  rw [← hrm] at hsim ⊢
  have HRM0 := Lib.hid hrm0
  clear hrm hrm0
  · obtain ⟨rb, hrb⟩ : ∃ rb, rb = w2.heap.size := ⟨_, rfl⟩
    have hs3 : St w _ (refP rb Af fl.length cf ⟨rm, fl, [], [], 0, 0⟩ :: [storeP sb (StoreM.made room fl)]) := HS2.out.ref_new rb hrb rm fl
    rw [← hrb]
    have HS3 := Lib.hid (And.intro hs3.swap hsim)
    clear hs3 hsim hrb HS2
    generalize w2.alloc (Obj.cells #[Value.int IntKind.i64 rm, Value.slice Af fl.length cf, Value.slice none 0 0, Value.slice none 0 0, Value.int IntKind.i64 0, Value.int IntKind.i64 0] 61) = w3 at HS3 ⊢
    go_wp2_with fail
    go_loopw [9] (fun v9 wr => ∃ (i : Nat) (S : StoreM) (R : RefM), i ≤ L.length ∧ v9 = .int .i64 i ∧ Hid (PlaysInv fl i S R) ∧ Hid (St w wr [storeP sb S, refP rb Af fl.length cf R])) (fun v9 _ => L.length - (intOf v9).toNat)
    case atStart => exact ⟨0, _, _, Nat.zero_le _, rfl, Lib.hid ⟨HS3.out.2, rfl, Nat.le_refl _, Nat.zero_le _, ⟨Int.le_refl _, Int.le_refl _⟩, HRM0.out⟩, Lib.hid HS3.out.1⟩
    case round =>
      clear HS3
      obtain ⟨i, S, R, hi, rfl, HM, HS⟩ := hrel
      by_cases hlt : i < L.length
      · rcases HRO.out.1 with ⟨_, h0⟩ | ⟨ba, o, hA, hc⟩
        · rw [h0] at hlt; simp at hlt
        subst hA
        have hxok := HRO.out.2.1 L[i] (List.getElem_mem hlt)
        have hcell : ∀ j, j < 5 → wr.cell? ⟨ba, o + i * 5 + j, none⟩ = L[i].cells[j]? := fun j hj => by
          have h := hc i j hlt hj
          have hlj : j < L[i].cells.length := by unfold OpI.cells; exact hj
          rw [List.getElem?_eq_getElem hlj] at h ⊢
          exact HS.out.cell h
        generalize L[i] = x at hxok hcell
        obtain ⟨k, rn, at_, nn, A2, c2, B⟩ := x
        have HXO := Lib.hid hxok
        have HXB : Hid (RdV w A2 (bys B) ∧ (A2 = none → B = [])) := Lib.hid ⟨hxok.rd, hxok.nil⟩
        have d0 : wr.cell? ⟨ba, o + i * 5, none⟩ = some (.int .i64 k) := hcell 0 (by decide)
        have d1 : wr.cell? ⟨ba, o + i * 5 + 1, none⟩ = some (.int .i64 rn) := hcell 1 (by decide)
        have d2 : wr.cell? ⟨ba, o + i * 5 + 2, none⟩ = some (.int .i64 at_) := hcell 2 (by decide)
        have d3 : wr.cell? ⟨ba, o + i * 5 + 3, none⟩ = some (.int .i64 nn) := hcell 3 (by decide)
        have d4 : wr.cell? ⟨ba, o + i * 5 + 4, none⟩ = some (.slice A2 B.length c2) := hcell 4 (by decide)
        have q1 : (i : Int) < (L.length : Int) := by omega
        have q2 : (B.length : Int) ≤ 9223372036854775807 := by have := hxok.cap; simp at this; omega
        clear hcell hc hxok
        have HLT := Lib.hid hlt
        clear hlt
        by_cases hbig : (500 : Int) < (B.length : Int)
        · go_wp2_with fail
          refine (St.ans14 (HS.out.alloc _)).mono ?_
          rintro e w3 ⟨rfl, hs3⟩
          have HS4 := Lib.hid hs3
          clear hs3 HS
          go_wp2_with fail
          go_ret
          exact ⟨rfl, HS4.out.keep⟩
        · obtain ⟨ob, hob⟩ : ∃ ob, ob = wr.heap.size := ⟨_, rfl⟩
          have hs4 : St w (wr.alloc (Obj.cells #[.int .i64 k, .int .i64 rn, .int .i64 at_, .int .i64 nn, .slice A2 B.length c2] 63)) (blkP ob 63 [.int .i64 k, .int .i64 rn, .int .i64 at_, .int .i64 nn, .slice A2 B.length c2] :: [storeP sb S, refP rb Af fl.length cf R]) := by
            rw [hob]; exact HS.out.box [.int .i64 k, .int .i64 rn, .int .i64 at_, .int .i64 nn, .slice A2 B.length c2] 63
          have HS4 := Lib.hid hs4
          clear hs4 HS
          go_upto_block 2 with fail
          rw [← hob]
          clear hob d0 d1 d2 d3 d4
          generalize wr.alloc (Obj.cells #[.int .i64 k, .int .i64 rn, .int .i64 at_, .int .i64 nn, .slice A2 B.length c2] 63) = w4 at HS4 ⊢
          go_cut [] (fun wx => ∃ S' R', Hid (PlaysInv fl (i + 1) S' R') ∧ Hid (St w wx (blkP ob 63 [.int .i64 k, .int .i64 rn, .int .i64 at_, .int .i64 nn, .slice A2 B.length c2] :: [storeP sb S', refP rb Af fl.length cf R'])))
          case first =>
            have d1 : w4.cell? ⟨ob, 1, none⟩ = some (.int .i64 rn) := HS4.out.blk.1.cell 1
            by_cases k1 : k = 1
            · as_aux_lemma =>
              subst k1
              have hn : S.next < 65536 := by have h1 := HM.out.sim.next; have h2 := HM.out.runs; have h3 := HRO.out.2.2; have h4 := HLT.out; omega
              have hnx : S.next = R.runs.length := HM.out.sim.next
              have q8 : (R.runs.length : Int) ≤ 9223372036854775807 := by have := (St.ref_len (HS4.out.sel [2] (by decide) (by simp))).2; omega
              have HN := Lib.hid hn
              have HNX := Lib.hid hnx
              clear hn hnx
              go_wp2_with fail
              refine (St.store_create (HS4.out.sel [1, 0, 2] (by decide) (by simp)) HN.out).mono ?_
              rintro e w5 ⟨rfl, hs5⟩
              rw [HNX.out]
              have HS5 := Lib.hid (hs5.sel [1, 0, 2] (by decide) (by simp))
              clear hs5 HS4 d1
              obtain ⟨x, hx, hq⟩ := (HS5.out.sel [2, 0, 1] (by decide) (by simp)).ref
              have c2 : w5.cell? ⟨rb, 2, none⟩ = some (.slice x.A2 R.runs.length x.c2) := hq.blk.1.cell 2
              have HQ := Lib.hid hq
              have HX := Lib.hid hx
              clear hq hx
              go_wp2_with fail
              have HLE : Hid (R.runs.length ≤ 1000000) := Lib.hid (by have h2 := HM.out.runs; have h3 := HRO.out.2.2; have h4 := HLT.out; omega)
              clear c2 HS5
              refine wp_region_B [16, 19] (fun u => (u.cell? ⟨rb, 2, none⟩ = some (.slice x.A2 R.runs.length x.c2) ∧ u.cell? ⟨rb, 3, none⟩ = some (.slice x.A3 R.runs.length x.c3))) (fun u => St w u [blkP rb 61 (x.cells Af fl.length cf R), ownP 28 1 (.slice x.A2 R.runs.length x.c2) R.runs.length (x.rows.map rowV), ownP 4 1 (.slice x.A3 R.runs.length x.c3) R.runs.length (R.there.map Value.bool), rdsP x.rows, blkP ob 63 [.int .i64 1, .int .i64 rn, .int .i64 at_, .int .i64 nn, .slice A2 B.length c2], storeP sb S.create]) (by kernel_rfl) ⟨HQ.out.drew.blk.1.cell 2, HQ.out.drew.blk.1.cell 3⟩ HQ.out.drew ?_
              refine heldB_along default [0, 1, 2, 3, 4, 5, 8, 9, 10, 11] [5, 11] [] 10 rfl (by kernel_rfl) ?_
              simp only [List.map_cons, List.map_nil, List.getD_cons_succ, List.getD_cons_zero]
              repeat (first
                | (apply wpB_pure
                   · rfl
                   · rfl
                   · intro u
                     (go_simp <;> with_reducible rfl)
                   simp only [Act.put, List.setIfInBounds_toArray, List.set_cons_zero, List.set_cons_succ])
                | (apply wpB_read
                   · rfl
                   · rfl
                   · rfl
                   · intro u hu
                     obtain ⟨d2, d3⟩ := hu
                     (go_simp <;> with_reducible rfl)
                   simp only [Act.put, List.setIfInBounds_toArray, List.set_cons_zero, List.set_cons_succ]))
              refine wpB_nil ?_
              refine heldB_by2 default [6, 12] (by kernel_rfl) (by decide) (by kernel_rfl) ?_
              intro i hi
              simp only [List.mem_cons, List.not_mem_nil, or_false] at hi
              rcases hi with rfl | rfl
              · simp only [List.getD_cons_succ, List.getD_cons_zero]
                refine stepB_move (fun v u => ∃ (g1 : Nat), v = .slice (some ⟨g1, 0, none⟩) 1 1 ∧ St w u [blkP rb 61 (x.cells Af fl.length cf R), ownP 28 1 (.slice x.A2 R.runs.length x.c2) R.runs.length (x.rows.map rowV), ownP 4 1 (.slice x.A3 R.runs.length x.c3) R.runs.length (R.there.map Value.bool), rdsP x.rows, blkP ob 63 [.int .i64 1, .int .i64 rn, .int .i64 at_, .int .i64 nn, .slice A2 B.length c2], storeP sb S.create, blkP g1 28 [.slice none 0 0]]) rfl ?_ ?_
                · rintro u - hS
                  have h1 := hS.boxB [.slice none 0 0] 28 u.heap.size rfl
                  refine got_val (v := .slice (some ⟨u.heap.size, 0, none⟩) 1 1) (w' := u.alloc (Obj.cells #[.slice none 0 0] 28)) (by go_simp) ?_
                  exact ⟨⟨(St.blk (h1.sel [1] (by decide) (by simp))).1.cell 2, (St.blk (h1.sel [1] (by decide) (by simp))).1.cell 3⟩, u.heap.size, rfl, h1.sel [1, 2, 3, 4, 5, 6, 0] (by decide) (by simp)⟩
                · intro vb1
                  simp only [Act.put, List.setIfInBounds_toArray, List.set_cons_zero, List.set_cons_succ]
                  refine heldB_by2 default [7, 12] (by kernel_rfl) (by decide) (by kernel_rfl) ?_
                  intro i hi
                  simp only [List.mem_cons, List.not_mem_nil, or_false] at hi
                  rcases hi with rfl | rfl
                  · simp only [List.getD_cons_succ, List.getD_cons_zero]
                    refine stepB_move (fun v u => ∃ (Ar : Option Addr) (cr : Nat) (g1 : Nat), vb1 = .slice (some ⟨g1, 0, none⟩) 1 1 ∧ v = .slice Ar (R.runs.length + 1) cr ∧ St w u [blkP rb 61 (x.cells Af fl.length cf R), ownP 28 1 (.slice Ar (R.runs.length + 1) cr) (R.runs.length + 1) (x.rows.map rowV ++ [.slice none 0 0]), ownP 4 1 (.slice x.A3 R.runs.length x.c3) R.runs.length (R.there.map Value.bool), rdsP x.rows, blkP ob 63 [.int .i64 1, .int .i64 rn, .int .i64 at_, .int .i64 nn, .slice A2 B.length c2], storeP sb S.create, blkP g1 28 [.slice none 0 0]]) rfl ?_ ?_
                    · rintro u - ⟨g1, rfl, hS⟩
                      have h1 := hS.sel [1, 6, 0, 2, 3, 4, 5] (by decide) (by simp)
                      refine got_append_st _ (.tmp 78) (.tmp 79) 22 22 rfl 28 (.slice none 0 0) 1 24 Try.underlying22 infoRow rfl (by decide) (.slice x.A2 R.runs.length x.c2) R.runs.length (x.rows.map rowV) rfl h1 (.slice (some ⟨g1, 0, none⟩) 1 1) 1 [.slice none 0 0] rfl (Src.of_rd Try.underlying22 (St.blk_rd (h1.sel [1] (by decide) (by simp))) 1 1 rfl (by intro u hu; simp at hu; subst hu; rfl) (fun e => by cases e)) (by have := HLE.out; unfold maxLen; omega) (by have := HLE.out; omega) ?_
                      intro Ar cr w6 _ _ h2
                      exact ⟨⟨(St.blk (h2.sel [2] (by decide) (by simp))).1.cell 2, (St.blk (h2.sel [2] (by decide) (by simp))).1.cell 3⟩, Ar, cr, g1, rfl, rfl, h2.sel [2, 0, 3, 4, 5, 6, 1] (by decide) (by simp)⟩
                    · intro va1
                      simp only [Act.put, List.setIfInBounds_toArray, List.set_cons_zero, List.set_cons_succ]
                      refine heldB_by2 default [12] (by kernel_rfl) (by decide) (by kernel_rfl) ?_
                      intro i hi
                      simp only [List.mem_cons, List.not_mem_nil, or_false] at hi
                      subst hi
                      · simp only [List.getD_cons_succ, List.getD_cons_zero]
                        refine stepB_move (fun v u => ∃ (Ar : Option Addr) (cr : Nat) (g1 : Nat) (g2 : Nat), vb1 = .slice (some ⟨g1, 0, none⟩) 1 1 ∧ v = .slice (some ⟨g2, 0, none⟩) 1 1 ∧ va1 = .slice Ar (R.runs.length + 1) cr ∧ St w u [blkP rb 61 (x.cells Af fl.length cf R), ownP 28 1 (.slice Ar (R.runs.length + 1) cr) (R.runs.length + 1) (x.rows.map rowV ++ [.slice none 0 0]), ownP 4 1 (.slice x.A3 R.runs.length x.c3) R.runs.length (R.there.map Value.bool), rdsP x.rows, blkP ob 63 [.int .i64 1, .int .i64 rn, .int .i64 at_, .int .i64 nn, .slice A2 B.length c2], storeP sb S.create, blkP g1 28 [.slice none 0 0], blkP g2 4 [.bool true]]) rfl ?_ ?_
                        · rintro u - ⟨Ar, cr, g1, rfl, rfl, hS⟩
                          have h1 := hS.boxB [.bool true] 4 u.heap.size rfl
                          refine got_val (v := .slice (some ⟨u.heap.size, 0, none⟩) 1 1) (w' := u.alloc (Obj.cells #[.bool true] 4)) (by go_simp) ?_
                          exact ⟨⟨(St.blk (h1.sel [1] (by decide) (by simp))).1.cell 2, (St.blk (h1.sel [1] (by decide) (by simp))).1.cell 3⟩, Ar, cr, g1, u.heap.size, rfl, rfl, rfl, h1.sel [1, 2, 3, 4, 5, 6, 7, 0] (by decide) (by simp)⟩
                        · intro vb2
                          simp only [Act.put, List.setIfInBounds_toArray, List.set_cons_zero, List.set_cons_succ]
                          refine heldB_by2 default [13] (by kernel_rfl) (by decide) (by kernel_rfl) ?_
                          intro i hi
                          simp only [List.mem_cons, List.not_mem_nil, or_false] at hi
                          subst hi
                          · simp only [List.getD_cons_succ, List.getD_cons_zero]
                            refine stepB_move (fun v u => ∃ (Ar : Option Addr) (cr : Nat) (At : Option Addr) (ct : Nat) (g1 : Nat) (g2 : Nat), vb1 = .slice (some ⟨g1, 0, none⟩) 1 1 ∧ vb2 = .slice (some ⟨g2, 0, none⟩) 1 1 ∧ va1 = .slice Ar (R.runs.length + 1) cr ∧ v = .slice At (R.runs.length + 1) ct ∧ St w u [blkP rb 61 (x.cells Af fl.length cf R), ownP 28 1 (.slice Ar (R.runs.length + 1) cr) (R.runs.length + 1) (x.rows.map rowV ++ [.slice none 0 0]), ownP 4 1 (.slice At (R.runs.length + 1) ct) (R.runs.length + 1) (R.there.map Value.bool ++ [.bool true]), rdsP x.rows, blkP ob 63 [.int .i64 1, .int .i64 rn, .int .i64 at_, .int .i64 nn, .slice A2 B.length c2], storeP sb S.create, blkP g1 28 [.slice none 0 0], blkP g2 4 [.bool true]]) rfl ?_ ?_
                            · rintro u - ⟨Ar, cr, g1, g2, rfl, rfl, rfl, hS⟩
                              have h1 := hS.sel [2, 7, 0, 1, 3, 4, 5, 6] (by decide) (by simp)
                              refine got_append_st _ (.tmp 84) (.tmp 85) 41 41 rfl 4 (.bool false) 1 1 Try.underlying41 infoMark rfl (by decide) (.slice x.A3 R.runs.length x.c3) R.runs.length (R.there.map Value.bool) rfl h1 (.slice (some ⟨g2, 0, none⟩) 1 1) 1 [.bool true] rfl (Src.of_rd Try.underlying41 (St.blk_rd (h1.sel [1] (by decide) (by simp))) 1 1 rfl (by intro u hu; simp at hu; subst hu; rfl) (fun e => by cases e)) (by have := HLE.out; unfold maxLen; omega) (by have := HLE.out; omega) ?_
                              intro At ct w6 _ _ h2
                              exact ⟨⟨(St.blk (h2.sel [2] (by decide) (by simp))).1.cell 2, (St.blk (h2.sel [2] (by decide) (by simp))).1.cell 3⟩, Ar, cr, At, ct, g1, g2, rfl, rfl, rfl, rfl, h2.sel [2, 3, 0, 4, 5, 6, 7, 1] (by decide) (by simp)⟩
                            · intro va2
                              simp only [Act.put, List.setIfInBounds_toArray, List.set_cons_zero, List.set_cons_succ]
                              refine heldB_along default [14, 15, 16, 17, 18, 19] [] [16, 19] 0 rfl (by kernel_rfl) ?_
                              simp only [List.map_cons, List.map_nil, List.getD_cons_succ, List.getD_cons_zero]
                              repeat (
                              (apply wpB_pure
                               · rfl
                               · rfl
                               · intro u
                                 (go_simp <;> with_reducible rfl)
                               simp only [Act.put, List.setIfInBounds_toArray, List.set_cons_zero, List.set_cons_succ]))
                              apply wpB_move
                              · rfl
                              refine stepB_break (fun v u => ∃ (Ar : Option Addr) (cr : Nat) (At : Option Addr) (ct : Nat), va1 = .slice Ar (R.runs.length + 1) cr ∧ va2 = .slice At (R.runs.length + 1) ct ∧ St w u [blkP rb 61 ((x.cells Af fl.length cf R).set 2 (.slice Ar (R.runs.length + 1) cr)), ownP 28 1 (.slice Ar (R.runs.length + 1) cr) (R.runs.length + 1) (x.rows.map rowV ++ [.slice none 0 0]), ownP 4 1 (.slice At (R.runs.length + 1) ct) (R.runs.length + 1) (R.there.map Value.bool ++ [.bool true]), rdsP x.rows, blkP ob 63 [.int .i64 1, .int .i64 rn, .int .i64 at_, .int .i64 nn, .slice A2 B.length c2], storeP sb S.create]) rfl rfl ?_ ?_
                              · rintro u - ⟨Ar, cr, At, ct, g1, g2, rfl, rfl, rfl, rfl, hS⟩
                                have h0 : St w u [blkP rb 61 (x.cells Af fl.length cf R), ownP 28 1 (.slice Ar (R.runs.length + 1) cr) (R.runs.length + 1) (x.rows.map rowV ++ [.slice none 0 0]), ownP 4 1 (.slice At (R.runs.length + 1) ct) (R.runs.length + 1) (R.there.map Value.bool ++ [.bool true]), rdsP x.rows, blkP ob 63 [.int .i64 1, .int .i64 rn, .int .i64 at_, .int .i64 nn, .slice A2 B.length c2], storeP sb S.create] := hS.sel [0, 1, 2, 3, 4, 5] (by decide) (by simp)
                                have e2 : u.cell? ⟨rb, 2, none⟩ = some (.slice x.A2 R.runs.length x.c2) := h0.blk.1.cell 2
                                have f2 : u.frozen? ⟨rb, 2, none⟩ = false := h0.blk.1.free 2
                                have HH1 : Hid (St w (u.setCell ⟨rb, 2, none⟩ (.slice Ar (R.runs.length + 1) cr)) [blkP rb 61 ((x.cells Af fl.length cf R).set 2 (.slice Ar (R.runs.length + 1) cr)), ownP 28 1 (.slice Ar (R.runs.length + 1) cr) (R.runs.length + 1) (x.rows.map rowV ++ [.slice none 0 0]), ownP 4 1 (.slice At (R.runs.length + 1) ct) (R.runs.length + 1) (R.there.map Value.bool ++ [.bool true]), rdsP x.rows, blkP ob 63 [.int .i64 1, .int .i64 rn, .int .i64 at_, .int .i64 nn, .slice A2 B.length c2], storeP sb S.create]) := Lib.hid (h0.set 2 (.slice Ar (R.runs.length + 1) cr))
                                clear h0 hS
                                refine got_skip (w' := u.setCell ⟨rb, 2, none⟩ (.slice Ar (R.runs.length + 1) cr)) (by go_simp) ?_
                                exact ⟨trivial, Ar, cr, At, ct, rfl, rfl, HH1.out⟩
                              intro v16
                              simp only [Act.put]
                              repeat (
                              (apply wpB_pure
                               · rfl
                               · rfl
                               · intro u
                                 (go_simp <;> with_reducible rfl)
                               simp only [Act.put, List.setIfInBounds_toArray, List.set_cons_zero, List.set_cons_succ]))
                              apply wpB_move
                              · rfl
                              refine stepB_break (fun v u => St w u (refP rb Af fl.length cf R.create :: [blkP ob 63 [.int .i64 1, .int .i64 rn, .int .i64 at_, .int .i64 nn, .slice A2 B.length c2], storeP sb S.create])) rfl rfl ?_ ?_
                              · rintro u - ⟨Ar, cr, At, ct, rfl, rfl, hS⟩
                                obtain ⟨e2, f2, h1⟩ := St.ref_more2 HX.out hS
                                have HH1 : Hid (St w (u.setCell ⟨rb, 3, none⟩ (.slice At (R.runs.length + 1) ct)) (refP rb Af fl.length cf R.create :: [blkP ob 63 [.int .i64 1, .int .i64 rn, .int .i64 at_, .int .i64 nn, .slice A2 B.length c2], storeP sb S.create])) := Lib.hid h1
                                clear h1 hS
                                refine got_skip (w' := u.setCell ⟨rb, 3, none⟩ (.slice At (R.runs.length + 1) ct)) (by go_simp) ?_
                                exact ⟨trivial, HH1.out⟩
                              intro v19
                              simp only [Act.put]
                              refine wpB_nil (heldB_end (by kernel_rfl) ?_)
                              intro u _ hS
                              have HF := Lib.hid hS
                              clear hS
                              go_wp2_with fail
                              go_meet
                              case rel => exact ⟨S.create, R.create, Lib.hid (HM.out.create HN.out), Lib.hid (HF.out.sel [1, 2, 0] (by decide) (by simp))⟩
                  · simp only [List.getD_cons_succ, List.getD_cons_zero]
                    refine stepB_move (fun v u => ∃ (g1 : Nat) (g2 : Nat), vb1 = .slice (some ⟨g1, 0, none⟩) 1 1 ∧ v = .slice (some ⟨g2, 0, none⟩) 1 1 ∧ St w u [blkP rb 61 (x.cells Af fl.length cf R), ownP 28 1 (.slice x.A2 R.runs.length x.c2) R.runs.length (x.rows.map rowV), ownP 4 1 (.slice x.A3 R.runs.length x.c3) R.runs.length (R.there.map Value.bool), rdsP x.rows, blkP ob 63 [.int .i64 1, .int .i64 rn, .int .i64 at_, .int .i64 nn, .slice A2 B.length c2], storeP sb S.create, blkP g1 28 [.slice none 0 0], blkP g2 4 [.bool true]]) rfl ?_ ?_
                    · rintro u - ⟨g1, rfl, hS⟩
                      have h1 := hS.boxB [.bool true] 4 u.heap.size rfl
                      refine got_val (v := .slice (some ⟨u.heap.size, 0, none⟩) 1 1) (w' := u.alloc (Obj.cells #[.bool true] 4)) (by go_simp) ?_
                      exact ⟨⟨(St.blk (h1.sel [1] (by decide) (by simp))).1.cell 2, (St.blk (h1.sel [1] (by decide) (by simp))).1.cell 3⟩, g1, u.heap.size, rfl, rfl, h1.sel [1, 2, 3, 4, 5, 6, 7, 0] (by decide) (by simp)⟩
                    · intro vb2
                      simp only [Act.put, List.setIfInBounds_toArray, List.set_cons_zero, List.set_cons_succ]
                      refine heldB_by2 default [7] (by kernel_rfl) (by decide) (by kernel_rfl) ?_
                      intro i hi
                      simp only [List.mem_cons, List.not_mem_nil, or_false] at hi
                      subst hi
                      · simp only [List.getD_cons_succ, List.getD_cons_zero]
                        refine stepB_move (fun v u => ∃ (Ar : Option Addr) (cr : Nat) (g1 : Nat) (g2 : Nat), vb1 = .slice (some ⟨g1, 0, none⟩) 1 1 ∧ vb2 = .slice (some ⟨g2, 0, none⟩) 1 1 ∧ v = .slice Ar (R.runs.length + 1) cr ∧ St w u [blkP rb 61 (x.cells Af fl.length cf R), ownP 28 1 (.slice Ar (R.runs.length + 1) cr) (R.runs.length + 1) (x.rows.map rowV ++ [.slice none 0 0]), ownP 4 1 (.slice x.A3 R.runs.length x.c3) R.runs.length (R.there.map Value.bool), rdsP x.rows, blkP ob 63 [.int .i64 1, .int .i64 rn, .int .i64 at_, .int .i64 nn, .slice A2 B.length c2], storeP sb S.create, blkP g1 28 [.slice none 0 0], blkP g2 4 [.bool true]]) rfl ?_ ?_
                        · rintro u - ⟨g1, g2, rfl, rfl, hS⟩
                          have h1 := hS.sel [1, 6, 0, 2, 3, 4, 5, 7] (by decide) (by simp)
                          refine got_append_st _ (.tmp 78) (.tmp 79) 22 22 rfl 28 (.slice none 0 0) 1 24 Try.underlying22 infoRow rfl (by decide) (.slice x.A2 R.runs.length x.c2) R.runs.length (x.rows.map rowV) rfl h1 (.slice (some ⟨g1, 0, none⟩) 1 1) 1 [.slice none 0 0] rfl (Src.of_rd Try.underlying22 (St.blk_rd (h1.sel [1] (by decide) (by simp))) 1 1 rfl (by intro u hu; simp at hu; subst hu; rfl) (fun e => by cases e)) (by have := HLE.out; unfold maxLen; omega) (by have := HLE.out; omega) ?_
                          intro Ar cr w6 _ _ h2
                          exact ⟨⟨(St.blk (h2.sel [2] (by decide) (by simp))).1.cell 2, (St.blk (h2.sel [2] (by decide) (by simp))).1.cell 3⟩, Ar, cr, g1, g2, rfl, rfl, rfl, h2.sel [2, 0, 3, 4, 5, 6, 1, 7] (by decide) (by simp)⟩
                        · intro va1
                          simp only [Act.put, List.setIfInBounds_toArray, List.set_cons_zero, List.set_cons_succ]
                          refine heldB_by2 default [13] (by kernel_rfl) (by decide) (by kernel_rfl) ?_
                          intro i hi
                          simp only [List.mem_cons, List.not_mem_nil, or_false] at hi
                          subst hi
                          · simp only [List.getD_cons_succ, List.getD_cons_zero]
                            refine stepB_move (fun v u => ∃ (Ar : Option Addr) (cr : Nat) (At : Option Addr) (ct : Nat) (g1 : Nat) (g2 : Nat), vb1 = .slice (some ⟨g1, 0, none⟩) 1 1 ∧ vb2 = .slice (some ⟨g2, 0, none⟩) 1 1 ∧ va1 = .slice Ar (R.runs.length + 1) cr ∧ v = .slice At (R.runs.length + 1) ct ∧ St w u [blkP rb 61 (x.cells Af fl.length cf R), ownP 28 1 (.slice Ar (R.runs.length + 1) cr) (R.runs.length + 1) (x.rows.map rowV ++ [.slice none 0 0]), ownP 4 1 (.slice At (R.runs.length + 1) ct) (R.runs.length + 1) (R.there.map Value.bool ++ [.bool true]), rdsP x.rows, blkP ob 63 [.int .i64 1, .int .i64 rn, .int .i64 at_, .int .i64 nn, .slice A2 B.length c2], storeP sb S.create, blkP g1 28 [.slice none 0 0], blkP g2 4 [.bool true]]) rfl ?_ ?_
                            · rintro u - ⟨Ar, cr, g1, g2, rfl, rfl, rfl, hS⟩
                              have h1 := hS.sel [2, 7, 0, 1, 3, 4, 5, 6] (by decide) (by simp)
                              refine got_append_st _ (.tmp 84) (.tmp 85) 41 41 rfl 4 (.bool false) 1 1 Try.underlying41 infoMark rfl (by decide) (.slice x.A3 R.runs.length x.c3) R.runs.length (R.there.map Value.bool) rfl h1 (.slice (some ⟨g2, 0, none⟩) 1 1) 1 [.bool true] rfl (Src.of_rd Try.underlying41 (St.blk_rd (h1.sel [1] (by decide) (by simp))) 1 1 rfl (by intro u hu; simp at hu; subst hu; rfl) (fun e => by cases e)) (by have := HLE.out; unfold maxLen; omega) (by have := HLE.out; omega) ?_
                              intro At ct w6 _ _ h2
                              exact ⟨⟨(St.blk (h2.sel [2] (by decide) (by simp))).1.cell 2, (St.blk (h2.sel [2] (by decide) (by simp))).1.cell 3⟩, Ar, cr, At, ct, g1, g2, rfl, rfl, rfl, rfl, h2.sel [2, 3, 0, 4, 5, 6, 7, 1] (by decide) (by simp)⟩
                            · intro va2
                              simp only [Act.put, List.setIfInBounds_toArray, List.set_cons_zero, List.set_cons_succ]
                              refine heldB_along default [14, 15, 16, 17, 18, 19] [] [16, 19] 0 rfl (by kernel_rfl) ?_
                              simp only [List.map_cons, List.map_nil, List.getD_cons_succ, List.getD_cons_zero]
                              repeat (
                              (apply wpB_pure
                               · rfl
                               · rfl
                               · intro u
                                 (go_simp <;> with_reducible rfl)
                               simp only [Act.put, List.setIfInBounds_toArray, List.set_cons_zero, List.set_cons_succ]))
                              apply wpB_move
                              · rfl
                              refine stepB_break (fun v u => ∃ (Ar : Option Addr) (cr : Nat) (At : Option Addr) (ct : Nat), va1 = .slice Ar (R.runs.length + 1) cr ∧ va2 = .slice At (R.runs.length + 1) ct ∧ St w u [blkP rb 61 ((x.cells Af fl.length cf R).set 2 (.slice Ar (R.runs.length + 1) cr)), ownP 28 1 (.slice Ar (R.runs.length + 1) cr) (R.runs.length + 1) (x.rows.map rowV ++ [.slice none 0 0]), ownP 4 1 (.slice At (R.runs.length + 1) ct) (R.runs.length + 1) (R.there.map Value.bool ++ [.bool true]), rdsP x.rows, blkP ob 63 [.int .i64 1, .int .i64 rn, .int .i64 at_, .int .i64 nn, .slice A2 B.length c2], storeP sb S.create]) rfl rfl ?_ ?_
                              · rintro u - ⟨Ar, cr, At, ct, g1, g2, rfl, rfl, rfl, rfl, hS⟩
                                have h0 : St w u [blkP rb 61 (x.cells Af fl.length cf R), ownP 28 1 (.slice Ar (R.runs.length + 1) cr) (R.runs.length + 1) (x.rows.map rowV ++ [.slice none 0 0]), ownP 4 1 (.slice At (R.runs.length + 1) ct) (R.runs.length + 1) (R.there.map Value.bool ++ [.bool true]), rdsP x.rows, blkP ob 63 [.int .i64 1, .int .i64 rn, .int .i64 at_, .int .i64 nn, .slice A2 B.length c2], storeP sb S.create] := hS.sel [0, 1, 2, 3, 4, 5] (by decide) (by simp)
                                have e2 : u.cell? ⟨rb, 2, none⟩ = some (.slice x.A2 R.runs.length x.c2) := h0.blk.1.cell 2
                                have f2 : u.frozen? ⟨rb, 2, none⟩ = false := h0.blk.1.free 2
                                have HH1 : Hid (St w (u.setCell ⟨rb, 2, none⟩ (.slice Ar (R.runs.length + 1) cr)) [blkP rb 61 ((x.cells Af fl.length cf R).set 2 (.slice Ar (R.runs.length + 1) cr)), ownP 28 1 (.slice Ar (R.runs.length + 1) cr) (R.runs.length + 1) (x.rows.map rowV ++ [.slice none 0 0]), ownP 4 1 (.slice At (R.runs.length + 1) ct) (R.runs.length + 1) (R.there.map Value.bool ++ [.bool true]), rdsP x.rows, blkP ob 63 [.int .i64 1, .int .i64 rn, .int .i64 at_, .int .i64 nn, .slice A2 B.length c2], storeP sb S.create]) := Lib.hid (h0.set 2 (.slice Ar (R.runs.length + 1) cr))
                                clear h0 hS
                                refine got_skip (w' := u.setCell ⟨rb, 2, none⟩ (.slice Ar (R.runs.length + 1) cr)) (by go_simp) ?_
                                exact ⟨trivial, Ar, cr, At, ct, rfl, rfl, HH1.out⟩
                              intro v16
                              simp only [Act.put]
                              repeat (
                              (apply wpB_pure
                               · rfl
                               · rfl
                               · intro u
                                 (go_simp <;> with_reducible rfl)
                               simp only [Act.put, List.setIfInBounds_toArray, List.set_cons_zero, List.set_cons_succ]))
                              apply wpB_move
                              · rfl
                              refine stepB_break (fun v u => St w u (refP rb Af fl.length cf R.create :: [blkP ob 63 [.int .i64 1, .int .i64 rn, .int .i64 at_, .int .i64 nn, .slice A2 B.length c2], storeP sb S.create])) rfl rfl ?_ ?_
                              · rintro u - ⟨Ar, cr, At, ct, rfl, rfl, hS⟩
                                obtain ⟨e2, f2, h1⟩ := St.ref_more2 HX.out hS
                                have HH1 : Hid (St w (u.setCell ⟨rb, 3, none⟩ (.slice At (R.runs.length + 1) ct)) (refP rb Af fl.length cf R.create :: [blkP ob 63 [.int .i64 1, .int .i64 rn, .int .i64 at_, .int .i64 nn, .slice A2 B.length c2], storeP sb S.create])) := Lib.hid h1
                                clear h1 hS
                                refine got_skip (w' := u.setCell ⟨rb, 3, none⟩ (.slice At (R.runs.length + 1) ct)) (by go_simp) ?_
                                exact ⟨trivial, HH1.out⟩
                              intro v19
                              simp only [Act.put]
                              refine wpB_nil (heldB_end (by kernel_rfl) ?_)
                              intro u _ hS
                              have HF := Lib.hid hS
                              clear hS
                              go_wp2_with fail
                              go_meet
                              case rel => exact ⟨S.create, R.create, Lib.hid (HM.out.create HN.out), Lib.hid (HF.out.sel [1, 2, 0] (by decide) (by simp))⟩
              · simp only [List.getD_cons_succ, List.getD_cons_zero]
                refine stepB_move (fun v u => ∃ (g2 : Nat), v = .slice (some ⟨g2, 0, none⟩) 1 1 ∧ St w u [blkP rb 61 (x.cells Af fl.length cf R), ownP 28 1 (.slice x.A2 R.runs.length x.c2) R.runs.length (x.rows.map rowV), ownP 4 1 (.slice x.A3 R.runs.length x.c3) R.runs.length (R.there.map Value.bool), rdsP x.rows, blkP ob 63 [.int .i64 1, .int .i64 rn, .int .i64 at_, .int .i64 nn, .slice A2 B.length c2], storeP sb S.create, blkP g2 4 [.bool true]]) rfl ?_ ?_
                · rintro u - hS
                  have h1 := hS.boxB [.bool true] 4 u.heap.size rfl
                  refine got_val (v := .slice (some ⟨u.heap.size, 0, none⟩) 1 1) (w' := u.alloc (Obj.cells #[.bool true] 4)) (by go_simp) ?_
                  exact ⟨⟨(St.blk (h1.sel [1] (by decide) (by simp))).1.cell 2, (St.blk (h1.sel [1] (by decide) (by simp))).1.cell 3⟩, u.heap.size, rfl, h1.sel [1, 2, 3, 4, 5, 6, 0] (by decide) (by simp)⟩
                · intro vb2
                  simp only [Act.put, List.setIfInBounds_toArray, List.set_cons_zero, List.set_cons_succ]
                  refine heldB_by2 default [6] (by kernel_rfl) (by decide) (by kernel_rfl) ?_
                  intro i hi
                  simp only [List.mem_cons, List.not_mem_nil, or_false] at hi
                  subst hi
                  · simp only [List.getD_cons_succ, List.getD_cons_zero]
                    refine stepB_move (fun v u => ∃ (g1 : Nat) (g2 : Nat), v = .slice (some ⟨g1, 0, none⟩) 1 1 ∧ vb2 = .slice (some ⟨g2, 0, none⟩) 1 1 ∧ St w u [blkP rb 61 (x.cells Af fl.length cf R), ownP 28 1 (.slice x.A2 R.runs.length x.c2) R.runs.length (x.rows.map rowV), ownP 4 1 (.slice x.A3 R.runs.length x.c3) R.runs.length (R.there.map Value.bool), rdsP x.rows, blkP ob 63 [.int .i64 1, .int .i64 rn, .int .i64 at_, .int .i64 nn, .slice A2 B.length c2], storeP sb S.create, blkP g1 28 [.slice none 0 0], blkP g2 4 [.bool true]]) rfl ?_ ?_
                    · rintro u - ⟨g2, rfl, hS⟩
                      have h1 := hS.boxB [.slice none 0 0] 28 u.heap.size rfl
                      refine got_val (v := .slice (some ⟨u.heap.size, 0, none⟩) 1 1) (w' := u.alloc (Obj.cells #[.slice none 0 0] 28)) (by go_simp) ?_
                      exact ⟨⟨(St.blk (h1.sel [1] (by decide) (by simp))).1.cell 2, (St.blk (h1.sel [1] (by decide) (by simp))).1.cell 3⟩, u.heap.size, g2, rfl, rfl, h1.sel [1, 2, 3, 4, 5, 6, 0, 7] (by decide) (by simp)⟩
                    · intro vb1
                      simp only [Act.put, List.setIfInBounds_toArray, List.set_cons_zero, List.set_cons_succ]
                      refine heldB_by2 default [7] (by kernel_rfl) (by decide) (by kernel_rfl) ?_
                      intro i hi
                      simp only [List.mem_cons, List.not_mem_nil, or_false] at hi
                      subst hi
                      · simp only [List.getD_cons_succ, List.getD_cons_zero]
                        refine stepB_move (fun v u => ∃ (Ar : Option Addr) (cr : Nat) (g1 : Nat) (g2 : Nat), vb1 = .slice (some ⟨g1, 0, none⟩) 1 1 ∧ vb2 = .slice (some ⟨g2, 0, none⟩) 1 1 ∧ v = .slice Ar (R.runs.length + 1) cr ∧ St w u [blkP rb 61 (x.cells Af fl.length cf R), ownP 28 1 (.slice Ar (R.runs.length + 1) cr) (R.runs.length + 1) (x.rows.map rowV ++ [.slice none 0 0]), ownP 4 1 (.slice x.A3 R.runs.length x.c3) R.runs.length (R.there.map Value.bool), rdsP x.rows, blkP ob 63 [.int .i64 1, .int .i64 rn, .int .i64 at_, .int .i64 nn, .slice A2 B.length c2], storeP sb S.create, blkP g1 28 [.slice none 0 0], blkP g2 4 [.bool true]]) rfl ?_ ?_
                        · rintro u - ⟨g1, g2, rfl, rfl, hS⟩
                          have h1 := hS.sel [1, 6, 0, 2, 3, 4, 5, 7] (by decide) (by simp)
                          refine got_append_st _ (.tmp 78) (.tmp 79) 22 22 rfl 28 (.slice none 0 0) 1 24 Try.underlying22 infoRow rfl (by decide) (.slice x.A2 R.runs.length x.c2) R.runs.length (x.rows.map rowV) rfl h1 (.slice (some ⟨g1, 0, none⟩) 1 1) 1 [.slice none 0 0] rfl (Src.of_rd Try.underlying22 (St.blk_rd (h1.sel [1] (by decide) (by simp))) 1 1 rfl (by intro u hu; simp at hu; subst hu; rfl) (fun e => by cases e)) (by have := HLE.out; unfold maxLen; omega) (by have := HLE.out; omega) ?_
                          intro Ar cr w6 _ _ h2
                          exact ⟨⟨(St.blk (h2.sel [2] (by decide) (by simp))).1.cell 2, (St.blk (h2.sel [2] (by decide) (by simp))).1.cell 3⟩, Ar, cr, g1, g2, rfl, rfl, rfl, h2.sel [2, 0, 3, 4, 5, 6, 1, 7] (by decide) (by simp)⟩
                        · intro va1
                          simp only [Act.put, List.setIfInBounds_toArray, List.set_cons_zero, List.set_cons_succ]
                          refine heldB_by2 default [13] (by kernel_rfl) (by decide) (by kernel_rfl) ?_
                          intro i hi
                          simp only [List.mem_cons, List.not_mem_nil, or_false] at hi
                          subst hi
                          · simp only [List.getD_cons_succ, List.getD_cons_zero]
                            refine stepB_move (fun v u => ∃ (Ar : Option Addr) (cr : Nat) (At : Option Addr) (ct : Nat) (g1 : Nat) (g2 : Nat), vb1 = .slice (some ⟨g1, 0, none⟩) 1 1 ∧ vb2 = .slice (some ⟨g2, 0, none⟩) 1 1 ∧ va1 = .slice Ar (R.runs.length + 1) cr ∧ v = .slice At (R.runs.length + 1) ct ∧ St w u [blkP rb 61 (x.cells Af fl.length cf R), ownP 28 1 (.slice Ar (R.runs.length + 1) cr) (R.runs.length + 1) (x.rows.map rowV ++ [.slice none 0 0]), ownP 4 1 (.slice At (R.runs.length + 1) ct) (R.runs.length + 1) (R.there.map Value.bool ++ [.bool true]), rdsP x.rows, blkP ob 63 [.int .i64 1, .int .i64 rn, .int .i64 at_, .int .i64 nn, .slice A2 B.length c2], storeP sb S.create, blkP g1 28 [.slice none 0 0], blkP g2 4 [.bool true]]) rfl ?_ ?_
                            · rintro u - ⟨Ar, cr, g1, g2, rfl, rfl, rfl, hS⟩
                              have h1 := hS.sel [2, 7, 0, 1, 3, 4, 5, 6] (by decide) (by simp)
                              refine got_append_st _ (.tmp 84) (.tmp 85) 41 41 rfl 4 (.bool false) 1 1 Try.underlying41 infoMark rfl (by decide) (.slice x.A3 R.runs.length x.c3) R.runs.length (R.there.map Value.bool) rfl h1 (.slice (some ⟨g2, 0, none⟩) 1 1) 1 [.bool true] rfl (Src.of_rd Try.underlying41 (St.blk_rd (h1.sel [1] (by decide) (by simp))) 1 1 rfl (by intro u hu; simp at hu; subst hu; rfl) (fun e => by cases e)) (by have := HLE.out; unfold maxLen; omega) (by have := HLE.out; omega) ?_
                              intro At ct w6 _ _ h2
                              exact ⟨⟨(St.blk (h2.sel [2] (by decide) (by simp))).1.cell 2, (St.blk (h2.sel [2] (by decide) (by simp))).1.cell 3⟩, Ar, cr, At, ct, g1, g2, rfl, rfl, rfl, rfl, h2.sel [2, 3, 0, 4, 5, 6, 7, 1] (by decide) (by simp)⟩
                            · intro va2
                              simp only [Act.put, List.setIfInBounds_toArray, List.set_cons_zero, List.set_cons_succ]
                              refine heldB_along default [14, 15, 16, 17, 18, 19] [] [16, 19] 0 rfl (by kernel_rfl) ?_
                              simp only [List.map_cons, List.map_nil, List.getD_cons_succ, List.getD_cons_zero]
                              repeat (
                              (apply wpB_pure
                               · rfl
                               · rfl
                               · intro u
                                 (go_simp <;> with_reducible rfl)
                               simp only [Act.put, List.setIfInBounds_toArray, List.set_cons_zero, List.set_cons_succ]))
                              apply wpB_move
                              · rfl
                              refine stepB_break (fun v u => ∃ (Ar : Option Addr) (cr : Nat) (At : Option Addr) (ct : Nat), va1 = .slice Ar (R.runs.length + 1) cr ∧ va2 = .slice At (R.runs.length + 1) ct ∧ St w u [blkP rb 61 ((x.cells Af fl.length cf R).set 2 (.slice Ar (R.runs.length + 1) cr)), ownP 28 1 (.slice Ar (R.runs.length + 1) cr) (R.runs.length + 1) (x.rows.map rowV ++ [.slice none 0 0]), ownP 4 1 (.slice At (R.runs.length + 1) ct) (R.runs.length + 1) (R.there.map Value.bool ++ [.bool true]), rdsP x.rows, blkP ob 63 [.int .i64 1, .int .i64 rn, .int .i64 at_, .int .i64 nn, .slice A2 B.length c2], storeP sb S.create]) rfl rfl ?_ ?_
                              · rintro u - ⟨Ar, cr, At, ct, g1, g2, rfl, rfl, rfl, rfl, hS⟩
                                have h0 : St w u [blkP rb 61 (x.cells Af fl.length cf R), ownP 28 1 (.slice Ar (R.runs.length + 1) cr) (R.runs.length + 1) (x.rows.map rowV ++ [.slice none 0 0]), ownP 4 1 (.slice At (R.runs.length + 1) ct) (R.runs.length + 1) (R.there.map Value.bool ++ [.bool true]), rdsP x.rows, blkP ob 63 [.int .i64 1, .int .i64 rn, .int .i64 at_, .int .i64 nn, .slice A2 B.length c2], storeP sb S.create] := hS.sel [0, 1, 2, 3, 4, 5] (by decide) (by simp)
                                have e2 : u.cell? ⟨rb, 2, none⟩ = some (.slice x.A2 R.runs.length x.c2) := h0.blk.1.cell 2
                                have f2 : u.frozen? ⟨rb, 2, none⟩ = false := h0.blk.1.free 2
                                have HH1 : Hid (St w (u.setCell ⟨rb, 2, none⟩ (.slice Ar (R.runs.length + 1) cr)) [blkP rb 61 ((x.cells Af fl.length cf R).set 2 (.slice Ar (R.runs.length + 1) cr)), ownP 28 1 (.slice Ar (R.runs.length + 1) cr) (R.runs.length + 1) (x.rows.map rowV ++ [.slice none 0 0]), ownP 4 1 (.slice At (R.runs.length + 1) ct) (R.runs.length + 1) (R.there.map Value.bool ++ [.bool true]), rdsP x.rows, blkP ob 63 [.int .i64 1, .int .i64 rn, .int .i64 at_, .int .i64 nn, .slice A2 B.length c2], storeP sb S.create]) := Lib.hid (h0.set 2 (.slice Ar (R.runs.length + 1) cr))
                                clear h0 hS
                                refine got_skip (w' := u.setCell ⟨rb, 2, none⟩ (.slice Ar (R.runs.length + 1) cr)) (by go_simp) ?_
                                exact ⟨trivial, Ar, cr, At, ct, rfl, rfl, HH1.out⟩
                              intro v16
                              simp only [Act.put]
                              repeat (
                              (apply wpB_pure
                               · rfl
                               · rfl
                               · intro u
                                 (go_simp <;> with_reducible rfl)
                               simp only [Act.put, List.setIfInBounds_toArray, List.set_cons_zero, List.set_cons_succ]))
                              apply wpB_move
                              · rfl
                              refine stepB_break (fun v u => St w u (refP rb Af fl.length cf R.create :: [blkP ob 63 [.int .i64 1, .int .i64 rn, .int .i64 at_, .int .i64 nn, .slice A2 B.length c2], storeP sb S.create])) rfl rfl ?_ ?_
                              · rintro u - ⟨Ar, cr, At, ct, rfl, rfl, hS⟩
                                obtain ⟨e2, f2, h1⟩ := St.ref_more2 HX.out hS
                                have HH1 : Hid (St w (u.setCell ⟨rb, 3, none⟩ (.slice At (R.runs.length + 1) ct)) (refP rb Af fl.length cf R.create :: [blkP ob 63 [.int .i64 1, .int .i64 rn, .int .i64 at_, .int .i64 nn, .slice A2 B.length c2], storeP sb S.create])) := Lib.hid h1
                                clear h1 hS
                                refine got_skip (w' := u.setCell ⟨rb, 3, none⟩ (.slice At (R.runs.length + 1) ct)) (by go_simp) ?_
                                exact ⟨trivial, HH1.out⟩
                              intro v19
                              simp only [Act.put]
                              refine wpB_nil (heldB_end (by kernel_rfl) ?_)
                              intro u _ hS
                              have HF := Lib.hid hS
                              clear hS
                              go_wp2_with fail
                              go_meet
                              case rel => exact ⟨S.create, R.create, Lib.hid (HM.out.create HN.out), Lib.hid (HF.out.sel [1, 2, 0] (by decide) (by simp))⟩
            by_cases k2 : k = 2
            · as_aux_lemma =>
              subst k2
              clear k1
              have HI8 := Lib.hid infoU8a
              have hfe : S.appendE rn B = R.appendE rn B := HM.out.sim.appendE rn B
              have hB : B.length ≤ 500 := by omega
              have HAP : Hid (B.length ≤ 500 ∧ R.used ≤ 50000 ∧ 0 ≤ R.writes ∧ R.writes ≤ 100) := Lib.hid (by have h1 := HM.out.used; have h2 := HRO.out.2.2; have h3 := HLT.out; have h4 := HM.out.writes; omega)
              have HFE := Lib.hid hfe
              clear hfe hB
              go_wp2_with fail
              clear d1
              refine wp_region_M default [0, 1, 2, 4, 5, 8, 9, 10, 11, 12, 3, 6, 7, 13, 14] [3, 6, 7, 13, 14] (fun u u' => Blk u ob 63 [.int .i64 2, .int .i64 rn, .int .i64 at_, .int .i64 nn, .slice A2 B.length c2] → Blk u' ob 63 [.int .i64 2, .int .i64 rn, .int .i64 at_, .int .i64 nn, .slice A2 B.length c2]) (fun u => Blk u ob 63 [.int .i64 2, .int .i64 rn, .int .i64 at_, .int .i64 nn, .slice A2 B.length c2]) (fun u => St w u (blkP ob 63 [.int .i64 2, .int .i64 rn, .int .i64 at_, .int .i64 nn, .slice A2 B.length c2] :: [storeP sb S, refP rb Af fl.length cf R])) (by kernel_rfl) (by kernel_rfl) (by kernel_rfl) (fun _ _ h t => t h) HS4.out.drew.blk.1 HS4.out.drew ?_
              simp only [List.map_cons, List.map_nil, List.getD_cons_succ, List.getD_cons_zero]
              repeat (
                (apply wpM_val
                 · rfl
                 · intro u hu
                   have d1 : u.cell? ⟨ob, 1, none⟩ = some (.int .i64 rn) := hu.cell 1
                   have d4 : u.cell? ⟨ob, 4, none⟩ = some (.slice A2 B.length c2) := hu.cell 4
                   clear hu
                   (go_simp <;> with_reducible rfl)
                 simp only [Act.put, List.setIfInBounds_toArray, List.set_cons_zero, List.set_cons_succ]))
              refine wpM_move (fun v u => ∃ b : Nat, v = .slice (some ⟨b, 0, none⟩) 0 0 ∧ St w u (ownP 5 1 (.slice (some ⟨b, 0, none⟩) 0 0) 0 [] :: blkP ob 63 [.int .i64 2, .int .i64 rn, .int .i64 at_, .int .i64 nn, .slice A2 B.length c2] :: [storeP sb S, refP rb Af fl.length cf R])) (by decide) rfl ?_ ?_
              · intro u hD hS
                have h1 := hS.lit 5 1 u.heap.size rfl
                unfold gotAt
                go_simp
                exact ⟨fun _ => h1.tail.blk.1, _, rfl, h1⟩
              intro v
              simp only [Act.put, List.setIfInBounds_toArray, List.set_cons_zero, List.set_cons_succ]
              refine wpM_move (fun v u => ∃ (A5 : Option Addr) (c5 : Nat), v = .slice A5 B.length c5 ∧ (A5 = none → B.length = 0) ∧ St w u (ownP 5 1 (.slice A5 B.length c5) B.length (bys B) :: blkP ob 63 [.int .i64 2, .int .i64 rn, .int .i64 at_, .int .i64 nn, .slice A2 B.length c2] :: [storeP sb S, refP rb Af fl.length cf R])) (by decide) rfl ?_ ?_
              · rintro u hD ⟨b, rfl, hS⟩
                refine got_append_st _ (.tmp 96) (.tmp 98) 28 28 rfl 5 (.int .u8 0) 1 1 Try.underlying28 HI8.out rfl (by decide) (.slice (some ⟨b, 0, none⟩) 0 0) 0 [] rfl hS (.slice A2 B.length c2) B.length (bys B) rfl (Src.of_rd Try.underlying28 (hS.rd HXB.out.1) _ _ (by rw [bys_length, Nat.mul_one]) (one_bys _) (fun e => by rw [HXB.out.2 e]; rfl)) (by have := HAP.out; unfold maxLen; omega) (by have := HAP.out; omega) ?_
                intro A5 c5 w5 _ hn5 hs5
                rw [Nat.zero_add] at hs5 hn5 ⊢
                rw [List.nil_append] at hs5
                exact ⟨fun _ => hs5.tail.blk.1, A5, c5, rfl, hn5, hs5⟩
              intro v5
              simp only [Act.put, List.setIfInBounds_toArray, List.set_cons_zero, List.set_cons_succ]
              refine wpM_move (fun v u => v = .int .i64 (R.appendE rn B) ∧ St w u (storeP sb (S.append rn B) :: blkP ob 63 [.int .i64 2, .int .i64 rn, .int .i64 at_, .int .i64 nn, .slice A2 B.length c2] :: [refP rb Af fl.length cf R])) (by decide) rfl ?_ ?_
              · rintro u hD ⟨A5, c5, rfl, hn5, hS⟩
                have hc := St.store_append2 (hS.sel [2, 0, 1, 3] (by decide) (by simp)) rn A5 B.length c5 B (by have := HAP.out; rw [HM.out.sim.writes]; omega) rfl (fun G h => own_app h) hn5 (fun bs hf => by have h1 := StoreM.find_le HM.out.sim.ok hf; rw [HM.out.sim.used] at h1; have := HAP.out; omega)
                have HCC := Lib.hid hc
                clear hc
                unfold gotAt
                go_simp
                unfold gotUpon
                refine HCC.out.mono ?_
                rintro e w6 ⟨rfl, hs6⟩
                exact ⟨_, rfl, fun _ => (St.blk (hs6.sel [2] (by decide) (by simp))).1, by rw [HFE.out], hs6.sel [0, 2, 3] (by decide) (by simp)⟩
              intro v6
              simp only [Act.put, List.setIfInBounds_toArray, List.set_cons_zero, List.set_cons_succ]
              refine wpM_move (fun v u => v = .int .i64 (R.appendE rn B) ∧ v6 = .int .i64 (R.appendE rn B) ∧ St w u (blkP ob 63 [.int .i64 2, .int .i64 rn, .int .i64 at_, .int .i64 nn, .slice A2 B.length c2] :: [storeP sb (S.append rn B), refP rb Af fl.length cf (R.append rn B)])) (by decide) rfl ?_ ?_
              · rintro u hD ⟨rfl, hS⟩
                have hc := St.ref_append (hS.sel [2, 1, 0] (by decide) (by simp)) (by rw [HM.out.fails]; exact HRF.out.1) (by rw [HM.out.fails]) (by have := HRF.out.2.2; omega) rn A2 B.length c2 B HXB.out.1 rfl HXB.out.2 (by have := HAP.out; omega) (by have := HAP.out; omega) HM.out.room
                have HCC := Lib.hid hc
                clear hc
                unfold gotAt
                go_simp
                unfold gotUpon
                refine HCC.out.mono ?_
                rintro e w7 ⟨rfl, hs7⟩
                exact ⟨_, rfl, fun _ => (St.blk (hs7.sel [1] (by decide) (by simp))).1, rfl, hs7.sel [1, 2, 0] (by decide) (by simp)⟩
              intro v7
              simp only [Act.put, List.setIfInBounds_toArray, List.set_cons_zero, List.set_cons_succ]
              refine wpM_move (fun v u => v = .bool false ∧ St w u (blkP ob 63 [.int .i64 2, .int .i64 rn, .int .i64 at_, .int .i64 nn, .slice A2 B.length c2] :: [storeP sb (S.append rn B), refP rb Af fl.length cf (R.append rn B)])) (by decide) rfl ?_ ?_
              · rintro u hD ⟨rfl, rfl, hS⟩
                unfold gotAt
                go_simp
                exact ⟨fun h => h, rfl, hS⟩
              intro v8
              simp only [Act.put, List.setIfInBounds_toArray, List.set_cons_zero, List.set_cons_succ]
              refine wpM_nil ?_
              rintro u _ ⟨rfl, hs9⟩
              have HS9 := Lib.hid hs9
              clear hs9
              go_wp2_with fail
              go_meet
              case rel => exact ⟨S.append rn B, R.append rn B, Lib.hid (HM.out.append rn B HAP.out.1), HS9⟩
            by_cases k3 : k = 3
            · as_aux_lemma =>
              subst k3
              clear k1 k2
              have d2 : w4.cell? ⟨ob, 2, none⟩ = some (.int .i64 at_) := HS4.out.blk.1.cell 2
              have d3 : w4.cell? ⟨ob, 3, none⟩ = some (.int .i64 nn) := HS4.out.blk.1.cell 3
              cases hh : R.has rn with
              | false =>
                as_aux_lemma =>
                have HNO := Lib.hid (HM.out.sim.no hh)
                have HH := Lib.hid hh
                clear hh
                have hcv : True → (convert 28 9 (.slice none 0 0)).run Try.prog w4 = .ok (.string ⟨#[]⟩) w4 := conv_rd (L := []) (RdV.nil _ _) rfl (fun _ => rfl)
                go_wp2_with fail
                refine (St.store_read_no (HS4.out.sel [1, 0, 2] (by decide) (by simp)) rn at_ nn HNO.out).mono ?_
                rintro e w5 ⟨rfl, rfl⟩
                go_wp2_with fail
                refine (St.ref_has (HS4.out.sel [2] (by decide) (by simp)) rn (R.has rn) rfl).mono ?_
                rintro e w' ⟨rfl, rfl⟩
                rw [HH.out]
                go_wp2_with fail
                go_meet
                case rel => exact ⟨S, R, Lib.hid HM.out.step, HS4⟩
              | true =>
                obtain ⟨i0, i1, i2⟩ := (RefM.has_iff R rn).1 hh
                obtain ⟨j, rfl⟩ : ∃ j : Nat, rn = (j : Int) := ⟨rn.toNat, by omega⟩
                have HYES : Hid (S.find (j : Int) = some (R.runs.getD j [])) := Lib.hid (HM.out.sim.yes hh)
                have HH := Lib.hid hh
                have hj : j < R.runs.length := by omega
                have q8 : (R.runs.length : Int) ≤ 9223372036854775807 := by have := (St.ref_len (HS4.out.sel [2] (by decide) (by simp))).2; omega
                obtain ⟨x, hx, hq⟩ := (HS4.out.sel [2, 0, 1] (by decide) (by simp)).ref
                obtain ⟨g, Aj, cj, hgA, hAn, hcj, hqf⟩ := St.refq_row hx j hj hq
                have hlen : (R.runs.getD j []).length ≤ 50000 := by
                  have h1 := StoreM.find_le HM.out.sim.ok HYES.out
                  rw [HM.out.sim.used] at h1
                  have h2 := HM.out.used
                  have h3 := HRO.out.2.2
                  have h4 := HLT.out
                  omega
                generalize hbs : R.runs.getD j [] = bs at HYES hAn hcj hqf hlen
                have HBS := Lib.hid hbs
                have HLEN := Lib.hid hlen
                have HJ := Lib.hid hj
                have HQF := Lib.hid hqf
                have HQ := Lib.hid hq
                have HX := Lib.hid hx
                have q9 : (j : Int) < (R.runs.length : Int) := i1
                obtain ⟨sz, hsz⟩ : ∃ sz, sz = bs.length := ⟨_, rfl⟩
                have HSZ := Lib.hid hsz
                have q10 : (sz : Int) ≤ 50000 := by omega
                clear hh i0 i1 i2 hj hqf hq hx hsz hbs hlen
                have hcv : ∀ u : World, True → (convert 28 9 (.slice none 0 0)).run Try.prog u = .ok (.string ⟨#[]⟩) u := fun u => conv_rd (L := []) (RdV.nil _ _) rfl (fun _ => rfl)
                have HCV := Lib.hid hcv
                clear hcv
                by_cases hbad : at_ < 0 ∨ nn < 0 ∨ at_ > sz
                · have HBAD : Hid (at_ < 0 ∨ nn < 0 ∨ at_ > bs.length) := Lib.hid (by rw [← HSZ.out]; exact hbad)
                  have hb3 : decide (at_ < 0) = true ∨ (decide (at_ < 0) = false ∧ decide (nn < 0) = true) ∨ (decide (at_ < 0) = false ∧ decide (nn < 0) = false ∧ decide ((sz : Int) < at_) = true) := by
                    simp only [decide_eq_true_eq, decide_eq_false_iff_not]
                    omega
                  clear hbad hcj
                  rcases hb3 with g1 | ⟨g1, g2⟩ | ⟨g1, g2, g3⟩
                  all_goals
                    as_aux_lemma =>
                    go_wp2_with fail
                    refine (St.store_read_bad (HS4.out.sel [1, 0, 2] (by decide) (by simp)) (j : Int) at_ nn bs HYES.out HBAD.out).mono ?_
                    rintro e w5 ⟨rfl, rfl⟩
                    go_wp2_with fail
                    refine (St.ref_has (HS4.out.sel [2] (by decide) (by simp)) (j : Int) (R.has (j : Int)) rfl).mono ?_
                    rintro e w' ⟨rfl, rfl⟩
                    rw [HH.out]
                    go_wp2_with fail
                    refine wp_region_G [] Anew (fun u => St w u (refL rb Af fl.length cf R x [blkP ob 63 [.int .i64 3, .int .i64 (j : Int), .int .i64 at_, .int .i64 nn, .slice A2 B.length c2], storeP sb S])) (by kernel_rfl) (by kernel_rfl) (by kernel_rfl) Anew.refl (St.staysA _ _) HQ.out.drew ?_
                    clear d1 d2 d3
                    repeat (first
                      | (apply wpG_skip
                         · rfl
                         simp only [Act.put, List.setIfInBounds_toArray, List.set_cons_zero, List.set_cons_succ])
                      | (apply wpG_val
                         · rfl
                         · intro u hu
                           have hb := (St.blk (hu.sel [4] (by decide) (by simp))).1
                           have d1 : u.cell? ⟨ob, 1, none⟩ = some (.int .i64 (j : Int)) := hb.cell 1
                           have d2 : u.cell? ⟨ob, 2, none⟩ = some (.int .i64 at_) := hb.cell 2
                           have d3 : u.cell? ⟨ob, 3, none⟩ = some (.int .i64 nn) := hb.cell 3
                           obtain ⟨d4, d5, _⟩ := HQF.out u hu
                           rw [← HSZ.out] at d5
                           clear hu hb
                           (go_simp <;> with_reducible rfl)
                         simp only [Act.put, List.setIfInBounds_toArray, List.set_cons_zero, List.set_cons_succ]))
                    refine wpG_nil ?_
                    intro w7 hs7
                    have HS7 : Hid (St w w7 (blkP ob 63 [.int .i64 3, .int .i64 (j : Int), .int .i64 at_, .int .i64 nn, .slice A2 B.length c2] :: [storeP sb S, refP rb Af fl.length cf R])) := Lib.hid ((St.ref_mk x HX.out hs7).sel [1, 2, 0] (by decide) (by simp))
                    have hcv := HCV.out w7
                    clear hs7
                    go_wp2_with fail
                    go_meet
                    exact ⟨S, R, Lib.hid HM.out.step, HS7⟩
                · clear HQ HQF HX hgA hAn hcj
                  obtain ⟨a, rfl⟩ : ∃ a : Nat, at_ = (a : Int) := ⟨at_.toNat, by omega⟩
                  obtain ⟨m, rfl⟩ : ∃ m : Nat, nn = (m : Int) := ⟨nn.toNat, by omega⟩
                  have ha : a ≤ sz := by omega
                  have g1 : decide ((a : Int) < 0) = false := by simp only [decide_eq_false_iff_not]; omega
                  have g2 : decide ((m : Int) < 0) = false := by simp only [decide_eq_false_iff_not]; omega
                  have g3 : decide ((sz : Int) < (a : Int)) = false := by simp only [decide_eq_false_iff_not]; omega
                  have HM2 : Hid ((m : Int) ≤ 9223372036854775807) := Lib.hid HXO.out.num
                  have HA2 : Hid (a ≤ bs.length) := Lib.hid (by rw [← HSZ.out]; exact ha)
                  obtain ⟨k, hk⟩ : ∃ k, k = min m (sz - a) := ⟨_, rfl⟩
                  obtain ⟨cs, hcs⟩ : ∃ cs, cs = (bs.drop a).take k := ⟨_, rfl⟩
                  have HK := Lib.hid hk
                  have HCS := Lib.hid hcs
                  clear hbad hk hcs
                  go_wp2_with fail
                  refine (St.store_read (HS4.out.sel [1, 0, 2] (by decide) (by simp)) (j : Int) a m k (a : Int) (m : Int) rfl rfl bs cs HYES.out HA2.out HM2.out (by rw [HK.out, HSZ.out]) (by have := HLEN.out; omega) HCS.out.symm).mono ?_
                  rintro e w5 ⟨A5, c5, rfl, hc5, hA5, hs5⟩
                  have HS5 := Lib.hid (hs5.sel [3, 2, 1, 0] (by decide) (by simp))
                  clear hs5 HS4 d1 d2 d3 hc5 hA5
                  obtain ⟨x, hx, hq⟩ := HS5.out.ref
                  obtain ⟨g, Aj, cj, hgA, hAn, hcj, hqf⟩ := St.refq_row hx j HJ.out hq
                  rw [HBS.out] at hAn hcj hqf
                  have HQF := Lib.hid hqf
                  have HQ := Lib.hid hq
                  have HX := Lib.hid hx
                  clear hqf hq hx
                  have d1 : w5.cell? ⟨ob, 1, none⟩ = some (.int .i64 (j : Int)) := (HS5.out.sel [1] (by decide) (by simp)).blk.1.cell 1
                  go_wp2_with fail
                  refine (St.ref_has (HS5.out.sel [0] (by decide) (by simp)) (j : Int) (R.has (j : Int)) rfl).mono ?_
                  rintro e w' ⟨rfl, rfl⟩
                  rw [HH.out]
                  go_wp2_with fail
                  clear d1
                  refine wp_region_G [] Anew (fun u => St w u (refL rb Af fl.length cf R x [blkP ob 63 [.int .i64 3, .int .i64 (j : Int), .int .i64 (a : Int), .int .i64 (m : Int), .slice A2 B.length c2], storeP sb S, ownP 5 1 (.slice A5 k c5) k (bys cs)])) (by kernel_rfl) (by kernel_rfl) (by kernel_rfl) Anew.refl (St.staysA _ _) HQ.out.drew ?_
                  repeat (first
                    | (apply wpG_skip
                       · rfl
                       simp only [Act.put, List.setIfInBounds_toArray, List.set_cons_zero, List.set_cons_succ])
                    | (apply wpG_val
                       · rfl
                       · intro u hu
                         have hb := (St.blk (hu.sel [4] (by decide) (by simp))).1
                         have d1 : u.cell? ⟨ob, 1, none⟩ = some (.int .i64 (j : Int)) := hb.cell 1
                         have d2 : u.cell? ⟨ob, 2, none⟩ = some (.int .i64 (a : Int)) := hb.cell 2
                         have d3 : u.cell? ⟨ob, 3, none⟩ = some (.int .i64 (m : Int)) := hb.cell 3
                         obtain ⟨d4, d5, d6⟩ := HQF.out u hu
                         rw [← HSZ.out] at d5
                         clear hu hb
                         (go_simp <;> with_reducible rfl)
                       simp only [Act.put, List.setIfInBounds_toArray, List.set_cons_zero, List.set_cons_succ]))
                  refine wpG_nil ?_
                  intro w7 hs7
                  have HS7 := Lib.hid hs7
                  clear hs7 HQ HS5
                  go_wp2_with fail
                  have HN : Hid ((Aj = none → bs = []) ∧ bs.length ≤ cj) := Lib.hid ⟨hAn, hcj⟩
                  have qa : (a : Int) ≤ (sz : Int) := by omega
                  have qc : (sz : Int) ≤ (cj : Int) := by rw [HSZ.out]; exact_mod_cast hcj
                  have qca : (a : Int) ≤ (cj : Int) := by omega
                  have q0 : (0 : Int) ≤ (a : Int) := by omega
                  clear hAn hcj
                  have h3 : (Aj = none ∧ slA Aj cj a = none) ∨ (∃ xx, Aj = some xx ∧ cj = a ∧ slA Aj cj a = some xx) ∨ (∃ xx, Aj = some xx ∧ ¬ cj = a ∧ slA Aj cj a = some (xx.add a)) := by
                    cases Aj with
                    | none => exact .inl ⟨rfl, rfl⟩
                    | some xx =>
                      by_cases hca : cj = a
                      · exact .inr (.inl ⟨xx, rfl, hca, by simp [slA, hca]⟩)
                      · exact .inr (.inr ⟨xx, rfl, hca, by simp [slA, hca]⟩)
                  rcases h3 with ⟨e1, e2⟩ | ⟨xx, e1, e3, e2⟩ | ⟨xx, e1, e3, e2⟩
                  have HC0 : True := trivial
                  rotate_left
                  have HC0 : Hid (cj - a = 0) := Lib.hid (by omega)
                  rotate_right
                  all_goals
                    as_aux_lemma =>
                    have HE2 := Lib.hid e2
                    clear e2
                    subst e1
                    refine wp_region_G [] Anew (fun u => St w u (refL rb Af fl.length cf R x [blkP ob 63 [.int .i64 3, .int .i64 (j : Int), .int .i64 (a : Int), .int .i64 (m : Int), .slice A2 B.length c2], storeP sb S, ownP 5 1 (.slice A5 k c5) k (bys cs)])) (by kernel_rfl) (by kernel_rfl) (by kernel_rfl) Anew.refl (St.staysA _ _) HS7.out.drew ?_
                    repeat (first
                      | (apply wpG_skip
                         · rfl
                         simp only [Act.put, List.setIfInBounds_toArray, List.set_cons_zero, List.set_cons_succ])
                      | (apply wpG_val
                         · rfl
                         · intro u hu
                           have hb := (St.blk (hu.sel [4] (by decide) (by simp))).1
                           have d1 : u.cell? ⟨ob, 1, none⟩ = some (.int .i64 (j : Int)) := hb.cell 1
                           have d2 : u.cell? ⟨ob, 2, none⟩ = some (.int .i64 (a : Int)) := hb.cell 2
                           obtain ⟨d4, d5, d6⟩ := HQF.out u hu
                           rw [← HSZ.out] at d5
                           have hcv : True → _ := conv_from (c := cj) d6 HN.out.1 HN.out.2 HA2.out
                           rw [HE2.out, ← HSZ.out] at hcv
                           try rw [HC0.out] at hcv
                           clear hu hb d6
                           (go_simp <;> with_reducible rfl)
                         simp only [Act.put, List.setIfInBounds_toArray, List.set_cons_zero, List.set_cons_succ]))
                    refine wpG_nil ?_
                    intro w8 hs8
                    have hcv5 : True → _ := conv_own (hs8.sel [6] (by decide) (by simp))
                    obtain ⟨T, hT⟩ : ∃ T, T = str (bs.drop a) := ⟨_, rfl⟩
                    obtain ⟨Tk, hTk⟩ : ∃ Tk, Tk = str cs := ⟨_, rfl⟩
                    have hTs : T.size = sz - a := by rw [hT, HSZ.out]; simp [str, ByteArray.size]
                    have HT : Hid (T.extract 0 k = Tk) := Lib.hid (by rw [hTk, hT, str_take, HCS.out])
                    rw [← hTk] at hcv5
                    rw [← hT]
                    have HS8 : Hid (St w w8 (blkP ob 63 [.int .i64 3, .int .i64 (j : Int), .int .i64 (a : Int), .int .i64 (m : Int), .slice A2 B.length c2] :: [storeP sb S, refP rb Af fl.length cf R])) := Lib.hid ((St.ref_mk x HX.out hs8).sel [1, 2, 0] (by decide) (by simp))
                    have d3 : w8.cell? ⟨ob, 3, none⟩ = some (.int .i64 (m : Int)) := HS8.out.blk.1.cell 3
                    clear hs8 HS7 hT hTk
                    have hkm : ((m : Int) ≤ (T.size : Int) ∧ k = m) ∨ ((T.size : Int) < (m : Int) ∧ k = T.size) := by have := HK.out; omega
                    have q11 : (T.size : Int) ≤ 50000 := by omega
                    have q12 : (0 : Int) ≤ (T.size : Int) := by omega
                    have q13 : (0 : Int) ≤ (m : Int) := by omega
                    clear hTs
                    rcases hkm with ⟨z1, z2⟩ | ⟨z1, z2⟩
                    all_goals
                      have hTk := HT.out
                      rw [z2] at hTk
                      have HTK := Lib.hid hTk
                      have HZ2 := Lib.hid z2
                      clear z2 hTk HT
                      go_upto_region 28 with fail
                      first
                        | rw [HTK.out]
                        | rw [show T = Tk by have h := HTK.out; simpa using h]
                      clear z1 d3
                      go_wp2_with fail
                      go_meet
                      exact ⟨S, R, Lib.hid HM.out.step, HS8⟩
            by_cases k4 : k = 4
            · as_aux_lemma =>
              subst k4
              clear k1 k2 k3
              go_wp2_with fail
              refine (St.ref_has (HS4.out.sel [2] (by decide) (by simp)) rn (R.has rn) rfl).mono ?_
              rintro e w' ⟨rfl, rfl⟩
              cases hh : R.has rn with
              | false =>
                go_wp2_with fail
                refine (St.store_drop (HS4.out.sel [1, 0, 2] (by decide) (by simp)) rn).mono ?_
                rintro e w5 ⟨rfl, hs5⟩
                have hd := HM.out.sim.drop_no rn hh
                have hd1 : S.dropE rn = 14 := hd.1
                rw [hd1]
                have HS5 := Lib.hid (hs5.sel [1, 0, 2] (by decide) (by simp))
                have HD := Lib.hid hd.2
                clear hs5 hd hd1 HS4 d1
                go_wp2_with fail
                go_meet
                case rel =>
                  refine ⟨S, R, Lib.hid HM.out.step, Lib.hid ?_⟩
                  have h := HS5.out
                  rw [HD.out] at h
                  exact h
              | true =>
                obtain ⟨i0, i1, i2⟩ := (RefM.has_iff R rn).1 hh
                obtain ⟨j, rfl⟩ : ∃ j : Nat, rn = (j : Int) := ⟨rn.toNat, by omega⟩
                have HH := Lib.hid hh
                have hj : j < R.runs.length := by omega
                have HJ := Lib.hid hj
                have q8 : (R.runs.length : Int) ≤ 9223372036854775807 := by have := (St.ref_len (HS4.out.sel [2] (by decide) (by simp))).2; omega
                have q9 : (j : Int) < (R.runs.length : Int) := i1
                clear hh i0 i1 i2 hj
                go_wp2_with fail
                clear d1
                obtain ⟨x, hx, hq⟩ := (HS4.out.sel [2, 0, 1] (by decide) (by simp)).ref
                obtain ⟨g, hgA, hqf⟩ := St.refq_there hx j HJ.out hq
                have HQF := Lib.hid hqf
                clear hqf
                refine wp_region_T 7 [] Anew (fun u => St w u (refL rb Af fl.length cf R x [blkP ob 63 [.int .i64 4, .int .i64 (j : Int), .int .i64 at_, .int .i64 nn, .slice A2 B.length c2], storeP sb S])) (by kernel_rfl) (by kernel_rfl) Anew.refl (St.staysA _ _) hq.drew ?_
                simp only [List.take_succ_cons, List.take_zero, List.drop_succ_cons, List.drop_zero]
                clear hq HS4
                repeat (
                  (apply wpT_val
                   · rfl
                   · intro u hu
                     have d1 : u.cell? ⟨ob, 1, none⟩ = some (.int .i64 (j : Int)) := (St.blk (hu.sel [4] (by decide) (by simp))).1.cell 1
                     obtain ⟨d2, ⟨_, d3⟩, _⟩ := HQF.out u hu
                     clear hu
                     (go_simp <;> with_reducible rfl)
                   simp only [Act.put, List.setIfInBounds_toArray, List.set_cons_zero, List.set_cons_succ]))
                refine wpT_nil ?_
                intro w5 hs5
                obtain ⟨_, ⟨_, d3⟩, d4, hs6⟩ := HQF.out w5 hs5
                have HS6 : Hid (St w (w5.setCell ⟨g, j, none⟩ (.bool false)) [refP rb Af fl.length cf (R.drop j), blkP ob 63 [.int .i64 4, .int .i64 (j : Int), .int .i64 at_, .int .i64 nn, .slice A2 B.length c2], storeP sb S]) := Lib.hid hs6
                have d1 : (w5.setCell ⟨g, j, none⟩ (.bool false)).cell? ⟨ob, 1, none⟩ = some (.int .i64 (j : Int)) := (St.blk (hs6.sel [1] (by decide) (by simp))).1.cell 1
                clear hs5 hs6
                go_wp2_with fail
                refine (St.store_drop (HS6.out.sel [2, 1, 0] (by decide) (by simp)) (j : Int)).mono ?_
                rintro e w7 ⟨rfl, hs7⟩
                have hd := HM.out.sim.drop (j : Int) HH.out
                have hd1 : S.dropE (j : Int) = 0 := hd.1
                rw [hd1]
                have HS7 := Lib.hid (hs7.sel [1, 0, 2] (by decide) (by simp))
                clear hs7 hd hd1 HS6 d1 d3 d4
                go_wp2_with fail
                go_meet
                case rel => exact ⟨S.drop (j : Int), R.drop j, Lib.hid (HM.out.drop (j : Int) HH.out), HS7⟩
            · as_aux_lemma =>
              go_wp2_with fail
              go_meet
              case rel => exact ⟨S, R, Lib.hid HM.out.step, HS4⟩
          case rest =>
            as_aux_lemma =>
            clear HM HS4
            obtain ⟨S', R', HM, HS⟩ := hcut
            have HUB : Hid (R'.used ≤ 4611686018427387904) := Lib.hid (by have h1 := HM.out.used; have h2 := HRO.out.2.2; have h3 := HLT.out; omega)
            have d1 : wc.cell? ⟨ob, 1, none⟩ = some (.int .i64 rn) := HS.out.blk.1.cell 1
            go_wp2_with fail
            refine (St.ref_has (HS.out.sel [2] (by decide) (by simp)) rn (R'.has rn) rfl).mono ?_
            rintro e w' ⟨rfl, rfl⟩
            cases hh : R'.has rn with
            | false =>
              have HH := Lib.hid hh
              clear hh
              go_wp2_with fail
              clear d1
              have HC1 : Hid (∀ u, St w u (blkP ob 63 [.int .i64 k, .int .i64 rn, .int .i64 at_, .int .i64 nn, .slice A2 B.length c2] :: [storeP sb S', refP rb Af fl.length cf R']) → Calls Try.prog 21 #[.pointer (some ⟨sb, 0, none⟩)] u fun e w'' => e = .returned (.int .i64 R'.used) ∧ Anew u w'') := Lib.hid (fun u hu => (St.store_used (hu.sel [1] (by decide) (by simp))).mono fun _ _ ⟨h1, h2⟩ => ⟨by rw [h1, HM.out.sim.used], h2 ▸ Anew.refl _⟩)
              have HC2 : Hid (∀ u, St w u (blkP ob 63 [.int .i64 k, .int .i64 rn, .int .i64 at_, .int .i64 nn, .slice A2 B.length c2] :: [storeP sb S', refP rb Af fl.length cf R']) → Calls Try.prog 34 #[.pointer (some ⟨rb, 0, none⟩)] u fun e w'' => e = .returned (.int .i64 R'.used) ∧ Anew u w'') := Lib.hid (fun u hu => (St.ref_used (hu.sel [2] (by decide) (by simp)) HUB.out).mono fun _ _ ⟨h1, h2⟩ => ⟨h1, h2 ▸ Anew.refl _⟩)
              have HC3 : Hid (∀ u, St w u (blkP ob 63 [.int .i64 k, .int .i64 rn, .int .i64 at_, .int .i64 nn, .slice A2 B.length c2] :: [storeP sb S', refP rb Af fl.length cf R']) → Calls Try.prog 23 #[.pointer (some ⟨sb, 0, none⟩)] u fun e w'' => e = .returned (.int .i64 R'.peak) ∧ Anew u w'') := Lib.hid (fun u hu => (St.store_peak (hu.sel [1] (by decide) (by simp))).mono fun _ _ ⟨h1, h2⟩ => ⟨by rw [h1, HM.out.sim.peak], h2 ▸ Anew.refl _⟩)
              have HC4 : Hid (∀ u, St w u (blkP ob 63 [.int .i64 k, .int .i64 rn, .int .i64 at_, .int .i64 nn, .slice A2 B.length c2] :: [storeP sb S', refP rb Af fl.length cf R']) → Calls Try.prog 35 #[.pointer (some ⟨sb, 0, none⟩)] u fun e w'' => e = .returned (.int .i64 R'.writes) ∧ Anew u w'') := Lib.hid (fun u hu => (St.store_writes (hu.sel [1] (by decide) (by simp))).mono fun _ _ ⟨h1, h2⟩ => ⟨by rw [h1, HM.out.sim.writes], h2 ▸ Anew.refl _⟩)
              have HC5 : Hid (∀ u, St w u (blkP ob 63 [.int .i64 k, .int .i64 rn, .int .i64 at_, .int .i64 nn, .slice A2 B.length c2] :: [storeP sb S', refP rb Af fl.length cf R']) → Calls Try.prog 20 #[.pointer (some ⟨sb, 0, none⟩), .int .i64 rn] u fun e w'' => e = .returned (.int .i64 0) ∧ Anew u w'') := Lib.hid (fun u hu => (St.store_size (hu.sel [1] (by decide) (by simp)) rn).mono fun _ _ ⟨h1, h2⟩ => ⟨by rw [h1]; unfold StoreM.sizeN; rw [HM.out.sim.no HH.out]; rfl, h2 ▸ Anew.refl _⟩)
              refine wp_region_G [] Anew (fun u => St w u (blkP ob 63 [.int .i64 k, .int .i64 rn, .int .i64 at_, .int .i64 nn, .slice A2 B.length c2] :: [storeP sb S', refP rb Af fl.length cf R'])) (by kernel_rfl) (by kernel_rfl) (by kernel_rfl) Anew.refl (St.staysA _ _) HS.out.drew ?_
              repeat (first
                | (apply wpG_skip
                   · rfl
                   simp only [Act.put, List.setIfInBounds_toArray, List.set_cons_zero, List.set_cons_succ])
                | (apply wpG_val
                   · rfl
                   · intro u hu
                     have d1 : u.cell? ⟨ob, 1, none⟩ = some (.int .i64 rn) := hu.blk.1.cell 1
                     obtain ⟨_, _, c4, c5⟩ := St.ref_plain (hu.sel [2] (by decide) (by simp))
                     clear hu
                     (go_simp <;> with_reducible rfl)
                   simp only [Act.put, List.setIfInBounds_toArray, List.set_cons_zero, List.set_cons_succ])
                | (apply wpG_call
                   · rfl
                   · intro u
                     go_simp
                     exact ⟨rfl, rfl⟩
                   · intro u hu
                     with_reducible (first | exact HC1.out u hu | exact HC2.out u hu | exact HC3.out u hu | exact HC4.out u hu | exact HC5.out u hu)
                   simp only [Act.put, List.setIfInBounds_toArray, List.set_cons_zero, List.set_cons_succ]))
              refine wpG_nil ?_
              intro w9 hs9
              have HS9 := Lib.hid hs9
              clear hs9 HS
              go_wp2_with fail
              go_roundw
              case rel => exact ⟨i + 1, S', R', HLT.out, by go_num, HM, Lib.hid HS9.out.tail⟩
              case measure => have := HLT.out; simp [intOf]; omega
            | true =>
              obtain ⟨i0, i1, i2⟩ := (RefM.has_iff R' rn).1 hh
              obtain ⟨j, rfl⟩ : ∃ j : Nat, rn = (j : Int) := ⟨rn.toNat, by omega⟩
              have HH := Lib.hid hh
              have hj : j < R'.runs.length := by omega
              have HJ := Lib.hid hj
              have q8 : (R'.runs.length : Int) ≤ 9223372036854775807 := by have := (St.ref_len (HS.out.sel [2] (by decide) (by simp))).2; omega
              clear hh i0 i1 i2 hj
              go_wp2_with fail
              clear d1
              obtain ⟨x, hx, hq⟩ := (HS.out.sel [2, 0, 1] (by decide) (by simp)).ref
              obtain ⟨g, Aj, cj, hgA, _, _, hqf⟩ := St.refq_row hx j HJ.out hq
              have HQF := Lib.hid hqf
              have HX := Lib.hid hx
              obtain ⟨sz, hsz⟩ : ∃ sz, sz = (R'.runs.getD j []).length := ⟨_, rfl⟩
              have HSZ := Lib.hid hsz
              have q9 : (j : Int) < (R'.runs.length : Int) := by have := HJ.out; omega
              clear hqf hx hsz
              refine wp_region_G [] Anew (fun u => St w u (refL rb Af fl.length cf R' x [blkP ob 63 [.int .i64 k, .int .i64 (j : Int), .int .i64 at_, .int .i64 nn, .slice A2 B.length c2], storeP sb S'])) (by kernel_rfl) (by kernel_rfl) (by kernel_rfl) Anew.refl (St.staysA _ _) hq.drew ?_
              clear hq
              repeat (
                (apply wpG_val
                 · rfl
                 · intro u hu
                   have d1 : u.cell? ⟨ob, 1, none⟩ = some (.int .i64 (j : Int)) := (St.blk (hu.sel [4] (by decide) (by simp))).1.cell 1
                   obtain ⟨d2, d3, _⟩ := HQF.out u hu
                   rw [← HSZ.out] at d3
                   clear hu
                   (go_simp <;> with_reducible rfl)
                 simp only [Act.put, List.setIfInBounds_toArray, List.set_cons_zero, List.set_cons_succ]))
              refine wpG_nil ?_
              intro w7 hs7
              have HS7 : Hid (St w w7 (blkP ob 63 [.int .i64 k, .int .i64 (j : Int), .int .i64 at_, .int .i64 nn, .slice A2 B.length c2] :: [storeP sb S', refP rb Af fl.length cf R'])) := Lib.hid ((St.ref_mk x HX.out hs7).sel [1, 2, 0] (by decide) (by simp))
              clear hs7 HS
              have HS := HS7
              clear HS7
              go_wp2_with fail
              have HC1 : Hid (∀ u, St w u (blkP ob 63 [.int .i64 k, .int .i64 (j : Int), .int .i64 at_, .int .i64 nn, .slice A2 B.length c2] :: [storeP sb S', refP rb Af fl.length cf R']) → Calls Try.prog 21 #[.pointer (some ⟨sb, 0, none⟩)] u fun e w'' => e = .returned (.int .i64 R'.used) ∧ Anew u w'') := Lib.hid (fun u hu => (St.store_used (hu.sel [1] (by decide) (by simp))).mono fun _ _ ⟨h1, h2⟩ => ⟨by rw [h1, HM.out.sim.used], h2 ▸ Anew.refl _⟩)
              have HC2 : Hid (∀ u, St w u (blkP ob 63 [.int .i64 k, .int .i64 (j : Int), .int .i64 at_, .int .i64 nn, .slice A2 B.length c2] :: [storeP sb S', refP rb Af fl.length cf R']) → Calls Try.prog 34 #[.pointer (some ⟨rb, 0, none⟩)] u fun e w'' => e = .returned (.int .i64 R'.used) ∧ Anew u w'') := Lib.hid (fun u hu => (St.ref_used (hu.sel [2] (by decide) (by simp)) HUB.out).mono fun _ _ ⟨h1, h2⟩ => ⟨h1, h2 ▸ Anew.refl _⟩)
              have HC3 : Hid (∀ u, St w u (blkP ob 63 [.int .i64 k, .int .i64 (j : Int), .int .i64 at_, .int .i64 nn, .slice A2 B.length c2] :: [storeP sb S', refP rb Af fl.length cf R']) → Calls Try.prog 23 #[.pointer (some ⟨sb, 0, none⟩)] u fun e w'' => e = .returned (.int .i64 R'.peak) ∧ Anew u w'') := Lib.hid (fun u hu => (St.store_peak (hu.sel [1] (by decide) (by simp))).mono fun _ _ ⟨h1, h2⟩ => ⟨by rw [h1, HM.out.sim.peak], h2 ▸ Anew.refl _⟩)
              have HC4 : Hid (∀ u, St w u (blkP ob 63 [.int .i64 k, .int .i64 (j : Int), .int .i64 at_, .int .i64 nn, .slice A2 B.length c2] :: [storeP sb S', refP rb Af fl.length cf R']) → Calls Try.prog 35 #[.pointer (some ⟨sb, 0, none⟩)] u fun e w'' => e = .returned (.int .i64 R'.writes) ∧ Anew u w'') := Lib.hid (fun u hu => (St.store_writes (hu.sel [1] (by decide) (by simp))).mono fun _ _ ⟨h1, h2⟩ => ⟨by rw [h1, HM.out.sim.writes], h2 ▸ Anew.refl _⟩)
              have HC5 : Hid (∀ u, St w u (blkP ob 63 [.int .i64 k, .int .i64 (j : Int), .int .i64 at_, .int .i64 nn, .slice A2 B.length c2] :: [storeP sb S', refP rb Af fl.length cf R']) → Calls Try.prog 20 #[.pointer (some ⟨sb, 0, none⟩), .int .i64 (j : Int)] u fun e w'' => e = .returned (.int .i64 sz) ∧ Anew u w'') := Lib.hid (fun u hu => (St.store_size (hu.sel [1] (by decide) (by simp)) (j : Int)).mono fun _ _ ⟨h1, h2⟩ => ⟨by rw [h1]; unfold StoreM.sizeN; rw [HM.out.sim.yes HH.out, HSZ.out]; rfl, h2 ▸ Anew.refl _⟩)
              refine wp_region_G [] Anew (fun u => St w u (blkP ob 63 [.int .i64 k, .int .i64 (j : Int), .int .i64 at_, .int .i64 nn, .slice A2 B.length c2] :: [storeP sb S', refP rb Af fl.length cf R'])) (by kernel_rfl) (by kernel_rfl) (by kernel_rfl) Anew.refl (St.staysA _ _) HS.out.drew ?_
              repeat (first
                | (apply wpG_skip
                   · rfl
                   simp only [Act.put, List.setIfInBounds_toArray, List.set_cons_zero, List.set_cons_succ])
                | (apply wpG_val
                   · rfl
                   · intro u hu
                     have d1 : u.cell? ⟨ob, 1, none⟩ = some (.int .i64 (j : Int)) := hu.blk.1.cell 1
                     obtain ⟨_, _, c4, c5⟩ := St.ref_plain (hu.sel [2] (by decide) (by simp))
                     clear hu
                     (go_simp <;> with_reducible rfl)
                   simp only [Act.put, List.setIfInBounds_toArray, List.set_cons_zero, List.set_cons_succ])
                | (apply wpG_call
                   · rfl
                   · intro u
                     go_simp
                     exact ⟨rfl, rfl⟩
                   · intro u hu
                     with_reducible (first | exact HC1.out u hu | exact HC2.out u hu | exact HC3.out u hu | exact HC4.out u hu | exact HC5.out u hu)
                   simp only [Act.put, List.setIfInBounds_toArray, List.set_cons_zero, List.set_cons_succ]))
              refine wpG_nil ?_
              intro w9 hs9
              have HS9 := Lib.hid hs9
              clear hs9 HS
              go_wp2_with fail
              go_roundw
              case rel => exact ⟨i + 1, S', R', HLT.out, by go_num, HM, Lib.hid HS9.out.tail⟩
              case measure => have := HLT.out; simp [intOf]; omega
      · as_aux_lemma =>
        have q1 : ¬ (i : Int) < (L.length : Int) := by omega
        clear hlt hi
        go_wp2_with fail
        refine (St.ans14 HS.out).mono ?_
        rintro e w3 ⟨rfl, hs3⟩
        have HS3 := Lib.hid hs3
        clear hs3 HS
        go_wp2_with fail
        go_ret
        exact ⟨rfl, HS3.out.keep⟩
end Go.Proofs.Ytbkpjjibgnachaa
