/- The reference's store: Append. Conditions: none. -/
import Derived.Test.YtbkpjjibgnachaaRefP
import Derived.Test.YtbkpjjibgnachaaRefSim
import Derived.Test.YtbkpjjibgnachaaHeldG
namespace Go.Proofs.Ytbkpjjibgnachaa
open Go.RowKit
theorem infoU8a : (Try.prog.info? 5).map (fun i => (i.zero, i.size, i.bytes)) = some (some (.int .u8 0), 1, 1) := by kernel_rfl
theorem St.staysA (w0 : World) (l : List Part) : Stays Anew (fun u => St w0 u l) := fun _ _ h k => St.later h k
theorem St.nth5 {w0 w : World} {l : List Part} {a b c d e : Part} (h : St w0 w (a :: b :: c :: d :: e :: l)) : St w0 w (e :: a :: b :: c :: d :: l) := h.perm (List.perm_middle (l₁ := [a, b, c, d]))
section
variable {w0 w : World} {l : List Part} {rb nf cf : Nat} {Af : Option Addr} {R : RefM}
theorem St.ref_plain (h : St w0 w (refP rb Af nf cf R :: l)) : w.cell? ⟨rb, 0, none⟩ = some (.int .i64 R.room) ∧ w.cell? ⟨rb, 1, none⟩ = some (.slice Af nf cf) ∧ w.cell? ⟨rb, 4, none⟩ = some (.int .i64 R.writes) ∧ w.cell? ⟨rb, 5, none⟩ = some (.int .i64 R.peak) := by
  obtain ⟨x, _, c0, c1, _, _, c4, c5, _⟩ := h.ref_cells
  exact ⟨c0, c1, c4, c5⟩
theorem St.ref_wrote (h : St w0 w (refP rb Af nf cf R :: l)) : w.frozen? ⟨rb, 4, none⟩ = false ∧ St w0 (w.setCell ⟨rb, 4, none⟩ (.int .i64 (R.writes + 1))) (refP rb Af nf cf R.wrote :: l) := by
  obtain ⟨x, hx, h1⟩ := h.ref
  exact ⟨h1.blk.1.free 4, St.ref_mk x hx (h1.set 4 _)⟩
theorem St.ref_top (h : St w0 w (refP rb Af nf cf R :: l)) (v : Int) : w.frozen? ⟨rb, 5, none⟩ = false ∧ St w0 (w.setCell ⟨rb, 5, none⟩ (.int .i64 v)) (refP rb Af nf cf { R with peak := v } :: l) := by
  obtain ⟨x, hx, h1⟩ := h.ref
  exact ⟨h1.blk.1.free 5, St.ref_mk x hx (h1.set 5 _)⟩
/-- A row of one's own takes a row's place. -/
theorem St.ref_put {A : Option Addr} {n c g i : Nat} {B : List UInt8} {x : RefW} (hx : x.rows.map (·.2.2) = R.runs) (hg : x.A2 = some ⟨g, 0, none⟩) (hn : n = (R.runs.getD i [] ++ B).length)
    (h : St w0 w (ownP 5 1 (.slice A n c) n (bys (R.runs.getD i [] ++ B)) :: blkP rb 61 (x.cells Af nf cf R) :: ownP 28 1 (.slice x.A2 R.runs.length x.c2) R.runs.length (x.rows.map rowV) :: ownP 4 1 (.slice x.A3 R.runs.length x.c3) R.runs.length (R.there.map Value.bool) :: rdsP x.rows :: l)) :
    St w0 (w.setCell ⟨g, i, none⟩ (.slice A n c)) (refP rb Af nf cf (R.put i B) :: l) := by
  subst hn
  obtain ⟨A2, c2, A3, c3, rows⟩ := x
  dsimp only at *
  subst hg
  have h1 := St.rds_put (rows' := rows.set i (A, c, R.runs.getD i [] ++ B)) h.nth5.swap (fun r hr => by
    rcases List.mem_or_eq_of_mem_set hr with h | h
    · exact .inl h
    · exact .inr (.inl h))
  have h2 := (h1.nth3.own_set i (.slice A (R.runs.getD i [] ++ B).length c)).nth4.nth4.nth3.swap
  have e : (R.put i B).runs.length = R.runs.length := List.length_set
  refine St.ref_mk (R := R.put i B) ⟨some ⟨g, 0, none⟩, c2, A3, c3, rows.set i (A, c, R.runs.getD i [] ++ B)⟩ ?_ ?_
  · show (rows.set i _).map _ = R.runs.set i _
    rw [List.map_set, hx]
  · unfold RefW.cells
    rw [e, List.map_set]
    exact h2
set_option maxRecDepth 100000 in
set_option maxHeartbeats 4000000 in
theorem St.ref_append_g (h : St w0 w (refP rb Af nf cf R :: l)) (hrf : RdV w0 Af (ints R.fails)) (hnf : nf = R.fails.length) (hnl : nf ≤ 4611686018427387904) (id : Int) (A : Option Addr) (n c : Nat) (B : List UInt8) (hr : ∀ u, St w0 u l → RdV u A (bys B)) (hn : n = B.length) (hA : A = none → B = [])
    (hb : R.used + B.length ≤ 140737488350000) (hw : 0 ≤ R.writes ∧ R.writes ≤ 4611686018427387904) (hm : 0 ≤ R.room ∧ R.room ≤ 9223372036854775807) :
    Calls Try.prog 32 #[.pointer (some ⟨rb, 0, none⟩), .int .i64 id, .slice A n c] w fun e w' => e = .returned (.int .i64 (R.appendE id B)) ∧ St w0 w' (refP rb Af nf cf (R.append id B) :: l) := by
  subst hn hnf
  have HS := Lib.hid h
  have HRF := Lib.hid hrf
  have HR := Lib.hid (And.intro hr hA)
  have HB := Lib.hid hb
  have b1 : (R.fails.length : Int) ≤ 4611686018427387904 := by omega
  obtain ⟨b2, b3⟩ := hw
  obtain ⟨b4, b5⟩ := hm
  have b6 : (B.length : Int) ≤ 140737488350000 := by omega
  clear h hrf hr hA hb hnl
  go_enter Try.func32, Try.ntmps32
  go_wp2_with fail
  refine (St.ref_has HS.out id (R.has id) rfl).mono ?_
  rintro e w' ⟨rfl, rfl⟩
  cases hh : R.has id with
  | false =>
    go_wp2_with fail
    go_ret
    unfold RefM.appendE RefM.append
    rw [hh]
    exact ⟨rfl, HS.out⟩
  | true =>
    have HH := Lib.hid hh
    clear hh
    obtain ⟨_, _, c4, _⟩ := HS.out.ref_plain
    obtain ⟨f4, hs2⟩ := HS.out.ref_wrote
    have e1 : IntKind.i64.wrap (R.writes + 1) = R.writes + 1 := IntWalk.i64_in _ (by omega)
    have HS2 := Lib.hid hs2
    clear hs2
    go_wp2_with fail
    go_loopw [7] (fun v7 wr => ∃ i : Nat, i ≤ R.fails.length ∧ v7 = .int .i64 i ∧ Hid (∀ (j : Nat) (z : Int), j < i → R.fails[j]? = some z → z ≠ R.writes) ∧ Hid (St w0 wr (refP rb Af R.fails.length cf R.wrote :: l))) (fun v7 _ => R.fails.length - (intOf v7).toNat)
    case atStart => exact ⟨0, Nat.zero_le _, rfl, Lib.hid (fun j _ h => absurd h (Nat.not_lt_zero j)), HS2⟩
    case round =>
      clear HS2 c4 f4 HS
      obtain ⟨i, hi, rfl, HF, HS⟩ := hrel
      obtain ⟨_, c1, c4', _⟩ := HS.out.ref_plain
      have c4 : wr.cell? ⟨rb, 4, none⟩ = some (.int .i64 (R.writes + 1)) := c4'
      clear c4'
      by_cases hlt : i < R.fails.length
      · have hz : R.fails[i]? = some R.fails[i] := List.getElem?_eq_getElem hlt
        obtain ⟨a, ha, hc⟩ := HRF.out i (.int .i64 R.fails[i]) (by simp [ints, hlt])
        have ha' := HS.out.cell hc
        subst ha
        generalize R.fails[i] = z at hz ha' hc
        have HZ := Lib.hid hz
        have HC := Lib.hid hc
        have e2 : IntKind.i64.wrap R.writes = R.writes := IntWalk.i64_in _ (by omega)
        clear hz hc
        by_cases ez : z = R.writes
        · subst ez
          go_wp2_with fail
          refine wp_region_G [] Anew (fun u => St w0 u (refP rb (some a) R.fails.length cf R.wrote :: l)) (by kernel_rfl) (by kernel_rfl) (by kernel_rfl) Anew.refl (St.staysA _ _) HS.out.drew ?_
          clear c1 c4 ha'
          repeat (
            (apply wpG_val
             · rfl
             · intro u hu
               obtain ⟨_, c1, c4', _⟩ := hu.ref_plain
               have c4 : u.cell? ⟨rb, 4, none⟩ = some (.int .i64 (R.writes + 1)) := c4'
               have ha' := hu.cell HC.out
               clear hu c4'
               (go_simp <;> with_reducible rfl)
             simp only [Act.put, List.setIfInBounds_toArray, List.set_cons_zero, List.set_cons_succ]))
          refine wpG_nil ?_
          intro w3 hs3
          have HS3 := Lib.hid hs3
          clear hs3 HS
          go_wp2_with fail
          go_ret
          have hm : R.fails.contains R.writes = true := by
            rw [List.contains_iff_mem]
            exact List.mem_of_getElem? HZ.out
          unfold RefM.appendE RefM.append
          rw [if_pos HH.out, if_pos HH.out, if_pos hm, if_pos hm]
          exact ⟨rfl, HS3.out⟩
        · go_wp2_with fail
          refine wp_region_G [] Anew (fun u => St w0 u (refP rb (some a) R.fails.length cf R.wrote :: l)) (by kernel_rfl) (by kernel_rfl) (by kernel_rfl) Anew.refl (St.staysA _ _) HS.out.drew ?_
          clear c1 c4 ha'
          repeat (
            (apply wpG_val
             · rfl
             · intro u hu
               obtain ⟨_, c1, c4', _⟩ := hu.ref_plain
               have c4 : u.cell? ⟨rb, 4, none⟩ = some (.int .i64 (R.writes + 1)) := c4'
               have ha' := hu.cell HC.out
               clear hu c4'
               (go_simp <;> with_reducible rfl)
             simp only [Act.put, List.setIfInBounds_toArray, List.set_cons_zero, List.set_cons_succ]))
          refine wpG_nil ?_
          intro w3 hs3
          have HS3 := Lib.hid hs3
          clear hs3 HS
          go_wp2_with fail
          go_roundw
          case rel =>
            refine ⟨i + 1, hlt, by go_num, Lib.hid (fun j y hj hy => ?_), HS3⟩
            rcases Nat.lt_or_ge j i with hji | hji
            · exact HF.out j y hji hy
            · obtain rfl : j = i := by omega
              rw [HZ.out] at hy
              cases hy
              exact ez
          case measure => simp [intOf]; omega
      · have hno : ¬ R.fails.contains R.writes = true := by
          rw [List.contains_iff_mem]
          intro hm
          obtain ⟨j, hj⟩ := List.getElem?_of_mem hm
          have hjl : j < R.fails.length := by
            rcases Nat.lt_or_ge j R.fails.length with h | h
            · exact h
            · rw [List.getElem?_eq_none h] at hj; cases hj
          exact HF.out j _ (by omega) hj rfl
        have HNO := Lib.hid hno
        clear hno c1 c4
        obtain ⟨c0, c1, c4, _⟩ := HS.out.ref_plain
        go_wp2_with fail
        have b7 : (R.used : Int) ≤ 140737488350000 := by have := HB.out; omega
        have b8 : (0 : Int) ≤ (R.used : Int) := by omega
        have e3 : IntKind.i64.wrap (R.room - (R.used : Int)) = R.room - (R.used : Int) := IntWalk.i64_in _ (by omega)
        have HUB : Hid (R.wrote.used ≤ 4611686018427387904) := Lib.hid (by have := HB.out; show R.used ≤ _; omega)
        refine wp_region_G [] Anew (fun u => St w0 u (refP rb Af R.fails.length cf R.wrote :: l)) (by kernel_rfl) (by kernel_rfl) (by kernel_rfl) Anew.refl (St.staysA _ _) HS.out.drew ?_
        clear c0 c1 c4
        repeat (first
          | (apply wpG_val
             · rfl
             · intro u hu
               obtain ⟨c0', c1, _, _⟩ := hu.ref_plain
               have c0 : u.cell? ⟨rb, 0, none⟩ = some (.int .i64 R.room) := c0'
               clear hu c0'
               (go_simp <;> with_reducible rfl)
             simp only [Act.put, List.setIfInBounds_toArray, List.set_cons_zero, List.set_cons_succ])
          | (apply wpG_call (v := .int .i64 R.used)
             · rfl
             · intro u
               go_simp
               exact ⟨rfl, rfl⟩
             · intro u hu
               exact (St.ref_used hu HUB.out).mono fun _ _ ⟨h1, h2⟩ => ⟨h1, h2 ▸ Anew.refl _⟩
             simp only [Act.put, List.setIfInBounds_toArray, List.set_cons_zero, List.set_cons_succ]))
        refine wpG_nil ?_
        intro w3 hs3
        have HS3 := Lib.hid hs3
        clear hs3 HS
        by_cases hfull : R.room - (R.used : Int) < (B.length : Int)
        · go_wp2_with fail
          go_ret
          unfold RefM.appendE RefM.append
          rw [if_pos HH.out, if_pos HH.out, if_neg HNO.out, if_neg HNO.out, if_pos hfull, if_pos hfull]
          exact ⟨rfl, HS3.out⟩
        · go_wp2_with fail
          obtain ⟨i0, i1, i2⟩ := (RefM.has_iff R id).1 HH.out
          obtain ⟨i, rfl⟩ : ∃ i : Nat, id = (i : Int) := ⟨id.toNat, by omega⟩
          obtain ⟨⟨A2, c2, A3, c3, rows⟩, hx, hq⟩ := HS3.out.ref
          have hi : i < R.runs.length := by omega
          have hx' : rows.map (·.2.2) = R.runs := hx
          have hil : i < rows.length := by
            have := congrArg List.length hx'
            simp at this
            omega
          obtain ⟨g, e2, _, _⟩ := hq.tail.own_at i hi
          have e2' : A2 = some ⟨g, 0, none⟩ := e2
          subst e2'
          obtain ⟨⟨ar, cr, lr⟩, hrow⟩ : ∃ r, rows[i]? = some r := ⟨_, List.getElem?_eq_getElem hil⟩
          have hlr : R.runs.getD i [] = lr := by rw [← hx']; simp [List.getD_eq_getElem?_getD, hrow]
          have hu : (R.runs.getD i []).length ≤ R.used := by
            have h1 := R.usedTo_succ i
            have h2 := R.usedTo_le (i := i + 1) (j := R.runs.length) (by omega)
            have h3 : R.there.getD i false = true := by simpa using i2
            rw [if_pos h3] at h1
            rw [RefM.usedTo_all] at h2
            omega
          rw [hlr] at hu
          have hqf : ∀ u, St w0 u (blkP rb 61 (RefW.cells ⟨some ⟨g, 0, none⟩, c2, A3, c3, rows⟩ Af R.fails.length cf R.wrote) :: ownP 28 1 (.slice (some ⟨g, 0, none⟩) R.runs.length c2) R.runs.length (rows.map rowV) :: ownP 4 1 (.slice A3 R.runs.length c3) R.runs.length (R.there.map Value.bool) :: rdsP rows :: l) →
              u.cell? ⟨rb, 2, none⟩ = some (.slice (some ⟨g, 0, none⟩) R.runs.length c2) ∧ u.cell? ⟨g, i, none⟩ = some (.slice ar lr.length cr) ∧ u.frozen? ⟨g, i, none⟩ = false ∧ RdV u ar (bys lr) ∧ (ar = none → lr = []) := by
            intro u hu
            obtain ⟨g', e, hc, hf⟩ := hu.tail.own_at i hi
            injection e with e
            injection e with e
            subst e
            refine ⟨hu.blk.1.cell 2, by rw [hc, List.getElem?_map, hrow]; rfl, hf, ?_⟩
            exact St.rds_at hu.nth4 (ar, cr, lr) (List.mem_of_getElem? hrow)
          have HQF := Lib.hid hqf
          have HQ := Lib.hid hq
          have HX := Lib.hid (And.intro hx hlr)
          have HU := Lib.hid hu
          have HIU : Hid (i < R.runs.length ∧ R.there.getD i false = true) := Lib.hid ⟨hi, by simpa using i2⟩
          have q1 : (i : Int) < (R.runs.length : Int) := by omega
          have q2 : (R.runs.length : Int) ≤ 9223372036854775807 := by have := HS3.out.ref_len.2; have e : R.wrote.runs.length = R.runs.length := rfl; omega
          clear hqf hq hx hx' hil hrow hlr hu e2 HS3 i0 i1 i2
          have HL : Hid (St w0 ((w3.alloc (Obj.cells #[] 5)).drew) _) := Lib.hid (HQ.out.drew.lit 5 1 w3.heap.size rfl)
          obtain ⟨c2a, cga, _, _, _⟩ := HQF.out _ HQ.out.drew
          obtain ⟨c2b, cgb, _, hrb, hnb⟩ := HQF.out _ HL.out.tail
          have HRB := Lib.hid (And.intro hrb hnb)
          clear hrb hnb
          have HI8 := Lib.hid infoU8a
          go_region_law (first
            | (refine step_append_st rfl (.tmp 57) (.tmp 64) 28 28 rfl 5 (.int .u8 0) 1 1 Try.underlying28 HI8.out rfl (by decide) (.slice (some ⟨w3.heap.size, 0, none⟩) 0 0) 0 [] rfl HL.out (.slice ar lr.length cr) lr.length (bys lr) rfl (Src.of_rd Try.underlying28 HRB.out.1 _ _ (by rw [bys_length, Nat.mul_one]) (one_bys _) (fun e => by rw [HRB.out.2 e]; rfl)) (by have := HU.out; have := HB.out; unfold maxLen; omega) (by have := HU.out; have := HB.out; omega) ?_
               intro A5 c5 w5 _ _ hs5
               obtain ⟨c2c, cgc, _, _, _⟩ := HQF.out _ hs5.tail
               rw [Nat.zero_add, List.nil_append] at hs5
               have HS5 := Lib.hid hs5
               clear hs5)
            | (refine step_append_st rfl (.tmp 65) (.tmp 66) 28 28 rfl 5 (.int .u8 0) 1 1 Try.underlying28 HI8.out rfl (by decide) (.slice A5 lr.length c5) lr.length (bys lr) rfl HS5.out (.slice A B.length c) B.length (bys B) rfl (Src.of_rd Try.underlying28 (HR.out.1 _ HS5.out.tail.tail.tail.tail.tail) _ _ (by rw [bys_length, Nat.mul_one]) (one_bys _) (fun e => by rw [HR.out.2 e]; rfl)) (by have := HU.out; have := HB.out; unfold maxLen; omega) (by have := HU.out; have := HB.out; omega) ?_
               intro A6 c6 w6 _ _ hs6
               obtain ⟨c2d, cgd, fzd, _, _⟩ := HQF.out _ hs6.tail
               have HS6 := Lib.hid hs6
               clear hs6))
          all_goals
            have hs7 : St w0 (w6.setCell ⟨g, i, none⟩ (.slice A6 (lr.length + B.length) c6)) (refP rb Af R.fails.length cf (R.wrote.put i B) :: l) := by
              refine St.ref_put (n := lr.length + B.length) (c := c6) (R := R.wrote) (x := ⟨some ⟨g, 0, none⟩, c2, A3, c3, rows⟩) HX.out.1 rfl ?_ ?_
              · have e : (R.wrote.runs.getD i []) = lr := HX.out.2
                rw [e, List.length_append]
              · have e : (R.wrote.runs.getD i []) = lr := HX.out.2
                rw [e, bys_append]
                exact HS6.out
            have HS7 := Lib.hid hs7
            clear hs7 HS6 HS5 HL HQ HQF HRB c2a cga c2b cgb c2c cgc c2d cgd fzd
            have hub : (R.wrote.put i B).used = R.used + B.length := RefM.used_put R.wrote i B HIU.out.1 HIU.out.2
            have HAP : Hid (R.appendE i B = 0 ∧ R.append i B = (R.wrote.put i B).top) := Lib.hid (by
              unfold RefM.appendE RefM.append
              rw [if_pos HH.out, if_pos HH.out, if_neg HNO.out, if_neg HNO.out, if_neg (by omega), if_neg (by omega)]
              exact ⟨rfl, rfl⟩)
            have HUB2 : Hid ((R.wrote.put i B).used ≤ 4611686018427387904) := Lib.hid (by rw [hub]; have := HB.out; omega)
            clear hub
            go_wp2_with fail
            refine (St.ref_used HS7.out HUB2.out).mono ?_
            rintro e w8 ⟨rfl, rfl⟩
            obtain ⟨uu, huu⟩ : ∃ uu, uu = (R.wrote.put i B).used := ⟨_, rfl⟩
            obtain ⟨_, _, _, c5'⟩ := HS7.out.ref_plain
            have c5p : (w6.setCell ⟨g, i, none⟩ (.slice A6 (lr.length + B.length) c6)).cell? ⟨rb, 5, none⟩ = some (.int .i64 R.peak) := c5'
            obtain ⟨f5, hs8⟩ := HS7.out.ref_top uu
            rw [← huu]
            have HUU := Lib.hid huu
            clear huu c5'
            generalize w6.setCell ⟨g, i, none⟩ (.slice A6 (lr.length + B.length) c6) = w7 at *
            have HS8 := Lib.hid hs8
            clear hs8
            by_cases hp : R.peak < (uu : Int)
            · go_wp2_with fail
              go_ret
              refine ⟨by rw [HAP.out.1]; rfl, ?_⟩
              rw [HAP.out.2]
              have e : (R.wrote.put i B).top = { R.wrote.put i B with peak := (uu : Int) } := by
                unfold RefM.top
                rw [← HUU.out]
                show RefM.mk _ _ _ _ _ (if R.peak < (uu : Int) then (uu : Int) else R.peak) = _
                rw [if_pos (by omega)]
              rw [e]
              exact HS8.out
            · go_wp2_with fail
              go_ret
              refine ⟨by rw [HAP.out.1]; rfl, ?_⟩
              rw [HAP.out.2]
              have e : (R.wrote.put i B).top = R.wrote.put i B := by
                unfold RefM.top
                rw [← HUU.out]
                show RefM.mk _ _ _ _ _ (if R.peak < (uu : Int) then (uu : Int) else R.peak) = _
                rw [if_neg (by omega)]
                rfl
              rw [e]
              exact HS7.out
theorem St.ref_append (h : St w0 w (refP rb Af nf cf R :: l)) (hrf : RdV w0 Af (ints R.fails)) (hnf : nf = R.fails.length) (hnl : nf ≤ 4611686018427387904) (id : Int) (A : Option Addr) (n c : Nat) (B : List UInt8) (hr : RdV w0 A (bys B)) (hn : n = B.length) (hA : A = none → B = [])
    (hb : R.used + B.length ≤ 140737488350000) (hw : 0 ≤ R.writes ∧ R.writes ≤ 4611686018427387904) (hm : 0 ≤ R.room ∧ R.room ≤ 9223372036854775807) :
    Calls Try.prog 32 #[.pointer (some ⟨rb, 0, none⟩), .int .i64 id, .slice A n c] w fun e w' => e = .returned (.int .i64 (R.appendE id B)) ∧ St w0 w' (refP rb Af nf cf (R.append id B) :: l) :=
  h.ref_append_g hrf hnf hnl id A n c B (fun _ hu => hu.rd hr) hn hA hb hw hm
/-- A new one. -/
theorem St.ref_new (h : St w0 w l) (b : Nat) (hb : b = w.heap.size) (room : Int) (fl : List Int) : St w0 (w.alloc (.cells #[.int .i64 room, .slice Af nf cf, .slice none 0 0, .slice none 0 0, .int .i64 0, .int .i64 0] 61)) (refP b Af nf cf ⟨room, fl, [], [], 0, 0⟩ :: l) := by
  subst hb
  refine St.ref_mk (R := ⟨room, fl, [], [], 0, 0⟩) ⟨none, 0, none, 0, []⟩ rfl ?_
  exact ((h.rds.nil 4 1).nil 28 1).box [.int .i64 room, .slice Af nf cf, .slice none 0 0, .slice none 0 0, .int .i64 0, .int .i64 0] 61
end
end Go.Proofs.Ytbkpjjibgnachaa
