/- BlockPuts. Conditions: none. -/
import Derived.Test.YtiobacnepacjnaaLaw03
import Derived.Test.YtiobacnepacjnaaAppZ
import Derived.Test.YtiobacnepacjnaaRowRows
import Derived.StillTailTactics
import Derived.Test.YtiobacnepacjnaaHeldT
namespace Go.Proofs.Ytiobacnepacjnaa
open Go.RowKit

theorem St.stays (w0 : World) (l : List Part) : Stays Anew (fun u => St w0 u l) := fun _ _ h k => St.later h k
/-- What is put for a row. -/
def putOf (b : Bool) (B : List UInt8) : List UInt8 := if b then padB B else B
/-- What the first i make. -/
def putsTo (Ls : List (List UInt8)) (bs : List Bool) (i : Nat) : List UInt8 := ((List.range i).map fun j => putOf (bs.getD j false) (Ls.getD j [])).flatten
theorem putsTo_succ (Ls : List (List UInt8)) (bs : List Bool) (i : Nat) : putsTo Ls bs (i + 1) = putsTo Ls bs i ++ putOf (bs.getD i false) (Ls.getD i []) := by
  unfold putsTo
  rw [List.range_succ, List.map_append, List.flatten_append]
  simp only [List.map_cons, List.map_nil, List.flatten_cons, List.flatten_nil, List.append_nil]
theorem padB_len (B : List UInt8) : (padB B).length = (B.length + 511) / 512 * 512 := by
  unfold padB
  rw [List.length_append, List.length_replicate]
  omega
/-- What stands behind h bytes. -/
theorem rd_behind {w : World} {a : Addr} {B : List UInt8} (hr : RdV w (some a) (bys B)) (c h : Nat) (hc : B.length ≤ c) : RdV w (if c = h then some a else some (a.add h)) (bys (B.drop h)) := by
  by_cases e : c = h
  · have e0 : B.drop h = [] := List.drop_of_length_le (by omega)
    rw [e0]
    exact RdV.nil _ _
  · rw [if_neg e]
    intro j v hj
    have e2 : bys (B.drop h) = (bys B).drop h := by unfold bys; rw [List.map_drop]
    rw [e2, List.getElem?_drop] at hj
    obtain ⟨y, hy, hc⟩ := hr (h + j) v hj
    cases hy
    refine ⟨_, rfl, ?_⟩
    have e3 : (a.add h).add j = a.add (h + j) := by
      unfold Addr.add
      by_cases hi : h = 0
      · subst hi; simp
      · by_cases hj : j = 0
        · subst hj; simp
        · simp [hi, hj, Nat.add_assoc]
    rw [e3]
    exact hc
theorem rd_ahead {w : World} {A : Option Addr} {B : List UInt8} (hr : RdV w A (bys B)) (h : Nat) : RdV w A (bys (B.take h)) := by
  have e : bys (B.take h) = (bys B).take h := by unfold bys; rw [List.map_take]
  rw [e]
  exact hr.take h
set_option maxRecDepth 100000 in
set_option maxHeartbeats 16000000 in
theorem puts_any (w : World) (A : Option Addr) (c : Nat) (Ls : List (List UInt8)) (hr : RdRows2 w A Ls) (hl : Ls.length ≤ 9223372036854775807) (C : Option Addr) (cc : Nat) (bs : List Bool) (hb : RdV w C (bs.map Value.bool)) (hbl : bs.length ≤ 9223372036854775807) :
    Calls Try.prog 5 #[.slice A Ls.length c, .slice C bs.length cc] w fun e w' => e = .returned (.bool true) ∧ Keep (fun b => w.heap.size ≤ b) w w' := by
  have HR := Lib.hid hr
  have HBS := Lib.hid hb
  have HL := Lib.hid hl
  have b1 : (Ls.length : Int) ≤ 9223372036854775807 := by omega
  have b2 : (bs.length : Int) ≤ 9223372036854775807 := by omega
  have HI8 := Lib.hid infoU8k
  clear hr hl hb hbl
  go_enter Try.func5, Try.ntmps5
  go_wp2_with fail
  obtain ⟨kb, hkb⟩ : ∃ kb, kb = w.heap.size := ⟨_, rfl⟩
  have hs1 := ((St.start w).snk_new kb hkb).nil 5 1
  rw [← hkb]
  clear hkb
  have HS1 := Lib.hid hs1
  clear hs1
  go_loopw [6, 7] (fun v6 v7 wr => ∃ (i : Nat) (A1 : Option Addr) (n1 c1 : Nat) (M : List UInt8), i ≤ Ls.length ∧ v6 = .slice A1 n1 c1 ∧ v7 = .int .i64 i ∧ Hid (M = putsTo Ls bs i ∧ n1 = M.length ∧ (0 < i → Ls.length ≤ 40) ∧ M.length ≤ i * 4000) ∧ Hid (St w wr [ownP 5 1 (.slice A1 n1 c1) n1 (bys M), snkP kb M])) (fun _ v7 _ => Ls.length - (intOf v7).toNat)
  case atStart => exact ⟨0, none, 0, 0, [], Nat.zero_le _, rfl, rfl, Lib.hid ⟨rfl, rfl, fun h => absurd h (by decide), Nat.zero_le _⟩, HS1⟩
  case round =>
    clear HS1
    obtain ⟨i, A1, n1, c1, M, hi, rfl, rfl, HM, HS⟩ := hrel
    by_cases hlt : i < Ls.length
    · obtain ⟨x, A2, c2, rfl, hx, hrd, hnn, hle, hmx⟩ := HR.out i hlt
      have q1 : (0 : Int) ≤ i := by omega
      have q2 : (i : Int) < (Ls.length : Int) := by omega
      have hgd : Ls.getD i [] = Ls[i] := by simp [hlt]
      have x0 := HS.out.cell hx
      have HRD : Hid (∀ u ps, St w u ps → RdV u A2 (bys Ls[i])) := Lib.hid (fun u ps h => h.rd hrd)
      have HPS := putsTo_succ Ls bs i
      rw [hgd] at HPS
      have HNN := Lib.hid hnn
      have HX : Hid (∀ u ps, St w u ps → u.cell? (x.add i) = some (.slice A2 Ls[i].length c2)) := Lib.hid (fun u ps h => h.cell hx)
      have HPP := Lib.hid HPS
      clear HPS hgd hnn hrd hx
      have HI := Lib.hid hlt
      have HLE := Lib.hid hle
      clear hle
      generalize hLi : Ls[i] = B at *
      clear hLi hlt
      by_cases hbig : Ls.length ≤ 40 ∧ B.length ≤ 3000
      · have b3 : (Ls.length : Int) ≤ 40 := by have := hbig.1; omega
        have b4 : (B.length : Int) ≤ 3000 := by have := hbig.2; omega
        have HBG := Lib.hid hbig
        clear hbig
        have hbd : n1 + B.length ≤ maxLen ∧ (n1 + B.length) * 1 ≤ 140737488355328 := by have := HM.out.2.1; have := HM.out.2.2.2; have := HBG.out; have := HI.out; unfold maxLen; omega
        have HBD := Lib.hid hbd
        clear hbd
        have hcase : (∃ y, C = some y ∧ decide (i < bs.length) = true ∧ bs.getD i false = true ∧ w.cell? (y.add i) = some (.bool true)) ∨ (∃ y, C = some y ∧ decide (i < bs.length) = true ∧ bs.getD i false = false ∧ w.cell? (y.add i) = some (.bool false)) ∨ (decide (i < bs.length) = false ∧ bs.getD i false = false) := by
          by_cases hib : i < bs.length
          · obtain ⟨y, hy, hc⟩ := HBS.out i (.bool bs[i]) (by simp [hib])
            have e : bs.getD i false = bs[i] := by simp [hib]
            cases hq : bs[i]
            · exact .inr (.inl ⟨y, hy, decide_eq_true hib, e.trans hq, by rw [hc, hq]⟩)
            · exact .inl ⟨y, hy, decide_eq_true hib, e.trans hq, by rw [hc, hq]⟩
          · exact .inr (.inr ⟨decide_eq_false hib, by simp [hib]⟩)
        rcases hcase with ⟨y, rfl, hib, hq, hyc⟩ | ⟨y, rfl, hib, hq, hyc⟩ | ⟨hib, hq⟩
        · have HQ := Lib.hid hq
          have hyc' : i < bs.length := of_decide_eq_true hib
          have q3 : (i : Int) < (bs.length : Int) := by omega
          have HYC : Hid (∀ u ps, St w u ps → u.cell? (y.add i) = some (.bool true)) := Lib.hid (fun u ps h => h.cell hyc)
          clear hq hyc hyc'
          go_wp2_with (
            at_builtin
            refine wpL_append_st rfl (.tmp 27) (.tmp 31) 22 22 rfl 5 (.int .u8 0) 1 1 Try.underlying22 HI8.out rfl (by decide) (.slice A1 n1 c1) n1 (bys M) rfl HS.out (.slice A2 B.length c2) B.length (bys B) rfl (Src.of_rd Try.underlying22 (HRD.out _ _ HS.out) B.length c2 (by rw [bys_length, Nat.mul_one]) (one_bys _) (fun e => by rw [HNN.out e]; rfl)) HBD.out.1 HBD.out.2 ?_
            intro A3 c3 w3 _ _ hs3
            rw [← bys_append] at hs3
            have HS3 := Lib.hid hs3
            clear hs3
            have ex := HX.out _ _ HS3.out
            have ey := HYC.out _ _ HS3.out)
          have hnl : (B.length : Int) ≤ 3000 := by have := HBG.out.2; omega
          refine (St.snk_body (HS3.out.sel [1, 0] (by decide) (by simp)) A2 B.length c2 B (M ++ padB B) rfl (HRD.out _ _ HS3.out) HNN.out rfl (by have := HBG.out.2; omega) (by rw [padB_len]; have := HM.out.2.2.2; have := HBG.out; have := HI.out; omega)).mono ?_
          rintro e w4 ⟨rfl, hs4⟩
          have HS4 := Lib.hid hs4
          clear hs4 HS3 ex ey
          go_wp2_with fail
          obtain ⟨m, hm⟩ : ∃ m, m = padN B.length := ⟨_, rfl⟩
          have HPM : Hid (m = padN B.length) := Lib.hid hm
          obtain ⟨z, hz⟩ : ∃ z : Nat, z = m - B.length := ⟨_, rfl⟩
          have hmb : B.length ≤ m ∧ m ≤ 3600 := by have := HBG.out.2; unfold padN at hm; omega
          have HZ : Hid (z = m - B.length ∧ B.length ≤ m ∧ m ≤ 3600) := Lib.hid ⟨hz, hmb⟩
          have e1 : IntKind.i64.wrap ((m : Int) - (B.length : Int)) = (z : Int) := by rw [show (m : Int) - (B.length : Int) = (z : Int) by omega]; exact IntWalk.i64_in _ (by omega)
          have HE1 := Lib.hid e1
          clear hz hmb hm e1
          refine wp_region_still_tail 13 (by kernel_rfl) (by kernel_rfl) ?_
          simp only [List.take_succ_cons, List.take_zero, List.drop_succ_cons, List.drop_zero]
          change wpStill _ _ w4.drew (fun a' => wpList _ _ _ _ a' w4.drew) _ _
          have HS5 : Hid (St w w4.drew [snkP kb (M ++ padB B), ownP 5 1 (.slice A3 (n1 + B.length) c3) (n1 + B.length) (bys (M ++ B))]) := Lib.hid HS4.out.drew
          have ex := HX.out _ _ HS5.out
          generalize w4.drew = w5 at HS5 ex ⊢
          clear HS4
          repeat still_step
          still_call ((pad03 B.length _ rfl m HPM.out (by have := HBG.out.2; omega) _).mono (fun _ _ ⟨h1, h2⟩ => ⟨h1, h2.symm⟩))
          have e1 := HE1.out
          repeat still_step
          clear e1
          refine wpStill_nil ?_
          go_wp2_with (
            at_builtin
            refine wpL_zeros_st rfl (.tmp 49) (.tmp 61) 22 3 9 rfl 5 .i64 .i64 Try.underlying22 Try.underlying3 Try.underlying9 HI8.out A3 (n1 + B.length) c3 (bys (M ++ B)) rfl (HS5.out.sel [1, 0] (by decide) (by simp)) z rfl (by have := HM.out.2.1; have := HM.out.2.2.2; have := HBG.out; have := HZ.out; have := HI.out; omega) ?_
            intro A6 c6 w6 _ _ hs6
            have HS6 := Lib.hid hs6
            clear hs6)
          go_roundw
          case rel =>
            have hpad : M ++ B ++ List.replicate z 0 = M ++ padB B := by
              have := HZ.out.1
              have h2 := HPM.out
              unfold padB
              rw [List.append_assoc, this, h2]
              rfl
            refine ⟨i + 1, A6, n1 + B.length + z, c6, M ++ padB B, HI.out, rfl, by go_num, Lib.hid ⟨?_, ?_, fun _ => HBG.out.1, ?_⟩, Lib.hid ?_⟩
            · rw [HPP.out, ← HM.out.1, HQ.out]; rfl
            · rw [← hpad, List.length_append, List.length_append, List.length_replicate, HM.out.2.1]
            · rw [List.length_append, padB_len]; have := HM.out.2.2.2; have := HBG.out.2; omega
            · have h := HS6.out
              have e : bys (M ++ B) ++ List.replicate z (.int .u8 0) = bys (M ++ padB B) := by
                rw [← hpad, bys_append (M ++ B)]
                congr 1
                simp [bys]
              rw [e] at h
              exact h
          case measure => have := HI.out; simp [intOf]; omega
        · have HQ := Lib.hid hq
          have hyc' : i < bs.length := of_decide_eq_true hib
          have q3 : (i : Int) < (bs.length : Int) := by omega
          have HYC : Hid (∀ u ps, St w u ps → u.cell? (y.add i) = some (.bool false)) := Lib.hid (fun u ps h => h.cell hyc)
          clear hq hyc hyc'
          go_wp2_with (
            at_builtin
            refine wpL_append_st rfl (.tmp 27) (.tmp 31) 22 22 rfl 5 (.int .u8 0) 1 1 Try.underlying22 HI8.out rfl (by decide) (.slice A1 n1 c1) n1 (bys M) rfl HS.out (.slice A2 B.length c2) B.length (bys B) rfl (Src.of_rd Try.underlying22 (HRD.out _ _ HS.out) B.length c2 (by rw [bys_length, Nat.mul_one]) (one_bys _) (fun e => by rw [HNN.out e]; rfl)) HBD.out.1 HBD.out.2 ?_
            intro A3 c3 w3 _ _ hs3
            rw [← bys_append] at hs3
            have HS3 := Lib.hid hs3
            clear hs3
            have ex := HX.out _ _ HS3.out
            have ey := HYC.out _ _ HS3.out)
          obtain ⟨h, hh⟩ : ∃ h : Nat, h = B.length / 2 := ⟨_, rfl⟩
          have hh2 : h ≤ B.length ∧ B.length ≤ c2 ∧ c2 ≤ 9223372036854775807 := ⟨by omega, HLE.out, hmx⟩
          have q4 : (0 : Int) ≤ (h : Int) := by omega
          have q5 : (h : Int) ≤ (B.length : Int) := by omega
          have q6 : (B.length : Int) ≤ (c2 : Int) := by have := HLE.out; omega
          have q7 : (c2 : Int) ≤ 9223372036854775807 := by omega
          have q8 : (h : Int) ≤ 3000 := by omega
          have q9 : (h : Int) ≤ (c2 : Int) := by omega
          have e1 : (B.length : Int).tdiv 2 = (h : Int) := by rw [Int.tdiv_eq_ediv_of_nonneg (by omega)]; omega
          have e2 : (B.length : Int) / 2 = (h : Int) := by omega
          have e3 : IntKind.i64.wrap (h : Int) = (h : Int) := IntWalk.i64_in _ (by omega)
          have HH := Lib.hid hh2
          clear hh hh2
          cases A2 with
          | none =>
            refine wp_region_T 24 [23] Anew (fun u => St w u [ownP 5 1 (.slice A3 (n1 + B.length) c3) (n1 + B.length) (bys (M ++ B)), snkP kb M]) (by kernel_rfl) (by kernel_rfl) Anew.refl (St.stays _ _) HS3.out.drew ?_
            simp only [List.take_succ_cons, List.take_zero, List.drop_succ_cons, List.drop_zero]
            clear HS3
            repeat (
              (apply wpT_val
               · rfl
               · intro u hu
                 have ex := HX.out _ _ hu
                 clear hu
                 (go_simp <;> with_reducible rfl)
               simp only [Act.put, List.setIfInBounds_toArray, List.set_cons_zero, List.set_cons_succ]))
            refine wpT_make (fun v u => ∃ b : Nat, v = .slice (some ⟨b, 0, none⟩) 3 3 ∧ RdRows u (some ⟨b, 0, none⟩) [B.take h, [], B.drop h]) (by decide) rfl (fun v u u' ⟨b, e, hr⟩ k => ⟨b, e, hr.later k⟩) ?_ ?_
            · intro u hu
              have hB : B = [] := HNN.out rfl
              have hrow := lit_rows u 22 [(none, c2, B.take h), (none, 0, []), (none, c2 - h, B.drop h)] (by
                rw [hB, List.take_nil, List.drop_nil]
                intro x hx
                rcases List.mem_cons.1 hx with rfl | hx
                · exact ⟨RdV.nil _ _, fun _ => rfl⟩
                rcases List.mem_cons.1 hx with rfl | hx
                · exact ⟨RdV.nil _ _, fun _ => rfl⟩
                obtain rfl := List.mem_singleton.1 hx
                exact ⟨RdV.nil _ _, fun _ => rfl⟩) _ rfl
              simp only [List.map_cons, List.map_nil, List.length_take, List.length_drop, List.length_nil, Nat.min_eq_left HH.out.1] at hrow
              refine ⟨_, _, ?_, (Keep.refl _ u).alloc _, u.heap.size, rfl, hrow⟩
              clear hrow hB hu
              (go_simp <;> with_reducible rfl)
            intro v
            simp only [Act.put, List.setIfInBounds_toArray, List.set_cons_zero, List.set_cons_succ]
            refine wpT_nil ?_
            rintro w6 ⟨hs6, b, rfl, hr6⟩
            have HS6 : Hid (St w w6 [snkP kb M, ownP 5 1 (.slice A3 (n1 + B.length) c3) (n1 + B.length) (bys (M ++ B))]) := Lib.hid (hs6.sel [1, 0] (by decide) (by simp))
            have HR6 := Lib.hid hr6
            clear hs6 hr6
            go_wp2_with fail
            refine (St.snk_put HS6.out (some ⟨b, 0, none⟩) 3 3 [B.take h, [], B.drop h] B (by simp) HR6.out rfl (by simp) (by have := HM.out.2.2.2; have := HBG.out; have := HI.out; omega)).mono ?_
            rintro e w7 ⟨rfl, hs7⟩
            have HS7 := Lib.hid (hs7.sel [1, 0] (by decide) (by simp))
            clear hs7 HS6 HR6
            go_wp2_with fail
            go_roundw
            case rel =>
              refine ⟨i + 1, A3, n1 + B.length, c3, M ++ B, HI.out, rfl, by go_num, Lib.hid ⟨?_, ?_, fun _ => HBG.out.1, ?_⟩, HS7⟩
              · rw [HPP.out, ← HM.out.1, HQ.out]; rfl
              · rw [List.length_append, HM.out.2.1]
              · rw [List.length_append]; have := HM.out.2.2.2; have := HBG.out.2; omega
            case measure => have := HI.out; simp [intOf]; omega
          | some a2 =>
            refine wp_region_T 24 [23] Anew (fun u => St w u [ownP 5 1 (.slice A3 (n1 + B.length) c3) (n1 + B.length) (bys (M ++ B)), snkP kb M]) (by kernel_rfl) (by kernel_rfl) Anew.refl (St.stays _ _) HS3.out.drew ?_
            simp only [List.take_succ_cons, List.take_zero, List.drop_succ_cons, List.drop_zero]
            clear HS3
            repeat (
              (apply wpT_val
               · rfl
               · intro u hu
                 have ex := HX.out _ _ hu
                 clear hu
                 (go_simp <;> with_reducible rfl)
               simp only [Act.put, List.setIfInBounds_toArray, List.set_cons_zero, List.set_cons_succ]))
            refine wpT_make (fun v u => ∃ b : Nat, v = .slice (some ⟨b, 0, none⟩) 3 3 ∧ RdRows u (some ⟨b, 0, none⟩) [B.take h, [], B.drop h]) (by decide) rfl (fun v u u' ⟨b, e, hr⟩ k => ⟨b, e, hr.later k⟩) ?_ ?_
            · intro u hu
              have hrd := HRD.out _ _ hu
              have hrow := lit_rows u 22 [(some a2, c2, B.take h), (none, 0, []), (if c2 = h then some a2 else some (a2.add h), c2 - h, B.drop h)] (by
                intro x hx
                rcases List.mem_cons.1 hx with rfl | hx
                · exact ⟨rd_ahead hrd h, fun e => by cases e⟩
                rcases List.mem_cons.1 hx with rfl | hx
                · exact ⟨RdV.nil _ _, fun _ => rfl⟩
                obtain rfl := List.mem_singleton.1 hx
                exact ⟨rd_behind hrd c2 h HLE.out, fun e => by (split at e <;> cases e)⟩) _ rfl
              simp only [List.map_cons, List.map_nil, List.length_take, List.length_drop, List.length_nil, Nat.min_eq_left HH.out.1] at hrow
              refine ⟨_, _, ?_, (Keep.refl _ u).alloc _, u.heap.size, rfl, hrow⟩
              clear hrow hrd hu
              (go_simp <;> with_reducible rfl)
            intro v
            simp only [Act.put, List.setIfInBounds_toArray, List.set_cons_zero, List.set_cons_succ]
            refine wpT_nil ?_
            rintro w6 ⟨hs6, b, rfl, hr6⟩
            have HS6 : Hid (St w w6 [snkP kb M, ownP 5 1 (.slice A3 (n1 + B.length) c3) (n1 + B.length) (bys (M ++ B))]) := Lib.hid (hs6.sel [1, 0] (by decide) (by simp))
            have HR6 := Lib.hid hr6
            clear hs6 hr6
            generalize (if c2 = h then some a2 else some (a2.add h)) = A8
            go_wp2_with fail
            refine (St.snk_put HS6.out (some ⟨b, 0, none⟩) 3 3 [B.take h, [], B.drop h] B (by simp) HR6.out rfl (by simp) (by have := HM.out.2.2.2; have := HBG.out; have := HI.out; omega)).mono ?_
            rintro e w7 ⟨rfl, hs7⟩
            have HS7 := Lib.hid (hs7.sel [1, 0] (by decide) (by simp))
            clear hs7 HS6 HR6
            go_wp2_with fail
            go_roundw
            case rel =>
              refine ⟨i + 1, A3, n1 + B.length, c3, M ++ B, HI.out, rfl, by go_num, Lib.hid ⟨?_, ?_, fun _ => HBG.out.1, ?_⟩, HS7⟩
              · rw [HPP.out, ← HM.out.1, HQ.out]; rfl
              · rw [List.length_append, HM.out.2.1]
              · rw [List.length_append]; have := HM.out.2.2.2; have := HBG.out.2; omega
            case measure => have := HI.out; simp [intOf]; omega
        · have HQ := Lib.hid hq
          clear hq
          go_wp2_with (
            at_builtin
            refine wpL_append_st rfl (.tmp 27) (.tmp 31) 22 22 rfl 5 (.int .u8 0) 1 1 Try.underlying22 HI8.out rfl (by decide) (.slice A1 n1 c1) n1 (bys M) rfl HS.out (.slice A2 B.length c2) B.length (bys B) rfl (Src.of_rd Try.underlying22 (HRD.out _ _ HS.out) B.length c2 (by rw [bys_length, Nat.mul_one]) (one_bys _) (fun e => by rw [HNN.out e]; rfl)) HBD.out.1 HBD.out.2 ?_
            intro A3 c3 w3 _ _ hs3
            rw [← bys_append] at hs3
            have HS3 := Lib.hid hs3
            clear hs3
            have ex := HX.out _ _ HS3.out)
          obtain ⟨h, hh⟩ : ∃ h : Nat, h = B.length / 2 := ⟨_, rfl⟩
          have hh2 : h ≤ B.length ∧ B.length ≤ c2 ∧ c2 ≤ 9223372036854775807 := ⟨by omega, HLE.out, hmx⟩
          have q4 : (0 : Int) ≤ (h : Int) := by omega
          have q5 : (h : Int) ≤ (B.length : Int) := by omega
          have q6 : (B.length : Int) ≤ (c2 : Int) := by have := HLE.out; omega
          have q7 : (c2 : Int) ≤ 9223372036854775807 := by omega
          have q8 : (h : Int) ≤ 3000 := by omega
          have q9 : (h : Int) ≤ (c2 : Int) := by omega
          have e1 : (B.length : Int).tdiv 2 = (h : Int) := by rw [Int.tdiv_eq_ediv_of_nonneg (by omega)]; omega
          have e2 : (B.length : Int) / 2 = (h : Int) := by omega
          have e3 : IntKind.i64.wrap (h : Int) = (h : Int) := IntWalk.i64_in _ (by omega)
          have HH := Lib.hid hh2
          clear hh hh2
          cases A2 with
          | none =>
            refine wp_region_T 24 [23] Anew (fun u => St w u [ownP 5 1 (.slice A3 (n1 + B.length) c3) (n1 + B.length) (bys (M ++ B)), snkP kb M]) (by kernel_rfl) (by kernel_rfl) Anew.refl (St.stays _ _) HS3.out.drew ?_
            simp only [List.take_succ_cons, List.take_zero, List.drop_succ_cons, List.drop_zero]
            clear HS3
            repeat (
              (apply wpT_val
               · rfl
               · intro u hu
                 have ex := HX.out _ _ hu
                 clear hu
                 (go_simp <;> with_reducible rfl)
               simp only [Act.put, List.setIfInBounds_toArray, List.set_cons_zero, List.set_cons_succ]))
            refine wpT_make (fun v u => ∃ b : Nat, v = .slice (some ⟨b, 0, none⟩) 3 3 ∧ RdRows u (some ⟨b, 0, none⟩) [B.take h, [], B.drop h]) (by decide) rfl (fun v u u' ⟨b, e, hr⟩ k => ⟨b, e, hr.later k⟩) ?_ ?_
            · intro u hu
              have hB : B = [] := HNN.out rfl
              have hrow := lit_rows u 22 [(none, c2, B.take h), (none, 0, []), (none, c2 - h, B.drop h)] (by
                rw [hB, List.take_nil, List.drop_nil]
                intro x hx
                rcases List.mem_cons.1 hx with rfl | hx
                · exact ⟨RdV.nil _ _, fun _ => rfl⟩
                rcases List.mem_cons.1 hx with rfl | hx
                · exact ⟨RdV.nil _ _, fun _ => rfl⟩
                obtain rfl := List.mem_singleton.1 hx
                exact ⟨RdV.nil _ _, fun _ => rfl⟩) _ rfl
              simp only [List.map_cons, List.map_nil, List.length_take, List.length_drop, List.length_nil, Nat.min_eq_left HH.out.1] at hrow
              refine ⟨_, _, ?_, (Keep.refl _ u).alloc _, u.heap.size, rfl, hrow⟩
              clear hrow hB hu
              (go_simp <;> with_reducible rfl)
            intro v
            simp only [Act.put, List.setIfInBounds_toArray, List.set_cons_zero, List.set_cons_succ]
            refine wpT_nil ?_
            rintro w6 ⟨hs6, b, rfl, hr6⟩
            have HS6 : Hid (St w w6 [snkP kb M, ownP 5 1 (.slice A3 (n1 + B.length) c3) (n1 + B.length) (bys (M ++ B))]) := Lib.hid (hs6.sel [1, 0] (by decide) (by simp))
            have HR6 := Lib.hid hr6
            clear hs6 hr6
            go_wp2_with fail
            refine (St.snk_put HS6.out (some ⟨b, 0, none⟩) 3 3 [B.take h, [], B.drop h] B (by simp) HR6.out rfl (by simp) (by have := HM.out.2.2.2; have := HBG.out; have := HI.out; omega)).mono ?_
            rintro e w7 ⟨rfl, hs7⟩
            have HS7 := Lib.hid (hs7.sel [1, 0] (by decide) (by simp))
            clear hs7 HS6 HR6
            go_wp2_with fail
            go_roundw
            case rel =>
              refine ⟨i + 1, A3, n1 + B.length, c3, M ++ B, HI.out, rfl, by go_num, Lib.hid ⟨?_, ?_, fun _ => HBG.out.1, ?_⟩, HS7⟩
              · rw [HPP.out, ← HM.out.1, HQ.out]; rfl
              · rw [List.length_append, HM.out.2.1]
              · rw [List.length_append]; have := HM.out.2.2.2; have := HBG.out.2; omega
            case measure => have := HI.out; simp [intOf]; omega
          | some a2 =>
            refine wp_region_T 24 [23] Anew (fun u => St w u [ownP 5 1 (.slice A3 (n1 + B.length) c3) (n1 + B.length) (bys (M ++ B)), snkP kb M]) (by kernel_rfl) (by kernel_rfl) Anew.refl (St.stays _ _) HS3.out.drew ?_
            simp only [List.take_succ_cons, List.take_zero, List.drop_succ_cons, List.drop_zero]
            clear HS3
            repeat (
              (apply wpT_val
               · rfl
               · intro u hu
                 have ex := HX.out _ _ hu
                 clear hu
                 (go_simp <;> with_reducible rfl)
               simp only [Act.put, List.setIfInBounds_toArray, List.set_cons_zero, List.set_cons_succ]))
            refine wpT_make (fun v u => ∃ b : Nat, v = .slice (some ⟨b, 0, none⟩) 3 3 ∧ RdRows u (some ⟨b, 0, none⟩) [B.take h, [], B.drop h]) (by decide) rfl (fun v u u' ⟨b, e, hr⟩ k => ⟨b, e, hr.later k⟩) ?_ ?_
            · intro u hu
              have hrd := HRD.out _ _ hu
              have hrow := lit_rows u 22 [(some a2, c2, B.take h), (none, 0, []), (if c2 = h then some a2 else some (a2.add h), c2 - h, B.drop h)] (by
                intro x hx
                rcases List.mem_cons.1 hx with rfl | hx
                · exact ⟨rd_ahead hrd h, fun e => by cases e⟩
                rcases List.mem_cons.1 hx with rfl | hx
                · exact ⟨RdV.nil _ _, fun _ => rfl⟩
                obtain rfl := List.mem_singleton.1 hx
                exact ⟨rd_behind hrd c2 h HLE.out, fun e => by (split at e <;> cases e)⟩) _ rfl
              simp only [List.map_cons, List.map_nil, List.length_take, List.length_drop, List.length_nil, Nat.min_eq_left HH.out.1] at hrow
              refine ⟨_, _, ?_, (Keep.refl _ u).alloc _, u.heap.size, rfl, hrow⟩
              clear hrow hrd hu
              (go_simp <;> with_reducible rfl)
            intro v
            simp only [Act.put, List.setIfInBounds_toArray, List.set_cons_zero, List.set_cons_succ]
            refine wpT_nil ?_
            rintro w6 ⟨hs6, b, rfl, hr6⟩
            have HS6 : Hid (St w w6 [snkP kb M, ownP 5 1 (.slice A3 (n1 + B.length) c3) (n1 + B.length) (bys (M ++ B))]) := Lib.hid (hs6.sel [1, 0] (by decide) (by simp))
            have HR6 := Lib.hid hr6
            clear hs6 hr6
            generalize (if c2 = h then some a2 else some (a2.add h)) = A8
            go_wp2_with fail
            refine (St.snk_put HS6.out (some ⟨b, 0, none⟩) 3 3 [B.take h, [], B.drop h] B (by simp) HR6.out rfl (by simp) (by have := HM.out.2.2.2; have := HBG.out; have := HI.out; omega)).mono ?_
            rintro e w7 ⟨rfl, hs7⟩
            have HS7 := Lib.hid (hs7.sel [1, 0] (by decide) (by simp))
            clear hs7 HS6 HR6
            go_wp2_with fail
            go_roundw
            case rel =>
              refine ⟨i + 1, A3, n1 + B.length, c3, M ++ B, HI.out, rfl, by go_num, Lib.hid ⟨?_, ?_, fun _ => HBG.out.1, ?_⟩, HS7⟩
              · rw [HPP.out, ← HM.out.1, HQ.out]; rfl
              · rw [List.length_append, HM.out.2.1]
              · rw [List.length_append]; have := HM.out.2.2.2; have := HBG.out.2; omega
            case measure => have := HI.out; simp [intOf]; omega
      · have hcas : (40 : Int) < (Ls.length : Int) ∨ ((Ls.length : Int) ≤ 40 ∧ (3000 : Int) < (B.length : Int)) := by omega
        rcases hcas with b3 | ⟨b3, b4⟩
        all_goals
          go_wp2_with fail
          refine (St.ans03 HS.out).mono ?_
          rintro e w3 ⟨rfl, hs3⟩
          have HS3 := Lib.hid hs3
          clear hs3 HS
          go_wp2_with fail
          go_ret
          exact ⟨rfl, HS3.out.keep⟩
    · obtain rfl : i = Ls.length := by omega
      clear hlt
      go_wp2_with fail
      have hM : M.length ≤ 160000 := by
        have h1 := HM.out.2.2.1
        have h2 := HM.out.2.2.2
        rcases Nat.eq_zero_or_pos Ls.length with h | h
        · rw [h] at h2; omega
        · have := h1 h; omega
      have HMM := Lib.hid hM
      clear hM
      refine (St.snk_end (HS.out.sel [1, 0] (by decide) (by simp)) (M ++ List.replicate 1024 0) rfl (by have := HMM.out; omega)).mono ?_
      rintro e w3 ⟨rfl, hs3⟩
      have HS3 := Lib.hid hs3
      clear hs3 HS
      go_wp2_with fail
      have HBZ : Hid (bys M ++ List.replicate 1024 (Value.int .u8 0) = bys (M ++ List.replicate 1024 0)) := Lib.hid (by unfold bys; simp)
      have HNM : Hid (n1 = M.length) := Lib.hid HM.out.2.1
      go_region_law (first
        | (refine step_zeros_st rfl (.tmp 95) (.const (.int .i64 1024)) 22 3 9 rfl 5 .i64 .i64 Try.underlying22 Try.underlying3 Try.underlying9 HI8.out A1 n1 c1 (bys M) rfl (HS5.out.sel [2, 0, 1] (by decide) (by simp)) 1024 rfl (by have := HNM.out; have := HMM.out; omega) ?_
           intro A6 c6 w6 _ _ hs6
           rw [HBZ.out] at hs6
           have cv2 := conv_own hs6 trivial
           have cv := conv_own (hs6.sel [1] (by decide) (by simp)) trivial
           have HS6 := Lib.hid hs6
           clear hs6)
        | (go_simp
           go_at_call 8
           refine (St.ans03 HS3.out.drew).mono ?_
           rintro e w4 ⟨rfl, hs4⟩
           have HS4 := Lib.hid hs4
           clear hs4)
        | (go_simp
           go_at_call 19
           refine (St.snk_out HS4.out (n1 + 1024) (by rw [List.length_append, List.length_replicate, HNM.out]) (by have := HNM.out; have := HMM.out; omega)).mono ?_
           rintro e w5 ⟨A5, c5, rfl, _, _, hs5⟩
           have cv := conv_own hs5 trivial
           have HS5 := Lib.hid hs5
           clear hs5))
      all_goals
        go_wp2_with fail
        go_ret
        exact ⟨rfl, HS6.out.keep⟩
theorem blockPuts_walk (w : World) (A : Option Addr) (n c : Nat) (L : List (List UInt8)) (hn : n = L.length) (hr : RdRows2 w A L) (hc : n ≤ 9223372036854775807)
    (C : Option Addr) (m cc : Nat) (bs : List Bool) (hm : m = bs.length) (hmc : m ≤ cc) (hcm : cc ≤ 9223372036854775807) (hb : RdV w C (bs.map Value.bool)) :
    Calls Try.prog 5 #[.slice A n c, .slice C m cc] w fun e w' => e = .returned (.bool true) ∧ Below w.heap.size w w' := by
  subst hn hm
  exact (puts_any w A c L hr hc C cc bs hb (by omega)).mono fun _ _ ⟨h1, h2⟩ => ⟨h1, h2.below (Nat.le_refl _) (fun _ _ h => h)⟩
end Go.Proofs.Ytiobacnepacjnaa
