/- BlockReads. Conditions: none. -/
import Derived.Test.YtiobacnepacjnaaLaw03
import Derived.Test.YtiobacnepacjnaaSrcE
import Derived.Test.YtiobacnepacjnaaRowAsk
namespace Go.Proofs.Ytiobacnepacjnaa
open Go.RowKit

/-- The cells of an ask in a list that came in. -/
theorem RdA.at_ {w0 w : World} {l : List Part} {b o : Nat} {L : List As} (hc : ∀ i j (h : i < L.length), j < 2 → w0.cell? ⟨b, o + i * 2 + j, none⟩ = L[i].cells[j]?) (h : St w0 w l) (i : Nat) (hi : i < L.length) :
    w.cell? ⟨b, o + i * 2, none⟩ = some (.bool L[i].b) ∧ w.cell? ⟨b, o + i * 2 + 1, none⟩ = some (.int .i64 L[i].n) :=
  ⟨h.cell (hc i 0 hi (by omega)), h.cell (hc i 1 hi (by omega))⟩
theorem infoInt3 : (Try.prog.info? 3).map (fun i => (i.zero, i.size, i.bytes)) = some (some (.int .i64 0), 1, 8) := by kernel_rfl
theorem may03 (a : Int) (b : Bool) (hb : decide (0 ≤ a ∧ a ≤ 4611686018427387904) = b) (w : World) :
    Calls Try.prog 12 #[.int .i64 a] w fun e w' => e = .returned (.bool b) ∧ w = w' := by
  subst hb
  exact may_any a w
theorem add_add (x : Addr) (i j : Nat) : (x.add i).add j = x.add (i + j) := by
  unfold Addr.add
  by_cases hi : i = 0
  · subst hi; simp
  · by_cases hj : j = 0
    · subst hj; simp
    · simp [hi, hj, Nat.add_assoc]
theorem St.stays (w0 : World) (l : List Part) : Stays Anew (fun u => St w0 u l) := fun _ _ h k => St.later h k
theorem all_step (B : List UInt8) (P k : Nat) (h : P ≤ k) (hk : k < B.length) : ((B.drop P).take (k + 1 - P)).all (· == 0) = (((B.drop P).take (k - P)).all (· == 0) && (B[k] == 0)) := by
  have h2 : k - P < (B.drop P).length := by rw [List.length_drop]; omega
  rw [show k + 1 - P = (k - P) + 1 by omega, List.take_succ_eq_append_getElem h2, List.all_append]
  have e : (B.drop P)[k - P] = B[k] := by
    rw [List.getElem_drop]
    congr 1
    omega
  rw [e]
  simp
set_option maxRecDepth 100000 in
set_option maxHeartbeats 40000000 in
theorem reads_any (w : World) (A : Option Addr) (c : Nat) (B : List UInt8) (hB : B.length ≤ 5000) (hr : RdV w A (bys B)) (hA : A = none → B = [] ∧ c = 0) (hcc : B.length ≤ c) (hcm : c ≤ 9223372036854775807)
    (C : Option Addr) (cc : Nat) (ch : List Int) (hrc : RdV w C (ch.map (Value.int .i64))) (hC : C = none → ch = [] ∧ cc = 0) (hcl : ch.length * 8 ≤ 140737488351232)
    (a : Option Addr) (ac : Nat) (L : List As) (hL : RdA w a L) (hll : L.length ≤ 40) :
    Calls Try.prog 3 #[.slice A B.length c, .slice C ch.length cc, .slice a L.length ac] w fun e w' => e = .returned (.bool true) ∧ Keep (fun b => w.heap.size ≤ b) w w' := by
  have HR := Lib.hid (And.intro hr (And.intro hA hcc))
  have HC := Lib.hid (And.intro hrc (And.intro hC hcl))
  have HB := Lib.hid hB
  have HL := Lib.hid hL
  have b1 : (B.length : Int) ≤ 5000 := by omega
  have b2 : (L.length : Int) ≤ 40 := by omega
  have b3 : (B.length : Int) ≤ (c : Int) := by omega
  have b4 : (c : Int) ≤ 9223372036854775807 := by omega
  clear hr hA hrc hC hcl hB hL hll hcc hcm
  have HI8 := Lib.hid infoU8s
  have HII := Lib.hid infoInt3
  go_enter Try.func3, Try.ntmps3
  go_wp2_with (first
    | (at_builtin
       refine wpL_fresh_st rfl (.tmp 26) (.tmp 27) 22 22 rfl 5 (.int .u8 0) 1 1 Try.underlying22 HI8.out rfl (by decide) _ rfl rfl (St.start w) _ B.length (bys B) rfl (Src.of_rd Try.underlying22 (HR.out.1.old ((Keep.refl _ _).alloc _)) B.length c (by rw [bys_length, Nat.mul_one]) (one_bys _) (fun e => by rw [(HR.out.2.1 e).1]; rfl)) (by have := HB.out; unfold maxLen; omega) (by have := HB.out; omega) ?_
       intro A5 c5 w5 _ hn5 hs5 _
       have HS5 := Lib.hid hs5
       clear hs5)
    | (at_builtin
       refine wpL_fresh_st rfl (.tmp 29) (.tmp 30) 23 23 rfl 3 (.int .i64 0) 1 8 Try.underlying23 HII.out rfl (by decide) _ rfl rfl HS5.out _ ch.length (ch.map (Value.int .i64)) rfl (Src.of_rd Try.underlying23 ((HS5.out.rd HC.out.1).old ((Keep.refl _ _).alloc _)) ch.length cc (by simp) (one_ints .i64 ch) (fun e => by rw [(HC.out.2.1 e).1]; rfl)) (by have := HC.out.2.2; unfold maxLen; omega) (by have := HC.out.2.2; omega) ?_
       intro A6 c6 w6 _ hn6 hs6 _
       have HS6 := Lib.hid hs6
       clear hs6))
  have hz5 : A5 = none → B.length = 0 ∧ c5 = 0 := fun e => by
    rcases own_form (HS6.out.sel [1] (by decide) (by simp)).own with ⟨e2, _⟩ | ⟨_, _, e2, _⟩
    · injection e2 with _ e2 e3; exact ⟨e2, e3⟩
    · rw [e] at e2; injection e2 with e2 _ _; cases e2
  have hz6 : A6 = none → ch.length = 0 ∧ c6 = 0 := fun e => by
    rcases own_form HS6.out.own with ⟨e2, _⟩ | ⟨_, _, e2, _⟩
    · injection e2 with _ e2 e3; exact ⟨e2, e3⟩
    · rw [e] at e2; injection e2 with e2 _ _; cases e2
  refine (St.src_new HS6.out A5 B.length c5 B A6 ch.length c6 ch (St.own_rdv (HS6.out.sel [1] (by decide) (by simp))).1 rfl hz5 (by have := HB.out; omega) (St.own_rdv HS6.out).1 rfl hz6 HC.out.2.2).mono ?_
  rintro e w1 ⟨sb, rfl, hs1⟩
  have HS1 : Hid (St w w1 [srcP sb (B.drop 0) 0]) := Lib.hid (hs1.sel [0] (by decide) (by simp))
  clear hs1 HS5 HS6 hz5 hz6 hn5 hn6
  go_wp2_with fail
  go_loopw [8, 9] (fun v8 v9 wr => ∃ (i pl : Nat), i ≤ L.length ∧ pl ≤ B.length ∧ v8 = .int .i64 pl ∧ v9 = .int .i64 i ∧ Hid (St w wr [srcP sb (B.drop pl) pl])) (fun _ v9 _ => L.length - (intOf v9).toNat)
  case atStart => exact ⟨0, 0, Nat.zero_le _, Nat.zero_le _, rfl, rfl, HS1⟩
  case round =>
    clear HS1
    obtain ⟨i, pl, hi, hp, rfl, rfl, HS⟩ := hrel
    by_cases hlt : i < L.length
    · rcases HL.out with ⟨_, h0⟩ | ⟨b, o, rfl, hc⟩
      · rw [h0] at hlt; simp at hlt
      have q1 : (0 : Int) ≤ i := by omega
      have q2 : (i : Int) < (L.length : Int) := by omega
      have p1 : (0 : Int) ≤ (pl : Int) := by omega
      have p2 : (pl : Int) ≤ (B.length : Int) := by omega
      have hHC : ∃ X : As, ∀ u ps, St w u ps → u.cell? ⟨b, o + i * 2, none⟩ = some (.bool X.b) ∧ u.cell? ⟨b, o + i * 2 + 1, none⟩ = some (.int .i64 X.n) := ⟨L[i], fun u ps h => RdA.at_ hc h i hlt⟩
      obtain ⟨X, hX⟩ := hHC
      have HX := Lib.hid hX
      have HI := Lib.hid hlt
      have HPL := Lib.hid hp
      obtain ⟨l, hl⟩ : ∃ l, l = B.drop pl := ⟨_, rfl⟩
      rw [← hl] at HS
      have HLL : Hid (l = B.drop pl ∧ l.length = B.length - pl) := Lib.hid ⟨hl, by rw [hl, List.length_drop]⟩
      have HOK : Hid (SrcOk l pl) := Lib.hid ⟨by have := HLL.out.2; have := HB.out; omega, by have := HLL.out.2; have := HB.out; omega⟩
      obtain ⟨x0, x1⟩ := HX.out wr _ HS.out
      clear hX hc hlt hl hp
      cases hb : X.b
      · rw [hb] at x0
        have HX1 : Hid (∀ u ps, St w u ps → u.cell? ⟨b, o + i * 2, none⟩ = some (.bool false) ∧ u.cell? ⟨b, o + i * 2 + 1, none⟩ = some (.int .i64 X.n)) := Lib.hid (fun u ps h => by have := HX.out u ps h; rw [hb] at this; exact this)
        clear HX
        have HX := HX1
        clear HX1
        by_cases hmay : 0 ≤ X.n ∧ X.n ≤ 4611686018427387904
        · obtain ⟨W, hW⟩ : ∃ W : Nat, X.n = (W : Int) := ⟨X.n.toNat, by omega⟩
          have HMY : Hid (decide (0 ≤ (W : Int) ∧ (W : Int) ≤ 4611686018427387904) = true) := Lib.hid (decide_eq_true (by rw [hW] at hmay; exact hmay))
          have hw4 : W ≤ 4611686018427387904 := by rw [hW] at hmay; omega
          have HW4 := Lib.hid hw4
          rw [hW] at x1
          have HXW := Lib.hid hW
          have HX2 : Hid (∀ u ps, St w u ps → u.cell? ⟨b, o + i * 2, none⟩ = some (.bool false) ∧ u.cell? ⟨b, o + i * 2 + 1, none⟩ = some (.int .i64 W)) := Lib.hid (fun u ps h => by have := HX.out u ps h; rw [hW] at this; exact this)
          clear HX hmay
          have HX := HX2
          clear HX2
          obtain ⟨M, hM⟩ : ∃ M, M = padN W := ⟨_, rfl⟩
          have HM : Hid (M = padN W ∧ W ≤ 4611686018427387904) := Lib.hid ⟨hM, by omega⟩
          have s0 : (0 : Int) ≤ (W : Int) := by omega
          have s1 : (W : Int) ≤ 4611686018427387904 := by omega
          by_cases hsh : l.length < M
          · have HRF : Hid ((2, [], l.length) = bodyF l W) := Lib.hid (by unfold bodyF; rw [if_neg (by omega), if_pos (by rw [Int.toNat_natCast, ← hM]; exact hsh)])
            have hpz : (pl : Int) ≤ (B.length : Int) := by omega
            by_cases hbig : 100000 < W
            · have d1 : decide ((100000 : Int) < (W : Int)) = true := decide_eq_true (by omega)
              clear hbig hsh hM hb hW
              go_wp2_with fail
              refine (St.src_body_f HS.out HOK.out W _ HRF.out).mono ?_
              rintro e w3 ⟨A3, c3, rfl, hA3, hs3⟩
              have HS3 := Lib.hid hs3
              have HA3 := Lib.hid hA3
              clear hs3 hA3 HS x0 x1
              obtain ⟨x0, x1⟩ := HX.out w3 _ HS3.out
              go_wp2_with (go_at_call 12; refine (may03 _ _ HMY.out _).mono ?_; rintro e w' ⟨rfl, rfl⟩)
              refine wp_region_G [] Anew (fun u => St w u [rdP A3 (bys []), srcP sb (l.drop l.length) (pl + l.length)]) (by kernel_rfl) (by kernel_rfl) (by kernel_rfl) Anew.refl (St.stays _ _) HS3.out.drew ?_
              repeat (first
                | (apply wpG_skip
                   · rfl
                   simp only [Act.put, List.setIfInBounds_toArray, List.set_cons_zero, List.set_cons_succ])
                | (apply wpG_val
                   · rfl
                   · intro u hu
                     clear hu
                     (go_simp <;> with_reducible rfl)
                   simp only [Act.put, List.setIfInBounds_toArray, List.set_cons_zero, List.set_cons_succ]))
              refine wpG_nil ?_
              intro w4 hs4
              have HS4 : Hid (St w w4 [srcP sb (B.drop B.length) B.length]) := Lib.hid (by
                have h := St.sel hs4 [1] (by decide) (by simp)
                rw [List.drop_length, show pl + l.length = B.length by have := HLL.out.2; have := HPL.out; omega, ← List.drop_length (l := B)] at h; exact h)
              clear hs4 HS3
              have r1 : (0 : Int) ≤ (B.length : Int) := by omega
              have HPB : Hid (B.length ≤ B.length) := Lib.hid (Nat.le_refl _)
              go_wp2_with fail
              go_loop [15, 16] (fun v15 v16 => ∃ (k : Nat) (q : Bool), B.length ≤ k ∧ k ≤ B.length ∧ v15 = .bool q ∧ v16 = .int .i64 k ∧ Hid (q = ((B.drop B.length).take (k - B.length)).all (· == 0))) (fun _ v16 => B.length - (intOf v16).toNat)
              case atStart => exact ⟨B.length, true, Nat.le_refl _, HPB.out, rfl, rfl, Lib.hid (by rw [Nat.sub_self]; rfl)⟩
              case round =>
                obtain ⟨k, q, hk0, hk1, rfl, rfl, HQ⟩ := hrel
                by_cases hk2 : k < B.length
                · have k1 : (0 : Int) ≤ k := by omega
                  have k2 : (k : Int) < (B.length : Int) := by omega
                  have hst := all_step B B.length k hk0 hk2
                  rw [← HQ.out] at hst
                  obtain ⟨xx, hxx, hcell⟩ := (HS4.out.rd HR.out.1) k (.int .u8 (B[k].toNat : Int)) (by simp [bys, hk2])
                  have hyz : (B[k] == 0) = ((B[k].toNat : Int) == 0) := by
                    rw [Bool.eq_iff_iff]
                    simp only [beq_iff_eq]
                    exact ⟨fun h => by rw [h]; rfl, fun h => UInt8.toNat_inj.1 (Int.ofNat_inj.1 h)⟩
                  rw [hyz] at hst
                  have HK := Lib.hid hk2
                  generalize B[k].toNat = y at hst hcell
                  have HST := Lib.hid hst
                  cases hxx
                  clear hst hyz hk2
                  cases hy : ((y : Int) == 0)
                  all_goals
                    have HY := Lib.hid hy
                    cases q
                    all_goals
                      go_wp2_with fail
                      go_round
                      case rel => exact ⟨k + 1, _, by omega, HK.out, rfl, by go_num, Lib.hid (by rw [HST.out, HY.out]; rfl)⟩
                      case measure => have := HK.out; simp [intOf]; omega
                · obtain rfl : k = B.length := by omega
                  clear hk2 hk0
                  have HQ2 : Hid ((B.drop B.length).all (· == 0) = q) := Lib.hid (by rw [HQ.out, List.take_of_length_le (by rw [List.length_drop]; omega)])
                  go_wp2_with fail
                  refine (St.src_place HS4.out).mono ?_
                  rintro e w5 ⟨rfl, rfl⟩
                  go_wp2_with fail
                  refine (St.src_rest HS4.out (by rw [List.length_drop]; have := HB.out; omega) q HQ2.out).mono ?_
                  rintro e w5 ⟨rfl, rfl⟩
                  have hqq : (q != q) = false := by cases q <;> rfl
                  go_wp2_with fail
                  go_roundw
                  case rel => exact ⟨i + 1, B.length, HI.out, HPB.out, rfl, by go_num, HS4⟩
                  case measure => have := HI.out; simp [intOf]; omega
            · have d1 : decide ((100000 : Int) < (W : Int)) = false := decide_eq_false (by omega)
              have d2 : decide ((B.length : Int) - (pl : Int) < (M : Int)) = true := decide_eq_true (by have := HLL.out.2; omega)
              clear hbig hsh hM hb hW
              go_wp2_with fail
              refine (St.src_body_f HS.out HOK.out W _ HRF.out).mono ?_
              rintro e w3 ⟨A3, c3, rfl, hA3, hs3⟩
              have HS3 := Lib.hid hs3
              have HA3 := Lib.hid hA3
              clear hs3 hA3 HS x0 x1
              obtain ⟨x0, x1⟩ := HX.out w3 _ HS3.out
              go_wp2_with (first | (go_at_call 12; refine (may03 _ _ HMY.out _).mono ?_; rintro e w' ⟨rfl, rfl⟩) | (go_at_call 13; refine (pad03 W _ rfl M HM.out.1 HM.out.2 _).mono ?_; rintro e w' ⟨rfl, rfl⟩))
              refine wp_region_G [] Anew (fun u => St w u [rdP A3 (bys []), srcP sb (l.drop l.length) (pl + l.length)]) (by kernel_rfl) (by kernel_rfl) (by kernel_rfl) Anew.refl (St.stays _ _) HS3.out.drew ?_
              repeat (first
                | (apply wpG_skip
                   · rfl
                   simp only [Act.put, List.setIfInBounds_toArray, List.set_cons_zero, List.set_cons_succ])
                | (apply wpG_val
                   · rfl
                   · intro u hu
                     clear hu
                     (go_simp <;> with_reducible rfl)
                   simp only [Act.put, List.setIfInBounds_toArray, List.set_cons_zero, List.set_cons_succ]))
              refine wpG_nil ?_
              intro w4 hs4
              have HS4 : Hid (St w w4 [srcP sb (B.drop B.length) B.length]) := Lib.hid (by
                have h := St.sel hs4 [1] (by decide) (by simp)
                rw [List.drop_length, show pl + l.length = B.length by have := HLL.out.2; have := HPL.out; omega, ← List.drop_length (l := B)] at h; exact h)
              clear hs4 HS3
              have r1 : (0 : Int) ≤ (B.length : Int) := by omega
              have HPB : Hid (B.length ≤ B.length) := Lib.hid (Nat.le_refl _)
              go_wp2_with fail
              go_loop [15, 16] (fun v15 v16 => ∃ (k : Nat) (q : Bool), B.length ≤ k ∧ k ≤ B.length ∧ v15 = .bool q ∧ v16 = .int .i64 k ∧ Hid (q = ((B.drop B.length).take (k - B.length)).all (· == 0))) (fun _ v16 => B.length - (intOf v16).toNat)
              case atStart => exact ⟨B.length, true, Nat.le_refl _, HPB.out, rfl, rfl, Lib.hid (by rw [Nat.sub_self]; rfl)⟩
              case round =>
                obtain ⟨k, q, hk0, hk1, rfl, rfl, HQ⟩ := hrel
                by_cases hk2 : k < B.length
                · have k1 : (0 : Int) ≤ k := by omega
                  have k2 : (k : Int) < (B.length : Int) := by omega
                  have hst := all_step B B.length k hk0 hk2
                  rw [← HQ.out] at hst
                  obtain ⟨xx, hxx, hcell⟩ := (HS4.out.rd HR.out.1) k (.int .u8 (B[k].toNat : Int)) (by simp [bys, hk2])
                  have hyz : (B[k] == 0) = ((B[k].toNat : Int) == 0) := by
                    rw [Bool.eq_iff_iff]
                    simp only [beq_iff_eq]
                    exact ⟨fun h => by rw [h]; rfl, fun h => UInt8.toNat_inj.1 (Int.ofNat_inj.1 h)⟩
                  rw [hyz] at hst
                  have HK := Lib.hid hk2
                  generalize B[k].toNat = y at hst hcell
                  have HST := Lib.hid hst
                  cases hxx
                  clear hst hyz hk2
                  cases hy : ((y : Int) == 0)
                  all_goals
                    have HY := Lib.hid hy
                    cases q
                    all_goals
                      go_wp2_with fail
                      go_round
                      case rel => exact ⟨k + 1, _, by omega, HK.out, rfl, by go_num, Lib.hid (by rw [HST.out, HY.out]; rfl)⟩
                      case measure => have := HK.out; simp [intOf]; omega
                · obtain rfl : k = B.length := by omega
                  clear hk2 hk0
                  have HQ2 : Hid ((B.drop B.length).all (· == 0) = q) := Lib.hid (by rw [HQ.out, List.take_of_length_le (by rw [List.length_drop]; omega)])
                  go_wp2_with fail
                  refine (St.src_place HS4.out).mono ?_
                  rintro e w5 ⟨rfl, rfl⟩
                  go_wp2_with fail
                  refine (St.src_rest HS4.out (by rw [List.length_drop]; have := HB.out; omega) q HQ2.out).mono ?_
                  rintro e w5 ⟨rfl, rfl⟩
                  have hqq : (q != q) = false := by cases q <;> rfl
                  go_wp2_with fail
                  go_roundw
                  case rel => exact ⟨i + 1, B.length, HI.out, HPB.out, rfl, by go_num, HS4⟩
                  case measure => have := HI.out; simp [intOf]; omega
          · have HRF : Hid ((0, l.take W, M) = bodyF l W) := Lib.hid (by unfold bodyF; rw [if_neg (by omega), if_neg (by rw [Int.toNat_natCast, ← hM]; exact hsh), Int.toNat_natCast, ← hM])
            have HWM : Hid (W ≤ M ∧ M ≤ l.length) := Lib.hid ⟨by rw [hM]; exact padN_ge W, by omega⟩
            have d1 : decide ((100000 : Int) < (W : Int)) = false := decide_eq_false (by have := HWM.out; have := HLL.out.2; have := HB.out; omega)
            have d2 : decide ((B.length : Int) - (pl : Int) < (M : Int)) = false := decide_eq_false (by have := HWM.out; have := HLL.out.2; omega)
            have s2 : (pl : Int) + (W : Int) ≤ (B.length : Int) := by have := HWM.out; have := HLL.out.2; omega
            obtain ⟨P2, hP2⟩ : ∃ P2, P2 = pl + M := ⟨_, rfl⟩
            have HP2 := Lib.hid hP2
            have hlW : (l.take W).length = W := by rw [List.length_take]; have := HWM.out; omega
            clear hsh hM hb hW hP2
            cases A with
            | none =>
              obtain ⟨hB0, hc0⟩ := HR.out.2.1 rfl
              subst hB0 hc0
              obtain rfl : pl = 0 := by have := HPL.out; simp at this; exact this
              have hl0 : l = [] := by rw [HLL.out.1]; rfl
              subst hl0
              obtain rfl : M = 0 := by have := HWM.out.2; simp at this; exact this
              obtain rfl : W = 0 := by have := HWM.out.1; omega
              obtain rfl : P2 = 0 := HP2.out
              clear hlW s2 d1 d2 p2
              simp only [List.length_nil, List.take_nil] at HRF b3 ⊢
              go_wp2_with fail
              refine (St.src_body_f HS.out HOK.out (0 : Nat) _ HRF.out).mono ?_
              rintro e w3 ⟨A3, c3, rfl, hA3, hs3⟩
              have HS3 : Hid (St w w3 [rdP A3 (bys []), srcP sb [] 0]) := Lib.hid hs3
              have HA3 := Lib.hid hA3
              clear hs3 hA3 HS x0 x1
              obtain ⟨x0, x1⟩ := HX.out w3 _ HS3.out
              go_wp2_with (first | (go_at_call 12; refine (may03 _ _ HMY.out _).mono ?_; rintro e w' ⟨rfl, rfl⟩) | (go_at_call 13; refine (pad03 0 _ rfl 0 HM.out.1 HM.out.2 _).mono ?_; rintro e w' ⟨rfl, rfl⟩))
              refine wp_region_G [] Anew (fun u => St w u [rdP A3 (bys []), srcP sb [] 0]) (by kernel_rfl) (by kernel_rfl) (by kernel_rfl) Anew.refl (St.stays _ _) HS3.out.drew ?_
              repeat (first
                | (apply wpG_skip
                   · rfl
                   simp only [Act.put, List.setIfInBounds_toArray, List.set_cons_zero, List.set_cons_succ])
                | (apply wpG_val
                   · rfl
                   · intro u hu
                     have cv := conv_rd (n := 0) (c := c3) (L := []) (St.rdp hu) rfl HA3.out
                     have cv2 := conv_rd (n := 0) (c := 0) (L := []) (A := none) (w := u) (RdV.nil _ _) rfl (fun _ => rfl)
                     have hw0 : IntKind.i64.wrap 0 = 0 := rfl
                     clear hu
                     (go_simp <;> with_reducible rfl)
                   simp only [Act.put, List.setIfInBounds_toArray, List.set_cons_zero, List.set_cons_succ]))
              refine wpG_nil ?_
              intro w4 hs4
              have HS4 : Hid (St w w4 [srcP sb (([] : List UInt8).drop 0) 0]) := Lib.hid (by
                have h := St.sel hs4 [1] (by decide) (by simp)
                exact h)
              clear hs4 HS3
              have r1 : (0 : Int) ≤ (0 : Int) := by omega
              have HPB : Hid (0 ≤ ([] : List UInt8).length) := Lib.hid (Nat.zero_le _)
              go_wp2_with fail
              go_loop [15, 16] (fun v15 v16 => ∃ (k : Nat) (q : Bool), 0 ≤ k ∧ k ≤ ([] : List UInt8).length ∧ v15 = .bool q ∧ v16 = .int .i64 k ∧ Hid (q = ((([] : List UInt8).drop 0).take (k - 0)).all (· == 0))) (fun _ v16 => ([] : List UInt8).length - (intOf v16).toNat)
              case atStart => exact ⟨0, true, Nat.le_refl _, HPB.out, rfl, rfl, Lib.hid (by rw [Nat.sub_self]; rfl)⟩
              case round =>
                obtain ⟨k, q, hk0, hk1, rfl, rfl, HQ⟩ := hrel
                by_cases hk2 : k < ([] : List UInt8).length
                · simp at hk2
                · obtain rfl : k = ([] : List UInt8).length := by omega
                  clear hk2 hk0
                  have HQ2 : Hid ((([] : List UInt8).drop 0).all (· == 0) = q) := Lib.hid (by rw [HQ.out, List.take_of_length_le (by rw [List.length_drop]; omega)])
                  go_wp2_with fail
                  refine (St.src_place HS4.out).mono ?_
                  rintro e w5 ⟨rfl, rfl⟩
                  go_wp2_with fail
                  refine (St.src_rest HS4.out (by rw [List.length_drop]; have := HB.out; omega) q HQ2.out).mono ?_
                  rintro e w5 ⟨rfl, rfl⟩
                  have hqq : (q != q) = false := by cases q <;> rfl
                  go_wp2_with fail
                  go_roundw
                  case rel => first | exact ⟨i + 1, 0, HI.out, HPB.out, rfl, by go_num, HS4⟩ | ((repeat apply Exists.intro); exact ⟨⟨i + 1, 0, HI.out, HPB.out, rfl, by go_num, HS4⟩, rfl⟩)
                  case measure => have := HI.out; simp [intOf]; omega
            | some xx =>
              go_wp2_with fail
              refine (St.src_body_f HS.out HOK.out W _ HRF.out).mono ?_
              rintro e w3 ⟨A3, c3, rfl, hA3, hs3⟩
              have HS3 := Lib.hid hs3
              have HA3 := Lib.hid hA3
              clear hs3 hA3 HS x0 x1
              rw [hlW]
              obtain ⟨x0, x1⟩ := HX.out w3 _ HS3.out
              go_wp2_with (first | (go_at_call 12; refine (may03 _ _ HMY.out _).mono ?_; rintro e w' ⟨rfl, rfl⟩) | (go_at_call 13; refine (pad03 W _ rfl M HM.out.1 HM.out.2 _).mono ?_; rintro e w' ⟨rfl, rfl⟩))
              have hcv : ∀ (u : World) (ps : List Part), St w u (rdP A3 (bys (l.take W)) :: ps) → (True → (convert 22 9 (.slice A3 W c3)).run Try.prog u = .ok (.string (str (l.take W))) u) ∧ (True → (convert 22 9 (.slice (if c = pl then some xx else some (xx.add pl)) W (c - pl))).run Try.prog u = .ok (.string (str (l.take W))) u) := by
                intro u ps h
                have hlW : W = (l.take W).length := by rw [List.length_take]; have := HWM.out; omega
                refine ⟨conv_rd h.rdp hlW (fun e => by have := HA3.out e; rw [← hlW] at this; exact this), conv_rd ?_ hlW (fun e => by split at e <;> cases e)⟩
                have hb := h.rd HR.out.1
                have hlt : l.take W = (B.drop pl).take W := by rw [HLL.out.1]
                rw [hlt]
                by_cases hcp : c = pl
                · have e0 : B.drop pl = [] := List.drop_of_length_le (by have := HR.out.2.2; omega)
                  rw [e0, List.take_nil]
                  exact RdV.nil _ _
                · rw [if_neg hcp]
                  intro j v hj
                  have e : bys ((B.drop pl).take W) = ((bys B).drop pl).take W := by unfold bys; rw [List.map_take, List.map_drop]
                  rw [e, List.getElem?_take] at hj
                  split at hj
                  · rw [List.getElem?_drop] at hj
                    obtain ⟨y, hy, hc⟩ := hb (pl + j) v hj
                    cases hy
                    refine ⟨_, rfl, ?_⟩
                    rw [add_add]
                    exact hc
                  · cases hj
              have HCV := Lib.hid hcv
              clear hcv
              have e1 : IntKind.i64.wrap ((pl : Int) + (W : Int)) = (pl : Int) + (W : Int) := IntWalk.i64_in _ (by omega)
              have e2 : (0 : Int) ≤ (pl : Int) + (W : Int) := by omega
              have e3 : ((pl : Int) + (W : Int)).toNat = pl + W := by omega
              have e4 : (pl : Int) ≤ (pl : Int) + (W : Int) := by omega
              have e5 : (pl : Int) + (W : Int) ≤ (c : Int) := by omega
              refine wp_region_G [] Anew (fun u => St w u [rdP A3 (bys (l.take W)), srcP sb (l.drop M) (pl + M)]) (by kernel_rfl) (by kernel_rfl) (by kernel_rfl) Anew.refl (St.stays _ _) HS3.out.drew ?_
              repeat (first
                | (apply wpG_skip
                   · rfl
                   simp only [Act.put, List.setIfInBounds_toArray, List.set_cons_zero, List.set_cons_succ])
                | (apply wpG_val
                   · rfl
                   · intro u hu
                     obtain ⟨y1, y2⟩ := HCV.out u _ hu
                     clear hu
                     (go_simp <;> with_reducible rfl)
                   simp only [Act.put, List.setIfInBounds_toArray, List.set_cons_zero, List.set_cons_succ]))
              refine wpG_nil ?_
              intro w4 hs4
              have HS4 : Hid (St w w4 [srcP sb (B.drop P2) P2]) := Lib.hid (by
                have h := St.sel hs4 [1] (by decide) (by simp)
                rw [HLL.out.1, List.drop_drop, ← HP2.out] at h; exact h)
              clear hs4 HS3 e1 e2 e3 e4 e5 HCV
              generalize (if c = pl then (some xx : Option Addr) else some (xx.add pl)) = A9
              have s3 : (P2 : Int) ≤ 5000 := by have := HP2.out; have := HWM.out; have := HLL.out.2; have := HB.out; omega
              have hpp : (pl : Int) + (M : Int) = (P2 : Int) := by have := HP2.out; omega
              have r1 : (0 : Int) ≤ (P2 : Int) := by omega
              have HPB : Hid (P2 ≤ B.length) := Lib.hid (by have := HP2.out; have := HWM.out; have := HLL.out.2; omega)
              go_wp2_with fail
              go_loop [15, 16] (fun v15 v16 => ∃ (k : Nat) (q : Bool), P2 ≤ k ∧ k ≤ B.length ∧ v15 = .bool q ∧ v16 = .int .i64 k ∧ Hid (q = ((B.drop P2).take (k - P2)).all (· == 0))) (fun _ v16 => B.length - (intOf v16).toNat)
              case atStart => exact ⟨P2, true, Nat.le_refl _, HPB.out, rfl, rfl, Lib.hid (by rw [Nat.sub_self]; rfl)⟩
              case round =>
                obtain ⟨k, q, hk0, hk1, rfl, rfl, HQ⟩ := hrel
                by_cases hk2 : k < B.length
                · have k1 : (0 : Int) ≤ k := by omega
                  have k2 : (k : Int) < (B.length : Int) := by omega
                  have hst := all_step B P2 k hk0 hk2
                  rw [← HQ.out] at hst
                  obtain ⟨xx, hxx, hcell⟩ := (HS4.out.rd HR.out.1) k (.int .u8 (B[k].toNat : Int)) (by simp [bys, hk2])
                  have hyz : (B[k] == 0) = ((B[k].toNat : Int) == 0) := by
                    rw [Bool.eq_iff_iff]
                    simp only [beq_iff_eq]
                    exact ⟨fun h => by rw [h]; rfl, fun h => UInt8.toNat_inj.1 (Int.ofNat_inj.1 h)⟩
                  rw [hyz] at hst
                  have HK := Lib.hid hk2
                  generalize B[k].toNat = y at hst hcell
                  have HST := Lib.hid hst
                  cases hxx
                  clear hst hyz hk2
                  cases hy : ((y : Int) == 0)
                  all_goals
                    have HY := Lib.hid hy
                    cases q
                    all_goals
                      go_wp2_with fail
                      go_round
                      case rel => exact ⟨k + 1, _, by omega, HK.out, rfl, by go_num, Lib.hid (by rw [HST.out, HY.out]; rfl)⟩
                      case measure => have := HK.out; simp [intOf]; omega
                · obtain rfl : k = B.length := by omega
                  clear hk2 hk0
                  have HQ2 : Hid ((B.drop P2).all (· == 0) = q) := Lib.hid (by rw [HQ.out, List.take_of_length_le (by rw [List.length_drop]; omega)])
                  go_wp2_with fail
                  refine (St.src_place HS4.out).mono ?_
                  rintro e w5 ⟨rfl, rfl⟩
                  go_wp2_with fail
                  refine (St.src_rest HS4.out (by rw [List.length_drop]; have := HB.out; omega) q HQ2.out).mono ?_
                  rintro e w5 ⟨rfl, rfl⟩
                  have hqq : (q != q) = false := by cases q <;> rfl
                  go_wp2_with fail
                  go_roundw
                  case rel => exact ⟨i + 1, P2, HI.out, HPB.out, rfl, by go_num, HS4⟩
                  case measure => have := HI.out; simp [intOf]; omega
        · have HRF : Hid ((4, [], 0) = bodyF l X.n) := Lib.hid (by unfold bodyF; rw [if_pos hmay])
          have HMY : Hid (decide (0 ≤ X.n ∧ X.n ≤ 4611686018427387904) = false) := Lib.hid (decide_eq_false hmay)
          clear hmay hb
          go_wp2_with fail
          refine (St.src_body_f HS.out HOK.out X.n _ HRF.out).mono ?_
          rintro e w3 ⟨A3, c3, rfl, hA3, hs3⟩
          have HS3 := Lib.hid hs3
          have HA3 := Lib.hid hA3
          clear hs3 hA3 HS x0 x1
          obtain ⟨x0, x1⟩ := HX.out w3 _ HS3.out
          go_wp2_with (go_at_call 12; refine (may03 _ _ HMY.out _).mono ?_; rintro e w' ⟨rfl, rfl⟩)
          refine wp_region_G [] Anew (fun u => St w u [rdP A3 (bys []), srcP sb (l.drop 0) (pl + 0)]) (by kernel_rfl) (by kernel_rfl) (by kernel_rfl) Anew.refl (St.stays _ _) HS3.out.drew ?_
          repeat (first
            | (apply wpG_skip
               · rfl
               simp only [Act.put, List.setIfInBounds_toArray, List.set_cons_zero, List.set_cons_succ])
            | (apply wpG_val
               · rfl
               · intro u hu
                 clear hu
                 (go_simp <;> with_reducible rfl)
               simp only [Act.put, List.setIfInBounds_toArray, List.set_cons_zero, List.set_cons_succ]))
          refine wpG_nil ?_
          intro w4 hs4
          have HS4 : Hid (St w w4 [srcP sb (B.drop pl) pl]) := Lib.hid (by
            have h := St.sel hs4 [1] (by decide) (by simp)
            rw [HLL.out.1, List.drop_zero] at h; exact h)
          clear hs4 HS3
          have r1 : (0 : Int) ≤ (pl : Int) := by omega
          have HPB : Hid (pl ≤ B.length) := Lib.hid (HPL.out)
          go_wp2_with fail
          go_loop [15, 16] (fun v15 v16 => ∃ (k : Nat) (q : Bool), pl ≤ k ∧ k ≤ B.length ∧ v15 = .bool q ∧ v16 = .int .i64 k ∧ Hid (q = ((B.drop pl).take (k - pl)).all (· == 0))) (fun _ v16 => B.length - (intOf v16).toNat)
          case atStart => exact ⟨pl, true, Nat.le_refl _, HPB.out, rfl, rfl, Lib.hid (by rw [Nat.sub_self]; rfl)⟩
          case round =>
            obtain ⟨k, q, hk0, hk1, rfl, rfl, HQ⟩ := hrel
            by_cases hk2 : k < B.length
            · have k1 : (0 : Int) ≤ k := by omega
              have k2 : (k : Int) < (B.length : Int) := by omega
              have hst := all_step B pl k hk0 hk2
              rw [← HQ.out] at hst
              obtain ⟨xx, hxx, hcell⟩ := (HS4.out.rd HR.out.1) k (.int .u8 (B[k].toNat : Int)) (by simp [bys, hk2])
              have hyz : (B[k] == 0) = ((B[k].toNat : Int) == 0) := by
                rw [Bool.eq_iff_iff]
                simp only [beq_iff_eq]
                exact ⟨fun h => by rw [h]; rfl, fun h => UInt8.toNat_inj.1 (Int.ofNat_inj.1 h)⟩
              rw [hyz] at hst
              have HK := Lib.hid hk2
              generalize B[k].toNat = y at hst hcell
              have HST := Lib.hid hst
              cases hxx
              clear hst hyz hk2
              cases hy : ((y : Int) == 0)
              all_goals
                have HY := Lib.hid hy
                cases q
                all_goals
                  go_wp2_with fail
                  go_round
                  case rel => exact ⟨k + 1, _, by omega, HK.out, rfl, by go_num, Lib.hid (by rw [HST.out, HY.out]; rfl)⟩
                  case measure => have := HK.out; simp [intOf]; omega
            · obtain rfl : k = B.length := by omega
              clear hk2 hk0
              have HQ2 : Hid ((B.drop pl).all (· == 0) = q) := Lib.hid (by rw [HQ.out, List.take_of_length_le (by rw [List.length_drop]; omega)])
              go_wp2_with fail
              refine (St.src_place HS4.out).mono ?_
              rintro e w5 ⟨rfl, rfl⟩
              go_wp2_with fail
              refine (St.src_rest HS4.out (by rw [List.length_drop]; have := HB.out; omega) q HQ2.out).mono ?_
              rintro e w5 ⟨rfl, rfl⟩
              have hqq : (q != q) = false := by cases q <;> rfl
              go_wp2_with fail
              go_roundw
              case rel => exact ⟨i + 1, pl, HI.out, HPB.out, rfl, by go_num, HS4⟩
              case measure => have := HI.out; simp [intOf]; omega
      · rw [hb] at x0
        have HX1 : Hid (∀ u ps, St w u ps → u.cell? ⟨b, o + i * 2, none⟩ = some (.bool true) ∧ u.cell? ⟨b, o + i * 2 + 1, none⟩ = some (.int .i64 X.n)) := Lib.hid (fun u ps h => by have := HX.out u ps h; rw [hb] at this; exact this)
        clear HX hb
        have HX := HX1
        clear HX1
        have HMY : Hid (decide (0 ≤ (512 : Int) ∧ (512 : Int) ≤ 4611686018427387904) = true) := Lib.hid (by decide)
        by_cases hl0 : l = []
        · obtain rfl : pl = B.length := by have := HLL.out.2; have := HPL.out; rw [hl0] at *; simp at *; omega
          subst hl0
          have HRF : Hid ((14, [], 0) = blockF []) := Lib.hid rfl
          go_wp2_with fail
          refine (St.src_block_f HS.out HOK.out _ HRF.out).mono ?_
          rintro e w3 ⟨A3, c3, rfl, hA3, hs3⟩
          have HS3 : Hid (St w w3 [rdP A3 (bys []), srcP sb (B.drop B.length) B.length]) := Lib.hid (by rw [List.drop_length]; exact hs3)
          have HA3 := Lib.hid hA3
          clear hs3 hA3 HS x0 x1
          obtain ⟨x0, x1⟩ := HX.out w3 _ HS3.out
          go_wp2_with (first | (go_at_call 12; refine (may03 _ _ HMY.out _).mono ?_; rintro e w' ⟨rfl, rfl⟩) | (go_at_call 13; refine (pad03 512 _ rfl 512 (by decide) (by decide) _).mono ?_; rintro e w' ⟨rfl, rfl⟩))
          refine wp_region_G [] Anew (fun u => St w u [rdP A3 (bys []), srcP sb (B.drop B.length) B.length]) (by kernel_rfl) (by kernel_rfl) (by kernel_rfl) Anew.refl (St.stays _ _) HS3.out.drew ?_
          repeat (first
            | (apply wpG_skip
               · rfl
               simp only [Act.put, List.setIfInBounds_toArray, List.set_cons_zero, List.set_cons_succ])
            | (apply wpG_val
               · rfl
               · intro u hu
                 clear hu
                 (go_simp <;> with_reducible rfl)
               simp only [Act.put, List.setIfInBounds_toArray, List.set_cons_zero, List.set_cons_succ]))
          refine wpG_nil ?_
          intro w4 hs4
          have HS4 : Hid (St w w4 [srcP sb (B.drop B.length) B.length]) := Lib.hid (by
            have h := St.sel hs4 [1] (by decide) (by simp)
            exact h)
          clear hs4 HS3
          have r1 : (0 : Int) ≤ (B.length : Int) := by omega
          have HPB : Hid (B.length ≤ B.length) := Lib.hid (Nat.le_refl _)
          go_wp2_with fail
          go_loop [15, 16] (fun v15 v16 => ∃ (k : Nat) (q : Bool), B.length ≤ k ∧ k ≤ B.length ∧ v15 = .bool q ∧ v16 = .int .i64 k ∧ Hid (q = ((B.drop B.length).take (k - B.length)).all (· == 0))) (fun _ v16 => B.length - (intOf v16).toNat)
          case atStart => exact ⟨B.length, true, Nat.le_refl _, HPB.out, rfl, rfl, Lib.hid (by rw [Nat.sub_self]; rfl)⟩
          case round =>
            obtain ⟨k, q, hk0, hk1, rfl, rfl, HQ⟩ := hrel
            by_cases hk2 : k < B.length
            · have k1 : (0 : Int) ≤ k := by omega
              have k2 : (k : Int) < (B.length : Int) := by omega
              have hst := all_step B B.length k hk0 hk2
              rw [← HQ.out] at hst
              obtain ⟨xx, hxx, hcell⟩ := (HS4.out.rd HR.out.1) k (.int .u8 (B[k].toNat : Int)) (by simp [bys, hk2])
              have hyz : (B[k] == 0) = ((B[k].toNat : Int) == 0) := by
                rw [Bool.eq_iff_iff]
                simp only [beq_iff_eq]
                exact ⟨fun h => by rw [h]; rfl, fun h => UInt8.toNat_inj.1 (Int.ofNat_inj.1 h)⟩
              rw [hyz] at hst
              have HK := Lib.hid hk2
              generalize B[k].toNat = y at hst hcell
              have HST := Lib.hid hst
              cases hxx
              clear hst hyz hk2
              cases hy : ((y : Int) == 0)
              all_goals
                have HY := Lib.hid hy
                cases q
                all_goals
                  go_wp2_with fail
                  go_round
                  case rel => exact ⟨k + 1, _, by omega, HK.out, rfl, by go_num, Lib.hid (by rw [HST.out, HY.out]; rfl)⟩
                  case measure => have := HK.out; simp [intOf]; omega
            · obtain rfl : k = B.length := by omega
              clear hk2 hk0
              have HQ2 : Hid ((B.drop B.length).all (· == 0) = q) := Lib.hid (by rw [HQ.out, List.take_of_length_le (by rw [List.length_drop]; omega)])
              go_wp2_with fail
              refine (St.src_place HS4.out).mono ?_
              rintro e w5 ⟨rfl, rfl⟩
              go_wp2_with fail
              refine (St.src_rest HS4.out (by rw [List.length_drop]; have := HB.out; omega) q HQ2.out).mono ?_
              rintro e w5 ⟨rfl, rfl⟩
              have hqq : (q != q) = false := by cases q <;> rfl
              go_wp2_with fail
              go_roundw
              case rel => exact ⟨i + 1, B.length, HI.out, HPB.out, rfl, by go_num, HS4⟩
              case measure => have := HI.out; simp [intOf]; omega
        · have hll : 0 < l.length := List.length_pos_iff.2 hl0
          have dpl : ((pl : Int) == (B.length : Int)) = false := by
            have := HLL.out.2
            simp
            omega
          have d1 : decide ((100000 : Int) < (512 : Int)) = false := by decide
          by_cases hsh : l.length < 512
          · have HRF : Hid ((2, [], l.length) = blockF l) := Lib.hid (by unfold blockF; rw [if_neg hl0, if_pos hsh])
            have d2 : decide ((B.length : Int) - (pl : Int) < (512 : Int)) = true := decide_eq_true (by have := HLL.out.2; omega)
            clear hsh hl0 hll
            go_wp2_with fail
            refine (St.src_block_f HS.out HOK.out _ HRF.out).mono ?_
            rintro e w3 ⟨A3, c3, rfl, hA3, hs3⟩
            have HS3 := Lib.hid hs3
            have HA3 := Lib.hid hA3
            clear hs3 hA3 HS x0 x1
            obtain ⟨x0, x1⟩ := HX.out w3 _ HS3.out
            go_wp2_with (first | (go_at_call 12; refine (may03 _ _ HMY.out _).mono ?_; rintro e w' ⟨rfl, rfl⟩) | (go_at_call 13; refine (pad03 512 _ rfl 512 (by decide) (by decide) _).mono ?_; rintro e w' ⟨rfl, rfl⟩))
            refine wp_region_G [] Anew (fun u => St w u [rdP A3 (bys []), srcP sb (l.drop l.length) (pl + l.length)]) (by kernel_rfl) (by kernel_rfl) (by kernel_rfl) Anew.refl (St.stays _ _) HS3.out.drew ?_
            repeat (first
              | (apply wpG_skip
                 · rfl
                 simp only [Act.put, List.setIfInBounds_toArray, List.set_cons_zero, List.set_cons_succ])
              | (apply wpG_val
                 · rfl
                 · intro u hu
                   clear hu
                   (go_simp <;> with_reducible rfl)
                 simp only [Act.put, List.setIfInBounds_toArray, List.set_cons_zero, List.set_cons_succ]))
            refine wpG_nil ?_
            intro w4 hs4
            have HS4 : Hid (St w w4 [srcP sb (B.drop B.length) B.length]) := Lib.hid (by
              have h := St.sel hs4 [1] (by decide) (by simp)
              rw [List.drop_length, show pl + l.length = B.length by have := HLL.out.2; have := HPL.out; omega, ← List.drop_length (l := B)] at h; exact h)
            clear hs4 HS3
            have r1 : (0 : Int) ≤ (B.length : Int) := by omega
            have HPB : Hid (B.length ≤ B.length) := Lib.hid (Nat.le_refl _)
            go_wp2_with fail
            go_loop [15, 16] (fun v15 v16 => ∃ (k : Nat) (q : Bool), B.length ≤ k ∧ k ≤ B.length ∧ v15 = .bool q ∧ v16 = .int .i64 k ∧ Hid (q = ((B.drop B.length).take (k - B.length)).all (· == 0))) (fun _ v16 => B.length - (intOf v16).toNat)
            case atStart => exact ⟨B.length, true, Nat.le_refl _, HPB.out, rfl, rfl, Lib.hid (by rw [Nat.sub_self]; rfl)⟩
            case round =>
              obtain ⟨k, q, hk0, hk1, rfl, rfl, HQ⟩ := hrel
              by_cases hk2 : k < B.length
              · have k1 : (0 : Int) ≤ k := by omega
                have k2 : (k : Int) < (B.length : Int) := by omega
                have hst := all_step B B.length k hk0 hk2
                rw [← HQ.out] at hst
                obtain ⟨xx, hxx, hcell⟩ := (HS4.out.rd HR.out.1) k (.int .u8 (B[k].toNat : Int)) (by simp [bys, hk2])
                have hyz : (B[k] == 0) = ((B[k].toNat : Int) == 0) := by
                  rw [Bool.eq_iff_iff]
                  simp only [beq_iff_eq]
                  exact ⟨fun h => by rw [h]; rfl, fun h => UInt8.toNat_inj.1 (Int.ofNat_inj.1 h)⟩
                rw [hyz] at hst
                have HK := Lib.hid hk2
                generalize B[k].toNat = y at hst hcell
                have HST := Lib.hid hst
                cases hxx
                clear hst hyz hk2
                cases hy : ((y : Int) == 0)
                all_goals
                  have HY := Lib.hid hy
                  cases q
                  all_goals
                    go_wp2_with fail
                    go_round
                    case rel => exact ⟨k + 1, _, by omega, HK.out, rfl, by go_num, Lib.hid (by rw [HST.out, HY.out]; rfl)⟩
                    case measure => have := HK.out; simp [intOf]; omega
              · obtain rfl : k = B.length := by omega
                clear hk2 hk0
                have HQ2 : Hid ((B.drop B.length).all (· == 0) = q) := Lib.hid (by rw [HQ.out, List.take_of_length_le (by rw [List.length_drop]; omega)])
                go_wp2_with fail
                refine (St.src_place HS4.out).mono ?_
                rintro e w5 ⟨rfl, rfl⟩
                go_wp2_with fail
                refine (St.src_rest HS4.out (by rw [List.length_drop]; have := HB.out; omega) q HQ2.out).mono ?_
                rintro e w5 ⟨rfl, rfl⟩
                have hqq : (q != q) = false := by cases q <;> rfl
                go_wp2_with fail
                go_roundw
                case rel => exact ⟨i + 1, B.length, HI.out, HPB.out, rfl, by go_num, HS4⟩
                case measure => have := HI.out; simp [intOf]; omega
          · have HRF : Hid ((0, l.take 512, 512) = blockF l) := Lib.hid (by unfold blockF; rw [if_neg hl0, if_neg hsh])
            have HWM : Hid (512 ≤ 512 ∧ 512 ≤ l.length) := Lib.hid ⟨Nat.le_refl _, by omega⟩
            have d2 : decide ((B.length : Int) - (pl : Int) < (512 : Int)) = false := decide_eq_false (by have := HWM.out; have := HLL.out.2; omega)
            have s2 : (pl : Int) + (512 : Int) ≤ (B.length : Int) := by have := HWM.out; have := HLL.out.2; omega
            obtain ⟨P2, hP2⟩ : ∃ P2, P2 = pl + 512 := ⟨_, rfl⟩
            have HP2 := Lib.hid hP2
            have hlW : (l.take 512).length = 512 := by rw [List.length_take]; have := HWM.out; omega
            clear hsh hl0 hll hP2
            cases A with
            | none =>
              exfalso
              have h0 : B.length = 0 := by rw [(HR.out.2.1 rfl).1]; rfl
              have := HLL.out.2
              have := HWM.out
              omega
            | some xx =>
              go_wp2_with fail
              refine (St.src_block_f HS.out HOK.out _ HRF.out).mono ?_
              rintro e w3 ⟨A3, c3, rfl, hA3, hs3⟩
              have HS3 := Lib.hid hs3
              have HA3 := Lib.hid hA3
              clear hs3 hA3 HS x0 x1
              rw [hlW]
              obtain ⟨x0, x1⟩ := HX.out w3 _ HS3.out
              go_wp2_with (first | (go_at_call 12; refine (may03 _ _ HMY.out _).mono ?_; rintro e w' ⟨rfl, rfl⟩) | (go_at_call 13; refine (pad03 512 _ rfl 512 (by decide) (by decide) _).mono ?_; rintro e w' ⟨rfl, rfl⟩))
              have hcv : ∀ (u : World) (ps : List Part), St w u (rdP A3 (bys (l.take 512)) :: ps) → (True → (convert 22 9 (.slice A3 512 c3)).run Try.prog u = .ok (.string (str (l.take 512))) u) ∧ (True → (convert 22 9 (.slice (if c = pl then some xx else some (xx.add pl)) 512 (c - pl))).run Try.prog u = .ok (.string (str (l.take 512))) u) := by
                intro u ps h
                have hlW : 512 = (l.take 512).length := by rw [List.length_take]; have := HWM.out; omega
                refine ⟨conv_rd h.rdp hlW (fun e => by have := HA3.out e; rw [← hlW] at this; exact this), conv_rd ?_ hlW (fun e => by split at e <;> cases e)⟩
                have hb := h.rd HR.out.1
                have hlt : l.take 512 = (B.drop pl).take 512 := by rw [HLL.out.1]
                rw [hlt]
                by_cases hcp : c = pl
                · have e0 : B.drop pl = [] := List.drop_of_length_le (by have := HR.out.2.2; omega)
                  rw [e0, List.take_nil]
                  exact RdV.nil _ _
                · rw [if_neg hcp]
                  intro j v hj
                  have e : bys ((B.drop pl).take 512) = ((bys B).drop pl).take 512 := by unfold bys; rw [List.map_take, List.map_drop]
                  rw [e, List.getElem?_take] at hj
                  split at hj
                  · rw [List.getElem?_drop] at hj
                    obtain ⟨y, hy, hc⟩ := hb (pl + j) v hj
                    cases hy
                    refine ⟨_, rfl, ?_⟩
                    rw [add_add]
                    exact hc
                  · cases hj
              have HCV := Lib.hid hcv
              clear hcv
              have e1 : IntKind.i64.wrap ((pl : Int) + (512 : Int)) = (pl : Int) + (512 : Int) := IntWalk.i64_in _ (by omega)
              have e2 : (0 : Int) ≤ (pl : Int) + (512 : Int) := by omega
              have e3 : ((pl : Int) + (512 : Int)).toNat = pl + 512 := by omega
              have e4 : (pl : Int) ≤ (pl : Int) + (512 : Int) := by omega
              have e5 : (pl : Int) + (512 : Int) ≤ (c : Int) := by omega
              refine wp_region_G [] Anew (fun u => St w u [rdP A3 (bys (l.take 512)), srcP sb (l.drop 512) (pl + 512)]) (by kernel_rfl) (by kernel_rfl) (by kernel_rfl) Anew.refl (St.stays _ _) HS3.out.drew ?_
              repeat (first
                | (apply wpG_skip
                   · rfl
                   simp only [Act.put, List.setIfInBounds_toArray, List.set_cons_zero, List.set_cons_succ])
                | (apply wpG_val
                   · rfl
                   · intro u hu
                     obtain ⟨y1, y2⟩ := HCV.out u _ hu
                     clear hu
                     (go_simp <;> with_reducible rfl)
                   simp only [Act.put, List.setIfInBounds_toArray, List.set_cons_zero, List.set_cons_succ]))
              refine wpG_nil ?_
              intro w4 hs4
              have HS4 : Hid (St w w4 [srcP sb (B.drop P2) P2]) := Lib.hid (by
                have h := St.sel hs4 [1] (by decide) (by simp)
                rw [HLL.out.1, List.drop_drop, ← HP2.out] at h; exact h)
              clear hs4 HS3 e1 e2 e3 e4 e5 HCV
              generalize (if c = pl then (some xx : Option Addr) else some (xx.add pl)) = A9
              have s3 : (P2 : Int) ≤ 5000 := by have := HP2.out; have := HWM.out; have := HLL.out.2; have := HB.out; omega
              have hpp : (pl : Int) + (512 : Int) = (P2 : Int) := by have := HP2.out; omega
              have r1 : (0 : Int) ≤ (P2 : Int) := by omega
              have HPB : Hid (P2 ≤ B.length) := Lib.hid (by have := HP2.out; have := HWM.out; have := HLL.out.2; omega)
              go_wp2_with fail
              go_loop [15, 16] (fun v15 v16 => ∃ (k : Nat) (q : Bool), P2 ≤ k ∧ k ≤ B.length ∧ v15 = .bool q ∧ v16 = .int .i64 k ∧ Hid (q = ((B.drop P2).take (k - P2)).all (· == 0))) (fun _ v16 => B.length - (intOf v16).toNat)
              case atStart => exact ⟨P2, true, Nat.le_refl _, HPB.out, rfl, rfl, Lib.hid (by rw [Nat.sub_self]; rfl)⟩
              case round =>
                obtain ⟨k, q, hk0, hk1, rfl, rfl, HQ⟩ := hrel
                by_cases hk2 : k < B.length
                · have k1 : (0 : Int) ≤ k := by omega
                  have k2 : (k : Int) < (B.length : Int) := by omega
                  have hst := all_step B P2 k hk0 hk2
                  rw [← HQ.out] at hst
                  obtain ⟨xx, hxx, hcell⟩ := (HS4.out.rd HR.out.1) k (.int .u8 (B[k].toNat : Int)) (by simp [bys, hk2])
                  have hyz : (B[k] == 0) = ((B[k].toNat : Int) == 0) := by
                    rw [Bool.eq_iff_iff]
                    simp only [beq_iff_eq]
                    exact ⟨fun h => by rw [h]; rfl, fun h => UInt8.toNat_inj.1 (Int.ofNat_inj.1 h)⟩
                  rw [hyz] at hst
                  have HK := Lib.hid hk2
                  generalize B[k].toNat = y at hst hcell
                  have HST := Lib.hid hst
                  cases hxx
                  clear hst hyz hk2
                  cases hy : ((y : Int) == 0)
                  all_goals
                    have HY := Lib.hid hy
                    cases q
                    all_goals
                      go_wp2_with fail
                      go_round
                      case rel => exact ⟨k + 1, _, by omega, HK.out, rfl, by go_num, Lib.hid (by rw [HST.out, HY.out]; rfl)⟩
                      case measure => have := HK.out; simp [intOf]; omega
                · obtain rfl : k = B.length := by omega
                  clear hk2 hk0
                  have HQ2 : Hid ((B.drop P2).all (· == 0) = q) := Lib.hid (by rw [HQ.out, List.take_of_length_le (by rw [List.length_drop]; omega)])
                  go_wp2_with fail
                  refine (St.src_place HS4.out).mono ?_
                  rintro e w5 ⟨rfl, rfl⟩
                  go_wp2_with fail
                  refine (St.src_rest HS4.out (by rw [List.length_drop]; have := HB.out; omega) q HQ2.out).mono ?_
                  rintro e w5 ⟨rfl, rfl⟩
                  have hqq : (q != q) = false := by cases q <;> rfl
                  go_wp2_with fail
                  go_roundw
                  case rel => exact ⟨i + 1, P2, HI.out, HPB.out, rfl, by go_num, HS4⟩
                  case measure => have := HI.out; simp [intOf]; omega
    · obtain rfl : i = L.length := by omega
      clear hlt
      go_wp2_with fail
      refine (St.ans03 HS.out).mono ?_
      rintro e w5 ⟨rfl, hs5⟩
      have HS5 := Lib.hid hs5
      clear hs5 HS
      go_wp2_with fail
      go_ret
      exact ⟨rfl, HS5.out.keep⟩
set_option maxRecDepth 100000 in
theorem reads_big (w : World) (A : Option Addr) (c : Nat) (B : List UInt8) (C a : Value) (hB : 5000 < B.length) (hB2 : B.length ≤ 4611686018427387904) :
    Calls Try.prog 3 #[.slice A B.length c, C, a] w fun e w' => e = .returned (.bool true) ∧ Keep (fun b => w.heap.size ≤ b) w w' := by
  have d1 : decide ((5000 : Int) < (B.length : Int)) = true := decide_eq_true (by omega)
  clear hB hB2
  go_enter Try.func3, Try.ntmps3
  go_wp2_with fail
  refine (answers03 w).mono ?_
  rintro e w5 ⟨rfl, hs5⟩
  have HS5 := Lib.hid hs5
  clear hs5
  go_wp2_with fail
  go_ret
  exact ⟨rfl, HS5.out⟩
set_option maxRecDepth 100000 in
theorem reads_long (w : World) (A : Option Addr) (c : Nat) (B : List UInt8) (C : Value) (a : Option Addr) (n ac : Nat) (hB : B.length ≤ 5000) (hn : 40 < n) (hn2 : n ≤ 9223372036854775807) :
    Calls Try.prog 3 #[.slice A B.length c, C, .slice a n ac] w fun e w' => e = .returned (.bool true) ∧ Keep (fun b => w.heap.size ≤ b) w w' := by
  have d1 : decide ((5000 : Int) < (B.length : Int)) = false := decide_eq_false (by omega)
  have d2 : decide ((40 : Int) < (n : Int)) = true := decide_eq_true (by omega)
  clear hB hn hn2
  go_enter Try.func3, Try.ntmps3
  go_wp2_with fail
  refine (answers03 w).mono ?_
  rintro e w5 ⟨rfl, hs5⟩
  have HS5 := Lib.hid hs5
  clear hs5
  go_wp2_with fail
  go_ret
  exact ⟨rfl, HS5.out⟩
theorem blockReads_walk (w : World) (A : Option Addr) (n c : Nat) (B : List UInt8) (hn : n = B.length) (hcc : n ≤ c) (hcm : c ≤ 9223372036854775807) (hr : RdV w A (bys B)) (hA : A = none → B = [] ∧ c = 0) (hy : n ≤ 140737488351232)
    (C : Option Addr) (m cc : Nat) (ch : List Int) (hm : m = ch.length) (_ : m ≤ cc) (hrc : RdV w C (ch.map (Value.int .i64))) (hC : C = none → ch = [] ∧ cc = 0) (_ : ∀ x ∈ ch, (Lit.int .i64 x).wf = true) (hz : m * 8 ≤ 140737488351232)
    (a : Option Addr) (q ac : Nat) (L : List As) (hq : q = L.length) (hqa : q ≤ ac) (hac : ac ≤ 9223372036854775807) (hL : RdA w a L) (_ : a = none → L = [] ∧ ac = 0) :
    Calls Try.prog 3 #[.slice A n c, .slice C m cc, .slice a q ac] w fun e w' => e = .returned (.bool true) ∧ Below w.heap.size w w' := by
  subst hn hm hq
  by_cases h : B.length ≤ 5000
  · by_cases h2 : L.length ≤ 40
    · exact (reads_any w A c B h hr hA hcc hcm C cc ch hrc hC hz a ac L hL h2).mono fun _ _ ⟨h1, h2⟩ => ⟨h1, h2.below (Nat.le_refl _) (fun _ _ h => h)⟩
    · exact (reads_long w A c B _ a L.length ac h (by omega) (by omega)).mono fun _ _ ⟨h1, h2⟩ => ⟨h1, h2.below (Nat.le_refl _) (fun _ _ h => h)⟩
  · exact (reads_big w A c B _ _ (by omega) (by omega)).mono fun _ _ ⟨h1, h2⟩ => ⟨h1, h2.below (Nat.le_refl _) (fun _ _ h => h)⟩
end Go.Proofs.Ytiobacnepacjnaa
