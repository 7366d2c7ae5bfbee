/- SortSorts. Conditions: none. -/
import Derived.Test.YtkglkpcpgdeneaaSortQ
namespace Go.Proofs.Ytkglkpcpgdeneaa
open Go.RowKit
set_option linter.unusedVariables false
set_option linter.unusedSimpArgs false

set_option maxRecDepth 100000 in
set_option maxHeartbeats 16000000 in
theorem sortSorts_small (w : World) (a : Option Addr) (c : Nat) (L : List It) (bud fan : Int) (hbd : -9223372036854775808 ≤ bud ∧ bud ≤ 9223372036854775807) (hfd : -9223372036854775808 ≤ fan ∧ fan ≤ 9223372036854775807) (hr : RdI w a L) (hx : ∀ x ∈ L, ItOk w x) (hl : L.length ≤ 200 ∧ wsum L ≤ 100000) :
    Calls Try.prog 3 #[.slice a L.length c, .int .i64 bud, .int .i64 fan] w fun e w' => e = .returned (.bool true) ∧ Keep (fun b => w.heap.size ≤ b) w w' := by
  obtain ⟨X, hX⟩ : ∃ X, X = xsI w L := ⟨_, rfl⟩
  have HI : Hid (InI w a L X) := Lib.hid (by rw [hX]; exact InI.mk' hr hx hl)
  have HXD : Hid (∀ x ∈ X, DatI w x.1 x.2 ∧ x.2.length ≤ 140737488355328) := Lib.hid (by rw [hX]; exact xsI_dat hx)
  have HO := Lib.hid (And.intro hx hl)
  obtain ⟨n, hn⟩ : ∃ n, n = L.length := ⟨_, rfl⟩
  have HN := Lib.hid hn
  have q0 : (n : Int) ≤ 200 := by omega
  rw [← hn]
  clear hr hx hl hX hn
  go_enter Try.func3, Try.ntmps3
  go_wp2_with fail
  refine (St.light17 (St.start w) a n c L true HN.out HI.out.rd (by have := HI.out.few; omega) (fun x hx => (HO.out.1 x hx).small2) (decide_eq_true HO.out.2)).mono ?_
  rintro e w1 ⟨rfl, hs1⟩
  have HS1 := Lib.hid hs1
  clear hs1
  go_wp2_with fail
  refine (St.unlike17 HS1.out a n c L HN.out (fun u hu => HI.out.rd.keep hu.keep) HI.out.few).mono ?_
  rintro e w2 ⟨ub, rfl, hub, hs2⟩
  have HS2 := Lib.hid hs2
  clear hs2 HS1
  cases ub with
  | false =>
    clear hub
    go_wp2_with fail
    refine (St.ans17 HS2.out).mono ?_
    rintro e w3 ⟨rfl, hs3⟩
    have HS3 := Lib.hid hs3
    clear hs3 HS2
    go_wp2_with fail
    go_ret
    exact ⟨rfl, HS3.out.keep⟩
  | true =>
    have HU := Lib.hid ((hub rfl).keys HI.out.fst (fun x hx => (HI.out.dat x hx).1))
    clear hub
    go_wp2_with fail
    refine (St.store_new HS2.out 16777216 none 0 0 [] (by omega) (RdV.nil _ _) rfl (fun _ => ⟨rfl, rfl⟩) (by omega)).mono ?_
    rintro e w3 ⟨sb, rfl, hs3⟩
    have HS3 := Lib.hid hs3
    clear hs3 HS2
    go_wp2_with fail
    refine (ref_own w3 a n c X (by rw [HN.out, HI.out.len]) (by rw [HI.out.fst]; exact HI.out.rd.keep HS3.out.keep) (fun x hx => ⟨(HI.out.dat x hx).keep HS3.out.keep, (HXD.out x hx).2⟩) (by have := HI.out.few; have := HN.out; omega)).mono ?_
    rintro e w4 ⟨A4, c4, Y, rfl, hY, hs4⟩
    have HS4 : Hid (St w w4 (storeP sb (StoreM.made 16777216 []) :: itsP A4 c4 Y :: [])) := Lib.hid (HS3.out.lift hs4).swap
    have HY : Hid (Y.map keyX = X.map keyX ∧ Y.length = n) := Lib.hid ⟨hY, by have h1 := congrArg List.length hY; rw [List.length_map, List.length_map] at h1; rw [h1, HI.out.len, HN.out]⟩
    obtain ⟨yn, hyn⟩ : ∃ yn, yn = Y.length := ⟨_, rfl⟩
    rw [← hyn]
    have HYN := Lib.hid hyn
    clear hs4 hY HS3 hyn
    by_cases hbad : bud < 2 ∨ fan < 2
    · have hbad2 : decide (bud < 2) = true ∨ (decide (bud < 2) = false ∧ decide (fan < 2) = true) := by
        simp only [decide_eq_true_eq, decide_eq_false_iff_not]
        omega
      clear hbad
      rcases hbad2 with b1 | ⟨b1, b2⟩
      all_goals
        go_wp2_with fail
        refine (sort_amiss w4 (some ⟨sb, 0, none⟩) A4 yn c4 bud fan (.inr ⟨sb, rfl, by first | exact .inl b1 | exact .inr ⟨b1, b2⟩⟩)).mono ?_
        rintro e w5 ⟨rfl, hk5⟩
        have hs5 := (HS4.out.later hk5).boxB [.int .i64 0, .int .i64 0, .int .i64 0] 28 w5.heap.size rfl
        have HS5 : Hid (St w (w5.alloc (Obj.cells #[.int .i64 0, .int .i64 0, .int .i64 0] 28)) _) := Lib.hid hs5
        clear hk5 hs5 HS4
        go_upto_region 5 with fail
        generalize w5.alloc (Obj.cells #[.int .i64 0, .int .i64 0, .int .i64 0] 28) = w6 at HS5 ⊢
        go_wp2_with fail
        refine (St.ans17 HS5.out).mono ?_
        rintro e w7 ⟨rfl, hs7⟩
        have HS7 := Lib.hid hs7.keep
        clear hs7 HS5
        go_wp2_with fail
        go_ret
        exact ⟨rfl, HS7.out⟩
    · obtain ⟨f, rfl⟩ : ∃ f : Nat, fan = (f : Int) := ⟨fan.toNat, by omega⟩
      obtain ⟨b, rfl⟩ : ∃ b : Nat, bud = (b : Int) := ⟨bud.toNat, by omega⟩
      have hb2 : 2 ≤ b ∧ 2 ≤ f := by omega
      have m1 : decide ((b : Int) < 2) = false := by simp only [decide_eq_false_iff_not]; omega
      have m2 : decide ((f : Int) < 2) = false := by simp only [decide_eq_false_iff_not]; omega
      have HB2 := Lib.hid hb2
      have q1 : (b : Int) ≤ 9223372036854775807 := hbd.2
      have q2 : (f : Int) ≤ 9223372036854775807 := hfd.2
      clear hbad hbd hfd hb2
      go_wp2_with fail
      refine (St.sort17 HS4.out A4 yn c4 (fun u hu => ⟨hu.its_rd, fun x hx => hu.its_dat x hx⟩) HYN.out (by have := HY.out.2; have := HN.out; have := HI.out.few; omega) (by rw [HY.out.1]; exact HI.out.sum) (fun y hy => by
        have h1 : keyX y ∈ X.map keyX := by rw [← HY.out.1]; exact List.mem_map_of_mem hy
        obtain ⟨x, hx, hk⟩ := List.mem_map.1 h1
        rw [← hk]
        exact HU.out.2 x hx) (b : Int) (by have := HB2.out.1; omega) f (f : Int) rfl HB2.out.2).mono ?_
      rintro e w5 ⟨T, A5, c5, Z, rows, pk, rn, mg, z1, z2, z3, z4, z5, he, hZ, hO, hpk, hs5⟩
      subst he
      rw [HY.out.1] at z3 z4 z5 hZ hpk
      rw [sortK_unlike HU.out.1] at hZ
      rw [List.length_map, HI.out.len, ← HN.out] at hpk
      obtain ⟨kn, hkn⟩ : ∃ kn, kn = (chunks (b : Int) [] (X.map keyX)).length := ⟨_, rfl⟩
      rw [← hkn] at z4 z5
      rw [tailK_cnt, List.length_map, ← hkn] at z5
      have hkc : kn = cntN b n := by
        have h1 := chunks_cnt b (by have := HB2.out.1; omega) (X.map keyX) [] (by have := HB2.out.1; simp; omega)
        rw [List.length_map, HI.out.len, ← HN.out, ← hkn] at h1
        simpa using h1
      obtain ⟨zn, hzn⟩ : ∃ zn, zn = Z.length := ⟨_, rfl⟩
      rw [← hzn] at hs5 ⊢
      obtain ⟨b9, hb9⟩ : ∃ b9, b9 = w5.heap.size := ⟨_, rfl⟩
      have hs6 := hs5.boxB [.int .i64 pk, .int .i64 rn, .int .i64 mg] 28 b9 hb9
      have HS6 : Hid (St w (w5.alloc (Obj.cells #[.int .i64 pk, .int .i64 rn, .int .i64 mg] 28)) (blkP b9 28 [.int .i64 pk, .int .i64 rn, .int .i64 mg] :: ownP 44 3 (.slice A5 zn c5) zn (flatI (Z.map Prod.fst)) :: rdsP rows :: storeP sb T :: itsP A4 c4 Y :: [])) := Lib.hid hs6
      have HZ := Lib.hid (And.intro hZ (And.intro hO (And.intro hzn (And.intro z2 (And.intro z3 (And.intro z4 (And.intro z5 (And.intro hkc hpk))))))))
      clear hs5 hs6 hZ hO hzn z1 z2 z3 z4 z5 hkc hpk hkn HS4
      go_upto_region 5 with fail
      rw [← hb9]
      clear hb9
      generalize w5.alloc (Obj.cells #[.int .i64 pk, .int .i64 rn, .int .i64 mg] 28) = w6 at HS6 ⊢
      go_upto_region 9 with fail
      obtain ⟨s, hs⟩ : ∃ s, s = min b 1000 := ⟨_, rfl⟩
      have hsc : cntN s n = kn := by
        rw [HZ.out.2.2.2.2.2.2.2.1, hs]
        rcases Nat.lt_or_ge 1000 b with h1 | h1
        · rw [show min b 1000 = 1000 by omega]
          rcases Nat.eq_zero_or_pos n with h0 | h0
          · rw [h0, cntN_zero _ (by omega), cntN_zero _ (by omega)]
          · rw [cntN_small h0 (by omega), cntN_small h0 (by omega)]
        · rw [show min b 1000 = b by omega]
      have HSC : Hid (cntN s n = kn ∧ 2 ≤ s ∧ s ≤ 1000) := Lib.hid ⟨hsc, by have := HB2.out.1; omega, by omega⟩
      have hsm : ((b : Int) ≤ 1000 ∧ (s : Int) = b) ∨ ((1000 : Int) < b ∧ s = 1000) := by omega
      have hkn200 : kn ≤ 200 := by
        rcases Nat.eq_zero_or_pos n with h0 | h0
        · rw [← hsc, h0, cntN_zero _ (by have := HB2.out.1; omega)]; omega
        · have h1 := HZ.out.2.2.2.2.2.2.2.1
          have h2 : cntN b n ≤ n := by
            unfold cntN
            have := HB2.out.1
            have h3 : (n + b - 1) / b ≤ (n * b) / b := Nat.div_le_div_right (by
              have h4 : n + b - 1 ≤ n * b := by
                obtain ⟨n', rfl⟩ : ∃ n', n = n' + 1 := ⟨n - 1, by omega⟩
                obtain ⟨b', rfl⟩ : ∃ b', b = b' + 1 := ⟨b - 1, by omega⟩
                rw [Nat.add_mul, Nat.mul_add]
                omega
              exact h4)
            rw [Nat.mul_div_cancel _ (by omega)] at h3
            exact h3
          omega
      have q7 : (kn : Int) ≤ 200 := by omega
      have HSM : Hid ((s : Int) = min (b : Int) 1000) := Lib.hid (by omega)
      clear hs hsc hsm hkn200
      go_loopw [11, 13] (fun v11 v13 wr => ∃ j i : Nat, v11 = .int .i64 j ∧ v13 = .int .i64 i ∧ i ≤ n + 1000 ∧ Hid (j + cntN s (n - i) = kn) ∧ wr = w6) (fun _ v13 _ => n - (intOf v13).toNat)
      case atStart => exact ⟨0, 0, rfl, rfl, by omega, Lib.hid (by rw [Nat.zero_add]; exact HSC.out.1), rfl⟩
      case round =>
        obtain ⟨j, i, rfl, rfl, hi, HJ, rfl⟩ := hrel
        have q3 : (j : Int) ≤ 200 := by have := HJ.out; omega
        have q4 : (i : Int) ≤ 1200 := by omega
        by_cases hlt : i < n
        · have q5 : (i : Int) < (n : Int) := by omega
          have HLT := Lib.hid hlt
          have q6 : (s : Int) ≤ 1000 := by have := HSC.out.2.2; omega
          clear hlt hi
          go_wp2_with fail
          go_roundw
          case rel =>
            refine ⟨j + 1, i + s, by go_num, by have := HSM.out; congr 1; omega, by have := HLT.out; omega, Lib.hid ?_, trivial⟩
            have h1 := HJ.out
            rw [cntN_step (by have := HSC.out.2.1; omega) (show 0 < n - i by have := HLT.out; omega)] at h1
            rw [show n - (i + s) = n - i - s by omega]
            omega
          case measure =>
            have h1 := HSM.out
            have h2 := HLT.out
            have h3 := HSC.out.2.1
            have e : ((i : Int) + min (b : Int) 1000).toNat = i + s := by omega
            show n - ((i : Int) + min (b : Int) 1000).toNat < n - (i : Int).toNat
            rw [e]
            omega
        · have q5 : ¬ (i : Int) < (n : Int) := by omega
          have hjk : j = kn := by
            have h1 := HJ.out
            rw [show n - i = 0 by omega, cntN_zero _ (by have := HSC.out.2.1; omega)] at h1
            omega
          clear hlt hi HJ
          rw [hjk]
          clear hjk q3 q4
          go_upto_region 13 with fail
          clear q5
          have HM0 : Hid (0 + mcnt kn f kn = mcnt kn f kn) := Lib.hid (by omega)
          go_loopw [12, 14] (fun v12 v14 wq => ∃ m k fu : Nat, v12 = .int .i64 m ∧ v14 = .int .i64 k ∧ k ≤ kn ∧ Hid (k ≤ fu) ∧ Hid (m + mcnt fu f k = mcnt kn f kn ∧ m + k ≤ kn) ∧ wq = wr) (fun _ v14 _ => (intOf v14).toNat)
          case atStart => exact ⟨0, kn, kn, rfl, rfl, Nat.le_refl _, Lib.hid (Nat.le_refl _), Lib.hid ⟨HM0.out, by omega⟩, rfl⟩
          case round =>
            clear HM0
            obtain ⟨m, k, fu, rfl, rfl, hk, HFU, HMK, rfl⟩ := hrel
            have q3 : (k : Int) ≤ 200 := by omega
            have q4 : (m : Int) ≤ 200 := by have := HMK.out.2; omega
            by_cases hgt : f < k
            · have q5 : (f : Int) < (k : Int) := by omega
              have HGT := Lib.hid hgt
              clear hgt
              go_wp2_with fail
              go_roundw
              case rel =>
                have h1 := HGT.out
                have h2 := HB2.out.2
                have h3 := HFU.out
                have h4 := HMK.out
                refine ⟨m + 1, k - f + 1, fu - 1, by go_num, by congr 1; omega, by omega, Lib.hid (by omega), Lib.hid ⟨?_, by omega⟩, trivial⟩
                obtain ⟨g, rfl⟩ : ∃ g, fu = g + 1 := ⟨fu - 1, by omega⟩
                rw [mcnt, if_pos h1] at h4
                have h5 := h4.1
                rw [show g + 1 - 1 = g by omega]
                omega
              case measure =>
                have h1 := HGT.out
                have h2 := HB2.out.2
                show ((k : Int) - (f : Int) + 1).toNat < (k : Int).toNat
                omega
            · have q5 : ¬ (f : Int) < (k : Int) := by omega
              have HME : Hid (m = mcnt kn f kn) := Lib.hid (by have h1 := HMK.out.1; rw [mcnt_end hgt] at h1; omega)
              clear hgt hk HMK HFU
              go_upto_region 18 with fail
              clear q5
              go_loopw [15, 16] (fun v15 v16 wz => ∃ x y : Nat, v15 = .int .i64 x ∧ v16 = .int .i64 y ∧ Hid ((x = 0 ∧ y = 0) ∨ (x = 1 ∧ y = 1 ∧ 0 < n)) ∧ wz = wr) (fun _ v16 _ => 1 - (intOf v16).toNat)
              case atStart => exact ⟨0, 0, rfl, rfl, Lib.hid (.inl ⟨rfl, rfl⟩), rfl⟩
              case round =>
                obtain ⟨x, y, rfl, rfl, HXY, rfl⟩ := hrel
                by_cases hin : y = 0 ∧ 0 < n
                · obtain ⟨rfl, hn0⟩ := hin
                  have q8 : decide ((0 : Int) < (n : Int)) = true := decide_eq_true (by omega)
                  have HN0 := Lib.hid hn0
                  clear hn0
                  go_wp2_with fail
                  go_roundw
                  case rel => exact ⟨1, 1, rfl, rfl, Lib.hid (.inr ⟨rfl, rfl, HN0.out⟩), trivial⟩
                  case measure => simp [intOf]
                · have hx : (x : Int) ≤ pk := by
                    obtain ⟨p1, p2, p3, p4⟩ := HZ.out.2.2.2.2.2.2.2.2
                    rcases HXY.out with ⟨h1, h2⟩ | ⟨h1, h2, h3⟩
                    · omega
                    · have := p4 h3
                      omega
                  have hxy : decide (y < n) = false ∨ (decide (y < n) = true ∧ decide ((y : Int) < 1) = false) := by
                    rcases HXY.out with ⟨h1, h2⟩ | ⟨h1, h2, h3⟩
                    · left; simp only [decide_eq_false_iff_not]; omega
                    · simp only [decide_eq_true_eq, decide_eq_false_iff_not]; omega
                  have hx0 : (0 : Int) ≤ (x : Int) := by omega
                  have HXP := Lib.hid hx
                  clear hin hx HXY
                  rcases hxy with q8 | ⟨q8, q9⟩
                  all_goals
                    go_upto_region 21 with fail
                    clear q8
                    go_wp2_with fail
                    refine (St.ans17 HS6.out).mono ?_
                    rintro e w7 ⟨rfl, hs7⟩
                    have HS7 := Lib.hid hs7
                    clear hs7
                    go_wp2_with fail
                    refine (ref_sorted w7 a n c L HN.out.symm (HI.out.rd.keep HS7.out.keep) (by have := HI.out.few; have := HN.out; omega)).mono ?_
                    rintro e w8 ⟨A8, c8, rfl, hs8⟩
                    have HS8 := Lib.hid (HS7.out.lift hs8)
                    clear hs8 HS7
                    go_wp2_with fail
                    have e6 : (srt ltX X).map Prod.fst = srt ltI L := by rw [srt_items, HI.out.fst]
                    have l6 : (srt ltX X).length = n := by
                      have := congrArg List.length e6
                      rw [List.length_map, srt_len swoI, ← HN.out] at this
                      exact this
                    have hkz : Z.map keyX = (srt ltX X).map keyX := by rw [HZ.out.1, srt_keys]
                    have hzl : Z.length = n := by
                      have := congrArg List.length hkz
                      rw [List.length_map, List.length_map, l6] at this
                      exact this
                    refine (ref_sameall w8 A5 A8 zn n c5 c8 Z (srt ltX X) HZ.out.2.2.1.symm l6 hkz ((HS8.out.mv 2 (by simp)).own_it) (by rw [e6]; exact HS8.out.own_it) (fun x hx => (HS8.out.mv 3 (by simp)).out_dat HZ.out.2.1 x hx) (fun x hx => (HI.out.dat x ((srt_perm (lt := ltX) X).mem_iff.1 hx)).keep HS8.out.keep) (by rw [HZ.out.2.2.1, hzl]; have := HI.out.few; have := HN.out; omega)).mono ?_
                    rintro e w9 ⟨rfl, hk9⟩
                    have hs9 := HS8.out.later hk9
                    have hb9 := (hs9.mv 1 (by simp)).blk.1
                    have g0 : w9.cell? ⟨b9, 0, none⟩ = some (.int .i64 pk) := hb9.cell 0
                    have g1 : w9.cell? ⟨b9, 1, none⟩ = some (.int .i64 rn) := hb9.cell 1
                    have g2 : w9.cell? ⟨b9, 2, none⟩ = some (.int .i64 mg) := hb9.cell 2
                    have HS9 := Lib.hid (hs9.mv 4 (by simp))
                    obtain ⟨z1, z2, z3, z4, z5, z6, z7, z8, p1, p2, p3, p4⟩ := HZ.out
                    have hn200 : (n : Int) ≤ 200 := q0
                    have v1 : (rn == (kn : Int)) = true := by rw [z6]; simp
                    have v2 : (mg == (m : Int)) = true := by rw [z7, HME.out]; simp
                    have v3 : decide ((x : Int) ≤ pk) = true := decide_eq_true HXP.out
                    have v4 : decide (pk ≤ 200) = true := decide_eq_true (by omega)
                    have v5 : decide (pk ≤ (n : Int)) = true := decide_eq_true p3
                    have v6 : (T.used == 0) = true := by rw [z4]; rfl
                    have v7 : decide (T.peak ≤ 2 * ((sumK (X.map keyX) : Nat) : Int)) = true := decide_eq_true z5
                    have v8 : ((sumK (X.map keyX) : Nat) : Int) ≤ 103200 := by have := HI.out.sum; omega
                    clear e6 l6 hkz hzl hk9 hs9 hb9 HS8 z1 z2 z3 z4 z5 z6 z7 z8 p1 p2 p3 p4
                    go_wp2_with fail
                    refine (St.store_used HS9.out).mono ?_
                    rintro e w10 ⟨rfl, rfl⟩
                    go_wp2_with fail
                    refine (St.store_peak HS9.out).mono ?_
                    rintro e w10 ⟨rfl, rfl⟩
                    go_wp2_with fail
                    refine (St.bytes17 HS9.out a n c X (by rw [HN.out, HI.out.len]) (fun u hu => ⟨by rw [HI.out.fst]; exact HI.out.rd.keep hu.keep, fun x hx => (HI.out.dat x hx).keep hu.keep⟩) HU.out.2 (by have := HI.out.len; have := HI.out.few; omega) HI.out.sum).mono ?_
                    rintro e w10 ⟨rfl, hs10⟩
                    have HK := Lib.hid hs10.keep
                    clear hs10 HS9
                    go_wp2_with fail
                    go_ret
                    exact ⟨rfl, HK.out⟩
set_option maxRecDepth 100000 in
set_option maxHeartbeats 4000000 in
theorem sortSorts_big (w : World) (a : Option Addr) (c : Nat) (L : List It) (bud fan : Int) (hr : RdI w a L) (hx : ∀ x ∈ L, ItOk w x) (hl : L.length ≤ 4611686018427387904) (hs : ¬ (L.length ≤ 200 ∧ wsum L ≤ 100000)) :
    Calls Try.prog 3 #[.slice a L.length c, .int .i64 bud, .int .i64 fan] w fun e w' => e = .returned (.bool true) ∧ Keep (fun b => w.heap.size ≤ b) w w' := by
  have HO := Lib.hid (And.intro hr (And.intro hx (And.intro hl hs)))
  obtain ⟨n, hn⟩ : ∃ n, n = L.length := ⟨_, rfl⟩
  have HN := Lib.hid hn
  rw [← hn]
  clear hr hx hl hs hn
  go_enter Try.func3, Try.ntmps3
  go_wp2_with fail
  refine (St.light17 (St.start w) a n c L false HN.out HO.out.1 HO.out.2.2.1 (fun x hx => (HO.out.2.1 x hx).small2) (decide_eq_false HO.out.2.2.2)).mono ?_
  rintro e w1 ⟨rfl, hs1⟩
  have HS1 := Lib.hid hs1
  clear hs1
  go_wp2_with fail
  refine (St.ans17 HS1.out).mono ?_
  rintro e w3 ⟨rfl, hs3⟩
  have HS3 := Lib.hid hs3
  clear hs3 HS1
  go_wp2_with fail
  go_ret
  exact ⟨rfl, HS3.out.keep⟩
theorem sortSorts_walk (w : World) (a : Option Addr) (n c : Nat) (L : List It) (hn : n = L.length) (_ : n ≤ c) (hc : c ≤ 2932031007402) (hr : RdI w a L) (_ : a = none → L = [] ∧ c = 0) (hx : ∀ x ∈ L, ItOk w x) (z : Int) (hz : IntKind.i64.min ≤ z ∧ z ≤ IntKind.i64.max) (y : Int) (hy : IntKind.i64.min ≤ y ∧ y ≤ IntKind.i64.max) :
    Calls Try.prog 3 #[.slice a n c, .int .i64 z, .int .i64 y] w fun e w' => e = .returned (.bool true) ∧ Below w.heap.size w w' := by
  subst hn
  by_cases h : L.length ≤ 200 ∧ wsum L ≤ 100000
  · exact (sortSorts_small w a c L z y hz hy hr hx h).mono fun _ _ ⟨h1, h2⟩ => ⟨h1, h2.below (Nat.le_refl _) (fun _ _ h => h)⟩
  · exact (sortSorts_big w a c L z y hr hx (by omega) h).mono fun _ _ ⟨h1, h2⟩ => ⟨h1, h2.below (Nat.le_refl _) (fun _ _ h => h)⟩
end Go.Proofs.Ytkglkpcpgdeneaa
