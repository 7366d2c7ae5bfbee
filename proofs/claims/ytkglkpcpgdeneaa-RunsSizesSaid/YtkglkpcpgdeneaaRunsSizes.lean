/- RunsSizes. Conditions: none. -/
import Derived.Test.YtkglkpcpgdeneaaChunkP
namespace Go.Proofs.Ytkglkpcpgdeneaa
open Go.RowKit
set_option linter.unusedVariables false
set_option linter.unusedSimpArgs false

theorem cntC_take {C : List (List K3i)} {i : Nat} {D : List K3i} (h : C[i]? = some D) : cntC (C.take (i + 1)) = cntC (C.take i) + D.length := by
  obtain ⟨hi, rfl⟩ := List.getElem?_eq_some_iff.1 h
  rw [List.take_succ_eq_append_getElem hi, cntC_app, cntC_one]
theorem totC_mem {D : List K3i} : ∀ {C : List (List K3i)}, D ∈ C → sumK D ≤ totC C
  | c :: r, h => by
    have e : totC (c :: r) = sumK c + totC r := by simp [totC]
    rw [e]
    rcases List.mem_cons.1 h with rfl | h
    · omega
    · have := totC_mem h
      omega
set_option maxRecDepth 100000 in
set_option maxHeartbeats 16000000 in
theorem runsSizes_small (w : World) (a : Option Addr) (c : Nat) (L : List It) (zb : Nat) (hzb : zb ≤ 255) (hr : RdI w a L) (hx : ∀ x ∈ L, ItOk w x) (hl : L.length ≤ 200) (hs : wsum L ≤ 100000) :
    Calls Try.prog 7 #[.slice a L.length c, .int .u8 zb] w fun e w' => e = .returned (.bool true) ∧ Keep (fun b => w.heap.size ≤ b) w w' := by
  obtain ⟨X, hX⟩ : ∃ X, X = xsI w L := ⟨_, rfl⟩
  have hXf : X.map Prod.fst = L := by rw [hX]; exact xsI_fst w L
  have hXn : X.length = L.length := by rw [hX]; exact xsI_len w L
  have hXd := xsI_dat hx
  rw [← hX] at hXd
  obtain ⟨K, hK⟩ : ∃ K, K = X.map keyX := ⟨_, rfl⟩
  have hKn : K.length = X.length := by rw [hK, List.length_map]
  have hKs : sumK K ≤ 103200 := by
    rw [hK, sumK_wsum X (fun x hx' => (hXd x hx').1.1), hXf, hXn]
    omega
  have HX := Lib.hid (And.intro hXf (And.intro hXn (And.intro hXd (And.intro hK (And.intro hKn hKs)))))
  have HR := Lib.hid hr
  have HO := Lib.hid hx
  have HL := Lib.hid (And.intro hl hs)
  obtain ⟨n, hn⟩ : ∃ n, n = L.length := ⟨_, rfl⟩
  have HN := Lib.hid hn
  have q0 : (n : Int) ≤ 200 := by omega
  rw [← hn]
  obtain ⟨r, hrr⟩ : ∃ r, r = zb % 20 := ⟨_, rfl⟩
  obtain ⟨k, hk⟩ : ∃ k, k = r + 1 := ⟨_, rfl⟩
  have t1 : (zb : Int).tmod 20 = (r : Int) := by rw [hrr]; rfl
  have t2 : (zb : Int) % 20 = (r : Int) := by rw [hrr]; rfl
  have t3 : IntKind.u8.wrap (r : Int) = (r : Int) := by rw [IntKind.wrap_u8]; omega
  have t4 : IntKind.i64.wrap ((r : Int) + 1) = (k : Int) := by rw [IntWalk.i64_in _ (by omega)]; omega
  have t5 : (r : Int) + 1 = (k : Int) := by omega
  have q1 : (zb : Int) ≤ 255 := by omega
  have q2 : (r : Int) < 20 := by omega
  have q3 : (k : Int) ≤ 20 := by omega
  have q4 : (1 : Int) ≤ (k : Int) := by omega
  have HK : Hid (1 ≤ k ∧ k ≤ 20) := Lib.hid (by omega)
  clear hr hx hl hs hX hXf hXn hXd hK hKn hKs hn hrr hk hzb
  go_enter Try.func7, Try.ntmps7
  go_wp2_with fail
  refine (St.light16 (St.start w) a n c L true HN.out HR.out (by have := HL.out.1; omega) (fun x hx => (HO.out x hx).small2) (decide_eq_true HL.out)).mono ?_
  rintro e w1 ⟨rfl, hs1⟩
  have HS1 := Lib.hid hs1
  clear hs1
  go_wp2_with fail
  clear t1 t2 t3 t4 t5 q1 q2
  go_loopw [6] (fun v6 wr => ∃ i : Nat, i ≤ n ∧ v6 = .int .i64 i ∧ Hid (∀ x ∈ K.take i, mayK x = true) ∧ Hid (St w wr [])) (fun v6 _ => n - (intOf v6).toNat)
  case atStart => exact ⟨0, Nat.zero_le _, rfl, Lib.hid (fun x hx => by simp at hx), HS1⟩
  case round =>
    clear HS1
    obtain ⟨i, hi, rfl, HM, HS⟩ := hrel
    by_cases hlt : i < n
    · have hiX : i < X.length := by have := HX.out.2.1; have := HN.out; omega
      obtain ⟨x, hx⟩ : ∃ x, X[i]? = some x := ⟨_, List.getElem?_eq_getElem hiX⟩
      have hki : K[i]? = some (keyX x) := by rw [HX.out.2.2.2.1, List.getElem?_map, hx]; rfl
      have htk : K.take (i + 1) = K.take i ++ [keyX x] := by
        obtain ⟨h1, h2⟩ := List.getElem?_eq_some_iff.1 hki
        rw [List.take_succ_eq_append_getElem h1, h2]
      rcases HR.out with ⟨_, h0⟩ | ⟨ba, o, hA, hc⟩
      · have h1 := HN.out; rw [h0] at h1; simp at h1; omega
      subst hA
      have hcl := St.itemAt hc i x.1 (by rw [← HX.out.1, List.getElem?_map, hx]; rfl)
      have d0 := old_cell hcl.1 HS.out.keep
      have d1 := old_cell hcl.2.1 HS.out.keep
      have d2 := old_cell hcl.2.2 HS.out.keep
      have HD := Lib.hid (And.intro (HX.out.2.2.1 x (List.mem_of_getElem? hx)) (And.intro hki (And.intro htk hlt)))
      have q1 : (i : Int) < (n : Int) := by omega
      clear hc hx hki htk hlt hiX hcl
      obtain ⟨⟨k2, s, A1, n1, c1⟩, d⟩ := x
      go_wp2_with fail
      refine (St.may13 HS.out ⟨k2, s, A1, n1, c1⟩ (mayI k2 s n1) rfl).mono ?_
      rintro e w4 ⟨rfl, hs4⟩
      have HS4 := Lib.hid hs4
      have hn1 : n1 = d.length := HD.out.1.1.1
      have HN1 := Lib.hid hn1
      clear hs4 HS d0 d1 d2 hn1
      cases hmy : mayI k2 s n1 with
      | false =>
        clear hmy
        go_wp2_with fail
        refine (St.ans16 HS4.out).mono ?_
        rintro e w5 ⟨rfl, hs5⟩
        have HS5 := Lib.hid hs5
        clear hs5 HS4
        go_wp2_with fail
        go_ret
        exact ⟨rfl, HS5.out.keep⟩
      | true =>
        have HMY := Lib.hid hmy
        clear hmy
        go_wp2_with fail
        go_roundw
        case rel =>
          refine ⟨i + 1, HD.out.2.2.2, by go_num, Lib.hid (fun x hx => ?_), HS4⟩
          rw [HD.out.2.2.1] at hx
          rcases List.mem_append.1 hx with h | h
          · exact HM.out x h
          · rw [List.mem_singleton.1 h]
            show mayI k2 s d.length = true
            rw [← HN1.out]
            exact HMY.out
        case measure => have := HD.out.2.2.2; simp [intOf]; omega
    · have hin : i = n := by omega
      subst hin
      have hKn : K.length = i := by have := HX.out.2.2.2.2.1; have := HX.out.2.1; have := HN.out; omega
      rw [List.take_of_length_le (by omega)] at HM
      have HKN := Lib.hid hKn
      clear hlt hi hKn
      go_wp2_with fail
      refine (St.store_new HS.out 16777216 none 0 0 [] (by omega) (RdV.nil _ _) rfl (fun _ => ⟨rfl, rfl⟩) (by omega)).mono ?_
      rintro e w2 ⟨sb, rfl, hs2⟩
      have HS2 := Lib.hid hs2
      clear hs2 HS
      go_wp2_with fail
      refine (HS2.out.runs_new (k : Int) (by have := HK.out; omega)).mono ?_
      rintro e w3 ⟨fb, rfl, hs3⟩
      have HF3 : Hid (FSt w w3 [] fb sb (k : Int) (FMC [] [])) := Lib.hid ⟨[], rfl, hs3⟩
      clear hs3 HS2
      go_wp2_with fail
      have hI0 : CInv k [] [] 0 0 := ⟨(fun c hc => by cases hc), HK.out.1, (fun x hx => by cases hx), by simp, by simp [totC, sumK]⟩
      obtain ⟨C1, H1, ha1, hI1⟩ := addL_FMC k K [] [] 0 0 hI0 HM.out (by have := HX.out.2.2.2.2.2; omega) (by have := HKN.out; have := HL.out.1; have := HN.out; omega)
      have hadd := FSt.addL HF3.out a i c X (by rw [HX.out.2.1]; exact HN.out) (fun w' h => ⟨by rw [HX.out.1]; exact HR.out.keep h.keep, fun x hx => (HX.out.2.2.1 x hx).1.st h⟩) 0 0 0 ⟨by simp [FMC, idsC], by simp [FMC, sumK], by simp [FMC, SMM, cntC]⟩ (fun x hx => by cases hx) (by have := HX.out.2.1; have := HL.out.1; omega) (by rw [← HX.out.2.2.2.1]; have := HX.out.2.2.2.2.2; omega) (by omega)
      rw [← HX.out.2.2.2.1, ha1] at hadd
      refine hadd.mono ?_
      rintro e w4 ⟨rfl, hf4⟩
      have HF4 := Lib.hid hf4
      have HI1 := Lib.hid hI1
      clear hadd hf4 HF3 hI0 ha1 hI1
      go_wp2_with fail
      rw [Nat.zero_add, Nat.zero_add] at HI1
      obtain ⟨C, hsh, hE⟩ := shut_FMC HI1.out (by have := HX.out.2.2.2.2.2; omega) (by have := HKN.out; have := HL.out.1; have := HN.out; omega)
      have hCN : C.length ≤ 200 := by
        have h1 := hE.num
        have h2 := HK.out.1
        have h3 : (K.length + k - 1) / k ≤ K.length := by
          rw [Nat.div_le_iff_le_mul_add_pred (by omega)]
          have h4 : K.length ≤ k * K.length := Nat.le_mul_of_pos_left _ (by omega)
          omega
        have := HKN.out; have := HL.out.1; have := HN.out
        omega
      have hfit : (FMC C1 H1).Fit := by
        have h1 := HI1.out.cnt
        have h2 := HI1.out.tot
        have h3 := HI1.out.held
        have h4 := cnt_full k C1 (fun c hc => (HI1.out.full c hc).1)
        have h5 := HX.out.2.2.2.2.2
        have h6 := HK.out
        have h7 : C1.length ≤ k * C1.length := Nat.le_mul_of_pos_left _ (by omega)
        have := HKN.out; have := HL.out.1; have := HN.out
        refine ⟨HI1.out.may, by show H1.length ≤ _; omega, by show sumK H1 ≤ _; omega, by show ((cntC C1 : Nat) : Int) ≤ _; omega, by show (idsC C1.length).length ≤ _; rw [idsC_len]; omega⟩
      refine (FSt.close HF4.out hfit (by rw [hsh]; show (idsC C.length).length ≤ _; rw [idsC_len]; omega) (FMC C []) hsh.symm).mono ?_
      intro e w5 hc
      unfold CloseS at hc
      rw [if_pos (by rfl)] at hc
      obtain ⟨A, c2, rfl, X5, _, hf5⟩ := hc
      obtain ⟨q, hq⟩ : ∃ q, q = C.length := ⟨_, rfl⟩
      have hids : (FMC C []).ids = idsC q := by rw [hq]; rfl
      rw [hids, idsC_len] at hf5 ⊢
      have HS5 : Hid (St w w5 [storeP sb (SMM C), ownP 3 1 (.slice A q c2) q (ints (idsC q))]) := Lib.hid hf5.tail
      have dv1 : ((i : Int) + (k : Int) - 1).tdiv (k : Int) = (q : Int) := by
        have h1 := hE.num
        rw [HKN.out, ← hq] at h1
        rw [show (i : Int) + (k : Int) - 1 = ((i + k - 1 : Nat) : Int) by have := HK.out; omega, h1]
        rfl
      have dv2 : ((i : Int) + (k : Int) - 1) / (k : Int) = (q : Int) := by
        have h1 := hE.num
        rw [HKN.out, ← hq] at h1
        rw [show (i : Int) + (k : Int) - 1 = ((i + k - 1 : Nat) : Int) by have := HK.out; omega, h1]
        rfl
      have k0 : ¬ (k : Int) = 0 := by omega
      have q5 : (q : Int) ≤ 200 := by omega
      have HQ := Lib.hid (And.intro hq hCN)
      have HE := Lib.hid hE
      clear hf5 hsh hE hCN hfit hids HF4 HI1 hq
      go_wp2_with fail
      clear dv1 dv2 k0
      go_loopw [13, 14] (fun v13 v14 wr => ∃ m : Nat, m ≤ q ∧ v13 = .int .i64 (cntC (C.take m) : Nat) ∧ v14 = .int .i64 m ∧ Hid (St w wr [storeP sb (SMM C), ownP 3 1 (.slice A q c2) q (ints (idsC q))])) (fun _ v14 _ => q - (intOf v14).toNat)
      case atStart => exact ⟨0, Nat.zero_le _, rfl, rfl, HS5⟩
      case round =>
        clear HS5
        obtain ⟨m, hm, rfl, rfl, HS⟩ := hrel
        by_cases hlt : m < q
        · obtain ⟨D, hD⟩ : ∃ D, C[m]? = some D := ⟨_, List.getElem?_eq_getElem (by have := HQ.out.1; omega)⟩
          have hct := cntC_take hD
          have hcl : cntC (C.take (m + 1)) ≤ 200 := by
            have h1 : cntC (C.take (m + 1)) + cntC (C.drop (m + 1)) = cntC C := by rw [← cntC_app, List.take_append_drop]
            have h2 := HE.out.cnt
            have := HKN.out; have := HL.out.1; have := HN.out
            omega
          obtain ⟨g, hg, a0, _⟩ := (HS.out.swap).own_at m hlt
          subst hg
          rw [idsC_get q m hlt] at a0
          have hr := HE.out.run m D hD
          have HD := Lib.hid (And.intro hD (And.intro hct (And.intro hcl (And.intro hlt hr))))
          have q6 : (m : Int) < (q : Int) := by omega
          have hfm : (SMM C).find (m : Int) = some (flatK D) := SMM_find hD
          have hsd : sumK D ≤ 16777216 := by
            have h1 := totC_mem (List.mem_of_getElem? hD)
            have h2 := HE.out.tot
            have h3 := HX.out.2.2.2.2.2
            omega
          have HFM := Lib.hid (And.intro hfm hsd)
          clear hD hct hcl hlt hr hfm hsd
          go_wp2_with fail
          refine (St.cur_open HS.out (some ⟨sb, 0, none⟩) m).mono ?_
          rintro e w6 ⟨cb, rfl, hs6⟩
          obtain ⟨lb, hlb⟩ : ∃ lb, lb = w6.heap.size := ⟨_, rfl⟩
          have HS6 : Hid (St w (w6.alloc (Obj.cells #[.string ⟨#[]⟩, .int .i64 0, .slice none 0 0] 44)) [blkP cb 98 (curC (some ⟨sb, 0, none⟩) m ((offK D 0 : Nat) : Int)), storeP sb (SMM C), blkP lb 44 [.string ⟨#[]⟩, .int .i64 0, .slice none 0 0], ownP 3 1 (.slice (some ⟨g, 0, none⟩) q c2) q (ints (idsC q))]) := Lib.hid ((hs6.boxX it0 lb hlb).sel [1, 2, 0, 3] (by decide) (by simp))
          clear hs6 HS a0
          go_wp2_with fail
          rw [← hlb]
          clear hlb
          generalize w6.alloc (Obj.cells #[.string ⟨#[]⟩, .int .i64 0, .slice none 0 0] 44) = w7 at HS6 ⊢
          go_loopw [16] (fun v16 wr => ∃ (j : Nat) (y : It), j ≤ D.length ∧ v16 = .int .i64 j ∧ Hid (∀ p, j = p + 1 → ∃ x, D[p]? = some x ∧ y.k = x.1 ∧ y.s = x.2.1) ∧ Hid (St w wr [blkP cb 98 (curC (some ⟨sb, 0, none⟩) m ((offK D j : Nat) : Int)), storeP sb (SMM C), blkP lb 44 [.string y.k, .int .i64 y.s, .slice y.A y.n y.c], ownP 3 1 (.slice (some ⟨g, 0, none⟩) q c2) q (ints (idsC q))])) (fun v16 _ => D.length + 1 - (intOf v16).toNat)
          case atStart => exact ⟨0, it0, Nat.zero_le _, rfl, Lib.hid (fun p hp => by omega), HS6⟩
          case round =>
            clear HS6
            obtain ⟨j, y, hj, rfl, HY, HS⟩ := hrel
            have hDl : D.length ≤ 200 := by have h1 := HD.out.2.1; have h2 := HD.out.2.2.1; omega
            by_cases hlt : j < D.length
            · obtain ⟨x, hx⟩ : ∃ x, D[j]? = some x := ⟨_, List.getElem?_eq_getElem hlt⟩
              have hmx : mayK x = true := HD.out.2.2.2.2.1.2 x (List.mem_of_getElem? hx)
              have hor : ∀ p, j = p + 1 → lt2 x.1 x.2.1 y.k y.s = false := by
                intro p hp
                obtain ⟨x', hx', e1, e2⟩ := HY.out p hp
                have hpw := HD.out.2.2.2.2.1.1
                have h3 : p < D.length := (List.getElem?_eq_some_iff.1 hx').1
                have h4 := List.pairwise_iff_getElem.1 hpw p j h3 hlt (by omega)
                rw [(List.getElem?_eq_some_iff.1 hx').2, (List.getElem?_eq_some_iff.1 hx).2] at h4
                rw [e1, e2]
                exact h4
              have HXX := Lib.hid (And.intro hx (And.intro hmx (And.intro hor hlt)))
              have q7 : (j : Int) ≤ 200 := by omega
              clear hx hmx hor hlt hDl
              obtain ⟨xk, xs, xd⟩ := x
              go_wp2_with fail
              refine (St.cur_item HS.out HFM.out.1 rfl HXX.out.1 HXX.out.2.1 (by have := HFM.out.2; omega) xd.length rfl).mono ?_
              rintro e w8 ⟨A8, c8, rfl, hc8, hs8⟩
              dsimp only at hs8 ⊢
              obtain ⟨ob, hob⟩ : ∃ ob, ob = w8.heap.size := ⟨_, rfl⟩
              have HS9 : Hid (St w (w8.alloc (Obj.cells #[.string xk, .int .i64 xs, .slice A8 xd.length c8] 44)) (blkP ob 44 [.string xk, .int .i64 xs, .slice A8 xd.length c8] :: [blkP cb 98 (curC (some ⟨sb, 0, none⟩) m ((offK D (j + 1) : Nat) : Int)), storeP sb (SMM C), blkP lb 44 [.string y.k, .int .i64 y.s, .slice y.A y.n y.c], ownP 3 1 (.slice (some ⟨g, 0, none⟩) q c2) q (ints (idsC q))])) := Lib.hid ((hs8.boxX ⟨xk, xs, A8, xd.length, c8⟩ ob hob).sel [0, 2, 3, 4, 5] (by decide) (by simp))
              clear hs8 HS
              go_upto_region 24 with fail
              rw [← hob]
              clear hob
              generalize w8.alloc (Obj.cells #[.string xk, .int .i64 xs, .slice A8 xd.length c8] 44) = w9 at HS9 ⊢
              rcases Nat.eq_zero_or_pos j with h0 | h0
              · subst h0
                have hb := HS9.out.blk.1
                have b0 := hb.cell 0
                have b1 := hb.cell 1
                have b2 := hb.cell 2
                have hl := (HS9.out.mv 3 (by simp)).blk.1
                have l0 := hl.cell 0
                have l1 := hl.cell 1
                have l2 := hl.cell 2
                have f0 := hl.free 0
                have f1 := hl.free 1
                have f2 := hl.free 2
                simp only [List.getElem_cons_zero, List.getElem_cons_succ, List.getElem?_cons_zero, List.getElem?_cons_succ] at b0 b1 b2 l0 l1 l2
                have hs10 := (((HS9.out.mv 3 (by simp)).set 0 (.string xk)).set 1 (.int .i64 xs)).set 2 (.slice A8 xd.length c8)
                simp only [List.getElem_cons_zero, List.getElem_cons_succ, List.set_cons_zero, List.set_cons_succ] at hs10
                have HS10 : Hid (St w (((w9.setCell ⟨lb, 0, none⟩ (.string xk)).setCell ⟨lb, 1, none⟩ (.int .i64 xs)).setCell ⟨lb, 2, none⟩ (.slice A8 xd.length c8)) [blkP cb 98 (curC (some ⟨sb, 0, none⟩) m ((offK D (0 + 1) : Nat) : Int)), storeP sb (SMM C), blkP lb 44 [.string (⟨xk, xs, A8, xd.length, c8⟩ : It).k, .int .i64 (⟨xk, xs, A8, xd.length, c8⟩ : It).s, .slice (⟨xk, xs, A8, xd.length, c8⟩ : It).A (⟨xk, xs, A8, xd.length, c8⟩ : It).n (⟨xk, xs, A8, xd.length, c8⟩ : It).c], ownP 3 1 (.slice (some ⟨g, 0, none⟩) q c2) q (ints (idsC q))]) := Lib.hid (hs10.sel [2, 3, 0, 4] (by decide) (by simp))
                clear hb hl hs10
                go_wp2_with fail
                go_roundw
                case rel => exact ⟨1, ⟨xk, xs, A8, xd.length, c8⟩, HXX.out.2.2.2, rfl, Lib.hid (fun p hp => ⟨(xk, xs, xd), by rw [show p = 0 by omega]; exact HXX.out.1, rfl, rfl⟩), HS10⟩
                case measure => have := HXX.out.2.2.2; (simp [intOf] <;> omega)
              · obtain ⟨p, hp⟩ : ∃ p, j = p + 1 := ⟨j - 1, by omega⟩
                have q8 : (0 : Int) < (j : Int) := by omega
                have HP := Lib.hid hp
                clear hp h0
                have hb := HS9.out.blk.1
                have b0 := hb.cell 0
                have b1 := hb.cell 1
                have b2 := hb.cell 2
                have hl := (HS9.out.mv 3 (by simp)).blk.1
                have l0 := hl.cell 0
                have l1 := hl.cell 1
                have l2 := hl.cell 2
                simp only [List.getElem_cons_zero, List.getElem_cons_succ, List.getElem?_cons_zero, List.getElem?_cons_succ] at b0 b1 b2 l0 l1 l2
                clear hb hl
                go_wp2_with fail
                refine (St.ref_less HS9.out ⟨xk, xs, A8, xd.length, c8⟩ y false (HXX.out.2.2.1 p HP.out)).mono ?_
                rintro e w10 ⟨rfl, hs11⟩
                have HS9 := Lib.hid hs11
                clear hs11 b0 b1 b2 l0 l1 l2
                have hb := HS9.out.blk.1
                have b0 := hb.cell 0
                have b1 := hb.cell 1
                have b2 := hb.cell 2
                have hl := (HS9.out.mv 3 (by simp)).blk.1
                have l0 := hl.cell 0
                have l1 := hl.cell 1
                have l2 := hl.cell 2
                have f0 := hl.free 0
                have f1 := hl.free 1
                have f2 := hl.free 2
                simp only [List.getElem_cons_zero, List.getElem_cons_succ, List.getElem?_cons_zero, List.getElem?_cons_succ] at b0 b1 b2 l0 l1 l2
                have hs10 := (((HS9.out.mv 3 (by simp)).set 0 (.string xk)).set 1 (.int .i64 xs)).set 2 (.slice A8 xd.length c8)
                simp only [List.getElem_cons_zero, List.getElem_cons_succ, List.set_cons_zero, List.set_cons_succ] at hs10
                have HS10 : Hid (St w (((w10.setCell ⟨lb, 0, none⟩ (.string xk)).setCell ⟨lb, 1, none⟩ (.int .i64 xs)).setCell ⟨lb, 2, none⟩ (.slice A8 xd.length c8)) [blkP cb 98 (curC (some ⟨sb, 0, none⟩) m ((offK D (j + 1) : Nat) : Int)), storeP sb (SMM C), blkP lb 44 [.string (⟨xk, xs, A8, xd.length, c8⟩ : It).k, .int .i64 (⟨xk, xs, A8, xd.length, c8⟩ : It).s, .slice (⟨xk, xs, A8, xd.length, c8⟩ : It).A (⟨xk, xs, A8, xd.length, c8⟩ : It).n (⟨xk, xs, A8, xd.length, c8⟩ : It).c], ownP 3 1 (.slice (some ⟨g, 0, none⟩) q c2) q (ints (idsC q))]) := Lib.hid (hs10.sel [2, 3, 0, 4] (by decide) (by simp))
                clear hb hl hs10
                go_wp2_with fail
                go_roundw
                case rel => exact ⟨j + 1, ⟨xk, xs, A8, xd.length, c8⟩, HXX.out.2.2.2, by go_num, Lib.hid (fun p' hp' => ⟨(xk, xs, xd), by rw [show p' = j by omega]; exact HXX.out.1, rfl, rfl⟩), HS10⟩
                case measure => have := HXX.out.2.2.2; simp [intOf]; omega
            · have hjD : j = D.length := by omega
              subst hjD
              have HDL := Lib.hid hDl
              have HS2 := HS
              clear hlt hj hDl
              go_wp2_with fail
              refine (St.cur_stop HS.out (atl_end HFM.out.1) (fun bs hb => ?_) (fun bs hb => ?_) (by have := offK_le D D.length; have := HFM.out.2; omega)).mono ?_
              · rw [HFM.out.1] at hb; obtain rfl := Option.some.inj hb; rw [flatK_len]; exact offK_le D D.length
              · rw [HFM.out.1] at hb; obtain rfl := Option.some.inj hb; rw [flatK_len]; have := HFM.out.2; omega
              rintro e w8 ⟨rfl, hs8⟩
              have HS8 : Hid (St w (w8.alloc (Obj.cells #[.string ⟨#[]⟩, .int .i64 0, .slice none 0 0] 44)) [storeP sb (SMM C), ownP 3 1 (.slice (some ⟨g, 0, none⟩) q c2) q (ints (idsC q))]) := Lib.hid ((hs8.alloc _).sel [1, 3] (by decide) (by simp))
              clear hs8 HS HS2
              have q9 : (D.length : Int) ≤ (k : Int) := by have := HD.out.2.2.2.2.2.2.1; omega
              have q10 : ¬ (D.length : Int) = 0 := by have := HD.out.2.2.2.2.2.1; omega
              have e1 : IntKind.i64.wrap ((q : Int) - 1) = (q : Int) - 1 := IntWalk.i64_in _ (by omega)
              have hct := HD.out.2.1
              have q11 : ((cntC (C.take m) : Nat) : Int) + (D.length : Int) = ((cntC (C.take (m + 1)) : Nat) : Int) := by omega
              have q12 : ((cntC (C.take (m + 1)) : Nat) : Int) ≤ 200 := by have := HD.out.2.2.1; omega
              have HLT := Lib.hid HD.out.2.2.2.1
              have HFU := Lib.hid HD.out.2.2.2.2.2.2.2
              clear hct
              generalize cntC (C.take m) = t0 at q11 ⊢
              generalize hd9 : D.length = dl at q9 q10 q11 HFU ⊢
              clear hd9
              have e2 : IntKind.i64.wrap ((t0 : Int) + (dl : Int)) = ((cntC (C.take (m + 1)) : Nat) : Int) := by rw [q11]; exact IntWalk.i64_in _ (by omega)
              by_cases hlast : m + 1 < q
              · have hdk : dl = k := HFU.out (by rw [← HQ.out.1]; exact hlast)
                subst hdk
                have q13 : (m : Int) < (q : Int) - 1 := by omega
                clear hlast HFU
                go_wp2_with fail
                go_roundw
                case rel => exact ⟨m + 1, HLT.out, rfl, by go_num, HS8⟩
                case measure => have := HLT.out; simp [intOf]; omega
              · have q13 : ¬ (m : Int) < (q : Int) - 1 := by omega
                clear hlast HFU
                have q14 : ¬ ((k : Int) < (dl : Int)) := by omega
                have q15 : decide ((k : Int) < (dl : Int)) = false := decide_eq_false q14
                have q16 : decide (k < dl) = false := decide_eq_false (by omega)
                have q17 : ((dl : Int) == 0) = false := by simpa using q10
                have q18 : decide ((m : Int) < (q : Int) - 1) = false := decide_eq_false q13
                go_wp2_with fail
                go_roundw
                case rel => exact ⟨m + 1, HLT.out, rfl, by go_num, HS8⟩
                case measure => have := HLT.out; simp [intOf]; omega
        · have hmq : m = q := by omega
          subst hmq
          have hct : cntC (C.take m) = i := by
            rw [List.take_of_length_le (by have := HQ.out.1; omega), HE.out.cnt]
            exact HKN.out
          have hwr : ((SMM C).writes : Int) = (i : Int) := by
            show ((cntC C : Nat) : Int) = _
            rw [HE.out.cnt, HKN.out]
          rw [hct]
          have HWR := Lib.hid hwr
          clear hlt hm hct hwr
          go_wp2_with fail
          refine (St.ans16 HS.out).mono ?_
          rintro e w6 ⟨rfl, hs6⟩
          have HS6 := Lib.hid hs6
          clear hs6 HS
          go_wp2_with fail
          refine (St.store_writes HS6.out).mono ?_
          rintro e w7 ⟨rfl, rfl⟩
          rw [HWR.out]
          go_wp2_with fail
          go_ret
          exact ⟨rfl, HS6.out.keep⟩
theorem runsSizes_big (w : World) (a : Option Addr) (c : Nat) (L : List It) (zb : Nat) (hzb : zb ≤ 255) (hr : RdI w a L) (hx : ∀ x ∈ L, ItOk w x) (hl : L.length ≤ 4611686018427387904) (hs : ¬ (L.length ≤ 200 ∧ wsum L ≤ 100000)) :
    Calls Try.prog 7 #[.slice a L.length c, .int .u8 zb] w fun e w' => e = .returned (.bool true) ∧ Keep (fun b => w.heap.size ≤ b) w w' := by
  have HR := Lib.hid hr
  have HX := Lib.hid hx
  have HL := Lib.hid hl
  have HN := Lib.hid hs
  obtain ⟨r, hrr⟩ : ∃ r, r = zb % 20 := ⟨_, rfl⟩
  have t1 : (zb : Int).tmod 20 = (r : Int) := by rw [hrr]; rfl
  have t2 : (zb : Int) % 20 = (r : Int) := by rw [hrr]; rfl
  have t3 : IntKind.u8.wrap (r : Int) = (r : Int) := by rw [IntKind.wrap_u8]; omega
  have q1 : (zb : Int) ≤ 255 := by omega
  have q2 : (r : Int) < 20 := by omega
  clear hr hx hl hs hzb hrr
  go_enter Try.func7, Try.ntmps7
  go_wp2_with fail
  refine (St.light16 (St.start w) a L.length c L false rfl HR.out HL.out (fun x hx => (HX.out x hx).small2) (decide_eq_false HN.out)).mono ?_
  rintro e w1 ⟨rfl, hs1⟩
  have HS1 := Lib.hid hs1
  clear hs1
  go_wp2_with fail
  refine (St.ans16 HS1.out).mono ?_
  rintro e w10 ⟨rfl, hs10⟩
  have HS10 := Lib.hid hs10
  clear hs10 HS1
  go_wp2_with fail
  go_ret
  exact ⟨rfl, HS10.out.keep⟩
theorem runsSizes_walk (w : World) (a : Option Addr) (n c : Nat) (L : List It) (hn : n = L.length) (_ : n ≤ c) (hc : c ≤ 2932031007402) (hr : RdI w a L) (_ : a = none → L = [] ∧ c = 0) (hx : ∀ x ∈ L, ItOk w x) (z : Int) (hz : IntKind.u8.min ≤ z ∧ z ≤ IntKind.u8.max) :
    Calls Try.prog 7 #[.slice a n c, .int .u8 z] w fun e w' => e = .returned (.bool true) ∧ Below w.heap.size w w' := by
  subst hn
  have e1 : IntKind.u8.min = 0 := rfl
  have e2 : IntKind.u8.max = 255 := rfl
  obtain ⟨zb, rfl⟩ := Int.eq_ofNat_of_zero_le (show 0 ≤ z by omega)
  by_cases h : L.length ≤ 200 ∧ wsum L ≤ 100000
  · exact (runsSizes_small w a c L zb (by omega) hr hx h.1 h.2).mono fun _ _ ⟨h1, h2⟩ => ⟨h1, h2.below (Nat.le_refl _) (fun _ _ h => h)⟩
  · exact (runsSizes_big w a c L zb (by omega) hr hx (by omega) h).mono fun _ _ ⟨h1, h2⟩ => ⟨h1, h2.below (Nat.le_refl _) (fun _ _ h => h)⟩
end Go.Proofs.Ytkglkpcpgdeneaa
