/- RunsRead. Conditions: none. -/
import Derived.Test.YtkglkpcpgdeneaaLaw16S
namespace Go.Proofs.Ytkglkpcpgdeneaa
open Go.RowKit
set_option linter.unusedVariables false
set_option linter.unusedSimpArgs false

/-- The store that has one run of these items. -/
def SR (K : List K3i) : StoreM := ⟨16777216, 1, (sumK K : Nat), (sumK K : Nat), (K.length : Nat), [], [(0, flatK K)]⟩
theorem SR_nil : (StoreM.made 16777216 []).create = SR [] := rfl
theorem SR_find (K : List K3i) : (SR K).find 0 = some (flatK K) := rfl
theorem SR_app (K : List K3i) (x : K3i) (h : sumK K + lenK x ≤ 16777216) : (SR K).appendE 0 (encK x) = 0 ∧ (SR K).append 0 (encK x) = SR (K ++ [x]) := by
  have h1 : ¬ ((encK x).length : Int) > 16777216 - ((sumK K : Nat) : Int) := by rw [encK_len]; omega
  constructor
  · unfold StoreM.appendE
    rw [SR_find]
    show (if ((K.length : Nat) : Int) ∈ ([] : List Int) then 13 else if ((encK x).length : Int) > 16777216 - ((sumK K : Nat) : Int) then 12 else (0 : Int)) = 0
    rw [if_neg (by simp), if_neg h1]
  · unfold StoreM.append
    rw [SR_find]
    show (if ((K.length : Nat) : Int) ∈ ([] : List Int) then _ else if ((encK x).length : Int) > 16777216 - ((sumK K : Nat) : Int) then _ else (SR K).add 0 (encK x)) = _
    rw [if_neg (by simp), if_neg h1]
    unfold StoreM.add SR
    have e1 : sumK (K ++ [x]) = sumK K + lenK x := by rw [sumK_app]; simp [sumK]
    simp only [List.map_cons, List.map_nil, encK_len, e1, List.length_append, List.length_singleton, flatK_app, flatK_one, beq_self_eq_true, if_true]
    congr 1 <;> omega
set_option maxRecDepth 100000 in
set_option maxHeartbeats 16000000 in
theorem runsRead_small (w : World) (a : Option Addr) (c : Nat) (L : List It) (hr : RdI w a L) (hx : ∀ x ∈ L, ItOk w x) (hl : L.length ≤ 200) (hs : wsum L ≤ 100000) :
    Calls Try.prog 5 #[.slice a L.length c] w fun e w' => e = .returned (.bool true) ∧ Keep (fun b => w.heap.size ≤ b) w w' := by
  obtain ⟨X, hX⟩ : ∃ X, X = xsI w L := ⟨_, rfl⟩
  have hXf : X.map Prod.fst = L := by rw [hX]; exact xsI_fst w L
  have hXn : X.length = L.length := by rw [hX]; exact xsI_len w L
  have hXd := xsI_dat hx
  rw [← hX] at hXd
  obtain ⟨K, hK⟩ : ∃ K, K = X.map keyX := ⟨_, rfl⟩
  have hKn : K.length = X.length := by rw [hK, List.length_map]
  have hKs : sumK K ≤ 103200 := by
    rw [hK, sumK_wsum X (fun x hx' => (hXd x hx').1.1), hXf, hXn]
    omega
  have HX := Lib.hid (And.intro hXf (And.intro hXn (And.intro hXd (And.intro hK (And.intro hKn hKs)))))
  have HR := Lib.hid hr
  have HO := Lib.hid hx
  have HL := Lib.hid (And.intro hl hs)
  obtain ⟨n, hn⟩ : ∃ n, n = L.length := ⟨_, rfl⟩
  have HN := Lib.hid hn
  have q0 : (n : Int) ≤ 200 := by omega
  rw [← hn]
  clear hr hx hl hs hX hXf hXn hXd hK hKn hKs hn
  go_enter Try.func5, Try.ntmps5
  go_wp2_with fail
  refine (St.light16 (St.start w) a n c L true HN.out HR.out (by have := HL.out.1; omega) (fun x hx => (HO.out x hx).small2) (decide_eq_true HL.out)).mono ?_
  rintro e w1 ⟨rfl, hs1⟩
  have HS1 := Lib.hid hs1
  clear hs1
  go_wp2_with fail
  refine (St.store_new HS1.out 16777216 none 0 0 [] (by omega) (RdV.nil _ _) rfl (fun _ => ⟨rfl, rfl⟩) (by omega)).mono ?_
  rintro e w2 ⟨sb, rfl, hs2⟩
  have HS2 := Lib.hid hs2
  clear hs2 HS1
  go_wp2_with fail
  refine (St.store_create HS2.out (by decide)).mono ?_
  rintro e w3 ⟨rfl, hs3⟩
  rw [SR_nil] at hs3
  have HS3 : Hid (St w w3 [storeP sb (SR [])]) := Lib.hid hs3
  rw [show (StoreM.made 16777216 []).next = 0 from rfl]
  clear hs3 HS2
  go_wp2_with fail
  go_loopw [6] (fun v6 wr => ∃ i : Nat, i ≤ n ∧ v6 = .int .i64 i ∧ Hid (∀ x ∈ K.take i, mayK x = true) ∧ Hid (St w wr [storeP sb (SR (K.take i))])) (fun v6 _ => n - (intOf v6).toNat)
  case atStart => exact ⟨0, Nat.zero_le _, rfl, Lib.hid (fun x hx => by simp at hx), HS3⟩
  case round =>
    clear HS3
    obtain ⟨i, hi, rfl, HM, HS⟩ := hrel
    by_cases hlt : i < n
    · have hiX : i < X.length := by have := HX.out.2.1; have := HN.out; omega
      obtain ⟨x, hx⟩ : ∃ x, X[i]? = some x := ⟨_, List.getElem?_eq_getElem hiX⟩
      have hki : K[i]? = some (keyX x) := by rw [HX.out.2.2.2.1, List.getElem?_map, hx]; rfl
      have htk : K.take (i + 1) = K.take i ++ [keyX x] := by
        obtain ⟨h1, h2⟩ := List.getElem?_eq_some_iff.1 hki
        rw [List.take_succ_eq_append_getElem h1, h2]
      rcases HR.out with ⟨_, h0⟩ | ⟨ba, o, hA, hc⟩
      · have h1 := HN.out; rw [h0] at h1; simp at h1; omega
      subst hA
      have hcl := St.itemAt hc i x.1 (by rw [← HX.out.1, List.getElem?_map, hx]; rfl)
      have HC := Lib.hid hcl
      have d0 := old_cell hcl.1 HS.out.keep
      have d1 := old_cell hcl.2.1 HS.out.keep
      have d2 := old_cell hcl.2.2 HS.out.keep
      clear hcl
      have HD := Lib.hid (And.intro (HX.out.2.2.1 x (List.mem_of_getElem? hx)) (And.intro hki (And.intro htk hlt)))
      have q1 : (i : Int) < (n : Int) := by omega
      clear hc hx hki htk hlt hiX
      obtain ⟨⟨k, s, A1, n1, c1⟩, d⟩ := x
      go_wp2_with fail
      refine (St.may13 HS.out ⟨k, s, A1, n1, c1⟩ (mayI k s n1) rfl).mono ?_
      rintro e w4 ⟨rfl, hs4⟩
      have HS4 := Lib.hid hs4
      have hn1 : n1 = d.length := HD.out.1.1.1
      have HN1 := Lib.hid hn1
      clear hs4 HS d0 d1 d2 hn1
      cases hmy : mayI k s n1 with
      | false =>
        clear hmy
        go_wp2_with fail
        refine (St.ans16 HS4.out).mono ?_
        rintro e w5 ⟨rfl, hs5⟩
        have HS5 := Lib.hid hs5
        clear hs5 HS4
        go_wp2_with fail
        go_ret
        exact ⟨rfl, HS5.out.keep⟩
      | true =>
        have HMY := Lib.hid hmy
        clear hmy
        have d0 := old_cell HC.out.1 HS4.out.keep
        have d1 := old_cell HC.out.2.1 HS4.out.keep
        have d2 := old_cell HC.out.2.2 HS4.out.keep
        go_wp2_with fail
        clear d0 d1 d2
        obtain ⟨N, hN⟩ : ∃ N, N = itN ⟨k, s, A1, n1, c1⟩ := ⟨_, rfl⟩
        have hNl : N = (encK (k, s, d)).length := by rw [hN, encK_len]; unfold itN lenK; simp only; rw [HN1.out]
        refine (St.ref_bytes HS4.out ⟨k, s, A1, n1, c1⟩ d N (encK (k, s, d)) hN rfl (HD.out.1.1.st HS4.out) HMY.out).mono ?_
        rintro e w5 ⟨A5, c5, rfl, _, hs5⟩
        have HS5 := Lib.hid hs5
        have HNL := Lib.hid hNl
        clear hs5 hN hNl HS4
        have hle : sumK (K.take i) + lenK (k, s, d) ≤ 16777216 := by
          have h1 := offK_succ HD.out.2.1
          have h2 := offK_le K (i + 1)
          have h3 := HX.out.2.2.2.2.2
          have h4 : lenK (keyX (⟨k, s, A1, n1, c1⟩, d)) = lenK (k, s, d) := rfl
          unfold offK at h1 h2
          omega
        obtain ⟨ha1, ha2⟩ := SR_app (K.take i) (k, s, d) hle
        have htk : K.take (i + 1) = K.take i ++ [(k, s, d)] := HD.out.2.2.1
        rw [← htk] at ha2
        have HAP := Lib.hid (And.intro ha1 (And.intro ha2 (And.intro hle htk)))
        clear hle ha1 ha2 htk
        go_wp2_with fail
        refine (St.store_append2 HS5.out.swap 0 A5 N c5 (encK (k, s, d)) (by show ((K.take i).length : Int) ≤ _; rw [List.length_take]; have := HD.out.2.2.2; have := HL.out.1; have := HN.out; omega) HNL.out (fun G hG => own_app hG) HS5.out.own_rdv.2.2.2 (fun bs hb => by
          rw [SR_find] at hb
          obtain rfl := Option.some.inj hb
          rw [flatK_len, encK_len]
          have := HAP.out.2.2.1
          omega)).mono ?_
        rintro e w6 ⟨rfl, hs6⟩
        rw [HAP.out.2.1] at hs6
        rw [HAP.out.1]
        have HS6 : Hid (St w w6 [storeP sb (SR (K.take (i + 1)))]) := Lib.hid hs6.swap.tail
        clear hs6 HS5
        go_wp2_with fail
        go_roundw
        case rel =>
          refine ⟨i + 1, HD.out.2.2.2, by go_num, Lib.hid (fun x hx => ?_), HS6⟩
          rw [HAP.out.2.2.2] at hx
          rcases List.mem_append.1 hx with h | h
          · exact HM.out x h
          · rw [List.mem_singleton.1 h]
            show mayI k s d.length = true
            rw [← HN1.out]
            exact HMY.out
        case measure => have := HD.out.2.2.2; simp [intOf]; omega
    · have hin : i = n := by omega
      subst hin
      have hKn : K.length = i := by have := HX.out.2.2.2.2.1; have := HX.out.2.1; have := HN.out; omega
      rw [List.take_of_length_le (by omega)] at HM HS
      have HKN := Lib.hid hKn
      clear hlt hi hKn
      go_wp2_with fail
      refine (St.cur_open HS.out (some ⟨sb, 0, none⟩) 0).mono ?_
      rintro e w4 ⟨cb, rfl, hs4⟩
      have HS4 := Lib.hid hs4
      clear hs4 HS
      go_wp2_with fail
      refine (St.cur_open HS4.out (some ⟨sb, 0, none⟩) 0).mono ?_
      rintro e w5 ⟨db, rfl, hs5⟩
      have HS5 : Hid (St w w5 [blkP cb 98 (curC (some ⟨sb, 0, none⟩) 0 ((offK K 0 : Nat) : Int)), storeP sb (SR K), blkP db 98 (curC (some ⟨sb, 0, none⟩) 0 0)]) := Lib.hid (hs5.sel [1, 2, 0] (by decide) (by simp))
      clear hs5 HS4
      go_wp2_with fail
      go_loopw [9] (fun v9 wr => ∃ j : Nat, j ≤ i ∧ v9 = .int .i64 j ∧ Hid (St w wr [blkP cb 98 (curC (some ⟨sb, 0, none⟩) 0 ((offK K j : Nat) : Int)), storeP sb (SR K), blkP db 98 (curC (some ⟨sb, 0, none⟩) 0 0)])) (fun v9 _ => i - (intOf v9).toNat)
      case atStart => exact ⟨0, Nat.zero_le _, rfl, HS5⟩
      case round =>
        clear HS5
        obtain ⟨j, hj, rfl, HS⟩ := hrel
        by_cases hlt : j < i
        · have hjX : j < X.length := by have := HX.out.2.1; have := HN.out; omega
          obtain ⟨x, hx⟩ : ∃ x, X[j]? = some x := ⟨_, List.getElem?_eq_getElem hjX⟩
          have hki : K[j]? = some (keyX x) := by rw [HX.out.2.2.2.1, List.getElem?_map, hx]; rfl
          rcases HR.out with ⟨_, h0⟩ | ⟨ba, o, hA, hc⟩
          · have h1 := HN.out; rw [h0] at h1; simp at h1; omega
          subst hA
          have hcl := St.itemAt hc j x.1 (by rw [← HX.out.1, List.getElem?_map, hx]; rfl)
          have HC := Lib.hid hcl
          have HD := Lib.hid (And.intro (HX.out.2.2.1 x (List.mem_of_getElem? hx)) (And.intro hki (And.intro hlt (HM.out _ (List.mem_of_getElem? hki)))))
          have q1 : (j : Int) < (i : Int) := by omega
          clear hc hx hki hlt hjX hcl
          obtain ⟨⟨k, s, A1, n1, c1⟩, d⟩ := x
          go_wp2_with fail
          refine (St.cur_item HS.out (SR_find K) rfl HD.out.2.1 HD.out.2.2.2 (by have := HX.out.2.2.2.2.2; omega) n1 HD.out.1.1.1).mono ?_
          rintro e w6 ⟨A6, c6, rfl, hc6, hs6⟩
          dsimp only [keyX] at hs6 ⊢
          obtain ⟨ob, hob⟩ : ∃ ob, ob = w6.heap.size := ⟨_, rfl⟩
          have HS7 : Hid (St w (w6.alloc (Obj.cells #[.string k, .int .i64 s, .slice A6 n1 c6] 44)) [blkP ob 44 [.string k, .int .i64 s, .slice A6 n1 c6], ownP 5 1 (.slice A6 n1 c6) n1 (bys d), blkP cb 98 (curC (some ⟨sb, 0, none⟩) 0 ((offK K (j + 1) : Nat) : Int)), storeP sb (SR K), blkP db 98 (curC (some ⟨sb, 0, none⟩) 0 0)]) := Lib.hid (hs6.boxX ⟨k, s, A6, n1, c6⟩ ob hob)
          clear hs6 HS
          go_upto_region 16 with fail
          rw [← hob]
          clear hob
          generalize w6.alloc (Obj.cells #[.string k, .int .i64 s, .slice A6 n1 c6] 44) = w7 at HS7 ⊢
          refine wp_region_G [] Anew (fun u => St w u [blkP ob 44 [.string k, .int .i64 s, .slice A6 n1 c6], ownP 5 1 (.slice A6 n1 c6) n1 (bys d), blkP cb 98 (curC (some ⟨sb, 0, none⟩) 0 ((offK K (j + 1) : Nat) : Int)), storeP sb (SR K), blkP db 98 (curC (some ⟨sb, 0, none⟩) 0 0)]) (by kernel_rfl) (by kernel_rfl) (by kernel_rfl) Anew.refl (St.stays _ _) HS7.out.drew ?_
          clear HS7
          repeat (
            (apply wpG_val
             · rfl
             · intro u hu
               have hb := hu.blk.1
               have b0 := hb.cell 0
               have b1 := hb.cell 1
               have b2 := hb.cell 2
               simp only [List.getElem?_cons_zero, List.getElem?_cons_succ] at b0 b1 b2
               have d0 := old_cell HC.out.1 hu.keep
               have d1 := old_cell HC.out.2.1 hu.keep
               have d2 := old_cell HC.out.2.2 hu.keep
               clear hu hb
               (go_simp <;> with_reducible rfl)
             simp only [Act.put, List.setIfInBounds_toArray, List.set_cons_zero, List.set_cons_succ]))
          refine wpG_call (v := .bool true) rfl (fun u => by (go_simp <;> with_reducible exact ⟨rfl, rfl⟩)) (fun u hu => same_g ⟨k, s, A6, n1, c6⟩ ⟨k, s, A1, n1, c1⟩ d d true (by simp [sameB]) (dat_own hu.tail) (HD.out.1.1.st hu)) ?_
          simp only [Act.put, List.setIfInBounds_toArray, List.set_cons_zero, List.set_cons_succ]
          repeat (
            (apply wpG_val
             · rfl
             · intro u hu
               clear hu
               (go_simp <;> with_reducible rfl)
             simp only [Act.put, List.setIfInBounds_toArray, List.set_cons_zero, List.set_cons_succ]))
          refine wpG_nil ?_
          intro u hu
          have HU : Hid (St w u [blkP cb 98 (curC (some ⟨sb, 0, none⟩) 0 ((offK K (j + 1) : Nat) : Int)), storeP sb (SR K), blkP db 98 (curC (some ⟨sb, 0, none⟩) 0 0)]) := Lib.hid hu.tail.tail
          clear hu
          go_wp2_with fail
          go_roundw
          case rel => exact ⟨j + 1, HD.out.2.2.1, by go_num, HU⟩
          case measure => have := HD.out.2.2.1; simp [intOf]; omega
        · have hji : j = i := by omega
          subst hji
          go_wp2_with fail
          refine (St.cur_stop HS.out (by rw [← HKN.out]; exact atl_end (SR_find K)) (fun bs hb => ?_) (fun bs hb => ?_) (by have := offK_le K j; have := HX.out.2.2.2.2.2; omega)).mono ?_
          · rw [SR_find] at hb; obtain rfl := Option.some.inj hb; rw [flatK_len]; exact offK_le K j
          · rw [SR_find] at hb; obtain rfl := Option.some.inj hb; rw [flatK_len]; have := HX.out.2.2.2.2.2; omega
          rintro e w6 ⟨rfl, hs6⟩
          have HS6 : Hid (St w (w6.alloc (Obj.cells #[.string ⟨#[]⟩, .int .i64 0, .slice none 0 0] 44)) [blkP db 98 (curC (some ⟨sb, 0, none⟩) 0 0), storeP sb (SR K)]) := Lib.hid ((hs6.alloc _).sel [2, 1] (by decide) (by simp))
          clear hs6 HS
          go_upto_region 19 with fail
          generalize w6.alloc (Obj.cells #[.string ⟨#[]⟩, .int .i64 0, .slice none 0 0] 44) = w7 at HS6 ⊢
          generalize w6.heap.size = b6
          by_cases h0 : 0 < j
          · have hjX : 0 < X.length := by have := HX.out.2.1; have := HN.out; omega
            obtain ⟨x, hx⟩ : ∃ x, X[0]? = some x := ⟨_, List.getElem?_eq_getElem hjX⟩
            have hki : K[0]? = some (keyX x) := by rw [HX.out.2.2.2.1, List.getElem?_map, hx]; rfl
            rcases HR.out with ⟨_, h0⟩ | ⟨ba, o, hA, hc⟩
            · have h1 := HN.out; rw [h0] at h1; simp at h1; omega
            subst hA
            have hcl := St.itemAt hc 0 x.1 (by rw [← HX.out.1, List.getElem?_map, hx]; rfl)
            rw [Nat.zero_mul, Nat.add_zero] at hcl
            have HC := Lib.hid hcl
            have HD := Lib.hid (And.intro (HX.out.2.2.1 x (List.mem_of_getElem? hx)) (And.intro hki (HM.out _ (List.mem_of_getElem? hki))))
            have q1 : decide (0 < j) = true := decide_eq_true h0
            clear hc hx hki hjX hcl
            obtain ⟨⟨k, s, A1, n1, c1⟩, d⟩ := x
            go_wp2_with fail
            refine (St.cur_item (K := K) (i := 0) HS6.out (SR_find K) rfl HD.out.2.1 HD.out.2.2 (by have := HX.out.2.2.2.2.2; omega) n1 HD.out.1.1.1).mono ?_
            rintro e w8 ⟨A6, c6, rfl, hc6, hs8⟩
            dsimp only [keyX] at hs8 ⊢
            obtain ⟨ob, hob⟩ : ∃ ob, ob = w8.heap.size := ⟨_, rfl⟩
            have HS8 : Hid (St w (w8.alloc (Obj.cells #[.string k, .int .i64 s, .slice A6 n1 c6] 44)) [storeP sb (SR K), blkP ob 44 [.string k, .int .i64 s, .slice A6 n1 c6], ownP 5 1 (.slice A6 n1 c6) n1 (bys d)]) := Lib.hid ((hs8.boxX ⟨k, s, A6, n1, c6⟩ ob hob).sel [3, 0, 1] (by decide) (by simp))
            clear hs8 HS6
            go_upto_region 20 with fail
            rw [← hob]
            clear hob
            generalize w8.alloc (Obj.cells #[.string k, .int .i64 s, .slice A6 n1 c6] 44) = w9 at HS8 ⊢
            go_wp2_with fail
            refine (St.cur_open HS8.out (some ⟨sb, 0, none⟩) 1).mono ?_
            rintro e w10 ⟨eb, rfl, hs10⟩
            have HS10 := Lib.hid hs10
            clear hs10 HS8
            go_wp2_with fail
            refine (St.cur_stop (a := 0) HS10.out (atl_no rfl) (fun bs hb => by cases hb) (fun bs hb => by cases hb) (by omega)).mono ?_
            rintro e w11 ⟨rfl, hs11⟩
            have HS9 : Hid (St w (w11.alloc (Obj.cells #[.string ⟨#[]⟩, .int .i64 0, .slice none 0 0] 44)) [blkP ob 44 [.string k, .int .i64 s, .slice A6 n1 c6], ownP 5 1 (.slice A6 n1 c6) n1 (bys d)]) := Lib.hid ((hs11.alloc _).sel [2, 3] (by decide) (by simp))
            clear hs11 HS10
            go_upto_region 21 with fail
            generalize w11.alloc (Obj.cells #[.string ⟨#[]⟩, .int .i64 0, .slice none 0 0] 44) = w12 at HS9 ⊢
            generalize w11.heap.size = b11
            refine wp_region_G [] Anew (fun u => St w u [blkP ob 44 [.string k, .int .i64 s, .slice A6 n1 c6], ownP 5 1 (.slice A6 n1 c6) n1 (bys d)]) (by kernel_rfl) (by kernel_rfl) (by kernel_rfl) Anew.refl (St.stays _ _) HS9.out.drew ?_
            clear HS9
            refine wpG_call (v := .bool true) rfl (fun u => by (go_simp <;> with_reducible exact ⟨rfl, rfl⟩)) (fun u hu => answers16 u) ?_
            simp only [Act.put, List.setIfInBounds_toArray, List.set_cons_zero, List.set_cons_succ]
            repeat (first
              | (refine wpG_skip (by rfl) ?_
                 simp only [Act.put, List.setIfInBounds_toArray, List.set_cons_zero, List.set_cons_succ])
              | (apply wpG_val
                 · rfl
                 · intro u hu
                   have hb := hu.blk.1
                   have b0 := hb.cell 0
                   have b1 := hb.cell 1
                   have b2 := hb.cell 2
                   simp only [List.getElem?_cons_zero, List.getElem?_cons_succ] at b0 b1 b2
                   have d0 := old_cell HC.out.1 hu.keep
                   have d1 := old_cell HC.out.2.1 hu.keep
                   have d2 := old_cell HC.out.2.2 hu.keep
                   clear hu hb
                   (go_simp <;> with_reducible rfl)
                 simp only [Act.put, List.setIfInBounds_toArray, List.set_cons_zero, List.set_cons_succ]))
            refine wpG_call (v := .bool true) rfl (fun u => by (go_simp <;> with_reducible exact ⟨rfl, rfl⟩)) (fun u hu => same_g ⟨k, s, A6, n1, c6⟩ ⟨k, s, A1, n1, c1⟩ d d true (by simp [sameB]) (dat_own hu.tail) (HD.out.1.1.st hu)) ?_
            simp only [Act.put, List.setIfInBounds_toArray, List.set_cons_zero, List.set_cons_succ]
            repeat (
              (apply wpG_val
               · rfl
               · intro u hu
                 clear hu
                 (go_simp <;> with_reducible rfl)
               simp only [Act.put, List.setIfInBounds_toArray, List.set_cons_zero, List.set_cons_succ]))
            refine wpG_nil ?_
            intro u hu
            have HU := Lib.hid hu.keep
            clear hu
            go_wp2_with fail
            go_ret
            exact ⟨rfl, HU.out⟩
          · have hj0 : j = 0 := by omega
            subst hj0
            have hK0 : K = [] := List.eq_nil_of_length_eq_zero HKN.out
            go_wp2_with fail
            refine (St.cur_stop (a := 0) HS6.out (by have h1 := atl_end (SR_find K); rw [hK0] at h1 ⊢; exact h1) (fun bs hb => Nat.zero_le _) (fun bs hb => ?_) (by omega)).mono ?_
            · rw [SR_find] at hb; obtain rfl := Option.some.inj hb; rw [flatK_len]; have := HX.out.2.2.2.2.2; omega
            rintro e w8 ⟨rfl, hs8⟩
            have HS8 : Hid (St w (w8.alloc (Obj.cells #[.string ⟨#[]⟩, .int .i64 0, .slice none 0 0] 44)) [storeP sb (SR K)]) := Lib.hid (hs8.alloc _).tail
            clear hs8 HS6
            go_upto_region 20 with fail
            generalize w8.alloc (Obj.cells #[.string ⟨#[]⟩, .int .i64 0, .slice none 0 0] 44) = w9 at HS8 ⊢
            generalize w8.heap.size = b8
            go_wp2_with fail
            refine (St.cur_open HS8.out (some ⟨sb, 0, none⟩) 1).mono ?_
            rintro e w10 ⟨eb, rfl, hs10⟩
            have HS10 := Lib.hid hs10
            clear hs10 HS8
            go_wp2_with fail
            refine (St.cur_stop (a := 0) HS10.out (atl_no rfl) (fun bs hb => by cases hb) (fun bs hb => by cases hb) (by omega)).mono ?_
            rintro e w11 ⟨rfl, hs11⟩
            have HS9 : Hid (St w (w11.alloc (Obj.cells #[.string ⟨#[]⟩, .int .i64 0, .slice none 0 0] 44)) []) := Lib.hid (((hs11.alloc _).tail).tail)
            clear hs11 HS10
            go_upto_region 21 with fail
            generalize w11.alloc (Obj.cells #[.string ⟨#[]⟩, .int .i64 0, .slice none 0 0] 44) = w12 at HS9 ⊢
            generalize w11.heap.size = b11
            refine wp_region_G [] Anew (fun u => St w u []) (by kernel_rfl) (by kernel_rfl) (by kernel_rfl) Anew.refl (St.stays _ _) HS9.out.drew ?_
            clear HS9
            refine wpG_call (v := .bool true) rfl (fun u => by (go_simp <;> with_reducible exact ⟨rfl, rfl⟩)) (fun u hu => answers16 u) ?_
            simp only [Act.put, List.setIfInBounds_toArray, List.set_cons_zero, List.set_cons_succ]
            repeat (first
              | (refine wpG_skip (by rfl) ?_
                 simp only [Act.put, List.setIfInBounds_toArray, List.set_cons_zero, List.set_cons_succ])
              | (apply wpG_val
                 · rfl
                 · intro u hu
                   clear hu
                   (go_simp <;> with_reducible rfl)
                 simp only [Act.put, List.setIfInBounds_toArray, List.set_cons_zero, List.set_cons_succ]))
            refine wpG_nil ?_
            intro u hu
            have HU := Lib.hid hu.keep
            clear hu
            go_wp2_with fail
            go_ret
            exact ⟨rfl, HU.out⟩
theorem runsRead_big (w : World) (a : Option Addr) (c : Nat) (L : List It) (hr : RdI w a L) (hx : ∀ x ∈ L, ItOk w x) (hl : L.length ≤ 4611686018427387904) (hs : ¬ (L.length ≤ 200 ∧ wsum L ≤ 100000)) :
    Calls Try.prog 5 #[.slice a L.length c] w fun e w' => e = .returned (.bool true) ∧ Keep (fun b => w.heap.size ≤ b) w w' := by
  have HR := Lib.hid hr
  have HX := Lib.hid hx
  have HL := Lib.hid hl
  have HN := Lib.hid hs
  clear hr hx hl hs
  go_enter Try.func5, Try.ntmps5
  go_wp2_with fail
  refine (St.light16 (St.start w) a L.length c L false rfl HR.out HL.out (fun x hx => (HX.out x hx).small2) (decide_eq_false HN.out)).mono ?_
  rintro e w1 ⟨rfl, hs1⟩
  have HS1 := Lib.hid hs1
  clear hs1
  go_wp2_with fail
  refine (St.ans16 HS1.out).mono ?_
  rintro e w10 ⟨rfl, hs10⟩
  have HS10 := Lib.hid hs10
  clear hs10 HS1
  go_wp2_with fail
  go_ret
  exact ⟨rfl, HS10.out.keep⟩
theorem runsRead_walk (w : World) (a : Option Addr) (n c : Nat) (L : List It) (hn : n = L.length) (_ : n ≤ c) (hc : c ≤ 2932031007402) (hr : RdI w a L) (_ : a = none → L = [] ∧ c = 0) (hx : ∀ x ∈ L, ItOk w x) :
    Calls Try.prog 5 #[.slice a n c] w fun e w' => e = .returned (.bool true) ∧ Below w.heap.size w w' := by
  subst hn
  by_cases h : L.length ≤ 200 ∧ wsum L ≤ 100000
  · exact (runsRead_small w a c L hr hx h.1 h.2).mono fun _ _ ⟨h1, h2⟩ => ⟨h1, h2.below (Nat.le_refl _) (fun _ _ h => h)⟩
  · exact (runsRead_big w a c L hr hx (by omega) h).mono fun _ _ ⟨h1, h2⟩ => ⟨h1, h2.below (Nat.le_refl _) (fun _ _ h => h)⟩
end Go.Proofs.Ytkglkpcpgdeneaa
