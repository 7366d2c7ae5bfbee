/- SortMerges. Conditions: none. -/
import Derived.Test.YtkglkpcpgdeneaaMergs
namespace Go.Proofs.Ytkglkpcpgdeneaa
open Go.RowKit
set_option linter.unusedVariables false
set_option linter.unusedSimpArgs false

/-- A light list and its bytes; sorted, too. -/
structure InL (w : World) (L : List It) (X Y : List ItX) (K : List K3i) (m : Nat) : Prop where
  fst : X.map Prod.fst = L
  len : X.length = m
  dat : ∀ x ∈ X, DatI w x.1 x.2
  few : m ≤ 200
  ylen : Y.length = m
  yfst : Y.map Prod.fst = srt ltI L
  ykey : Y.map keyX = K
  key : K = srt ltK (X.map keyX)
  ydat : ∀ x ∈ Y, DatI w x.1 x.2
  klen : K.length = m
  sum : sumK K ≤ 103200
  srd : K.Pairwise fun x y => ltK y x = false
theorem InL.mk' {w : World} {L : List It} (hx : ∀ x ∈ L, ItOk w x) (hl : L.length ≤ 200 ∧ wsum L ≤ 100000) {m : Nat} (hm : m = L.length) : ∃ X Y K, InL w L X Y K m := by
  subst hm
  have h1 := xsI_dat hx
  have h2 : sumK ((xsI w L).map keyX) ≤ 103200 := by
    rw [sumK_wsum (xsI w L) (fun x hx' => (h1 x hx').1.1), xsI_fst, xsI_len]
    omega
  refine ⟨xsI w L, srt ltX (xsI w L), srt ltK ((xsI w L).map keyX), xsI_fst w L, xsI_len w L, fun x hx' => (h1 x hx').1, hl.1, ?_, ?_, srt_keys _, rfl, ?_, ?_, ?_, srt_sorted swoK _⟩
  · have := congrArg List.length (srt_keys (xsI w L))
    rw [List.length_map, srtK_len, List.length_map, xsI_len] at this
    exact this
  · rw [srt_items, xsI_fst]
  · intro x hx'
    exact (h1 x ((srt_perm (lt := ltX) _).mem_iff.1 hx')).1
  · rw [srtK_len, List.length_map, xsI_len]
  · rw [srtK_sum]; exact h2
theorem take_all {α : Type} {L : List α} {n : Nat} (h : L.length ≤ n) : L.take n = L := List.take_of_length_le h
theorem sumK_take_le (K : List K3i) (k : Nat) : sumK (K.take k) ≤ sumK K := offK_le K k
theorem ints_ids (i : Nat) : ints (idsN 0 (i + 1)) = ints (idsN 0 i) ++ [.int .i64 (i : Int)] := by
  rw [idsN_succ, ← ints_app]
  simp [ints]
set_option maxRecDepth 100000 in
set_option maxHeartbeats 16000000 in
theorem sortMerges_small (w : World) (a : Option Addr) (c : Nat) (T : List (Option Addr × Nat × List It)) (gone : Bool) (hr : RdV w a (T.map lsV)) (hT : ∀ t ∈ T, LsOk w t.1 t.2.1 t.2.2) (hl : T.length ≤ 12) :
    Calls Try.prog 11 #[.slice a T.length c, .bool gone] w fun e w' => e = .returned (.bool true) ∧ Keep (fun b => w.heap.size ≤ b) w w' := by
  obtain ⟨n, hn⟩ : ∃ n, n = T.length := ⟨_, rfl⟩
  have HH := Lib.hid (And.intro hr hT)
  have q0 : (n : Int) ≤ 12 := by omega
  rw [← hn]
  have HN := Lib.hid hn
  clear hr hT hl hn
  go_enter Try.func11, Try.ntmps11
  go_wp2_with fail
  refine (St.store_new (St.start w) 16777216 none 0 0 [] (by omega) (RdV.nil _ _) rfl (fun _ => ⟨rfl, rfl⟩) (by omega)).mono ?_
  rintro e w1 ⟨sb, rfl, hs1⟩
  have hs2 : St w w1 (storeP sb (StoreM.made 16777216 []) :: ownP 3 1 (.slice none 0 0) 0 (ints (idsN 0 0)) :: ownP 44 3 (.slice none 0 0) 0 (flatI (([] : List ItX).map Prod.fst)) :: []) :=
    ((hs1.nil 44 3).nil 3 1).mv 2 (by simp)
  have HS2 := Lib.hid hs2
  clear hs1 hs2
  go_upto_region 8 with fail
  go_loopw [6, 7, 8, 9] (fun v6 v7 v8 v9 wr => ∃ (i : Nat) (A6 : Option Addr) (c6 : Nat) (A7 : Option Addr) (m7 c7 : Nat) (S : StoreM) (Ks : List (List K3i)) (Xa : List ItX), v6 = .slice A6 i c6 ∧ v7 = .slice A7 m7 c7 ∧ v8 = .int .i64 (fullN Ks : Nat) ∧ v9 = .int .i64 i ∧ i ≤ n ∧
      Hid (Gd S i Ks ∧ Al w Ks Xa ∧ m7 = Xa.length) ∧ Hid (St w wr (storeP sb S :: ownP 3 1 (.slice A6 i c6) i (ints (idsN 0 i)) :: ownP 44 3 (.slice A7 m7 c7) m7 (flatI (Xa.map Prod.fst)) :: []))) (fun _ _ _ v9 _ => n - (intOf v9).toNat)
  case atStart => exact ⟨0, none, 0, none, 0, 0, _, [], [], rfl, rfl, rfl, rfl, Nat.zero_le _, Lib.hid ⟨Gd.start, Al.start w, rfl⟩, HS2⟩
  case round =>
    clear HS2
    obtain ⟨i, A6, c6, A7, m7, c7, S, Ks, Xa, rfl, rfl, rfl, rfl, hi, HG, HS⟩ := hrel
    by_cases hlt : i < n
    · have q1 : (i : Int) < (n : Int) := by omega
      obtain ⟨t, ht⟩ : ∃ t, T[i]? = some t := ⟨_, List.getElem?_eq_getElem (by rw [← HN.out]; exact hlt)⟩
      obtain ⟨x0, hx, hx0⟩ := HH.out.1 i (lsV t) (by rw [List.getElem?_map, ht]; rfl)
      subst hx
      have HT := Lib.hid (HH.out.2 t (List.mem_iff_getElem?.2 ⟨i, ht⟩))
      clear ht
      obtain ⟨At, ct, L⟩ := t
      obtain ⟨m, hm⟩ : ∃ m, m = L.length := ⟨_, rfl⟩
      have HX : Hid (∀ u ps, St w u ps → u.cell? (x0.add i) = some (.slice At m ct)) := Lib.hid (fun u ps h => by
        have h1 := h.cell hx0
        rw [hm]
        exact h1)
      have HM := Lib.hid hm
      have HLT := Lib.hid hlt
      have d0 := HX.out _ _ HS.out
      clear hm hlt hi hx0
      have hcase : (L.length ≤ 200 ∧ wsum L ≤ 100000) ∨ ¬ (L.length ≤ 200 ∧ wsum L ≤ 100000) := Classical.em _
      go_wp2_with fail
      rcases hcase with hl | hl
      rotate_left
      · refine (St.light_l HS.out At m ct L false HM.out (HT.out.rd.keep HS.out.keep) (by have := HT.out.cap; have := HT.out.few; omega) (fun x hx => (HT.out.ok x hx).small2) (decide_eq_false hl)).mono ?_
        rintro e w2 ⟨rfl, hs2⟩
        have HS2 := Lib.hid hs2
        clear hs2 HS hl
        go_wp2_with fail
        refine (St.ans17 HS2.out).mono ?_
        rintro e w3 ⟨rfl, hs3⟩
        have HS3 := Lib.hid hs3
        clear hs3 HS2
        go_wp2_with fail
        go_ret
        exact ⟨rfl, HS3.out.keep⟩
      · refine (St.light_l HS.out At m ct L true HM.out (HT.out.rd.keep HS.out.keep) (by omega) (fun x hx => (HT.out.ok x hx).small2) (decide_eq_true hl)).mono ?_
        rintro e w2 ⟨rfl, hs2⟩
        have HS2 := Lib.hid hs2
        obtain ⟨X, Y, K, hI⟩ := InL.mk' HT.out.ok hl HM.out
        have HI := Lib.hid hI
        have q2 : (m : Int) ≤ 200 := by have := hI.few; omega
        clear hs2 HS hl d0 hI
        go_wp2_with fail
        refine (St.store_create HS2.out (by have := HG.out.1.next; have := HLT.out; omega)).mono ?_
        rintro e w3 ⟨he, hs3⟩
        rw [HG.out.1.next] at he
        subst he
        have HS3 : Hid (St w w3 (ownP 3 1 (.slice A6 i c6) i (ints (idsN 0 i)) :: storeP sb S.create :: ownP 44 3 (.slice A7 m7 c7) m7 (flatI (Xa.map Prod.fst)) :: [])) := Lib.hid hs3.swap
        clear hs3 HS2
        go_upto_region 13 with fail
        go_wp2_with (
          at_builtin
          refine wpL_push_st rfl (.tmp 46) (.tmp 48) 37 rfl 3 (.int .i64 0) 1 8 Try.underlying37 infoIntF rfl (by decide) (.slice A6 i c6) i (ints (idsN 0 i)) rfl HS3.out [.int .i64 i] rfl (by intro u hu; simp at hu; subst hu; rfl) _ rfl rfl (by have := HLT.out; unfold maxLen; omega) (by have := HLT.out; omega) ?_
          intro A8 c8 w4 _ _ hs4
          have hs4' : St w w4 (storeP sb S.create :: ownP 3 1 (.slice A8 (i + 1) c8) (i + 1) (ints (idsN 0 (i + 1))) :: ownP 44 3 (.slice A7 m7 c7) m7 (flatI (Xa.map Prod.fst)) :: []) := by
            have h1 := hs4.swap
            rw [ints_ids]
            exact h1
          have HS4 := Lib.hid hs4'
          have d4 := HX.out _ _ hs4'
          clear hs4 hs4' HS3)
        refine (St.sorted_l HS4.out At m ct L HM.out (HT.out.rd.keep HS4.out.keep) (by have := HI.out.few; have := HM.out; omega)).mono ?_
        rintro e w5 ⟨A9, c9, rfl, hs5⟩
        rw [← HI.out.yfst] at hs5
        obtain ⟨PL, hPL⟩ : ∃ PL, PL = ownP 44 3 (.slice A9 m c9) m (flatI (Y.map Prod.fst)) :: ownP 3 1 (.slice A8 (i + 1) c8) (i + 1) (ints (idsN 0 (i + 1))) :: ownP 44 3 (.slice A7 m7 c7) m7 (flatI (Xa.map Prod.fst)) :: [] := ⟨_, rfl⟩
        have HS5 : Hid (St w w5 (storeP sb S.create :: PL)) := Lib.hid (by rw [hPL]; exact hs5.swap)
        have HPL := Lib.hid hPL
        have hw5 : Wr S S.create (K.take 0) := Wr.start HG.out.1.ex.ok HG.out.1.fails HG.out.1.room (by have := HG.out.1.next; have := HLT.out; omega)
        have HW5 : Hid (Wr S S.create (K.take 0) ∧ ∀ x ∈ K.take 0, mayK x = true) := Lib.hid ⟨hw5, fun x hx => by simp at hx⟩
        clear hs5 hPL hw5 HS4 d4
        go_upto_region 16 with fail
        go_loopw [13] (fun v13 wq => ∃ (k : Nat) (Tm : StoreM), v13 = .int .i64 k ∧ k ≤ m ∧ Hid (Wr S Tm (K.take k) ∧ ∀ x ∈ K.take k, mayK x = true) ∧ Hid (St w wq (storeP sb Tm :: PL))) (fun v13 _ => m - (intOf v13).toNat)
        case atStart => exact ⟨0, _, rfl, Nat.zero_le _, HW5, HS5⟩
        case round =>
          clear HS5 HW5
          obtain ⟨k, Tm, rfl, hk, HW, HSQ⟩ := hrel
          by_cases hkm : k < m
          · have q3 : (k : Int) < (m : Int) := by omega
            obtain ⟨y, hy⟩ : ∃ y, Y[k]? = some y := ⟨_, List.getElem?_eq_getElem (by rw [HI.out.ylen]; exact hkm)⟩
            have hown : RdI wr A9 (Y.map Prod.fst) := by have h1 := HSQ.out.tail; rw [HPL.out] at h1; exact h1.own_it
            obtain ⟨ga, go, hA, _⟩ := rdI_cells hown (i := k) (x := y.1) (by rw [List.getElem?_map, hy]; rfl)
            subst hA
            have HC : Hid (∀ (u : World) (Tn : StoreM), St w u (storeP sb Tn :: PL) → u.cell? ⟨ga, go + k * 3, none⟩ = some (.string y.1.k) ∧ u.cell? ⟨ga, go + k * 3 + 1, none⟩ = some (.int .i64 y.1.s) ∧ u.cell? ⟨ga, go + k * 3 + 2, none⟩ = some (.slice y.1.A y.1.n y.1.c)) := Lib.hid (fun u Tn hu => by
              have h1 := hu.tail
              rw [HPL.out] at h1
              obtain ⟨b1, o1, e1, c0, c1, c2⟩ := rdI_cells h1.own_it (i := k) (x := y.1) (by rw [List.getElem?_map, hy]; rfl)
              injection e1 with e1
              injection e1 with e1 e2
              subst e1 e2
              exact ⟨c0, c1, c2⟩)
            have htk : K.take (k + 1) = K.take k ++ [keyX y] := by
              have hKk : K[k]? = some (keyX y) := by rw [← HI.out.ykey, List.getElem?_map, hy]; rfl
              obtain ⟨h1, h2⟩ := List.getElem?_eq_some_iff.1 hKk
              rw [List.take_succ_eq_append_getElem h1, h2]
            have hyd := HI.out.ydat y (List.mem_iff_getElem?.2 ⟨k, hy⟩)
            have hN : itN y.1 = lenK (keyX y) := by unfold itN lenK keyX; simp only; rw [hyd.1]
            have HY := Lib.hid (And.intro htk (And.intro hyd (And.intro hN hkm)))
            obtain ⟨d0, d1, d2⟩ := HC.out _ _ HSQ.out
            clear htk hyd hN hkm hk hy hown
            obtain ⟨⟨ky, sy, Ay, ny, cy⟩, dy⟩ := y
            go_wp2_with fail
            refine (St.may13 HSQ.out ⟨ky, sy, Ay, ny, cy⟩ (mayI ky sy ny) rfl).mono ?_
            rintro e w6 ⟨rfl, hs6⟩
            have HS6 := Lib.hid hs6
            clear hs6 HSQ d0 d1 d2
            cases hmy : mayI ky sy ny with
            | false =>
              clear hmy
              go_wp2_with fail
              refine (St.ans17 HS6.out).mono ?_
              rintro e w7 ⟨rfl, hs7⟩
              have HS7 := Lib.hid hs7
              clear hs7 HS6
              go_wp2_with fail
              go_ret
              exact ⟨rfl, HS7.out.keep⟩
            | true =>
              have HMY := Lib.hid hmy
              clear hmy
              obtain ⟨d0, d1, d2⟩ := HC.out _ _ HS6.out
              go_wp2_with fail
              refine (St.ref_bytes HS6.out ⟨ky, sy, Ay, ny, cy⟩ dy (lenK (keyX (⟨ky, sy, Ay, ny, cy⟩, dy))) (encK (keyX (⟨ky, sy, Ay, ny, cy⟩, dy))) HY.out.2.2.1.symm rfl (HY.out.2.1.keep HS6.out.keep) HMY.out).mono ?_
              rintro e w7 ⟨A7b, c7b, rfl, _, hs7⟩
              have HS7 : Hid (St w w7 (storeP sb Tm :: ownP 5 1 (.slice A7b (lenK (keyX (⟨ky, sy, Ay, ny, cy⟩, dy))) c7b) (lenK (keyX (⟨ky, sy, Ay, ny, cy⟩, dy))) (bys (encK (keyX (⟨ky, sy, Ay, ny, cy⟩, dy)))) :: PL)) := Lib.hid hs7.swap
              have hnn := hs7.own_rdv.2.2.2
              have hsum : sumK (K.take k) + lenK (keyX (⟨ky, sy, Ay, ny, cy⟩, dy)) ≤ 103200 := by
                have h1 := sumK_take_le K (k + 1)
                rw [HY.out.1, sumK_app] at h1
                have h2 := HI.out.sum
                simp [sumK] at h1 h2 ⊢
                omega
              have HBB := Lib.hid (And.intro hnn hsum)
              clear hs7 hnn hsum HS6 d0 d1 d2
              go_wp2_with fail
              refine (St.store_append2 HS7.out (i : Int) A7b _ c7b (encK (keyX (⟨ky, sy, Ay, ny, cy⟩, dy))) (by
                have h1 := HW.out.1.writes
                have h2 := HG.out.1.writes
                have h3 := HG.out.1.few
                have h4 := HLT.out
                have h5 : (K.take k).length ≤ 200 := by rw [List.length_take]; have := HI.out.klen; have := HI.out.few; omega
                omega) (encK_len _).symm (fun G g => own_app g) HBB.out.1 (fun bs hbs => by
                  have h1 := HW.out.1.find HG.out.1.ex.ok
                  rw [HG.out.1.next, hbs] at h1
                  injection h1 with h1
                  rw [h1, flatK_len, encK_len]
                  have := HBB.out.2
                  omega)).mono ?_
              rintro e w8 ⟨rfl, hs8⟩
              have hw8 : Wr S (Tm.append (i : Int) (encK (keyX (⟨ky, sy, Ay, ny, cy⟩, dy)))) (K.take (k + 1)) := by
                have h1 := HW.out.1.step (x := keyX (⟨ky, sy, Ay, ny, cy⟩, dy)) HG.out.1.ex.ok (by
                  rw [HG.out.1.used]
                  have h2 := HG.out.1.sum
                  have h3 := HLT.out
                  have h4 := HBB.out.2
                  omega)
                rw [HG.out.1.next] at h1
                rw [HY.out.1]
                exact h1
              have HW8 : Hid (Wr S (Tm.append (i : Int) (encK (keyX (⟨ky, sy, Ay, ny, cy⟩, dy)))) (K.take (k + 1)) ∧ ∀ x ∈ K.take (k + 1), mayK x = true) := Lib.hid ⟨hw8, fun x hx => by
                rw [HY.out.1] at hx
                rcases List.mem_append.1 hx with h | h
                · exact HW.out.2 x h
                · rw [List.mem_singleton.1 h]
                  show mayI ky sy dy.length = true
                  rw [← HY.out.2.1.1]
                  exact HMY.out⟩
              have HS8 := Lib.hid hs8.swap.tail
              clear hs8 hw8 HS7 HBB
              go_wp2_with fail
              go_roundw
              case rel => exact ⟨k + 1, _, by go_num, HY.out.2.2.2, HW8, HS8⟩
              case measure => have := HY.out.2.2.2; simp [intOf]; omega
          · have q3 : ¬ (k : Int) < (m : Int) := by omega
            have hw9 : Wr S Tm K ∧ ∀ x ∈ K, mayK x = true := by
              have h1 := HW.out
              rw [take_all (by rw [HI.out.klen]; omega)] at h1
              exact h1
            have hg9 : Gd Tm (i + 1) (Ks ++ [K]) := HG.out.1.more hw9.1 HI.out.srd hw9.2 HI.out.sum (by have := HI.out.klen; have := HI.out.few; omega)
            have ha9 : Al w (Ks ++ [K]) (Xa ++ X) := by
              have h1 := HG.out.2.1.more HI.out.dat
              rw [← HI.out.key] at h1
              exact h1
            have hm9 : m7 + m = (Xa ++ X).length := by rw [List.length_append, HI.out.len, HG.out.2.2]
            have HG9 : Hid (Gd Tm (i + 1) (Ks ++ [K]) ∧ Al w (Ks ++ [K]) (Xa ++ X) ∧ m7 + m = (Xa ++ X).length) := Lib.hid ⟨hg9, ha9, hm9⟩
            have hs9 : St w wr (ownP 44 3 (.slice A7 m7 c7) m7 (flatI (Xa.map Prod.fst)) :: storeP sb Tm :: ownP 3 1 (.slice A8 (i + 1) c8) (i + 1) (ints (idsN 0 (i + 1))) :: []) := by
              have h1 := HSQ.out
              rw [HPL.out] at h1
              exact h1.sel [3, 0, 2] (by decide) (by simp)
            have HS9 := Lib.hid hs9
            have HMB : Hid (m7 ≤ 2400 ∧ m ≤ 200) := Lib.hid ⟨by
              have h1 := HG.out.2.1.len
              have h2 := HG.out.1.few
              have h3 := HLT.out
              have h4 := HG.out.2.2
              omega, HI.out.few⟩
            have d5 := HX.out _ _ hs9
            have hfull := fullN_snoc Ks K
            rw [HI.out.klen] at hfull
            have HF := Lib.hid hfull
            clear hw9 hg9 ha9 hm9 hs9 hfull HSQ hk hkm
            go_upto_region 22 with (
              at_builtin
              refine wpL_append_st rfl (.tmp 76) (.tmp 80) 22 22 rfl 44 (.agg #[.string ⟨#[]⟩, .int .i64 0, .slice none 0 0]) 3 48 Try.underlying22 infoItg rfl (by decide) (.slice A7 m7 c7) m7 (flatI (Xa.map Prod.fst)) rfl HS9.out (.slice At m ct) m (flatI L) rfl (Src.of_rd Try.underlying22 ((HT.out.rd.keep HS9.out.keep).src) m ct (by rw [flatI_len, HM.out]) (one_It _) (fun e => by have h1 := (HT.out.nil e).1; rw [HM.out, h1]; rfl)) (by have := HMB.out; unfold maxLen; omega) (by have := HMB.out; omega) ?_
              intro A10 c10 w10 _ _ hs10
              have hs10' : St w w10 (storeP sb Tm :: ownP 3 1 (.slice A8 (i + 1) c8) (i + 1) (ints (idsN 0 (i + 1))) :: ownP 44 3 (.slice A10 (m7 + m) c10) (m7 + m) (flatI ((Xa ++ X).map Prod.fst)) :: []) := by
                have h1 := hs10.sel [1, 2, 0] (by decide) (by simp)
                rw [List.map_append, HI.out.fst, flatI_append]
                exact h1
              have HS10 := Lib.hid hs10'
              clear hs10 hs10' HS9 d5)
            have q5 : ((fullN Ks : Nat) : Int) ≤ 12 := by
              have h1 := fullN_le Ks
              have h2 := HG.out.1.ex.len
              rw [idsN_len] at h2
              have h3 := HLT.out
              omega
            rcases Nat.eq_zero_or_pos m with h0 | h0
            · have q6 : ¬ (0 : Int) < (m : Int) := by omega
              rw [if_neg (by omega)] at HF
              clear h0
              go_wp2_with fail
              go_roundw
              case rel => exact ⟨i + 1, A8, c8, A10, m7 + m, c10, Tm, Ks ++ [K], Xa ++ X, rfl, rfl, by rw [HF.out]; rfl, by go_num, HLT.out, HG9, HS10⟩
              case measure => have := HLT.out; simp [intOf]; omega
            · have q6 : (0 : Int) < (m : Int) := by omega
              rw [if_pos h0] at HF
              clear h0
              go_wp2_with fail
              go_roundw
              case rel => exact ⟨i + 1, A8, c8, A10, m7 + m, c10, Tm, Ks ++ [K], Xa ++ X, rfl, rfl, by rw [HF.out]; go_num, by go_num, HLT.out, HG9, HS10⟩
              case measure => have := HLT.out; simp [intOf]; omega
    · have q1 : ¬ (i : Int) < (n : Int) := by omega
      have HIN : Hid (i = n ∧ i ≤ 12) := Lib.hid ⟨by omega, by omega⟩
      have q2 : (i : Int) ≤ 12 := by omega
      clear hlt hi
      go_wp2_with fail
      refine (merge_runs HS.out A6 i c6 (idsN 0 i) (fun u hu => hu.own_rdv.1) (idsN_len 0 i).symm Ks (HG.out.1.ex.has HG.out.1.may (by have := HG.out.1.sum; have := HIN.out; omega)) HG.out.1.srt (by rw [idsN_len]; have := HIN.out; omega) (fun id bs hf => by have h1 := HG.out.1.ex.short hf; have := HG.out.1.sum; have := HIN.out; omega) (by have := HG.out.1.few; have := HIN.out; omega)).mono ?_
      rintro e w2 ⟨A, c2, X, rows, he, hX, hO, hs2⟩
      have hxl : X.length = m7 := by
        have h1 := congrArg List.length hX
        rw [List.length_map, srtK_len] at h1
        rw [h1, HG.out.2.2, HG.out.2.1.len]
      rw [hxl] at he hs2
      subst he
      have HS2 : Hid (St w w2 (storeP sb S :: ownP 3 1 (.slice A6 i c6) i (ints (idsN 0 i)) :: ownP 44 3 (.slice A m7 c2) m7 (flatI (X.map Prod.fst)) :: rdsP rows :: ownP 44 3 (.slice A7 m7 c7) m7 (flatI (Xa.map Prod.fst)) :: [])) := Lib.hid (hs2.sel [2, 3, 0, 1, 4] (by decide) (by simp))
      have HX := Lib.hid (And.intro hX (And.intro hO hxl))
      clear hX hO hs2 hxl HS
      go_wp2_with fail
      refine (merge_nil w2 A6 i c6).mono ?_
      rintro e w3 ⟨rfl, rfl⟩
      have hcase : gone = false ∨ (gone = true ∧ i = 0) ∨ (gone = true ∧ 0 < i) := by
        cases gone
        · exact .inl rfl
        · rcases Nat.eq_zero_or_pos i with h | h
          · exact .inr (.inl ⟨rfl, h⟩)
          · exact .inr (.inr ⟨rfl, h⟩)
      rcases hcase with h | ⟨h, h0⟩ | ⟨h, h0⟩
      · subst h
        have HE : Hid (St w w3 (ownP 44 3 (.slice A m7 c2) m7 (flatI (X.map Prod.fst)) :: rdsP rows :: ownP 44 3 (.slice A7 m7 c7) m7 (flatI (Xa.map Prod.fst)) :: [])) := Lib.hid HS2.out.tail.tail
        clear HS2
        go_upto_region 31 with fail
        go_wp2_with fail
        refine (St.unlike_m HE.out A7 m7 c7 (Xa.map Prod.fst) (by rw [List.length_map]; exact HG.out.2.2) (fun u hu => hu.tail.tail.own_it) (by rw [List.length_map, HG.out.2.1.len]; have := HG.out.1.few; have := HIN.out; omega)).mono ?_
        rintro e w6 ⟨ub, rfl, hub, hs6⟩
        have HS6 := Lib.hid hs6
        clear hs6 HE
        cases ub with
        | false =>
          clear hub
          go_wp2_with fail
          refine (St.ans17 HS6.out).mono ?_
          rintro e w7 ⟨rfl, hs7⟩
          have HS7 := Lib.hid hs7
          clear hs7 HS6
          go_wp2_with fail
          go_ret
          exact ⟨rfl, HS7.out.keep⟩
        | true =>
          have HU : Hid (X.map keyX = srt ltK (Xa.map keyX)) := Lib.hid (by
            have h1 := ((hub rfl).keys (X := Xa) rfl (fun x hx => (HG.out.2.1.dat x hx).1)).1
            rw [HX.out.1]
            exact unlike_srt h1 ((srt_perm (lt := ltK) _).trans HG.out.2.1.perm) (srt_sorted swoK _))
          clear hub
          go_wp2_with fail
          refine (St.ans17 HS6.out).mono ?_
          rintro e w7 ⟨rfl, hs7⟩
          have HS7 := Lib.hid hs7
          clear hs7 HS6
          go_wp2_with fail
          refine (ref_sorted w7 A7 m7 c7 (Xa.map Prod.fst) (by rw [List.length_map]; exact HG.out.2.2.symm) HS7.out.tail.tail.own_it (by rw [HG.out.2.2, HG.out.2.1.len]; have := HG.out.1.few; have := HIN.out; omega)).mono ?_
          rintro e w8 ⟨A8, c8, rfl, hs8⟩
          have hs9 := HS7.out.lift hs8
          have HS9 : Hid (St w w8 (ownP 44 3 (.slice A8 m7 c8) m7 (flatI ((srt ltX Xa).map Prod.fst)) :: ownP 44 3 (.slice A m7 c2) m7 (flatI (X.map Prod.fst)) :: rdsP rows :: ownP 44 3 (.slice A7 m7 c7) m7 (flatI (Xa.map Prod.fst)) :: [])) := Lib.hid (by rw [srt_items]; exact hs9)
          clear hs8 hs9 HS7
          go_wp2_with fail
          refine (ref_sameall w8 A A8 m7 m7 c2 c8 X (srt ltX Xa) HX.out.2.2 (by
            have h1 := congrArg List.length HU.out
            rw [← srt_keys, List.length_map, List.length_map, HX.out.2.2] at h1
            exact h1.symm) (by rw [HU.out, srt_keys]) (out_rd HS9.out.tail HX.out.2.1).1 HS9.out.own_it (out_rd HS9.out.tail HX.out.2.1).2 (fun x hx => (HG.out.2.1.dat x ((srt_perm (lt := ltX) _).mem_iff.1 hx)).keep HS9.out.keep) (by rw [HG.out.2.2, HG.out.2.1.len]; have := HG.out.1.few; have := HIN.out; omega)).mono ?_
          rintro e w10 ⟨rfl, hk⟩
          have HK := Lib.hid (HS9.out.later hk).keep
          clear hk HS9
          go_wp2_with fail
          go_ret
          exact ⟨rfl, HK.out⟩
      · subst h
        have q6 : ¬ (0 : Int) < (i : Int) := by omega
        have HE : Hid (St w w3 (ownP 44 3 (.slice A m7 c2) m7 (flatI (X.map Prod.fst)) :: rdsP rows :: ownP 44 3 (.slice A7 m7 c7) m7 (flatI (Xa.map Prod.fst)) :: [])) := Lib.hid HS2.out.tail.tail
        clear HS2
        go_upto_region 31 with fail
        go_wp2_with fail
        refine (St.unlike_m HE.out A7 m7 c7 (Xa.map Prod.fst) (by rw [List.length_map]; exact HG.out.2.2) (fun u hu => hu.tail.tail.own_it) (by rw [List.length_map, HG.out.2.1.len]; have := HG.out.1.few; have := HIN.out; omega)).mono ?_
        rintro e w6 ⟨ub, rfl, hub, hs6⟩
        have HS6 := Lib.hid hs6
        clear hs6 HE
        cases ub with
        | false =>
          clear hub
          go_wp2_with fail
          refine (St.ans17 HS6.out).mono ?_
          rintro e w7 ⟨rfl, hs7⟩
          have HS7 := Lib.hid hs7
          clear hs7 HS6
          go_wp2_with fail
          go_ret
          exact ⟨rfl, HS7.out.keep⟩
        | true =>
          have HU : Hid (X.map keyX = srt ltK (Xa.map keyX)) := Lib.hid (by
            have h1 := ((hub rfl).keys (X := Xa) rfl (fun x hx => (HG.out.2.1.dat x hx).1)).1
            rw [HX.out.1]
            exact unlike_srt h1 ((srt_perm (lt := ltK) _).trans HG.out.2.1.perm) (srt_sorted swoK _))
          clear hub
          go_wp2_with fail
          refine (St.ans17 HS6.out).mono ?_
          rintro e w7 ⟨rfl, hs7⟩
          have HS7 := Lib.hid hs7
          clear hs7 HS6
          go_wp2_with fail
          refine (ref_sorted w7 A7 m7 c7 (Xa.map Prod.fst) (by rw [List.length_map]; exact HG.out.2.2.symm) HS7.out.tail.tail.own_it (by rw [HG.out.2.2, HG.out.2.1.len]; have := HG.out.1.few; have := HIN.out; omega)).mono ?_
          rintro e w8 ⟨A8, c8, rfl, hs8⟩
          have hs9 := HS7.out.lift hs8
          have HS9 : Hid (St w w8 (ownP 44 3 (.slice A8 m7 c8) m7 (flatI ((srt ltX Xa).map Prod.fst)) :: ownP 44 3 (.slice A m7 c2) m7 (flatI (X.map Prod.fst)) :: rdsP rows :: ownP 44 3 (.slice A7 m7 c7) m7 (flatI (Xa.map Prod.fst)) :: [])) := Lib.hid (by rw [srt_items]; exact hs9)
          clear hs8 hs9 HS7
          go_wp2_with fail
          refine (ref_sameall w8 A A8 m7 m7 c2 c8 X (srt ltX Xa) HX.out.2.2 (by
            have h1 := congrArg List.length HU.out
            rw [← srt_keys, List.length_map, List.length_map, HX.out.2.2] at h1
            exact h1.symm) (by rw [HU.out, srt_keys]) (out_rd HS9.out.tail HX.out.2.1).1 HS9.out.own_it (out_rd HS9.out.tail HX.out.2.1).2 (fun x hx => (HG.out.2.1.dat x ((srt_perm (lt := ltX) _).mem_iff.1 hx)).keep HS9.out.keep) (by rw [HG.out.2.2, HG.out.2.1.len]; have := HG.out.1.few; have := HIN.out; omega)).mono ?_
          rintro e w10 ⟨rfl, hk⟩
          have HK := Lib.hid (HS9.out.later hk).keep
          clear hk HS9
          go_wp2_with fail
          go_ret
          exact ⟨rfl, HK.out⟩
      · subst h
        have q6 : (0 : Int) < (i : Int) := by omega
        obtain ⟨j, hj⟩ : ∃ j, j = i / 2 := ⟨_, rfl⟩
        have e7 : (i : Int) / 2 = (j : Int) := by omega
        have q7 : (j : Int) < (i : Int) := by omega
        have hji : (idsN 0 i)[j]? = some (j : Int) := by
          unfold idsN
          rw [List.getElem?_map, List.getElem?_range (by omega)]
          simp
        obtain ⟨y0, hy0, hyc⟩ := HS2.out.tail.own_rdv.1 j (.int .i64 (j : Int)) (by
          show (ints (idsN 0 i))[j]? = _
          unfold ints
          rw [List.getElem?_map, hji]
          rfl)
        subst hy0
        have HJ := Lib.hid hji
        clear hj hji h0
        go_wp2_with fail
        refine (St.store_drop HS2.out (j : Int)).mono ?_
        rintro e w4 ⟨rfl, hs4⟩
        have HS4 := Lib.hid hs4
        clear hs4 HS2 hyc
        go_wp2_with fail
        refine (merge_gone HS4.out (some y0) i c6 (idsN 0 i) (fun u hu => hu.own_rdv.1) (idsN_len 0 i).symm (by rw [idsN_len]; have := HIN.out; omega) (fun id bs hf => by
          rw [StoreM.find_drop HG.out.1.ex.ok] at hf
          split at hf
          · cases hf
          · have h1 := HG.out.1.ex.short hf
            have := HG.out.1.sum
            have := HIN.out
            omega) (chkE_in HJ.out (by rw [StoreM.find_drop HG.out.1.ex.ok, if_pos rfl]))).mono ?_
        rintro e w5 ⟨rfl, hs5⟩
        have HE : Hid (St w w5 (ownP 44 3 (.slice A m7 c2) m7 (flatI (X.map Prod.fst)) :: rdsP rows :: ownP 44 3 (.slice A7 m7 c7) m7 (flatI (Xa.map Prod.fst)) :: [])) := Lib.hid hs5.tail.tail
        clear hs5 HS4
        go_upto_region 31 with fail
        go_wp2_with fail
        refine (St.unlike_m HE.out A7 m7 c7 (Xa.map Prod.fst) (by rw [List.length_map]; exact HG.out.2.2) (fun u hu => hu.tail.tail.own_it) (by rw [List.length_map, HG.out.2.1.len]; have := HG.out.1.few; have := HIN.out; omega)).mono ?_
        rintro e w6 ⟨ub, rfl, hub, hs6⟩
        have HS6 := Lib.hid hs6
        clear hs6 HE
        cases ub with
        | false =>
          clear hub
          go_wp2_with fail
          refine (St.ans17 HS6.out).mono ?_
          rintro e w7 ⟨rfl, hs7⟩
          have HS7 := Lib.hid hs7
          clear hs7 HS6
          go_wp2_with fail
          go_ret
          exact ⟨rfl, HS7.out.keep⟩
        | true =>
          have HU : Hid (X.map keyX = srt ltK (Xa.map keyX)) := Lib.hid (by
            have h1 := ((hub rfl).keys (X := Xa) rfl (fun x hx => (HG.out.2.1.dat x hx).1)).1
            rw [HX.out.1]
            exact unlike_srt h1 ((srt_perm (lt := ltK) _).trans HG.out.2.1.perm) (srt_sorted swoK _))
          clear hub
          go_wp2_with fail
          refine (St.ans17 HS6.out).mono ?_
          rintro e w7 ⟨rfl, hs7⟩
          have HS7 := Lib.hid hs7
          clear hs7 HS6
          go_wp2_with fail
          refine (ref_sorted w7 A7 m7 c7 (Xa.map Prod.fst) (by rw [List.length_map]; exact HG.out.2.2.symm) HS7.out.tail.tail.own_it (by rw [HG.out.2.2, HG.out.2.1.len]; have := HG.out.1.few; have := HIN.out; omega)).mono ?_
          rintro e w8 ⟨A8, c8, rfl, hs8⟩
          have hs9 := HS7.out.lift hs8
          have HS9 : Hid (St w w8 (ownP 44 3 (.slice A8 m7 c8) m7 (flatI ((srt ltX Xa).map Prod.fst)) :: ownP 44 3 (.slice A m7 c2) m7 (flatI (X.map Prod.fst)) :: rdsP rows :: ownP 44 3 (.slice A7 m7 c7) m7 (flatI (Xa.map Prod.fst)) :: [])) := Lib.hid (by rw [srt_items]; exact hs9)
          clear hs8 hs9 HS7
          go_wp2_with fail
          refine (ref_sameall w8 A A8 m7 m7 c2 c8 X (srt ltX Xa) HX.out.2.2 (by
            have h1 := congrArg List.length HU.out
            rw [← srt_keys, List.length_map, List.length_map, HX.out.2.2] at h1
            exact h1.symm) (by rw [HU.out, srt_keys]) (out_rd HS9.out.tail HX.out.2.1).1 HS9.out.own_it (out_rd HS9.out.tail HX.out.2.1).2 (fun x hx => (HG.out.2.1.dat x ((srt_perm (lt := ltX) _).mem_iff.1 hx)).keep HS9.out.keep) (by rw [HG.out.2.2, HG.out.2.1.len]; have := HG.out.1.few; have := HIN.out; omega)).mono ?_
          rintro e w10 ⟨rfl, hk⟩
          have HK := Lib.hid (HS9.out.later hk).keep
          clear hk HS9
          go_wp2_with fail
          go_ret
          exact ⟨rfl, HK.out⟩
set_option maxRecDepth 100000 in
set_option maxHeartbeats 4000000 in
theorem sortMerges_big (w : World) (a : Option Addr) (n c : Nat) (gone : Bool) (hn : 12 < n) :
    Calls Try.prog 11 #[.slice a n c, .bool gone] w fun e w' => e = .returned (.bool true) ∧ Keep (fun b => w.heap.size ≤ b) w w' := by
  have q0 : (12 : Int) < (n : Int) := by omega
  clear hn
  go_enter Try.func11, Try.ntmps11
  go_wp2_with fail
  refine (St.ans17 (St.start w)).mono ?_
  rintro e w3 ⟨rfl, hs3⟩
  have HS3 := Lib.hid hs3
  clear hs3
  go_wp2_with fail
  go_ret
  exact ⟨rfl, HS3.out.keep⟩
theorem sortMerges_walk (w : World) (a : Option Addr) (n c : Nat) (T : List (Option Addr × Nat × List It)) (hn : n = T.length) (_ : n ≤ 9223372036854775807) (hr : RdV w a (T.map lsV)) (hT : ∀ t ∈ T, LsOk w t.1 t.2.1 t.2.2) (gone : Bool) :
    Calls Try.prog 11 #[.slice a n c, .bool gone] w fun e w' => e = .returned (.bool true) ∧ Below w.heap.size w w' := by
  subst hn
  by_cases h : T.length ≤ 12
  · exact (sortMerges_small w a c T gone hr hT h).mono fun _ _ ⟨h1, h2⟩ => ⟨h1, h2.below (Nat.le_refl _) (fun _ _ h => h)⟩
  · exact (sortMerges_big w a T.length c gone (by omega)).mono fun _ _ ⟨h1, h2⟩ => ⟨h1, h2.below (Nat.le_refl _) (fun _ _ h => h)⟩
end Go.Proofs.Ytkglkpcpgdeneaa
