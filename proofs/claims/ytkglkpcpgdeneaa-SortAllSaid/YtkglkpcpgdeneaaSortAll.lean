/- SortAll. Conditions: none. -/
import Derived.Test.YtkglkpcpgdeneaaSort17
namespace Go.Proofs.Ytkglkpcpgdeneaa
open Go.RowKit
set_option linter.unusedVariables false
set_option linter.unusedSimpArgs false

/-- How often x is among the first k. -/
def cntK (K : List K3i) (x : K3i) (k : Nat) : Nat := ((K.take k).filter fun y => decide (y = x)).length
theorem cntK_zero (K : List K3i) (x : K3i) : cntK K x 0 = 0 := rfl
theorem cntK_le (K : List K3i) (x : K3i) (k : Nat) : cntK K x k ≤ k := by
  unfold cntK
  refine Nat.le_trans (List.length_filter_le _ _) ?_
  rw [List.length_take]
  omega
theorem cntK_succ {K : List K3i} {x y : K3i} {k : Nat} (h : K[k]? = some y) : cntK K x (k + 1) = cntK K x k + (if y = x then 1 else 0) := by
  obtain ⟨h1, h2⟩ := List.getElem?_eq_some_iff.1 h
  unfold cntK
  rw [List.take_succ_eq_append_getElem h1, h2, List.filter_append, List.length_append]
  congr 1
  rw [List.filter_cons]
  by_cases e : y = x
  · simp [e]
  · simp [e]
theorem cntK_all {K M : List K3i} (h : K.Perm M) (x : K3i) : cntK K x K.length = cntK M x M.length := by
  unfold cntK
  rw [List.take_length, List.take_length]
  exact (h.filter _).length_eq
theorem sameB_key {p q : ItX} : sameB p.1 q.1 p.2 q.2 = decide (keyX p = keyX q) := by
  unfold sameB keyX
  by_cases h : (p.1.k, p.1.s, p.2) = (q.1.k, q.1.s, q.2)
  · rw [decide_eq_true h]
    injection h with h1 h2
    injection h2 with h2 h3
    simp [h1, h2, h3]
  · rw [decide_eq_false h]
    rw [Bool.and_eq_false_iff, Bool.and_eq_false_iff]
    by_cases h1 : p.1.k.toList = q.1.k.toList
    · by_cases h2 : p.1.s = q.1.s
      · by_cases h3 : p.2 = q.2
        · exact absurd (by rw [ba_ext h1, h2, h3]) h
        · right; simpa using h3
      · left; right; simpa using h2
    · left; left; simpa using h1
set_option maxRecDepth 100000 in
set_option maxHeartbeats 16000000 in
theorem sortAll_small (w : World) (a : Option Addr) (c : Nat) (L : List It) (zb zf : Nat) (hzb : zb ≤ 255) (hzf : zf ≤ 255) (hr : RdI w a L) (hx : ∀ x ∈ L, ItOk w x) (hl : L.length ≤ 200 ∧ wsum L ≤ 100000) :
    Calls Try.prog 12 #[.slice a L.length c, .int .u8 zb, .int .u8 zf] w fun e w' => e = .returned (.bool true) ∧ Keep (fun b => w.heap.size ≤ b) w w' := by
  obtain ⟨X, hX⟩ : ∃ X, X = xsI w L := ⟨_, rfl⟩
  have HI : Hid (InI w a L X) := Lib.hid (by rw [hX]; exact InI.mk' hr hx hl)
  have HO := Lib.hid (And.intro hx hl)
  obtain ⟨n, hn⟩ : ∃ n, n = L.length := ⟨_, rfl⟩
  have HN := Lib.hid hn
  have q0 : (n : Int) ≤ 200 := by omega
  rw [← hn]
  have qa : (zb : Int) ≤ 255 := by omega
  have qb : (zf : Int) ≤ 255 := by omega
  have HXN : Hid (X.length = n) := Lib.hid (by rw [HI.out.len, hn])
  clear hr hx hl hX hn hzb hzf
  go_enter Try.func12, Try.ntmps12
  go_wp2_with fail
  refine (St.light17 (St.start w) a n c L true HN.out HI.out.rd (by have := HI.out.few; omega) (fun x hx => (HO.out.1 x hx).small2) (decide_eq_true HO.out.2)).mono ?_
  rintro e w1 ⟨rfl, hs1⟩
  have HS1 := Lib.hid hs1
  clear hs1
  go_upto_region 4 with fail
  go_loopw [7] (fun v7 wr => ∃ i : Nat, i ≤ n ∧ v7 = .int .i64 i ∧ Hid (∀ x ∈ X.take i, mayK (keyX x) = true) ∧ Hid (St w wr [])) (fun v7 _ => n - (intOf v7).toNat)
  case atStart => exact ⟨0, Nat.zero_le _, rfl, Lib.hid (fun x hx => by simp at hx), HS1⟩
  case round =>
    clear HS1
    obtain ⟨i, hi, rfl, HM, HS⟩ := hrel
    by_cases hlt : i < n
    · have q1 : (i : Int) < (n : Int) := by omega
      obtain ⟨x, hx⟩ : ∃ x, X[i]? = some x := ⟨_, List.getElem?_eq_getElem (by rw [HXN.out]; exact hlt)⟩
      obtain ⟨ba, o, rfl, d0, d1, d2⟩ := rdI_cells (HI.out.rd.keep HS.out.keep) (i := i) (x := x.1) (by rw [← HI.out.fst, List.getElem?_map, hx]; rfl)
      have htk : X.take (i + 1) = X.take i ++ [x] := by
        obtain ⟨h1, h2⟩ := List.getElem?_eq_some_iff.1 hx
        rw [List.take_succ_eq_append_getElem h1, h2]
      have hxl := (HI.out.dat x (List.mem_iff_getElem?.2 ⟨i, hx⟩)).1
      have HX := Lib.hid (And.intro htk (And.intro hlt hxl))
      clear hx htk hlt hi hxl
      obtain ⟨⟨k2, s, A1, n1, c1⟩, d⟩ := x
      go_wp2_with fail
      refine (St.may13 HS.out ⟨k2, s, A1, n1, c1⟩ (mayI k2 s n1) rfl).mono ?_
      rintro e w4 ⟨rfl, hs4⟩
      have HS4 := Lib.hid hs4
      clear hs4 HS d0 d1 d2
      cases hmy : mayI k2 s n1 with
      | false =>
        clear hmy
        go_wp2_with fail
        refine (St.ans17 HS4.out).mono ?_
        rintro e w5 ⟨rfl, hs5⟩
        have HS5 := Lib.hid hs5
        clear hs5 HS4
        go_wp2_with fail
        go_ret
        exact ⟨rfl, HS5.out.keep⟩
      | true =>
        have HMY := Lib.hid hmy
        clear hmy
        go_wp2_with fail
        go_roundw
        case rel =>
          refine ⟨i + 1, HX.out.2.1, by go_num, Lib.hid (fun x hx => ?_), HS4⟩
          rw [HX.out.1] at hx
          rcases List.mem_append.1 hx with h | h
          · exact HM.out x h
          · rw [List.mem_singleton.1 h]
            show mayI k2 s d.length = true
            have h2 : n1 = d.length := HX.out.2.2
            rw [← h2]
            exact HMY.out
        case measure => have := HX.out.2.1; simp [intOf]; omega
    · have q1 : ¬ (i : Int) < (n : Int) := by omega
      have hmay : ∀ x ∈ X, mayK (keyX x) = true := by
        have h1 := HM.out
        rw [List.take_of_length_le (by rw [HXN.out]; omega)] at h1
        exact h1
      have HMAY := Lib.hid hmay
      clear hlt hi hmay HM
      go_wp2_with fail
      clear q1
      refine (St.store_new HS.out 16777216 none 0 0 [] (by omega) (RdV.nil _ _) rfl (fun _ => ⟨rfl, rfl⟩) (by omega)).mono ?_
      rintro e w3 ⟨sb, rfl, hs3⟩
      have HS3 := Lib.hid hs3
      clear hs3 HS
      go_wp2_with fail
      refine (St.sort17 HS3.out a n c HI.out.src (by rw [HN.out, HI.out.len]) (by have := HI.out.len; have := HI.out.few; omega) HI.out.sum HMAY.out ((zb : Int) + 2) (by omega) (zf + 2) ((zf : Int) + 2) (by omega) (by omega)).mono ?_
      rintro e w4 ⟨T, A, c4, Y, rows, pk, rn, mg, z1, z2, z3, z4, z5, he, z6, hO, z8, hs4⟩
      have hperm : (Y.map keyX).Perm (X.map keyX) := by rw [z6]; exact sortK_perm _ _ _
      have hsrt : (Y.map keyX).Pairwise fun x y => ltK y x = false := by rw [z6]; exact srt_sorted swoK _
      have hyn : Y.length = n := by have := hperm.length_eq; rw [List.length_map, List.length_map] at this; rw [this, HXN.out]
      clear z1 z2 z3 z4 z5 z6 z8
      subst he
      rw [hyn] at hs4 ⊢
      have hs5 := hs4.boxB [.int .i64 pk, .int .i64 rn, .int .i64 mg] 28 w4.heap.size rfl
      obtain ⟨PL, hPL⟩ : ∃ PL, PL = ownP 44 3 (.slice A n c4) n (flatI (Y.map Prod.fst)) :: rdsP rows :: [] := ⟨_, rfl⟩
      have HS5 : Hid (St w (w4.alloc (Obj.cells #[.int .i64 pk, .int .i64 rn, .int .i64 mg] 28)) PL) := Lib.hid (by
        rw [hPL]
        exact (hs5.tail.mv 2 (by simp)).tail)
      have HY := Lib.hid (And.intro hperm (And.intro hsrt (And.intro hyn (And.intro hO hPL))))
      clear hs4 hs5 hperm hsrt hyn hO hPL HS3
      go_upto_region 9 with fail
      generalize w4.alloc (Obj.cells #[.int .i64 pk, .int .i64 rn, .int .i64 mg] 28) = w5 at HS5 ⊢
      go_upto_region 12 with fail
      go_loopw [11] (fun v11 wr => ∃ i : Nat, i ≤ n ∧ v11 = .int .i64 i ∧ Hid (St w wr PL)) (fun v11 _ => n - (intOf v11).toNat)
      case atStart => exact ⟨0, Nat.zero_le _, rfl, HS5⟩
      case round =>
        clear HS5
        obtain ⟨i, hi, rfl, HS⟩ := hrel
        by_cases hlt : i < n
        · have q1 : (i : Int) < (n : Int) := by omega
          obtain ⟨y, hy⟩ : ∃ y, Y[i]? = some y := ⟨_, List.getElem?_eq_getElem (by rw [HY.out.2.2.1]; exact hlt)⟩
          have hown0 : RdI wr A (Y.map Prod.fst) := by have h1 := HS.out; rw [HY.out.2.2.2.2] at h1; exact h1.own_it
          obtain ⟨ga, go, hA, _⟩ := rdI_cells hown0 (i := i) (x := y.1) (by rw [List.getElem?_map, hy]; rfl)
          subst hA
          have HC : Hid (∀ (u : World) (j : Nat) (x : ItX), St w u PL → Y[j]? = some x → u.cell? ⟨ga, go + j * 3, none⟩ = some (.string x.1.k) ∧ u.cell? ⟨ga, go + j * 3 + 1, none⟩ = some (.int .i64 x.1.s) ∧ u.cell? ⟨ga, go + j * 3 + 2, none⟩ = some (.slice x.1.A x.1.n x.1.c) ∧ DatI u x.1 x.2) := Lib.hid (fun u j x hu hj => by
            rw [HY.out.2.2.2.2] at hu
            obtain ⟨b1, o1, e1, c0, c1, c2⟩ := rdI_cells hu.own_it (i := j) (x := x.1) (by rw [List.getElem?_map, hj]; rfl)
            injection e1 with e1
            injection e1 with e1 e2
            subst e1 e2
            exact ⟨c0, c1, c2, hu.tail.out_dat HY.out.2.2.2.1 x (List.mem_iff_getElem?.2 ⟨j, hj⟩)⟩)
          have HI2 := Lib.hid (And.intro hy hlt)
          clear hown0 hy hlt hi
          have hcase : decide ((0 : Int) < (i : Int)) = false ∨ (decide ((0 : Int) < (i : Int)) = true ∧ ∃ j : Nat, i = j + 1) := by
            rcases Nat.eq_zero_or_pos i with h0 | h0
            · left; simp only [decide_eq_false_iff_not]; omega
            · right; exact ⟨decide_eq_true (by omega), i - 1, by omega⟩
          have hprev : ∃ (j : Nat) (yp : ItX), (decide ((0 : Int) < (i : Int)) = true → i = j + 1) ∧ j < n ∧ Y[j]? = some yp ∧ (decide ((0 : Int) < (i : Int)) = true → lt2 y.1.k y.1.s yp.1.k yp.1.s = false) := by
            rcases hcase with h0 | ⟨h0, j, hj⟩
            · exact ⟨i, y, (fun h => by rw [h0] at h; cases h), HI2.out.2, HI2.out.1, (fun h => by rw [h0] at h; cases h)⟩
            · have hjl : j < Y.length := by rw [HY.out.2.2.1]; have := HI2.out.2; omega
              refine ⟨j, Y[j], fun _ => hj, by have := HI2.out.2; omega, List.getElem?_eq_getElem hjl, fun _ => ?_⟩
              have hil : i < Y.length := by rw [HY.out.2.2.1]; exact HI2.out.2
              have h2 := List.pairwise_iff_getElem.1 HY.out.2.1 j i (by rw [List.length_map]; exact hjl) (by rw [List.length_map]; exact hil) (by omega)
              rw [List.getElem_map, List.getElem_map] at h2
              have h3 := HI2.out.1
              rw [List.getElem?_eq_getElem hil] at h3
              injection h3 with h3
              rw [h3] at h2
              exact h2
          obtain ⟨j, yp, hj1, hjn, hjy, hjl⟩ := hprev
          have HJ := Lib.hid (And.intro hjy hjl)
          have q2 : (j : Int) < (n : Int) := by omega
          have hcase2 : (decide ((0 : Int) < (i : Int)) = false ∧ decide (0 < i) = false) ∨ (decide ((0 : Int) < (i : Int)) = true ∧ decide (0 < i) = true ∧ ((i : Int) - 1).toNat = j ∧ (1 : Int) ≤ (i : Int) ∧ (i : Int) - 1 < (n : Int) ∧ IntKind.i64.wrap ((i : Int) - 1) = (i : Int) - 1) := by
            rcases hcase with h0 | ⟨h0, _⟩
            · refine .inl ⟨h0, ?_⟩
              simp only [decide_eq_false_iff_not] at h0 ⊢
              omega
            · refine .inr ⟨h0, ?_, by have := hj1 h0; omega, by have := hj1 h0; omega, by omega, by rw [IntWalk.i64_in _ (by omega)]⟩
              simp only [decide_eq_true_eq] at h0 ⊢
              omega
          clear hcase hj1 hjn hjy hjl
          go_wp2_with fail
          rcases hcase2 with ⟨y1, y1n⟩ | ⟨y1, y1n, y2, y3, y4, y5⟩
          all_goals
            refine wp_region_G [] Anew (fun u => St w u PL) (by kernel_rfl) (by kernel_rfl) (by kernel_rfl) Anew.refl (St.staysA _ _) HS.out.drew ?_
            clear HS
            repeat (first
              | (apply wpG_skip
                 · rfl
                 simp only [Act.put, List.setIfInBounds_toArray, List.set_cons_zero, List.set_cons_succ])
              | (apply wpG_val
                 · rfl
                 · intro u hu
                   obtain ⟨c0, c1, c2, _⟩ := HC.out u i y hu HI2.out.1
                   obtain ⟨p0, p1, p2, _⟩ := HC.out u j yp hu HJ.out.1
                   clear hu
                   (go_simp <;> with_reducible rfl)
                 simp only [Act.put, List.setIfInBounds_toArray, List.set_cons_zero, List.set_cons_succ])
              | (apply wpG_call
                 · rfl
                 · intro u
                   go_simp
                   exact ⟨rfl, rfl⟩
                 · intro u hu
                   exact (less13 y.1.k yp.1.k y.1.s yp.1.s _ _ u).mono fun e w' h => ⟨by rw [h.1, HJ.out.2 y1], h.2⟩
                 simp only [Act.put, List.setIfInBounds_toArray, List.set_cons_zero, List.set_cons_succ]))
            refine wpG_nil ?_
            intro w7 hs7
            have HS7 := Lib.hid hs7
            clear hs7 y1 y1n
            go_upto_region 18 with fail
            try clear y2 y3 y4 y5
            clear q2
            go_loopw [12, 13] (fun v12 v13 wq => ∃ k : Nat, k ≤ n ∧ v12 = .int .i64 (((cntK (Y.map keyX) (keyX y) k : Nat) : Int) - ((cntK (X.map keyX) (keyX y) k : Nat) : Int)) ∧ v13 = .int .i64 k ∧ Hid (St w wq PL)) (fun _ v13 _ => n - (intOf v13).toNat)
            case atStart => exact ⟨0, Nat.zero_le _, rfl, rfl, HS7⟩
            case round =>
              clear HS7
              obtain ⟨k, hk, rfl, rfl, HS⟩ := hrel
              obtain ⟨cy, hcy⟩ : ∃ cy, cy = cntK (Y.map keyX) (keyX y) k := ⟨_, rfl⟩
              obtain ⟨cx, hcx⟩ : ∃ cx, cx = cntK (X.map keyX) (keyX y) k := ⟨_, rfl⟩
              have q6 : (cy : Int) ≤ 200 := by have := cntK_le (Y.map keyX) (keyX y) k; omega
              have q7 : (cx : Int) ≤ 200 := by have := cntK_le (X.map keyX) (keyX y) k; omega
              rw [← hcy, ← hcx]
              by_cases hkn : k < n
              · have q5 : (k : Int) < (n : Int) := by omega
                obtain ⟨yk, hyk⟩ : ∃ yk, Y[k]? = some yk := ⟨_, List.getElem?_eq_getElem (by rw [HY.out.2.2.1]; exact hkn)⟩
                obtain ⟨xk, hxk⟩ : ∃ xk, X[k]? = some xk := ⟨_, List.getElem?_eq_getElem (by rw [HXN.out]; exact hkn)⟩
                have hLk : L[k]? = some xk.1 := by rw [← HI.out.fst, List.getElem?_map, hxk]; rfl
                obtain ⟨xa, xo, ha, _⟩ := rdI_cells (HI.out.rd.keep HS.out.keep) hLk
                subst ha
                have HXC : Hid (∀ (u : World), St w u PL → u.cell? ⟨xa, xo + k * 3, none⟩ = some (.string xk.1.k) ∧ u.cell? ⟨xa, xo + k * 3 + 1, none⟩ = some (.int .i64 xk.1.s) ∧ u.cell? ⟨xa, xo + k * 3 + 2, none⟩ = some (.slice xk.1.A xk.1.n xk.1.c) ∧ DatI u xk.1 xk.2) := Lib.hid (fun u hu => by
                  obtain ⟨b1, o1, e1, c0, c1, c2⟩ := rdI_cells (HI.out.rd.keep hu.keep) hLk
                  injection e1 with e1
                  injection e1 with e1 e2
                  subst e1 e2
                  exact ⟨c0, c1, c2, (HI.out.dat xk (List.mem_iff_getElem?.2 ⟨k, hxk⟩)).keep hu.keep⟩)
                have s1 : cntK (Y.map keyX) (keyX y) (k + 1) = cy + (if keyX yk = keyX y then 1 else 0) := by rw [hcy]; exact cntK_succ (by rw [List.getElem?_map, hyk]; rfl)
                have s2 : cntK (X.map keyX) (keyX y) (k + 1) = cx + (if keyX xk = keyX y then 1 else 0) := by rw [hcx]; exact cntK_succ (by rw [List.getElem?_map, hxk]; rfl)
                obtain ⟨b1, hb1⟩ : ∃ b1, b1 = sameB yk.1 y.1 yk.2 y.2 := ⟨_, rfl⟩
                obtain ⟨b2, hb2⟩ : ∃ b2, b2 = sameB xk.1 y.1 xk.2 y.2 := ⟨_, rfl⟩
                have s3 : cntK (Y.map keyX) (keyX y) (k + 1) = cy + b1.toNat := by
                  rw [s1, hb1, sameB_key]
                  by_cases e : keyX yk = keyX y <;> simp [e]
                have s4 : cntK (X.map keyX) (keyX y) (k + 1) = cx + b2.toNat := by
                  rw [s2, hb2, sameB_key]
                  by_cases e : keyX xk = keyX y <;> simp [e]
                have HSS := Lib.hid (And.intro s3 (And.intro s4 (And.intro hb1 (And.intro hb2 (And.intro hyk hkn)))))
                clear s1 s2 s3 s4 hb1 hb2 hyk hxk hLk hkn hk hcy hcx
                go_wp2_with fail
                refine wp_region_G [] Anew (fun u => St w u PL) (by kernel_rfl) (by kernel_rfl) (by kernel_rfl) Anew.refl (St.staysA _ _) HS.out.drew ?_
                clear HS
                repeat (first
                  | (apply wpG_skip
                     · rfl
                     simp only [Act.put, List.setIfInBounds_toArray, List.set_cons_zero, List.set_cons_succ])
                  | (apply wpG_val
                     · rfl
                     · intro u hu
                       obtain ⟨c0, c1, c2, _⟩ := HC.out u i y hu HI2.out.1
                       obtain ⟨p0, p1, p2, _⟩ := HC.out u k yk hu HSS.out.2.2.2.2.1
                       clear hu
                       (go_simp <;> with_reducible rfl)
                     simp only [Act.put, List.setIfInBounds_toArray, List.set_cons_zero, List.set_cons_succ])
                  | (apply wpG_call
                     · rfl
                     · intro u
                       go_simp
                       exact ⟨rfl, rfl⟩
                     · intro u hu
                       exact same_g yk.1 y.1 yk.2 y.2 b1 HSS.out.2.2.1.symm (HC.out u k yk hu HSS.out.2.2.2.2.1).2.2.2 (HC.out u i y hu HI2.out.1).2.2.2
                     simp only [Act.put, List.setIfInBounds_toArray, List.set_cons_zero, List.set_cons_succ]))
                refine wpG_nil ?_
                intro w8 hs8
                have HS8 := Lib.hid hs8
                clear hs8
                have h12 : (b1 = true ∧ b2 = true) ∨ (b1 = true ∧ b2 = false) ∨ (b1 = false ∧ b2 = true) ∨ (b1 = false ∧ b2 = false) := by cases b1 <;> cases b2 <;> simp
                rcases h12 with ⟨rfl, rfl⟩ | ⟨rfl, rfl⟩ | ⟨rfl, rfl⟩ | ⟨rfl, rfl⟩
                all_goals
                  go_wp2_with fail
                  refine wp_region_G [] Anew (fun u => St w u PL) (by kernel_rfl) (by kernel_rfl) (by kernel_rfl) Anew.refl (St.staysA _ _) HS8.out.drew ?_
                  clear HS8
                  repeat (first
                    | (apply wpG_skip
                       · rfl
                       simp only [Act.put, List.setIfInBounds_toArray, List.set_cons_zero, List.set_cons_succ])
                    | (apply wpG_val
                       · rfl
                       · intro u hu
                         obtain ⟨c0, c1, c2, _⟩ := HC.out u i y hu HI2.out.1
                         obtain ⟨p0, p1, p2, _⟩ := HXC.out u hu
                         clear hu
                         (go_simp <;> with_reducible rfl)
                       simp only [Act.put, List.setIfInBounds_toArray, List.set_cons_zero, List.set_cons_succ])
                    | (apply wpG_call
                       · rfl
                       · intro u
                         go_simp
                         exact ⟨rfl, rfl⟩
                       · intro u hu
                         exact same_g xk.1 y.1 xk.2 y.2 _ HSS.out.2.2.2.1.symm (HXC.out u hu).2.2.2 (HC.out u i y hu HI2.out.1).2.2.2
                       simp only [Act.put, List.setIfInBounds_toArray, List.set_cons_zero, List.set_cons_succ]))
                  refine wpG_nil ?_
                  intro w9 hs9
                  have HS9 := Lib.hid hs9
                  clear hs9
                  go_wp2_with fail
                  go_roundw
                  case rel => exact ⟨k + 1, HSS.out.2.2.2.2.2, by rw [HSS.out.1, HSS.out.2.1]; simp only [Bool.toNat_true, Bool.toNat_false]; congr 1 <;> omega, by go_num, HS9⟩
                  case measure => have := HSS.out.2.2.2.2.2; simp [intOf]; omega
              · have q5 : ¬ (k : Int) < (n : Int) := by omega
                have hz : (cy : Int) - (cx : Int) = 0 := by
                  have h1 := cntK_all HY.out.1 (keyX y)
                  rw [List.length_map, List.length_map, HY.out.2.2.1, HXN.out] at h1
                  have h2 : k = n := by omega
                  rw [hcy, hcx, h2, h1]
                  omega
                rw [hz]
                clear hkn hk hcy hcx hz q6 q7
                go_wp2_with fail
                go_roundw
                case rel => exact ⟨i + 1, HI2.out.2, by go_num, HS⟩
                case measure => have := HI2.out.2; simp [intOf]; omega
        · have q1 : ¬ (i : Int) < (n : Int) := by omega
          clear hlt hi
          go_wp2_with fail
          refine (St.ans17 HS.out).mono ?_
          rintro e w6 ⟨rfl, hs6⟩
          have HS6 := Lib.hid hs6
          clear hs6 HS
          go_wp2_with fail
          go_ret
          exact ⟨rfl, HS6.out.keep⟩
set_option maxRecDepth 100000 in
set_option maxHeartbeats 4000000 in
theorem sortAll_big (w : World) (a : Option Addr) (c : Nat) (L : List It) (zb zf : Int) (hr : RdI w a L) (hx : ∀ x ∈ L, ItOk w x) (hl : L.length ≤ 4611686018427387904) (hs : ¬ (L.length ≤ 200 ∧ wsum L ≤ 100000)) :
    Calls Try.prog 12 #[.slice a L.length c, .int .u8 zb, .int .u8 zf] w fun e w' => e = .returned (.bool true) ∧ Keep (fun b => w.heap.size ≤ b) w w' := by
  have HO := Lib.hid (And.intro hr (And.intro hx (And.intro hl hs)))
  obtain ⟨n, hn⟩ : ∃ n, n = L.length := ⟨_, rfl⟩
  have HN := Lib.hid hn
  rw [← hn]
  clear hr hx hl hs hn
  go_enter Try.func12, Try.ntmps12
  go_wp2_with fail
  refine (St.light17 (St.start w) a n c L false HN.out HO.out.1 HO.out.2.2.1 (fun x hx => (HO.out.2.1 x hx).small2) (decide_eq_false HO.out.2.2.2)).mono ?_
  rintro e w1 ⟨rfl, hs1⟩
  have HS1 := Lib.hid hs1
  clear hs1
  go_wp2_with fail
  refine (St.ans17 HS1.out).mono ?_
  rintro e w3 ⟨rfl, hs3⟩
  have HS3 := Lib.hid hs3
  clear hs3 HS1
  go_wp2_with fail
  go_ret
  exact ⟨rfl, HS3.out.keep⟩
theorem sortAll_walk (w : World) (a : Option Addr) (n c : Nat) (L : List It) (hn : n = L.length) (_ : n ≤ c) (hc : c ≤ 2932031007402) (hr : RdI w a L) (_ : a = none → L = [] ∧ c = 0) (hx : ∀ x ∈ L, ItOk w x) (z : Int) (hz : IntKind.u8.min ≤ z ∧ z ≤ IntKind.u8.max) (y : Int) (hy : IntKind.u8.min ≤ y ∧ y ≤ IntKind.u8.max) :
    Calls Try.prog 12 #[.slice a n c, .int .u8 z, .int .u8 y] w fun e w' => e = .returned (.bool true) ∧ Below w.heap.size w w' := by
  subst hn
  have e1 : IntKind.u8.min = 0 := rfl
  have e2 : IntKind.u8.max = 255 := rfl
  by_cases h : L.length ≤ 200 ∧ wsum L ≤ 100000
  · obtain ⟨za, rfl⟩ := Int.eq_ofNat_of_zero_le (show 0 ≤ z by omega)
    obtain ⟨zb, rfl⟩ := Int.eq_ofNat_of_zero_le (show 0 ≤ y by omega)
    exact (sortAll_small w a c L za zb (by omega) (by omega) hr hx h).mono fun _ _ ⟨h1, h2⟩ => ⟨h1, h2.below (Nat.le_refl _) (fun _ _ h => h)⟩
  · exact (sortAll_big w a c L z y hr hx (by omega) h).mono fun _ _ ⟨h1, h2⟩ => ⟨h1, h2.below (Nat.le_refl _) (fun _ _ h => h)⟩
end Go.Proofs.Ytkglkpcpgdeneaa
