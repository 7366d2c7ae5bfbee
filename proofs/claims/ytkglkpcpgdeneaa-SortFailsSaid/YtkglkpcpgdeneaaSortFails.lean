/- SortFails. Conditions: none. -/
import Derived.Test.YtkglkpcpgdeneaaSortL
namespace Go.Proofs.Ytkglkpcpgdeneaa
open Go.RowKit
set_option linter.unusedVariables false
set_option linter.unusedSimpArgs false

theorem wr_tail (fan : Nat) (hf2 : 2 ≤ fan) : ∀ (fuel : Nat) {S T : StoreM} {ids : List Int} {Ks : List (List K3i)}, Ex S ids Ks → S.next + ids.length ≤ 65536 → Ks.flatten.length ≤ 1000 → runO S (tailO fuel S.next fan ids Ks) = (T, 0) → T.writes ≤ S.writes + 1000 * fuel
  | 0, S, T, ids, Ks, h, hn, hl, hr => by
    have h1 : runO S (ids.map OpS.drop) = (T, 0) := hr
    rw [dropsS_runO] at h1
    injection h1 with h1
    rw [← h1, (dropsS_keep ids S).2.1]
    omega
  | fuel + 1, S, T, ids, Ks, h, hn, hl, hr => by
    by_cases hgt : fan < ids.length
    · rw [tailO, if_pos hgt] at hr
      unfold foldO at hr
      rw [List.append_assoc, runO_app] at hr
      split at hr
      · rename_i h0
        have h1 : runO S (runOf S.next (Ks.take fan).flatten) = ((runO S (runOf S.next (Ks.take fan).flatten)).1, 0) := by rw [← h0]
        generalize (runO S (runOf S.next (Ks.take fan).flatten)).1 = U at h1 hr
        obtain ⟨x1, x2, x3⟩ := h.fold (by omega) (by omega) h1
        rw [runO_ok (dropsS_runO (ids.take fan) U), ← x2] at hr
        have hfl : (foldI S.next fan ids).length = ids.length - fan + 1 := by
          unfold foldI
          rw [List.length_append, List.length_drop]
          rfl
        have h2 := wr_tail fan hf2 fuel x1 (by rw [x2, hfl]; omega) (by rw [(foldK_perm fan Ks).length_eq]; exact hl) hr
        have h3 := flat_take_len Ks fan
        omega
      · rename_i h0
        rw [hr] at h0
        exact absurd rfl h0
    · rw [tailO_end hgt, dropsS_runO] at hr
      injection hr with h1
      rw [← h1, (dropsS_keep ids S).2.1]
      omega
theorem wr_sort {S T : StoreM} (hok : S.Ok) (hr0 : S.runs = []) (hnx : S.next ≤ 1000) {bud : Int} {fan : Nat} (hf2 : 2 ≤ fan) {items : List K3i} (hl : items.length ≤ 1000) (hr : runO S (sortO S.next bud fan items) = (T, 0)) : T.writes ≤ S.writes + 1001000 := by
  have hcl := chunks_len bud items
  unfold sortO at hr
  rw [runO_app] at hr
  split at hr
  · rename_i h0
    have h1 : runO S (formO S.next (chunks bud [] items)) = ((runO S (formO S.next (chunks bud [] items))).1, 0) := by rw [← h0]
    have hokT := runO_ok' hok (formO S.next (chunks bud [] items)) hok
    generalize (runO S (formO S.next (chunks bud [] items))).1 = U at h1 hr hokT
    obtain ⟨r1, r2⟩ := runs_form (chunks bud [] items) hok h1
    have hw := form_writes (chunks bud [] items) hok (by omega) h1
    rw [chunks_flat, List.nil_append] at hw
    rw [hr0, List.nil_append] at r1
    have hex : Ex U (idsN S.next (chunks bud [] items).length) ((chunks bud [] items).map (srt ltK)) := ⟨hokT, by rw [idsN_len, List.length_map], r1⟩
    rw [← r2] at hr
    have h2 := wr_tail fan hf2 (chunks bud [] items).length hex (by rw [idsN_len, r2]; omega) (by rw [(chunks_srt_perm _).length_eq, chunks_flat, List.nil_append]; exact hl) hr
    omega
  · rename_i h0
    rw [hr] at h0
    exact absurd rfl h0
/-- A sort's answer, whichever it is. -/
theorem sort_uni {w0 w : World} {l : List Part} {sb : Nat} {S : StoreM} {bud : Int} {fan : Nat} {items : List K3i} {e : Ending} (h : SortS w0 l sb S bud fan items e w) :
    ∃ (T : StoreM) (er : Int) (A : Option Addr) (c : Nat) (Y : List ItX) (rows : RowsM) (pk rn mg : Int), runO S (sortO S.next bud fan items) = (T, er) ∧ e = .returned (.tuple #[.slice A Y.length c, .agg #[.int .i64 pk, .int .i64 rn, .int .i64 mg], .int .i64 er]) ∧ OutX rows Y ∧
      (er = 0 → Y.map keyX = srt ltK (tailK (chunks bud [] items).length fan ((chunks bud [] items).map (srt ltK))).1.flatten) ∧ (er ≠ 0 → Y = [] ∧ pk = 0 ∧ rn = 0 ∧ mg = 0) ∧
      St w0 w (ownP 44 3 (.slice A Y.length c) Y.length (flatI (Y.map Prod.fst)) :: rdsP rows :: storeP sb T :: l) := by
  obtain ⟨T, er, h1, h2, h3⟩ := h
  by_cases e0 : er = 0
  · obtain ⟨A, c, X, rows, pk, g1, g2, g3, g4, g5⟩ := h2 e0
    exact ⟨T, er, A, c, X, rows, pk, _, _, h1, by rw [g1, e0], g3, fun _ => g2, fun h => absurd e0 h, g5⟩
  · obtain ⟨g1, g2⟩ := h3 e0
    exact ⟨T, er, none, 0, [], [], 0, 0, 0, h1, g1, OutX.nil _, fun h => absurd h e0, fun _ => ⟨rfl, rfl, rfl, rfl⟩, (g2.rds).nil 44 3⟩
set_option maxRecDepth 100000 in
set_option maxHeartbeats 16000000 in
theorem sortFails_small (w : World) (a : Option Addr) (c : Nat) (L : List It) (zb zf : Nat) (room : Int) (Af : Option Addr) (cf : Nat) (fl : List Int) (hzb : zb ≤ 255) (hzf : zf ≤ 255) (hroom : room ≤ 9223372036854775807) (hrf : RdV w Af (ints fl)) (hnf : Af = none → fl = [] ∧ cf = 0) (hfl : fl.length * 8 ≤ 140737488355328) (hr : RdI w a L) (hx : ∀ x ∈ L, ItOk w x) (hl : L.length ≤ 200 ∧ wsum L ≤ 100000) :
    Calls Try.prog 4 #[.slice a L.length c, .int .u8 zb, .int .u8 zf, .int .i64 room, .slice Af fl.length cf] w fun e w' => e = .returned (.bool true) ∧ Keep (fun b => w.heap.size ≤ b) w w' := by
  obtain ⟨X, hX⟩ : ∃ X, X = xsI w L := ⟨_, rfl⟩
  have HI : Hid (InI w a L X) := Lib.hid (by rw [hX]; exact InI.mk' hr hx hl)
  have HO := Lib.hid (And.intro hx hl)
  have HFL := Lib.hid (And.intro hrf (And.intro hnf hfl))
  obtain ⟨n, hn⟩ : ∃ n, n = L.length := ⟨_, rfl⟩
  have HN := Lib.hid hn
  have q0 : (n : Int) ≤ 200 := by omega
  rw [← hn]
  obtain ⟨nf, hnf2⟩ : ∃ nf, nf = fl.length := ⟨_, rfl⟩
  have HNF := Lib.hid hnf2
  have qf : (nf : Int) ≤ 17592186044416 := by omega
  rw [← hnf2]
  obtain ⟨r, hrr⟩ : ∃ r, r = zb % 9 := ⟨_, rfl⟩
  obtain ⟨k, hk⟩ : ∃ k, k = r + 2 := ⟨_, rfl⟩
  have t1 : (zb : Int).tmod 9 = (r : Int) := by rw [hrr]; rfl
  have t2 : (zb : Int) % 9 = (r : Int) := by rw [hrr]; rfl
  have t3 : IntKind.u8.wrap (r : Int) = (r : Int) := by rw [IntKind.wrap_u8]; omega
  have t4 : IntKind.i64.wrap ((r : Int) + 2) = (k : Int) := by rw [IntWalk.i64_in _ (by omega)]; omega
  have t5 : (r : Int) + 2 = (k : Int) := by omega
  obtain ⟨r', hrr'⟩ : ∃ r', r' = zf % 5 := ⟨_, rfl⟩
  obtain ⟨f, hf⟩ : ∃ f, f = r' + 2 := ⟨_, rfl⟩
  have s1 : (zf : Int).tmod 5 = (r' : Int) := by rw [hrr']; rfl
  have s2 : (zf : Int) % 5 = (r' : Int) := by rw [hrr']; rfl
  have s3 : IntKind.u8.wrap (r' : Int) = (r' : Int) := by rw [IntKind.wrap_u8]; omega
  have s4 : IntKind.i64.wrap ((r' : Int) + 2) = (f : Int) := by rw [IntWalk.i64_in _ (by omega)]; omega
  have s5 : (r' : Int) + 2 = (f : Int) := by omega
  have q1 : (zb : Int) ≤ 255 := by omega
  have q2 : (r : Int) < 9 := by omega
  have q1' : (zf : Int) ≤ 255 := by omega
  have q2' : (r' : Int) < 5 := by omega
  have q3 : (k : Int) ≤ 21 := by omega
  have q4 : (f : Int) ≤ 21 := by omega
  have HK : Hid (2 ≤ k ∧ 2 ≤ f) := Lib.hid (by omega)
  have HRO := Lib.hid hroom
  clear hr hx hl hX hn hrr hk hzb hzf hrr' hf hrf hnf hfl hnf2 hroom
  go_enter Try.func4, Try.ntmps4
  go_wp2_with fail
  refine (St.light17 (St.start w) a n c L true HN.out HI.out.rd (by have := HI.out.few; omega) (fun x hx => (HO.out.1 x hx).small2) (decide_eq_true HO.out.2)).mono ?_
  rintro e w1 ⟨rfl, hs1⟩
  have HS1 := Lib.hid hs1
  clear hs1 t1 t2 t3 t4 t5 s1 s2 s3 s4 s5 q1 q2 q1' q2'
  go_wp2_with fail
  refine (St.unlike17 HS1.out a n c L HN.out (fun u hu => HI.out.rd.keep hu.keep) HI.out.few).mono ?_
  rintro e w2 ⟨ub, rfl, hub, hs2⟩
  have HS2 := Lib.hid hs2
  clear hs2 HS1
  have hcs : ub = false ∨ (ub = true ∧ decide ((50 : Int) < (nf : Int)) = true) ∨ (ub = true ∧ decide ((50 : Int) < (nf : Int)) = false) := by
    cases ub <;> cases decide ((50 : Int) < (nf : Int)) <;> simp
  rcases hcs with rfl | ⟨rfl, v0⟩ | ⟨rfl, v0⟩
  · clear hub
    go_wp2_with fail
    refine (St.ans17 HS2.out).mono ?_
    rintro e w3 ⟨rfl, hs3⟩
    have HS3 := Lib.hid hs3
    clear hs3 HS2
    go_wp2_with fail
    go_ret
    exact ⟨rfl, HS3.out.keep⟩
  · clear hub
    go_wp2_with fail
    refine (St.ans17 HS2.out).mono ?_
    rintro e w3 ⟨rfl, hs3⟩
    have HS3 := Lib.hid hs3
    clear hs3 HS2
    go_wp2_with fail
    go_ret
    exact ⟨rfl, HS3.out.keep⟩
  · have HU := Lib.hid ((hub rfl).keys HI.out.fst (fun x hx => (HI.out.dat x hx).1))
    clear hub
    go_wp2_with fail
    refine (St.store_new HS2.out room Af nf cf fl HRO.out (HS2.out.rd HFL.out.1) HNF.out (fun e => ⟨by rw [HNF.out, (HFL.out.2.1 e).1]; rfl, (HFL.out.2.1 e).2⟩) (by have := HFL.out.2.2; have := HNF.out; omega)).mono ?_
    rintro e w3 ⟨sb, rfl, hs3⟩
    have HS3 := Lib.hid hs3
    clear hs3 HS2
    go_wp2_with fail
    refine (so_sort HS3.out a n c X (by rw [HN.out, HI.out.len]) HI.out.src HU.out.2 (k : Int) (by have := HK.out.1; omega) f (f : Int) rfl HK.out.2 (by have := HI.out.len; have := HI.out.few; omega) (by have := HI.out.sum; omega) (StoreM.ok_made room fl HRO.out) rfl (by show (0 : Int) ≤ 1000; decide) (by show (0 : Int) ≤ 1000000; decide)).mono ?_
    intro e w4 hso
    obtain ⟨T, er, A, c4, Y, rows, pk, rn, mg, hrun, he, hO, hY, hbad, hs4⟩ := sort_uni hso
    subst he
    obtain ⟨yn, hyn⟩ : ∃ yn, yn = Y.length := ⟨_, rfl⟩
    rw [← hyn] at hs4 ⊢
    obtain ⟨b15, hb15⟩ : ∃ b15, b15 = w4.heap.size := ⟨_, rfl⟩
    have hs5 := hs4.boxB [.int .i64 pk, .int .i64 rn, .int .i64 mg] 28 b15 hb15
    have HS5 : Hid (St w (w4.alloc (Obj.cells #[.int .i64 pk, .int .i64 rn, .int .i64 mg] 28)) (blkP b15 28 [.int .i64 pk, .int .i64 rn, .int .i64 mg] :: ownP 44 3 (.slice A yn c4) yn (flatI (Y.map Prod.fst)) :: rdsP rows :: storeP sb T :: [])) := Lib.hid hs5
    have HY := Lib.hid (And.intro hrun (And.intro hO (And.intro hY (And.intro hbad hyn))))
    clear hso hs4 hs5 HS3 hrun hO hY hbad hyn
    go_upto_region 6 with fail
    rw [← hb15]
    clear hb15
    generalize w4.alloc (Obj.cells #[.int .i64 pk, .int .i64 rn, .int .i64 mg] 28) = w5 at HS5 ⊢
    go_wp2_with fail
    refine (St.store_new HS5.out 16777216 none 0 0 [] (by omega) (RdV.nil _ _) rfl (fun _ => ⟨rfl, rfl⟩) (by omega)).mono ?_
    rintro e w6 ⟨sw, rfl, hs6⟩
    have HS6 := Lib.hid hs6
    clear hs6 HS5
    go_wp2_with fail
    refine (St.sort17 HS6.out a n c HI.out.src (by rw [HN.out, HI.out.len]) (by have := HI.out.len; have := HI.out.few; omega) HI.out.sum HU.out.2 (k : Int) (by have := HK.out.1; omega) f (f : Int) rfl HK.out.2).mono ?_
    rintro e w7 ⟨T2, A2, c7, Y2, rows2, pk2, rn2, mg2, z1, z2, z3, z4, z5, he, z6, z7, z8, hs7⟩
    subst he
    have hlk : LockS (StoreM.made room fl) (StoreM.made 16777216 []) T2 (T, er) := by
      have h1 := lock (sortO 0 (k : Int) f (X.map keyX)) (S := StoreM.made room fl) (W := StoreM.made 16777216 []) ⟨rfl, rfl, rfl, rfl, rfl⟩ z1
      have h2 := HY.out.1
      rw [show (StoreM.made room fl).next = 0 from rfl] at h2
      rw [h2] at h1
      exact h1
    have hwr := (runO_keep (sortO 0 (k : Int) f (X.map keyX)) (StoreM.made 16777216 [])).2.2.1
    rw [z1] at hwr
    have HLK := Lib.hid (And.intro hlk hwr)
    have HWB : Hid (T2.writes ≤ (StoreM.made 16777216 []).writes + 1001000) := Lib.hid (wr_sort (StoreM.ok_made 16777216 [] (by omega)) rfl (by show (0 : Int) ≤ 1000; decide) HK.out.2 (by rw [List.length_map]; have := HI.out.len; have := HI.out.few; omega) z1)
    have HS7 : Hid (St w w7 (storeP sw T2 :: blkP b15 28 [.int .i64 pk, .int .i64 rn, .int .i64 mg] :: ownP 44 3 (.slice A yn c4) yn (flatI (Y.map Prod.fst)) :: rdsP rows :: storeP sb T :: [])) := Lib.hid hs7.tail.tail
    clear z1 z2 z3 z4 z5 z6 z7 z8 hs7 hlk hwr HS6
    go_wp2_with fail
    refine (St.store_writes HS7.out).mono ?_
    rintro e w8 ⟨rfl, rfl⟩
    obtain ⟨ww, hww⟩ : ∃ ww, ww = T2.writes := ⟨_, rfl⟩
    have hw0 : 0 ≤ ww := by
      rw [hww]
      have h1 := HLK.out.2
      rw [show (StoreM.made 16777216 []).writes = 0 from rfl] at h1
      exact h1
    have hwb : ww ≤ 1001000 := by
      have h1 := HWB.out
      rw [show (StoreM.made 16777216 []).writes = 0 from rfl] at h1
      omega
    rw [← hww]
    have HWW := Lib.hid hww
    clear hww
    go_upto_region 10 with fail
    go_loopw [18, 19] (fun v18 v19 wr => ∃ (fs : Int) (i : Nat), v18 = .int .i64 fs ∧ v19 = .int .i64 i ∧ i ≤ nf ∧ Hid (First (fl.take i) ww fs) ∧ wr = w7) (fun _ v19 _ => nf - (intOf v19).toNat)
    case atStart => exact ⟨ww, 0, rfl, rfl, Nat.zero_le _, Lib.hid (by rw [List.take_zero]; exact First.zero (fl := [])), rfl⟩
    case round =>
      obtain ⟨fs, i, rfl, rfl, hi, HF, rfl⟩ := hrel
      by_cases hlt : i < nf
      · have q5 : (i : Int) < (nf : Int) := by omega
        obtain ⟨z, hz⟩ : ∃ z, fl[i]? = some z := ⟨_, List.getElem?_eq_getElem (by rw [← HNF.out]; exact hlt)⟩
        obtain ⟨xa, rfl, hc⟩ := (HS7.out.rd HFL.out.1) i (.int .i64 z) (by simp [ints, hz])
        have hst := HF.out.step (z := z)
        have htk : fl.take (i + 1) = fl.take i ++ [z] := by
          obtain ⟨h1, h2⟩ := List.getElem?_eq_some_iff.1 hz
          rw [List.take_succ_eq_append_getElem h1, h2]
        rw [← htk] at hst
        have HST := Lib.hid (And.intro hst hlt)
        have hcs : decide ((0 : Int) ≤ z) = false ∨ (decide ((0 : Int) ≤ z) = true ∧ decide (z < fs) = false) ∨ (decide ((0 : Int) ≤ z) = true ∧ decide (z < fs) = true) := by
          cases decide ((0 : Int) ≤ z) <;> cases decide (z < fs) <;> simp
        clear hst htk hz hlt hi HF
        rcases hcs with y1 | ⟨y1, y2⟩ | ⟨y1, y2⟩
        · go_wp2_with fail
          go_roundw
          case rel => exact ⟨fs, i + 1, rfl, by go_num, HST.out.2, Lib.hid (by have h1 := HST.out.1; rw [if_neg (by simp only [decide_eq_false_iff_not] at y1; omega)] at h1; exact h1), trivial⟩
          case measure => have := HST.out.2; simp [intOf]; omega
        · go_wp2_with fail
          go_roundw
          case rel => exact ⟨fs, i + 1, rfl, by go_num, HST.out.2, Lib.hid (by have h1 := HST.out.1; rw [if_neg (by simp only [decide_eq_false_iff_not] at y2; omega)] at h1; exact h1), trivial⟩
          case measure => have := HST.out.2; simp [intOf]; omega
        · go_wp2_with fail
          go_roundw
          case rel => exact ⟨z, i + 1, rfl, by go_num, HST.out.2, Lib.hid (by have h1 := HST.out.1; rw [if_pos (by simp only [decide_eq_true_eq] at y1 y2; omega)] at h1; exact h1), trivial⟩
          case measure => have := HST.out.2; simp [intOf]; omega
      · have q5 : ¬ (i : Int) < (nf : Int) := by omega
        have hfi : First fl ww fs := by
          have h1 := HF.out
          rw [List.take_of_length_le (by have := HNF.out; omega)] at h1
          exact h1
        have HFI := Lib.hid hfi
        clear hlt hi hfi HF
        go_upto_region 14 with fail
        clear q5
        have hbl := (HS7.out.mv 1 (by simp)).blk.1
        have w0' : wr.cell? ⟨b15, 0, none⟩ = some (.int .i64 pk) := hbl.cell 0
        have w1' : wr.cell? ⟨b15, 1, none⟩ = some (.int .i64 rn) := hbl.cell 1
        have w2' : wr.cell? ⟨b15, 2, none⟩ = some (.int .i64 mg) := hbl.cell 2
        have HBL := Lib.hid (And.intro w0' (And.intro w1' w2'))
        have f1 : fs ≤ 1001000 := by have := HFI.out.le; omega
        have f0 : 0 ≤ fs := by
          rcases HFI.out.is with h1 | h1
          · omega
          · exact h1.2
        clear hbl w0' w1' w2'
        rcases HLK.out.1 with ⟨e0, hal, hno⟩ | ⟨e0, m, m1, m2, m3, m4, m5⟩ | ⟨e0, m, m1, m2, m3, m4, m5⟩
        · have e0' : er = 0 := e0
          have hfs : fs = T2.writes := by
            rcases HFI.out.is with h1 | ⟨h1, h2⟩
            · rw [h1, HWW.out]
            · rcases Int.lt_or_le fs T2.writes with h3 | h3
              · exact absurd h1 (hno fs h2 h3)
              · have := HFI.out.le
                have := HWW.out
                omega
          have u1 : (fs == T2.writes) = true := by rw [hfs]; simp
          have u2 : (T.writes == fs) = true := by rw [hfs, show T.writes = T2.writes from hal.writes]; simp
          have u3 : (T.peak == T2.peak) = true := by rw [show T.peak = T2.peak from hal.peak]; simp
          have hyk := HY.out.2.2.1 e0'
          rw [sortK_unlike HU.out.1] at hyk
          have HYK := Lib.hid hyk
          rw [e0']
          clear e0 e0' hal hno hfs hyk HBL f0 f1
          go_wp2_with fail
          refine (St.ans17 HS7.out).mono ?_
          rintro e w9 ⟨rfl, hs9⟩
          have HS9 := Lib.hid hs9
          clear hs9
          go_wp2_with fail
          refine (St.store_writes HS9.out).mono ?_
          rintro e w10 ⟨rfl, rfl⟩
          go_wp2_with fail
          refine (ref_sorted w9 a n c L HN.out.symm (HI.out.rd.keep HS9.out.keep) (by have := HI.out.few; have := HN.out; omega)).mono ?_
          rintro e w11 ⟨A8, c8, rfl, hs11⟩
          have HS11 := Lib.hid (HS9.out.lift hs11)
          clear hs11 HS9
          go_wp2_with fail
          have e6 : (srt ltX X).map Prod.fst = srt ltI L := by rw [srt_items, HI.out.fst]
          have l6 : (srt ltX X).length = n := by
            have := congrArg List.length e6
            rw [List.length_map, srt_len swoI, ← HN.out] at this
            exact this
          have hkz : Y.map keyX = (srt ltX X).map keyX := by rw [HYK.out, srt_keys]
          have hzl : Y.length = n := by
            have := congrArg List.length hkz
            rw [List.length_map, List.length_map, l6] at this
            exact this
          refine (ref_sameall w11 A A8 yn n c4 c8 Y (srt ltX X) HY.out.2.2.2.2.symm l6 hkz ((HS11.out.mv 3 (by simp)).own_it) (by rw [e6]; exact HS11.out.own_it) (fun x hx => (HS11.out.mv 4 (by simp)).out_dat HY.out.2.1 x hx) (fun x hx => (HI.out.dat x ((srt_perm (lt := ltX) X).mem_iff.1 hx)).keep HS11.out.keep) (by rw [HY.out.2.2.2.2, hzl]; have := HI.out.few; have := HN.out; omega)).mono ?_
          rintro e w12 ⟨rfl, hk12⟩
          have HS12 := Lib.hid (HS11.out.later hk12)
          clear e6 l6 hkz hzl hk12 HS11
          go_wp2_with fail
          refine (St.store_writes (HS12.out.mv 5 (by simp))).mono ?_
          rintro e w13 ⟨rfl, rfl⟩
          go_wp2_with fail
          refine (St.store_peak (HS12.out.mv 5 (by simp))).mono ?_
          rintro e w13 ⟨rfl, rfl⟩
          go_wp2_with fail
          refine (St.store_peak (HS12.out.mv 1 (by simp))).mono ?_
          rintro e w13 ⟨rfl, rfl⟩
          go_wp2_with fail
          go_ret
          exact ⟨rfl, HS12.out.keep⟩
        · have e0' : er = 13 := e0
          obtain ⟨g1, g2, g3, g4⟩ := HY.out.2.2.2.1 (by omega)
          have hyn : yn = 0 := by rw [HY.out.2.2.2.2, g1]; rfl
          obtain ⟨w0', w1', w2'⟩ := HBL.out
          rw [g2] at w0'
          rw [g3] at w1'
          rw [g4] at w2'
          have hm0 : 0 ≤ m := m1
          have hfs : fs = m := by
            have h1 := HFI.out.all m m3 hm0
            rcases HFI.out.is with h2 | ⟨h2, h3⟩
            · rw [HWW.out] at h2; omega
            · rcases Int.lt_or_le fs m with h4 | h4
              · exact absurd h2 (m5 fs h3 h4)
              · omega
          have u1 : (T.writes == fs + 1) = true := by rw [hfs, show T.writes = m + 1 from m4]; simp
          have u2 : decide (fs < T2.writes) = true := decide_eq_true (by omega)
          have HYN := Lib.hid hyn
          have HE := Lib.hid e0'
          rw [hyn, e0']
          clear e0 e0' g1 g2 g3 g4 hyn m1 m2 m3 m4 m5 hm0 hfs HBL
          go_wp2_with fail
          refine (St.ans17 HS7.out).mono ?_
          rintro e w9 ⟨rfl, hs9⟩
          have HS9 := Lib.hid hs9
          clear hs9
          go_wp2_with fail
          refine (St.store_writes (HS9.out.mv 4 (by simp))).mono ?_
          rintro e w10 ⟨rfl, rfl⟩
          go_wp2_with fail
          refine (St.store_writes HS9.out).mono ?_
          rintro e w10 ⟨rfl, rfl⟩
          go_wp2_with fail
          go_ret
          exact ⟨rfl, HS9.out.keep⟩
        · have e0' : er = 12 := e0
          obtain ⟨g1, g2, g3, g4⟩ := HY.out.2.2.2.1 (by omega)
          have hyn : yn = 0 := by rw [HY.out.2.2.2.2, g1]; rfl
          obtain ⟨w0', w1', w2'⟩ := HBL.out
          rw [g2] at w0'
          rw [g3] at w1'
          rw [g4] at w2'
          have hfs : m ≤ fs := by
            rcases HFI.out.is with h2 | ⟨h2, h3⟩
            · rw [HWW.out] at h2; omega
            · rcases Int.lt_or_le m fs with h4 | h4
              · omega
              · exact absurd h2 (m4 fs h3 h4)
          have u1 : decide (T.writes ≤ fs + 1) = true := decide_eq_true (by have h1 : T.writes = m + 1 := m3; omega)
          have u2 : decide (max room 0 < T2.peak) = true := decide_eq_true m5
          rw [hyn, e0']
          clear e0 e0' g1 g2 g3 g4 hyn m1 m2 m3 m4 m5 hfs HBL
          go_wp2_with fail
          refine (St.ans17 HS7.out).mono ?_
          rintro e w9 ⟨rfl, hs9⟩
          have HS9 := Lib.hid hs9
          clear hs9
          go_wp2_with fail
          refine (St.store_writes (HS9.out.mv 4 (by simp))).mono ?_
          rintro e w10 ⟨rfl, rfl⟩
          go_wp2_with fail
          refine (St.store_peak HS9.out).mono ?_
          rintro e w10 ⟨rfl, rfl⟩
          go_wp2_with fail
          go_ret
          exact ⟨rfl, HS9.out.keep⟩
set_option maxRecDepth 100000 in
set_option maxHeartbeats 4000000 in
theorem sortFails_big (w : World) (a : Option Addr) (c : Nat) (L : List It) (zb zf : Nat) (room : Int) (Af : Option Addr) (nf cf : Nat) (hzb : zb ≤ 255) (hzf : zf ≤ 255) (hr : RdI w a L) (hx : ∀ x ∈ L, ItOk w x) (hl : L.length ≤ 4611686018427387904) (hs : ¬ (L.length ≤ 200 ∧ wsum L ≤ 100000)) :
    Calls Try.prog 4 #[.slice a L.length c, .int .u8 zb, .int .u8 zf, .int .i64 room, .slice Af nf cf] w fun e w' => e = .returned (.bool true) ∧ Keep (fun b => w.heap.size ≤ b) w w' := by
  have HO := Lib.hid (And.intro hr (And.intro hx (And.intro hl hs)))
  obtain ⟨n, hn⟩ : ∃ n, n = L.length := ⟨_, rfl⟩
  have HN := Lib.hid hn
  rw [← hn]
  obtain ⟨r, hrr⟩ : ∃ r, r = zb % 9 := ⟨_, rfl⟩
  obtain ⟨k, hk⟩ : ∃ k, k = r + 2 := ⟨_, rfl⟩
  have t1 : (zb : Int).tmod 9 = (r : Int) := by rw [hrr]; rfl
  have t2 : (zb : Int) % 9 = (r : Int) := by rw [hrr]; rfl
  have t3 : IntKind.u8.wrap (r : Int) = (r : Int) := by rw [IntKind.wrap_u8]; omega
  have t4 : IntKind.i64.wrap ((r : Int) + 2) = (k : Int) := by rw [IntWalk.i64_in _ (by omega)]; omega
  have t5 : (r : Int) + 2 = (k : Int) := by omega
  obtain ⟨r', hrr'⟩ : ∃ r', r' = zf % 5 := ⟨_, rfl⟩
  obtain ⟨f, hf⟩ : ∃ f, f = r' + 2 := ⟨_, rfl⟩
  have s1 : (zf : Int).tmod 5 = (r' : Int) := by rw [hrr']; rfl
  have s2 : (zf : Int) % 5 = (r' : Int) := by rw [hrr']; rfl
  have s3 : IntKind.u8.wrap (r' : Int) = (r' : Int) := by rw [IntKind.wrap_u8]; omega
  have s4 : IntKind.i64.wrap ((r' : Int) + 2) = (f : Int) := by rw [IntWalk.i64_in _ (by omega)]; omega
  have s5 : (r' : Int) + 2 = (f : Int) := by omega
  have q1 : (zb : Int) ≤ 255 := by omega
  have q2 : (r : Int) < 9 := by omega
  have q1' : (zf : Int) ≤ 255 := by omega
  have q2' : (r' : Int) < 5 := by omega
  clear hr hx hl hs hn hrr hk hzb hzf hrr' hf
  go_enter Try.func4, Try.ntmps4
  go_wp2_with fail
  refine (St.light17 (St.start w) a n c L false HN.out HO.out.1 HO.out.2.2.1 (fun x hx => (HO.out.2.1 x hx).small2) (decide_eq_false HO.out.2.2.2)).mono ?_
  rintro e w1 ⟨rfl, hs1⟩
  have HS1 := Lib.hid hs1
  clear hs1 t1 t2 t3 t4 t5 s1 s2 s3 s4 s5 q1 q2 q1' q2'
  go_wp2_with fail
  refine (St.ans17 HS1.out).mono ?_
  rintro e w3 ⟨rfl, hs3⟩
  have HS3 := Lib.hid hs3
  clear hs3 HS1
  go_wp2_with fail
  go_ret
  exact ⟨rfl, HS3.out.keep⟩
theorem sortFails_walk (w : World) (a : Option Addr) (n c : Nat) (L : List It) (hn : n = L.length) (_ : n ≤ c) (hc : c ≤ 2932031007402) (hr : RdI w a L) (_ : a = none → L = [] ∧ c = 0) (hx : ∀ x ∈ L, ItOk w x) (z : Int) (hz : IntKind.u8.min ≤ z ∧ z ≤ IntKind.u8.max) (y : Int) (hy : IntKind.u8.min ≤ y ∧ y ≤ IntKind.u8.max) (room : Int) (ho : IntKind.i64.min ≤ room ∧ room ≤ IntKind.i64.max)
    (Af : Option Addr) (nf cf : Nat) (zs : List Int) (hzs : nf = zs.length) (hcf : nf ≤ cf) (hrf : RdV w Af (zs.map (Value.int .i64))) (hnf : Af = none → zs = [] ∧ cf = 0) (_ : ∀ x ∈ zs, (Lit.int .i64 x).wf = true) (hy8 : nf * 8 ≤ 140737488351232) :
    Calls Try.prog 4 #[.slice a n c, .int .u8 z, .int .u8 y, .int .i64 room, .slice Af nf cf] w fun e w' => e = .returned (.bool true) ∧ Below w.heap.size w w' := by
  subst hn hzs
  have e1 : IntKind.u8.min = 0 := rfl
  have e2 : IntKind.u8.max = 255 := rfl
  have e3 : IntKind.i64.max = 9223372036854775807 := rfl
  obtain ⟨zb, rfl⟩ := Int.eq_ofNat_of_zero_le (show 0 ≤ z by omega)
  obtain ⟨zf, rfl⟩ := Int.eq_ofNat_of_zero_le (show 0 ≤ y by omega)
  by_cases h : L.length ≤ 200 ∧ wsum L ≤ 100000
  · exact (sortFails_small w a c L zb zf room Af cf zs (by omega) (by omega) (by omega) hrf hnf (by omega) hr hx h).mono fun _ _ ⟨h1, h2⟩ => ⟨h1, h2.below (Nat.le_refl _) (fun _ _ h => h)⟩
  · exact (sortFails_big w a c L zb zf room Af zs.length cf (by omega) (by omega) hr hx (by omega) h).mono fun _ _ ⟨h1, h2⟩ => ⟨h1, h2.below (Nat.le_refl _) (fun _ _ h => h)⟩
end Go.Proofs.Ytkglkpcpgdeneaa
