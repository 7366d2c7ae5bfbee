/- BlockNone. Conditions: none. -/
import Derived.Test.YtiobacnepacjnaaLaw03
import Derived.Test.YtiobacnepacjnaaU8P
import Derived.Test.YtiobacnepacjnaaHeldO
namespace Go.Proofs.Ytiobacnepacjnaa
open Go.RowKit

theorem St.stays (w0 : World) (l : List Part) : Stays Anew (fun u => St w0 u l) := fun _ _ h k => St.later h k
set_option maxRecDepth 100000 in
theorem St.snk_out_k {w0 w : World} {kb : Nat} {l : List UInt8} {ps : List Part} (h : St w0 w (snkP kb l :: ps)) (n : Nat) (hn : n = l.length) (ht : n ≤ 140737488351232) :
    Calls Try.prog 19 #[.pointer (some ⟨kb, 0, none⟩)] w fun e w' => OutS w0 (snkP kb l :: ps) n l e w' ∧ Anew w w' := by
  obtain ⟨F, ⟨A, c, hB, ho, _⟩, _⟩ := h.open_
  rw [← hn] at hB ho
  have c0 : w.cell? ⟨kb, 0, none⟩ = some (.slice A n c) := hB.cell 0
  have HS := Lib.hid h
  have HO := Lib.hid ho
  have HT := Lib.hid (And.intro hn ht)
  clear h hB ho hn ht
  go_enter Try.func19, Try.ntmps19
  go_wp2_with fail
  obtain ⟨_, _, e1, _, hr, hn0⟩ := own_rd HO.out
  injection e1 with e1 _ e3
  subst e1 e3
  have hnc : A = none → n = 0 ∧ c = 0 := by
    intro e
    rcases own_form HO.out with ⟨e2, _⟩ | ⟨_, _, e2, _⟩
    · injection e2 with _ e2 e3; exact ⟨e2, e3⟩
    · rw [e] at e2; injection e2 with e2 _ _; cases e2
  refine (cloneB_any A n c (bys l) w hr (by rw [bys_length, HT.out.1]) hnc (one_bys _) (by have := HT.out.2; omega)).mono ?_
  rintro e w2 ⟨v, rfl, ho2, hk2⟩
  obtain ⟨A2, c2, rfl, hc2, _, hn2⟩ := own_rd ho2
  have hnc2 : A2 = none → n = 0 ∧ c2 = 0 := by
    intro e
    rcases own_form ho2 with ⟨e2, _⟩ | ⟨_, _, e2, _⟩
    · injection e2 with _ e2 e3; exact ⟨e2, e3⟩
    · rw [e] at e2; injection e2 with e2 _ _; cases e2
  have HS2 := Lib.hid (HS.out.made ho2 (hk2.mono (fun _ _ h => h.elim)))
  have HK2 : Hid (Anew w w2) := Lib.hid (hk2.mono (fun _ _ h => h.elim))
  have HC := Lib.hid (And.intro hc2 hnc2)
  clear ho2 hk2 hr hn0 hnc hc2 hn2 hnc2
  go_wp2_with fail
  go_ret
  exact ⟨⟨A2, c2, rfl, HC.out.1, HC.out.2, HS2.out⟩, HK2.out⟩
set_option maxRecDepth 100000 in
theorem none_big (w : World) (A : Option Addr) (c n : Nat) (z : Int) (hn : 2000 < n) : Calls Try.prog 6 #[.slice A n c, .int .i64 z] w fun e w' => e = .returned (.bool true) ∧ Keep (fun b => w.heap.size ≤ b) w w' := by
  have b1 : (2000 : Int) < (n : Int) := by omega
  clear hn
  go_enter Try.func6, Try.ntmps6
  go_wp2_with fail
  refine (answers03 _).mono ?_
  rintro e w3 ⟨rfl, hs3⟩
  have HS3 := Lib.hid hs3
  clear hs3
  go_wp2_with fail
  go_ret
  exact ⟨rfl, HS3.out⟩
set_option maxRecDepth 100000 in
set_option maxHeartbeats 16000000 in
theorem none_any (w : World) (A : Option Addr) (c : Nat) (B : List UInt8) (hr : RdV w A (bys B)) (hA : A = none → B = [] ∧ c = 0) (hc : B.length ≤ c) (hcm : c ≤ 9223372036854775807) (h2 : B.length ≤ 2000) (z : Int) :
    Calls Try.prog 6 #[.slice A B.length c, .int .i64 z] w fun e w' => e = .returned (.bool true) ∧ Keep (fun b => w.heap.size ≤ b) w w' := by
  have HRD : Hid (∀ u ps, St w u ps → RdV u A (bys B)) := Lib.hid (fun u ps h => h.rd hr)
  have HA := Lib.hid hA
  have HC := Lib.hid hc
  have H2 := Lib.hid h2
  have b1 : (B.length : Int) ≤ 2000 := by omega
  have b2 : (B.length : Int) ≤ (c : Int) := by omega
  have b3 : (c : Int) ≤ 9223372036854775807 := by omega
  have HI8 := Lib.hid infoU8k
  have HS0 := Lib.hid (St.start w)
  clear hr hA hc hcm h2
  go_enter Try.func6, Try.ntmps6
  go_wp2_with fail
  have HS1 := Lib.hid (HS0.out.alloc (Obj.cells #[.slice A B.length c] 22))
  refine (snk_put_nil _ _ _ _).mono ?_
  rintro e w1 ⟨rfl, rfl⟩
  go_wp2_with fail
  refine (snk_body_nil _ _ _ (by have := H2.out; omega) _).mono ?_
  rintro e w1 ⟨rfl, k1⟩
  have HS2 := Lib.hid (HS1.out.later k1)
  clear k1 HS1 HS0
  go_wp2_with fail
  refine (snk_end_nil _).mono ?_
  rintro e w2 ⟨rfl, k1⟩
  have HS3 := Lib.hid (HS2.out.later k1)
  clear k1 HS2
  go_wp2_with fail
  refine (src_block_nil _).mono ?_
  rintro e w3 ⟨rfl, rfl⟩
  go_wp2_with fail
  refine (src_body_nil _ _).mono ?_
  rintro e w3 ⟨rfl, rfl⟩
  go_wp2_with (
    at_builtin
    refine wpL_fresh_st rfl (.tmp 44) (.tmp 45) 22 22 rfl 5 (.int .u8 0) 1 1 Try.underlying22 HI8.out rfl (by decide) _ rfl rfl HS3.out (.slice A B.length c) B.length (bys B) rfl (Src.of_rd Try.underlying22 (HRD.out _ _ (HS3.out.alloc _)) B.length c (by rw [bys_length, Nat.mul_one]) (one_bys _) (fun e => by rw [(HA.out e).1]; rfl)) (by have := H2.out; unfold maxLen; omega) (by have := H2.out; omega) ?_
    intro A4 c4 w4 hc4 hn4 hs4 _
    have HA4 := Lib.hid hn4
    have HS4 := Lib.hid hs4
    clear hs4 hn4)
  obtain ⟨kb, hkb⟩ : ∃ kb, kb = w4.heap.size := ⟨_, rfl⟩
  have hs5 := HS4.out.snk_new kb hkb
  have hrow := lit_rows (w4.alloc (Obj.cells #[Value.slice none 0 0] 43)) 22 [(A4, c4, B)] (by
    intro x hx
    obtain rfl := List.mem_singleton.1 hx
    exact ⟨(St.own_rdv (hs5.sel [1] (by decide) (by simp))).1, fun e => List.eq_nil_of_length_eq_zero (HA4.out e)⟩) (w4.heap.size + 1) (by simp)
  rw [← hkb] at hrow ⊢
  simp only [List.map_cons, List.map_nil] at hrow
  refine (St.snk_put (hs5.alloc _) (some ⟨kb + 1, 0, none⟩) 1 1 [B] B (by simp) hrow rfl (by simp) (by have := H2.out; simp; omega)).mono ?_
  rintro e w6 ⟨rfl, hs6⟩
  have HS6 : Hid (St w w6 [ownP 5 1 (.slice A4 B.length c4) B.length (bys B), snkP kb B]) := Lib.hid (by
    have h := hs6.sel [1, 0] (by decide) (by simp)
    rwa [List.nil_append] at h)
  clear hs6 hrow hs5 hkb HS4 HS3
  go_wp2_with fail
  refine (St.src_new HS6.out A4 B.length c4 B none 0 0 [] (St.own_rdv HS6.out).1 rfl (fun e => ⟨HA4.out e, by
    rcases (St.own HS6.out).2 with ⟨h0, _⟩ | ⟨g, _, _, h0, _⟩
    · injection h0
    · injection h0 with h0; rw [e] at h0; cases h0⟩) (by have := H2.out; omega) (RdV.nil _ _) rfl (fun _ => ⟨rfl, rfl⟩) (by decide)).mono ?_
  rintro e w7 ⟨sb, rfl, hs7⟩
  have HS7 := Lib.hid (St.u8_of (hs7.sel [1, 0, 2] (by decide) (by simp)))
  clear hs7 HS6
  go_wp2_with fail
  go_loopw [14] (fun vi wr => ∃ i : Nat, i ≤ B.length ∧ vi = .int .i64 i ∧ Hid (St w wr [u8P A4 B.length, srcP sb B 0, snkP kb B])) (fun i _ => B.length - (intOf i).toNat)
  case atStart => exact ⟨0, by omega, rfl, HS7⟩
  case round =>
    clear HS7
    obtain ⟨i, hi, rfl, HS⟩ := hrel
    by_cases hlt : i < B.length
    · obtain ⟨g, v, rfl, cz, fz, z0, z1⟩ := HS.out.u8_at i hlt
      have hx := xor255 v z0 z1
      have HX := Lib.hid hx
      clear hx
      go_wp2_with fail
      go_roundw
      case rel => exact ⟨i + 1, by omega, by go_num, Lib.hid (HS.out.u8_set i hlt _ HX.out.1 HX.out.2)⟩
      case measure => simp [intOf]; omega
    · go_wp2_with fail
      refine (St.snk_out (HS.out.sel [2, 1] (by decide) (by simp)) B.length rfl (by have := H2.out; omega)).mono ?_
      rintro e w8 ⟨A8, c8, rfl, hc8, hn8, hs8⟩
      have HN8 := Lib.hid hn8
      have HS8 := Lib.hid hs8
      clear hs8 HS hn8
      go_wp2_with (
        at_builtin
        refine wpL_fresh_st rfl (.tmp 70) (.tmp 71) 22 22 rfl 5 (.int .u8 0) 1 1 Try.underlying22 HI8.out rfl (by decide) _ rfl rfl HS8.out (.slice A8 B.length c8) B.length (bys B) rfl (Src.of_rd Try.underlying22 (St.own_rdv (HS8.out.alloc _)).1 B.length c8 (by rw [bys_length, Nat.mul_one]) (one_bys _) (fun e => by rw [List.eq_nil_of_length_eq_zero (HN8.out e).1]; rfl)) (by have := H2.out; unfold maxLen; omega) (by have := H2.out; omega) ?_
        intro A9 c9 w9 hc9 hn9 hs9 _
        have HA9 := Lib.hid hn9
        have HS9 : Hid (St w w9 [u8P A8 B.length, ownP 5 1 (.slice A9 B.length c9) B.length (bys B), snkP kb B, srcP sb B 0]) := Lib.hid (St.u8_of (hs9.sel [1, 0, 2, 3] (by decide) (by simp)))
        clear hs9 hn9)
      clear HS8
      go_loopw [17] (fun vi wr => ∃ i : Nat, i ≤ B.length ∧ vi = .int .i64 i ∧ Hid (St w wr [u8P A8 B.length, ownP 5 1 (.slice A9 B.length c9) B.length (bys B), snkP kb B, srcP sb B 0])) (fun i _ => B.length - (intOf i).toNat)
      case atStart => exact ⟨0, by omega, rfl, HS9⟩
      case round =>
        clear HS9
        obtain ⟨i, hi, rfl, HS⟩ := hrel
        by_cases hlt : i < B.length
        · obtain ⟨g, v, rfl, cz, fz, z0, z1⟩ := HS.out.u8_at i hlt
          have hx := xor255 v z0 z1
          have HX := Lib.hid hx
          clear hx
          go_wp2_with fail
          go_roundw
          case rel => exact ⟨i + 1, by omega, by go_num, Lib.hid (HS.out.u8_set i hlt _ HX.out.1 HX.out.2)⟩
          case measure => simp [intOf]; omega
        · obtain ⟨q, hq⟩ : ∃ q : Nat, q = B.length / 512 * 512 := ⟨_, rfl⟩
          have e1 : (B.length : Int) / 512 * 512 = (q : Int) := by omega
          have hq2 : q ≤ B.length ∧ padN q = q := by unfold padN; omega
          have HQ := Lib.hid hq2
          clear hq hq2
          go_wp2_with fail
          refine (St.src_body (HS.out.sel [3, 0, 1, 2] (by decide) (by simp)) q q q rfl HQ.out.2.symm HQ.out.1 (by have := HQ.out.1; have := H2.out; omega) ⟨by have := H2.out; omega, by have := H2.out; omega⟩).mono ?_
          rintro e w10 ⟨A10, c10, rfl, hA10, _, hs10⟩
          have HA10 := Lib.hid hA10
          have HS10 := Lib.hid hs10
          clear hs10 HS hA10
          go_wp2_with fail
          refine wp_region_O default ([0, 1, 2, 3, 4, 5, 6, 7, 8, 9, 10, 11, 12, 13, 14, 15, 16, 17, 18, 19, 20, 21, 22, 23, 24, 25, 26, 27, 28, 29, 30, 31, 32, 33, 36, 37, 34, 35] ++ [38, 39, 40, 41, 42, 43, 44, 45, 46, 47, 48, 49, 50, 51, 52, 53, 54, 55, 56]) [34] Anew (fun u => St w u [rdP A10 (bys (B.take q)), srcP sb (B.drop q) (0 + q), u8P A8 B.length, ownP 5 1 (.slice A9 B.length c9) B.length (bys B), snkP kb B]) (by kernel_rfl) (by kernel_rfl) (by kernel_rfl) Anew.refl (St.stays _ _) HS10.out.drew ?_
          simp only [List.cons_append, List.nil_append, List.map_cons, List.map_nil, List.getD_cons_succ, List.getD_cons_zero]
          clear HS10
          repeat (first
            | (apply wpO_val
               · rfl
               · intro u hu
                 have cv9 := conv_own (hu.sel [3] (by decide) (by simp)) trivial
                 have cvB := conv_rd (n := B.length) (c := c) (L := B) (HRD.out _ _ hu) rfl (fun e => by rw [(HA.out e).1]; rfl)
                 clear hu
                 (go_simp <;> with_reducible rfl)
               simp only [Act.put, List.setIfInBounds_toArray, List.set_cons_zero, List.set_cons_succ])
            | (apply wpO_call
               · rfl
               · intro u
                 go_simp
                 exact ⟨rfl, rfl⟩
               · intro u hu
                 with_reducible (first
                   | exact answers03 u
                   | exact (src_place_nil u).mono fun _ _ ⟨h1, h2⟩ => ⟨h1, h2 ▸ Anew.refl _⟩
                   | exact (src_rest_nil u).mono fun _ _ ⟨h1, h2⟩ => ⟨h1, h2 ▸ Anew.refl _⟩
                   | exact (snk_out_nil u).mono fun _ _ ⟨h1, h2⟩ => ⟨h1, h2 ▸ Anew.refl _⟩)
               simp only [Act.put, List.setIfInBounds_toArray, List.set_cons_zero, List.set_cons_succ]))
          refine wpO_some (f := 19) (args := #[.pointer (some ⟨kb, 0, none⟩)]) (fun v u => ∃ (A5 : Option Addr) (c5 : Nat), v = .slice A5 B.length c5 ∧ (A5 = none → B.length = 0) ∧ St w u [ownP 5 1 (.slice A5 B.length c5) B.length (bys B)]) (by decide) rfl ?_ (fun v u u' ⟨A5, c5, e, hn, hs⟩ k => ⟨A5, c5, e, hn, hs.later k⟩) ?_ ?_
          · intro u
            go_simp
          · intro u hu
            refine (St.snk_out_k (hu.sel [4] (by decide) (by simp)) B.length rfl (by have := H2.out; omega)).mono ?_
            rintro e u' ⟨⟨A5, c5, rfl, _, hn, hs⟩, k⟩
            exact ⟨_, rfl, k, A5, c5, rfl, fun e => (hn e).1, hs.sel [0] (by decide) (by simp)⟩
          intro v
          simp only [Act.put, List.setIfInBounds_toArray, List.set_cons_zero, List.set_cons_succ]
          have q1 : (q : Int) ≤ (B.length : Int) := by have := HQ.out.1; omega
          have q2 : (0 : Int) ≤ (q : Int) := by omega
          have q3 : (q : Int) ≤ 2000 := by omega
          have q4 : (q : Int) ≤ (c : Int) := by omega
          have e2 : IntKind.i64.wrap ((B.length : Int) / 512) = (B.length : Int) / 512 := IntWalk.i64_in _ (by omega)
          have e3 : IntKind.i64.wrap ((B.length : Int) / 512 * 512) = (q : Int) := by rw [e1]; exact IntWalk.i64_in _ (by omega)
          have e4 : IntKind.i64.wrap (q : Int) = (q : Int) := IntWalk.i64_in _ (by omega)
          have hql : (B.take q).length = q := by rw [List.length_take]; have := HQ.out.1; omega
          have HQL := Lib.hid hql
          clear hql
          repeat (first
            | (apply wpO_val
               · rfl
               · rintro u ⟨hu, A5, c5, rfl, hn5, hs5⟩
                 have cv5 := conv_own hs5 trivial
                 have cvB := conv_rd (n := B.length) (c := c) (L := B) (HRD.out _ _ hu) rfl (fun e => by rw [(HA.out e).1]; rfl)
                 have cvq := conv_rd (n := q) (c := c) (L := B.take q) (A := A) (w := u) (by
                   have h := (HRD.out _ _ hu).take q
                   rwa [show (bys B).take q = bys (B.take q) by unfold bys; rw [List.map_take]] at h) HQL.out.symm (fun e => by have := HQ.out.1; rw [(HA.out e).1] at this; simpa using this)
                 have cv10 := conv_rd (n := q) (c := c10) (L := B.take q) (St.rdp hu) HQL.out.symm (fun e => by have := HA10.out; rw [e] at this; cases this)
                 clear hu hn5 hs5
                 (go_simp <;> with_reducible rfl)
               simp only [Act.put, List.setIfInBounds_toArray, List.set_cons_zero, List.set_cons_succ])
            | (refine wpO_val (v := .slice A q c) rfl ?_ ?_
               · intro u hu
                 clear hu
                 rcases A with _ | a2 <;> (go_simp <;> with_reducible rfl)
               simp only [Act.put, List.setIfInBounds_toArray, List.set_cons_zero, List.set_cons_succ]))
          refine wpO_nil ?_
          rintro u ⟨hu, _⟩
          have HS11 := Lib.hid hu
          clear hu
          go_wp2_with fail
          go_ret
          exact ⟨rfl, HS11.out.keep⟩
theorem blockNone_walk (w : World) (A : Option Addr) (n c : Nat) (B : List UInt8) (hn : n = B.length) (hcc : n ≤ c) (hcm : c ≤ 9223372036854775807) (hr : RdV w A (bys B)) (hA : A = none → B = [] ∧ c = 0) (_ : n ≤ 140737488351232) (z : Int) (_ : IntKind.i64.min ≤ z ∧ z ≤ IntKind.i64.max) :
    Calls Try.prog 6 #[.slice A n c, .int .i64 z] w fun e w' => e = .returned (.bool true) ∧ Below w.heap.size w w' := by
  subst hn
  by_cases h : B.length ≤ 2000
  · exact (none_any w A c B hr hA hcc hcm h z).mono fun _ _ ⟨h1, h2⟩ => ⟨h1, h2.below (Nat.le_refl _) (fun _ _ h => h)⟩
  · exact (none_big w A c B.length z (by omega)).mono fun _ _ ⟨h1, h2⟩ => ⟨h1, h2.below (Nat.le_refl _) (fun _ _ h => h)⟩
end Go.Proofs.Ytiobacnepacjnaa
