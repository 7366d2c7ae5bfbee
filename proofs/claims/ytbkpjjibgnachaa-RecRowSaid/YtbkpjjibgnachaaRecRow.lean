/- RecRow. Conditions: none. -/
import Derived.Test.YtbkpjjibgnachaaLaw13S
import Derived.Test.YtbkpjjibgnachaaRowIt
import Derived.Test.YtbkpjjibgnachaaGRec
import Derived.Test.YtbkpjjibgnachaaRowP
namespace Go.Proofs.Ytbkpjjibgnachaa
open Go.RowKit

theorem ItOk.small {w : World} {x : It} (h : ItOk w x) : ItSmall x := by
  obtain ⟨⟨d, h1⟩, h2, h3⟩ := h
  have := h1.2.1
  unfold ItSmall
  omega
theorem St.item {w0 w : World} {l : List Part} {g : Nat} {x : It} (h : St w0 w (blkP g 47 x.cells :: l)) : w.cell? ⟨g, 0, none⟩ = some (.string x.k) ∧ w.cell? ⟨g, 1, none⟩ = some (.int .i64 x.s) ∧ w.cell? ⟨g, 2, none⟩ = some (.slice x.A x.n x.c) :=
  ⟨h.blk.1.cell 0, h.blk.1.cell 1, h.blk.1.cell 2⟩
theorem St.boxI {w0 w : World} {l : List Part} (h : St w0 w l) (x : It) (b : Nat) (hb : b = w.heap.size) : St w0 (w.alloc (Obj.cells #[.string x.k, .int .i64 x.s, .slice x.A x.n x.c] 47)) (blkP b 47 x.cells :: l) := by
  subst hb
  exact h.box x.cells 47
theorem infoIntR : (Try.prog.info? 3).map (fun i => (i.zero, i.size, i.bytes)) = some (some (.int .i64 0), 1, 8) := by kernel_rfl
/-- The cells of an item in a list that came in. -/
theorem RdI.at_ {w0 w : World} {l : List Part} {b o : Nat} {L : List It} (hc : ∀ i j (h : i < L.length), j < 3 → w0.cell? ⟨b, o + i * 3 + j, none⟩ = L[i].cells[j]?) (h : St w0 w l) (i : Nat) (hi : i < L.length) :
    w.cell? ⟨b, o + i * 3, none⟩ = some (.string L[i].k) ∧ w.cell? ⟨b, o + i * 3 + 1, none⟩ = some (.int .i64 L[i].s) ∧ w.cell? ⟨b, o + i * 3 + 2, none⟩ = some (.slice L[i].A L[i].n L[i].c) :=
  ⟨h.cell (hc i 0 hi (by omega)), h.cell (hc i 1 hi (by omega)), h.cell (hc i 2 hi (by omega))⟩
theorem wsum_take_le (L : List It) (i : Nat) : wsum (L.take i) ≤ wsum L := by
  have h : L = L.take i ++ L.drop i := (List.take_append_drop i L).symm
  unfold wsum
  conv => rhs; rw [h]
  rw [List.map_append, List.sum_append]
  exact Nat.le_add_right _ _
theorem preI_len {w : World} {L : List It} (hL : ∀ x ∈ L, ∃ y, DatI w x y) : ∀ i, i ≤ L.length → (preI w L i).length = i * 16 + wsum (L.take i)
  | 0, _ => by rw [preI_zero, List.take_zero]; rfl
  | i + 1, h => by
    rw [preI_succ w L i (by omega), List.length_append, preI_len hL i (by omega), encI_len (hL _ (List.getElem_mem _)), wsum_succ L i (by omega)]
    omega
/-- What the first loop has made of the first i items. -/
def Laid (w : World) (L : List It) (i : Nat) (A : Option Addr) (p c : Nat) (A2 : Option Addr) (c2 : Nat) (wr : World) : Prop :=
  p = (preI w L i).length ∧ (∀ j (h : j < L.length), j < i → mayI L[j].k L[j].s L[j].n = true) ∧ St w wr [ownP 5 1 (.slice A p c) p (bys (preI w L i)), ownP 3 1 (.slice A2 i c2) i ((endsI w L i).map (Value.int .i64))]
set_option maxRecDepth 100000 in
set_option maxHeartbeats 8000000 in
theorem recrow_small (w : World) (a : Option Addr) (c : Nat) (L : List It) (cut : Int) (h0 : 0 ≤ cut) (h1 : cut ≤ 65535) (hr : RdI w a L) (hx : ∀ x ∈ L, ItOk w x) (hl : L.length ≤ 200) (hs : wsum L ≤ 200000) :
    Calls Try.prog 13 #[.slice a L.length c, .int .u16 cut] w fun e w' => e = .returned (.bool true) ∧ Keep (fun b => w.heap.size ≤ b) w w' := by
  have HR := Lib.hid hr
  have HX := Lib.hid hx
  have HL : Hid (L.length ≤ 200 ∧ wsum L ≤ 200000) := Lib.hid ⟨hl, hs⟩
  have q0 : (L.length : Int) ≤ 200 := by omega
  clear hr hx hl hs
  go_enter Try.func13, Try.ntmps13
  go_wp2_with fail
  refine (St.light13 (St.start w) a L.length c L true rfl HR.out (by have := HL.out.1; omega) (fun x hx => (HX.out x hx).small) (decide_eq_true HL.out)).mono ?_
  rintro e w1 ⟨rfl, hs1⟩
  have HS1 : Hid (Laid w L 0 none 0 0 none 0 w1) := Lib.hid ⟨rfl, fun j _ h => absurd h (Nat.not_lt_zero j), (hs1.nil 3 1).nil 5 1⟩
  clear hs1
  go_wp2_with fail
  go_loopw [5, 6, 7] (fun v5 v6 v7 wr => ∃ (i : Nat) (A : Option Addr) (p c : Nat) (A2 : Option Addr) (c2 : Nat), i ≤ L.length ∧ v5 = .slice A p c ∧ v6 = .slice A2 i c2 ∧ v7 = .int .i64 i ∧ Hid (Laid w L i A p c A2 c2 wr)) (fun _ _ v7 _ => L.length - (intOf v7).toNat)
  case atStart => exact ⟨0, none, 0, 0, none, 0, Nat.zero_le _, rfl, rfl, rfl, HS1⟩
  case round =>
    clear HS1
    obtain ⟨i, A, p, cp, A2, c2, hi, rfl, rfl, rfl, HLA⟩ := hrel
    by_cases hlt : i < L.length
    · rcases HR.out with ⟨_, h0⟩ | ⟨b, o, rfl, hc⟩
      · rw [h0] at hlt; simp at hlt
      have HC := Lib.hid hc
      have q1 : (0 : Int) ≤ i := by omega
      have q2 : (i : Int) < (L.length : Int) := by omega
      obtain ⟨x0, x1, x2⟩ := RdI.at_ hc HLA.out.2.2 i hlt
      have hda : ∃ y, DatI w L[i] y := (HX.out _ (List.getElem_mem hlt)).1
      have hpl := preI_len (fun x hx => (HX.out x hx).1) i hi
      have hpl2 := preI_len (fun x hx => (HX.out x hx).1) (i + 1) hlt
      have hps := preI_succ w L i hlt
      have hws := wsum_take_le L (i + 1)
      have hgb : (encI w L[i]).length = itN L[i] := encI_len hda
      have hre : encI w L[i] = putL L[i].k L[i].s (datI w L[i]) := rfl
      have hdd := datI_spec hda
      have HXE : Hid (∃ X : It, ∀ h : i < L.length, X = L[i]) := Lib.hid ⟨L[i], fun _ => rfl⟩
      obtain ⟨X, hX⟩ := HXE.out
      rw [← hX hlt] at x0 x1 x2 hps hgb hre hdd
      have HI := Lib.hid hlt
      have HXE := Lib.hid hX
      have HDA := Lib.hid hdd
      have HPS := Lib.hid (And.intro hps (And.intro hre (And.intro hpl2 (And.intro hws hgb))))
      clear hre hdd
      clear hc hlt hda hpl hpl2 hps hws hgb hX
      go_wp2_with fail
      cases hmay : mayI X.k X.s X.n
      · refine (St.may13 HLA.out.2.2 X false hmay).mono ?_
        rintro e w2 ⟨rfl, hs2⟩
        have HS2 := Lib.hid hs2
        clear hs2 hmay
        go_wp2_with fail
        refine (St.ans13 HS2.out).mono ?_
        rintro e w3 ⟨rfl, hs3⟩
        have HS3 := Lib.hid hs3
        clear hs3 HS2
        go_wp2_with fail
        go_ret
        exact ⟨rfl, HS3.out.keep⟩
      · refine (St.may13 HLA.out.2.2 X true hmay).mono ?_
        rintro e w2 ⟨rfl, hs2⟩
        have HS2 := Lib.hid hs2
        have HMY := Lib.hid hmay
        clear hs2 hmay x0 x1 x2
        obtain ⟨x0, x1, x2⟩ := RdI.at_ HC.out HS2.out i HI.out
        rw [← HXE.out HI.out] at x0 x1 x2
        obtain ⟨N, hN⟩ : ∃ N, N = itN X := ⟨_, rfl⟩
        have HN := Lib.hid hN
        clear hN
        go_wp2_with fail
        refine (St.ref_bytes HS2.out X (datI w X) N (encI w X) HN.out HPS.out.2.1 (HDA.out.st HS2.out) HMY.out).mono ?_
        rintro e w3 ⟨A3, c3, rfl, _, hs3⟩
        have HS3 := Lib.hid hs3
        clear hs3 HS2 x0 x1 x2
        have HPN : Hid (p + N = (preI w L (i + 1)).length ∧ p + N ≤ 203200) := Lib.hid (by
          have e1 : (preI w L (i + 1)).length = p + N := by
            rw [HPS.out.1, List.length_append, ← HLA.out.1, HPS.out.2.2.2.2, HN.out]
          have := HPS.out.2.2.1
          have := HPS.out.2.2.2.1
          have := HL.out
          have := HI.out
          omega)
        have HI8 := Lib.hid infoU8
        have HII := Lib.hid infoIntR
        have HNI : Hid (N = (encI w X).length) := Lib.hid (by rw [HPS.out.2.2.2.2, HN.out])
        go_wp2_with (first
          | (at_builtin
             refine wpL_append_st rfl (.tmp 31) (.tmp 36) 28 28 rfl 5 (.int .u8 0) 1 1 Try.underlying28 HI8.out rfl (by decide) (.slice A p cp) p (bys (preI w L i)) rfl (HS3.out.sel [1, 0, 2] (by decide) (by simp)) (.slice A3 N c3) N (bys (encI w X)) rfl (Src.of_rd Try.underlying28 HS3.out.own_rdv.1 N c3 (by rw [bys_length, Nat.mul_one]; exact HNI.out.symm) (one_bys _) HS3.out.own_rdv.2.2.2) (by have := HPN.out.2; unfold maxLen; omega) (by have := HPN.out.2; omega) ?_
             intro A4 c4 w4 _ _ hs4
             rw [← bys_append, ← HPS.out.1] at hs4
             have HS4 := Lib.hid hs4
             clear hs4)
          | (at_builtin
             refine wpL_push_st rfl (.tmp 38) (.tmp 41) 37 rfl 3 (.int .i64 0) 1 8 Try.underlying37 HII.out rfl (by decide) (.slice A2 i c2) i ((endsI w L i).map (Value.int .i64)) rfl (HS4.out.sel [2, 0] (by decide) (by simp)) [.int .i64 ((p + N : Nat) : Int)] rfl (by simp [Value.oneCell']) _ rfl rfl (by have := HI.out; have := HL.out.1; unfold maxLen; omega) (by have := HI.out; have := HL.out.1; omega) ?_
             intro A5 c5 w5 _ _ hs5
             have HS5 := Lib.hid hs5
             clear hs5))
        go_roundw
        case rel =>
          refine ⟨i + 1, A4, p + N, c4, A5, c5, HI.out, rfl, rfl, by go_num, Lib.hid ⟨HPN.out.1, fun j hj hji => ?_, ?_⟩⟩
          · by_cases e : j < i
            · exact HLA.out.2.1 j hj e
            · obtain rfl : j = i := by omega
              rw [← HXE.out hj]; exact HMY.out
          · have h := HS5.out.sel [1, 0] (by decide) (by simp)
            rw [endsI_succ, List.map_append, List.map_cons, List.map_nil, ← HPN.out.1]
            exact h
        case measure => have := HI.out; simp [intOf]; omega
    · obtain rfl : i = L.length := by omega
      have HMA : Hid (∀ x ∈ L, mayI x.k x.s x.n = true) := Lib.hid (fun x hx => by
        obtain ⟨j, hj, rfl⟩ := List.mem_iff_getElem.1 hx
        exact HLA.out.2.1 j hj hj)
      have hpl := preI_len (fun x hx => (HX.out x hx).1) L.length (Nat.le_refl _)
      have hws := wsum_take_le L L.length
      have hp1 : p ≤ 203200 := by rw [HLA.out.1, hpl]; have := HL.out; omega
      have q2 : (p : Int) ≤ 203200 := by omega
      have q3 : (0 : Int) ≤ (p : Int) := by omega
      have q4 : (0 : Int) < (p : Int) + 1 := by omega
      have hm1 := Int.emod_nonneg cut (show (p : Int) + 1 ≠ 0 by omega)
      have hm2 := Int.emod_lt_of_pos cut q4
      clear hpl hws hlt
      go_wp2_with fail
      obtain ⟨kk, hkk⟩ : ∃ kk : Nat, cut % ((p : Int) + 1) = (kk : Int) := ⟨(cut % ((p : Int) + 1)).toNat, by omega⟩
      rw [hkk] at hm1 hm2 ⊢
      have hkp : kk ≤ p := by omega
      have HKP := Lib.hid hkp
      clear hkk hm1 hm2 hkp hi q2 q3 q4 h0 h1
      have HP1 := Lib.hid hp1
      clear hp1
      have HPR : Hid (p = (preI w L L.length).length) := Lib.hid HLA.out.1
      have HS0 := Lib.hid HLA.out.2.2
      obtain ⟨Z, hZ⟩ : ∃ Z, Z = (endsI w L L.length).map (Value.int .i64) := ⟨_, rfl⟩
      obtain ⟨B, hB⟩ : ∃ B, B = preI w L L.length := ⟨_, rfl⟩
      rw [← hZ, ← hB] at HS0
      have HZ := Lib.hid hZ
      have HB := Lib.hid hB
      clear hZ hB
      go_loopw [9, 10] (fun v9 v10 wr => ∃ i : Nat, i ≤ L.length ∧ v9 = .int .i64 ((preI w L i).length : Int) ∧ v10 = .int .i64 i ∧ Hid ((preI w L i).length ≤ kk) ∧ Hid (St w wr [ownP 5 1 (.slice A p cp) p (bys B), ownP 3 1 (.slice A2 L.length c2) L.length Z])) (fun _ v10 _ => L.length - (intOf v10).toNat)
      case atStart => exact ⟨0, Nat.zero_le _, rfl, rfl, Lib.hid (Nat.zero_le _), HS0⟩
      case round =>
        clear HS0 HLA
        obtain ⟨i, hi, rfl, rfl, HAT, HST⟩ := hrel
        by_cases hlt : i < L.length
        · rcases HR.out with ⟨_, h0⟩ | ⟨b, o, rfl, hc⟩
          · rw [h0] at hlt; simp at hlt
          have HC := Lib.hid hc
          have q1 : (0 : Int) ≤ i := by omega
          have q2 : (i : Int) < (L.length : Int) := by omega
          have hda : ∃ y, DatI w L[i] y := (HX.out _ (List.getElem_mem hlt)).1
          have hmy := HMA.out _ (List.getElem_mem hlt)
          have hps := preI_succ w L i hlt
          have hgb : (encI w L[i]).length = itN L[i] := encI_len hda
          have hre : encI w L[i] = putL L[i].k L[i].s (datI w L[i]) := rfl
          have hdd := datI_spec hda
          have hsp := preI_split w L i hlt
          have HXE : Hid (∃ X : It, ∀ h : i < L.length, X = L[i]) := Lib.hid ⟨L[i], fun _ => rfl⟩
          obtain ⟨X, hX⟩ := HXE.out
          rw [← hX hlt] at hps hgb hre hdd hsp hmy
          obtain ⟨more, hmo⟩ := hsp
          have HI := Lib.hid hlt
          have HXE := Lib.hid hX
          have HDA := Lib.hid hdd
          have HMY := Lib.hid hmy
          obtain ⟨P, hP⟩ : ∃ P, P = (preI w L i).length := ⟨_, rfl⟩
          have hP2 : (preI w L (i + 1)).length = P + itN X := by rw [hps, List.length_append, hgb, hP]
          rw [← hP] at HAT ⊢
          have HPS : Hid (P = (preI w L i).length ∧ (preI w L (i + 1)).length = P + itN X ∧ encI w X = putL X.k X.s (datI w X) ∧ B = preI w L i ++ (encI w X ++ more) ∧ (encI w X).length = itN X) := Lib.hid ⟨hP, hP2, hre, HB.out.trans hmo, hgb⟩
          clear hc hlt hda hps hgb hX hre hdd hmo hmy hP hP2
          have hPB : p = B.length ∧ P + itN X ≤ p := by
            have := congrArg List.length HPS.out.2.2.2.1
            rw [List.length_append, List.length_append, HPS.out.2.2.2.2, ← HPS.out.1] at this
            have h2 := HPR.out
            rw [← HB.out] at h2
            omega
          have HPB := Lib.hid hPB
          have hn16 : 16 ≤ itN X := by unfold itN; omega
          obtain ⟨hbr, hbc, hbm, hbn⟩ := HST.out.own_rdv
          cases A with
          | none => exfalso; have := hbn rfl; omega
          | some ag =>
            obtain ⟨g, rfl⟩ : ∃ g, ag = ⟨g, 0, none⟩ := by
              rcases own_form HST.out.own with ⟨e, _⟩ | ⟨g, _, e, _⟩
              · cases e
              · injection e with e _ _; cases e; exact ⟨g, rfl⟩
            have r1 : (0 : Int) ≤ (P : Int) := by omega
            have r2 : (P : Int) ≤ (kk : Int) := by have := HAT.out; omega
            have r3 : (kk : Int) ≤ (cp : Int) := by have := HKP.out; omega
            have r4 : (P : Int) < (cp : Int) := by omega
            have r5 : (cp : Int) ≤ 9223372036854775807 := by omega
            have r6 : ¬ cp = P := by omega
            have r7 : P ≤ kk := HAT.out
            have r8 : P ≤ cp := by omega
            clear hbr hbc hbm hbn hn16 hPB
            go_wp2_with fail
            obtain ⟨hsl, hsb⟩ := slb_sub HST.out P kk r7 (by have := HKP.out; omega)
            obtain ⟨EN, hEN⟩ : ∃ EN, EN = P + itN X := ⟨_, rfl⟩
            have HEN := Lib.hid hEN
            clear hEN
            have hends : ∀ u, St w u [ownP 3 1 (.slice A2 L.length c2) L.length Z] → ∃ g2, A2 = some ⟨g2, 0, none⟩ ∧ u.cell? ⟨g2, i, none⟩ = some (.int .i64 (EN : Int)) := by
              intro u hu
              obtain ⟨h1, _, _, h4⟩ := hu.own_rdv
              have hz := endsI_get w L L.length i HI.out
              rw [← HZ.out, HPS.out.2.1, ← HEN.out] at hz
              obtain ⟨y, hy, hc⟩ := h1 i _ hz
              rcases own_form hu.own with ⟨e, _⟩ | ⟨g2, _, e, _⟩
              · injection e with e _ _; rw [e] at hy; cases hy
              · injection e with e _ _
                rw [e] at hy
                cases hy
                rw [add_plain, Nat.zero_add] at hc
                exact ⟨g2, e, hc⟩
            obtain ⟨g2, rfl, _⟩ := hends wr (HST.out.sel [1] (by decide) (by simp))
            have HE : Hid (∀ u, St w u [ownP 3 1 (.slice (some ⟨g2, 0, none⟩) L.length c2) L.length Z] → u.cell? ⟨g2, i, none⟩ = some (.int .i64 (EN : Int))) := Lib.hid (fun u hu => by
              obtain ⟨g3, e, h⟩ := hends u hu
              cases e
              exact h)
            clear hends
            by_cases he : EN ≤ kk
            · have d1 : decide ((EN : Int) ≤ (kk : Int)) = true := decide_eq_true (by omega)
              have d2 : decide (EN ≤ kk) = true := decide_eq_true he
              have HLE := Lib.hid he
              obtain ⟨m2, hm2⟩ : ∃ m2, (B.drop P).take (kk - P) = putL X.k X.s (datI w X) ++ m2 := by
                refine ⟨more.take (kk - P - itN X), ?_⟩
                rw [HPS.out.2.2.2.1, List.drop_left' HPS.out.1.symm, List.take_append, List.take_of_length_le (by rw [HPS.out.2.2.2.2]; have := HEN.out; omega), HPS.out.2.2.2.2, HPS.out.2.2.1]
              refine (St.rec_get_put HST.out (some ⟨g, P, none⟩) (kk - P) (cp - P) _ m2 X (datI w X) hsl.symm hsb hm2 HDA.out.1 HMY.out).mono ?_
              rintro e w3 ⟨A3, c3, rfl, hc3, hs3⟩
              obtain ⟨N, hN⟩ : ∃ N, N = itN X := ⟨_, rfl⟩
              rw [← hN]
              have HN := Lib.hid hN
              have HS3 := Lib.hid hs3
              clear hs3 hsl hsb hm2 hc3 hN he
              go_wp2_with fail
              have rN : (P : Int) + (N : Int) ≤ 203200 := by have := HPB.out.2; have := HN.out; have := HP1.out; omega
              obtain ⟨yb, hyb⟩ : ∃ yb, yb = w3.heap.size := ⟨_, rfl⟩
              have hs8 := HS3.out.boxI ⟨X.k, X.s, A3, X.n, c3⟩ yb hyb
              rw [← hyb]
              clear hyb
              generalize w3.alloc (Obj.cells #[.string X.k, .int .i64 X.s, .slice A3 X.n c3] 47) = w8 at hs8 ⊢
              have HS8 := Lib.hid hs8
              clear hs8 HS3
              refine wp_region_G [] Anew (fun u => St w u (blkP yb 47 (It.cells ⟨X.k, X.s, A3, X.n, c3⟩) :: [ownP 5 1 (.slice A3 X.n c3) X.n (bys (datI w X)), ownP 5 1 (.slice (some ⟨g, 0, none⟩) p cp) p (bys B), ownP 3 1 (.slice (some ⟨g2, 0, none⟩) L.length c2) L.length Z])) (by kernel_rfl) (by kernel_rfl) (by kernel_rfl) Anew.refl (St.stays _ _) HS8.out.drew ?_
              repeat (first
                | (apply wpG_skip
                   · rfl
                   simp only [Act.put, List.setIfInBounds_toArray, List.set_cons_zero, List.set_cons_succ])
                | (apply wpG_val
                   · rfl
                   · intro u hu
                     have ec := HE.out u (St.sel hu [3] (by decide) (by simp))
                     obtain ⟨x0, x1, x2⟩ := RdI.at_ HC.out hu i HI.out
                     rw [← HXE.out HI.out] at x0 x1 x2
                     obtain ⟨y0, y1, y2⟩ := St.item hu
                     clear hu
                     (go_simp <;> with_reducible rfl)
                   simp only [Act.put, List.setIfInBounds_toArray, List.set_cons_zero, List.set_cons_succ])
                | (apply wpG_call
                   · rfl
                   · intro u
                     go_simp
                     exact ⟨rfl, rfl⟩
                   · intro u hu
                     first
                       | with_reducible exact same_g ⟨X.k, X.s, A3, X.n, c3⟩ X (datI w X) (datI w X) true (by simp [sameB]) (dat_own (St.tail hu)) (HDA.out.st hu)
                   simp only [Act.put, List.setIfInBounds_toArray, List.set_cons_zero, List.set_cons_succ]))
              refine wpG_nil ?_
              intro w9 hs9
              have HS9 := Lib.hid hs9
              clear hs9 HS8
              go_wp2_with fail
              go_roundw
              case rel =>
                refine ⟨i + 1, HI.out, by rw [HPS.out.2.1, ← HN.out]; go_num, by go_num, Lib.hid (by rw [HPS.out.2.1, ← HEN.out]; exact HLE.out), Lib.hid (HS9.out.sel [2, 3] (by decide) (by simp))⟩
              case measure => have := HI.out; simp [intOf]; omega
            · have d1 : decide ((EN : Int) ≤ (kk : Int)) = false := decide_eq_false (by omega)
              have d2 : decide (EN ≤ kk) = false := decide_eq_false he
              have hbn : begS ((B.drop P).take (kk - P)) = none := by
                rw [HPS.out.2.2.2.1, List.drop_left' HPS.out.1.symm, HPS.out.2.2.1]
                obtain ⟨m1, _, _, m4⟩ := may_parts HMY.out
                refine begS_cut X.k X.s (datI w X) more (kk - P) m1 (by rw [← HDA.out.1]; exact m4) ?_
                have := HEN.out
                have := HDA.out.1
                unfold itN at *
                omega
              refine (St.rec_get HST.out (some ⟨g, P, none⟩) (kk - P) (cp - P) _ hsl.symm hsb).mono ?_
              intro e w3 hg
              unfold GetS at hg
              rw [hbn] at hg
              obtain ⟨rfl, hs3⟩ : e = _ ∧ St w w3 _ := hg
              have HS3 := Lib.hid hs3
              clear hs3 hsl hsb hbn he
              go_wp2_with fail
              obtain ⟨yb, hyb⟩ : ∃ yb, yb = w3.heap.size := ⟨_, rfl⟩
              have hs8 := HS3.out.boxI ⟨⟨#[]⟩, 0, none, 0, 0⟩ yb hyb
              rw [← hyb]
              clear hyb
              generalize w3.alloc (Obj.cells #[.string ⟨#[]⟩, .int .i64 0, .slice none 0 0] 47) = w8 at hs8 ⊢
              have HS8 := Lib.hid hs8
              clear hs8 HS3
              refine wp_region_G [] Anew (fun u => St w u (blkP yb 47 (It.cells ⟨⟨#[]⟩, 0, none, 0, 0⟩) :: [ownP 5 1 (.slice (some ⟨g, 0, none⟩) p cp) p (bys B), ownP 3 1 (.slice (some ⟨g2, 0, none⟩) L.length c2) L.length Z])) (by kernel_rfl) (by kernel_rfl) (by kernel_rfl) Anew.refl (St.stays _ _) HS8.out.drew ?_
              repeat (first
                | (apply wpG_skip
                   · rfl
                   simp only [Act.put, List.setIfInBounds_toArray, List.set_cons_zero, List.set_cons_succ])
                | (apply wpG_val
                   · rfl
                   · intro u hu
                     have ec := HE.out u (St.sel hu [2] (by decide) (by simp))
                     obtain ⟨x0, x1, x2⟩ := RdI.at_ HC.out hu i HI.out
                     rw [← HXE.out HI.out] at x0 x1 x2
                     obtain ⟨y0, y1, y2⟩ := St.item hu
                     clear hu
                     (go_simp <;> with_reducible rfl)
                   simp only [Act.put, List.setIfInBounds_toArray, List.set_cons_zero, List.set_cons_succ])
                | (apply wpG_call
                   · rfl
                   · intro u
                     go_simp
                     exact ⟨rfl, rfl⟩
                   · intro u hu
                     first
                       | with_reducible exact answers13 u
                   simp only [Act.put, List.setIfInBounds_toArray, List.set_cons_zero, List.set_cons_succ]))
              refine wpG_nil ?_
              intro w9 hs9
              have HS9 := Lib.hid hs9
              clear hs9 HS8
              go_wp2_with fail
              refine (St.ans13 HS9.out).mono ?_
              rintro e w10 ⟨rfl, hs10⟩
              have HS10 := Lib.hid hs10
              clear hs10 HS9
              go_wp2_with fail
              go_ret
              exact ⟨rfl, HS10.out.keep⟩
        · obtain rfl : i = L.length := by omega
          rw [← HPR.out]
          clear hlt
          go_wp2_with fail
          refine (St.ans13 HST.out).mono ?_
          rintro e w10 ⟨rfl, hs10⟩
          have HS10 := Lib.hid hs10
          clear hs10 HST
          go_wp2_with fail
          go_ret
          exact ⟨rfl, HS10.out.keep⟩
set_option maxRecDepth 100000 in
set_option maxHeartbeats 4000000 in
theorem recrow_big (w : World) (a : Option Addr) (c : Nat) (L : List It) (cut : Int) (hr : RdI w a L) (hx : ∀ x ∈ L, ItOk w x) (hl : L.length ≤ 4611686018427387904) (hs : ¬ (L.length ≤ 200 ∧ wsum L ≤ 200000)) :
    Calls Try.prog 13 #[.slice a L.length c, .int .u16 cut] w fun e w' => e = .returned (.bool true) ∧ Keep (fun b => w.heap.size ≤ b) w w' := by
  have HR := Lib.hid hr
  have HX := Lib.hid hx
  have HL := Lib.hid hl
  have HN := Lib.hid hs
  clear hr hx hl hs
  go_enter Try.func13, Try.ntmps13
  go_wp2_with fail
  refine (St.light13 (St.start w) a L.length c L false rfl HR.out HL.out (fun x hx => (HX.out x hx).small) (decide_eq_false HN.out)).mono ?_
  rintro e w1 ⟨rfl, hs1⟩
  have HS1 := Lib.hid hs1
  clear hs1
  go_wp2_with fail
  refine (St.ans13 HS1.out).mono ?_
  rintro e w10 ⟨rfl, hs10⟩
  have HS10 := Lib.hid hs10
  clear hs10 HS1
  go_wp2_with fail
  go_ret
  exact ⟨rfl, HS10.out.keep⟩
theorem recRow_walk (w : World) (a : Option Addr) (n c : Nat) (L : List It) (hn : n = L.length) (_ : n ≤ c) (hc : c ≤ 2932031007402) (hr : RdI w a L) (_ : a = none → L = [] ∧ c = 0) (hx : ∀ x ∈ L, ItOk w x) (cut : Int) (hcut : IntKind.u16.min ≤ cut ∧ cut ≤ IntKind.u16.max) :
    Calls Try.prog 13 #[.slice a n c, .int .u16 cut] w fun e w' => e = .returned (.bool true) ∧ Below w.heap.size w w' := by
  subst hn
  by_cases h : L.length ≤ 200 ∧ wsum L ≤ 200000
  · exact (recrow_small w a c L cut hcut.1 hcut.2 hr hx h.1 h.2).mono fun _ _ ⟨h1, h2⟩ => ⟨h1, h2.below (Nat.le_refl _) (fun _ _ h => h)⟩
  · exact (recrow_big w a c L cut hr hx (by omega) h).mono fun _ _ ⟨h1, h2⟩ => ⟨h1, h2.below (Nat.le_refl _) (fun _ _ h => h)⟩
end Go.Proofs.Ytbkpjjibgnachaa
