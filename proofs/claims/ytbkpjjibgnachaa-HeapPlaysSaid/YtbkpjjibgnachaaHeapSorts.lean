/- HeapSorts: the walk. Conditions: none. -/
import Derived.Test.YtbkpjjibgnachaaHeapS
import Derived.Test.YtbkpjjibgnachaaHeapT
import Derived.Test.YtbkpjjibgnachaaLess13
import Derived.Test.YtbkpjjibgnachaaRowEs
import Derived.Deep.DeepCutAuto
import Derived.Deep.CutBlock
namespace Go.Proofs.Ytbkpjjibgnachaa
open Go.RowKit

theorem RdE.rd {W : World} {a : Option Addr} {L : List En} (h : RdE W a L) : RdV W a (flatE L) := by
  rcases h with ⟨rfl, rfl⟩ | ⟨b, o, rfl, hc⟩
  · exact RdV.nil _ _
  · intro j u hj
    refine ⟨_, rfl, ?_⟩
    rw [add_plain]
    have hlt : j < L.length * 4 := by
      rw [← flatE_len]
      exact (List.getElem?_eq_some_iff.1 hj).1
    have h1 := hc (j / 4) (j % 4) (by omega) (by omega)
    rw [show o + j / 4 * 4 + j % 4 = o + j by omega] at h1
    rw [h1, ← hj, ← flatE_get L (j / 4) (j % 4) (by omega) (by omega)]
    congr 1
    omega
theorem RdE.keep {W W' : World} {a : Option Addr} {L : List En} (h : RdE W a L) (k : Keep (fun b => W.heap.size ≤ b) W W') : RdE W' a L := by
  rcases h with h | ⟨b, o, rfl, hc⟩
  · exact .inl h
  · refine .inr ⟨b, o, rfl, fun i j hi hj => ?_⟩
    have h1 := hc i j hi hj
    have h2 : j < (L[i].cells).length := by rw [En.cells_len]; exact hj
    rw [List.getElem?_eq_getElem h2] at h1 ⊢
    exact old_cell h1 k
theorem one_En (L : List En) : ∀ u ∈ flatE L, u.oneCell' = true := by
  intro u hu
  obtain ⟨e, _, he⟩ := List.mem_flatMap.1 hu
  simp only [En.cells, List.mem_cons, List.not_mem_nil, or_false] at he
  rcases he with rfl | rfl | rfl | rfl <;> rfl
/-- The mixed list. -/
def MixE (w : World) (lo : Nat) (A : Option Addr) (c : Nat) (M : List En) : Prop := M = [] ∨ ∃ g, A = some ⟨g, 0, none⟩ ∧ lo ≤ g ∧ RowE w g c M
theorem mix_of {w : World} {lo n : Nat} {v : Value} {L : List En} (h : w.ownsRow lo 49 4 v n (flatE L)) (hn : n = L.length) : ∃ A c, v = .slice A L.length c ∧ MixE w lo A c L := by
  subst hn
  rcases h.2 with ⟨rfl, h0⟩ | ⟨g, cap, cur, rfl, hg, _⟩
  · exact ⟨none, 0, by rw [h0], .inl (List.eq_nil_of_length_eq_zero h0)⟩
  · exact ⟨_, cap, rfl, .inr ⟨g, rfl, hg, RowE.of_own h⟩⟩
set_option maxRecDepth 100000 in
set_option maxHeartbeats 8000000 in
theorem heapSorts_small (A : Option Addr) (c : Nat) (L : List En) (At : Option Addr) (nt ct : Nat) (T : List UInt8) (w : World) (hr : RdE w A L) (hc : L.length ≤ c) (hl : L.length ≤ 100) (hnt : nt = T.length) (hrt : RdV w At (bys T)) (htl : T.length ≤ 140737488351232) :
    Calls Try.prog 6 #[.slice A L.length c, .slice At nt ct] w fun e w' => e = .returned (.bool true) ∧ Keep (fun b => w.heap.size ≤ b) w w' := by
  subst hnt
  have HR := Lib.hid hr
  have HRT := Lib.hid hrt
  have HL := Lib.hid hl
  have HTL := Lib.hid htl
  have hA : A = none → L.length = 0 := by
    intro e
    rcases hr with ⟨_, rfl⟩ | ⟨b, o, rfl, _⟩
    · rfl
    · cases e
  have HA := Lib.hid hA
  have hd : decide ((100 : Int) < (L.length : Int)) = false := decide_eq_false (by omega)
  clear hr hrt hl htl hA
  go_enter Try.func6, Try.ntmps6
  go_upto_block 0 with (
    at_builtin
    refine wpL_fresh _ rfl (.tmp 23) (.tmp 24) 40 40 rfl 49 (.agg #[.string ⟨#[]⟩, .int .i64 0, .slice none 0 0, .int .i64 0]) 4 56 Try.underlying40 infoEn rfl (by decide) _ rfl rfl _ L.length (flatE L) rfl (Src.of_rd Try.underlying40 ((HR.out.rd).keep ((Keep.refl (fun _ => False) w).alloc _) (fun _ _ _ h => h)) L.length c (flatE_len L) (one_En L) HA.out) (by have := HL.out; unfold maxLen; omega) (by have := HL.out; omega) ?_
    intro v1 w1 hown1 hk1
    obtain ⟨A1, c1, rfl, hm1⟩ := mix_of hown1 rfl
    have HM1 := Lib.hid hm1
    have HK1 := Lib.hid hk1
    clear hown1 hm1 hk1)
  go_cut [] (fun wx => ∃ M, Hid (M.length = L.length ∧ M.Perm L ∧ MixE wx w.heap.size A1 c1 M ∧ Keep (fun b => w.heap.size ≤ b) w wx))
  case first =>
    go_wp2_with fail
    go_loopw [6] (fun v6 wr => ∃ (i : Nat) (M : List En), i ≤ L.length ∧ v6 = .int .i64 i ∧ Hid (M.length = L.length) ∧ Hid (M.Perm L) ∧ Hid (MixE wr w.heap.size A1 c1 M) ∧ Hid (Keep (fun b => w.heap.size ≤ b) w wr)) (fun v6 _ => L.length - (intOf v6).toNat)
    case atStart => exact ⟨0, L, Nat.zero_le _, rfl, Lib.hid rfl, Lib.hid (List.Perm.refl _), HM1, Lib.hid (HK1.out.mono (fun _ _ h => h.elim))⟩
    case round =>
      obtain ⟨i, M, hi, rfl, HML, HMP, HMM, HKW⟩ := hrel
      have hend : ∀ wx, MixE wx w.heap.size A1 c1 M → Keep (fun b => w.heap.size ≤ b) w wx → ∃ M, Hid (M.length = L.length ∧ M.Perm L ∧ MixE wx w.heap.size A1 c1 M ∧ Keep (fun b => w.heap.size ≤ b) w wx) := fun wx h1 h2 => ⟨M, Lib.hid ⟨HML.out, HMP.out, h1, h2⟩⟩
      have HE := Lib.hid hend
      clear hend
      by_cases hb : i < L.length
      · by_cases hb2 : i < T.length
        · rcases HMM.out with hM0 | ⟨g, hA1, hlo, hrow⟩
          · have := HML.out; rw [hM0] at this; simp at this; omega
          obtain ⟨t, ht⟩ : ∃ t, t = T[i].toNat := ⟨_, rfl⟩
          have ht2 : t < 256 := by rw [ht]; exact T[i].toNat_lt
          obtain ⟨at', hat, hct⟩ := (HRT.out.old HKW.out) i (.int .u8 (t : Int)) (by rw [ht]; simp [bys, hb2])
          subst hat
          subst hA1
          have HLO := Lib.hid hlo
          have HRO := Lib.hid hrow
          obtain ⟨m, hm⟩ : ∃ m, m = t % (L.length - i) := ⟨_, rfl⟩
          have hml : m < L.length - i := by rw [hm]; exact Nat.mod_lt _ (by omega)
          obtain ⟨k, hk⟩ : ∃ k, k = i + m := ⟨_, rfl⟩
          have hkl : k < L.length := by omega
          have hq1 : (t : Int).tmod ((L.length : Int) - (i : Int)) = (m : Int) := by
            rw [Int.tmod_eq_emod_of_nonneg (by omega), hm, Int.natCast_emod, Int.natCast_sub (by omega)]
          have hq2 : (t : Int) % ((L.length : Int) - (i : Int)) = (m : Int) := by
            rw [hm, Int.natCast_emod, Int.natCast_sub (by omega)]
          have hq3 : (i : Int) + (m : Int) = (k : Int) := by omega
          have hz : ((L.length : Int) - (i : Int) == 0) = false := beq_false_of_ne (by omega)
          have hMi : i < M.length := by rw [HML.out]; exact hb
          have hMk : k < M.length := by rw [HML.out]; exact hkl
          have q1 : (0 : Int) ≤ i := by omega
          have q2 : (i : Int) < (L.length : Int) := by omega
          have q3 : (0 : Int) ≤ k := by omega
          have q4 : (k : Int) < (L.length : Int) := by omega
          have q5 : (i : Int) < (T.length : Int) := by omega
          have q6 : (0 : Int) ≤ t := by omega
          have q7 : (t : Int) ≤ 4611686018427387904 := by omega
          have q8 : (0 : Int) ≤ m := by omega
          have q9 : (0 : Int) < (L.length : Int) - (i : Int) := by omega
          have HTT := Lib.hid ht
          have HMMM := Lib.hid hm
          have HKK := Lib.hid hk
          have HIL := Lib.hid hb
          clear hm hk ht ht2 hlo hrow hml HMM
          have hll := HL.out
          have hll2 : (L.length : Int) ≤ 4611686018427387904 := by omega
          clear hll
          go_wp2_with fail
          have ci0 := HRO.out.cell i 0 hMi (by omega)
          have ci1 := HRO.out.cell i 1 hMi (by omega)
          have ci2 := HRO.out.cell i 2 hMi (by omega)
          have ci3 := HRO.out.cell i 3 hMi (by omega)
          have ck0 := HRO.out.cell k 0 hMk (by omega)
          have ck1 := HRO.out.cell k 1 hMk (by omega)
          have ck2 := HRO.out.cell k 2 hMk (by omega)
          have ck3 := HRO.out.cell k 3 hMk (by omega)
          have fi0 := HRO.out.free (i * 4)
          have fi1 := HRO.out.free (i * 4 + 1)
          have fi2 := HRO.out.free (i * 4 + 2)
          have fi3 := HRO.out.free (i * 4 + 3)
          have fk0 := HRO.out.free (k * 4)
          have fk1 := HRO.out.free (k * 4 + 1)
          have fk2 := HRO.out.free (k * 4 + 2)
          have fk3 := HRO.out.free (k * 4 + 3)
          rw [← gE_eq M i hMi] at ci0 ci1 ci2 ci3
          rw [← gE_eq M k hMk] at ck0 ck1 ck2 ck3
          simp only [En.cells, List.getElem?_cons_zero, List.getElem?_cons_succ, Nat.add_zero] at ci0 ci1 ci2 ci3 ck0 ck1 ck2 ck3
          clear hq1 hq2 hq3 hz q6 q7 q8 q9
          by_cases hik : i = k
          · subst hik
            -- the exchange
            go_region
            go_wp2_with fail
            have hswp : swapE M i i = (M.set i (gE M i)).set i (gE M i) := rfl
            go_roundw
            case rel =>
              refine ⟨i + 1, swapE M i i, by have := HIL.out; omega, by go_num, Lib.hid (by rw [swapE_len]; exact HML.out), Lib.hid ((swap_perm M i i hMi hMk).trans HMP.out), Lib.hid (.inr ⟨g, rfl, HLO.out, ?_⟩), Lib.hid ?_⟩
              · rw [hswp]
                exact ((HRO.out.put i (gE M i) hMi).put i (gE M i) (by simpa using hMk)).drew
              · exact ((HKW.out.trans' (put_keep wr g (i * 4) (.string (gE M i).k) (.int .i64 (gE M i).s) (.slice (gE M i).A (gE M i).n (gE M i).c) (.int .i64 (gE M i).r)) (fun j _ e => by have e2 : j = g := e; have := HLO.out; omega)).trans' (put_keep _ g (i * 4) (.string (gE M i).k) (.int .i64 (gE M i).s) (.slice (gE M i).A (gE M i).n (gE M i).c) (.int .i64 (gE M i).r)) (fun j _ e => by have e2 : j = g := e; have := HLO.out; omega)).drew
            case measure => have := HIL.out; simp [intOf]; omega
          · have HIK := Lib.hid hik
            have n00 : ¬ i * 4 = k * 4 := by omega
            have m00 : ¬ k * 4 = i * 4 := by omega
            have n01 : ¬ i * 4 = k * 4 + 1 := by omega
            have m01 : ¬ k * 4 + 1 = i * 4 := by omega
            have n02 : ¬ i * 4 = k * 4 + 2 := by omega
            have m02 : ¬ k * 4 + 2 = i * 4 := by omega
            have n03 : ¬ i * 4 = k * 4 + 3 := by omega
            have m03 : ¬ k * 4 + 3 = i * 4 := by omega
            have n10 : ¬ i * 4 + 1 = k * 4 := by omega
            have m10 : ¬ k * 4 = i * 4 + 1 := by omega
            have n11 : ¬ i * 4 + 1 = k * 4 + 1 := by omega
            have m11 : ¬ k * 4 + 1 = i * 4 + 1 := by omega
            have n12 : ¬ i * 4 + 1 = k * 4 + 2 := by omega
            have m12 : ¬ k * 4 + 2 = i * 4 + 1 := by omega
            have n13 : ¬ i * 4 + 1 = k * 4 + 3 := by omega
            have m13 : ¬ k * 4 + 3 = i * 4 + 1 := by omega
            have n20 : ¬ i * 4 + 2 = k * 4 := by omega
            have m20 : ¬ k * 4 = i * 4 + 2 := by omega
            have n21 : ¬ i * 4 + 2 = k * 4 + 1 := by omega
            have m21 : ¬ k * 4 + 1 = i * 4 + 2 := by omega
            have n22 : ¬ i * 4 + 2 = k * 4 + 2 := by omega
            have m22 : ¬ k * 4 + 2 = i * 4 + 2 := by omega
            have n23 : ¬ i * 4 + 2 = k * 4 + 3 := by omega
            have m23 : ¬ k * 4 + 3 = i * 4 + 2 := by omega
            have n30 : ¬ i * 4 + 3 = k * 4 := by omega
            have m30 : ¬ k * 4 = i * 4 + 3 := by omega
            have n31 : ¬ i * 4 + 3 = k * 4 + 1 := by omega
            have m31 : ¬ k * 4 + 1 = i * 4 + 3 := by omega
            have n32 : ¬ i * 4 + 3 = k * 4 + 2 := by omega
            have m32 : ¬ k * 4 + 2 = i * 4 + 3 := by omega
            have n33 : ¬ i * 4 + 3 = k * 4 + 3 := by omega
            have m33 : ¬ k * 4 + 3 = i * 4 + 3 := by omega
            clear hik
            -- the exchange
            go_region
            go_wp2_with fail
            have hswp : swapE M i k = (M.set i (gE M k)).set k (gE M i) := rfl
            go_roundw
            case rel =>
              refine ⟨i + 1, swapE M i k, by have := HIL.out; omega, by go_num, Lib.hid (by rw [swapE_len]; exact HML.out), Lib.hid ((swap_perm M i k hMi hMk).trans HMP.out), Lib.hid (.inr ⟨g, rfl, HLO.out, ?_⟩), Lib.hid ?_⟩
              · rw [hswp]
                exact ((HRO.out.put i (gE M k) hMi).put k (gE M i) (by simpa using hMk)).drew
              · exact ((HKW.out.trans' (put_keep wr g (i * 4) (.string (gE M k).k) (.int .i64 (gE M k).s) (.slice (gE M k).A (gE M k).n (gE M k).c) (.int .i64 (gE M k).r)) (fun j _ e => by have e2 : j = g := e; have := HLO.out; omega)).trans' (put_keep _ g (k * 4) (.string (gE M i).k) (.int .i64 (gE M i).s) (.slice (gE M i).A (gE M i).n (gE M i).c) (.int .i64 (gE M i).r)) (fun j _ e => by have e2 : j = g := e; have := HLO.out; omega)).drew
            case measure => have := HIL.out; simp [intOf]; omega
        · go_wp2
          go_meet
          exact HE.out _ HMM.out HKW.out
      · go_wp2
        go_meet
        exact HE.out _ HMM.out HKW.out
  case rest =>
    obtain ⟨M, HC⟩ := hcut
    have HC1 : Hid (M.length = L.length) := Lib.hid HC.out.1
    have HC2 : Hid (M.Perm L) := Lib.hid HC.out.2.1
    have HC3 : Hid (MixE wc w.heap.size A1 c1 M) := Lib.hid HC.out.2.2.1
    have HC4 : Hid (Keep (fun b => w.heap.size ≤ b) w wc) := Lib.hid HC.out.2.2.2
    go_wp2_with fail
    have hHa := (new_heap wc)
    have hHb := new_heap (wc.alloc (Obj.cells #[.slice none 0 0] 44))
    rw [show (wc.alloc (Obj.cells #[.slice none 0 0] 44)).heap.size = wc.heap.size + 1 by simp] at hHb
    have hHa2 : HeapAt ((wc.alloc (Obj.cells #[.slice none 0 0] 44)).alloc (Obj.cells #[.slice none 0 0] 44)) (fun k => k = wc.heap.size) wc.heap.size [] := hHa.keep ((Keep.refl (fun _ => False) _).alloc _) (fun _ _ h => h)
    have hK0 : Keep (fun b => wc.heap.size ≤ b) wc ((wc.alloc (Obj.cells #[.slice none 0 0] 44)).alloc (Obj.cells #[.slice none 0 0] 44)) := ((Keep.refl _ wc).alloc _).alloc _
    have hsz : ((wc.alloc (Obj.cells #[.slice none 0 0] 44)).alloc (Obj.cells #[.slice none 0 0] 44)).heap.size = wc.heap.size + 2 := by simp
    generalize (wc.alloc (Obj.cells #[.slice none 0 0] 44)).alloc (Obj.cells #[.slice none 0 0] 44) = w2 at hHa2 hHb hK0 hsz ⊢
    clear hHa
    have HMX : Hid (MixE w2 w.heap.size A1 c1 M ∧ ∀ g, A1 = some ⟨g, 0, none⟩ → M ≠ [] → g < wc.heap.size) := Lib.hid (by
      rcases HC3.out with h | ⟨g, hA, hlo, hr⟩
      · exact ⟨.inl h, fun g _ hne => absurd h hne⟩
      · refine ⟨.inr ⟨g, hA, hlo, hr.keep hK0 (by have := hr.lt; omega)⟩, fun g' hA' _ => ?_⟩
        rw [hA] at hA'; cases hA'; exact hr.lt)
    have HK2 : Hid (Keep (fun b => w.heap.size ≤ b) w w2) := Lib.hid (HC4.out.trans' hK0 (fun j _ h => by have := HC4.out.size; omega))
    have HH : Hid (HeapAt w2 (fun k => k = wc.heap.size) wc.heap.size [] ∧ HeapAt w2 (fun k => k = wc.heap.size + 1) (wc.heap.size + 1) []) := Lib.hid ⟨hHa2, hHb⟩
    have HTW : Hid (Two w2 wc.heap.size [] []) := Lib.hid ⟨_, _, hHa2, hHb, fun k hk => ⟨by have e : k = _ := hk; omega, by have e : k = _ := hk; omega, fun h => by have e : k = _ := hk; have e2 : k = _ := h; omega⟩, fun k hk => ⟨by have e : k = _ := hk; omega, by have e : k = _ := hk; omega⟩⟩
    have HSZ := Lib.hid hsz
    have HSW : Hid (w.heap.size ≤ wc.heap.size) := Lib.hid HC4.out.size
    clear hHa2 hHb hK0 hsz HC3 HC4 HC HK1 HM1
    generalize wc.heap.size = ha at HMX HH HSZ HSW HTW ⊢
    clear HH
    go_loopw [10] (fun v10 wr => ∃ i : Nat, i ≤ L.length ∧ v10 = .int .i64 i ∧ Hid (Two wr ha (pushAll (L.take i)) (pushAll (M.take i))) ∧ Hid (MixE wr w.heap.size A1 c1 M) ∧ Hid (Keep (fun b => w.heap.size ≤ b) w wr)) (fun v10 _ => L.length - (intOf v10).toNat)
    case atStart => exact ⟨0, Nat.zero_le _, rfl, HTW, Lib.hid HMX.out.1, HK2⟩
    case round =>
      obtain ⟨i, hi, rfl, HTWO, HMIX, HKE⟩ := hrel
      by_cases hb : i < L.length
      · rcases HR.out with ⟨_, hL0⟩ | ⟨bA, oA, hAA, hcA⟩
        · rw [hL0] at hb; simp at hb
        rcases HMIX.out with hM0 | ⟨g, hA1, hlo, hrow⟩
        · have := HC1.out; rw [hM0] at this; simp at this; omega
        have hgha : g < ha := HMX.out.2 g hA1 (by intro e; have := HC1.out; rw [e] at this; simp at this; omega)
        subst hAA
        subst hA1
        have HCA := Lib.hid hcA
        have HROW := Lib.hid hrow
        have HGH := Lib.hid hgha
        have HLO := Lib.hid hlo
        have HIL := Lib.hid hb
        have hMi : i < M.length := by rw [HC1.out]; exact hb
        have q1 : (0 : Int) ≤ i := by omega
        have q2 : (i : Int) < (L.length : Int) := by omega
        have x0 : wr.cell? ⟨bA, oA + i * 4, none⟩ = some (.string L[i].k) := old_cell (hcA i 0 hb (by omega)) HKE.out
        have x1 : wr.cell? ⟨bA, oA + i * 4 + 1, none⟩ = some (.int .i64 L[i].s) := old_cell (hcA i 1 hb (by omega)) HKE.out
        have x2 : wr.cell? ⟨bA, oA + i * 4 + 2, none⟩ = some (.slice L[i].A L[i].n L[i].c) := old_cell (hcA i 2 hb (by omega)) HKE.out
        have x3 : wr.cell? ⟨bA, oA + i * 4 + 3, none⟩ = some (.int .i64 L[i].r) := old_cell (hcA i 3 hb (by omega)) HKE.out
        have HE1 : Hid (pushAll (L.take (i + 1)) = pushE (pushAll (L.take i)) L[i]) := Lib.hid ((pushAll_succ L i hb).trans (congrArg (pushE (pushAll (L.take i))) (gE_eq L i hb)))
        generalize hLi : L[i] = X at x0 x1 x2 x3 HE1
        clear hLi hcA hrow hgha hlo hb
        obtain ⟨Fa, Fb, t1, t2, t3, t4⟩ := HTWO.out
        have hll := HL.out
        have hlen : (pushAll (L.take i)).length < 1000000 := by rw [pushAll_len, List.length_take]; omega
        have hlenb : (pushAll (M.take i)).length < 1000000 := by rw [pushAll_len, List.length_take]; omega
        have HT1 := Lib.hid (And.intro t1 (And.intro t2 (And.intro t3 (And.intro t4 (And.intro hlen hlenb)))))
        clear t1 t2 t3 t4 hlen hlenb hll
        go_wp2_with fail
        refine (heap_push Fa ha (pushAll (L.take i)) X wr HT1.out.1 HT1.out.2.2.2.2.1).mono ?_
        rintro e w3 ⟨rfl, p1, p2⟩
        rw [← HE1.out] at p1
        have HT2 : Hid (Two w3 ha (pushAll (L.take (i + 1))) (pushAll (M.take i))) := Lib.hid (two_pushA HT1.out.2.1 HT1.out.2.2.1 HT1.out.2.2.2.1 p1 p2)
        have hra : RowE w3 g c1 M := HROW.out.keep p2 (fun h => by have := (HT1.out.2.2.1 _ h).1; have := HGH.out; omega)
        have hka := HKE.out.trans' p2 (fun j _ h => by have := (HT1.out.2.2.1 _ h).1; have := HSW.out; omega)
        have HE2 : Hid (pushAll (M.take (i + 1)) = pushE (pushAll (M.take i)) (gE M i)) := Lib.hid (pushAll_succ M i hMi)
        have y0 := hra.cell i 0 hMi (by omega)
        have y1 := hra.cell i 1 hMi (by omega)
        have y2 := hra.cell i 2 hMi (by omega)
        have y3 := hra.cell i 3 hMi (by omega)
        rw [← gE_eq M i hMi] at y0 y1 y2 y3
        simp only [En.cells, List.getElem?_cons_zero, List.getElem?_cons_succ, Nat.add_zero] at y0 y1 y2 y3
        generalize gE M i = Y at y0 y1 y2 y3 HE2
        have HRA := Lib.hid hra
        have HKA := Lib.hid hka
        have hlb := HT1.out.2.2.2.2.2
        have HLB := Lib.hid hlb
        clear p1 p2 hra hka HROW HKE HT1 HTWO hlb x0 x1 x2 x3
        obtain ⟨Ga, Gb, t1, t2, t3, t4⟩ := HT2.out
        have HT3 := Lib.hid (And.intro t1 (And.intro t2 (And.intro t3 t4)))
        clear t1 t2 t3 t4
        go_wp2_with fail
        refine (heap_push Gb (ha + 1) (pushAll (M.take i)) Y w3 HT3.out.2.1 HLB.out).mono ?_
        rintro e w4 ⟨rfl, p1, p2⟩
        rw [← HE2.out] at p1
        have HT4 : Hid (Two w4 ha (pushAll (L.take (i + 1))) (pushAll (M.take (i + 1)))) := Lib.hid (two_pushB HT3.out.1 HT3.out.2.2.1 HT3.out.2.2.2 p1 p2)
        have HRB : Hid (RowE w4 g c1 M) := Lib.hid (HRA.out.keep p2 (fun h => by have := (HT3.out.2.2.2 _ h).1; have := HGH.out; omega))
        have HKB := Lib.hid (HKA.out.trans' p2 (fun j _ h => by have := (HT3.out.2.2.2 _ h).1; have := HSW.out; omega))
        clear p1 p2 HT2 HT3 y0 y1 y2 y3
        have hll := HL.out
        have hll2 : (L.length : Int) ≤ 4611686018427387904 := by omega
        clear hll
        go_wp2_with fail
        go_roundw
        case rel => exact ⟨i + 1, by have := HIL.out; omega, by go_num, HT4, Lib.hid (.inr ⟨g, rfl, HLO.out, HRB.out⟩), HKB⟩
        case measure => have := HIL.out; simp [intOf]; omega
      · have hT : Two wr ha (pushAll L) (pushAll M) := by
          have h := HTWO.out
          rw [List.take_of_length_le (by omega), List.take_of_length_le (by rw [HC1.out]; omega)] at h
          exact h
        obtain ⟨Fa, Fb, t1, t2, t3, t4⟩ := hT
        have HA0 : Hid (HeapAt (wr.alloc (Obj.cells #[.string ⟨#[]⟩, .int .i64 0, .slice none 0 0, .int .i64 0] 49)) Fa ha (pushAll L)) := Lib.hid (t1.keep ((Keep.refl (fun _ => False) wr).alloc _) (fun _ _ h => h))
        have HB0 : Hid (HeapAt (wr.alloc (Obj.cells #[.string ⟨#[]⟩, .int .i64 0, .slice none 0 0, .int .i64 0] 49)) Fb (ha + 1) (pushAll M)) := Lib.hid (t2.keep ((Keep.refl (fun _ => False) wr).alloc _) (fun _ _ h => h))
        have HFA : Hid (∀ k, Fa k → ha ≤ k ∧ k < wr.heap.size ∧ ¬ Fb k) := Lib.hid t3
        have HFB : Hid (∀ k, Fb k → ha ≤ k ∧ k < wr.heap.size) := Lib.hid t4
        have HLB0 : Hid (Blk (wr.alloc (Obj.cells #[.string ⟨#[]⟩, .int .i64 0, .slice none 0 0, .int .i64 0] 49)) wr.heap.size 49 z0.cells) := Lib.hid (Blk.new wr _ _)
        have HK0 := Lib.hid (HKE.out.alloc (Obj.cells #[.string ⟨#[]⟩, .int .i64 0, .slice none 0 0, .int .i64 0] 49))
        have HRK : Hid (((pushAll L).map rk).Perm ((pushAll M).map rk)) := Lib.hid (((pushAll_perm L).trans (HC2.out.symm.trans (pushAll_perm M).symm)).map rk)
        have HS3 : Hid (ha ≤ wr.heap.size ∧ (wr.alloc (Obj.cells #[.string ⟨#[]⟩, .int .i64 0, .slice none 0 0, .int .i64 0] 49)).heap.size = wr.heap.size + 1 ∧ w.heap.size ≤ ha) := Lib.hid ⟨by have := t1.lt; omega, by simp, HSW.out⟩
        clear t1 t2 t3 t4 HTWO HMIX HKE
        go_wp2_with fail
        generalize wr.alloc (Obj.cells #[.string ⟨#[]⟩, .int .i64 0, .slice none 0 0, .int .i64 0] 49) = w5 at HA0 HB0 HLB0 HK0 HS3 ⊢
        generalize wr.heap.size = lb at HFA HFB HLB0 HS3 ⊢
        have HSZ5 : Hid (lb < w5.heap.size) := Lib.hid (by have := HS3.out.2.1; omega)
        go_loopw [12] (fun v12 wr => ∃ (q : Nat) (X Y : List En) (E : En), q ≤ L.length ∧ v12 = .int .i64 q ∧ Hid (X.length = L.length - q) ∧ Hid (Ord X ∧ Ord Y ∧ (X.map rk).Perm (Y.map rk)) ∧ Hid (HeapAt wr Fa ha X ∧ HeapAt wr Fb (ha + 1) Y) ∧ Hid (Blk wr lb 49 E.cells) ∧ Hid (0 < q → ∀ e ∈ X, ltN e E = false) ∧ Hid (Keep (fun b => w.heap.size ≤ b) w wr)) (fun v12 _ => L.length - (intOf v12).toNat)
        case atStart => exact ⟨0, pushAll L, pushAll M, z0, Nat.zero_le _, rfl, Lib.hid (pushAll_len L), Lib.hid ⟨pushAll_ord L, pushAll_ord M, HRK.out⟩, Lib.hid ⟨HA0.out, HB0.out⟩, HLB0, Lib.hid (fun h => absurd h (by omega)), HK0⟩
        case round =>
          obtain ⟨q, X, Y, E, hq, rfl, HXL, HOR, HAB, HBE, HMN, HKQ⟩ := hrel
          by_cases hql : q < L.length
          · have hX0 : 0 < X.length := by rw [HXL.out]; omega
            have hY0 : 0 < Y.length := by have := HOR.out.2.2.length_eq; simp at this; omega
            have hll := HL.out
            have hXs : X.length < 1000000 := by rw [HXL.out]; omega
            have hYs : Y.length < 1000000 := by have := HOR.out.2.2.length_eq; simp at this; omega
            have HS := Lib.hid (And.intro hX0 (And.intro hY0 (And.intro hXs hYs)))
            have HQL := Lib.hid hql
            have q1 : (0 : Int) ≤ q := by omega
            have q2 : (q : Int) < (L.length : Int) := by omega
            have hll2 : (L.length : Int) ≤ 4611686018427387904 := by omega
            clear hX0 hY0 hXs hYs hll hql
            go_wp2_with fail
            refine (pop_some Fa ha X wr HAB.out.1 HS.out.1 HS.out.2.2.1).mono ?_
            rintro e w6 ⟨rfl, p1, p2⟩
            simp only [valE]
            have HEQ := Lib.hid (pair_eq HOR.out.1 HOR.out.2.1 HOR.out.2.2 HS.out.1)
            have HMA := Lib.hid (fun e he => pop_min HOR.out.1 HS.out.1 e he)
            have HMX2 := Lib.hid (fun (h : 0 < q) => HMN.out h (gE X 0) (gE_mem HS.out.1))
            have HB6 : Hid (HeapAt w6 Fb (ha + 1) Y) := Lib.hid (HAB.out.2.keep p2 (fun j hj h => by
              rcases h with h | h
              · exact (HFA.out j h).2.2 hj
              · have := (HFB.out j hj).2; have := HBE.out.lt; omega))
            have HE6 : Hid (Blk w6 lb 49 E.cells) := Lib.hid (HBE.out.keep p2 (fun h => by
              rcases h with h | h
              · have := (HFA.out lb h).2.1; omega
              · have := HBE.out.lt; omega))
            have HK6 := Lib.hid (HKQ.out.trans' p2 (fun j _ h => by
              rcases h with h | h
              · have := (HFA.out j h).1; have := HS3.out.2.2; omega
              · have := HKQ.out.size; omega))
            have HA6 := Lib.hid p1
            clear p1 p2
            generalize gE X 0 = GX at HEQ HMA HMX2 ⊢
            have HB7 : Hid (HeapAt (w6.alloc (Obj.cells #[.string GX.k, .int .i64 GX.s, .slice GX.A GX.n GX.c, .int .i64 GX.r] 49)) Fb (ha + 1) Y) := Lib.hid (HB6.out.keep ((Keep.refl (fun _ => False) w6).alloc _) (fun _ _ h => h))
            have HA7 : Hid (HeapAt (w6.alloc (Obj.cells #[.string GX.k, .int .i64 GX.s, .slice GX.A GX.n GX.c, .int .i64 GX.r] 49)) Fa ha (popE X)) := Lib.hid (HA6.out.keep ((Keep.refl (fun _ => False) w6).alloc _) (fun _ _ h => h))
            have HE7 := Lib.hid (HE6.out.alloc (Obj.cells #[.string GX.k, .int .i64 GX.s, .slice GX.A GX.n GX.c, .int .i64 GX.r] 49))
            have HK7 := Lib.hid (HK6.out.alloc (Obj.cells #[.string GX.k, .int .i64 GX.s, .slice GX.A GX.n GX.c, .int .i64 GX.r] 49))
            have HX7 : Hid (Blk (w6.alloc (Obj.cells #[.string GX.k, .int .i64 GX.s, .slice GX.A GX.n GX.c, .int .i64 GX.r] 49)) w6.heap.size 49 GX.cells) := Lib.hid (Blk.new w6 _ _)
            have HXL7 : Hid (lb < w6.heap.size) := Lib.hid HE6.out.lt
            clear HAB HB6 HA6 HE6 HK6 HBE HKQ
            go_wp2_with fail
            generalize w6.alloc (Obj.cells #[.string GX.k, .int .i64 GX.s, .slice GX.A GX.n GX.c, .int .i64 GX.r] 49) = w7 at HA7 HB7 HE7 HK7 HX7 ⊢
            generalize w6.heap.size = xb at HX7 HXL7 ⊢
            refine (pop_some Fb (ha + 1) Y w7 HB7.out HS.out.2.1 HS.out.2.2.2).mono ?_
            rintro e w8 ⟨rfl, p1, p2⟩
            simp only [valE]
            generalize gE Y 0 = GY at HEQ ⊢
            have HA8 : Hid (HeapAt w8 Fa ha (popE X)) := Lib.hid (HA7.out.keep p2 (fun j hj h => by
              rcases h with h | h
              · exact (HFA.out j hj).2.2 h
              · have := (HFA.out j hj).2.1; have := HE7.out.lt; omega))
            have HE8 : Hid (Blk w8 lb 49 E.cells) := Lib.hid (HE7.out.keep p2 (fun h => by
              rcases h with h | h
              · have := (HFB.out lb h).2; omega
              · have := HE7.out.lt; omega))
            have HX8 : Hid (Blk w8 xb 49 GX.cells) := Lib.hid (HX7.out.keep p2 (fun h => by
              rcases h with h | h
              · have := (HFB.out xb h).2; have := HXL7.out; omega
              · have := HX7.out.lt; omega))
            have HK8 := Lib.hid (HK7.out.trans' p2 (fun j _ h => by
              rcases h with h | h
              · have := (HFB.out j h).1; have := HS3.out.2.2; omega
              · have := HK7.out.size; omega))
            have HB8 := Lib.hid p1
            clear p1 p2 HA7 HB7 HE7 HK7 HX7
            have HA9 : Hid (HeapAt (w8.alloc (Obj.cells #[.string GY.k, .int .i64 GY.s, .slice GY.A GY.n GY.c, .int .i64 GY.r] 49)) Fa ha (popE X)) := Lib.hid (HA8.out.keep ((Keep.refl (fun _ => False) w8).alloc _) (fun _ _ h => h))
            have HB9 : Hid (HeapAt (w8.alloc (Obj.cells #[.string GY.k, .int .i64 GY.s, .slice GY.A GY.n GY.c, .int .i64 GY.r] 49)) Fb (ha + 1) (popE Y)) := Lib.hid (HB8.out.keep ((Keep.refl (fun _ => False) w8).alloc _) (fun _ _ h => h))
            have HE9 := Lib.hid (HE8.out.alloc (Obj.cells #[.string GY.k, .int .i64 GY.s, .slice GY.A GY.n GY.c, .int .i64 GY.r] 49))
            have HX9 := Lib.hid (HX8.out.alloc (Obj.cells #[.string GY.k, .int .i64 GY.s, .slice GY.A GY.n GY.c, .int .i64 GY.r] 49))
            have HK9 := Lib.hid (HK8.out.alloc (Obj.cells #[.string GY.k, .int .i64 GY.s, .slice GY.A GY.n GY.c, .int .i64 GY.r] 49))
            have HY9 : Hid (Blk (w8.alloc (Obj.cells #[.string GY.k, .int .i64 GY.s, .slice GY.A GY.n GY.c, .int .i64 GY.r] 49)) w8.heap.size 49 GY.cells) := Lib.hid (Blk.new w8 _ _)
            have HST9 : Hid (HeapAt (w8.alloc (Obj.cells #[.string GY.k, .int .i64 GY.s, .slice GY.A GY.n GY.c, .int .i64 GY.r] 49)) Fa ha (popE X) ∧ HeapAt (w8.alloc (Obj.cells #[.string GY.k, .int .i64 GY.s, .slice GY.A GY.n GY.c, .int .i64 GY.r] 49)) Fb (ha + 1) (popE Y) ∧ Blk (w8.alloc (Obj.cells #[.string GY.k, .int .i64 GY.s, .slice GY.A GY.n GY.c, .int .i64 GY.r] 49)) lb 49 E.cells ∧ Blk (w8.alloc (Obj.cells #[.string GY.k, .int .i64 GY.s, .slice GY.A GY.n GY.c, .int .i64 GY.r] 49)) xb 49 GX.cells ∧ Blk (w8.alloc (Obj.cells #[.string GY.k, .int .i64 GY.s, .slice GY.A GY.n GY.c, .int .i64 GY.r] 49)) w8.heap.size 49 GY.cells ∧ Keep (fun b => w.heap.size ≤ b) w (w8.alloc (Obj.cells #[.string GY.k, .int .i64 GY.s, .slice GY.A GY.n GY.c, .int .i64 GY.r] 49))) := Lib.hid ⟨HA9.out, HB9.out, HE9.out, HX9.out, HY9.out, HK9.out⟩
            have HLY : Hid (lb < w8.heap.size ∧ lb < xb) := Lib.hid ⟨HE8.out.lt, HXL7.out⟩
            clear HA9 HB9 HE9 HX9 HY9 HK9 HA8 HB8 HE8 HX8 HK8
            have cx0 := (HST9.out.2.2.2.1).cell 0
            have cx1 := (HST9.out.2.2.2.1).cell 1
            have cx2 := (HST9.out.2.2.2.1).cell 2
            have cx3 := (HST9.out.2.2.2.1).cell 3
            simp only [En.cells, List.getElem?_cons_zero, List.getElem?_cons_succ] at cx0 cx1 cx2 cx3
            go_wp2_with fail
            clear cx0 cx1 cx2 cx3
            generalize w8.alloc (Obj.cells #[.string GY.k, .int .i64 GY.s, .slice GY.A GY.n GY.c, .int .i64 GY.r] 49) = w9 at HST9 ⊢
            generalize w8.heap.size = yb at HST9 HLY ⊢
            have HSTEP : Hid (∀ u v, (HeapAt u Fa ha (popE X) ∧ HeapAt u Fb (ha + 1) (popE Y) ∧ Blk u lb 49 E.cells ∧ Blk u xb 49 GX.cells ∧ Blk u yb 49 GY.cells ∧ Keep (fun b => w.heap.size ≤ b) w u) → Keep (fun b => u.heap.size ≤ b) u v → (HeapAt v Fa ha (popE X) ∧ HeapAt v Fb (ha + 1) (popE Y) ∧ Blk v lb 49 E.cells ∧ Blk v xb 49 GX.cells ∧ Blk v yb 49 GY.cells ∧ Keep (fun b => w.heap.size ≤ b) w v)) := Lib.hid (fun u v h k => ⟨h.1.keep k (fun j hj g => by have := (HFA.out j hj).2.1; have := h.2.2.1.lt; omega), h.2.1.keep k (fun j hj g => by have := (HFB.out j hj).2; have := h.2.2.1.lt; omega), h.2.2.1.keep k (fun g => by have := h.2.2.1.lt; omega), h.2.2.2.1.keep k (fun g => by have := h.2.2.2.1.lt; omega), h.2.2.2.2.1.keep k (fun g => by have := h.2.2.2.2.1.lt; omega), h.2.2.2.2.2.trans' k (fun j _ g => by have := h.2.2.2.2.2.size; omega)⟩)
            refine (less15 GX.k GY.k GX.s GX.r GY.s GY.r (.slice GX.A GX.n GX.c) (.slice GY.A GY.n GY.c) _).mono ?_
            rintro e w10 ⟨rfl, K10⟩
            rw [show ltE GX.k GX.s GX.r GY.k GY.s GY.r = false from HEQ.out.1]
            have HST10 := Lib.hid (HSTEP.out _ _ HST9.out K10)
            clear K10 HST9
            have cx0 := (HST10.out.2.2.2.1).cell 0
            have cx1 := (HST10.out.2.2.2.1).cell 1
            have cx2 := (HST10.out.2.2.2.1).cell 2
            have cx3 := (HST10.out.2.2.2.1).cell 3
            have cy0 := (HST10.out.2.2.2.2.1).cell 0
            have cy1 := (HST10.out.2.2.2.2.1).cell 1
            have cy2 := (HST10.out.2.2.2.2.1).cell 2
            have cy3 := (HST10.out.2.2.2.2.1).cell 3
            simp only [En.cells, List.getElem?_cons_zero, List.getElem?_cons_succ] at cx0 cx1 cx2 cx3 cy0 cy1 cy2 cy3
            go_wp2_with fail
            clear cx0 cx1 cx2 cx3 cy0 cy1 cy2 cy3
            refine (less15 GY.k GX.k GY.s GY.r GX.s GX.r (.slice GY.A GY.n GY.c) (.slice GX.A GX.n GX.c) _).mono ?_
            rintro e w11 ⟨rfl, K11⟩
            rw [show ltE GY.k GY.s GY.r GX.k GX.s GX.r = false from HEQ.out.2.1]
            have HST11 := Lib.hid (HSTEP.out _ _ HST10.out K11)
            clear K11 HST10
            have cx0 := (HST11.out.2.2.2.1).cell 0
            have cx1 := (HST11.out.2.2.2.1).cell 1
            have cx2 := (HST11.out.2.2.2.1).cell 2
            have cx3 := (HST11.out.2.2.2.1).cell 3
            have ce0 := (HST11.out.2.2.1).cell 0
            have ce1 := (HST11.out.2.2.1).cell 1
            have ce2 := (HST11.out.2.2.1).cell 2
            have ce3 := (HST11.out.2.2.1).cell 3
            simp only [En.cells, List.getElem?_cons_zero, List.getElem?_cons_succ] at cx0 cx1 cx2 cx3 ce0 ce1 ce2 ce3
            by_cases hq0 : q = 0
            · have hq1 : decide ((0 : Int) < (q : Int)) = false := decide_eq_false (by omega)
              have HSTW := HST11
              have hq2 : decide (0 < q) = false := decide_eq_false (by omega)
              clear hq0
              -- the end of a round
              have r0 := (HSTW.out.2.2.1).free 0
              have r1 := (HSTW.out.2.2.1).free 1
              have r2 := (HSTW.out.2.2.1).free 2
              have r3 := (HSTW.out.2.2.1).free 3
              go_wp2_with fail
              go_roundw
              case rel =>
                have h9 := put_entry HSTW.out.2.2.1 GX
                refine ⟨q + 1, popE X, popE Y, GX, by have := HQL.out; omega, by go_num, Lib.hid (by rw [popE_len, HXL.out]; omega), Lib.hid ⟨pop_ord HOR.out.1 HS.out.1, pop_ord HOR.out.2.1 HS.out.2.1, HEQ.out.2.2⟩, Lib.hid ⟨HSTW.out.1.keep h9.2 (fun j hj e => ?_), HSTW.out.2.1.keep h9.2 (fun j hj e => ?_)⟩, Lib.hid h9.1, Lib.hid (fun _ => HMA.out), Lib.hid (HSTW.out.2.2.2.2.2.trans' h9.2 (fun j _ e => ?_))⟩
                · have e2 : j = lb := e; have := (HFA.out j hj).2.1; omega
                · have e2 : j = lb := e; have := (HFB.out j hj).2; omega
                · have e2 : j = lb := e; have := HS3.out; omega
              case measure => have := HQL.out; simp [intOf]; omega
            · have hq1 : (0 : Int) < (q : Int) := by omega
              have HQ0 : Hid (ltN GX E = false) := Lib.hid (HMX2.out (by omega))
              clear hq0
              go_wp2_with fail
              clear cx0 cx1 cx2 cx3 ce0 ce1 ce2 ce3
              refine (less15 GX.k E.k GX.s GX.r E.s E.r (.slice GX.A GX.n GX.c) (.slice E.A E.n E.c) _).mono ?_
              rintro e w12 ⟨rfl, K12⟩
              rw [show ltE GX.k GX.s GX.r E.k E.s E.r = false from HQ0.out]
              have HSTW := Lib.hid (HSTEP.out _ _ HST11.out K12)
              clear K12 HST11
              have cx0 := (HSTW.out.2.2.2.1).cell 0
              have cx1 := (HSTW.out.2.2.2.1).cell 1
              have cx2 := (HSTW.out.2.2.2.1).cell 2
              have cx3 := (HSTW.out.2.2.2.1).cell 3
              have ce0 := (HSTW.out.2.2.1).cell 0
              have ce1 := (HSTW.out.2.2.1).cell 1
              have ce2 := (HSTW.out.2.2.1).cell 2
              have ce3 := (HSTW.out.2.2.1).cell 3
              simp only [En.cells, List.getElem?_cons_zero, List.getElem?_cons_succ] at cx0 cx1 cx2 cx3 ce0 ce1 ce2 ce3
              -- the end of a round
              have r0 := (HSTW.out.2.2.1).free 0
              have r1 := (HSTW.out.2.2.1).free 1
              have r2 := (HSTW.out.2.2.1).free 2
              have r3 := (HSTW.out.2.2.1).free 3
              go_wp2_with fail
              go_roundw
              case rel =>
                have h9 := put_entry HSTW.out.2.2.1 GX
                refine ⟨q + 1, popE X, popE Y, GX, by have := HQL.out; omega, by go_num, Lib.hid (by rw [popE_len, HXL.out]; omega), Lib.hid ⟨pop_ord HOR.out.1 HS.out.1, pop_ord HOR.out.2.1 HS.out.2.1, HEQ.out.2.2⟩, Lib.hid ⟨HSTW.out.1.keep h9.2 (fun j hj e => ?_), HSTW.out.2.1.keep h9.2 (fun j hj e => ?_)⟩, Lib.hid h9.1, Lib.hid (fun _ => HMA.out), Lib.hid (HSTW.out.2.2.2.2.2.trans' h9.2 (fun j _ e => ?_))⟩
                · have e2 : j = lb := e; have := (HFA.out j hj).2.1; omega
                · have e2 : j = lb := e; have := (HFB.out j hj).2; omega
                · have e2 : j = lb := e; have := HS3.out; omega
              case measure => have := HQL.out; simp [intOf]; omega
          · have hX0 : X.length = 0 := by rw [HXL.out]; omega
            obtain ⟨A7, c7, hB7, _⟩ := HAB.out.1.head
            rw [hX0] at hB7
            have HB7 := Lib.hid hB7
            have hbs := hB7.lt
            clear hB7 hX0
            go_wp2_with fail
            refine (pop_none ha A7 c7 wr (HB7.out.cell 0)).mono ?_
            rintro e w6 ⟨rfl, p2⟩
            simp only [valE, z0]
            have HB8 := Lib.hid ((HB7.out.keep p2 (by omega)).alloc (Obj.cells #[.string ⟨#[]⟩, .int .i64 0, .slice none 0 0, .int .i64 0] 49))
            have HK8 := Lib.hid ((HKQ.out.trans' p2 (fun j _ h => by have := HKQ.out.size; omega)).alloc (Obj.cells #[.string ⟨#[]⟩, .int .i64 0, .slice none 0 0, .int .i64 0] 49))
            clear p2 HAB
            go_wp2_with fail
            generalize w6.alloc (Obj.cells #[.string ⟨#[]⟩, .int .i64 0, .slice none 0 0, .int .i64 0] 49) = w7 at HB8 HK8 ⊢
            refine (answers15 w7).mono ?_
            rintro e w8 ⟨rfl, p3⟩
            have hc9 := (HB8.out.keep p3 (by have := HB8.out.lt; omega)).cell 0
            have HK9 := Lib.hid (HK8.out.trans' p3 (fun j _ h => by have := HK8.out.size; omega))
            simp only [List.getElem?_cons_zero] at hc9
            clear p3
            go_wp2_with fail
            refine (len_any ha A7 0 c7 _ hc9).mono ?_
            rintro e w9 ⟨rfl, rfl⟩
            go_wp2
            go_ret
            exact ⟨rfl, HK9.out⟩
set_option maxRecDepth 100000 in
theorem heapSorts_big (A : Option Addr) (n c : Nat) (At : Option Addr) (nt ct : Nat) (w : World) (hl : 100 < n) :
    Calls Try.prog 6 #[.slice A n c, .slice At nt ct] w fun e w' => e = .returned (.bool true) ∧ Keep (fun b => w.heap.size ≤ b) w w' := by
  have hd : (100 : Int) < (n : Int) := by omega
  clear hl
  go_enter Try.func6, Try.ntmps6
  go_wp2_with (refine (answers15 _).mono ?_; rintro e w' ⟨rfl, hk⟩; have HK := Lib.hid hk; clear hk)
  go_ret
  exact ⟨rfl, HK.out⟩
theorem heapSorts_walk (w : World) (A : Option Addr) (n c : Nat) (L : List En) (hn : n = L.length) (hc : n ≤ c) (_ : c ≤ 9223372036854775807) (hr : RdE w A L) (_ : ∀ e ∈ L, DatE w e)
    (At : Option Addr) (nt ct : Nat) (T : List UInt8) (hnt : nt = T.length) (_ : nt ≤ ct) (hrt : RdV w At (bys T)) (_ : At = none → T = [] ∧ ct = 0) (hy : nt ≤ 140737488351232) :
    Calls Try.prog 6 #[.slice A n c, .slice At nt ct] w fun e w' => e = .returned (.bool true) ∧ Below w.heap.size w w' := by
  have h : Calls Try.prog 6 #[.slice A n c, .slice At nt ct] w fun e w' => e = .returned (.bool true) ∧ Keep (fun b => w.heap.size ≤ b) w w' := by
    by_cases hl : n ≤ 100
    · subst hn
      exact heapSorts_small A c L At nt ct T w hr hc hl hnt hrt (by omega)
    · exact heapSorts_big A n c At nt ct w (by omega)
  exact h.mono fun _ _ ⟨h1, h2⟩ => ⟨h1, h2.below (Nat.le_refl _) (fun _ _ h => h)⟩
end Go.Proofs.Ytbkpjjibgnachaa
