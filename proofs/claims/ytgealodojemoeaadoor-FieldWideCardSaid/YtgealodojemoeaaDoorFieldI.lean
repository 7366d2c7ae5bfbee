/- field.Parse. (alias Tryd) Conditions: none. -/
import Derived.Test.YtgealodojemoeaaDoorFieldH
import Derived.Test.YtgealodojemoeaaDoorFieldC
namespace Go.Proofs.YtgealodojemoeaaDoor
open Go.RowKit
set_option linter.unusedVariables false
set_option linter.unusedSimpArgs false

def keptP (p : Nat × Bool) : Nat × Bool := if p.2 then p else (0, false)
/-- What is left between the blanks. -/
def trimF (L : List UInt8) : List UInt8 := (L.drop (lead 32 L)).take (keptR isBZ (L.drop (lead 32 L)))
/-- A field's number. -/
def parseF : List UInt8 → Nat × Bool
  | [] => (0, false)
  | d :: r => if d = 128 then keptP (readL 256 0 r) else keptP (readL 8 0 ((trimF (d :: r)).map (· - 48)))
theorem lead_le (b : UInt8) (L : List UInt8) : lead b L ≤ L.length := by
  unfold lead
  exact (List.takeWhile_sublist _).length_le
theorem keptR_le (S : UInt8 → Bool) (L : List UInt8) : keptR S L ≤ L.length := by
  unfold keptR
  have := (List.dropWhile_sublist S (l := L.reverse)).length_le
  simpa using this
theorem rdv_drop {w : World} {g o j : Nat} {L : List UInt8} (h : RdV w (some ⟨g, o, none⟩) (bys L)) : RdV w (some ⟨g, o + j, none⟩) (bys (L.drop j)) := by
  intro i u hi
  refine ⟨_, rfl, ?_⟩
  obtain ⟨x, hx, hc⟩ := h (j + i) u (by rw [← hi]; simp [bys])
  cases hx
  rw [add_plain] at hc ⊢
  rwa [Nat.add_assoc]
theorem bys_take (L : List UInt8) (k : Nat) : bys (L.take k) = (bys L).take k := by simp [bys]
theorem set_next {D Z : List Value} {i : Nat} {v : Value} (hi : D[i]? = some v) (hz : Z.length = D.length) : (D.take i ++ Z.drop i).set i v = D.take (i + 1) ++ Z.drop (i + 1) := by
  obtain ⟨hlt, rfl⟩ := List.getElem?_eq_some_iff.1 hi
  rw [List.set_append_right _ _ (by simp; omega)]
  have h0 : i - (D.take i).length = 0 := by simp; omega
  rw [h0, List.drop_eq_getElem_cons (by omega : i < Z.length), List.set_cons_zero, List.take_succ_eq_append_getElem hlt, List.append_assoc]
  rfl
theorem bys_zeros (m : Nat) : (madeCells #[Value.int .u8 0] m).toList = bys (List.replicate m 0) := by
  apply List.ext_getElem?
  intro i
  by_cases hi : i < m
  · simp [madeCells, bys, hi, Nat.mod_one]
  · simp [madeCells, bys, hi]
theorem sub48 (d : UInt8) : IntKind.u8.wrap ((d.toNat : Int) - 48) = ((d - 48).toNat : Int) := by
  rw [IntKind.wrap_u8, UInt8.toNat_sub]
  have h1 := d.toNat_lt
  have h2 : (48 : UInt8).toNat = 48 := rfl
  rw [h2]
  omega
/-- TrimRight of what TrimLeft left. -/
theorem trim_both (w : World) (g o n c : Nat) (L : List UInt8) (v : Value) (hv : v = leftF g o n c (lead 32 L)) (hn : n = L.length) (hc : n ≤ c) (hc2 : c ≤ 9223372036854775807) (hr : RdV w (some ⟨g, o, none⟩) (bys L)) :
    Calls Tryd.prog 15 #[v, .string ⟨#[32, 0]⟩] w fun e w' => ∃ (B : Option Addr) (m c' : Nat), e = .returned (.slice B m c') ∧ Hid (m = (trimF L).length ∧ RdV w' B (bys (trimF L)) ∧ (∀ x, B = some x → ∃ g o, x = ⟨g, o, none⟩) ∧ (B = none → m = 0) ∧ m ≤ c') ∧ Keep (fun j => w.heap.size ≤ j) w w' := by
  have hl := lead_le 32 L
  have ht : trimF L = (L.drop (lead 32 L)).take (keptR isBZ (L.drop (lead 32 L))) := rfl
  by_cases hj : lead 32 L = n
  · have hv2 : v = .slice none 0 0 := by rw [hv]; unfold leftF; rw [if_pos hj]
    subst hv2
    refine (trimRight_nil w none 0).mono ?_
    rintro e w' ⟨rfl, rfl⟩
    have hnil : trimF L = [] := by rw [ht, hj, hn, List.drop_length]; rfl
    refine ⟨none, 0, 0, rfl, Lib.hid ⟨?_, ?_, ?_, ?_, ?_⟩, Keep.refl _ _⟩
    · rw [hnil]; rfl
    · rw [hnil]; exact RdV.nil _ _
    · intro x hx; cases hx
    · intro _; rfl
    · exact Nat.le_refl _
  · have hv2 : v = .slice (some ⟨g, o + lead 32 L, none⟩) (n - lead 32 L) (c - lead 32 L) := by rw [hv]; unfold leftF; rw [if_neg hj]
    subst hv2
    refine (trimRight_bz w g (o + lead 32 L) (n - lead 32 L) (c - lead 32 L) (L.drop (lead 32 L)) (by simp; omega) (by omega) (by omega) (by omega) (rdv_drop hr)).mono ?_
    rintro e w' ⟨rfl, hk⟩
    have hkr := keptR_le isBZ (L.drop (lead 32 L))
    have hkl : (L.drop (lead 32 L)).length = L.length - lead 32 L := List.length_drop
    refine ⟨_, _, _, rfl, Lib.hid ⟨?_, ?_, ?_, ?_, ?_⟩, hk⟩
    · rw [ht, List.length_take]; omega
    · rw [ht, bys_take]; exact ((rdv_drop hr).take _).old hk
    · intro x hx; cases hx; exact ⟨_, _, rfl⟩
    · intro hx; cases hx
    · omega
theorem calls_kept (w : World) (p : Nat × Bool) : Calls Tryd.prog 13 #[.int .i64 p.1, .bool p.2] w fun e w' => e = .returned (.tuple #[.int .i64 (keptP p).1, .bool (keptP p).2]) ∧ w = w' := by
  refine (field_kept w p.1 p.2).mono ?_
  rintro e w' ⟨rfl, rfl⟩
  refine ⟨?_, rfl⟩
  unfold keptP
  cases h : p.2 <;> simp [h]
set_option maxRecDepth 100000 in
set_option maxHeartbeats 4000000 in
theorem field_parse (w : World) (A : Option Addr) (n c : Nat) (L : List UInt8) (hn : n = L.length) (hr : RdV w A (bys L)) (hA : ∀ x, A = some x → ∃ g o, x = ⟨g, o, none⟩) (hA0 : A = none → n = 0) (hc : n ≤ c) (hc2 : c ≤ 9223372036854775807) (hc3 : n ≤ 140737488355328) :
    Calls Tryd.prog 9 #[.slice A n c] w fun e w' => e = .returned (.tuple #[.int .i64 (parseF L).1, .bool (parseF L).2]) ∧ Keep (fun j => w.heap.size ≤ j) w w' := by
  rcases L with _ | ⟨d, r⟩
  · simp at hn
    subst hn
    clear hr hA hA0 hc hc2 hc3
    go_enter Tryd.func9, Tryd.ntmps9
    go_wp2_with fail
    go_ret2
    exact ⟨rfl, Keep.refl _ _⟩
  · rcases A with _ | x
    · have := hA0 rfl; rw [this] at hn; simp at hn
    · obtain ⟨g, o, rfl⟩ := hA _ rfl
      have d0 := rd_at hr 0 d rfl
      rw [Nat.add_zero] at d0
      have HR := Lib.hid (And.intro hr (And.intro hn (And.intro hc (And.intro hc2 hc3))))
      have q0 : ¬ (n : Int) = 0 := by simp at hn; omega
      have q1 : (0 : Int) < n := by simp at hn; omega
      have q2 : (1 : Int) ≤ n := by simp at hn; omega
      have q3 : (n : Int) ≤ c := by omega
      have q4 : (n : Int) ≤ 140737488355328 := by omega
      obtain ⟨z, hz⟩ : ∃ z, z = (d.toNat : Int) := ⟨_, rfl⟩
      rw [← hz] at d0
      by_cases h128 : d = 128
      · subst h128
        have hz2 : z = 128 := hz
        subst hz2
        clear hz hn hc hc2 hc3 hr hA hA0
        have key : ∀ (A' : Option Addr) (c' : Nat), RdV w A' (bys r) → (∀ x, A' = some x → ∃ g o, x = ⟨g, o, none⟩) → (A' = none → n - 1 = 0) → Calls Tryd.prog 14 #[.int .i64 256, .slice A' (n - 1) c'] w fun e w' => e = .returned (.tuple #[.int .i64 (readL 256 0 r).1, .bool (readL 256 0 r).2]) ∧ w = w' := fun A' c' h1 h2 h3 =>
          field_read w 256 (.inr rfl) A' (n - 1) c' r (by have := HR.out.2.1; simp at this; omega) h1 h2 h3 (by omega)
        have hr2 : RdV w (some ⟨g, o + 1, none⟩) (bys r) := rdv_drop (j := 1) HR.out.1
        have KEY := Lib.hid (And.intro key hr2)
        clear key hr2
        obtain ⟨pr, hpr⟩ : ∃ pr, pr = readL 256 0 r := ⟨_, rfl⟩
        have HPR := Lib.hid hpr
        clear hpr
        go_enter Tryd.func9, Tryd.ntmps9
        go_wp2_with fail
        · refine (KEY.out.1 _ _ ?_ (fun x hx => ⟨_, _, (Option.some.inj hx).symm⟩) (fun hx => by cases hx)).mono ?_
          · have h1 := HR.out
            have : r = [] := List.eq_nil_of_length_eq_zero (by have := h1.2.1; simp at this; omega)
            rw [this]
            exact RdV.nil _ _
          rintro e w1 ⟨rfl, rfl⟩
          rw [← HPR.out]
          go_wp2_with fail
          refine (calls_kept w pr).mono ?_
          rintro e w1 ⟨rfl, rfl⟩
          go_wp2_with fail
          go_ret2
          refine ⟨?_, Keep.refl _ _⟩
          rw [HPR.out]
          rfl
        · refine (KEY.out.1 _ _ KEY.out.2 (fun x hx => ⟨_, _, (Option.some.inj hx).symm⟩) (fun hx => by cases hx)).mono ?_
          rintro e w1 ⟨rfl, rfl⟩
          rw [← HPR.out]
          go_wp2_with fail
          refine (calls_kept w pr).mono ?_
          rintro e w1 ⟨rfl, rfl⟩
          go_wp2_with fail
          go_ret2
          refine ⟨?_, Keep.refl _ _⟩
          rw [HPR.out]
          rfl
      · have hz2 : ¬ z = 128 := by
          intro e
          apply h128
          apply UInt8.toNat_inj.1
          show _ = 128
          omega
        have H128 := Lib.hid h128
        clear h128
        clear hz hn hc hc2 hc3 hr hA hA0
        go_enter Tryd.func9, Tryd.ntmps9
        go_wp2_with fail
        refine (trimLeft_blank w g o n c (d :: r) HR.out.2.1 (by have := HR.out.2.1; simp at this; omega) HR.out.2.2.1 HR.out.2.2.2.1 HR.out.1).mono ?_
        rintro e w1 ⟨rfl, rfl⟩
        obtain ⟨v, hv⟩ : ∃ v, v = leftF g o n c (lead 32 (d :: r)) := ⟨_, rfl⟩
        rw [← hv]
        have HV := Lib.hid hv
        clear hv
        go_wp2_with fail
        refine (trim_both w g o n c (d :: r) v HV.out HR.out.2.1 HR.out.2.2.1 HR.out.2.2.2.1 HR.out.1).mono ?_
        rintro e w1 ⟨B, m, c', rfl, HB, hk⟩
        have HK := Lib.hid hk
        have hm0 := keptR_le isBZ ((d :: r).drop (lead 32 (d :: r)))
        have hm1 : m ≤ n := by
          have h1 := HB.out.1
          unfold trimF at h1
          rw [List.length_take] at h1
          have h2 : ((d :: r).drop (lead 32 (d :: r))).length = (d :: r).length - lead 32 (d :: r) := List.length_drop
          have h3 := HR.out.2.1
          omega
        clear hk HV hm0
        have hmk := fun (w : World) => run_make_row' (P := Tryd.prog) 22 5 (.int .u8 0) 1 Tryd.underlying22 infoU8f rfl .i64 .i64 m (by omega) (by omega) w
        have q5 : (m : Int) ≤ c' := by have := HB.out; omega
        have q6 : (m : Int) ≤ 140737488355328 := by omega
        have HM := Lib.hid hm1
        clear hm1
        go_wp2_with fail
        obtain ⟨tr, htr⟩ : ∃ tr, tr = trimF (d :: r) := ⟨_, rfl⟩
        rw [← htr] at HB
        obtain ⟨k, hk⟩ : ∃ k, k = w1.heap.size := ⟨_, rfl⟩
        rw [← hk]
        have hB0 := Blk.new w1 5 (madeCells #[Value.int .u8 0] m).toList
        rw [Array.toArray_toList, ← hk, bys_zeros] at hB0
        have hK0 : Keep (fun j => w1.heap.size ≤ j) w1 (w1.alloc (.cells (madeCells #[Value.int .u8 0] m) 5)) := (Keep.refl _ w1).alloc _
        generalize w1.alloc (.cells (madeCells #[Value.int .u8 0] m) 5) = w2 at hB0 hK0 ⊢
        obtain ⟨D, hD⟩ : ∃ D, D = tr.map (· - 48) := ⟨_, rfl⟩
        have hDl : D.length = m := by rw [hD, List.length_map]; exact HB.out.1.symm
        have HG := Lib.hid hk
        have HB0 := Lib.hid hB0
        have HK0 := Lib.hid hK0
        have HD := Lib.hid (And.intro hD (And.intro htr hDl))
        clear hk hB0 hK0 hD htr hDl hmk
        go_loopw [32] (fun v32 wr => ∃ i : Nat, i ≤ m ∧ v32 = .int .i64 i ∧ Hid (Blk wr k 5 ((bys D).take i ++ (bys (List.replicate m 0)).drop i)) ∧ Hid (Keep (fun j => w1.heap.size ≤ j) w1 wr)) (fun v32 _ => m - (intOf v32).toNat)
        case atStart => exact ⟨0, Nat.zero_le _, rfl, Lib.hid (by rw [List.take_zero, List.drop_zero]; exact HB0.out), HK0⟩
        case round =>
          clear HB0 HK0
          obtain ⟨i, hi, rfl, HBR, HKR⟩ := hrel
          by_cases hlt : i < m
          · obtain ⟨y, hy⟩ : ∃ y, tr[i]? = some y := ⟨_, List.getElem?_eq_getElem (by have := HB.out.1; omega)⟩
            rcases B with _ | x
            · have := HB.out.2.2.2.1 rfl; omega
            · obtain ⟨g2, o2, rfl⟩ := HB.out.2.2.1 _ rfl
              have d1 := rd_at (HB.out.2.1.old HKR.out) i y hy
              have x0 : ∃ u, wr.cell? ⟨k, i, none⟩ = some u := by
                rw [HBR.out.cell]
                exact ⟨_, List.getElem?_eq_getElem (by have := HD.out.2.2; simp [bys]; omega)⟩
              obtain ⟨u, x0⟩ := x0
              have f0 := HBR.out.free i
              have e0 := sub48 y
              obtain ⟨t, ht⟩ : ∃ t, t = ((y - 48).toNat : Int) := ⟨_, rfl⟩
              rw [← ht] at e0
              have q7 : (i : Int) < (m : Int) := by omega
              have HY := Lib.hid (And.intro hy (And.intro ht hlt))
              clear hy ht hlt
              go_wp2_with fail
              go_roundw
              case rel =>
                refine ⟨i + 1, HY.out.2.2, by go_num, Lib.hid ?_, Lib.hid (HKR.out.setCell (p := ⟨k, i, none⟩) (.inl (by show w1.heap.size ≤ k; have := HG.out; omega)) _)⟩
                have h1 := HBR.out.set i (.int .u8 t)
                rw [set_next ?_ ?_] at h1
                · exact h1
                · rw [HD.out.1, HY.out.2.1]
                  simp [bys, HY.out.1]
                · have := HD.out.2.2
                  simp [bys, this]
              case measure => have := HY.out.2.2; simp [intOf]; omega
          · have him : i = m := by omega
            subst him
            have hbl : Blk wr k 5 (bys D) := by
              have h1 := HBR.out
              have h2 := HD.out.2.2
              rw [List.take_of_length_le (by simp [bys]; omega), List.drop_of_length_le (by simp [bys]), List.append_nil] at h1
              exact h1
            have HF := Lib.hid hbl
            clear hbl hlt hi
            have key : Calls Tryd.prog 14 #[.int .i64 8, .slice (some ⟨k, 0, none⟩) i i] wr fun e w' => e = .returned (.tuple #[.int .i64 (readL 8 0 D).1, .bool (readL 8 0 D).2]) ∧ wr = w' :=
              field_read wr 8 (.inl rfl) _ i i D HD.out.2.2.symm (by
                have h1 := RdV.of_blk HF.out 0 i
                rw [List.drop_zero, List.take_of_length_le (by have := HD.out.2.2; simp [bys]; omega)] at h1
                exact h1) (fun x hx => ⟨_, _, (Option.some.inj hx).symm⟩) (fun hx => by cases hx) (by have := HR.out.2.2.2.2; have := HM.out; omega)
            have KEY := Lib.hid key
            clear key
            obtain ⟨pr, hpr⟩ : ∃ pr, pr = readL 8 0 D := ⟨_, rfl⟩
            rw [← hpr] at KEY
            have HPR := Lib.hid hpr
            clear hpr
            go_wp2_with fail
            refine KEY.out.mono ?_
            rintro e w4 ⟨rfl, rfl⟩
            go_wp2_with fail
            refine (calls_kept wr pr).mono ?_
            rintro e w4 ⟨rfl, rfl⟩
            go_wp2_with fail
            go_ret2
            refine ⟨?_, HK.out.trans' HKR.out (fun j _ h => by have := HK.out.size; omega)⟩
            have h1 : parseF (d :: r) = keptP pr := by
              show (if d = 128 then keptP (readL 256 0 r) else keptP (readL 8 0 ((trimF (d :: r)).map (· - 48)))) = _
              rw [if_neg H128.out, HPR.out, HD.out.1, HD.out.2.1]
            rw [h1]
            rfl
end Go.Proofs.YtgealodojemoeaaDoor
