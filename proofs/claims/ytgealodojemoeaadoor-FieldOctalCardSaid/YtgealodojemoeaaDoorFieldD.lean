/- ref01: May, PutField. (alias Tryd) Conditions: none. -/
import Derived.Test.YtgealodojemoeaaDoorFieldC
namespace Go.Proofs.YtgealodojemoeaaDoor
open Go.RowKit
set_option linter.unusedVariables false

theorem ref_may (w : World) (n : Int) (b : Bool) (hb : decide (0 ≤ n ∧ n ≤ 4611686018427387904) = b) :
    Calls Tryd.prog 20 #[.int .i64 n] w fun e w' => e = .returned (.bool b) ∧ w = w' := by
  subst hb
  by_cases h0 : 0 ≤ n
  · by_cases h1 : n ≤ 4611686018427387904
    · rw [decide_eq_true ⟨h0, h1⟩]
      go_enter Tryd.func20, Tryd.ntmps20
      go_wp2_with fail
      go_ret
      exact ⟨rfl, rfl⟩
    · rw [decide_eq_false (fun h => h1 h.2)]
      go_enter Tryd.func20, Tryd.ntmps20
      go_wp2_with fail
      go_ret
      exact ⟨rfl, rfl⟩
  · rw [decide_eq_false (fun h => h0 h.1)]
    go_enter Tryd.func20, Tryd.ntmps20
    go_wp2_with fail
    go_ret
    exact ⟨rfl, rfl⟩
theorem ref_put_no (w : World) (n wide : Int) (h : ¬ (0 ≤ n ∧ n ≤ 4611686018427387904 ∧ 2 ≤ wide ∧ wide ≤ 100)) :
    Calls Tryd.prog 12 #[.int .i64 n, .int .i64 wide] w fun e w' => e = .returned (.tuple #[.slice none 0 0, .bool false]) ∧ w = w' := by
  by_cases h1 : 0 ≤ n ∧ n ≤ 4611686018427387904
  · have H1 := Lib.hid h1
    have hw : wide < 2 ∨ 100 < wide := by
      rcases Int.lt_or_le wide 2 with h3 | h3
      · exact .inl h3
      · rcases Int.lt_or_le 100 wide with h4 | h4
        · exact .inr h4
        · exact absurd ⟨h1.1, h1.2, h3, h4⟩ h
    clear h h1
    rcases hw with hw | hw
    · go_enter Tryd.func12, Tryd.ntmps12
      go_wp2_with fail
      refine (ref_may _ n true (decide_eq_true H1.out)).mono ?_
      rintro e w1 ⟨rfl, rfl⟩
      go_wp2_with fail
      go_ret2
      exact ⟨rfl, rfl⟩
    · have hw2 : ¬ wide < 2 := by omega
      go_enter Tryd.func12, Tryd.ntmps12
      go_wp2_with fail
      refine (ref_may _ n true (decide_eq_true H1.out)).mono ?_
      rintro e w1 ⟨rfl, rfl⟩
      go_wp2_with fail
      go_ret2
      exact ⟨rfl, rfl⟩
  · have H1 := Lib.hid h1
    clear h h1
    go_enter Tryd.func12, Tryd.ntmps12
    go_wp2_with fail
    refine (ref_may _ n false (decide_eq_false H1.out)).mono ?_
    rintro e w1 ⟨rfl, rfl⟩
    go_wp2_with fail
    go_ret2
    exact ⟨rfl, rfl⟩
set_option maxRecDepth 100000 in
set_option maxHeartbeats 4000000 in
theorem ref_put (w : World) (n wide : Nat) (hn : n ≤ 4611686018427387904) (h2 : 2 ≤ wide) (h3 : wide ≤ 100) :
    Calls Tryd.prog 12 #[.int .i64 n, .int .i64 wide] w (PutA w n wide) := by
  have hmk := fun (w : World) => run_make_row' (P := Tryd.prog) 22 5 (.int .u8 0) 1 Tryd.underlying22 infoU8f rfl .i64 .i64 wide (by omega) (by omega) w
  have HN := Lib.hid (And.intro hn (And.intro h2 h3))
  obtain ⟨m, hm⟩ : ∃ m, m = wide - 1 := ⟨_, rfl⟩
  have ew1 : IntKind.i64.wrap ((wide : Int) - 1) = (m : Int) := by rw [IntWalk.i64_in _ (by omega)]; omega
  have e2 : IntKind.i64.wrap ((wide : Int) - 2) = (m : Int) - 1 := by rw [IntWalk.i64_in _ (by omega)]; omega
  have q0 : (wide : Int) ≤ 100 := by omega
  have q1 : (2 : Int) ≤ (wide : Int) := by omega
  have q4 : (m : Int) < (wide : Int) := by omega
  have HM := Lib.hid hm
  clear hn h2 h3 hm
  go_enter Tryd.func12, Tryd.ntmps12
  go_wp2_with fail
  refine (ref_may _ n true (decide_eq_true ⟨by omega, by have := HN.out.1; omega⟩)).mono ?_
  rintro e w1 ⟨rfl, rfl⟩
  go_wp2_with fail
  clear hmk
  obtain ⟨g, hg⟩ : ∃ g, g = w.heap.size := ⟨_, rfl⟩
  have hB : Blk (w.alloc (.cells (madeCells #[Value.int .u8 0] wide) 5)) g 5 (bys (List.replicate wide 0)) := by
    have h1 := Blk.new w 5 (madeCells #[Value.int .u8 0] wide).toList
    rw [Array.toArray_toList] at h1
    have h4 : (madeCells #[Value.int .u8 0] wide).toList = bys (List.replicate wide 0) := by
      apply List.ext_getElem?
      intro i
      by_cases hi : i < wide
      · simp [madeCells, bys, hi, Nat.mod_one]
      · simp [madeCells, bys, hi]
    rw [h4] at h1
    rw [hg]
    exact h1
  have hK : Keep (fun j => w.heap.size ≤ j) w (w.alloc (.cells (madeCells #[Value.int .u8 0] wide) 5)) := (Keep.refl _ w).alloc _
  rw [← hg]
  generalize w.alloc (.cells (madeCells #[Value.int .u8 0] wide) 5) = w1 at hB hK ⊢
  have HB := Lib.hid hB
  have HK := Lib.hid hK
  have HG := Lib.hid hg
  have HL : Hid ((bys (List.replicate wide 0)).length = m + 1) := Lib.hid (by have := HM.out; have := HN.out; simp [bys]; omega)
  generalize hcs : bys (List.replicate wide 0) = cs at HB HL
  have HCS := Lib.hid hcs
  clear hB hK hg hcs
  go_loopw [7, 8] (fun v7 v8 wr => ∃ k : Nat, k ≤ m ∧ v7 = .int .i64 ((n / 8 ^ (m - k) : Nat) : Int) ∧ v8 = .int .i64 ((k : Int) - 1) ∧ Hid (Blk wr g 5 (cs.take (0 + k) ++ bys ((digL 8 48 n m).drop k) ++ cs.drop (0 + m))) ∧ Hid (Keep (fun j => w.heap.size ≤ j) w wr)) (fun _ v _ => (intOf v + 1).toNat)
  case atStart =>
    refine ⟨m, Nat.le_refl _, by simp, rfl, Lib.hid ?_, HK⟩
    rw [List.drop_of_length_le (l := digL 8 48 n m) (by rw [digL_len]; exact Nat.le_refl _)]
    have : cs.take (0 + m) ++ bys [] ++ cs.drop (0 + m) = cs := by simp [bys]
    rw [this]
    exact HB.out
  case round =>
    clear e2 HB HK
    obtain ⟨k, hk, rfl, rfl, HBR, HKR⟩ := hrel
    by_cases hlt : 0 < k
    · obtain ⟨p, rfl⟩ : ∃ p, k = p + 1 := ⟨k - 1, by omega⟩
      have q5 : (0 : Int) ≤ p := by omega
      have q6 : (p : Int) < wide := by omega
      obtain ⟨q, hq⟩ : ∃ q, q = n / 8 ^ (m - (p + 1)) := ⟨_, rfl⟩
      have hqn : q ≤ n := by rw [hq]; exact Nat.div_le_self _ _
      have q7 : (q : Int) ≤ 4611686018427387904 := by have := HN.out; omega
      have HQ := Lib.hid hq
      rw [← hq]
      have e1 : ((p + 1 : Nat) : Int) - 1 = (p : Int) := by omega
      rw [e1]
      have x0 : ∃ u, wr.cell? ⟨g, p, none⟩ = some u := by
        rw [HBR.out.cell]
        exact ⟨_, List.getElem?_eq_getElem (by have := HL.out; simp [bys, digL_len]; omega)⟩
      obtain ⟨u, x0⟩ := x0
      have f0 := HBR.out.free p
      clear hq hqn e1 hlt
      go_wp2_with fail
      go_roundw
      case rel =>
        refine ⟨p, by omega, ?_, rfl, Lib.hid ?_, Lib.hid (HKR.out.setCell (p := ⟨g, p, none⟩) (.inl (by show w.heap.size ≤ g; have := HG.out; omega)) _)⟩
        · have h1 : n / 8 ^ (m - p) = q / 8 := by
            rw [HQ.out, Nat.div_div_eq_div_mul, ← Nat.pow_succ]
            congr 2; omega
          rw [h1]; go_num
        · have h1 := HBR.out.set (0 + p) (.int .u8 (48 + (q : Int) % 8))
          rw [set_mid (by omega) (by have := HL.out; omega) _ (by simp [bys, digL_len])] at h1
          rw [digL_drop _ _ _ _ p (by omega), show m - 1 - p = m - (p + 1) by omega, ← HQ.out]
          rw [Nat.mod_eq_of_lt (show 48 + q % 8 < 256 by omega)]
          have e3 : ((48 + q % 8 : Nat) : Int) = 48 + (q : Int) % 8 := by omega
          rw [e3]
          rw [Nat.zero_add] at h1 ⊢
          exact h1
      case measure => simp [intOf]
    · obtain rfl : k = 0 := by omega
      have hb3 : Blk wr g 5 (bys (digL 8 48 n m ++ [0])) := by
        have h1 := HBR.out
        have h2 : cs.drop (0 + m) = bys [0] := by
          have := HM.out
          have := HN.out
          rw [← HCS.out]
          simp only [bys, ← List.map_drop]
          rw [List.drop_replicate, show wide - (0 + m) = 1 by omega]
          rfl
        rw [h2] at h1
        simpa [bys] using h1
      have HB3 := Lib.hid hb3
      clear hb3 HBR hlt
      rw [Nat.sub_zero]
      obtain ⟨q, hq⟩ : ∃ q, q = n / 8 ^ m := ⟨_, rfl⟩
      rw [← hq]
      have HQ := Lib.hid hq
      clear hq
      by_cases h8 : q = 0
      · have q9 : (q : Int) = 0 := by omega
        have H8 := Lib.hid h8
        clear h8
        go_wp2_with fail
        go_ret2
        unfold PutA putF
        rw [← HM.out, if_pos (by rw [← HQ.out]; exact H8.out)]
        exact ⟨by rw [HG.out]; rfl, HG.out ▸ HB3.out, HKR.out⟩
      · have q9 : ¬ (q : Int) = 0 := by omega
        have H8 := Lib.hid h8
        clear h8
        obtain ⟨cs2, hc2⟩ : ∃ cs2, cs2 = bys (digL 8 48 n m ++ [0]) := ⟨_, rfl⟩
        have HC2 : Hid (cs2.length = m + 1) := Lib.hid (by rw [hc2]; simp [bys, digL_len])
        rw [← hc2] at HB3
        clear hc2
        go_wp2_with fail
        go_loopw [7, 9] (fun v7 v9 wr => ∃ k : Nat, k ≤ m ∧ v7 = .int .i64 ((n / 256 ^ (m - k) : Nat) : Int) ∧ v9 = .int .i64 k ∧ Hid (Blk wr g 5 (cs2.take (1 + k) ++ bys ((digL 256 0 n m).drop k) ++ cs2.drop (1 + m))) ∧ Hid (Keep (fun j => w.heap.size ≤ j) w wr)) (fun _ v _ => (intOf v).toNat)
        case atStart =>
          refine ⟨m, Nat.le_refl _, by simp, rfl, Lib.hid ?_, HKR⟩
          rw [List.drop_of_length_le (l := digL 256 0 n m) (by rw [digL_len]; exact Nat.le_refl _)]
          have : cs2.take (1 + m) ++ bys [] ++ cs2.drop (1 + m) = cs2 := by simp [bys]
          rw [this]
          exact HB3.out
        case round =>
          clear HB3 HKR q9 hk
          obtain ⟨k, hk, rfl, rfl, HBR, HKR⟩ := hrel
          by_cases hlt : 0 < k
          · obtain ⟨p, rfl⟩ : ∃ p, k = p + 1 := ⟨k - 1, by omega⟩
            obtain ⟨q2, hq2⟩ : ∃ q2, q2 = n / 256 ^ (m - (p + 1)) := ⟨_, rfl⟩
            have hqn : q2 ≤ n := by rw [hq2]; exact Nat.div_le_self _ _
            have q7 : (q2 : Int) ≤ 4611686018427387904 := by have := HN.out; omega
            have HQ2 := Lib.hid hq2
            rw [← hq2]
            obtain ⟨k, hk1⟩ : ∃ k, k = p + 1 := ⟨_, rfl⟩
            rw [← hk1]
            have q5 : (0 : Int) < (k : Int) := by omega
            have q6 : (k : Int) < wide := by omega
            have e1 : IntKind.i64.wrap ((k : Int) - 1) = (p : Int) := by rw [IntWalk.i64_in _ (by omega)]; omega
            have x0 : ∃ u, wr.cell? ⟨g, k, none⟩ = some u := by
              rw [HBR.out.cell]
              exact ⟨_, List.getElem?_eq_getElem (by have := HC2.out; simp [bys, digL_len]; omega)⟩
            obtain ⟨u, x0⟩ := x0
            have f0 := HBR.out.free k
            have HK1 := Lib.hid (And.intro hk1 hk)
            clear hq2 hqn hlt hk1 hk
            go_wp2_with fail
            go_roundw
            case rel =>
              have h9 := HK1.out
              refine ⟨p, by omega, ?_, rfl, Lib.hid ?_, Lib.hid (HKR.out.setCell (p := ⟨g, k, none⟩) (.inl (by show w.heap.size ≤ g; have := HG.out; omega)) _)⟩
              · have h1 : n / 256 ^ (m - p) = q2 / 256 := by
                  rw [HQ2.out, Nat.div_div_eq_div_mul, ← Nat.pow_succ]
                  congr 2; omega
                rw [h1]; go_num
              · have h1 := HBR.out.set (1 + p) (.int .u8 ((q2 : Int) % 256))
                rw [set_mid (by omega) (by have := HC2.out; omega) _ (by simp [bys, digL_len])] at h1
                rw [digL_drop _ _ _ _ p (by omega), show m - 1 - p = m - (p + 1) by omega, ← HQ2.out]
                rw [Nat.zero_add, Nat.mod_mod]
                rw [show 1 + p = k by omega] at h1 ⊢
                exact h1
            case measure => have := HK1.out; simp [intOf]; omega
          · obtain rfl : k = 0 := by omega
            have f0 := HBR.out.free 0
            have x0 : ∃ u, wr.cell? ⟨g, 0, none⟩ = some u := by
              rw [HBR.out.cell]
              exact ⟨_, List.getElem?_eq_getElem (by have := HC2.out; simp [bys, digL_len]; omega)⟩
            obtain ⟨u, x0⟩ := x0
            have hb5 : Blk (wr.setCell ⟨g, 0, none⟩ (.int .u8 128)) g 5 (bys (128 :: digL 256 0 n m)) := by
              have h1 := HBR.out.set 0 (.int .u8 128)
              have h2 : cs2.drop (1 + m) = [] := List.drop_of_length_le (by have := HC2.out; omega)
              rw [h2, List.append_nil, List.drop_zero] at h1
              have h3 := HC2.out
              rcases cs2 with _ | ⟨c0, cs2⟩
              · simp at h3
              · exact h1
            have HB5 := Lib.hid hb5
            have HK5 : Hid (Keep (fun j => w.heap.size ≤ j) w (wr.setCell ⟨g, 0, none⟩ (.int .u8 128))) := Lib.hid (HKR.out.setCell (p := ⟨g, 0, none⟩) (.inl (by show w.heap.size ≤ g; have := HG.out; omega)) _)
            clear hb5 HBR HKR hlt hk
            rw [Nat.sub_zero]
            obtain ⟨q2, hq2⟩ : ∃ q2, q2 = n / 256 ^ m := ⟨_, rfl⟩
            rw [← hq2]
            have HQ2 := Lib.hid hq2
            clear hq2
            by_cases h256 : q2 = 0
            · have q9 : ¬ (0 : Int) < (q2 : Int) := by omega
              have H256 := Lib.hid h256
              clear h256
              go_wp2_with fail
              go_ret2
              unfold PutA putF
              rw [← HM.out, if_neg (by rw [← HQ.out]; exact H8.out), if_pos (by rw [← HQ2.out]; exact H256.out)]
              exact ⟨by rw [HG.out]; rfl, HG.out ▸ HB5.out, HK5.out⟩
            · have q9 : (0 : Int) < (q2 : Int) := by omega
              have H256 := Lib.hid h256
              clear h256
              go_wp2_with fail
              go_ret2
              unfold PutA putF
              rw [← HM.out, if_neg (by rw [← HQ.out]; exact H8.out), if_neg (by rw [← HQ2.out]; exact H256.out)]
              exact ⟨rfl, HK5.out⟩
end Go.Proofs.YtgealodojemoeaaDoor
