/- Law 15's take: the place of a least one. Conditions: none. -/
import Derived.Test.YtbkpjjibgnachaaLess13
namespace Go.Proofs.Ytbkpjjibgnachaa
open Go.RowKit

/-- What take answers. -/
def TakePost (L : List En) (w : World) (e : Ending) (w' : World) : Prop := Keep (fun b => w.heap.size ≤ b) w w' ∧ ((L = [] ∧ e = .returned (.int .i64 (-1))) ∨ ∃ k : Nat, k < L.length ∧ e = .returned (.int .i64 k) ∧ ∀ j, j < L.length → ltN (gE L j) (gE L k) = false)
def TakeAt (L : List En) (i : Nat) (v : Value) : Prop := (i = 0 ∧ v = .int .i64 (-1)) ∨ ∃ k : Nat, k < i ∧ v = .int .i64 k ∧ ∀ j, j < i → ltN (gE L j) (gE L k) = false
set_option maxRecDepth 100000 in
set_option maxHeartbeats 8000000 in
theorem take_nil (A : Option Addr) (c : Nat) (w : World) : Calls Try.prog 26 #[.slice A 0 c] w (TakePost [] w) := by
  go_enter Try.func26, Try.ntmps26
  go_wp2
  go_loopw [3, 4] (fun v3 v4 wr => v3 = .int .i64 (-1) ∧ v4 = .int .i64 0 ∧ wr = w) (fun _ _ _ => 0)
  case atStart => exact ⟨rfl, rfl, rfl⟩
  case round =>
    obtain ⟨rfl, rfl, rfl⟩ := hrel
    go_wp2
    go_ret
    exact ⟨Keep.refl _ _, .inl ⟨rfl, rfl⟩⟩
set_option maxRecDepth 100000 in
set_option maxHeartbeats 8000000 in
theorem take_some (g c : Nat) (L : List En) (w : World) (hr : RowE w g c L) (hl : L.length ≤ 1000) : Calls Try.prog 26 #[.slice (some ⟨g, 0, none⟩) L.length c] w (TakePost L w) := by
  have HR := Lib.hid hr
  have HL := Lib.hid hl
  have hll : (L.length : Int) ≤ 4611686018427387904 := by omega
  clear hr hl
  go_enter Try.func26, Try.ntmps26
  go_wp2
  go_loopw [3, 4] (fun v3 v4 wr => ∃ i : Nat, i ≤ L.length ∧ v4 = .int .i64 i ∧ Hid (TakeAt L i v3) ∧ Hid (RowE wr g c L) ∧ Hid (Keep (fun b => w.heap.size ≤ b) w wr)) (fun _ v4 _ => L.length - (intOf v4).toNat)
  case atStart => exact ⟨0, Nat.zero_le _, rfl, Lib.hid (.inl ⟨rfl, rfl⟩), HR, Lib.hid (Keep.refl _ _)⟩
  case round =>
    obtain ⟨i, hi, rfl, HT, HRR, HK⟩ := hrel
    by_cases hb : i < L.length
    · have q1 : (0 : Int) ≤ i := by omega
      have q2 : (i : Int) < (L.length : Int) := by omega
      have HI := Lib.hid hb
      rcases HT.out with ⟨hi0, rfl⟩ | ⟨k, hk, rfl, hmin⟩
      · have HI0 := Lib.hid hi0
        clear hi0 hb
        go_wp2_with fail
        go_quiet (fail)
        go_wp2_with fail
        go_roundw
        case rel => exact ⟨i + 1, by have := HI.out; omega, by go_num, Lib.hid (.inr ⟨i, by omega, rfl, fun j hj => by have := HI0.out; rw [show j = i by omega]; exact ltN_irr _⟩), Lib.hid HRR.out, Lib.hid (HK.out.drewN _)⟩
        case measure => have := HI.out; simp [intOf]; omega
      · have q3 : (0 : Int) ≤ k := by omega
        have q4 : (k : Int) < (L.length : Int) := by omega
        have hkl : k < L.length := by omega
        have HMIN := Lib.hid hmin
        have HKI := Lib.hid hk
        have hd : decide ((k : Int) < 0) = false := decide_eq_false (by omega)
        clear hmin
        go_wp2_with fail
        have hRD : RowE wr.drew g c L := HRR.out.drew
        have x0 := hRD.cell i 0 hb (by omega)
        have x1 := hRD.cell i 1 hb (by omega)
        have x2 := hRD.cell i 2 hb (by omega)
        have x3 := hRD.cell i 3 hb (by omega)
        have y0 := hRD.cell k 0 hkl (by omega)
        have y1 := hRD.cell k 1 hkl (by omega)
        have y2 := hRD.cell k 2 hkl (by omega)
        have y3 := hRD.cell k 3 hkl (by omega)
        rw [← gE_eq L i hb] at x0 x1 x2 x3
        rw [← gE_eq L k hkl] at y0 y1 y2 y3
        simp only [En.cells, List.getElem?_cons_zero, List.getElem?_cons_succ, Nat.add_zero] at x0 x1 x2 x3 y0 y1 y2 y3
        have HRD := Lib.hid hRD
        have HKD := Lib.hid HK.out.drew
        clear hRD HRR HK
        refine wp_region_still_tail 11 (by kernel_rfl) (by kernel_rfl) ?_
        simp only [List.take_succ_cons, List.take_zero, List.drop_succ_cons, List.drop_zero]
        change wpStill _ _ wr.drew (fun a' => wpList _ _ _ _ a' wr.drew) _ _
        generalize wr.drew = wd at x0 x1 x2 x3 y0 y1 y2 y3 HRD HKD ⊢
        still_step
        still_step
        still_step
        still_step
        still_step
        still_step
        still_step
        still_step
        still_step
        still_step
        still_step
        refine wpStill_nil ?_
        go_wp2_with fail
        refine (less15 (gE L i).k (gE L k).k (gE L i).s (gE L i).r (gE L k).s (gE L k).r (.slice (gE L i).A (gE L i).n (gE L i).c) (.slice (gE L k).A (gE L k).n (gE L k).c) wd).mono ?_
        rintro e w2 ⟨rfl, K2⟩
        have HR2 := Lib.hid (HRD.out.keep K2 (by have := HRD.out.lt; omega))
        have HK2 := Lib.hid (HKD.out.trans' K2 (fun j _ h => by have := HKD.out.size; omega))
        clear x0 x1 x2 x3 y0 y1 y2 y3 K2 HRD HKD
        cases hlt : ltE (gE L i).k (gE L i).s (gE L i).r (gE L k).k (gE L k).s (gE L k).r
        · have HLT : Hid (ltN (gE L i) (gE L k) = false) := Lib.hid hlt
          clear hlt
          go_wp2_with fail
          go_roundw
          case rel =>
            refine ⟨i + 1, by have := HI.out; omega, by go_num, Lib.hid (.inr ⟨k, by have := HKI.out; omega, rfl, fun j hj => ?_⟩), HR2, HK2⟩
            by_cases hji : j = i
            · rw [hji]; exact HLT.out
            · exact HMIN.out j (by omega)
          case measure => have := HI.out; simp [intOf]; omega
        · have HLT : Hid (ltN (gE L i) (gE L k) = true) := Lib.hid hlt
          clear hlt
          go_wp2_with fail
          go_roundw
          case rel =>
            refine ⟨i + 1, by have := HI.out; omega, by go_num, Lib.hid (.inr ⟨i, by omega, rfl, fun j hj => ?_⟩), HR2, HK2⟩
            by_cases hji : j = i
            · rw [hji]; exact ltN_irr _
            · exact ltN_neg (HMIN.out j (by omega)) (ltN_asymm HLT.out)
          case measure => have := HI.out; simp [intOf]; omega
    · go_wp2
      go_ret
      refine ⟨HK.out, ?_⟩
      rcases HT.out with ⟨h0, rfl⟩ | ⟨k, hk, rfl, hmin⟩
      · exact .inl ⟨List.eq_nil_of_length_eq_zero (by omega), rfl⟩
      · exact .inr ⟨k, by omega, rfl, fun j hj => hmin j (by omega)⟩
end Go.Proofs.Ytbkpjjibgnachaa
