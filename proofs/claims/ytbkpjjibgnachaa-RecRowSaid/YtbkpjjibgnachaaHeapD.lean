/- The heap's child. Conditions: none. -/
import Derived.Test.YtbkpjjibgnachaaHeapC
import Derived.IntWalk
import Derived.Deep.DeepCutAuto
namespace Go.Proofs.Ytbkpjjibgnachaa
open Go.RowKit

/-- The lesser child of n. -/
def kidE (L : List En) (n : Nat) : Nat := if 2 * n + 2 < L.length ∧ ltN (gE L (2 * n + 2)) (gE L (2 * n + 1)) = true then 2 * n + 2 else 2 * n + 1
set_option maxRecDepth 100000 in
set_option maxHeartbeats 1000000 in
theorem child_no (hb : Nat) (A : Option Addr) (m c n : Nat) (w : World) (hc : w.cell? ⟨hb, 0, none⟩ = some (.slice A m c)) (hn : n < 1000000) (hm : m ≤ 2 * n + 1) :
    Calls Try.prog 56 #[.pointer (some ⟨hb, 0, none⟩), .int .i64 n] w fun e w' => e = .returned (.tuple #[.int .i64 0, .bool false]) ∧ Keep (fun b => w.heap.size ≤ b) w w' := by
  have h1 : (0 : Int) ≤ n := by omega
  have h2 : (n : Int) ≤ 2305843009213693951 := by omega
  have h3 : (m : Int) ≤ 2 * (n : Int) + 1 := by omega
  clear hn hm
  go_enter Try.func56, Try.ntmps56
  go_wp2
  go_ret2
  exact ⟨rfl, Keep.refl _ _⟩
set_option maxRecDepth 100000 in
set_option maxHeartbeats 4000000 in
theorem child_yes (hb g c n : Nat) (L : List En) (w : World) (hc : w.cell? ⟨hb, 0, none⟩ = some (.slice (some ⟨g, 0, none⟩) L.length c)) (hr : RowE w g c L) (hn : n < 1000000) (hm : 2 * n + 1 < L.length) :
    Calls Try.prog 56 #[.pointer (some ⟨hb, 0, none⟩), .int .i64 n] w fun e w' => e = .returned (.tuple #[.int .i64 (kidE L n), .bool true]) ∧ Keep (fun b => w.heap.size ≤ b) w w' := by
  obtain ⟨k, hk⟩ : ∃ k, k = 2 * n + 1 := ⟨_, rfl⟩
  have HK := Lib.hid hk
  have h1 : (0 : Int) ≤ n := by omega
  have h2 : (n : Int) ≤ 2305843009213693951 := by omega
  have h3 : 2 * (n : Int) + 1 = (k : Int) := by omega
  have h4 : (k : Int) < (L.length : Int) := by omega
  have h4' : decide ((L.length : Int) ≤ (k : Int)) = false := decide_eq_false (by omega)
  have h5 : (0 : Int) ≤ (k : Int) := by omega
  have h6 : (k : Int) ≤ 4611686018427387904 := by omega
  have HM := Lib.hid hm
  clear hn hm hk
  by_cases hs : k + 1 < L.length
  · have HS := Lib.hid hs
    clear hs
    have HR := Lib.hid hr
    clear hr
    go_enter Try.func56, Try.ntmps56
    go_upto_region 4 with fail
    have q1 : IntKind.i64.wrap ((k : Int) + 1) = (k : Int) + 1 := IntWalk.i64_in _ (by omega)
    have q2 : ((k : Int) + 1).toNat = k + 1 := by omega
    have q3 : (k : Int) + 1 < (L.length : Int) := by have := HS.out; omega
    have q4 : (0 : Int) ≤ (k : Int) + 1 := by omega
    have hRD : RowE w.drew g c L := HR.out.drew
    have cq : w.drew.cell? ⟨hb, 0, none⟩ = some (.slice (some ⟨g, 0, none⟩) L.length c) := hc
    have hKD : Keep (fun b => w.heap.size ≤ b) w w.drew := (Keep.refl _ w).drew
    have x0 := hRD.cell k 0 (by omega) (by omega)
    have x1 := hRD.cell k 1 (by omega) (by omega)
    have x2 := hRD.cell k 2 (by omega) (by omega)
    have x3 := hRD.cell k 3 (by omega) (by omega)
    have y0 := hRD.cell (k + 1) 0 HS.out (by omega)
    have y1 := hRD.cell (k + 1) 1 HS.out (by omega)
    have y2 := hRD.cell (k + 1) 2 HS.out (by omega)
    have y3 := hRD.cell (k + 1) 3 HS.out (by omega)
    rw [← gE_eq L k (by omega)] at x0 x1 x2 x3
    rw [← gE_eq L (k + 1) HS.out] at y0 y1 y2 y3
    simp only [En.cells, List.getElem?_cons_zero, List.getElem?_cons_succ, Nat.add_zero] at x0 x1 x2 x3 y0 y1 y2 y3
    have HR2 := Lib.hid hRD
    have HK2 := Lib.hid hKD
    clear hRD hKD
    refine wp_region_still_tail 24 (by kernel_rfl) (by kernel_rfl) ?_
    simp only [List.take_succ_cons, List.take_zero, List.drop_succ_cons, List.drop_zero]
    change wpStill _ _ w.drew (fun a' => wpList _ _ _ _ a' w.drew) _ _
    clear hc
    generalize w.drew = wd at cq x0 x1 x2 x3 y0 y1 y2 y3 HR2 HK2 ⊢
    still_step
    still_step
    still_step
    still_step
    still_step
    still_step
    still_step
    still_step
    still_step
    still_step
    still_step
    still_step
    still_step
    still_step
    still_step
    still_step
    still_step
    still_step
    still_step
    still_step
    still_step
    still_step
    still_step
    still_step
    refine wpStill_nil ?_
    go_wp2_with fail
    refine (heap_less (gE L (k + 1)).k (gE L k).k (gE L (k + 1)).s (gE L (k + 1)).r (gE L k).s (gE L k).r (.slice (gE L (k + 1)).A (gE L (k + 1)).n (gE L (k + 1)).c) (.slice (gE L k).A (gE L k).n (gE L k).c) wd).mono ?_
    rintro e w2 ⟨rfl, K2⟩
    have hK3 := HK2.out.trans' K2 (fun j hj h => by have := HK2.out.size; omega)
    have HK3 := Lib.hid hK3
    clear cq x0 x1 x2 x3 y0 y1 y2 y3 K2 HK2 hK3 q1 q2 HR2
    cases hlt : ltE (gE L (k + 1)).k (gE L (k + 1)).s (gE L (k + 1)).r (gE L k).k (gE L k).s (gE L k).r
    · have hkd : kidE L n = k := by
        have := HK.out
        unfold kidE ltN
        rw [if_neg]
        · exact this.symm
        · rintro ⟨_, h⟩
          rw [show 2 * n + 2 = k + 1 by omega, show 2 * n + 1 = k by omega, hlt] at h
          cases h
      have HKD := Lib.hid hkd
      clear hkd
      go_wp2
      go_ret2
      exact ⟨by rw [HKD.out]; rfl, HK3.out⟩
    · have hkd : kidE L n = k + 1 := by
        have := HK.out
        unfold kidE ltN
        rw [if_pos]
        · omega
        · have := HS.out
          refine ⟨by omega, ?_⟩
          rw [show 2 * n + 2 = k + 1 by omega, show 2 * n + 1 = k by omega, hlt]
      have HKD := Lib.hid hkd
      clear hkd
      go_wp2
      go_ret2
      exact ⟨by rw [HKD.out]; rfl, HK3.out⟩
  · have hs' : decide ((k : Int) + 1 < (L.length : Int)) = false := decide_eq_false (by omega)
    have hkd : kidE L n = k := by
      have := HK.out
      unfold kidE
      rw [if_neg]
      · exact this.symm
      · rintro ⟨h, _⟩; omega
    rw [hkd]
    clear hkd hs hr
    go_enter Try.func56, Try.ntmps56
    go_upto_region 4 with fail
    have q1 : IntKind.i64.wrap ((k : Int) + 1) = (k : Int) + 1 := IntWalk.i64_in _ (by omega)
    go_quiet (fail)
    go_wp2
    go_ret2
    exact ⟨rfl, (Keep.refl _ w).drewN _⟩
end Go.Proofs.Ytbkpjjibgnachaa
