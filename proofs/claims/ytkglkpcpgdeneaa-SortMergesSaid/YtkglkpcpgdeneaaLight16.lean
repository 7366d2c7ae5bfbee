/- Law 16's light; the reference's May of items. Conditions: none. -/
import Derived.Test.YtkglkpcpgdeneaaItems
import Derived.Test.YtkglkpcpgdeneaaRefMay
namespace Go.Proofs.Ytkglkpcpgdeneaa
open Go.RowKit

def wsum (L : List It) : Nat := (L.map fun x => x.k.size + x.n).sum
theorem wsum_succ (L : List It) (i : Nat) (h : i < L.length) : wsum (L.take (i + 1)) = wsum (L.take i) + (L[i].k.size + L[i].n) := by
  rw [List.take_succ_eq_append_getElem h]
  unfold wsum
  rw [List.map_append, List.sum_append]
  simp
theorem wsum_leB (L : List It) (B : Nat) (hs : ∀ x ∈ L, x.k.size + x.n ≤ B) : ∀ i, wsum (L.take i) ≤ i * B
  | 0 => by rw [List.take_zero]; exact Nat.le_trans (Nat.le_of_eq (show wsum [] = 0 from rfl)) (Nat.zero_le _)
  | i + 1 => by
    have h1 := wsum_leB L B hs i
    rw [Nat.succ_mul]
    rcases Nat.lt_or_ge i L.length with h | h
    · rw [wsum_succ L i h]
      have := hs _ (List.getElem_mem h)
      omega
    · rw [List.take_of_length_le (by omega)]
      rw [List.take_of_length_le h] at h1
      omega
theorem wsum_le (L : List It) (hs : ∀ x ∈ L, x.k.size + x.n ≤ 281474976710656) (i : Nat) (hi : i ≤ 200) : wsum (L.take i) ≤ 56294995342131200 :=
  Nat.le_trans (wsum_leB L _ hs i) (Nat.le_trans (Nat.mul_le_mul_right _ hi) (by decide))
set_option maxRecDepth 100000 in
set_option maxHeartbeats 4000000 in
theorem light16_small (a : Option Addr) (c : Nat) (L : List It) (w : World) (hr : RdI w a L) (hl : L.length ≤ 200) (hs : ∀ x ∈ L, x.k.size + x.n ≤ 281474976710656) :
    Calls Try.prog 25 #[.slice a L.length c] w fun e w' => e = .returned (.bool (decide (wsum L ≤ 100000))) ∧ Keep (fun j => w.heap.size ≤ j) w w' := by
  have HR := Lib.hid hr
  have HS := Lib.hid hs
  have HL := Lib.hid hl
  have q0 : (L.length : Int) ≤ 200 := by omega
  obtain ⟨sw, hsw⟩ : ∃ sw, sw = wsum L := ⟨_, rfl⟩
  rw [← hsw]
  have HSW := Lib.hid hsw
  clear hr hs hl hsw
  go_enter Try.func25, Try.ntmps25
  go_wp2_with fail
  go_loopw [3, 4] (fun v3 v4 wr => ∃ i : Nat, i ≤ L.length ∧ v3 = .int .i64 (wsum (L.take i) : Nat) ∧ v4 = .int .i64 i ∧ Hid (Keep (fun j => w.heap.size ≤ j) w wr)) (fun _ v4 _ => L.length - (intOf v4).toNat)
  case atStart => exact ⟨0, Nat.zero_le _, rfl, rfl, Lib.hid (Keep.refl _ w)⟩
  case round =>
    obtain ⟨i, hi, rfl, rfl, HK⟩ := hrel
    have hw := wsum_le L HS.out i (by have := HL.out; omega)
    by_cases hb : i < L.length
    · rcases HR.out with ⟨_, h0⟩ | ⟨b, o, rfl, hc⟩
      · rw [h0] at hb; simp at hb
      have q1 : (0 : Int) ≤ i := by omega
      have q2 : (i : Int) < L.length := by omega
      have x0 : wr.cell? ⟨b, o + i * 3, none⟩ = some (.string L[i].k) := old_cell (hc i 0 hb (by omega)) HK.out
      have x2 : wr.cell? ⟨b, o + i * 3 + 2, none⟩ = some (.slice L[i].A L[i].n L[i].c) := old_cell (hc i 2 hb (by omega)) HK.out
      have HW := Lib.hid (wsum_succ L i hb)
      have hX := HS.out _ (List.getElem_mem hb)
      have HLL := HL.out
      have q3 : ((wsum (L.take i) : Nat) : Int) ≤ 56294995342131200 := by omega
      have q4 : (0 : Int) ≤ ((wsum (L.take i) : Nat) : Int) := by omega
      generalize L[i] = X at x0 x2 HW hX
      have q5 : (X.k.size : Int) ≤ 281474976710656 := by omega
      have q6 : (X.n : Int) ≤ 281474976710656 := by omega
      have HB := Lib.hid hb
      clear hc hb hX HLL hw
      generalize wsum (L.take i) = sm at HW q3 q4 ⊢
      have e1 : IntKind.i64.wrap ((sm : Int) + (X.k.size : Int)) = (sm : Int) + (X.k.size : Int) := IntWalk.i64_in _ (by omega)
      have e2 : IntKind.i64.wrap ((sm : Int) + (X.k.size : Int) + (X.n : Int)) = (sm : Int) + (X.k.size : Int) + (X.n : Int) := IntWalk.i64_in _ (by omega)
      go_wp2_with fail
      go_quiet (fail)
      clear e1 e2
      go_wp2_with fail
      go_roundw
      case rel => exact ⟨i + 1, HB.out, by rw [HW.out]; go_num, by go_num, Lib.hid (HK.out.drewN _)⟩
      case measure => have := HB.out; simp [intOf]; omega
    · obtain rfl : i = L.length := by omega
      rw [List.take_length, ← HSW.out]
      clear hw
      go_wp2_with fail
      go_ret
      exact ⟨ret_bool (by rw [Bool.eq_iff_iff]; simp; omega), HK.out⟩
set_option maxRecDepth 100000 in
set_option maxHeartbeats 4000000 in
theorem light16_big (a : Option Addr) (c : Nat) (L : List It) (w : World) (hr : RdI w a L) (hl : 200 < L.length) (hl2 : L.length ≤ 4611686018427387904) :
    Calls Try.prog 25 #[.slice a L.length c] w fun e w' => e = .returned (.bool false) ∧ Keep (fun j => w.heap.size ≤ j) w w' := by
  have HR := Lib.hid hr
  have HL := Lib.hid hl
  have q0 : (L.length : Int) ≤ 4611686018427387904 := by omega
  clear hr hl hl2
  go_enter Try.func25, Try.ntmps25
  go_wp2_with fail
  go_loopw [3, 4] (fun v3 v4 wr => ∃ (i : Nat) (x : Int), i ≤ L.length ∧ v3 = .int .i64 x ∧ v4 = .int .i64 i ∧ Hid (Keep (fun j => w.heap.size ≤ j) w wr)) (fun _ v4 _ => L.length - (intOf v4).toNat)
  case atStart => exact ⟨0, 0, Nat.zero_le _, rfl, rfl, Lib.hid (Keep.refl _ w)⟩
  case round =>
    obtain ⟨i, x, hi, rfl, rfl, HK⟩ := hrel
    by_cases hb : i < L.length
    · rcases HR.out with ⟨_, h0⟩ | ⟨b, o, rfl, hc⟩
      · rw [h0] at hb; simp at hb
      have q1 : (0 : Int) ≤ i := by omega
      have q2 : (i : Int) < L.length := by omega
      have x0 : wr.cell? ⟨b, o + i * 3, none⟩ = some (.string L[i].k) := old_cell (hc i 0 hb (by omega)) HK.out
      have x2 : wr.cell? ⟨b, o + i * 3 + 2, none⟩ = some (.slice L[i].A L[i].n L[i].c) := old_cell (hc i 2 hb (by omega)) HK.out
      generalize L[i] = X at x0 x2
      have HB := Lib.hid hb
      clear hc hb
      go_wp2_with fail
      go_quiet (fail)
      go_wp2_with fail
      go_roundw
      case rel => exact ⟨i + 1, _, HB.out, rfl, by go_num, Lib.hid (HK.out.drewN _)⟩
      case measure => have := HB.out; simp [intOf]; omega
    · obtain rfl : i = L.length := by omega
      have hd : decide ((L.length : Int) ≤ 200) = false := decide_eq_false (by have := HL.out; omega)
      go_wp2_with fail
      go_ret
      exact ⟨rfl, HK.out⟩
theorem light16 (a : Option Addr) (c : Nat) (L : List It) (w : World) (hr : RdI w a L) (hl2 : L.length ≤ 4611686018427387904) (hs : ∀ x ∈ L, x.k.size + x.n ≤ 281474976710656) :
    Calls Try.prog 25 #[.slice a L.length c] w fun e w' => e = .returned (.bool (decide (L.length ≤ 200 ∧ wsum L ≤ 100000))) ∧ Keep (fun j => w.heap.size ≤ j) w w' := by
  by_cases h : L.length ≤ 200
  · have e : decide (L.length ≤ 200 ∧ wsum L ≤ 100000) = decide (wsum L ≤ 100000) := by simp [h]
    rw [e]
    exact light16_small a c L w hr h hs
  · have e : decide (L.length ≤ 200 ∧ wsum L ≤ 100000) = false := by simp [h]
    rw [e]
    exact light16_big a c L w hr (by omega) hl2
end Go.Proofs.Ytkglkpcpgdeneaa
