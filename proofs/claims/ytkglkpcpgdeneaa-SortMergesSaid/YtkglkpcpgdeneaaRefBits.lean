/- The reference's bytes of a number, and of an item. Conditions: none. -/
import Derived.Test.YtkglkpcpgdeneaaRecPut
namespace Go.Proofs.Ytkglkpcpgdeneaa
open Go.RowKit

theorem take_set_last {cs : List Value} {k : Nat} (hk : k < cs.length) (B : List Value) (v : Value) : (cs.take (k + 1) ++ B).set k v = cs.take k ++ (v :: B) := by
  rw [List.take_succ_eq_append_getElem hk, List.append_assoc, List.set_append_right _ _ (by simp; omega)]
  have : k - (cs.take k).length = 0 := by simp; omega
  rw [this]; rfl
theorem bys_drop_pred (l : List UInt8) (k : Nat) (h : k < l.length) : bys (l.drop k) = .int .u8 (l[k].toNat : Int) :: bys (l.drop (k + 1)) := by
  rw [List.drop_eq_getElem_cons h]; rfl
theorem bitsL_at (n size k : Nat) (h : k < (bitsL n size).length) : (bitsL n size)[k].toNat = n / 256 ^ (size - 1 - k) % 256 := by
  have e1 : (bitsL n size)[k] = UInt8.ofNat (n / 256 ^ (size - 1 - k)) := by simp [bitsL]
  rw [e1, UInt8.toNat_ofNat']
set_option maxRecDepth 100000 in
set_option maxHeartbeats 4000000 in
theorem refbits_any (n size : Nat) (w : World) (hn : n ≤ 4611686018427387904) (h0 : 1 ≤ size) (hs : size ≤ 8) :
    Calls Try.prog 54 #[.int .i64 n, .int .i64 size] w fun e w' => e = .returned (.slice (some ⟨w.heap.size, 0, none⟩) size size) ∧ Blk w' w.heap.size 5 (bys (bitsL n size)) ∧ Keep (fun _ => False) w w' := by
  have hmk := fun (w : World) => run_make_row' (P := Try.prog) 42 5 (.int .u8 0) 1 Try.underlying42 infoU8 rfl .i64 .i64 size (by omega) (by omega) w
  have q1 : (size : Int) ≤ 8 := by omega
  have q0 : (1 : Int) ≤ size := by omega
  have q2 : (n : Int) ≤ 4611686018427387904 := by omega
  have HS := Lib.hid (And.intro h0 hs)
  have HN := Lib.hid hn
  clear hn hs h0
  go_enter Try.func54, Try.ntmps54
  go_wp2_with fail
  clear hmk
  have hB : Blk (w.alloc (.cells (madeCells #[Value.int .u8 0] size) 5)) w.heap.size 5 (madeCells #[Value.int .u8 0] size).toList := by
    have := Blk.new w 5 (madeCells #[Value.int .u8 0] size).toList
    rwa [Array.toArray_toList] at this
  have hK : Keep (fun _ => False) w (w.alloc (.cells (madeCells #[Value.int .u8 0] size) 5)) := (Keep.refl _ w).alloc _
  have hL : (madeCells #[Value.int .u8 0] size).toList.length = size := by simp [madeCells]
  generalize w.alloc (.cells (madeCells #[Value.int .u8 0] size) 5) = w1 at hB hK ⊢
  generalize (madeCells #[Value.int .u8 0] size).toList = cs at hB hL
  have HB := Lib.hid hB
  have HK := Lib.hid hK
  have HL := Lib.hid hL
  clear hB hK hL
  go_loopw [0, 6] (fun v0 v6 wr => ∃ k : Nat, k ≤ size ∧ v0 = .int .i64 ((n / 256 ^ (size - k) : Nat) : Int) ∧ v6 = .int .i64 ((k : Int) - 1) ∧ Hid (Blk wr w.heap.size 5 (cs.take k ++ bys ((bitsL n size).drop k))) ∧ Hid (Keep (fun _ => False) w wr)) (fun _ v _ => (intOf v + 1).toNat)
  case atStart =>
    refine ⟨size, Nat.le_refl _, by simp, rfl, Lib.hid ?_, HK⟩
    have h1 := HB.out
    rw [List.take_of_length_le (by rw [HL.out]; exact Nat.le_refl _), List.drop_of_length_le (by rw [bitsL_len]; exact Nat.le_refl _)]
    simpa [bys] using h1
  case round =>
    obtain ⟨k, hk, rfl, rfl, HBR, HKR⟩ := hrel
    by_cases hlt : 0 < k
    · obtain ⟨p, rfl⟩ : ∃ p, k = p + 1 := ⟨k - 1, by omega⟩
      have q3 : (0 : Int) ≤ p := by omega
      have q4 : (p : Int) < size := by omega
      obtain ⟨q, hq⟩ : ∃ q, q = n / 256 ^ (size - (p + 1)) := ⟨_, rfl⟩
      have hqn : q ≤ n := by rw [hq]; exact Nat.div_le_self _ _
      have q5 : (q : Int) ≤ 4611686018427387904 := by omega
      have HQ := Lib.hid hq
      rw [← hq]
      have e1 : ((p + 1 : Nat) : Int) - 1 = (p : Int) := by omega
      rw [e1]
      have x0 : ∃ u, wr.cell? ⟨w.heap.size, p, none⟩ = some u := by
        rw [HBR.out.cell]
        exact ⟨_, List.getElem?_eq_getElem (by have := HL.out; simp [bys, bitsL]; omega)⟩
      obtain ⟨u, x0⟩ := x0
      have f0 := HBR.out.free p
      clear hq hqn e1
      go_wp2_with fail
      go_roundw
      case rel =>
        refine ⟨p, by omega, ?_, rfl, Lib.hid ?_, Lib.hid (HKR.out.setCell (p := ⟨w.heap.size, p, none⟩) (.inr (Nat.le_refl _)) _)⟩
        · have h1 : n / 256 ^ (size - p) = q / 256 := by
            rw [HQ.out, Nat.div_div_eq_div_mul, ← Nat.pow_succ]
            congr 2; omega
          rw [h1]; go_num
        · have h1 := HBR.out.set p (.int .u8 ((q : Int) % 256))
          rw [take_set_last (by rw [HL.out]; omega)] at h1
          rw [bys_drop_pred _ p (by rw [bitsL_len]; omega), bitsL_at, show size - 1 - p = size - (p + 1) by omega, ← HQ.out]
          exact h1
      case measure => simp [intOf]
    · obtain rfl : k = 0 := by omega
      go_wp2
      go_ret
      refine ⟨rfl, ?_, HKR.out⟩
      have h1 := HBR.out
      simpa using h1
end Go.Proofs.Ytkglkpcpgdeneaa
