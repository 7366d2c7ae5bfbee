/- rec.bits: a number's bytes. Conditions: none. -/
import Derived.Test.YtkglkpcpgdeneaaSt
import Derived.Test.YtkglkpcpgdeneaaRows
import Derived.Test.YtkglkpcpgdeneaaStoreM
import Derived.Deep.OwnRows
namespace Go.Proofs.Ytkglkpcpgdeneaa
open Go.RowKit

theorem infoU8 : (Try.prog.info? 5).map (fun i => (i.zero, i.size, i.bytes)) = some (some (.int .u8 0), 1, 1) := by kernel_rfl
theorem set_mid {A cs : List Value} {k : Nat} (hA : A.length = k) (hk : k < cs.length) (v : Value) : (A ++ cs.drop k).set k v = A ++ [v] ++ cs.drop (k + 1) := by
  subst hA
  rw [List.set_append_right _ _ (Nat.le_refl _), Nat.sub_self, List.drop_eq_getElem_cons hk, List.set_cons_zero]
  simp
theorem bys_take_succ (l : List UInt8) (k : Nat) (h : k < l.length) : bys (l.take (k + 1)) = bys (l.take k) ++ [.int .u8 (l[k].toNat : Int)] := by
  rw [List.take_succ_eq_append_getElem h, bys_append]; rfl
/-- The bytes of n, the highest first. -/
def bitsL (n size : Nat) : List UInt8 := (List.range size).map fun k => UInt8.ofNat (n / 256 ^ (size - 1 - k))
theorem bitsL_len (n size : Nat) : (bitsL n size).length = size := by simp [bitsL]
theorem bitsL_get (n size k : Nat) (h : k < (bitsL n size).length) : ((bitsL n size)[k].toNat : Int) = (n : Int) / 2 ^ (8 * (size - 1 - k)) % 256 := by
  have e : (2 : Nat) ^ (8 * (size - 1 - k)) = 256 ^ (size - 1 - k) := by rw [Nat.pow_mul]
  have e1 : (bitsL n size)[k] = UInt8.ofNat (n / 256 ^ (size - 1 - k)) := by simp [bitsL]
  have e2 : (UInt8.ofNat (n / 256 ^ (size - 1 - k))).toNat = n / 256 ^ (size - 1 - k) % 256 := by rw [UInt8.toNat_ofNat']
  rw [e1, e2, ← e]
  generalize 8 * (size - 1 - k) = m
  rw [Int.natCast_emod, Int.natCast_ediv, Int.natCast_pow]
  rfl
set_option maxRecDepth 100000 in
set_option maxHeartbeats 4000000 in
theorem bits_any (n size : Nat) (w : World) (hn : n ≤ 4611686018427387904) (hs : size ≤ 8) :
    Calls Try.prog 65 #[.int .i64 n, .int .i64 size] w fun e w' => e = .returned (.slice (some ⟨w.heap.size, 0, none⟩) size size) ∧ Blk w' w.heap.size 5 (bys (bitsL n size)) ∧ Keep (fun _ => False) w w' := by
  have hmk := fun (w : World) => run_make_row' (P := Try.prog) 42 5 (.int .u8 0) 1 Try.underlying42 infoU8 rfl .i64 .i64 size (by omega) (by omega) w
  have q1 : (size : Int) ≤ 8 := by omega
  have q2 : (n : Int) ≤ 4611686018427387904 := by omega
  have HS := Lib.hid hs
  have HN := Lib.hid hn
  clear hn hs
  go_enter Try.func65, Try.ntmps65
  go_wp2_with fail
  clear hmk
  have hB : Blk (w.alloc (.cells (madeCells #[Value.int .u8 0] size) 5)) w.heap.size 5 (madeCells #[Value.int .u8 0] size).toList := by
    have := Blk.new w 5 (madeCells #[Value.int .u8 0] size).toList
    rwa [Array.toArray_toList] at this
  have hK : Keep (fun _ => False) w (w.alloc (.cells (madeCells #[Value.int .u8 0] size) 5)) := (Keep.refl _ w).alloc _
  have hL : (madeCells #[Value.int .u8 0] size).toList.length = size := by simp [madeCells]
  generalize w.alloc (.cells (madeCells #[Value.int .u8 0] size) 5) = w1 at hB hK ⊢
  generalize (madeCells #[Value.int .u8 0] size).toList = cs at hB hL
  have HB := Lib.hid hB
  have HK := Lib.hid hK
  have HL := Lib.hid hL
  clear hB hK hL
  go_loopw [10] (fun v wr => ∃ k : Nat, k ≤ size ∧ v = .int .i64 k ∧ Hid (Blk wr w.heap.size 5 (bys ((bitsL n size).take k) ++ cs.drop k)) ∧ Hid (Keep (fun _ => False) w wr)) (fun v _ => size - (intOf v).toNat)
  case atStart => exact ⟨0, Nat.zero_le _, rfl, by simpa [bys] using HB, HK⟩
  case round =>
    obtain ⟨k, hk, rfl, HBR, HKR⟩ := hrel
    by_cases hlt : k < size
    · have q3 : (0 : Int) ≤ k := by omega
      have q4 : (k : Int) < size := by omega
      have x0 : ∃ u, wr.cell? ⟨w.heap.size, k, none⟩ = some u := by
        rw [HBR.out.cell]
        exact ⟨_, List.getElem?_eq_getElem (by have := HL.out; simp [bys, bitsL]; omega)⟩
      obtain ⟨u, x0⟩ := x0
      have f0 := HBR.out.free k
      go_wp2_with fail
      go_roundw
      case rel =>
        refine ⟨k + 1, by omega, by go_num, Lib.hid ?_, Lib.hid (HKR.out.setCell (p := ⟨w.heap.size, k, none⟩) (.inr (Nat.le_refl _)) _)⟩
        have h1 := HBR.out.set k (.int .u8 (↑n / 2 ^ (8 * (size - 1 - k)) % 256))
        rw [set_mid (by rw [bys_length, List.length_take, bitsL_len]; omega) (by rw [HL.out]; exact hlt)] at h1
        rw [bys_take_succ _ k (by rw [bitsL_len]; exact hlt), bitsL_get]
        exact h1
      case measure => simp [intOf]; omega
    · go_wp2
      go_ret
      refine ⟨rfl, ?_, HKR.out⟩
      have h1 := HBR.out
      rw [List.take_of_length_le (by rw [bitsL_len]; omega), List.drop_of_length_le (by rw [HL.out]; omega), List.append_nil] at h1
      exact h1
end Go.Proofs.Ytkglkpcpgdeneaa
