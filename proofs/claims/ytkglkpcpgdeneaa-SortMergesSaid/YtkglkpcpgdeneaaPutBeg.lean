/- What rec.Put writes is what bytes begin with. No program in sight. Conditions: none. -/
import Derived.Test.YtkglkpcpgdeneaaBegS
import Derived.Test.YtkglkpcpgdeneaaRecPut
namespace Go.Proofs.Ytkglkpcpgdeneaa

theorem bitsL_succ (n m : Nat) : bitsL n (m + 1) = bitsL (n / 256) m ++ [UInt8.ofNat n] := by
  unfold bitsL
  rw [List.range_succ, List.map_append]
  congr 1
  · apply List.map_congr_left
    intro k hk
    have hk2 : k < m := by simpa using hk
    rw [show m + 1 - 1 - k = (m - 1 - k) + 1 by omega, Nat.pow_succ, Nat.mul_comm, Nat.div_div_eq_div_mul]
  · simp
theorem numL_bitsL (m : Nat) : ∀ n, n < 256 ^ m → numL (bitsL n m) = n := by
  induction m with
  | zero => intro n h; simp at h; subst h; rfl
  | succ m ih =>
    intro n h
    rw [bitsL_succ, numL_snoc, ih (n / 256) (by rw [Nat.div_lt_iff_lt_mul (by omega)]; rwa [Nat.pow_succ] at h)]
    have : (UInt8.ofNat n).toNat = n % 256 := by simp
    omega
theorem begS_put (k : ByteArray) (s : Int) (d more : List UInt8) (h1 : k.size ≤ 200) (h2 : 0 ≤ s) (h3 : s ≤ 4611686018427387904) (h4 : d.length ≤ 1048576) :
    begS (putL k s d ++ more) = some (k.data.toList, s.toNat, d, 16 + k.size + d.length) := by
  have hk : k.data.toList.length = k.size := Array.length_toList
  have e0 : putL k s d ++ more = bitsL k.size 4 ++ (k.data.toList ++ (bitsL s.toNat 8 ++ (bitsL d.length 4 ++ (d ++ more)))) := by
    unfold putL
    simp only [List.flatten_cons, List.flatten_nil, List.append_nil, List.append_assoc]
  have hl : (putL k s d ++ more).length = 16 + k.size + d.length + more.length := by rw [List.length_append, putL_len]
  have a1 : (putL k s d ++ more).take 4 = bitsL k.size 4 := by rw [e0, List.take_left' (bitsL_len _ _)]
  have b1 : (putL k s d ++ more).drop 4 = k.data.toList ++ (bitsL s.toNat 8 ++ (bitsL d.length 4 ++ (d ++ more))) := by rw [e0, List.drop_left' (bitsL_len _ _)]
  have b2 : (putL k s d ++ more).drop (4 + k.size) = bitsL s.toNat 8 ++ (bitsL d.length 4 ++ (d ++ more)) := by rw [← List.drop_drop, b1, List.drop_left' hk]
  have b3 : (putL k s d ++ more).drop (12 + k.size) = bitsL d.length 4 ++ (d ++ more) := by
    rw [show 12 + k.size = (4 + k.size) + 8 by omega, ← List.drop_drop, b2, List.drop_left' (bitsL_len _ _)]
  have b4 : (putL k s d ++ more).drop (16 + k.size) = d ++ more := by
    rw [show 16 + k.size = (12 + k.size) + 4 by omega, ← List.drop_drop, b3, List.drop_left' (bitsL_len _ _)]
  have n1 : numL (bitsL k.size 4) = k.size := numL_bitsL 4 _ (Nat.lt_of_le_of_lt h1 (by decide))
  have n2 : numL (bitsL s.toNat 8) = s.toNat := numL_bitsL 8 _ (Nat.lt_of_le_of_lt (show s.toNat ≤ 4611686018427387904 by omega) (by decide))
  have n3 : numL (bitsL d.length 4) = d.length := numL_bitsL 4 _ (Nat.lt_of_le_of_lt h4 (by decide))
  have r := begS_some (putL k s d ++ more) k.size s.toNat d.length (by rw [a1, n1]) (by rw [b2, List.take_left' (bitsL_len _ _), n2]) (by rw [b3, List.take_left' (bitsL_len _ _), n3]) (by rw [hl]; omega) h1 (by rw [hl]; omega) (by omega) h4 (by rw [hl]; omega)
  rw [r, b1, b4, List.take_left' hk, List.take_left' rfl]
end Go.Proofs.Ytkglkpcpgdeneaa
