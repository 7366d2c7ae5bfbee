/- Items' bytes, one behind the other. No program in sight. Conditions: none. -/
import Derived.Test.YtbkpjjibgnachaaPutBeg
import Derived.Test.YtbkpjjibgnachaaItems
namespace Go.Proofs.Ytbkpjjibgnachaa
open Go.RowKit

theorem begS_cut (k : ByteArray) (s : Int) (d more : List UInt8) (m : Nat) (h1 : k.size ≤ 200) (h4 : d.length ≤ 1048576) (hm : m < 16 + k.size + d.length) : begS ((putL k s d ++ more).take m) = none := by
  have hk : k.data.toList.length = k.size := Array.length_toList
  have e0 : putL k s d ++ more = bitsL k.size 4 ++ (k.data.toList ++ (bitsL s.toNat 8 ++ (bitsL d.length 4 ++ (d ++ more)))) := by
    unfold putL
    simp only [List.flatten_cons, List.flatten_nil, List.append_nil, List.append_assoc]
  have hl : (putL k s d ++ more).length = 16 + k.size + d.length + more.length := by rw [List.length_append, putL_len]
  have hlm : ((putL k s d ++ more).take m).length = m := by rw [List.length_take, hl]; omega
  have a1 : (putL k s d ++ more).take 4 = bitsL k.size 4 := by rw [e0, List.take_left' (bitsL_len _ _)]
  have b1 : (putL k s d ++ more).drop 4 = k.data.toList ++ (bitsL s.toNat 8 ++ (bitsL d.length 4 ++ (d ++ more))) := by rw [e0, List.drop_left' (bitsL_len _ _)]
  have b2 : (putL k s d ++ more).drop (4 + k.size) = bitsL s.toNat 8 ++ (bitsL d.length 4 ++ (d ++ more)) := by rw [← List.drop_drop, b1, List.drop_left' hk]
  have b3 : (putL k s d ++ more).drop (12 + k.size) = bitsL d.length 4 ++ (d ++ more) := by
    rw [show 12 + k.size = (4 + k.size) + 8 by omega, ← List.drop_drop, b2, List.drop_left' (bitsL_len _ _)]
  have n1 : numL (bitsL k.size 4) = k.size := numL_bitsL 4 _ (Nat.lt_of_le_of_lt h1 (by decide))
  have n3 : numL (bitsL d.length 4) = d.length := numL_bitsL 4 _ (Nat.lt_of_le_of_lt h4 (by decide))
  by_cases g : m < 16
  · exact begS_none _ (.inl (by rw [hlm]; exact g))
  · have t4 : numL (((putL k s d ++ more).take m).take 4) = k.size := by rw [List.take_take, Nat.min_eq_left (by omega), a1, n1]
    by_cases g2 : m < 16 + k.size
    · exact begS_none _ (.inr (.inr (.inl (by rw [hlm, t4]; exact g2))))
    · refine begS_none _ (.inr (.inr (.inr (.inr (.inr ?_)))))
      rw [t4, hlm, List.drop_take, b3, List.take_take, Nat.min_eq_left (by omega), List.take_left' (bitsL_len _ _), n3]
      omega
/-- An item's data. -/
noncomputable def datI (w : World) (x : It) : List UInt8 := by
  classical exact if h : ∃ y, DatI w x y then h.choose else []
theorem datI_spec {w : World} {x : It} (h : ∃ y, DatI w x y) : DatI w x (datI w x) := by
  unfold datI
  rw [dif_pos h]
  exact h.choose_spec
noncomputable def encI (w : World) (x : It) : List UInt8 := putL x.k x.s (datI w x)
noncomputable def preI (w : World) (L : List It) (i : Nat) : List UInt8 := ((L.take i).map (encI w)).flatten
theorem preI_zero (w : World) (L : List It) : preI w L 0 = [] := rfl
theorem preI_succ (w : World) (L : List It) (i : Nat) (h : i < L.length) : preI w L (i + 1) = preI w L i ++ encI w L[i] := by
  unfold preI
  rw [List.take_succ_eq_append_getElem h, List.map_append, List.flatten_append]
  simp only [List.map_cons, List.map_nil, List.flatten_cons, List.flatten_nil, List.append_nil]
theorem encI_len {w : World} {x : It} (h : ∃ y, DatI w x y) : (encI w x).length = 16 + x.k.size + x.n := by
  unfold encI
  rw [putL_len, (datI_spec h).1]
theorem preI_split (w : World) (L : List It) (i : Nat) (h : i < L.length) : ∃ more, preI w L L.length = preI w L i ++ (encI w L[i] ++ more) := by
  refine ⟨((L.drop (i + 1)).map (encI w)).flatten, ?_⟩
  have e : L = L.take i ++ L[i] :: L.drop (i + 1) := by
    rw [← List.drop_eq_getElem_cons h, List.take_append_drop]
  unfold preI
  rw [List.take_length]
  conv => lhs; rw [e]
  rw [List.map_append, List.flatten_append, List.map_cons, List.flatten_cons]
/-- Where the items end. -/
noncomputable def endsI (w : World) (L : List It) (i : Nat) : List Int := (List.range i).map fun j => ((preI w L (j + 1)).length : Int)
theorem endsI_zero (w : World) (L : List It) : endsI w L 0 = [] := rfl
theorem endsI_succ (w : World) (L : List It) (i : Nat) : endsI w L (i + 1) = endsI w L i ++ [((preI w L (i + 1)).length : Int)] := by
  unfold endsI
  rw [List.range_succ, List.map_append]
  rfl
theorem endsI_len (w : World) (L : List It) (i : Nat) : (endsI w L i).length = i := by simp [endsI]
theorem endsI_get (w : World) (L : List It) (n i : Nat) (h : i < n) : ((endsI w L n).map (Value.int .i64))[i]? = some (.int .i64 ((preI w L (i + 1)).length : Int)) := by
  unfold endsI
  simp [h]
end Go.Proofs.Ytbkpjjibgnachaa
