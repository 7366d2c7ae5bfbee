/- What laws 16's walks need: light, answers, runs that are read item by item. Conditions: none. -/
import Derived.Test.YtkglkpcpgdeneaaLaw16
import Derived.Test.YtkglkpcpgdeneaaLight16
import Derived.Test.YtkglkpcpgdeneaaRowIt
namespace Go.Proofs.Ytkglkpcpgdeneaa
open Go.RowKit
set_option linter.unusedVariables false
set_option linter.unusedSimpArgs false

def ItSmall (x : It) : Prop := x.k.size + x.n ≤ 281474976710656
theorem ItOk.small2 {w : World} {x : It} (h : ItOk w x) : ItSmall x := by
  obtain ⟨⟨d, h1⟩, h2, h3⟩ := h
  have := h1.2.1
  unfold ItSmall
  omega
noncomputable def datI (w : World) (x : It) : List UInt8 := by
  classical exact if h : ∃ y, DatI w x y then h.choose else []
theorem datI_spec {w : World} {x : It} (h : ∃ y, DatI w x y) : DatI w x (datI w x) := by
  unfold datI
  rw [dif_pos h]
  exact h.choose_spec
/-- The items that came in, with their bytes. -/
noncomputable def xsI (w : World) (L : List It) : List ItX := L.map fun x => (x, datI w x)
theorem xsI_fst (w : World) (L : List It) : (xsI w L).map Prod.fst = L := by rw [xsI, List.map_map]; exact List.map_id L
theorem xsI_len (w : World) (L : List It) : (xsI w L).length = L.length := by rw [xsI, List.length_map]
theorem xsI_dat {w : World} {L : List It} (hx : ∀ x ∈ L, ItOk w x) : ∀ x ∈ xsI w L, DatI w x.1 x.2 ∧ x.2.length ≤ 140737488355328 := by
  intro x hx'
  rw [xsI] at hx'
  obtain ⟨y, hy, rfl⟩ := List.mem_map.1 hx'
  have h1 := datI_spec (hx y hy).1
  refine ⟨h1, ?_⟩
  have h2 := h1.1
  have h3 := h1.2.1
  have h4 := (hx y hy).2.2
  simp only at h2 h3 ⊢
  omega
theorem sumK_wsum : ∀ (X : List ItX), (∀ x ∈ X, x.1.n = x.2.length) → sumK (X.map keyX) = wsum (X.map Prod.fst) + 16 * X.length
  | [], _ => rfl
  | x :: r, h => by
    have ih := sumK_wsum r (fun y hy => h y (List.mem_cons_of_mem _ hy))
    have h1 := h x List.mem_cons_self
    rw [List.map_cons, sumK_cons, ih, List.map_cons]
    show lenK (keyX x) + _ = ((x.1 :: r.map Prod.fst).map fun x => x.k.size + x.n).sum + _
    rw [List.map_cons, List.sum_cons, List.length_cons]
    unfold lenK keyX wsum
    simp only
    omega
section
variable {w0 w : World} {l : List Part}
theorem St.ans16 (h : St w0 w l) : Calls Try.prog 26 #[] w fun e w' => e = .returned (.bool true) ∧ St w0 w' l :=
  (answers16 w).mono fun _ _ ⟨h1, h2⟩ => ⟨h1, h.later h2⟩
theorem St.light16 (h : St w0 w l) (a : Option Addr) (n c : Nat) (L : List It) (b : Bool) (hn : n = L.length) (hr : RdI w a L) (hl : L.length ≤ 4611686018427387904) (hs : ∀ x ∈ L, ItSmall x) (hb : decide (L.length ≤ 200 ∧ wsum L ≤ 100000) = b) :
    Calls Try.prog 25 #[.slice a n c] w fun e w' => e = .returned (.bool b) ∧ St w0 w' l := by
  subst hb hn
  exact (Go.Proofs.Ytkglkpcpgdeneaa.light16 a c L w hr hl hs).mono fun _ _ ⟨h1, h2⟩ => ⟨h1, h.later h2⟩
end
/-- The bytes of items, one behind the other. -/
def flatK (K : List K3i) : List UInt8 := (K.map encK).flatten
theorem flatK_app (K M : List K3i) : flatK (K ++ M) = flatK K ++ flatK M := by simp [flatK]
theorem flatK_cons (x : K3i) (M : List K3i) : flatK (x :: M) = encK x ++ flatK M := by simp [flatK]
theorem flatK_one (x : K3i) : flatK [x] = encK x := by simp [flatK]
theorem flatK_len (K : List K3i) : (flatK K).length = sumK K := by
  induction K with
  | nil => rfl
  | cons x r ih => rw [flatK_cons, List.length_append, ih, encK_len, sumK_cons]
def offK (K : List K3i) (i : Nat) : Nat := sumK (K.take i)
theorem offK_zero (K : List K3i) : offK K 0 = 0 := rfl
theorem offK_succ {K : List K3i} {i : Nat} {x : K3i} (h : K[i]? = some x) : offK K (i + 1) = offK K i + lenK x := by
  obtain ⟨hi, rfl⟩ := List.getElem?_eq_some_iff.1 h
  unfold offK
  rw [List.take_succ_eq_append_getElem hi, sumK_app]
  simp [sumK]
theorem offK_le (K : List K3i) (i : Nat) : offK K i ≤ sumK K := by
  have := sumK_app (K.take i) (K.drop i)
  rw [List.take_append_drop] at this
  unfold offK
  omega
theorem mayK_len {x : K3i} (h : mayK x = true) : lenK x ≤ 1048792 := by
  have h1 := may_parts h
  unfold lenK
  omega
theorem atl_some {S : StoreM} {run : Int} {K : List K3i} (hf : S.find run = some (flatK K)) {i : Nat} {x : K3i} (hi : K[i]? = some x) (hm : mayK x = true) : begS (S.atl run (offK K i)) = some (x.1.data.toList, x.2.1.toNat, x.2.2, lenK x) := by
  obtain ⟨hlt, rfl⟩ := List.getElem?_eq_some_iff.1 hi
  unfold StoreM.atl
  rw [hf, Option.getD_some]
  have e1 : flatK K = flatK (K.take i) ++ (encK K[i] ++ flatK (K.drop (i + 1))) := by
    rw [← flatK_cons, ← flatK_app, ← List.drop_eq_getElem_cons hlt, List.take_append_drop]
  have e2 : offK K i = (flatK (K.take i)).length := (flatK_len _).symm
  rw [e1, e2, List.drop_left, List.take_append, List.take_of_length_le (by rw [encK_len]; exact mayK_len hm)]
  obtain ⟨h1, h2, h3, h4⟩ := may_parts hm
  have := begS_put K[i].1 K[i].2.1 K[i].2.2 ((flatK (K.drop (i + 1))).take (1048792 - (encK K[i]).length)) h1 h2 h3 h4
  exact this
theorem atl_end {S : StoreM} {run : Int} {K : List K3i} (hf : S.find run = some (flatK K)) : begS (S.atl run (offK K K.length)) = none := by
  unfold StoreM.atl offK
  rw [hf, Option.getD_some, List.take_length, ← flatK_len, List.drop_length]
  rfl
theorem atl_no {S : StoreM} {run : Int} {a : Nat} (hf : S.find run = none) : begS (S.atl run a) = none := by
  unfold StoreM.atl
  rw [hf, Option.getD_none, List.drop_nil]
  rfl
section
variable {w0 w : World} {l : List Part} {cb sb : Nat} {S : StoreM} {run : Int} {a : Nat}
/-- One item more of a run. -/
theorem St.cur_item (h : St w0 w (blkP cb 98 (curC (some ⟨sb, 0, none⟩) run a) :: storeP sb S :: l)) {K : List K3i} (hf : S.find run = some (flatK K)) {i : Nat} (hai : a = offK K i) {x : K3i} (hi : K[i]? = some x) (hm : mayK x = true) (hs : sumK K ≤ 1000000000) (n : Nat) (hn : n = x.2.2.length) :
    Calls Try.prog 32 #[.pointer (some ⟨cb, 0, none⟩)] w fun e w' => ∃ A c, e = .returned (.tuple #[.agg #[.string x.1, .int .i64 x.2.1, .slice A n c], .bool true]) ∧ n ≤ c ∧ St w0 w' (ownP 5 1 (.slice A n c) n (bys x.2.2) :: blkP cb 98 (curC (some ⟨sb, 0, none⟩) run ((offK K (i + 1) : Nat) : Int)) :: storeP sb S :: l) := by
  subst hai hn
  have h0 := offK_le K i
  refine (h.cur_next (fun bs hb => ?_) (fun bs hb => ?_) (by omega)).mono ?_
  · rw [hf] at hb; obtain rfl := Option.some.inj hb; rw [flatK_len]; exact h0
  · rw [hf] at hb; obtain rfl := Option.some.inj hb; rw [flatK_len]; exact hs
  intro e w' hn
  unfold NextS NextG at hn
  rw [atl_some hf hi hm] at hn
  obtain ⟨A, c, rfl, hc, hs'⟩ := hn
  refine ⟨A, c, ?_, hc, ?_⟩
  · rw [str_list, Int.toNat_of_nonneg (may_parts hm).2.1]
  · rw [offK_succ hi]; exact hs'
theorem St.cur_stop (h : St w0 w (blkP cb 98 (curC (some ⟨sb, 0, none⟩) run a) :: storeP sb S :: l)) (hb : begS (S.atl run a) = none) (ha : ∀ bs, S.find run = some bs → a ≤ bs.length) (hl : ∀ bs, S.find run = some bs → bs.length ≤ 1000000000) (ha2 : a ≤ 1000000000) :
    Calls Try.prog 32 #[.pointer (some ⟨cb, 0, none⟩)] w fun e w' => e = .returned (.tuple #[.agg #[.string ⟨#[]⟩, .int .i64 0, .slice none 0 0], .bool false]) ∧ St w0 w' (blkP cb 98 (curC (some ⟨sb, 0, none⟩) run a) :: storeP sb S :: l) := by
  refine (h.cur_next ha hl ha2).mono ?_
  intro e w' hn
  unfold NextS NextG at hn
  rw [hb] at hn
  exact hn
end
end Go.Proofs.Ytkglkpcpgdeneaa
