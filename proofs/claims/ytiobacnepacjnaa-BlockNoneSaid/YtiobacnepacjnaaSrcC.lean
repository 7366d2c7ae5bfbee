/- A source as a part of memory: its methods' contracts. Conditions: none. -/
import Derived.Test.YtiobacnepacjnaaSrcB
import Derived.Test.YtiobacnepacjnaaRdP
namespace Go.Proofs.Ytiobacnepacjnaa
open Go.RowKit

def srcP (sb : Nat) (l : List UInt8) (place : Nat) : Part where
  at_ w F := SrcIs w F sb l place
  keep h k hd := h.keep k hd
  lt h := by obtain ⟨_, _, _, _, _, _, _, _, _, _, _, _, _, _, h⟩ := h; exact h
/-- A source's bytes, and how much was read, are not too many. -/
def SrcOk (l : List UInt8) (place : Nat) : Prop := place + l.length ≤ 4611686018427387904 ∧ l.length ≤ 140737488351232
section
variable {w0 w : World} {ps : List Part} {sb : Nat} {l : List UInt8} {place : Nat}
theorem SrcIs.more {w' : World} {F : Nat → Prop} (h : SrcIs w' F sb l place) : SrcIs w' (more F w w') sb l place := by
  obtain ⟨A, c, C, cc, ch, t, h1, h2, h3, h4, h5, h6, h7, h8, h9⟩ := h
  have kk : Keep (fun _ => False) w' w' := Keep.refl _ _
  exact ⟨A, c, C, cc, ch, t, h1, h2, h3, h4, h5, h6.keep kk (fun _ _ _ h => h) (fun _ h => .inl h), h7.keep kk (fun _ _ _ h => h) (fun _ h => .inl h), .inl h8, fun k hk => by rcases hk with hk | hk; exact h9 k hk; exact hk.2⟩
theorem St.src (h : St w0 w (srcP sb l place :: ps)) : ∃ F, SrcIs w F sb l place := by
  obtain ⟨F, h1, _⟩ := h.open_
  exact ⟨F, h1⟩
theorem St.src_cells (h : St w0 w (srcP sb l place :: ps)) : ∃ A c, w.cell? ⟨sb, 0, none⟩ = some (.slice A l.length c) ∧ w.cell? ⟨sb, 3, none⟩ = some (.int .i64 place) ∧ RdV w A (bys l) ∧ (A = none → l = []) ∧ l.length ≤ c := by
  obtain ⟨F, A, c, C, cc, ch, t, h1, _, h3, _, _, h6, _⟩ := h.src
  exact ⟨A, c, h1.cell 0, h1.cell 3, h6.rd, fun e => by subst e; have := h6.none_; cases l with | nil => rfl | cons => simp [bys] at this, h3⟩
/-- full's answer, over parts. -/
def FullS (w0 : World) (ps : List Part) (sb : Nat) (l : List UInt8) (place m : Nat) (e : Ending) (w' : World) : Prop := ∃ (A : Option Addr) (c : Nat), e = .returned (.slice A m c) ∧ A.isSome = true ∧ m ≤ c ∧ St w0 w' (rdP A (bys (l.take m)) :: srcP sb (l.drop m) (place + m) :: ps)
theorem St.src_full (h : St w0 w (srcP sb l place :: ps)) (n m : Nat) (hm : m = min n l.length) (h1 : n ≤ 9223372036854775807) (hok : SrcOk l place) :
    Calls Try.prog 22 #[.pointer (some ⟨sb, 0, none⟩), .int .i64 n] w (FullS w0 ps sb l place m) := by
  obtain ⟨F, g1, g2⟩ := h.two
  refine (full_any w F sb l place n g1 h1 hok.1 hok.2).mono ?_
  rintro e w' ⟨A, c, m', hm', rfl, hc, ho, hA, hs, hk⟩
  obtain rfl : m' = m := hm'.trans hm.symm
  have hsb : F sb := by obtain ⟨_, _, _, _, _, _, _, _, _, _, _, _, _, h8, _⟩ := g1; exact h8
  have hkF : Keep F w w' := hk.mono (fun k _ e => by have e2 : k = sb := e; subst e2; exact hsb)
  have h2 := g2 w' (srcP sb (l.drop m') (place + m')) (ownP 5 1 (.slice A m' c) m' (bys (l.take m'))) (fun j => Value.ownBlock (.slice A m' c) = some j) hkF hs ⟨own_weaken ho (Nat.zero_le _), fun _ => Iff.rfl⟩ (fun j hj => own_base ho j hj)
  have h3 := own_rdp h2 m'
  rw [List.take_of_length_le (by have := ho.1; omega)] at h3
  exact ⟨A, c, rfl, hA, hc, h3⟩
set_option maxRecDepth 100000 in
theorem St.src_block_none (h : St w0 w (srcP sb [] place :: ps)) :
    Calls Try.prog 10 #[.pointer (some ⟨sb, 0, none⟩)] w fun e w' => e = .returned (.tuple #[.slice none 0 0, .int .i64 14]) ∧ w = w' := by
  obtain ⟨A, c, c0, _, _, _, _⟩ := h.src_cells
  simp only [List.length_nil] at c0
  clear h
  go_enter Try.func10, Try.ntmps10
  go_wp2_with fail
  go_ret2
  exact ⟨rfl, rfl⟩
/-- So many bytes, read. -/
def GotS (w0 : World) (ps : List Part) (sb : Nat) (l : List UInt8) (place n m : Nat) (e : Ending) (w' : World) : Prop := ∃ (A : Option Addr) (c : Nat), e = .returned (.tuple #[.slice A n c, .int .i64 0]) ∧ A.isSome = true ∧ n ≤ c ∧ St w0 w' (rdP A (bys (l.take n)) :: srcP sb (l.drop m) (place + m) :: ps)
set_option maxRecDepth 100000 in
set_option maxHeartbeats 4000000 in
theorem St.src_block (h : St w0 w (srcP sb l place :: ps)) (hb : 512 ≤ l.length) (hok : SrcOk l place) :
    Calls Try.prog 10 #[.pointer (some ⟨sb, 0, none⟩)] w (GotS w0 ps sb l place 512 512) := by
  obtain ⟨A, c, c0, _, _, _, _⟩ := h.src_cells
  have HS := Lib.hid h
  have HO := Lib.hid hok
  have d1 : ((l.length : Int) == 0) = false := by simp; intro e; rw [e] at hb; simp at hb
  have HB := Lib.hid hb
  clear h hok hb
  go_enter Try.func10, Try.ntmps10
  go_wp2_with fail
  refine (St.src_full HS.out 512 512 (by have := HB.out; omega) (by omega) HO.out).mono ?_
  rintro e w2 ⟨A2, c2, rfl, hA2, hc2, hs2⟩
  have HS2 := Lib.hid (And.intro hA2 (And.intro hc2 hs2))
  clear hA2 hs2 hc2
  go_wp2_with fail
  go_ret2
  exact ⟨A2, c2, rfl, HS2.out⟩
set_option maxRecDepth 100000 in
set_option maxHeartbeats 4000000 in
theorem St.src_block_short (h : St w0 w (srcP sb l place :: ps)) (hne : l ≠ []) (hb : l.length < 512) (hok : SrcOk l place) :
    Calls Try.prog 10 #[.pointer (some ⟨sb, 0, none⟩)] w fun e w' => e = .returned (.tuple #[.slice none 0 0, .int .i64 2]) ∧ St w0 w' (srcP sb [] (place + l.length) :: ps) := by
  obtain ⟨A, c, c0, _, _, _, _⟩ := h.src_cells
  have HS := Lib.hid h
  have HO := Lib.hid hok
  have d1 : ((l.length : Int) == 0) = false := by simp; exact hne
  have HB := Lib.hid hb
  have q1 : (l.length : Int) < 512 := by omega
  clear h hok hb hne
  go_enter Try.func10, Try.ntmps10
  go_wp2_with fail
  refine (St.src_full HS.out 512 l.length (by have := HB.out; omega) (by omega) HO.out).mono ?_
  rintro e w2 ⟨A2, c2, rfl, hA2, _, hs2⟩
  rw [List.drop_length] at hs2
  have HS2 := Lib.hid hs2.tail
  clear hA2 hs2
  go_wp2_with fail
  go_ret2
  exact ⟨rfl, HS2.out⟩
set_option maxRecDepth 100000 in
theorem St.src_body_no (_ : St w0 w (srcP sb l place :: ps)) (n : Int) (hn : ¬ (0 ≤ n ∧ n ≤ 4611686018427387904)) :
    Calls Try.prog 11 #[.pointer (some ⟨sb, 0, none⟩), .int .i64 n] w fun e w' => e = .returned (.tuple #[.slice none 0 0, .int .i64 4]) ∧ w = w' := by
  have hp : padR n = (0, false) := by unfold padR; rw [if_neg hn]
  have HP := Lib.hid hp
  clear hp hn
  go_enter Try.func11, Try.ntmps11
  go_wp2_with (go_at_call 23; refine (pad_c n 0 false _ HP.out).mono ?_; rintro e w' ⟨rfl, rfl⟩)
  go_ret2
  exact ⟨rfl, rfl⟩
/-- To whole blocks. -/
def padN (n : Nat) : Nat := (n + 511) / 512 * 512
theorem padN_ge (n : Nat) : n ≤ padN n := by unfold padN; omega
theorem padR_nat (n : Nat) (h : n ≤ 4611686018427387904) : padR n = ((padN n : Int), true) := by
  unfold padR padN
  rw [if_pos (by omega)]
  exact Prod.ext (by show ((n : Int) + 511) / 512 * 512 = (((n + 511) / 512 * 512 : Nat) : Int); omega) rfl
set_option maxRecDepth 100000 in
set_option maxHeartbeats 4000000 in
theorem St.src_body (h : St w0 w (srcP sb l place :: ps)) (n m : Nat) (z : Int) (hz : z = n) (hm : m = padN n) (hb : m ≤ l.length) (hn : n ≤ 4611686018427387904) (hok : SrcOk l place) :
    Calls Try.prog 11 #[.pointer (some ⟨sb, 0, none⟩), .int .i64 z] w (GotS w0 ps sb l place n m) := by
  subst hz
  have HP : Hid (padR n = ((m : Int), true)) := Lib.hid (by rw [hm]; exact padR_nat n hn)
  have HS := Lib.hid h
  have HO := Lib.hid hok
  have HM : Hid (n ≤ m ∧ m ≤ l.length ∧ n ≤ 4611686018427387904) := Lib.hid ⟨by rw [hm]; exact padN_ge n, hb, hn⟩
  have q1 : (n : Int) ≤ (m : Int) := by have := HM.out.1; omega
  have q2 : (0 : Int) ≤ (n : Int) := by omega
  have d1 : decide ((m : Int) < (m : Int)) = false := decide_eq_false (by omega)
  clear h hok hm hb hn
  go_enter Try.func11, Try.ntmps11
  go_wp2_with fail
  refine (pad_c n m true _ HP.out).mono ?_
  rintro e w' ⟨rfl, rfl⟩
  go_wp2_with fail
  refine (St.src_full HS.out m m (by have := HM.out; omega) (by have := HM.out; have := HO.out.2; omega) HO.out).mono ?_
  rintro e w2 ⟨A2, c2, rfl, hA2, hc2, hs2⟩
  have HS2 := Lib.hid (And.intro hA2 (And.intro hc2 hs2))
  have q3 : (m : Int) ≤ (c2 : Int) := by omega
  clear hA2 hs2 hc2
  cases A2 with
  | none => exact absurd HS2.out.1 (by simp)
  | some ag =>
    go_wp2_with fail
    go_ret2
    have hs := HS2.out.2.2.rdp_take n
    have e : (bys (l.take m)).take n = bys (l.take n) := by
      unfold bys
      rw [← List.map_take, List.take_take, Nat.min_eq_left HM.out.1]
    rw [e] at hs
    exact ⟨some ag, n, rfl, rfl, Nat.le_refl _, hs⟩
set_option maxRecDepth 100000 in
set_option maxHeartbeats 4000000 in
theorem St.src_body_short (h : St w0 w (srcP sb l place :: ps)) (n : Nat) (z : Int) (hz : z = n) (hb : l.length < padN n) (hn : n ≤ 4611686018427387904) (hok : SrcOk l place) :
    Calls Try.prog 11 #[.pointer (some ⟨sb, 0, none⟩), .int .i64 z] w fun e w' => e = .returned (.tuple #[.slice none 0 0, .int .i64 2]) ∧ St w0 w' (srcP sb [] (place + l.length) :: ps) := by
  subst hz
  obtain ⟨m, hm⟩ : ∃ m, m = padN n := ⟨_, rfl⟩
  have HP : Hid (padR n = ((m : Int), true)) := Lib.hid (by rw [hm]; exact padR_nat n hn)
  have HS := Lib.hid h
  have HO := Lib.hid hok
  have HM : Hid (l.length < m ∧ m ≤ 4611686018427388415) := Lib.hid ⟨by rw [hm]; exact hb, by rw [hm]; unfold padN; omega⟩
  have q1 : (l.length : Int) < (m : Int) := by have := HM.out.1; omega
  have q2 : (0 : Int) ≤ (n : Int) := by omega
  clear h hok hm hb hn
  go_enter Try.func11, Try.ntmps11
  go_wp2_with fail
  refine (pad_c n m true _ HP.out).mono ?_
  rintro e w' ⟨rfl, rfl⟩
  go_wp2_with fail
  refine (St.src_full HS.out m l.length (by have := HM.out; omega) (by have := HM.out; omega) HO.out).mono ?_
  rintro e w2 ⟨A2, c2, rfl, hA2, hc2, hs2⟩
  rw [List.drop_length] at hs2
  have HS2 := Lib.hid hs2.tail
  clear hA2 hs2 hc2
  go_wp2_with fail
  go_ret2
  exact ⟨rfl, HS2.out⟩
set_option maxRecDepth 100000 in
theorem St.src_place (h : St w0 w (srcP sb l place :: ps)) :
    Calls Try.prog 14 #[.pointer (some ⟨sb, 0, none⟩)] w fun e w' => e = .returned (.int .i64 place) ∧ w = w' := by
  obtain ⟨A, c, _, c3, _, _, _⟩ := h.src_cells
  clear h
  go_enter Try.func14, Try.ntmps14
  go_wp2_with fail
  go_ret
  exact ⟨rfl, rfl⟩
end
end Go.Proofs.Ytiobacnepacjnaa
