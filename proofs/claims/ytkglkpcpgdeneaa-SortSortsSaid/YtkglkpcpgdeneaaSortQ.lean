/- How many runs and merges; law 17's bytes. Conditions: none. -/
import Derived.Test.YtkglkpcpgdeneaaSort17
namespace Go.Proofs.Ytkglkpcpgdeneaa
open Go.RowKit
set_option linter.unusedVariables false
set_option linter.unusedSimpArgs false

/-- How many rows of b hold n. -/
def cntN (b n : Nat) : Nat := (n + b - 1) / b
theorem cntN_zero (b : Nat) (hb : 0 < b) : cntN b 0 = 0 := by
  unfold cntN
  exact Nat.div_eq_of_lt (by omega)
theorem cntN_small {b n : Nat} (h0 : 0 < n) (hn : n ≤ b) : cntN b n = 1 := by
  unfold cntN
  have e : n + b - 1 = (n - 1) + b := by omega
  rw [e, Nat.add_div_right _ (by omega), Nat.div_eq_of_lt (by omega)]
theorem cntN_step {b n : Nat} (hb : 0 < b) (h0 : 0 < n) : cntN b n = cntN b (n - b) + 1 := by
  rcases Nat.lt_or_ge n b with h | h
  · rw [cntN_small h0 (by omega), show n - b = 0 by omega, cntN_zero b hb]
  · unfold cntN
    have e : n + b - 1 = (n - b + b - 1) + b := by omega
    rw [e, Nat.add_div_right _ hb]
theorem chunks_cnt (b : Nat) (hb : 0 < b) : ∀ (r held : List K3i), held.length < b → (chunks b held r).length = cntN b (held.length + r.length)
  | [], held, h => by
    rw [chunks]
    split
    · rename_i h0
      rw [h0]
      exact (cntN_zero b hb).symm
    · rename_i h0
      have := List.length_pos_iff.2 h0
      exact (cntN_small (by simpa using this) (by simp; omega)).symm
  | x :: r, held, h => by
    rw [chunks]
    split
    · rename_i hlt
      rw [chunks_cnt b hb r _ (by simp; omega)]
      congr 1
      simp
      omega
    · rename_i hge
      have e : held.length + 1 = b := by omega
      rw [List.length_cons, chunks_cnt b hb r [] (by simpa using hb), cntN_step (n := held.length + (x :: r).length) hb (by rw [List.length_cons]; omega)]
      congr 2
      simp
      omega
/-- How many merges. -/
def mcnt : Nat → Nat → Nat → Nat
  | 0, _, _ => 0
  | f + 1, fan, k => if fan < k then mcnt f fan (k - fan + 1) + 1 else 0
theorem tailK_cnt (fan : Nat) : ∀ (fuel : Nat) (Ks : List (List K3i)), (tailK fuel fan Ks).2 = mcnt fuel fan Ks.length
  | 0, Ks => rfl
  | f + 1, Ks => by
    rw [tailK, mcnt]
    split
    · simp only
      rw [tailK_cnt fan f]
      congr 2
      unfold foldK
      rw [List.length_append, List.length_drop]
      rfl
    · rfl
theorem mcnt_end {fan k : Nat} (h : ¬ fan < k) (f : Nat) : mcnt f fan k = 0 := by
  cases f with
  | zero => rfl
  | succ f => rw [mcnt, if_neg h]
section
variable {w0 w : World} {l : List Part}
set_option maxRecDepth 100000 in
set_option maxHeartbeats 4000000 in
theorem St.bytes17 (h : St w0 w l) (a : Option Addr) (n c : Nat) (X : List ItX) (hn : n = X.length) (hsrc : ∀ u, St w0 u l → RdI u a (X.map Prod.fst) ∧ ∀ x ∈ X, DatI u x.1 x.2) (hmay : ∀ x ∈ X, mayK (keyX x) = true) (hl : X.length ≤ 200) (hs : sumK (X.map keyX) ≤ 103200) :
    Calls Try.prog 23 #[.slice a n c] w fun e w' => e = .returned (.int .i64 (sumK (X.map keyX) : Nat)) ∧ St w0 w' l := by
  subst hn
  have q0 : (X.length : Int) ≤ 200 := by omega
  have HH := Lib.hid (And.intro hsrc (And.intro hmay (And.intro hl hs)))
  have HS := Lib.hid h
  clear h hsrc hmay hl hs
  go_enter Try.func23, Try.ntmps23
  go_upto_region 3 with fail
  go_loopw [3, 4] (fun v3 v4 wr => ∃ i : Nat, i ≤ X.length ∧ v3 = .int .i64 (offK (X.map keyX) i : Nat) ∧ v4 = .int .i64 i ∧ Hid (St w0 wr l)) (fun _ v4 _ => X.length - (intOf v4).toNat)
  case atStart => exact ⟨0, Nat.zero_le _, rfl, rfl, HS⟩
  case round =>
    clear HS
    obtain ⟨i, hi, rfl, rfl, HS⟩ := hrel
    have q5 : ((offK (X.map keyX) i : Nat) : Int) ≤ 103200 := by have := offK_le (X.map keyX) i; have := HH.out.2.2.2; omega
    by_cases hlt : i < X.length
    · have q1 : (i : Int) < (X.length : Int) := by omega
      obtain ⟨x, hx⟩ : ∃ x, X[i]? = some x := ⟨_, List.getElem?_eq_getElem hlt⟩
      have hxm : x ∈ X := List.mem_iff_getElem?.2 ⟨i, hx⟩
      obtain ⟨ba, o, rfl, d0, d1, d2⟩ := rdI_cells (HH.out.1 wr HS.out).1 (i := i) (x := x.1) (by rw [List.getElem?_map, hx]; rfl)
      have hoff := offK_succ (K := X.map keyX) (i := i) (x := keyX x) (by rw [List.getElem?_map, hx]; rfl)
      have hd := (HH.out.1 wr HS.out).2 x hxm
      have hm : mayI x.1.k x.1.s x.1.n = true := by rw [hd.1]; exact HH.out.2.1 x hxm
      have hN : itN x.1 = lenK (keyX x) := by unfold itN lenK keyX; simp only; rw [hd.1]
      have q6 : ((lenK (keyX x) : Nat) : Int) ≤ 103200 := by have := offK_le (X.map keyX) (i + 1); have := HH.out.2.2.2; omega
      have HD := Lib.hid (And.intro hd (And.intro hm (And.intro hN (And.intro hoff hlt))))
      clear hx hxm hoff hd hm hN hlt hi
      obtain ⟨⟨k, s, A1, n1, c1⟩, dd⟩ := x
      go_wp2_with fail
      refine (St.ref_bytes HS.out ⟨k, s, A1, n1, c1⟩ dd _ _ HD.out.2.2.1.symm rfl HD.out.1 HD.out.2.1).mono ?_
      rintro e w5 ⟨A5, c5, rfl, _, hs5⟩
      have HS5 := Lib.hid hs5.tail
      clear hs5 HS d0 d1 d2
      go_wp2_with fail
      go_roundw
      case rel => exact ⟨i + 1, HD.out.2.2.2.2, by rw [HD.out.2.2.2.1]; go_num, by go_num, HS5⟩
      case measure => have := HD.out.2.2.2.2; simp [intOf]; omega
    · have q1 : ¬ (i : Int) < (X.length : Int) := by omega
      have hi2 : offK (X.map keyX) i = sumK (X.map keyX) := by
        unfold offK
        rw [List.take_of_length_le (by rw [List.length_map]; omega)]
      have HI := Lib.hid hi2
      clear hlt hi hi2
      go_wp2_with fail
      go_ret
      exact ⟨by rw [HI.out]; rfl, HS.out⟩
end
end Go.Proofs.Ytkglkpcpgdeneaa
