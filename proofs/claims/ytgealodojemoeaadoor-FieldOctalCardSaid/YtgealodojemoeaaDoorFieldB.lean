/- field: kept, write. (alias Tryd) Conditions: none. -/
import Derived.Test.YtgealodojemoeaaDoorFieldA
namespace Go.Proofs.YtgealodojemoeaaDoor
open Go.RowKit
set_option linter.unusedVariables false

theorem field_kept (w : World) (n : Int) (b : Bool) :
    Calls Tryd.prog 13 #[.int .i64 n, .bool b] w fun e w' => e = .returned (.tuple #[.int .i64 (if b then n else 0), .bool b]) ∧ w = w' := by
  cases b
  · go_enter Tryd.func13, Tryd.ntmps13
    go_wp2_with fail
    go_ret2
    exact ⟨rfl, rfl⟩
  · go_enter Tryd.func13, Tryd.ntmps13
    go_wp2_with fail
    go_ret2
    exact ⟨rfl, rfl⟩
/-- A number's digits, m of them. -/
def digL (base zr n m : Nat) : List UInt8 := (List.range m).map fun j => UInt8.ofNat (zr + n / base ^ (m - 1 - j) % base)
theorem digL_len (base zr n m : Nat) : (digL base zr n m).length = m := by simp [digL]
theorem digL_drop (base zr n m k : Nat) (h : k < m) : bys ((digL base zr n m).drop k) = .int .u8 (((zr + n / base ^ (m - 1 - k) % base) % 256 : Nat) : Int) :: bys ((digL base zr n m).drop (k + 1)) := by
  have hk : k < (digL base zr n m).length := by rw [digL_len]; exact h
  rw [List.drop_eq_getElem_cons hk]
  have e : (digL base zr n m)[k] = UInt8.ofNat (zr + n / base ^ (m - 1 - k) % base) := by simp [digL]
  rw [e]
  show Value.int .u8 ((UInt8.ofNat _).toNat : Int) :: _ = _
  rw [UInt8.toNat_ofNat']
  rfl
/-- Cells of which some have been written. -/
theorem set_mid {cs : List Value} {o k m : Nat} (hk : k < m) (hm : o + m ≤ cs.length) (B : List Value) (hB : B.length = m - (k + 1)) (v : Value) :
    (cs.take (o + (k + 1)) ++ B ++ cs.drop (o + m)).set (o + k) v = cs.take (o + k) ++ (v :: B) ++ cs.drop (o + m) := by
  rw [show o + (k + 1) = (o + k) + 1 by omega, List.take_succ_eq_append_getElem (show o + k < cs.length by omega)]
  rw [List.append_assoc, List.append_assoc, List.set_append_right _ _ (by simp; omega)]
  have : o + k - (cs.take (o + k)).length = 0 := by simp; omega
  rw [this, List.append_assoc]; rfl
set_option maxRecDepth 100000 in
set_option maxHeartbeats 4000000 in
theorem field_write (w : World) (g o m c : Nat) (T : TypeId) (cs : List Value) (n base zr : Nat) (hb : (base = 8 ∧ zr = 48) ∨ (base = 256 ∧ zr = 0)) (hB : Blk w g T cs) (hm : o + m ≤ cs.length) (hm2 : m ≤ 1000) (hn : n ≤ 4611686018427387904) :
    Calls Tryd.prog 19 #[.int .i64 n, .int .i64 base, .slice (some ⟨g, o, none⟩) m c, .int .u8 zr] w fun e w' => e = .returned (.bool (decide (n / base ^ m = 0))) ∧ Blk w' g T (cs.take o ++ bys (digL base zr n m) ++ cs.drop (o + m)) ∧ Keep (fun k => k = g) w w' := by
  have HB := Lib.hid (And.intro hB (And.intro hm hm2))
  have HBB := Lib.hid hb
  have q0 : (m : Int) ≤ 1000 := by omega
  have q1 : ¬ (base : Int) = 0 := by omega
  have q2 : (0 : Int) < (base : Int) := by omega
  have q3 : (n : Int) ≤ 4611686018427387904 := by omega
  have e0 : IntKind.i64.wrap ((m : Int) - 1) = (m : Int) - 1 := IntWalk.i64_in _ (by omega)
  clear hB hm hm2 hb hn
  go_enter Tryd.func19, Tryd.ntmps19
  go_wp2_with fail
  go_loopw [0, 9] (fun v0 v9 wr => ∃ k : Nat, k ≤ m ∧ v0 = .int .i64 ((n / base ^ (m - k) : Nat) : Int) ∧ v9 = .int .i64 ((k : Int) - 1) ∧ Hid (Blk wr g T (cs.take (o + k) ++ bys ((digL base zr n m).drop k) ++ cs.drop (o + m))) ∧ Hid (Keep (fun k => k = g) w wr)) (fun _ v _ => (intOf v + 1).toNat)
  case atStart =>
    refine ⟨m, Nat.le_refl _, by simp, rfl, Lib.hid ?_, Lib.hid (Keep.refl _ w)⟩
    rw [List.drop_of_length_le (l := digL base zr n m) (by rw [digL_len]; exact Nat.le_refl _)]
    have : cs.take (o + m) ++ bys [] ++ cs.drop (o + m) = cs := by simp [bys]
    rw [this]
    exact HB.out.1
  case round =>
    clear e0
    obtain ⟨k, hk, rfl, rfl, HBR, HKR⟩ := hrel
    by_cases hlt : 0 < k
    · obtain ⟨p, rfl⟩ : ∃ p, k = p + 1 := ⟨k - 1, by omega⟩
      have q4 : (0 : Int) ≤ p := by omega
      have q5 : (p : Int) < m := by omega
      obtain ⟨q, hq⟩ : ∃ q, q = n / base ^ (m - (p + 1)) := ⟨_, rfl⟩
      have hqn : q ≤ n := by rw [hq]; exact Nat.div_le_self _ _
      have q6 : (q : Int) ≤ 4611686018427387904 := by omega
      have HQ := Lib.hid hq
      rw [← hq]
      have e1 : ((p + 1 : Nat) : Int) - 1 = (p : Int) := by omega
      rw [e1]
      obtain ⟨dg, hdg⟩ : ∃ dg, dg = q % base := ⟨_, rfl⟩
      obtain ⟨q', hq'⟩ : ∃ q', q' = q / base := ⟨_, rfl⟩
      obtain ⟨zd, hzd⟩ : ∃ zd, zd = zr + dg := ⟨_, rfl⟩
      have hdb : dg < base := by rw [hdg]; exact Nat.mod_lt _ (by omega)
      have hb2 := HBB.out
      have t1 : (q : Int).tmod (base : Int) = (dg : Int) := by rw [hdg]; rfl
      have t2 : (q : Int) % (base : Int) = (dg : Int) := by rw [hdg]; rfl
      have t3 : (q : Int).tdiv (base : Int) = (q' : Int) := by rw [hq']; rfl
      have t4 : (q : Int) / (base : Int) = (q' : Int) := by rw [hq']; rfl
      have t5 : IntKind.u8.wrap (dg : Int) = (dg : Int) := by rw [IntKind.wrap_u8]; omega
      have t6 : IntKind.u8.wrap ((zr : Int) + (dg : Int)) = (zd : Int) := by rw [IntKind.wrap_u8]; omega
      have hqq : q' ≤ q := by rw [hq']; exact Nat.div_le_self _ _
      have t7 : IntKind.i64.wrap (q' : Int) = (q' : Int) := IntWalk.i64_in _ (by omega)
      clear hqq
      have x0 : ∃ u, wr.cell? ⟨g, o + p, none⟩ = some u := by
        rw [HBR.out.cell]
        exact ⟨_, List.getElem?_eq_getElem (by have := HB.out.2.1; simp [bys, digL_len]; omega)⟩
      obtain ⟨u, x0⟩ := x0
      have f0 := HBR.out.free (o + p)
      have HZ := Lib.hid (And.intro hzd (And.intro hdg (And.intro hq' (And.intro hdb hlt))))
      clear hq hqn e1 hdg hq' hzd hdb hb2 hlt
      go_wp2_with fail
      go_roundw
      case rel =>
        refine ⟨p, by omega, ?_, rfl, Lib.hid ?_, Lib.hid (HKR.out.setCell (p := ⟨g, o + p, none⟩) (.inl rfl) _)⟩
        · have h1 : n / base ^ (m - p) = q' := by
            rw [HZ.out.2.2.1, HQ.out, Nat.div_div_eq_div_mul, ← Nat.pow_succ]
            congr 2; omega
          rw [h1]
        · have h1 := HBR.out.set (o + p) (.int .u8 (zd : Int))
          rw [set_mid (by omega) HB.out.2.1 _ (by simp [bys, digL_len])] at h1
          rw [digL_drop _ _ _ _ p (by omega), show m - 1 - p = m - (p + 1) by omega, ← HQ.out, ← HZ.out.2.1, ← HZ.out.1]
          rw [Nat.mod_eq_of_lt (show zd < 256 by have h2 := HZ.out; have h3 := HBB.out; omega)]
          exact h1
      case measure => simp [intOf]
    · obtain rfl : k = 0 := by omega
      have h1 := HBR.out
      rw [Nat.sub_zero, Nat.add_zero, List.drop_zero] at *
      have HF := Lib.hid h1
      clear h1 HBR
      obtain ⟨q, hq⟩ : ∃ q, q = n / base ^ m := ⟨_, rfl⟩
      rw [← hq]
      have HQ0 := Lib.hid hq
      clear hq
      go_wp2_with fail
      go_ret
      refine ⟨?_, HF.out, HKR.out⟩
      show Ending.returned (.bool ((q : Int) == 0)) = _
      rw [← HQ0.out]
      congr 2
      rw [Bool.eq_iff_iff]
      simp
end Go.Proofs.YtgealodojemoeaaDoor
