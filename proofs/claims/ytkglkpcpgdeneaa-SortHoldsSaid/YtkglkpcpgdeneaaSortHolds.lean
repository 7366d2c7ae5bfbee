/- SortHolds. Conditions: none. -/
import Derived.Test.YtkglkpcpgdeneaaLaws17
namespace Go.Proofs.Ytkglkpcpgdeneaa
open Go.RowKit
set_option linter.unusedVariables false
set_option linter.unusedSimpArgs false

set_option maxRecDepth 100000 in
set_option maxHeartbeats 8000000 in
theorem sortHolds_small (w : World) (a : Option Addr) (c : Nat) (L : List It) (zb zf : Nat) (hzb : zb ≤ 255) (hzf : zf ≤ 255) (hr : RdI w a L) (hx : ∀ x ∈ L, ItOk w x) (hl : L.length ≤ 200 ∧ wsum L ≤ 100000) :
    Calls Try.prog 9 #[.slice a L.length c, .int .u8 zb, .int .u8 zf] w fun e w' => e = .returned (.bool true) ∧ Keep (fun b => w.heap.size ≤ b) w w' := by
  obtain ⟨X, hX⟩ : ∃ X, X = xsI w L := ⟨_, rfl⟩
  have HI : Hid (InI w a L X) := Lib.hid (by rw [hX]; exact InI.mk' hr hx hl)
  have HO := Lib.hid (And.intro hx hl)
  obtain ⟨n, hn⟩ : ∃ n, n = L.length := ⟨_, rfl⟩
  have HN := Lib.hid hn
  have q0 : (n : Int) ≤ 200 := by omega
  rw [← hn]
  obtain ⟨r, hrr⟩ : ∃ r, r = zb % 20 := ⟨_, rfl⟩
  obtain ⟨k, hk⟩ : ∃ k, k = r + 2 := ⟨_, rfl⟩
  have t1 : (zb : Int).tmod 20 = (r : Int) := by rw [hrr]; rfl
  have t2 : (zb : Int) % 20 = (r : Int) := by rw [hrr]; rfl
  have t3 : IntKind.u8.wrap (r : Int) = (r : Int) := by rw [IntKind.wrap_u8]; omega
  have t4 : IntKind.i64.wrap ((r : Int) + 2) = (k : Int) := by rw [IntWalk.i64_in _ (by omega)]; omega
  have t5 : (r : Int) + 2 = (k : Int) := by omega
  obtain ⟨r', hrr'⟩ : ∃ r', r' = zf % 20 := ⟨_, rfl⟩
  obtain ⟨f, hf⟩ : ∃ f, f = r' + 2 := ⟨_, rfl⟩
  have s1 : (zf : Int).tmod 20 = (r' : Int) := by rw [hrr']; rfl
  have s2 : (zf : Int) % 20 = (r' : Int) := by rw [hrr']; rfl
  have s3 : IntKind.u8.wrap (r' : Int) = (r' : Int) := by rw [IntKind.wrap_u8]; omega
  have s4 : IntKind.i64.wrap ((r' : Int) + 2) = (f : Int) := by rw [IntWalk.i64_in _ (by omega)]; omega
  have s5 : (r' : Int) + 2 = (f : Int) := by omega
  have q1 : (zb : Int) ≤ 255 := by omega
  have q2 : (r : Int) < 20 := by omega
  have q1' : (zf : Int) ≤ 255 := by omega
  have q2' : (r' : Int) < 20 := by omega
  have q3 : (k : Int) ≤ 21 := by omega
  have q4 : (f : Int) ≤ 21 := by omega
  have HK : Hid (2 ≤ k ∧ 2 ≤ f) := Lib.hid (by omega)
  clear hr hx hl hX hn hrr hk hzb hzf hrr' hf
  go_enter Try.func9, Try.ntmps9
  go_wp2_with fail
  refine (St.light17 (St.start w) a n c L true HN.out HI.out.rd (by have := HI.out.few; omega) (fun x hx => (HO.out.1 x hx).small2) (decide_eq_true HO.out.2)).mono ?_
  rintro e w1 ⟨rfl, hs1⟩
  have HS1 := Lib.hid hs1
  clear hs1 t1 t2 t3 t4 t5 s1 s2 s3 s4 s5 q1 q2 q1' q2'
  go_wp2_with fail
  refine (St.unlike17 HS1.out a n c L HN.out (fun u hu => HI.out.rd.keep hu.keep) HI.out.few).mono ?_
  rintro e w2 ⟨ub, rfl, hub, hs2⟩
  have HS2 := Lib.hid hs2
  clear hs2 HS1
  cases ub with
  | false =>
    clear hub
    go_wp2_with fail
    refine (St.ans17 HS2.out).mono ?_
    rintro e w3 ⟨rfl, hs3⟩
    have HS3 := Lib.hid hs3
    clear hs3 HS2
    go_wp2_with fail
    go_ret
    exact ⟨rfl, HS3.out.keep⟩
  | true =>
    have HU := Lib.hid ((hub rfl).keys HI.out.fst (fun x hx => (HI.out.dat x hx).1))
    clear hub
    go_wp2_with fail
    refine (St.store_new HS2.out 16777216 none 0 0 [] (by omega) (RdV.nil _ _) rfl (fun _ => ⟨rfl, rfl⟩) (by omega)).mono ?_
    rintro e w3 ⟨sb, rfl, hs3⟩
    have HS3 := Lib.hid hs3
    clear hs3 HS2
    go_wp2_with fail
    refine (so_sort HS3.out a n c X (by rw [HN.out, HI.out.len]) HI.out.src HU.out.2 k (by have := HK.out.1; omega) f f rfl HK.out.2 (by have := HI.out.len; have := HI.out.few; omega) (by have := HI.out.sum; omega) (StoreM.ok_made 16777216 [] (by omega)) rfl (by decide) (by decide)).mono ?_
    intro e w4 hso
    obtain ⟨T, A, c4, Y, rows, pk, _, _, _, rfl, _, _, hpk, hs4⟩ := sort_good (StoreM.ok_made 16777216 [] (by omega)) rfl rfl (by decide) HK.out.2 (by rw [List.length_map]; have := HI.out.len; have := HI.out.few; omega) (by have := HI.out.sum; show _ ≤ (16777216 : Int); omega) hso
    rw [List.length_map, HI.out.len, ← HN.out] at hpk
    obtain ⟨p1, p2, p3, p4⟩ := hpk
    obtain ⟨rn, hrn⟩ : ∃ rn : Int, rn = ((chunks k [] (X.map keyX)).length : Int) := ⟨_, rfl⟩
    obtain ⟨mg, hmg⟩ : ∃ mg : Int, mg = ((tailK (chunks k [] (X.map keyX)).length f ((chunks k [] (X.map keyX)).map (srt ltK))).2 : Int) := ⟨_, rfl⟩
    rw [← hrn, ← hmg]
    obtain ⟨b10, hb10⟩ : ∃ b10, b10 = w4.heap.size := ⟨_, rfl⟩
    have hs5 := hs4.boxB [.int .i64 pk, .int .i64 rn, .int .i64 mg] 28 b10 hb10
    have HS5 : Hid (St w (w4.alloc (Obj.cells #[.int .i64 pk, .int .i64 rn, .int .i64 mg] 28)) _) := Lib.hid hs5
    have HN0 := Lib.hid hb10
    clear hso hs4 hs5 HS3 hrn hmg
    go_upto_region 5 with fail
    rw [← hb10]
    clear hb10 HN0
    generalize w4.alloc (Obj.cells #[.int .i64 pk, .int .i64 rn, .int .i64 mg] 28) = w5 at HS5 ⊢
    have m1 : decide (pk ≤ (k : Int) + (f : Int)) = true := decide_eq_true (by omega)
    have m2 : decide (pk ≤ (n : Int)) = true := decide_eq_true (by omega)
    have m3 : ((n : Int) == 0) = true ∨ (((n : Int) == 0) = false ∧ decide (1 ≤ pk) = true) := by
      by_cases h0 : n = 0
      · exact .inl (by simp [h0])
      · exact .inr ⟨by simp; omega, decide_eq_true (p4 (by omega))⟩
    clear p1 p2 p3 p4
    rcases m3 with m3 | ⟨m3, m4⟩
    all_goals
      go_wp2_with fail
      refine (St.ans17 HS5.out).mono ?_
      rintro e w6 ⟨rfl, hs6⟩
      have hb := hs6.blk.1
      have g0 : w6.cell? ⟨b10, 0, none⟩ = some (.int .i64 pk) := hb.cell 0
      have HS6 := Lib.hid hs6.keep
      clear hs6 hb HS5
      go_wp2_with fail
      go_ret
      exact ⟨rfl, HS6.out⟩
set_option maxRecDepth 100000 in
set_option maxHeartbeats 4000000 in
theorem sortHolds_big (w : World) (a : Option Addr) (c : Nat) (L : List It) (zb zf : Nat) (hzb : zb ≤ 255) (hzf : zf ≤ 255) (hr : RdI w a L) (hx : ∀ x ∈ L, ItOk w x) (hl : L.length ≤ 4611686018427387904) (hs : ¬ (L.length ≤ 200 ∧ wsum L ≤ 100000)) :
    Calls Try.prog 9 #[.slice a L.length c, .int .u8 zb, .int .u8 zf] w fun e w' => e = .returned (.bool true) ∧ Keep (fun b => w.heap.size ≤ b) w w' := by
  have HO := Lib.hid (And.intro hr (And.intro hx (And.intro hl hs)))
  obtain ⟨n, hn⟩ : ∃ n, n = L.length := ⟨_, rfl⟩
  have HN := Lib.hid hn
  rw [← hn]
  obtain ⟨r, hrr⟩ : ∃ r, r = zb % 20 := ⟨_, rfl⟩
  obtain ⟨k, hk⟩ : ∃ k, k = r + 2 := ⟨_, rfl⟩
  have t1 : (zb : Int).tmod 20 = (r : Int) := by rw [hrr]; rfl
  have t2 : (zb : Int) % 20 = (r : Int) := by rw [hrr]; rfl
  have t3 : IntKind.u8.wrap (r : Int) = (r : Int) := by rw [IntKind.wrap_u8]; omega
  have t4 : IntKind.i64.wrap ((r : Int) + 2) = (k : Int) := by rw [IntWalk.i64_in _ (by omega)]; omega
  have t5 : (r : Int) + 2 = (k : Int) := by omega
  obtain ⟨r', hrr'⟩ : ∃ r', r' = zf % 20 := ⟨_, rfl⟩
  obtain ⟨f, hf⟩ : ∃ f, f = r' + 2 := ⟨_, rfl⟩
  have s1 : (zf : Int).tmod 20 = (r' : Int) := by rw [hrr']; rfl
  have s2 : (zf : Int) % 20 = (r' : Int) := by rw [hrr']; rfl
  have s3 : IntKind.u8.wrap (r' : Int) = (r' : Int) := by rw [IntKind.wrap_u8]; omega
  have s4 : IntKind.i64.wrap ((r' : Int) + 2) = (f : Int) := by rw [IntWalk.i64_in _ (by omega)]; omega
  have s5 : (r' : Int) + 2 = (f : Int) := by omega
  have q1 : (zb : Int) ≤ 255 := by omega
  have q2 : (r : Int) < 20 := by omega
  have q1' : (zf : Int) ≤ 255 := by omega
  have q2' : (r' : Int) < 20 := by omega
  clear hr hx hl hs hn hrr hk hzb hzf hrr' hf
  go_enter Try.func9, Try.ntmps9
  go_wp2_with fail
  refine (St.light17 (St.start w) a n c L false HN.out HO.out.1 HO.out.2.2.1 (fun x hx => (HO.out.2.1 x hx).small2) (decide_eq_false HO.out.2.2.2)).mono ?_
  rintro e w1 ⟨rfl, hs1⟩
  have HS1 := Lib.hid hs1
  clear hs1 t1 t2 t3 t4 t5 s1 s2 s3 s4 s5 q1 q2 q1' q2'
  go_wp2_with fail
  refine (St.ans17 HS1.out).mono ?_
  rintro e w3 ⟨rfl, hs3⟩
  have HS3 := Lib.hid hs3
  clear hs3 HS1
  go_wp2_with fail
  go_ret
  exact ⟨rfl, HS3.out.keep⟩
theorem sortHolds_walk (w : World) (a : Option Addr) (n c : Nat) (L : List It) (hn : n = L.length) (_ : n ≤ c) (hc : c ≤ 2932031007402) (hr : RdI w a L) (_ : a = none → L = [] ∧ c = 0) (hx : ∀ x ∈ L, ItOk w x) (z : Int) (hz : IntKind.u8.min ≤ z ∧ z ≤ IntKind.u8.max) (y : Int) (hy : IntKind.u8.min ≤ y ∧ y ≤ IntKind.u8.max) :
    Calls Try.prog 9 #[.slice a n c, .int .u8 z, .int .u8 y] w fun e w' => e = .returned (.bool true) ∧ Below w.heap.size w w' := by
  subst hn
  have e1 : IntKind.u8.min = 0 := rfl
  have e2 : IntKind.u8.max = 255 := rfl
  obtain ⟨zb, rfl⟩ := Int.eq_ofNat_of_zero_le (show 0 ≤ z by omega)
  obtain ⟨zf, rfl⟩ := Int.eq_ofNat_of_zero_le (show 0 ≤ y by omega)
  by_cases h : L.length ≤ 200 ∧ wsum L ≤ 100000
  · exact (sortHolds_small w a c L zb zf (by omega) (by omega) hr hx h).mono fun _ _ ⟨h1, h2⟩ => ⟨h1, h2.below (Nat.le_refl _) (fun _ _ h => h)⟩
  · exact (sortHolds_big w a c L zb zf (by omega) (by omega) hr hx (by omega) h).mono fun _ _ ⟨h1, h2⟩ => ⟨h1, h2.below (Nat.le_refl _) (fun _ _ h => h)⟩
end Go.Proofs.Ytkglkpcpgdeneaa
