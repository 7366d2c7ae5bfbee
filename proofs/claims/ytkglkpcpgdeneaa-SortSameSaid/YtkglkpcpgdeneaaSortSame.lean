/- SortSame. Conditions: none. -/
import Derived.Test.YtkglkpcpgdeneaaSort17
namespace Go.Proofs.Ytkglkpcpgdeneaa
open Go.RowKit
set_option linter.unusedVariables false
set_option linter.unusedSimpArgs false

set_option maxRecDepth 100000 in
set_option maxHeartbeats 8000000 in
theorem sortSame_small (w : World) (a : Option Addr) (c : Nat) (L : List It) (za zb zc zd : Nat) (hza : za ≤ 255) (hzb : zb ≤ 255) (hzc : zc ≤ 255) (hzd : zd ≤ 255) (hr : RdI w a L) (hx : ∀ x ∈ L, ItOk w x) (hl : L.length ≤ 200 ∧ wsum L ≤ 100000) :
    Calls Try.prog 10 #[.slice a L.length c, .int .u8 za, .int .u8 zb, .int .u8 zc, .int .u8 zd] w fun e w' => e = .returned (.bool true) ∧ Keep (fun b => w.heap.size ≤ b) w w' := by
  obtain ⟨X, hX⟩ : ∃ X, X = xsI w L := ⟨_, rfl⟩
  have HI : Hid (InI w a L X) := Lib.hid (by rw [hX]; exact InI.mk' hr hx hl)
  have HO := Lib.hid (And.intro hx hl)
  obtain ⟨n, hn⟩ : ∃ n, n = L.length := ⟨_, rfl⟩
  have HN := Lib.hid hn
  have q0 : (n : Int) ≤ 200 := by omega
  rw [← hn]
  have qa : (za : Int) ≤ 255 := by omega
  have qb : (zb : Int) ≤ 255 := by omega
  have qc : (zc : Int) ≤ 255 := by omega
  have qd : (zd : Int) ≤ 255 := by omega
  clear hr hx hl hX hn hza hzb hzc hzd
  go_enter Try.func10, Try.ntmps10
  go_wp2_with fail
  refine (St.light17 (St.start w) a n c L true HN.out HI.out.rd (by have := HI.out.few; omega) (fun x hx => (HO.out.1 x hx).small2) (decide_eq_true HO.out.2)).mono ?_
  rintro e w1 ⟨rfl, hs1⟩
  have HS1 := Lib.hid hs1
  clear hs1
  go_wp2_with fail
  refine (St.unlike17 HS1.out a n c L HN.out (fun u hu => HI.out.rd.keep hu.keep) HI.out.few).mono ?_
  rintro e w2 ⟨ub, rfl, hub, hs2⟩
  have HS2 := Lib.hid hs2
  clear hs2 HS1
  cases ub with
  | false =>
    clear hub
    go_wp2_with fail
    refine (St.ans17 HS2.out).mono ?_
    rintro e w3 ⟨rfl, hs3⟩
    have HS3 := Lib.hid hs3
    clear hs3 HS2
    go_wp2_with fail
    go_ret
    exact ⟨rfl, HS3.out.keep⟩
  | true =>
    have HU := Lib.hid ((hub rfl).keys HI.out.fst (fun x hx => (HI.out.dat x hx).1))
    clear hub
    go_wp2_with fail
    refine (St.store_new HS2.out 16777216 none 0 0 [] (by omega) (RdV.nil _ _) rfl (fun _ => ⟨rfl, rfl⟩) (by omega)).mono ?_
    rintro e w3 ⟨sb, rfl, hs3⟩
    have HS3 := Lib.hid hs3
    clear hs3 HS2
    go_wp2_with fail
    refine (St.sort17 HS3.out a n c HI.out.src (by rw [HN.out, HI.out.len]) (by have := HI.out.len; have := HI.out.few; omega) HI.out.sum HU.out.2 ((za : Int) + 2) (by omega) (zb + 2) ((zb : Int) + 2) (by omega) (by omega)).mono ?_
    rintro e w4 ⟨T, A, c4, Y, rows, pk, rn, mg, hz1, hz2, hz3, hz4, hz5, he, hY, hO, hz6, hs4⟩
    clear hz1 hz2 hz3 hz4 hz5 hz6
    subst he
    rw [sortK_unlike HU.out.1] at hY
    obtain ⟨yl, hyl⟩ : ∃ yl, yl = Y.length := ⟨_, rfl⟩
    have hs5 := hs4.boxB [.int .i64 pk, .int .i64 rn, .int .i64 mg] 28 w4.heap.size rfl
    have HS5 : Hid (St w (w4.alloc (Obj.cells #[.int .i64 pk, .int .i64 rn, .int .i64 mg] 28)) (ownP 44 3 (.slice A yl c4) yl (flatI (Y.map Prod.fst)) :: rdsP rows :: [])) := Lib.hid (by
      rw [hyl]
      have h1 := hs5.tail
      exact ((h1.mv 2 (by simp)).tail))
    rw [← hyl]
    have HY := Lib.hid (And.intro hY (And.intro hO hyl))
    clear hs4 hs5 hY hO HS3 hyl
    go_upto_region 4 with fail
    generalize w4.alloc (Obj.cells #[.int .i64 pk, .int .i64 rn, .int .i64 mg] 28) = w5 at HS5 ⊢
    go_wp2_with fail
    refine (St.store_new HS5.out 16777216 none 0 0 [] (by omega) (RdV.nil _ _) rfl (fun _ => ⟨rfl, rfl⟩) (by omega)).mono ?_
    rintro e w6 ⟨sb2, rfl, hs6⟩
    have HS6 := Lib.hid hs6
    clear hs6 HS5
    go_wp2_with fail
    refine (St.sort17 HS6.out a n c HI.out.src (by rw [HN.out, HI.out.len]) (by have := HI.out.len; have := HI.out.few; omega) HI.out.sum HU.out.2 ((zc : Int) + 2) (by omega) (zd + 2) ((zd : Int) + 2) (by omega) (by omega)).mono ?_
    rintro e w7 ⟨T2, A2, c7, Y2, rows2, pk2, rn2, mg2, hz1, hz2, hz3, hz4, hz5, he, hY2, hO2, hz6, hs7⟩
    clear hz1 hz2 hz3 hz4 hz5 hz6
    subst he
    rw [sortK_unlike HU.out.1] at hY2
    obtain ⟨yl2, hyl2⟩ : ∃ yl2, yl2 = Y2.length := ⟨_, rfl⟩
    have hs8 := hs7.boxB [.int .i64 pk2, .int .i64 rn2, .int .i64 mg2] 28 w7.heap.size rfl
    have HS8 : Hid (St w (w7.alloc (Obj.cells #[.int .i64 pk2, .int .i64 rn2, .int .i64 mg2] 28)) (ownP 44 3 (.slice A2 yl2 c7) yl2 (flatI (Y2.map Prod.fst)) :: rdsP rows2 :: ownP 44 3 (.slice A yl c4) yl (flatI (Y.map Prod.fst)) :: rdsP rows :: [])) := Lib.hid (by
      rw [hyl2]
      have h1 := hs8.tail
      exact ((h1.mv 2 (by simp)).tail))
    rw [← hyl2]
    have HY2 := Lib.hid (And.intro hY2 (And.intro hO2 hyl2))
    clear hs7 hs8 hY2 hO2 HS6 hyl2
    go_upto_region 5 with fail
    generalize w7.alloc (Obj.cells #[.int .i64 pk2, .int .i64 rn2, .int .i64 mg2] 28) = w8 at HS8 ⊢
    go_wp2_with fail
    refine (St.ans17 HS8.out).mono ?_
    rintro e w9 ⟨rfl, hs9⟩
    have HS9 := Lib.hid hs9
    clear hs9 HS8
    go_wp2_with fail
    refine (ref_sameall w9 A A2 yl yl2 c4 c7 Y Y2 HY.out.2.2.symm HY2.out.2.2.symm (by rw [HY.out.1, HY2.out.1]) (out_rd HS9.out.tail.tail HY.out.2.1).1 (out_rd HS9.out HY2.out.2.1).1 (out_rd HS9.out.tail.tail HY.out.2.1).2 (out_rd HS9.out HY2.out.2.1).2 (by
      have h1 := congrArg List.length HY.out.1
      rw [srtK_len, List.length_map, List.length_map] at h1
      have := HY.out.2.2
      have := HI.out.len
      have := HI.out.few
      omega)).mono ?_
    rintro e w10 ⟨rfl, hk⟩
    have HK := Lib.hid (HS9.out.later hk).keep
    clear hk HS9
    go_wp2_with fail
    go_ret
    exact ⟨rfl, HK.out⟩
set_option maxRecDepth 100000 in
set_option maxHeartbeats 4000000 in
theorem sortSame_big (w : World) (a : Option Addr) (c : Nat) (L : List It) (za zb zc zd : Int) (hr : RdI w a L) (hx : ∀ x ∈ L, ItOk w x) (hl : L.length ≤ 4611686018427387904) (hs : ¬ (L.length ≤ 200 ∧ wsum L ≤ 100000)) :
    Calls Try.prog 10 #[.slice a L.length c, .int .u8 za, .int .u8 zb, .int .u8 zc, .int .u8 zd] w fun e w' => e = .returned (.bool true) ∧ Keep (fun b => w.heap.size ≤ b) w w' := by
  have HO := Lib.hid (And.intro hr (And.intro hx (And.intro hl hs)))
  obtain ⟨n, hn⟩ : ∃ n, n = L.length := ⟨_, rfl⟩
  have HN := Lib.hid hn
  rw [← hn]
  clear hr hx hl hs hn
  go_enter Try.func10, Try.ntmps10
  go_wp2_with fail
  refine (St.light17 (St.start w) a n c L false HN.out HO.out.1 HO.out.2.2.1 (fun x hx => (HO.out.2.1 x hx).small2) (decide_eq_false HO.out.2.2.2)).mono ?_
  rintro e w1 ⟨rfl, hs1⟩
  have HS1 := Lib.hid hs1
  clear hs1
  go_wp2_with fail
  refine (St.ans17 HS1.out).mono ?_
  rintro e w3 ⟨rfl, hs3⟩
  have HS3 := Lib.hid hs3
  clear hs3 HS1
  go_wp2_with fail
  go_ret
  exact ⟨rfl, HS3.out.keep⟩
theorem sortSame_walk (w : World) (a : Option Addr) (n c : Nat) (L : List It) (hn : n = L.length) (_ : n ≤ c) (hc : c ≤ 2932031007402) (hr : RdI w a L) (_ : a = none → L = [] ∧ c = 0) (hx : ∀ x ∈ L, ItOk w x) (z : Int) (hz : IntKind.u8.min ≤ z ∧ z ≤ IntKind.u8.max) (y : Int) (hy : IntKind.u8.min ≤ y ∧ y ≤ IntKind.u8.max) (v : Int) (hv : IntKind.u8.min ≤ v ∧ v ≤ IntKind.u8.max) (u : Int) (hu : IntKind.u8.min ≤ u ∧ u ≤ IntKind.u8.max) :
    Calls Try.prog 10 #[.slice a n c, .int .u8 z, .int .u8 y, .int .u8 v, .int .u8 u] w fun e w' => e = .returned (.bool true) ∧ Below w.heap.size w w' := by
  subst hn
  have e1 : IntKind.u8.min = 0 := rfl
  have e2 : IntKind.u8.max = 255 := rfl
  by_cases h : L.length ≤ 200 ∧ wsum L ≤ 100000
  · obtain ⟨za, rfl⟩ := Int.eq_ofNat_of_zero_le (show 0 ≤ z by omega)
    obtain ⟨zb, rfl⟩ := Int.eq_ofNat_of_zero_le (show 0 ≤ y by omega)
    obtain ⟨zc, rfl⟩ := Int.eq_ofNat_of_zero_le (show 0 ≤ v by omega)
    obtain ⟨zd, rfl⟩ := Int.eq_ofNat_of_zero_le (show 0 ≤ u by omega)
    exact (sortSame_small w a c L za zb zc zd (by omega) (by omega) (by omega) (by omega) hr hx h).mono fun _ _ ⟨h1, h2⟩ => ⟨h1, h2.below (Nat.le_refl _) (fun _ _ h => h)⟩
  · exact (sortSame_big w a c L z y v u hr hx (by omega) h).mono fun _ _ ⟨h1, h2⟩ => ⟨h1, h2.below (Nat.le_refl _) (fun _ _ h => h)⟩
end Go.Proofs.Ytkglkpcpgdeneaa
