/- Law 17's light, unlike and answers; what its walks need. Conditions: none. -/
import Derived.Test.YtkglkpcpgdeneaaItems
import Derived.Test.YtkglkpcpgdeneaaLight16
import Derived.Test.YtkglkpcpgdeneaaRefMay
import Derived.Test.YtkglkpcpgdeneaaSorts
namespace Go.Proofs.Ytkglkpcpgdeneaa
open Go.RowKit

set_option maxRecDepth 100000 in
set_option maxHeartbeats 4000000 in
theorem light17_small (a : Option Addr) (c : Nat) (L : List It) (w : World) (hr : RdI w a L) (hl : L.length ≤ 200) (hs : ∀ x ∈ L, x.k.size + x.n ≤ 281474976710656) :
    Calls Try.prog 13 #[.slice a L.length c] w fun e w' => e = .returned (.bool (decide (wsum L ≤ 100000))) ∧ Keep (fun j => w.heap.size ≤ j) w w' := by
  have HR := Lib.hid hr
  have HS := Lib.hid hs
  have HL := Lib.hid hl
  have q0 : (L.length : Int) ≤ 200 := by omega
  obtain ⟨sw, hsw⟩ : ∃ sw, sw = wsum L := ⟨_, rfl⟩
  rw [← hsw]
  have HSW := Lib.hid hsw
  clear hr hs hl hsw
  go_enter Try.func13, Try.ntmps13
  go_wp2_with fail
  go_loopw [3, 4] (fun v3 v4 wr => ∃ i : Nat, i ≤ L.length ∧ v3 = .int .i64 (wsum (L.take i) : Nat) ∧ v4 = .int .i64 i ∧ Hid (Keep (fun j => w.heap.size ≤ j) w wr)) (fun _ v4 _ => L.length - (intOf v4).toNat)
  case atStart => exact ⟨0, Nat.zero_le _, rfl, rfl, Lib.hid (Keep.refl _ w)⟩
  case round =>
    obtain ⟨i, hi, rfl, rfl, HK⟩ := hrel
    have hw := wsum_le L HS.out i (by have := HL.out; omega)
    by_cases hb : i < L.length
    · rcases HR.out with ⟨_, h0⟩ | ⟨b, o, rfl, hc⟩
      · rw [h0] at hb; simp at hb
      have q1 : (0 : Int) ≤ i := by omega
      have q2 : (i : Int) < L.length := by omega
      have x0 : wr.cell? ⟨b, o + i * 3, none⟩ = some (.string L[i].k) := old_cell (hc i 0 hb (by omega)) HK.out
      have x2 : wr.cell? ⟨b, o + i * 3 + 2, none⟩ = some (.slice L[i].A L[i].n L[i].c) := old_cell (hc i 2 hb (by omega)) HK.out
      have HW := Lib.hid (wsum_succ L i hb)
      have hX := HS.out _ (List.getElem_mem hb)
      have HLL := HL.out
      have q3 : ((wsum (L.take i) : Nat) : Int) ≤ 56294995342131200 := by omega
      have q4 : (0 : Int) ≤ ((wsum (L.take i) : Nat) : Int) := by omega
      generalize L[i] = X at x0 x2 HW hX
      have q5 : (X.k.size : Int) ≤ 281474976710656 := by omega
      have q6 : (X.n : Int) ≤ 281474976710656 := by omega
      have HB := Lib.hid hb
      clear hc hb hX HLL hw
      generalize wsum (L.take i) = sm at HW q3 q4 ⊢
      have e1 : IntKind.i64.wrap ((sm : Int) + (X.k.size : Int)) = (sm : Int) + (X.k.size : Int) := IntWalk.i64_in _ (by omega)
      have e2 : IntKind.i64.wrap ((sm : Int) + (X.k.size : Int) + (X.n : Int)) = (sm : Int) + (X.k.size : Int) + (X.n : Int) := IntWalk.i64_in _ (by omega)
      go_wp2_with fail
      go_quiet (fail)
      clear e1 e2
      go_wp2_with fail
      go_roundw
      case rel => exact ⟨i + 1, HB.out, by rw [HW.out]; go_num, by go_num, Lib.hid (HK.out.drewN _)⟩
      case measure => have := HB.out; simp [intOf]; omega
    · obtain rfl : i = L.length := by omega
      rw [List.take_length, ← HSW.out]
      clear hw
      go_wp2_with fail
      go_ret
      exact ⟨ret_bool (by rw [Bool.eq_iff_iff]; simp; omega), HK.out⟩
set_option maxRecDepth 100000 in
set_option maxHeartbeats 4000000 in
theorem light17_big (a : Option Addr) (c : Nat) (L : List It) (w : World) (hr : RdI w a L) (hl : 200 < L.length) (hl2 : L.length ≤ 4611686018427387904) :
    Calls Try.prog 13 #[.slice a L.length c] w fun e w' => e = .returned (.bool false) ∧ Keep (fun j => w.heap.size ≤ j) w w' := by
  have HR := Lib.hid hr
  have HL := Lib.hid hl
  have q0 : (L.length : Int) ≤ 4611686018427387904 := by omega
  clear hr hl hl2
  go_enter Try.func13, Try.ntmps13
  go_wp2_with fail
  go_loopw [3, 4] (fun v3 v4 wr => ∃ (i : Nat) (x : Int), i ≤ L.length ∧ v3 = .int .i64 x ∧ v4 = .int .i64 i ∧ Hid (Keep (fun j => w.heap.size ≤ j) w wr)) (fun _ v4 _ => L.length - (intOf v4).toNat)
  case atStart => exact ⟨0, 0, Nat.zero_le _, rfl, rfl, Lib.hid (Keep.refl _ w)⟩
  case round =>
    obtain ⟨i, x, hi, rfl, rfl, HK⟩ := hrel
    by_cases hb : i < L.length
    · rcases HR.out with ⟨_, h0⟩ | ⟨b, o, rfl, hc⟩
      · rw [h0] at hb; simp at hb
      have q1 : (0 : Int) ≤ i := by omega
      have q2 : (i : Int) < L.length := by omega
      have x0 : wr.cell? ⟨b, o + i * 3, none⟩ = some (.string L[i].k) := old_cell (hc i 0 hb (by omega)) HK.out
      have x2 : wr.cell? ⟨b, o + i * 3 + 2, none⟩ = some (.slice L[i].A L[i].n L[i].c) := old_cell (hc i 2 hb (by omega)) HK.out
      generalize L[i] = X at x0 x2
      have HB := Lib.hid hb
      clear hc hb
      go_wp2_with fail
      go_quiet (fail)
      go_wp2_with fail
      go_roundw
      case rel => exact ⟨i + 1, _, HB.out, rfl, by go_num, Lib.hid (HK.out.drewN _)⟩
      case measure => have := HB.out; simp [intOf]; omega
    · obtain rfl : i = L.length := by omega
      have hd : decide ((L.length : Int) ≤ 200) = false := decide_eq_false (by have := HL.out; omega)
      go_wp2_with fail
      go_ret
      exact ⟨rfl, HK.out⟩
theorem light17 (a : Option Addr) (c : Nat) (L : List It) (w : World) (hr : RdI w a L) (hl2 : L.length ≤ 4611686018427387904) (hs : ∀ x ∈ L, x.k.size + x.n ≤ 281474976710656) :
    Calls Try.prog 13 #[.slice a L.length c] w fun e w' => e = .returned (.bool (decide (L.length ≤ 200 ∧ wsum L ≤ 100000))) ∧ Keep (fun j => w.heap.size ≤ j) w w' := by
  by_cases h : L.length ≤ 200
  · have e : decide (L.length ≤ 200 ∧ wsum L ≤ 100000) = decide (wsum L ≤ 100000) := by simp [h]
    rw [e]
    exact light17_small a c L w hr h hs
  · have e : decide (L.length ≤ 200 ∧ wsum L ≤ 100000) = false := by simp [h]
    rw [e]
    exact light17_big a c L w hr (by omega) hl2
end Go.Proofs.Ytkglkpcpgdeneaa
namespace Go.Proofs.Ytkglkpcpgdeneaa
open Go.RowKit
set_option linter.unusedVariables false
set_option linter.unusedSimpArgs false

/-- All may be, and no two have the same key and number. -/
def UnlikeI (L : List It) : Prop := ∀ (i : Nat) (x : It), L[i]? = some x → mayI x.k x.s x.n = true ∧ ∀ (j : Nat) (y : It), j < i → L[j]? = some y → ¬ (x.k = y.k ∧ x.s = y.s)
def UnlikeTo (L : List It) (i : Nat) : Prop := ∀ (a : Nat) (x : It), a < i → L[a]? = some x → mayI x.k x.s x.n = true ∧ ∀ (j : Nat) (y : It), j < a → L[j]? = some y → ¬ (x.k = y.k ∧ x.s = y.s)
/-- What unlike tells. -/
def UnlikeS (w0 : World) (l : List Part) (L : List It) (e : Ending) (w' : World) : Prop := ∃ b : Bool, e = .returned (.bool b) ∧ (b = true → UnlikeI L) ∧ St w0 w' l
section
variable {w0 w : World} {l : List Part}
theorem St.light17 (h : St w0 w l) (a : Option Addr) (n c : Nat) (L : List It) (b : Bool) (hn : n = L.length) (hr : RdI w a L) (hl : L.length ≤ 4611686018427387904) (hs : ∀ x ∈ L, ItSmall x) (hb : decide (L.length ≤ 200 ∧ wsum L ≤ 100000) = b) :
    Calls Try.prog 13 #[.slice a n c] w fun e w' => e = .returned (.bool b) ∧ St w0 w' l := by
  subst hb hn
  exact (Go.Proofs.Ytkglkpcpgdeneaa.light17 a c L w hr hl hs).mono fun _ _ ⟨h1, h2⟩ => ⟨h1, h.later h2⟩
theorem rdI_cells {A : Option Addr} {L : List It} (h : RdI w A L) {i : Nat} {x : It} (hx : L[i]? = some x) : ∃ b o, A = some ⟨b, o, none⟩ ∧ w.cell? ⟨b, o + i * 3, none⟩ = some (.string x.k) ∧ w.cell? ⟨b, o + i * 3 + 1, none⟩ = some (.int .i64 x.s) ∧ w.cell? ⟨b, o + i * 3 + 2, none⟩ = some (.slice x.A x.n x.c) := by
  obtain ⟨hi, rfl⟩ := List.getElem?_eq_some_iff.1 hx
  rcases h with ⟨_, h0⟩ | ⟨b, o, hA, hc⟩
  · rw [h0] at hi; simp at hi
  · exact ⟨b, o, hA, hc i 0 hi (by decide), hc i 1 hi (by decide), hc i 2 hi (by decide)⟩
set_option maxRecDepth 100000 in
set_option maxHeartbeats 4000000 in
theorem St.unlike17 (h : St w0 w l) (A : Option Addr) (n c : Nat) (L : List It) (hn : n = L.length) (hrd : ∀ u, St w0 u l → RdI u A L) (hl : L.length ≤ 200) :
    Calls Try.prog 14 #[.slice A n c] w (UnlikeS w0 l L) := by
  subst hn
  have q0 : (L.length : Int) ≤ 200 := by omega
  have HR := Lib.hid (And.intro hrd hl)
  have HS := Lib.hid h
  clear h hrd hl
  go_enter Try.func14, Try.ntmps14
  go_upto_region 2 with fail
  go_loopw [3] (fun v3 wr => ∃ i : Nat, i ≤ L.length ∧ v3 = .int .i64 i ∧ Hid (UnlikeTo L i) ∧ Hid (St w0 wr l)) (fun v3 _ => L.length - (intOf v3).toNat)
  case atStart => exact ⟨0, Nat.zero_le _, rfl, Lib.hid (fun a x h => absurd h (by omega)), HS⟩
  case round =>
    clear HS
    obtain ⟨i, hi, rfl, HU, HS⟩ := hrel
    by_cases hlt : i < L.length
    · have q1 : (i : Int) < (L.length : Int) := by omega
      obtain ⟨x, hx⟩ : ∃ x, L[i]? = some x := ⟨_, List.getElem?_eq_getElem hlt⟩
      obtain ⟨ba, o, rfl, d0, d1, d2⟩ := rdI_cells (HR.out.1 wr HS.out) hx
      have HX := Lib.hid (And.intro hx hlt)
      clear hx hlt hi
      cases hm : mayI x.k x.s x.n with
      | false =>
        have HM := Lib.hid hm
        clear hm
        go_wp2_with fail
        refine (St.may13 HS.out x false HM.out).mono ?_
        rintro e w5 ⟨rfl, hs5⟩
        have HS5 := Lib.hid hs5
        clear hs5 d0 d1 d2
        go_wp2_with fail
        go_ret
        exact ⟨false, rfl, (fun h => nomatch h), HS5.out⟩
      | true =>
        have HM := Lib.hid hm
        clear hm
        go_wp2_with fail
        refine (St.may13 HS.out x true HM.out).mono ?_
        rintro e w5 ⟨rfl, hs5⟩
        have HS5 := Lib.hid hs5
        clear hs5 HS d0 d1 d2
        go_upto_region 7 with fail
        go_loopw [4] (fun v4 wq => ∃ k : Nat, k ≤ i ∧ v4 = .int .i64 k ∧ Hid (∀ (j : Nat) (y : It), j < k → L[j]? = some y → ¬ (x.k = y.k ∧ x.s = y.s)) ∧ Hid (St w0 wq l)) (fun v4 _ => i - (intOf v4).toNat)
        case atStart => exact ⟨0, Nat.zero_le _, rfl, Lib.hid (fun j y h => absurd h (by omega)), HS5⟩
        case round =>
          clear HS5
          obtain ⟨k, hk, rfl, HN, HS⟩ := hrel
          by_cases hkl : k < i
          · have q2 : (k : Int) < (i : Int) := by omega
            have q3 : (k : Int) < (L.length : Int) := by omega
            obtain ⟨y, hy⟩ : ∃ y, L[k]? = some y := ⟨_, List.getElem?_eq_getElem (by have := HX.out.2; omega)⟩
            have HY := Lib.hid (And.intro hy hkl)
            have HCX : Hid (∀ u, St w0 u l → u.cell? ⟨ba, o + i * 3, none⟩ = some (.string x.k) ∧ u.cell? ⟨ba, o + i * 3 + 1, none⟩ = some (.int .i64 x.s) ∧ u.cell? ⟨ba, o + k * 3, none⟩ = some (.string y.k) ∧ u.cell? ⟨ba, o + k * 3 + 1, none⟩ = some (.int .i64 y.s)) := Lib.hid (fun u hu => by
              obtain ⟨b1, o1, e1, c0, c1, _⟩ := rdI_cells (HR.out.1 u hu) HX.out.1
              obtain ⟨b2, o2, e2, g0, g1, _⟩ := rdI_cells (HR.out.1 u hu) hy
              injection e1 with e1
              injection e1 with e1 e1'
              injection e2 with e2
              injection e2 with e2 e2'
              subst e1 e1' e2 e2'
              exact ⟨c0, c1, g0, g1⟩)
            clear hy hkl hk
            have hcases : ((x.k.toList == y.k.toList) = true ∧ (x.s == y.s) = true) ∨ ((x.k.toList == y.k.toList) = true ∧ (x.s == y.s) = false) ∨ (x.k.toList == y.k.toList) = false := by
              cases x.k.toList == y.k.toList <;> cases x.s == y.s <;> simp
            rcases hcases with ⟨z1, z2⟩ | ⟨z1, z2⟩ | z1
            all_goals
              go_wp2_with fail
              refine wp_region_G [] Anew (fun u => St w0 u l) (by kernel_rfl) (by kernel_rfl) (by kernel_rfl) Anew.refl (St.staysA _ _) HS.out.drew ?_
              clear HS
              repeat (first
                | (apply wpG_skip
                   · rfl
                   simp only [Act.put, List.setIfInBounds_toArray, List.set_cons_zero, List.set_cons_succ])
                | (apply wpG_val
                   · rfl
                   · intro u hu
                     obtain ⟨c0, c1, g0, g1⟩ := HCX.out u hu
                     clear hu
                     (go_simp <;> with_reducible rfl)
                   simp only [Act.put, List.setIfInBounds_toArray, List.set_cons_zero, List.set_cons_succ]))
              refine wpG_nil ?_
              intro w7 hs7
              have HS7 := Lib.hid hs7
              clear hs7
              go_wp2_with fail
            · go_ret
              exact ⟨false, rfl, (fun h => nomatch h), HS7.out⟩
            · go_roundw
              case rel =>
                refine ⟨k + 1, by have := HY.out.2; omega, by go_num, Lib.hid (fun j y' hj hy' => ?_), HS7⟩
                rcases Nat.lt_or_ge j k with h1 | h1
                · exact HN.out j y' h1 hy'
                · have h2 : j = k := by omega
                  subst h2
                  rw [HY.out.1] at hy'
                  injection hy' with hy'
                  subst hy'
                  rintro ⟨e1, e2⟩
                  rw [e2, beq_self_eq_true] at z2
                  cases z2
              case measure => have := HY.out.2; simp [intOf]; omega
            · go_roundw
              case rel =>
                refine ⟨k + 1, by have := HY.out.2; omega, by go_num, Lib.hid (fun j y' hj hy' => ?_), HS7⟩
                rcases Nat.lt_or_ge j k with h1 | h1
                · exact HN.out j y' h1 hy'
                · have h2 : j = k := by omega
                  subst h2
                  rw [HY.out.1] at hy'
                  injection hy' with hy'
                  subst hy'
                  rintro ⟨e1, e2⟩
                  rw [e1, beq_self_eq_true] at z1
                  cases z1
              case measure => have := HY.out.2; simp [intOf]; omega
          · have q2 : ¬ (k : Int) < (i : Int) := by omega
            have hki : k = i := by omega
            have HKI := Lib.hid hki
            clear hkl hk hki
            go_wp2_with fail
            go_roundw
            case rel =>
              refine ⟨i + 1, HX.out.2, by go_num, Lib.hid (fun a z ha hz => ?_), HS⟩
              rcases Nat.lt_or_ge a i with h1 | h1
              · exact HU.out a z h1 hz
              · have : a = i := by omega
                subst this
                rw [HX.out.1] at hz
                injection hz with hz
                subst hz
                exact ⟨HM.out, fun j y hj hy => HN.out j y (by rw [HKI.out]; exact hj) hy⟩
            case measure => have := HX.out.2; simp [intOf]; omega
    · have q1 : ¬ (i : Int) < (L.length : Int) := by omega
      have hi2 : i = L.length := by omega
      have HI := Lib.hid hi2
      clear hlt hi hi2
      go_wp2_with fail
      go_ret
      refine ⟨true, rfl, fun _ a x hx => ?_, HS.out⟩
      exact HU.out a x (by rw [HI.out]; exact (List.getElem?_eq_some_iff.1 hx).1) hx
end
end Go.Proofs.Ytkglkpcpgdeneaa
namespace Go.Proofs.Ytkglkpcpgdeneaa
open Go.RowKit
set_option linter.unusedVariables false
set_option linter.unusedSimpArgs false

/-- What Sort tells where something is amiss. -/
def ArgS (w : World) (e : Ending) (w' : World) : Prop := e = .returned (.tuple #[.slice none 0 0, .agg #[.int .i64 0, .int .i64 0, .int .i64 0], .int .i64 1]) ∧ Keep (fun j => w.heap.size ≤ j) w w'
set_option maxRecDepth 100000 in
set_option maxHeartbeats 2000000 in
theorem sort_amiss (w : World) (p : Option Addr) (B : Option Addr) (n d : Nat) (bud fan : Int) (hp : p = none ∨ ∃ sb : Nat, p = some ⟨sb, 0, none⟩ ∧ (decide (bud < 2) = true ∨ (decide (bud < 2) = false ∧ decide (fan < 2) = true))) :
    Calls Try.prog 17 #[.pointer p, .slice B n d, .int .i64 bud, .int .i64 fan] w (ArgS w) := by
  obtain ⟨b9, hb9⟩ : ∃ b9, b9 = w.heap.size := ⟨_, rfl⟩
  have hs0 := (St.start w).boxB [.int .i64 0, .int .i64 0, .int .i64 0] 28 b9 hb9
  have HS : Hid (St w (w.alloc (Obj.cells #[.int .i64 0, .int .i64 0, .int .i64 0] 28)) [blkP b9 28 [.int .i64 0, .int .i64 0, .int .i64 0]]) := Lib.hid hs0
  clear hs0
  rcases hp with rfl | ⟨sb, rfl, h1 | ⟨h1, h2⟩⟩
  all_goals
    go_enter Try.func17, Try.ntmps17
    go_upto_region 1 with fail
    rw [← hb9]
    clear hb9
    generalize w.alloc (Obj.cells #[.int .i64 0, .int .i64 0, .int .i64 0] 28) = w1 at HS ⊢
    have hb := HS.out.blk.1
    have p0 : w1.cell? ⟨b9, 0, none⟩ = some (.int .i64 0) := hb.cell 0
    have p1 : w1.cell? ⟨b9, 1, none⟩ = some (.int .i64 0) := hb.cell 1
    have p2 : w1.cell? ⟨b9, 2, none⟩ = some (.int .i64 0) := hb.cell 2
    have pf0 := hb.free 0
    have pf1 := hb.free 1
    have pf2 := hb.free 2
    have hs8 := ((HS.out.set 0 (.int .i64 0)).set 1 (.int .i64 0)).set 2 (.int .i64 0)
    simp only [List.set_cons_zero, List.set_cons_succ] at hs8
    have HS8 := Lib.hid hs8
    clear hb hs8 HS
    go_wp2_with fail
    refine bodyPost_ret (results_sort rfl _ b9 0 0 0 _ rfl HS8.out.blk.1) rfl ?_
    exact ⟨rfl, HS8.out.keep⟩
def kC : K3i := (⟨#[99]⟩, 0, [])
def L17 : List ItX := [(⟨⟨#[99]⟩, 0, none, 0, 0⟩, []), (⟨⟨#[97]⟩, 0, none, 0, 0⟩, []), (⟨⟨#[98]⟩, 0, none, 0, 0⟩, [])]
theorem dat17 (w : World) (x : ItX) (hx : x ∈ L17) : DatI w x.1 x.2 := by
  simp only [L17, List.mem_cons, List.mem_nil_iff, or_false] at hx
  rcases hx with rfl | rfl | rfl
  all_goals exact ⟨rfl, Nat.le_refl _, RdV.nil _ _, fun _ => rfl⟩
theorem keys17 : L17.map keyX = [kC, kA, kB] := rfl
theorem may17 : ∀ x ∈ L17, mayK (keyX x) = true := by decide +kernel
theorem chunks17 : chunks 2 [] [kC, kA, kB] = [[kC, kA], [kB]] := by decide +kernel
theorem srt17 : srt ltK (tailK 2 2 ([[kC, kA], [kB]].map (srt ltK))).1.flatten = [kA, kB, kC] ∧ (tailK 2 2 ([[kC, kA], [kB]].map (srt ltK))).2 = 0 := by decide +kernel
/-- A sort by a store that has room. -/
theorem sort_good {w0 w : World} {l : List Part} {sb : Nat} {S : StoreM} {bud : Int} {fan : Nat} {items : List K3i} {e : Ending} (hok : S.Ok) (hr0 : S.runs = []) (hf : S.fails = []) (hnx : S.next ≤ 1000) (hf2 : 2 ≤ fan) (hl : items.length ≤ 1000) (hr : 2 * sumK items ≤ S.room) (h : SortS w0 l sb S bud fan items e w) :
    ∃ (T : StoreM) (A : Option Addr) (c : Nat) (X : List ItX) (rows : RowsM) (pk : Int), runO S (sortO S.next bud fan items) = (T, 0) ∧ T.used = 0 ∧ T.peak ≤ max S.peak (2 * sumK items) ∧
      e = .returned (.tuple #[.slice A X.length c, .agg #[.int .i64 pk, .int .i64 (chunks bud [] items).length, .int .i64 (tailK (chunks bud [] items).length fan ((chunks bud [] items).map (srt ltK))).2], .int .i64 0]) ∧
      X.map keyX = srt ltK (tailK (chunks bud [] items).length fan ((chunks bud [] items).map (srt ltK))).1.flatten ∧ OutX rows X ∧ PkF bud fan items.length pk ∧ St w0 w (ownP 44 3 (.slice A X.length c) X.length (flatI (X.map Prod.fst)) :: rdsP rows :: storeP sb T :: l) := by
  obtain ⟨U, g1, g2, g3⟩ := good_sort (bud := bud) hok hr0 hf hnx hf2 hl hr
  obtain ⟨T, er, h1, h2, _⟩ := h
  rw [g1] at h1
  injection h1 with e1 e2
  subst e1 e2
  obtain ⟨A, c, X, rows, pk, k1, k2, k3, k4, k5⟩ := h2 rfl
  exact ⟨U, A, c, X, rows, pk, g1, g2, g3, k1, k2, k3, k4, k5⟩
theorem St.own_it {w0 w : World} {l : List Part} {A : Option Addr} {n c : Nat} {L : List It} (h : St w0 w (ownP 44 3 (.slice A n c) n (flatI L) :: l)) : RdI w A L := by
  rcases own_row h.own rfl with h1 | ⟨g, rfl, h1⟩
  · exact .inl h1
  · exact h1.rd
set_option maxRecDepth 100000 in
set_option maxHeartbeats 4000000 in
theorem answers17 (w : World) : Calls Try.prog 15 #[] w fun e w' => e = .returned (.bool true) ∧ Keep (fun j => w.heap.size ≤ j) w w' := by
  go_enter Try.func15, Try.ntmps15
  go_wp2_with fail
  refine (St.store_new (St.start w) 1000 none 0 0 [] (by omega) (RdV.nil _ _) rfl (fun _ => ⟨rfl, rfl⟩) (by omega)).mono ?_
  rintro e w1 ⟨sb, rfl, hs1⟩
  obtain ⟨lb, hlb⟩ : ∃ lb, lb = w1.heap.size := ⟨_, rfl⟩
  have hs2 : St w (w1.alloc (Obj.cells #[.string ⟨#[99]⟩, .int .i64 0, .slice none 0 0, .string ⟨#[97]⟩, .int .i64 0, .slice none 0 0, .string ⟨#[98]⟩, .int .i64 0, .slice none 0 0] 44)) (storeP sb (StoreM.made 1000 []) :: [blkP lb 44 (flatI (L17.map Prod.fst))]) :=
    (hs1.boxB [.string ⟨#[99]⟩, .int .i64 0, .slice none 0 0, .string ⟨#[97]⟩, .int .i64 0, .slice none 0 0, .string ⟨#[98]⟩, .int .i64 0, .slice none 0 0] 44 lb hlb).swap
  have HS2 := Lib.hid hs2
  clear hs1 hs2
  go_wp2_with fail
  rw [← hlb]
  clear hlb
  generalize w1.alloc (Obj.cells #[.string ⟨#[99]⟩, .int .i64 0, .slice none 0 0, .string ⟨#[97]⟩, .int .i64 0, .slice none 0 0, .string ⟨#[98]⟩, .int .i64 0, .slice none 0 0] 44) = w3 at HS2 ⊢
  refine (so_sort HS2.out (some ⟨lb, 0, none⟩) 3 3 L17 rfl (fun u hu => ⟨RdI.of_blk hu.blk.1, dat17 u⟩) may17 2 (by omega) 2 2 rfl (by omega) (by decide) (by decide +kernel) (StoreM.ok_made 1000 [] (by omega)) rfl (by decide) (by decide)).mono ?_
  intro e w4 hso
  rw [keys17] at hso
  obtain ⟨T, A, c, X, rows, pk, _, _, _, rfl, hX, _, _, hs4⟩ := sort_good (StoreM.ok_made 1000 [] (by omega)) rfl rfl (by decide) (by omega) (by decide) (by decide +kernel) hso
  rw [chunks17] at hX ⊢
  rw [show ([[kC, kA], [kB]] : List (List K3i)).length = 2 from rfl, srt17.2]
  rw [show ([[kC, kA], [kB]] : List (List K3i)).length = 2 from rfl, srt17.1] at hX
  have hXl : X.length = 3 := by have := congrArg List.length hX; simpa using this
  rw [hXl]
  rw [hXl] at hs4
  obtain ⟨b2, hb2⟩ : ∃ b2, b2 = w4.heap.size := ⟨_, rfl⟩
  have hs5 : St w (w4.alloc (Obj.cells #[.int .i64 pk, .int .i64 2, .int .i64 0] 28)) (blkP b2 28 [.int .i64 pk, .int .i64 2, .int .i64 0] :: ownP 44 3 (.slice A 3 c) 3 (flatI (X.map Prod.fst)) :: rdsP rows :: storeP sb T :: [blkP lb 44 (flatI (L17.map Prod.fst))]) := hs4.boxB [.int .i64 pk, .int .i64 2, .int .i64 0] 28 b2 hb2
  have HS5 := Lib.hid hs5
  have HX := Lib.hid (And.intro hX hXl)
  clear hso hs4 hs5 hX hXl HS2
  go_wp2_with fail
  rw [← hb2]
  clear hb2
  generalize w4.alloc (Obj.cells #[.int .i64 pk, .int .i64 2, .int .i64 0] 28) = w5 at HS5 ⊢
  refine (sort_amiss w5 none none 0 0 2 2 (.inl rfl)).mono ?_
  rintro e w6 ⟨rfl, hk6⟩
  obtain ⟨b5, hb5⟩ : ∃ b5, b5 = w6.heap.size := ⟨_, rfl⟩
  have hs7 := (HS5.out.later hk6).boxB [.int .i64 0, .int .i64 0, .int .i64 0] 28 b5 hb5
  have HS7 : Hid (St w (w6.alloc (Obj.cells #[.int .i64 0, .int .i64 0, .int .i64 0] 28)) _) := Lib.hid hs7
  clear hk6 hs7 HS5
  go_upto_region 3 with fail
  rw [← hb5]
  clear hb5
  generalize w6.alloc (Obj.cells #[.int .i64 0, .int .i64 0, .int .i64 0] 28) = w7 at HS7 ⊢
  have hst := HS7.out.tail.blk.1
  have s1 : w7.cell? ⟨b2, 1, none⟩ = some (.int .i64 2) := hst.cell 1
  have s2 : w7.cell? ⟨b2, 2, none⟩ = some (.int .i64 0) := hst.cell 2
  obtain ⟨x0, hx0, hk0⟩ : ∃ x0, (X.map Prod.fst)[0]? = some x0 ∧ x0.k = ⟨#[97]⟩ := by
    have h1 : (X.map keyX)[0]? = some kA := by rw [HX.out.1]; rfl
    rw [List.getElem?_map] at h1
    obtain ⟨y, hy, hyk⟩ := Option.map_eq_some_iff.1 h1
    exact ⟨y.1, by rw [List.getElem?_map, hy]; rfl, congrArg Prod.fst hyk⟩
  obtain ⟨x2, hx2, hk2⟩ : ∃ x2, (X.map Prod.fst)[2]? = some x2 ∧ x2.k = ⟨#[99]⟩ := by
    have h1 : (X.map keyX)[2]? = some kC := by rw [HX.out.1]; rfl
    rw [List.getElem?_map] at h1
    obtain ⟨y, hy, hyk⟩ := Option.map_eq_some_iff.1 h1
    exact ⟨y.1, by rw [List.getElem?_map, hy]; rfl, congrArg Prod.fst hyk⟩
  have hrow := HS7.out.tail.tail.own_it
  obtain ⟨ba, o, hA, a0, _, _⟩ := rdI_cells hrow hx0
  obtain ⟨ba2, o2, hA2, a6, _, _⟩ := rdI_cells hrow hx2
  rw [hA] at hA2
  injection hA2 with hA2
  injection hA2 with e1 e2
  subst e1 e2 hA
  rw [hk0, Nat.zero_mul, Nat.add_zero] at a0
  rw [hk2] at a6
  have z0 : ((⟨#[97]⟩ : ByteArray).toList == (⟨#[97]⟩ : ByteArray).toList) = true := by simp
  have HK := Lib.hid HS7.out.keep
  clear hst hrow hx0 hx2 hk0 hk2 HS7 HX
  go_wp2_with fail
  go_ret
  exact ⟨rfl, HK.out⟩
end Go.Proofs.Ytkglkpcpgdeneaa
namespace Go.Proofs.Ytkglkpcpgdeneaa
open Go.RowKit
set_option linter.unusedVariables false
set_option linter.unusedSimpArgs false

theorem St.ans17 {w0 w : World} {l : List Part} (h : St w0 w l) : Calls Try.prog 15 #[] w fun e w' => e = .returned (.bool true) ∧ St w0 w' l :=
  (answers17 w).mono fun _ _ ⟨h1, h2⟩ => ⟨h1, h.later h2⟩
theorem ba_ext {x y : ByteArray} (h : x.toList = y.toList) : x = y := by
  obtain ⟨⟨a⟩⟩ := x
  obtain ⟨⟨b⟩⟩ := y
  rw [ByteArray.toList_mk, ByteArray.toList_mk] at h
  rw [h]
theorem UnlikeI.keys {L : List It} {X : List ItX} (hX : X.map Prod.fst = L) (hn : ∀ x ∈ X, x.1.n = x.2.length) (h : UnlikeI L) : Unlike (X.map keyX) ∧ ∀ x ∈ X, mayK (keyX x) = true := by
  subst hX
  constructor
  · unfold Unlike
    rw [List.pairwise_map, List.pairwise_iff_getElem]
    intro i j hi hj hij hlt
    have h1 := (h j X[j].1 (by rw [List.getElem?_map, List.getElem?_eq_getElem hj]; rfl)).2 i X[i].1 hij (by rw [List.getElem?_map, List.getElem?_eq_getElem hi]; rfl)
    apply h1
    obtain ⟨g1, g2⟩ := hlt
    unfold ltK keyX at g1 g2
    simp only at g1 g2
    rw [← Bool.not_eq_true, lt2_iff] at g1 g2
    rcases list_tri X[i].1.k.toList X[j].1.k.toList with h3 | h3 | h3
    · exact absurd (.inl h3) g1
    · refine ⟨(ba_ext h3).symm, ?_⟩
      have g3 : ¬ X[i].1.s < X[j].1.s := fun h4 => g1 (.inr ⟨h3, h4⟩)
      have g4 : ¬ X[j].1.s < X[i].1.s := fun h4 => g2 (.inr ⟨h3.symm, h4⟩)
      omega
    · exact absurd (.inl h3) g2
  · intro x hx
    obtain ⟨i, hi⟩ := List.mem_iff_getElem?.1 hx
    have h1 := (h i x.1 (by rw [List.getElem?_map, hi]; rfl)).1
    show mayI x.1.k x.1.s x.2.length = true
    rw [← hn x hx]
    exact h1
/-- The items that come in, light as they are. -/
structure InI (w : World) (a : Option Addr) (L : List It) (X : List ItX) : Prop where
  fst : X.map Prod.fst = L
  len : X.length = L.length
  dat : ∀ x ∈ X, DatI w x.1 x.2
  rd : RdI w a L
  few : L.length ≤ 200
  sum : sumK (X.map keyX) ≤ 103200
theorem InI.mk' {w : World} {a : Option Addr} {L : List It} (hr : RdI w a L) (hx : ∀ x ∈ L, ItOk w x) (hl : L.length ≤ 200 ∧ wsum L ≤ 100000) : InI w a L (xsI w L) := by
  have h1 := xsI_dat hx
  refine ⟨xsI_fst w L, xsI_len w L, fun x hx' => (h1 x hx').1, hr, hl.1, ?_⟩
  rw [sumK_wsum (xsI w L) (fun x hx' => (h1 x hx').1.1), xsI_fst, xsI_len]
  omega
theorem InI.src {w : World} {a : Option Addr} {L : List It} {X : List ItX} (h : InI w a L X) {l : List Part} : ∀ u, St w u l → RdI u a (X.map Prod.fst) ∧ ∀ x ∈ X, DatI u x.1 x.2 :=
  fun u hu => ⟨by rw [h.fst]; exact h.rd.keep hu.keep, fun x hx => (h.dat x hx).keep hu.keep⟩
end Go.Proofs.Ytkglkpcpgdeneaa
