/- A source in memory, and the next chunk of it. Conditions: none. -/
import Derived.Test.YtiobacnepacjnaaRows
import Derived.Test.YtiobacnepacjnaaSt
import Derived.Test.YtiobacnepacjnaaHeldG
import Derived.Test.YtiobacnepacjnaaStoreM
import Derived.StillTailTactics
import Derived.Deep.DeepCutAuto
import Derived.Deep.CutBlock
import Derived.RegionTactic
import Derived.BigRegion
import Derived.IntWalk
namespace Go.Proofs.Ytiobacnepacjnaa
open Go.RowKit

/-- Cells that lie in F, apart from block sb. -/
def Aside (w : World) (F : Nat → Prop) (sb : Nat) (A : Option Addr) (vs : List Value) : Prop := (A = none ∧ vs = []) ∨ ∃ g o, A = some ⟨g, o, none⟩ ∧ g ≠ sb ∧ F g ∧ RdV w A vs
theorem Aside.rd {w : World} {F : Nat → Prop} {sb : Nat} {A : Option Addr} {vs : List Value} (h : Aside w F sb A vs) : RdV w A vs := by
  rcases h with ⟨rfl, rfl⟩ | ⟨_, _, _, _, _, h⟩
  · exact RdV.nil _ _
  · exact h
theorem Aside.none_ {w : World} {F : Nat → Prop} {sb : Nat} {vs : List Value} (h : Aside w F sb none vs) : vs = [] := by
  rcases h with ⟨_, rfl⟩ | ⟨_, _, e, _⟩
  · rfl
  · cases e
theorem Aside.keep {w w' : World} {F G F' : Nat → Prop} {sb : Nat} {A : Option Addr} {vs : List Value} (h : Aside w F sb A vs) (k : Keep G w w') (hd : ∀ j, F j → j ≠ sb → ¬ G j) (hF : ∀ j, F j → F' j) : Aside w' F' sb A vs := by
  rcases h with h | ⟨g, o, rfl, h1, h2, h3⟩
  · exact .inl h
  · exact .inr ⟨g, o, rfl, h1, hF _ h2, h3.keep k (fun x hx _ => by cases hx; exact hd g h2 h1)⟩
theorem Aside.drop {w : World} {F : Nat → Prop} {sb g o : Nat} {vs : List Value} (h : Aside w F sb (some ⟨g, o, none⟩) vs) (m : Nat) : Aside w F sb (some ⟨g, o + m, none⟩) (vs.drop m) := by
  rcases h with ⟨e, _⟩ | ⟨g', o', e, h1, h2, h3⟩
  · cases e
  · cases e
    refine .inr ⟨g, o + m, rfl, h1, h2, fun j u hj => ⟨_, rfl, ?_⟩⟩
    rw [List.getElem?_drop] at hj
    obtain ⟨x, hx, hc⟩ := h3 (m + j) u hj
    cases hx
    rw [add_plain] at hc ⊢
    rwa [Nat.add_assoc]
/-- The source at sb: what is left of it, and how much was read. -/
def SrcIs (w : World) (F : Nat → Prop) (sb : Nat) (l : List UInt8) (place : Nat) : Prop :=
  ∃ (A : Option Addr) (c : Nat) (C : Option Addr) (cc : Nat) (ch : List Int) (t : Nat), Blk w sb 55 [.slice A l.length c, .slice C ch.length cc, .int .i64 t, .int .i64 place] ∧ (ch = [] ∨ t < ch.length) ∧ l.length ≤ c ∧ c ≤ 9223372036854775807 ∧ ch.length ≤ 4611686018427387904 ∧
    Aside w F sb A (bys l) ∧ Aside w F sb C (ch.map (Value.int .i64)) ∧ F sb ∧ ∀ k, F k → k < w.heap.size
theorem SrcIs.keep {w w' : World} {F G : Nat → Prop} {sb : Nat} {l : List UInt8} {place : Nat} (h : SrcIs w F sb l place) (k : Keep G w w') (hd : ∀ j, F j → ¬ G j) : SrcIs w' F sb l place := by
  obtain ⟨A, c, C, cc, ch, t, h1, h2, h3, h4, h5, h6, h7, h8, h9⟩ := h
  exact ⟨A, c, C, cc, ch, t, h1.keep k (hd _ h8), h2, h3, h4, h5, h6.keep k (fun j hj _ => hd j hj) (fun _ h => h), h7.keep k (fun j hj _ => hd j hj) (fun _ h => h), h8, fun j hj => Nat.lt_of_lt_of_le (h9 j hj) k.size⟩
def SomePost (w : World) (F : Nat → Prop) (sb : Nat) (l : List UInt8) (place most : Nat) (e : Ending) (w' : World) : Prop := ∃ (k : Nat) (A : Option Addr) (c : Nat), 1 ≤ k ∧ k ≤ most ∧ e = .returned (.slice A k c) ∧ k ≤ c ∧ RdV w' A (bys (l.take k)) ∧ A.isSome = true ∧ SrcIs w' F sb (l.drop k) (place + k) ∧ Keep (fun j => j = sb) w w'
theorem clamp (v : Int) (most : Nat) (h : 1 ≤ most) : ∃ k : Nat, (if (most : Int) < (if v < 1 then 1 else v) then (most : Int) else if v < 1 then 1 else v) = (k : Int) ∧ 1 ≤ k ∧ k ≤ most := by
  by_cases h1 : v < 1
  · rw [if_pos h1]
    by_cases h2 : (most : Int) < 1
    · omega
    · rw [if_neg h2]; exact ⟨1, rfl, Nat.le_refl _, h⟩
  · rw [if_neg h1]
    by_cases h2 : (most : Int) < v
    · rw [if_pos h2]; exact ⟨most, rfl, h, Nat.le_refl _⟩
    · rw [if_neg h2]; exact ⟨v.toNat, by omega, by omega, by omega⟩
set_option maxRecDepth 100000 in
set_option maxHeartbeats 4000000 in
theorem some_any (w : World) (F : Nat → Prop) (sb : Nat) (l : List UInt8) (place most : Nat) (h : SrcIs w F sb l place) (h1 : 1 ≤ most) (h2 : most ≤ l.length) (h3 : place + most ≤ 4611686018427387904) :
    Calls Try.prog 28 #[.pointer (some ⟨sb, 0, none⟩), .int .i64 most] w (SomePost w F sb l place most) := by
  obtain ⟨A, c, C, cc, ch, t, hB, ht, hc, hc2, hch, hA, hC, hF, hlt⟩ := h
  have HB := Lib.hid hB
  have HA := Lib.hid hA
  have HC := Lib.hid hC
  have HF := Lib.hid (And.intro hF hlt)
  have HT := Lib.hid ht
  have HN := Lib.hid (And.intro h1 h2)
  obtain ⟨g, o, rfl, hgs, _⟩ : ∃ g o, A = some ⟨g, o, none⟩ ∧ g ≠ sb ∧ F g := by
    rcases hA with ⟨_, e⟩ | ⟨g, o, e, e2, e3, _⟩
    · have := congrArg List.length e; simp [bys] at this; subst this; simp at h2; omega
    · exact ⟨g, o, e, e2, e3⟩
  have c0 := hB.cell 0
  have c1 := hB.cell 1
  have c2 := hB.cell 2
  have c3 := hB.cell 3
  have f2 := hB.free 2
  simp only [List.getElem?_cons_zero, List.getElem?_cons_succ] at c0 c1 c2 c3
  have q1 : (1 : Int) ≤ (most : Int) := by omega
  have q2 : (most : Int) ≤ (l.length : Int) := by omega
  have q3 : (l.length : Int) ≤ (c : Int) := by omega
  have q4 : (c : Int) ≤ 9223372036854775807 := by omega
  have q5 : (place : Int) + (most : Int) ≤ 4611686018427387904 := by omega
  have q6 : (ch.length : Int) ≤ 4611686018427387904 := by omega
  clear hB hA hC hF hlt h1 h2 hc hc2 hch
  go_enter Try.func28, Try.ntmps28
  go_upto_if 13 with fail
  go_cut [5] (fun v5 wx => ∃ k : Nat, v5 = .int .i64 k ∧ Hid (1 ≤ k ∧ k ≤ most) ∧ Hid (∃ t' : Nat, Blk wx sb 55 [.slice (some ⟨g, o, none⟩) l.length c, .slice C ch.length cc, .int .i64 t', .int .i64 place] ∧ (ch = [] ∨ t' < ch.length)) ∧ Hid (Keep (fun j => j = sb) w wx))
  case first =>
    by_cases hch : 0 < ch.length
    · have d1 : decide (0 < ch.length) = true := decide_eq_true hch
      have htl : t < ch.length := by
        rcases HT.out with e | e
        · rw [e] at hch; simp at hch
        · exact e
      have s1 : (0 : Int) ≤ (t : Int) := by omega
      have s2 : (t : Int) < (ch.length : Int) := by omega
      have s3 : (0 : Int) < (ch.length : Int) := by omega
      obtain ⟨xa, rfl, hx⟩ := HC.out.rd t (.int .i64 ch[t]) (by simp [htl])
      obtain ⟨v, hv⟩ : ∃ v, v = ch[t] := ⟨_, rfl⟩
      rw [← hv] at hx
      have HTL := Lib.hid htl
      clear hv hch htl
      obtain ⟨k, hk, hk1, hk2⟩ := clamp v most HN.out.1
      have HKK := Lib.hid (And.intro hk1 hk2)
      have HKE := Lib.hid hk
      clear hk hk1 hk2
      have m1 := Int.emod_nonneg ((t : Int) + 1) (show (ch.length : Int) ≠ 0 by omega)
      have m2 := Int.emod_lt_of_pos ((t : Int) + 1) s3
      have g1 : w.drew.cell? ⟨sb, 1, none⟩ = some (.slice (some xa) ch.length cc) := c1
      have g2 : w.drew.cell? ⟨sb, 2, none⟩ = some (.int .i64 t) := c2
      have g3 : w.drew.frozen? ⟨sb, 2, none⟩ = false := f2
      go_wp2_with fail
      go_region
      rw [HKE.out]
      clear HKE
      generalize (if v < 1 then 1 else v) = vv
      go_wp2_with fail
      refine wp_region_still_tail 14 (by kernel_rfl) (by kernel_rfl) ?_
      simp only [List.take_succ_cons, List.take_zero, List.drop_succ_cons, List.drop_zero]
      change wpStill _ _ w.drew.drew (fun a' => wpList _ _ _ _ a' w.drew.drew) _ _
      have HB2 : Hid (Blk w.drew.drew sb 55 [.slice (some ⟨g, o, none⟩) l.length c, .slice (some xa) ch.length cc, .int .i64 t, .int .i64 place]) := HB
      have HK2 : Hid (Keep (fun j => j = sb) w w.drew.drew) := Lib.hid (Keep.refl _ w).drew.drew
      have g1 : w.drew.drew.cell? ⟨sb, 1, none⟩ = some (.slice (some xa) ch.length cc) := c1
      have g2 : w.drew.drew.cell? ⟨sb, 2, none⟩ = some (.int .i64 t) := c2
      have g3 : w.drew.drew.frozen? ⟨sb, 2, none⟩ = false := f2
      clear HB c0 c1 c2 c3 f2 hx
      generalize w.drew.drew = w2 at HB2 HK2 g1 g2 g3 ⊢
      have e1 : IntKind.i64.wrap ((t : Int) + 1) = (t : Int) + 1 := IntWalk.i64_in _ (by omega)
      have e2 : ((t : Int) + 1).tmod (ch.length : Int) = ((t : Int) + 1) % (ch.length : Int) := Int.tmod_eq_emod_of_nonneg (by omega)
      have e3 : ¬ ch = [] := fun e => by rw [e] at s3; simp at s3
      repeat still_step
      clear e1 e2 e3
      refine wpStill_nil ?_
      go_wp2_with fail
      go_meet
      refine ⟨k, rfl, HKK, Lib.hid ⟨(((t : Int) + 1) % (ch.length : Int)).toNat, ?_, .inr (by omega)⟩, Lib.hid (HK2.out.setCell (p := ⟨sb, 2, none⟩) (.inl rfl) _)⟩
      have := HB2.out.set 2 (.int .i64 (((t : Int) + 1) % (ch.length : Int)))
      rw [Int.toNat_of_nonneg m1]
      exact this
    · obtain rfl : ch = [] := by
        cases ch with
        | nil => rfl
        | cons x r => exact absurd (by simp) hch
      simp only [List.length_nil] at c1
      clear hch
      go_wp2_with fail
      go_meet
      exact ⟨most, rfl, Lib.hid ⟨HN.out.1, Nat.le_refl _⟩, Lib.hid ⟨t, HB.out, HT.out⟩, Lib.hid (Keep.refl _ w)⟩
  case rest =>
    obtain ⟨k, rfl, HK, HB2, HKP⟩ := hcut
    clear HB HT c0 c1 c2 c3 f2
    obtain ⟨t', hB, ht⟩ := HB2.out
    have HB := Lib.hid hB
    have HT := Lib.hid ht
    have c0 := hB.cell 0
    have c3 := hB.cell 3
    have f0 := hB.free 0
    have f3 := hB.free 3
    simp only [List.getElem?_cons_zero, List.getElem?_cons_succ] at c0 c3
    have r1 : (1 : Int) ≤ (k : Int) := by have := HK.out.1; omega
    have r2 : (k : Int) ≤ (most : Int) := by have := HK.out.2; omega
    have r3 : (k : Int) ≤ (l.length : Int) := by omega
    clear hB ht
    go_wp2_with fail
    have e1 : IntKind.i64.wrap ((place : Int) + (k : Int)) = (place : Int) + (k : Int) := IntWalk.i64_in _ (by omega)
    have hsl : ∃ o', (if c = k then (some ⟨g, o, none⟩ : Option Addr) else some ⟨g, o + k, none⟩) = some ⟨g, o', none⟩ ∧ (k < l.length → o' = o + k) := by
      by_cases h : c = k
      · rw [if_pos h]; exact ⟨o, rfl, fun h2 => by omega⟩
      · rw [if_neg h]; exact ⟨o + k, rfl, fun _ => rfl⟩
    have g0 : wc.drew.cell? ⟨sb, 0, none⟩ = some (.slice (some ⟨g, o, none⟩) l.length c) := c0
    have g3 : wc.drew.cell? ⟨sb, 3, none⟩ = some (.int .i64 place) := c3
    have k0 : wc.drew.frozen? ⟨sb, 0, none⟩ = false := f0
    have k3 : wc.drew.frozen? ⟨sb, 3, none⟩ = false := f3
    have HSL := Lib.hid hsl
    clear hsl
    go_region
    obtain ⟨o', ho, ho2⟩ := HSL.out
    rw [ho]
    clear e1 g0 g3 k0 k3 c0 c3 f0 f3 ho
    go_wp2_with fail
    go_ret
    have hA := HA.out
    have hKK : Keep (fun j => j = sb) w (((wc.setCell ⟨sb, 0, none⟩ (.slice (some ⟨g, o', none⟩) (l.length - k) (c - k))).setCell ⟨sb, 3, none⟩ (.int .i64 ((place : Int) + (k : Int)))).drew) :=
      ((HKP.out.setCell (p := ⟨sb, 0, none⟩) (.inl rfl) _).setCell (p := ⟨sb, 3, none⟩) (.inl rfl) _).drew
    have hB2 := ((HB.out.set 0 (.slice (some ⟨g, o', none⟩) (l.length - k) (c - k))).set 3 (.int .i64 ((place : Int) + (k : Int))))
    have hk1 : k ≤ l.length := by omega
    have hd : (l.drop k).length = l.length - k := by simp
    have hne : ∀ j, F j → j ≠ sb → ¬ (fun j => j = sb) j := fun j _ h e => h e
    refine ⟨k, some ⟨g, o, none⟩, c, HK.out.1, HK.out.2, rfl, by omega, ?_, rfl, ⟨some ⟨g, o', none⟩, c - k, C, cc, ch, t', ?_, HT.out, by rw [hd]; omega, by omega, by omega, ?_, HC.out.keep hKK hne (fun _ h => h), HF.out.1, fun j hj => Nat.lt_of_lt_of_le (HF.out.2 j hj) hKK.size⟩, hKK⟩
    · have h := (hA.keep hKK hne (fun _ h => h)).rd
      intro j u hj
      refine h j u ?_
      have e : bys (l.take k) = (bys l).take k := by simp [bys]
      rw [e, List.getElem?_take] at hj
      split at hj
      · exact hj
      · cases hj
    · rw [hd]
      have e : ((place : Int) + (k : Int)) = ((place + k : Nat) : Int) := by omega
      rw [e] at hB2 ⊢
      exact hB2
    · have hA2 := hA.keep hKK hne (fun _ h => h)
      by_cases h : k < l.length
      · obtain rfl := ho2 h
        have e : bys (l.drop k) = (bys l).drop k := by simp [bys]
        rw [e]
        exact hA2.drop k
      · have e : l.drop k = [] := List.drop_of_length_le (by omega)
        rw [e]
        rcases hA2 with ⟨e, _⟩ | ⟨g', o2, e, h1, h2, _⟩
        · cases e
        · cases e; exact .inr ⟨g, o', rfl, h1, h2, RdV.nil _ _⟩
end Go.Proofs.Ytiobacnepacjnaa
