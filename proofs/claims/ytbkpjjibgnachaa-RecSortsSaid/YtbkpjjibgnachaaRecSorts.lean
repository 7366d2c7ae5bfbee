/- RecSorts. Conditions: none. -/
import Derived.Test.YtbkpjjibgnachaaSrt
import Derived.Test.YtbkpjjibgnachaaLaw13S
import Derived.Test.YtbkpjjibgnachaaRowIt
import Derived.Test.YtbkpjjibgnachaaRowP
import Derived.BigRegion
namespace Go.Proofs.Ytbkpjjibgnachaa
open Go.RowKit
set_option linter.unusedVariables false

theorem ItOk.small2 {w : World} {x : It} (h : ItOk w x) : ItSmall x := by
  obtain ⟨⟨d, h1⟩, h2, h3⟩ := h
  have := h1.2.1
  unfold ItSmall
  omega
theorem set_self {α : Type} (l : List α) (i : Nat) (h : i < l.length) : l.set i l[i] = l := by
  apply List.ext_getElem?
  intro j
  by_cases e : i = j
  · subst e; simp [h]
  · rw [List.getElem?_set_ne e]
theorem srt_mem {α : Type} {lt : α → α → Bool} {L : List α} {x : α} (h : x ∈ srt lt L) : x ∈ L := (srt_perm L).mem_iff.1 h
set_option maxRecDepth 100000 in
set_option maxHeartbeats 8000000 in
theorem recsorts_small (w : World) (a : Option Addr) (c : Nat) (L : List It) (hr : RdI w a L) (hx : ∀ x ∈ L, ItOk w x) (hl : L.length ≤ 200) (hs : wsum L ≤ 200000) :
    Calls Try.prog 14 #[.slice a L.length c] w fun e w' => e = .returned (.bool true) ∧ Keep (fun b => w.heap.size ≤ b) w w' := by
  obtain ⟨X, hX⟩ : ∃ X : List ItX, X = L.map fun x => (x, datI w x) := ⟨_, rfl⟩
  have hXL : X.map Prod.fst = L := by rw [hX, List.map_map]; exact List.map_id L
  have hXn : X.length = L.length := by rw [hX, List.length_map]
  have hXd : ∀ x ∈ X, DatI w x.1 x.2 ∧ x.2.length ≤ 140737488355328 := by
    intro x hx'
    rw [hX] at hx'
    obtain ⟨y, hy, rfl⟩ := List.mem_map.1 hx'
    have h1 := datI_spec (hx y hy).1
    refine ⟨h1, ?_⟩
    have h2 := h1.1
    have h3 := h1.2.1
    have h4 := (hx y hy).2.2
    simp only at h2 h3 ⊢
    omega
  have HX := Lib.hid (And.intro hXL (And.intro hXn hXd))
  have HR := Lib.hid hr
  have HO := Lib.hid hx
  have HL := Lib.hid (And.intro hl hs)
  clear hr hx hl hs hX hXL hXn hXd
  go_enter Try.func14, Try.ntmps14
  go_wp2_with fail
  refine (St.light13 (St.start w) a L.length c L true rfl HR.out (by have := HL.out.1; omega) (fun x hx => (HO.out x hx).small2) (decide_eq_true HL.out)).mono ?_
  rintro e w1 ⟨rfl, hs1⟩
  have HS1 := Lib.hid hs1
  clear hs1
  go_wp2_with fail
  refine (ref_own w1 a L.length c X HX.out.2.1.symm (by rw [HX.out.1]; exact HR.out.keep HS1.out.keep) (fun x hx => ⟨(HX.out.2.2 x hx).1.keep HS1.out.keep, (HX.out.2.2 x hx).2⟩) (by have := HL.out.1; omega)).mono ?_
  rintro e w2 ⟨A2, c2, Y, rfl, hy1, hs2⟩
  have HY := Lib.hid hy1
  have HS2 := Lib.hid (HS1.out.lift hs2)
  have hYn : Y.length = L.length := by have := congrArg List.length hy1; simp at this; rw [this, HX.out.2.1]
  have HYN := Lib.hid hYn
  clear hs2 hy1 HS1 hYn
  have HYB : Hid (∀ x ∈ Y, x.2.length ≤ 140737488355328) := Lib.hid (fun x hx => by
    have h1 : keyX x ∈ X.map keyX := by rw [← HY.out]; exact List.mem_map_of_mem hx
    obtain ⟨x', hx', e⟩ := List.mem_map.1 h1
    have h2 := (HX.out.2.2 x' hx').2
    have h3 : x.2 = x'.2 := by unfold keyX at e; injection e with _ e; injection e with _ e; exact e.symm
    rw [h3]; exact h2)
  go_wp2_with fail
  refine (rec_sorted w2 A2 Y.length c2 Y rfl HS2.out.its_rd (fun x hx => ⟨HS2.out.its_dat x hx, HYB.out x hx⟩) (by have := HYN.out; have := HL.out.1; omega)).mono ?_
  rintro e w3 ⟨A3, c3, Z, rfl, hz1, hs3⟩
  have HZ : Hid (Z.map keyX = srt ltK (X.map keyX)) := Lib.hid (by rw [hz1, HY.out])
  have HS3 := Lib.hid ((HS2.out.lift hs3).sel [1, 0] (by decide) (by simp))
  clear hs3 hz1 HS2
  obtain ⟨V, hV⟩ : ∃ V, V = Y.map Prod.fst := ⟨_, rfl⟩
  have hVn : V.length = Y.length := by rw [hV, List.length_map]
  have HS4 : Hid (St w w3 [ownP 47 3 (.slice A2 Y.length c2) Y.length (flatI V), allP (V.map uP), itsP A3 c3 Z]) := Lib.hid (by rw [hV]; exact HS3.out.its_u)
  have HV := Lib.hid hVn
  have HVB : Hid (∀ y ∈ V, y.n ≤ 140737488355328) := Lib.hid (fun y hy => by
    rw [hV] at hy
    obtain ⟨x, hx, rfl⟩ := List.mem_map.1 hy
    rw [(HS3.out.its_dat x hx).1]
    exact HYB.out x hx)
  clear hV hVn HS3
  obtain ⟨n, hn⟩ : ∃ n, n = Y.length := ⟨_, rfl⟩
  rw [← hn] at HS4 HV ⊢
  have HN : Hid (n ≤ 200) := Lib.hid (by have := HYN.out; have := HL.out.1; omega)
  have q0 : (n : Int) ≤ 200 := by have := HN.out; omega
  clear hn HY HYN
  go_wp2_with fail
  go_loopw [5] (fun v5 wr => ∃ i : Nat, i ≤ n ∧ v5 = .int .i64 i ∧ Hid (St w wr [ownP 47 3 (.slice A2 n c2) n (flatI V), allP (V.map uP), itsP A3 c3 Z])) (fun v5 _ => n - (intOf v5).toNat)
  case atStart => exact ⟨0, Nat.zero_le _, rfl, HS4⟩
  case round =>
    clear HS4
    obtain ⟨i, hi, rfl, HS⟩ := hrel
    by_cases hlt : i < n
    · rcases own_row HS.out.own rfl with ⟨_, h0⟩ | ⟨g, hA, hrow⟩
      · have h1 := HV.out; rw [h0] at h1; simp at h1; omega
      subst hA
      have hiV : i < V.length := by have := HV.out; omega
      obtain ⟨y, hy⟩ : ∃ y, V[i]? = some y := ⟨_, List.getElem?_eq_getElem hiV⟩
      have HYI := Lib.hid (And.intro hy hiV)
      have HLT := Lib.hid hlt
      have q1 : (i : Int) < (n : Int) := by omega
      obtain ⟨yk, ys, yA, yn, yc⟩ := y
      have HCW : Hid (∀ u, St w u [ownP 47 3 (.slice (some ⟨g, 0, none⟩) n c2) n (flatI V), allP (V.map uP), itsP A3 c3 Z] → u.cell? ⟨g, i * 3 + 2, none⟩ = some (.slice yA yn yc)) := Lib.hid (fun u hu => by
        rcases own_row hu.own rfl with ⟨h1, _⟩ | ⟨g', h1, h2⟩
        · cases h1
        · cases h1
          obtain ⟨hi', e⟩ := List.getElem?_eq_some_iff.1 HYI.out.1
          have h3 := h2.cell i 2 hi' (by omega)
          rw [e] at h3
          exact h3)
      have HCL : Hid (yn ≤ 140737488355328) := Lib.hid (HVB.out _ (List.mem_of_getElem? HYI.out.1))
      clear hlt hy hrow hiV
      go_wp2_with fail
      go_loopw [6] (fun v6 wr => ∃ k : Nat, k ≤ yn ∧ v6 = .int .i64 k ∧ Hid (St w wr [ownP 47 3 (.slice (some ⟨g, 0, none⟩) n c2) n (flatI V), allP (V.map uP), itsP A3 c3 Z])) (fun v6 _ => yn - (intOf v6).toNat)
      case atStart => exact ⟨0, Nat.zero_le _, rfl, HS⟩
      case round =>
        clear HS
        obtain ⟨k, hk, rfl, HS⟩ := hrel
        have d2 := HCW.out wr HS.out
        have q2 : (yn : Int) ≤ 140737488355328 := by have := HCL.out; omega
        by_cases hkl : k < yn
        · have q3 : (k : Int) < (yn : Int) := by omega
          have hu : (V.map uP)[i]? = some (u8P yA yn) := by rw [List.getElem?_map, HYI.out.1]; rfl
          obtain ⟨hiu, hue⟩ := List.getElem?_eq_some_iff.1 hu
          have ho := HS.out.swap.all_open i hiu
          rw [hue] at ho
          obtain ⟨gd, z, hAd, cz, fz, z0, z1⟩ := St.u8_at ho k hkl
          subst hAd
          have hx := xor255 z z0 z1
          have HXR := Lib.hid hx
          have HOP := Lib.hid (And.intro ho (And.intro hiu (And.intro hue hkl)))
          clear hx ho hu hkl
          go_wp2_with fail
          go_region
          go_wp2_with fail
          go_roundw
          case rel =>
            refine ⟨k + 1, HOP.out.2.2.2, by go_num, Lib.hid ?_⟩
            have h1 := St.all_close HOP.out.2.1 (HOP.out.1.u8_set k HOP.out.2.2.2 (bits .xor .u8 z 255) HXR.out.1 HXR.out.2)
            have h2 : (V.map uP).set i (u8P (some ⟨gd, 0, none⟩) yn) = V.map uP := by
              have h3 := set_self (V.map uP) i HOP.out.2.1
              rw [HOP.out.2.2.1] at h3
              exact h3
            rw [h2] at h1
            exact h1.swap.drew
          case measure => have := HOP.out.2.2.2; simp [intOf]; omega
        · go_wp2_with fail
          go_roundw
          case rel => exact ⟨i + 1, HLT.out, by go_num, HS⟩
          case measure => have := HLT.out; simp [intOf]; omega
    · have hin : i = n := by omega
      subst hin
      clear hlt
      go_wp2_with fail
      refine (St.ans13 HS.out).mono ?_
      rintro e w5 ⟨rfl, hs5⟩
      have HS5 := Lib.hid hs5
      clear hs5 HS
      go_wp2_with fail
      refine (ref_sorted w5 a L.length c L rfl (HR.out.keep HS5.out.keep) (by have := HL.out.1; omega)).mono ?_
      rintro e w6 ⟨A6, c6, rfl, hs6⟩
      have HS6 := Lib.hid (HS5.out.lift hs6)
      clear hs6 HS5
      go_wp2_with fail
      have e6 : (srt ltX X).map Prod.fst = srt ltI L := by rw [srt_items, HX.out.1]
      have l6 : (srt ltX X).length = L.length := by have := congrArg List.length e6; rw [List.length_map, srt_len swoI] at this; exact this
      have hkz : Z.map keyX = (srt ltX X).map keyX := by rw [HZ.out, srt_keys]
      refine (ref_sameall w6 A3 A6 Z.length L.length c3 c6 Z (srt ltX X) rfl l6 hkz ((HS6.out.sel [3] (by decide) (by simp)).its_rd) ?_ (fun x hx => (HS6.out.sel [3] (by decide) (by simp)).its_dat x hx) (fun x hx => (HX.out.2.2 x (srt_mem hx)).1.keep HS6.out.keep) (by have h1 := congrArg List.length hkz; simp only [List.length_map] at h1; have := HL.out.1; omega)).mono ?_
      · rw [e6]
        rcases own_row (HS6.out.own) rfl with h1 | ⟨g6, rfl, h1⟩
        · exact .inl h1
        · exact h1.rd
      rintro e w7 ⟨rfl, hk7⟩
      have HS7 := Lib.hid (HS6.out.later hk7)
      clear hk7 e6 l6 hkz HS6
      go_wp2_with fail
      go_ret
      exact ⟨rfl, HS7.out.keep⟩
theorem recsorts_big (w : World) (a : Option Addr) (c : Nat) (L : List It) (hr : RdI w a L) (hx : ∀ x ∈ L, ItOk w x) (hl : L.length ≤ 4611686018427387904) (hs : ¬ (L.length ≤ 200 ∧ wsum L ≤ 200000)) :
    Calls Try.prog 14 #[.slice a L.length c] w fun e w' => e = .returned (.bool true) ∧ Keep (fun b => w.heap.size ≤ b) w w' := by
  have HR := Lib.hid hr
  have HX := Lib.hid hx
  have HL := Lib.hid hl
  have HN := Lib.hid hs
  clear hr hx hl hs
  go_enter Try.func14, Try.ntmps14
  go_wp2_with fail
  refine (St.light13 (St.start w) a L.length c L false rfl HR.out HL.out (fun x hx => (HX.out x hx).small2) (decide_eq_false HN.out)).mono ?_
  rintro e w1 ⟨rfl, hs1⟩
  have HS1 := Lib.hid hs1
  clear hs1
  go_wp2_with fail
  refine (St.ans13 HS1.out).mono ?_
  rintro e w10 ⟨rfl, hs10⟩
  have HS10 := Lib.hid hs10
  clear hs10 HS1
  go_wp2_with fail
  go_ret
  exact ⟨rfl, HS10.out.keep⟩
theorem recSorts_walk (w : World) (a : Option Addr) (n c : Nat) (L : List It) (hn : n = L.length) (_ : n ≤ c) (hc : c ≤ 2932031007402) (hr : RdI w a L) (_ : a = none → L = [] ∧ c = 0) (hx : ∀ x ∈ L, ItOk w x) :
    Calls Try.prog 14 #[.slice a n c] w fun e w' => e = .returned (.bool true) ∧ Below w.heap.size w w' := by
  subst hn
  by_cases h : L.length ≤ 200 ∧ wsum L ≤ 200000
  · exact (recsorts_small w a c L hr hx h.1 h.2).mono fun _ _ ⟨h1, h2⟩ => ⟨h1, h2.below (Nat.le_refl _) (fun _ _ h => h)⟩
  · exact (recsorts_big w a c L hr hx (by omega) h).mono fun _ _ ⟨h1, h2⟩ => ⟨h1, h2.below (Nat.le_refl _) (fun _ _ h => h)⟩
end Go.Proofs.Ytbkpjjibgnachaa
