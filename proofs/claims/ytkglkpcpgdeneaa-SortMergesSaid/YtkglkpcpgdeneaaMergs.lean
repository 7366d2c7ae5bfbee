/- Lists of items that came in, light, in order; runs that are written one by one, and what then lies in the store: the plain law. Conditions: none. -/
import Derived.Test.YtkglkpcpgdeneaaRowIt
import Derived.DataReads
import Derived.Test.YtkglkpcpgdeneaaSort17
namespace Go.Proofs.Ytkglkpcpgdeneaa
open Go.RowKit Go.WideShapes Go.ChangeShapes Go.Deep
set_option linter.unusedVariables false

/-- A list of items; where there is none, its address may be any. -/
def RdL (w : World) (a : Option Addr) (L : List It) : Prop := RdI w a L ∨ L = []
/-- One of the lists. -/
structure LsOk (W : World) (A : Option Addr) (c : Nat) (L : List It) : Prop where
  cap : L.length ≤ c
  few : c ≤ 2932031007402
  rd : RdL W A L
  nil : A = none → L = [] ∧ c = 0
  ok : ∀ x ∈ L, ItOk W x
def lsV (t : Option Addr × Nat × List It) : Value := .slice t.1 t.2.2.length t.2.1
section
variable {H : Type} {enc : TypeId × Value → H} {W : World} {base : Nat} {held : Bool}
set_option maxRecDepth 100000 in
theorem items_cells {fuel : Nat} {v : Value} {x : DataW H × List MemPlace} (h : DataW.trod enc Try.prog W base (fun _ => true) held fuel 22 [v] = some x) (hw : WtOk Try.prog 22 x.1) :
    ∃ t : Option Addr × Nat × List It, v = lsV t ∧ LsOk W t.1 t.2.1 t.2.2 := by
  rcases open_slice Try.underlying22 h with ⟨hcs, _⟩ | ⟨x, l, c, m, n, D, Pl, hcs, _, hl, hm, hmm, hd, hx⟩
  · obtain rfl : v = .slice none 0 0 := by simpa using hcs
    exact ⟨(none, 0, []), rfl, Nat.le_refl _, by simp, .inr rfl, fun _ => ⟨rfl, rfl⟩, fun e he => by cases he⟩
  · obtain rfl : v = .slice (some x) l c := by simpa using hcs
    subst hd
    rw [if_pos rfl] at hmm
    subst hmm
    have hle := wt_len Try.underlying22 hw
    rw [item_bytes] at hle
    simp only [List.length_map, List.length_range] at hle
    have each : ∀ i, i < l → ∃ y : It, (∀ j, j < 3 → W.cell? ((x.add (i * 3)).add j) = y.cells[j]?) ∧ ItOk W y := by
      intro i hi'
      obtain ⟨cs, hcs, htr⟩ := hx i (by omega)
      obtain ⟨y, rfl, hy⟩ := it_cells htr (wt_elem Try.underlying22 hw (List.mem_map.2 ⟨i, List.mem_range.2 hi', rfl⟩))
      rw [item_size] at hcs
      exact ⟨y, (World.cells?_some hcs).2.2, hy⟩
    haveI : Inhabited It := ⟨⟨⟨#[]⟩, 0, none, 0, 0⟩⟩
    obtain ⟨Y, hY⟩ := choose_lt (α := It) each
    refine ⟨(some x, m, (List.range l).map Y), ?_, ?_, by show m ≤ _; omega, ?_, fun e => (by cases e), fun e he => ?_⟩
    · simp [lsV]
    · simpa using hl
    · by_cases h0 : l = 0
      · right
        subst h0
        rfl
      · left
        have hsp : x.spot = none := by
          have h1 := (hY 0 (by omega)).1 0 (by omega)
          exact World.cell?_spot (v := .string (Y 0).k) h1
        obtain ⟨b, o, sp⟩ := x
        simp only at hsp
        subst hsp
        refine .inr ⟨b, o, rfl, fun i j hi' hj => ?_⟩
        have hi2 : i < l := by simpa using hi'
        have := (hY i hi2).1 j hj
        rw [add_plain, add_plain] at this
        simpa using this
    · obtain ⟨i, hi', rfl⟩ := List.mem_map.1 he
      exact (hY i (by simpa using hi')).2
set_option maxRecDepth 100000 in
theorem lists_in {a : Option Addr} {len cap : Nat} {d : DataW H} {ps : List MemPlace} (h : DataW.Trod enc Try.prog W base (fun _ => true) held 71 (.slice a len cap) d ps) (hw : WtOk Try.prog 71 d) :
    ∃ T : List (Option Addr × Nat × List It), len = T.length ∧ len ≤ 9223372036854775807 ∧ RdV W a (T.map lsV) ∧ ∀ t ∈ T, LsOk W t.1 t.2.1 t.2.2 := by
  obtain ⟨fuel, hf⟩ := h
  rcases open_slice1 Try.underlying71 (by kernel_rfl) (by simpa [Value.cells] using hf) with ⟨hcs, _⟩ | ⟨x, l, c, m, n, V, D, Pl, hcs, _, hl, hm, hmm, hd, hx⟩
  · simp at hcs
    obtain ⟨rfl, rfl, rfl⟩ := hcs
    exact ⟨[], rfl, by omega, RdV.nil _ _, fun t ht => by cases ht⟩
  · simp at hcs
    obtain ⟨rfl, rfl, rfl⟩ := hcs
    have hd' : d = .slice ((List.range len).map D) ((List.range (m - len)).map fun j => D (len + j)) := (Prod.mk.inj hd).1
    subst hd'
    rw [if_pos rfl] at hmm
    have each : ∀ i, i < len → ∃ t : Option Addr × Nat × List It, V i = lsV t ∧ LsOk W t.1 t.2.1 t.2.2 := by
      intro i hi
      obtain ⟨_, htr⟩ := hx i (by omega)
      exact items_cells htr (wt_elem Try.underlying71 hw (List.mem_map.2 ⟨i, List.mem_range.2 hi, rfl⟩))
    haveI : Inhabited (Option Addr × Nat × List It) := ⟨(none, 0, [])⟩
    obtain ⟨Y, hY⟩ := choose_lt (α := Option Addr × Nat × List It) each
    refine ⟨(List.range len).map Y, by simp, by unfold maxLen at hm; omega, fun i v hi => ?_, fun t ht => ?_⟩
    · rw [List.getElem?_map, List.getElem?_map, Option.map_map, Option.map_eq_some_iff] at hi
      obtain ⟨k, hk, rfl⟩ := hi
      obtain ⟨h1, h2⟩ := List.getElem?_eq_some_iff.1 hk
      rw [List.length_range] at h1
      rw [List.getElem_range] at h2
      subst h2
      exact ⟨x, rfl, by rw [(hx i (by omega)).1]; exact congrArg some (hY i h1).1⟩
    · obtain ⟨i, hi', rfl⟩ := List.mem_map.1 ht
      exact (hY i (by simpa using hi')).2
end
end Go.Proofs.Ytkglkpcpgdeneaa
namespace Go.Proofs.Ytkglkpcpgdeneaa
open Go.RowKit
set_option linter.unusedVariables false
set_option linter.unusedSimpArgs false

theorem RdL.src {w : World} {a : Option Addr} {L : List It} (h : RdL w a L) : RdV w a (flatI L) := by
  rcases h with h | rfl
  · exact h.src
  · exact RdV.nil _ _
theorem RdL.keep {w w' : World} {a : Option Addr} {L : List It} (h : RdL w a L) (k : Keep (fun b => w.heap.size ≤ b) w w') : RdL w' a L := h.imp (fun h => h.keep k) id
set_option maxRecDepth 100000 in
set_option maxHeartbeats 4000000 in
theorem light17_none (a : Option Addr) (c : Nat) (w : World) :
    Calls Try.prog 13 #[.slice a 0 c] w fun e w' => e = .returned (.bool true) ∧ w' = w := by
  go_enter Try.func13, Try.ntmps13
  go_wp2_with fail
  go_loopw [3, 4] (fun v3 v4 wr => v3 = .int .i64 0 ∧ v4 = .int .i64 0 ∧ wr = w) (fun _ _ _ => 0)
  case atStart => exact ⟨rfl, rfl, rfl⟩
  case round =>
    obtain ⟨rfl, rfl, rfl⟩ := hrel
    go_wp2_with fail
    go_ret
    exact ⟨rfl, rfl⟩
set_option maxRecDepth 100000 in
set_option maxHeartbeats 4000000 in
theorem ref_sorted_none (w : World) (a : Option Addr) (c : Nat) :
    Calls Try.prog 20 #[.slice a 0 c] w fun e w' => ∃ A c', e = .returned (.slice A 0 c') ∧ St w w' [ownP 44 3 (.slice A 0 c') 0 (flatI [])] := by
  have HS := Lib.hid (St.start w)
  go_enter Try.func20, Try.ntmps20
  go_upto_region 2 with (
    at_builtin
    refine wpL_fresh_st rfl (.tmp 6) (.tmp 7) 22 22 rfl 44 (.agg #[.string ⟨#[]⟩, .int .i64 0, .slice none 0 0]) 3 48 Try.underlying22 infoItg rfl (by decide) _ rfl rfl HS.out (.slice a 0 c) 0 (flatI []) rfl (Src.of_rd Try.underlying22 (RdV.nil _ _) 0 c rfl (fun u hu => by cases hu) (fun _ => rfl)) (by decide) (by decide) ?_
    intro A1 cap w1 _ hn1 hs1 _
    have HS1 := Lib.hid hs1
    clear hs1 hn1)
  go_wp2_with fail
  go_loopw [4] (fun v4 wr => v4 = .int .i64 1 ∧ wr = w1) (fun _ _ => 0)
  case atStart => exact ⟨rfl, rfl⟩
  case round =>
    obtain ⟨rfl, rfl⟩ := hrel
    go_wp2_with fail
    go_ret
    exact ⟨A1, cap, rfl, HS1.out⟩
section
variable {w0 w : World} {l : List Part}
theorem St.light_l (h : St w0 w l) (a : Option Addr) (n c : Nat) (L : List It) (b : Bool) (hn : n = L.length) (hr : RdL w a L) (hl : L.length ≤ 4611686018427387904) (hs : ∀ x ∈ L, ItSmall x) (hb : decide (L.length ≤ 200 ∧ wsum L ≤ 100000) = b) :
    Calls Try.prog 13 #[.slice a n c] w fun e w' => e = .returned (.bool b) ∧ St w0 w' l := by
  rcases hr with hr | rfl
  · exact h.light17 a n c L b hn hr hl hs hb
  · subst hn
    have hb2 : b = true := by rw [← hb]; simp [wsum]
    subst hb2
    exact (light17_none a c w).mono fun _ _ ⟨h1, h2⟩ => ⟨h1, by rw [h2]; exact h⟩
theorem St.sorted_l (h : St w0 w l) (a : Option Addr) (n c : Nat) (L : List It) (hn : n = L.length) (hr : RdL w a L) (hl : L.length ≤ 200) :
    Calls Try.prog 20 #[.slice a n c] w fun e w' => ∃ A c', e = .returned (.slice A n c') ∧ St w0 w' (ownP 44 3 (.slice A n c') n (flatI (srt ltI L)) :: l) := by
  rcases hr with hr | rfl
  · refine (ref_sorted w a n c L hn.symm hr (by omega)).mono ?_
    rintro e w' ⟨A, c', h1, h2⟩
    exact ⟨A, c', h1, h.lift h2⟩
  · subst hn
    refine (ref_sorted_none w a c).mono ?_
    rintro e w' ⟨A, c', h1, h2⟩
    exact ⟨A, c', h1, h.lift h2⟩
set_option maxRecDepth 100000 in
set_option maxHeartbeats 4000000 in
theorem St.unlike_m (h : St w0 w l) (A : Option Addr) (n c : Nat) (L : List It) (hn : n = L.length) (hrd : ∀ u, St w0 u l → RdI u A L) (hl : L.length ≤ 2400) :
    Calls Try.prog 14 #[.slice A n c] w (UnlikeS w0 l L) := by
  subst hn
  have q0 : (L.length : Int) ≤ 2400 := by omega
  have HR := Lib.hid (And.intro hrd hl)
  have HS := Lib.hid h
  clear h hrd hl
  go_enter Try.func14, Try.ntmps14
  go_upto_region 2 with fail
  go_loopw [3] (fun v3 wr => ∃ i : Nat, i ≤ L.length ∧ v3 = .int .i64 i ∧ Hid (UnlikeTo L i) ∧ Hid (St w0 wr l)) (fun v3 _ => L.length - (intOf v3).toNat)
  case atStart => exact ⟨0, Nat.zero_le _, rfl, Lib.hid (fun a x h => absurd h (by omega)), HS⟩
  case round =>
    clear HS
    obtain ⟨i, hi, rfl, HU, HS⟩ := hrel
    by_cases hlt : i < L.length
    · have q1 : (i : Int) < (L.length : Int) := by omega
      obtain ⟨x, hx⟩ : ∃ x, L[i]? = some x := ⟨_, List.getElem?_eq_getElem hlt⟩
      obtain ⟨ba, o, rfl, d0, d1, d2⟩ := rdI_cells (HR.out.1 wr HS.out) hx
      have HX := Lib.hid (And.intro hx hlt)
      clear hx hlt hi
      cases hm : mayI x.k x.s x.n with
      | false =>
        have HM := Lib.hid hm
        clear hm
        go_wp2_with fail
        refine (St.may13 HS.out x false HM.out).mono ?_
        rintro e w5 ⟨rfl, hs5⟩
        have HS5 := Lib.hid hs5
        clear hs5 d0 d1 d2
        go_wp2_with fail
        go_ret
        exact ⟨false, rfl, (fun h => nomatch h), HS5.out⟩
      | true =>
        have HM := Lib.hid hm
        clear hm
        go_wp2_with fail
        refine (St.may13 HS.out x true HM.out).mono ?_
        rintro e w5 ⟨rfl, hs5⟩
        have HS5 := Lib.hid hs5
        clear hs5 HS d0 d1 d2
        go_upto_region 7 with fail
        go_loopw [4] (fun v4 wq => ∃ k : Nat, k ≤ i ∧ v4 = .int .i64 k ∧ Hid (∀ (j : Nat) (y : It), j < k → L[j]? = some y → ¬ (x.k = y.k ∧ x.s = y.s)) ∧ Hid (St w0 wq l)) (fun v4 _ => i - (intOf v4).toNat)
        case atStart => exact ⟨0, Nat.zero_le _, rfl, Lib.hid (fun j y h => absurd h (by omega)), HS5⟩
        case round =>
          clear HS5
          obtain ⟨k, hk, rfl, HN, HS⟩ := hrel
          by_cases hkl : k < i
          · have q2 : (k : Int) < (i : Int) := by omega
            have q3 : (k : Int) < (L.length : Int) := by omega
            obtain ⟨y, hy⟩ : ∃ y, L[k]? = some y := ⟨_, List.getElem?_eq_getElem (by have := HX.out.2; omega)⟩
            have HY := Lib.hid (And.intro hy hkl)
            have HCX : Hid (∀ u, St w0 u l → u.cell? ⟨ba, o + i * 3, none⟩ = some (.string x.k) ∧ u.cell? ⟨ba, o + i * 3 + 1, none⟩ = some (.int .i64 x.s) ∧ u.cell? ⟨ba, o + k * 3, none⟩ = some (.string y.k) ∧ u.cell? ⟨ba, o + k * 3 + 1, none⟩ = some (.int .i64 y.s)) := Lib.hid (fun u hu => by
              obtain ⟨b1, o1, e1, c0, c1, _⟩ := rdI_cells (HR.out.1 u hu) HX.out.1
              obtain ⟨b2, o2, e2, g0, g1, _⟩ := rdI_cells (HR.out.1 u hu) hy
              injection e1 with e1
              injection e1 with e1 e1'
              injection e2 with e2
              injection e2 with e2 e2'
              subst e1 e1' e2 e2'
              exact ⟨c0, c1, g0, g1⟩)
            clear hy hkl hk
            have hcases : ((x.k.toList == y.k.toList) = true ∧ (x.s == y.s) = true) ∨ ((x.k.toList == y.k.toList) = true ∧ (x.s == y.s) = false) ∨ (x.k.toList == y.k.toList) = false := by
              cases x.k.toList == y.k.toList <;> cases x.s == y.s <;> simp
            rcases hcases with ⟨z1, z2⟩ | ⟨z1, z2⟩ | z1
            all_goals
              go_wp2_with fail
              refine wp_region_G [] Anew (fun u => St w0 u l) (by kernel_rfl) (by kernel_rfl) (by kernel_rfl) Anew.refl (St.staysA _ _) HS.out.drew ?_
              clear HS
              repeat (first
                | (apply wpG_skip
                   · rfl
                   simp only [Act.put, List.setIfInBounds_toArray, List.set_cons_zero, List.set_cons_succ])
                | (apply wpG_val
                   · rfl
                   · intro u hu
                     obtain ⟨c0, c1, g0, g1⟩ := HCX.out u hu
                     clear hu
                     (go_simp <;> with_reducible rfl)
                   simp only [Act.put, List.setIfInBounds_toArray, List.set_cons_zero, List.set_cons_succ]))
              refine wpG_nil ?_
              intro w7 hs7
              have HS7 := Lib.hid hs7
              clear hs7
              go_wp2_with fail
            · go_ret
              exact ⟨false, rfl, (fun h => nomatch h), HS7.out⟩
            · go_roundw
              case rel =>
                refine ⟨k + 1, by have := HY.out.2; omega, by go_num, Lib.hid (fun j y' hj hy' => ?_), HS7⟩
                rcases Nat.lt_or_ge j k with h1 | h1
                · exact HN.out j y' h1 hy'
                · have h2 : j = k := by omega
                  subst h2
                  rw [HY.out.1] at hy'
                  injection hy' with hy'
                  subst hy'
                  rintro ⟨e1, e2⟩
                  rw [e2, beq_self_eq_true] at z2
                  cases z2
              case measure => have := HY.out.2; simp [intOf]; omega
            · go_roundw
              case rel =>
                refine ⟨k + 1, by have := HY.out.2; omega, by go_num, Lib.hid (fun j y' hj hy' => ?_), HS7⟩
                rcases Nat.lt_or_ge j k with h1 | h1
                · exact HN.out j y' h1 hy'
                · have h2 : j = k := by omega
                  subst h2
                  rw [HY.out.1] at hy'
                  injection hy' with hy'
                  subst hy'
                  rintro ⟨e1, e2⟩
                  rw [e1, beq_self_eq_true] at z1
                  cases z1
              case measure => have := HY.out.2; simp [intOf]; omega
          · have q2 : ¬ (k : Int) < (i : Int) := by omega
            have hki : k = i := by omega
            have HKI := Lib.hid hki
            clear hkl hk hki
            go_wp2_with fail
            go_roundw
            case rel =>
              refine ⟨i + 1, HX.out.2, by go_num, Lib.hid (fun a z ha hz => ?_), HS⟩
              rcases Nat.lt_or_ge a i with h1 | h1
              · exact HU.out a z h1 hz
              · have : a = i := by omega
                subst this
                rw [HX.out.1] at hz
                injection hz with hz
                subst hz
                exact ⟨HM.out, fun j y hj hy => HN.out j y (by rw [HKI.out]; exact hj) hy⟩
            case measure => have := HX.out.2; simp [intOf]; omega
    · have q1 : ¬ (i : Int) < (L.length : Int) := by omega
      have hi2 : i = L.length := by omega
      have HI := Lib.hid hi2
      clear hlt hi hi2
      go_wp2_with fail
      go_ret
      refine ⟨true, rfl, fun _ a x hx => ?_, HS.out⟩
      exact HU.out a x (by rw [HI.out]; exact (List.getElem?_eq_some_iff.1 hx).1) hx
end
end Go.Proofs.Ytkglkpcpgdeneaa
namespace Go.Proofs.Ytkglkpcpgdeneaa
open Go.RowKit
set_option linter.unusedVariables false
set_option linter.unusedSimpArgs false

/-- One run is being written, behind what was there. -/
structure Wr (S T : StoreM) (B : List K3i) : Prop where
  ok : T.Ok
  runs : T.runs = S.runs ++ [(S.next, flatK B)]
  fails : T.fails = []
  room : T.room = 16777216
  next : T.next = S.next + 1
  used : T.used = S.used + sumK B
  writes : T.writes = S.writes + B.length
theorem Wr.start {S : StoreM} (hok : S.Ok) (hf : S.fails = []) (hr : S.room = 16777216) (hn : S.next < 65536) : Wr S S.create [] := by
  have h1 : S.create.runs = S.runs ++ [(S.next, [])] := by
    unfold StoreM.create
    rw [if_neg (by omega)]
  obtain ⟨e1, e2, e3, e4, e5, _⟩ := StoreM.create_ok hn
  exact ⟨hok.create, h1, by rw [e5, hf], by rw [e3, hr], e1, by rw [e2]; simp [sumK], by rw [e4]; simp⟩
theorem Wr.find {S T : StoreM} {B : List K3i} (h : Wr S T B) (hS : S.Ok) : T.find S.next = some (flatK B) :=
  find_last h.runs (fun p hp => by have := (hS.below p hp).2; omega)
theorem Wr.step {S T : StoreM} {B : List K3i} {x : K3i} (h : Wr S T B) (hS : S.Ok) (hr : S.used + (sumK B + lenK x : Nat) ≤ 16777216) : Wr S (T.append S.next (encK x)) (B ++ [x]) := by
  have hfi := h.find hS
  have hz : ∀ p ∈ S.runs, p.1 ≠ S.next := fun p hp => by have := (hS.below p hp).2; omega
  have hlen : ((encK x).length : Int) = lenK x := by rw [encK_len]
  have hu := h.used
  have hrm := h.room
  have he : T.appendE S.next (encK x) = 0 := by
    unfold StoreM.appendE
    rw [hfi]
    simp only
    rw [if_neg (by rw [h.fails]; exact List.not_mem_nil), if_neg (by omega)]
  have ha : T.append S.next (encK x) = T.add S.next (encK x) := by
    unfold StoreM.append
    rw [hfi]
    simp only
    rw [if_neg (by rw [h.fails]; exact List.not_mem_nil), if_neg (by omega)]
  have h1 := runs_app h.runs hz he
  refine ⟨h.ok.append _ _, ?_, by rw [ha]; exact h.fails, by rw [ha]; exact h.room, by rw [ha]; exact h.next, ?_, ?_⟩
  · rw [h1]
    simp [flatK]
  · rw [ha]
    show T.used + ((encK x).length : Int) = _
    rw [sumK_app, hu, hlen]
    simp [sumK]
    omega
  · rw [ha]
    show T.writes + 1 = _
    rw [h.writes, List.length_append]
    simp
    omega
/-- What lies in the store when i runs are written. -/
structure Gd (S : StoreM) (i : Nat) (Ks : List (List K3i)) : Prop where
  ex : Ex S (idsN 0 i) Ks
  fails : S.fails = []
  room : S.room = 16777216
  next : S.next = i
  writes : S.writes = Ks.flatten.length
  srt : AllSrt Ks
  may : ∀ x ∈ Ks.flatten, mayK x = true
  sum : sumK Ks.flatten ≤ i * 103200
  few : Ks.flatten.length ≤ i * 200
theorem Gd.start : Gd (StoreM.made 16777216 []) 0 [] :=
  ⟨⟨StoreM.ok_made 16777216 [] (by omega), rfl, rfl⟩, rfl, rfl, rfl, rfl, (fun t ht => by cases ht), (fun x hx => by cases hx), by decide, by decide⟩
theorem Gd.more {S T : StoreM} {i : Nat} {Ks : List (List K3i)} {K : List K3i} (h : Gd S i Ks) (hw : Wr S T K) (hs : K.Pairwise fun x y => ltK y x = false) (hm : ∀ x ∈ K, mayK x = true) (h1 : sumK K ≤ 103200) (h2 : K.length ≤ 200) : Gd T (i + 1) (Ks ++ [K]) := by
  have hfl : (Ks ++ [K]).flatten = Ks.flatten ++ K := by simp
  refine ⟨⟨hw.ok, ?_, ?_⟩, hw.fails, hw.room, by rw [hw.next, h.next]; omega, ?_, ?_, ?_, ?_, ?_⟩
  · rw [idsN_len, List.length_append, ← h.ex.len, idsN_len]; rfl
  · rw [hw.runs, h.ex.runs, h.next, idsN_succ, List.map_append, List.zip_append (by rw [List.length_map, h.ex.len])]
    simp
  · rw [hw.writes, h.writes, hfl, List.length_append]; omega
  · intro t ht
    rcases List.mem_append.1 ht with ht | ht
    · exact h.srt t ht
    · rw [List.mem_singleton.1 ht]; exact hs
  · intro x hx
    rw [hfl] at hx
    rcases List.mem_append.1 hx with hx | hx
    · exact h.may x hx
    · exact hm x hx
  · rw [hfl, sumK_app]; have := h.sum; omega
  · rw [hfl, List.length_append]; have := h.few; omega
theorem Gd.used {S : StoreM} {i : Nat} {Ks : List (List K3i)} (h : Gd S i Ks) : S.used = (sumK Ks.flatten : Nat) := h.ex.used
theorem fullN_snoc (Ks : List (List K3i)) (K : List K3i) : fullN (Ks ++ [K]) = fullN Ks + if 0 < K.length then 1 else 0 := by
  unfold fullN
  rw [List.filter_append, List.length_append]
  congr 1
  cases K <;> rfl
/-- The items of lists, sorted list by list. -/
structure Al (w : World) (Ks : List (List K3i)) (X : List ItX) : Prop where
  perm : Ks.flatten.Perm (X.map keyX)
  dat : ∀ x ∈ X, DatI w x.1 x.2
theorem Al.start (w : World) : Al w [] [] := ⟨List.Perm.refl _, fun x hx => by cases hx⟩
theorem Al.more {w : World} {Ks : List (List K3i)} {X Y : List ItX} (h : Al w Ks X) (hY : ∀ x ∈ Y, DatI w x.1 x.2) : Al w (Ks ++ [srt ltK (Y.map keyX)]) (X ++ Y) := by
  refine ⟨?_, fun x hx => ?_⟩
  · rw [List.map_append, List.flatten_append]
    refine h.perm.append ?_
    simp only [List.flatten_cons, List.flatten_nil, List.append_nil]
    exact srt_perm _
  · rcases List.mem_append.1 hx with hx | hx
    · exact h.dat x hx
    · exact hY x hx
theorem Al.len {w : World} {Ks : List (List K3i)} {X : List ItX} (h : Al w Ks X) : X.length = Ks.flatten.length := by
  have := h.perm.length_eq
  rw [List.length_map] at this
  exact this.symm
end Go.Proofs.Ytkglkpcpgdeneaa
