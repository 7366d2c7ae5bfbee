/- ref01: Field. (alias Tryd) Conditions: none. -/
import Derived.Test.YtgealodojemoeaaDoorFieldJ
import Derived.DataElems
namespace Go.Proofs.YtgealodojemoeaaDoor
open Go.RowKit
set_option linter.unusedVariables false
set_option linter.unusedSimpArgs false

/-- A field's number, as the reference says it. -/
def fieldR : List UInt8 → Nat × Bool
  | [] => (0, false)
  | d :: r => if d = 128 then readL 256 0 r else readL 8 0 ((trimF (d :: r)).map (· - 48))
theorem parse_field (L : List UInt8) : parseF L = keptP (fieldR L) := by
  unfold parseF fieldR
  rcases L with _ | ⟨d, r⟩
  · rfl
  · by_cases h : d = 128
    · simp [h]
    · simp [h]
theorem rd_add {w : World} {x : Addr} {L : List UInt8} (h : RdV w (some x) (bys L)) (i : Nat) (d : UInt8) (hi : L[i]? = some d) : w.cell? (x.add i) = some (.int .u8 (d.toNat : Int)) := by
  obtain ⟨a, ha, hc⟩ := h i (.int .u8 (d.toNat : Int)) (by simp [bys, hi])
  cases ha
  exact hc
theorem rdv_add {w : World} {x : Addr} {L : List UInt8} (h : RdV w (some x) (bys L)) (j : Nat) : RdV w (some (x.add j)) (bys (L.drop j)) := by
  intro i u hi
  refine ⟨_, rfl, ?_⟩
  obtain ⟨y, hy, hc⟩ := h (j + i) u (by rw [← hi]; simp [bys])
  cases hy
  rwa [Addr.add_add]
theorem add0 (x : Addr) : x.add 0 = x := by unfold Addr.add; split <;> simp_all
theorem bz_iff (d : UInt8) : isBZ d = true ↔ d.toNat = 32 ∨ d.toNat = 0 := by
  constructor
  · intro h
    simp [isBZ, blankZero] at h
    rcases h with rfl | rfl
    · exact .inl rfl
    · exact .inr rfl
  · intro h
    simp [isBZ, blankZero]
    rcases h with h | h
    · exact .inl (UInt8.toNat_inj.1 h)
    · exact .inr (UInt8.toNat_inj.1 h)
set_option maxRecDepth 100000 in
set_option maxHeartbeats 8000000 in
theorem ref_field (w : World) (A : Option Addr) (n c : Nat) (L : List UInt8) (hn : n = L.length) (hr : RdV w A (bys L)) (hA0 : A = none → n = 0) (hc : n ≤ c) (hc2 : c ≤ 9223372036854775807) (hc3 : n ≤ 140737488355328) :
    Calls Tryd.prog 10 #[.slice A n c] w fun e w' => e = .returned (.tuple #[.int .i64 (fieldR L).1, .bool (fieldR L).2]) ∧ w = w' := by
  rcases L with _ | ⟨d, r⟩
  · simp at hn
    subst hn
    clear hr hA0 hc hc2 hc3
    go_enter Tryd.func10, Tryd.ntmps10
    go_wp2_with fail
    go_ret2
    exact ⟨rfl, rfl⟩
  · rcases A with _ | x
    · have := hA0 rfl; rw [this] at hn; simp at hn
    · have d0 := rd_add hr 0 d rfl
      rw [add0] at d0
      have HR := Lib.hid (And.intro hr (And.intro hn (And.intro hc (And.intro hc2 hc3))))
      have q0 : ¬ (n : Int) = 0 := by simp at hn; omega
      have q1 : (0 : Int) < n := by simp at hn; omega
      have q3 : (n : Int) ≤ c := by omega
      have q4 : (n : Int) ≤ 140737488355328 := by omega
      obtain ⟨z, hz⟩ : ∃ z, z = (d.toNat : Int) := ⟨_, rfl⟩
      rw [← hz] at d0
      by_cases h128 : d = 128
      · subst h128
        have hz2 : z = 128 := hz
        subst hz2
        clear hz hn hc hc2 hc3 hr hA0
        go_enter Tryd.func10, Tryd.ntmps10
        go_wp2_with fail
        clear d0
        go_loopw [4, 5] (fun v4 v5 wr => ∃ (i m : Nat), i + 1 ≤ n ∧ v4 = .int .i64 m ∧ v5 = .int .i64 ((i : Int) + 1) ∧ Hid (m ≤ 4611686018427388160 ∧ readL 256 m (r.drop i) = readL 256 0 r) ∧ wr = w) (fun _ v5 _ => n - (intOf v5).toNat)
        case atStart => exact ⟨0, 0, by omega, rfl, rfl, Lib.hid ⟨by omega, by rw [List.drop_zero]⟩, rfl⟩
        case round =>
          obtain ⟨i, m, hi, rfl, rfl, HM, rfl⟩ := hrel
          have q5 : (m : Int) ≤ 4611686018427388160 := by have := HM.out.1; omega
          by_cases hlt : i + 1 < n
          · obtain ⟨y, hy⟩ : ∃ y, r[i]? = some y := ⟨_, List.getElem?_eq_getElem (by have := HR.out.2.1; simp at this; omega)⟩
            have hdr : r.drop i = y :: r.drop (i + 1) := by
              rw [List.drop_eq_getElem_cons (List.getElem?_eq_some_iff.1 hy).1]
              congr 1
              exact (List.getElem?_eq_some_iff.1 hy).2
            have d1 := rd_add HR.out.1 (i + 1) y (by simpa using hy)
            obtain ⟨z, hz⟩ : ∃ z, z = y.toNat := ⟨_, rfl⟩
            rw [← hz] at d1
            have hz2 : z ≤ 255 := by have := y.toNat_lt; omega
            have q6 : (z : Int) ≤ 255 := by omega
            obtain ⟨j, hj⟩ : ∃ j, j = i + 1 := ⟨_, rfl⟩
            have e1 : ((i : Int) + 1) = (j : Int) := by omega
            rw [← hj] at d1
            rw [e1]
            have q7 : (j : Int) < (n : Int) := by omega
            have HD := Lib.hid (And.intro hdr (And.intro hz (And.intro hlt (And.intro hj hz2))))
            clear hy hdr hz hlt hz2 e1 hj hi
            by_cases hmm : 18014398509481984 < m
            · have q8 : (18014398509481984 : Int) < (m : Int) := by omega
              have h1 : readL 256 0 r = (0, false) := by rw [← HM.out.2, HD.out.1, readL, if_pos (.inr (by omega))]
              have H1 := Lib.hid h1
              clear h1 hmm
              go_wp2_with fail
              go_ret2
              refine ⟨?_, rfl⟩
              show _ = Ending.returned (.tuple #[.int .i64 ((fieldR (128 :: r)).1 : Nat), .bool (fieldR (128 :: r)).2])
              rw [show fieldR (128 :: r) = readL 256 0 r from rfl, H1.out]
              rfl
            · have q8 : ¬ (18014398509481984 : Int) < (m : Int) := by omega
              have HN := Lib.hid hmm
              clear hmm
              go_wp2_with fail
              go_roundw
              case rel =>
                have h9 := HD.out
                have h8 := HN.out
                refine ⟨i + 1, m * 256 + z, by omega, by go_num, ?_, Lib.hid ⟨by omega, ?_⟩, trivial⟩
                · rw [h9.2.2.2.1]
                · rw [← HM.out.2, h9.1, readL, if_neg (by omega), h9.2.1]
              case measure => have := HD.out.2.2; simp [intOf]; omega
          · have hil : n = i + 1 := by omega
            have hrl : r.length = i := by have := HR.out.2.1; simp at this; omega
            have e1 : ((i : Int) + 1) = (n : Int) := by omega
            rw [e1]
            have h1 : readL 256 0 r = (m, decide (m ≤ 4611686018427387904)) := by
              rw [← HM.out.2, List.drop_of_length_le (by omega), readL]
            have H1 := Lib.hid h1
            clear h1 hlt hi hil hrl e1
            by_cases hm : m ≤ 4611686018427387904
            · have q8 : (m : Int) ≤ 4611686018427387904 := by omega
              have HH := Lib.hid hm
              clear hm
              go_wp2_with fail
              go_ret2
              refine ⟨?_, rfl⟩
              rw [show fieldR (128 :: r) = readL 256 0 r from rfl, H1.out, decide_eq_true HH.out]
              rfl
            · have q8 : ¬ (m : Int) ≤ 4611686018427387904 := by omega
              have HH := Lib.hid hm
              clear hm
              go_wp2_with fail
              go_ret2
              refine ⟨?_, rfl⟩
              rw [show fieldR (128 :: r) = readL 256 0 r from rfl, H1.out, decide_eq_false HH.out]
              rfl
      · have hz2 : ¬ z = 128 := by
          intro e
          apply h128
          apply UInt8.toNat_inj.1
          show _ = 128
          omega
        have H128 := Lib.hid h128
        clear h128 hz hn hc hc2 hc3 hr hA0
        go_enter Tryd.func10, Tryd.ntmps10
        go_wp2_with fail
        clear d0
        go_loopw [6] (fun v6 wr => ∃ i : Nat, i ≤ n ∧ v6 = .int .i64 i ∧ Hid (∀ j, j < i → (d :: r)[j]? = some 32) ∧ wr = w) (fun v6 _ => n - (intOf v6).toNat)
        case atStart => exact ⟨0, Nat.zero_le _, rfl, Lib.hid (fun j h => absurd h (Nat.not_lt_zero j)), rfl⟩
        case round =>
          obtain ⟨i, hi, rfl, HI, rfl⟩ := hrel
          by_cases hgo : i < n ∧ (d :: r)[i]? = some 32
          · obtain ⟨hlt, hy⟩ := hgo
            have d1 := rd_add HR.out.1 i 32 hy
            have q5 : (i : Int) < (n : Int) := by omega
            have HD := Lib.hid (And.intro hlt hy)
            clear hlt hy
            go_wp2_with fail
            go_roundw
            case rel =>
              refine ⟨i + 1, by have := HD.out.1; omega, by go_num, Lib.hid (fun j hj => ?_), trivial⟩
              rcases Nat.lt_or_ge j i with h4 | h4
              · exact HI.out j h4
              · obtain rfl : j = i := by omega
                exact HD.out.2
            case measure => have := HD.out.1; simp [intOf]; omega
          · have hstop : i = n ∨ i < n ∧ ∃ y, (d :: r)[i]? = some y ∧ y ≠ 32 := by
              rcases Nat.lt_or_ge i n with h1 | h1
              · obtain ⟨y, hy⟩ : ∃ y, (d :: r)[i]? = some y := ⟨_, List.getElem?_eq_getElem (by have := HR.out.2.1; omega)⟩
                exact .inr ⟨h1, y, hy, fun e => hgo ⟨h1, by rw [hy, e]⟩⟩
              · exact .inl (by omega)
            have hl : lead 32 (d :: r) = i := lead_stop HI.out (by
              rcases hstop with h1 | ⟨_, h1⟩
              · exact .inl (by have := HR.out.2.1; omega)
              · exact .inr h1)
            have HL := Lib.hid hl
            have q5 : (i : Int) ≤ (n : Int) := by omega
            clear hgo hl HI
            rcases hstop with h1 | ⟨h1, y, hy, hne⟩
            · have q6 : ¬ (i : Int) < (n : Int) := by omega
              clear h1
              go_wp2_with fail
              go_loopw [7] (fun v7 wx => ∃ t : Nat, i ≤ t ∧ t ≤ n ∧ v7 = .int .i64 t ∧ Hid (∀ j y, t ≤ j → (d :: r)[j]? = some y → isBZ y = true) ∧ wx = wr) (fun v7 _ => (intOf v7).toNat)
              case atStart => exact ⟨n, hi, Nat.le_refl _, rfl, Lib.hid (fun j y h1 h2 => by have := (List.getElem?_eq_some_iff.1 h2).1; have := HR.out.2.1; omega), rfl⟩
              case round =>
                clear q6
                obtain ⟨t, hit, htn, rfl, HT, rfl⟩ := hrel
                by_cases hgo : i < t ∧ ∃ y, (d :: r)[t - 1]? = some y ∧ isBZ y = true
                · obtain ⟨hlt, y, hy, hbz⟩ := hgo
                  have hy2 := (bz_iff y).1 hbz
                  obtain ⟨p, hp⟩ : ∃ p, p = t - 1 := ⟨_, rfl⟩
                  rw [← hp] at hy
                  have d1 := rd_add HR.out.1 p y hy
                  have e1 : IntKind.i64.wrap ((t : Int) - 1) = (p : Int) := by rw [IntWalk.i64_in _ (by omega)]; omega
                  have q7 : (i : Int) < (t : Int) := by omega
                  have q8 : (p : Int) < (n : Int) := by omega
                  have q9 : (0 : Int) ≤ (p : Int) := by omega
                  have HD := Lib.hid (And.intro hlt (And.intro hp (And.intro hy (And.intro hbz (And.intro hit htn)))))
                  obtain ⟨yz, hyz⟩ : ∃ yz, yz = y.toNat := ⟨_, rfl⟩
                  rw [← hyz] at d1 hy2
                  clear hlt hp hy hbz hyz hit htn
                  rcases hy2 with rfl | rfl
                  all_goals
                    go_wp2_with fail
                    go_roundw
                    case rel =>
                      have h9 := HD.out
                      refine ⟨p, by omega, by omega, rfl, Lib.hid (fun j y' h1 h2 => ?_), trivial⟩
                      rcases Nat.lt_or_ge j t with h3 | h3
                      · obtain rfl : j = p := by omega
                        rw [h9.2.2.1] at h2
                        cases h2
                        exact h9.2.2.2.1
                      · exact HT.out j y' h3 h2
                    case measure => have := HD.out; simp [intOf]; omega
                · have hk : keptR isBZ ((d :: r).drop i) = t - i := keptR_stop (by have := HR.out.2.1; rw [List.length_drop]; omega) (fun j y h1 h2 => HT.out (i + j) y (by omega) (by rwa [List.getElem?_drop] at h2)) (by
                    by_cases h : t = i
                    · exact .inl (by omega)
                    · refine .inr ?_
                      obtain ⟨y, hy⟩ : ∃ y, (d :: r)[t - 1]? = some y := ⟨_, List.getElem?_eq_getElem (by have := HR.out.2.1; omega)⟩
                      refine ⟨y, by rw [List.getElem?_drop, show i + (t - i - 1) = t - 1 by omega]; exact hy, ?_⟩
                      cases hb : isBZ y
                      · rfl
                      · exact absurd ⟨by omega, y, hy, hb⟩ hgo)
                  have htr : trimF (d :: r) = ((d :: r).drop i).take (t - i) := by unfold trimF; rw [HL.out, hk]
                  obtain ⟨tr, htr0⟩ : ∃ tr, tr = trimF (d :: r) := ⟨_, rfl⟩
                  rw [← htr0] at htr
                  have htl : t - i = tr.length := by
                    have := HR.out.2.1
                    rw [htr, List.length_take, List.length_drop]
                    omega
                  have kc2 : True → (convert 22 9 (.slice (some (x.add i)) (t - i) (c - i))).run Tryd.prog wr = .ok (.string (str tr)) wr := fun _ =>
                    conv_rd (by rw [htr, bys_take]; exact (rdv_add HR.out.1 i).take _) htl (fun h => by cases h) trivial
                  have kc1 : c = i → (convert 22 9 (.slice (some x) (t - i) 0)).run Tryd.prog wr = .ok (.string (str tr)) wr := fun hci =>
                    conv_rd (by
                      have h1 : tr = [] := List.eq_nil_of_length_eq_zero (by have := HR.out.2.2.1; omega)
                      rw [h1]
                      exact RdV.nil _ _) htl (fun h => by cases h) trivial
                  have HTR := Lib.hid (And.intro htr0 (And.intro htl (And.intro htn hk)))
                  have q7 : (i : Int) ≤ (t : Int) := by omega
                  have q8 : (t : Int) ≤ (c : Int) := by omega
                  have key := ref_octal wr tr (by omega)
                  have KEY := Lib.hid key
                  have HGO := Lib.hid hgo
                  clear key htr0 htl htr hk hgo
                  rcases Nat.lt_or_ge i t with hlt | hge
                  · obtain ⟨p, hp⟩ : ∃ p, p = t - 1 := ⟨_, rfl⟩
                    obtain ⟨y, hy⟩ : ∃ y, (d :: r)[p]? = some y := ⟨_, List.getElem?_eq_getElem (by have := HR.out.2.1; omega)⟩
                    have d1 := rd_add HR.out.1 p y hy
                    have e1 : IntKind.i64.wrap ((t : Int) - 1) = (p : Int) := by rw [IntWalk.i64_in _ (by omega)]; omega
                    have q9 : (i : Int) < (t : Int) := by omega
                    have q10 : (p : Int) < (n : Int) := by omega
                    have q11 : (0 : Int) ≤ (p : Int) := by omega
                    have hnb : ¬ (y.toNat = 32 ∨ y.toNat = 0) := fun h => HGO.out ⟨hlt, y, by rw [← hp]; exact hy, (bz_iff y).2 h⟩
                    have q12 : ¬ (y.toNat : Int) = 32 := by omega
                    have q13 : ¬ (y.toNat : Int) = 0 := by omega
                    generalize (y.toNat : Int) = yz at d1 q12 q13
                    clear hnb hy hp hlt
                    go_wp2_with fail
                    all_goals first
                      | (refine KEY.out.mono ?_
                         rintro e w4 ⟨rfl, rfl⟩
                         go_wp2_with fail
                         go_ret2
                         refine ⟨?_, rfl⟩
                         rw [show fieldR (d :: r) = if d = 128 then readL 256 0 r else readL 8 0 ((trimF (d :: r)).map (· - 48)) from rfl, if_neg H128.out, ← HTR.out.1]
                         rfl)
                      | (rename_i hbad
                         exfalso
                         rcases hbad with hbad | hbad <;> simp_all)
                  · have q9 : ¬ (i : Int) < (t : Int) := by omega
                    clear hge
                    go_wp2_with fail
                    all_goals
                      refine KEY.out.mono ?_
                      rintro e w4 ⟨rfl, rfl⟩
                      go_wp2_with fail
                      go_ret2
                      refine ⟨?_, rfl⟩
                      rw [show fieldR (d :: r) = if d = 128 then readL 256 0 r else readL 8 0 ((trimF (d :: r)).map (· - 48)) from rfl, if_neg H128.out, ← HTR.out.1]
                      rfl
            · have q6 : (i : Int) < (n : Int) := by omega
              have d1 := rd_add HR.out.1 i y hy
              have hne2 : ¬ (y.toNat : Int) = 32 := by
                intro e
                apply hne
                apply UInt8.toNat_inj.1
                show _ = 32
                omega
              generalize (y.toNat : Int) = yz at d1 hne2
              clear h1 hy hne
              go_wp2_with fail
              go_loopw [7] (fun v7 wx => ∃ t : Nat, i ≤ t ∧ t ≤ n ∧ v7 = .int .i64 t ∧ Hid (∀ j y, t ≤ j → (d :: r)[j]? = some y → isBZ y = true) ∧ wx = wr) (fun v7 _ => (intOf v7).toNat)
              case atStart => exact ⟨n, hi, Nat.le_refl _, rfl, Lib.hid (fun j y h1 h2 => by have := (List.getElem?_eq_some_iff.1 h2).1; have := HR.out.2.1; omega), rfl⟩
              case round =>
                clear q6 d1 hne2
                obtain ⟨t, hit, htn, rfl, HT, rfl⟩ := hrel
                by_cases hgo : i < t ∧ ∃ y, (d :: r)[t - 1]? = some y ∧ isBZ y = true
                · obtain ⟨hlt, y, hy, hbz⟩ := hgo
                  have hy2 := (bz_iff y).1 hbz
                  obtain ⟨p, hp⟩ : ∃ p, p = t - 1 := ⟨_, rfl⟩
                  rw [← hp] at hy
                  have d1 := rd_add HR.out.1 p y hy
                  have e1 : IntKind.i64.wrap ((t : Int) - 1) = (p : Int) := by rw [IntWalk.i64_in _ (by omega)]; omega
                  have q7 : (i : Int) < (t : Int) := by omega
                  have q8 : (p : Int) < (n : Int) := by omega
                  have q9 : (0 : Int) ≤ (p : Int) := by omega
                  have HD := Lib.hid (And.intro hlt (And.intro hp (And.intro hy (And.intro hbz (And.intro hit htn)))))
                  obtain ⟨yz, hyz⟩ : ∃ yz, yz = y.toNat := ⟨_, rfl⟩
                  rw [← hyz] at d1 hy2
                  clear hlt hp hy hbz hyz hit htn
                  rcases hy2 with rfl | rfl
                  all_goals
                    go_wp2_with fail
                    go_roundw
                    case rel =>
                      have h9 := HD.out
                      refine ⟨p, by omega, by omega, rfl, Lib.hid (fun j y' h1 h2 => ?_), trivial⟩
                      rcases Nat.lt_or_ge j t with h3 | h3
                      · obtain rfl : j = p := by omega
                        rw [h9.2.2.1] at h2
                        cases h2
                        exact h9.2.2.2.1
                      · exact HT.out j y' h3 h2
                    case measure => have := HD.out; simp [intOf]; omega
                · have hk : keptR isBZ ((d :: r).drop i) = t - i := keptR_stop (by have := HR.out.2.1; rw [List.length_drop]; omega) (fun j y h1 h2 => HT.out (i + j) y (by omega) (by rwa [List.getElem?_drop] at h2)) (by
                    by_cases h : t = i
                    · exact .inl (by omega)
                    · refine .inr ?_
                      obtain ⟨y, hy⟩ : ∃ y, (d :: r)[t - 1]? = some y := ⟨_, List.getElem?_eq_getElem (by have := HR.out.2.1; omega)⟩
                      refine ⟨y, by rw [List.getElem?_drop, show i + (t - i - 1) = t - 1 by omega]; exact hy, ?_⟩
                      cases hb : isBZ y
                      · rfl
                      · exact absurd ⟨by omega, y, hy, hb⟩ hgo)
                  have htr : trimF (d :: r) = ((d :: r).drop i).take (t - i) := by unfold trimF; rw [HL.out, hk]
                  obtain ⟨tr, htr0⟩ : ∃ tr, tr = trimF (d :: r) := ⟨_, rfl⟩
                  rw [← htr0] at htr
                  have htl : t - i = tr.length := by
                    have := HR.out.2.1
                    rw [htr, List.length_take, List.length_drop]
                    omega
                  have kc2 : True → (convert 22 9 (.slice (some (x.add i)) (t - i) (c - i))).run Tryd.prog wr = .ok (.string (str tr)) wr := fun _ =>
                    conv_rd (by rw [htr, bys_take]; exact (rdv_add HR.out.1 i).take _) htl (fun h => by cases h) trivial
                  have kc1 : c = i → (convert 22 9 (.slice (some x) (t - i) 0)).run Tryd.prog wr = .ok (.string (str tr)) wr := fun hci =>
                    conv_rd (by
                      have h1 : tr = [] := List.eq_nil_of_length_eq_zero (by have := HR.out.2.2.1; omega)
                      rw [h1]
                      exact RdV.nil _ _) htl (fun h => by cases h) trivial
                  have HTR := Lib.hid (And.intro htr0 (And.intro htl (And.intro htn hk)))
                  have q7 : (i : Int) ≤ (t : Int) := by omega
                  have q8 : (t : Int) ≤ (c : Int) := by omega
                  have key := ref_octal wr tr (by omega)
                  have KEY := Lib.hid key
                  have HGO := Lib.hid hgo
                  clear key htr0 htl htr hk hgo
                  rcases Nat.lt_or_ge i t with hlt | hge
                  · obtain ⟨p, hp⟩ : ∃ p, p = t - 1 := ⟨_, rfl⟩
                    obtain ⟨y, hy⟩ : ∃ y, (d :: r)[p]? = some y := ⟨_, List.getElem?_eq_getElem (by have := HR.out.2.1; omega)⟩
                    have d1 := rd_add HR.out.1 p y hy
                    have e1 : IntKind.i64.wrap ((t : Int) - 1) = (p : Int) := by rw [IntWalk.i64_in _ (by omega)]; omega
                    have q9 : (i : Int) < (t : Int) := by omega
                    have q10 : (p : Int) < (n : Int) := by omega
                    have q11 : (0 : Int) ≤ (p : Int) := by omega
                    have hnb : ¬ (y.toNat = 32 ∨ y.toNat = 0) := fun h => HGO.out ⟨hlt, y, by rw [← hp]; exact hy, (bz_iff y).2 h⟩
                    have q12 : ¬ (y.toNat : Int) = 32 := by omega
                    have q13 : ¬ (y.toNat : Int) = 0 := by omega
                    generalize (y.toNat : Int) = yz at d1 q12 q13
                    clear hnb hy hp hlt
                    go_wp2_with fail
                    all_goals first
                      | (refine KEY.out.mono ?_
                         rintro e w4 ⟨rfl, rfl⟩
                         go_wp2_with fail
                         go_ret2
                         refine ⟨?_, rfl⟩
                         rw [show fieldR (d :: r) = if d = 128 then readL 256 0 r else readL 8 0 ((trimF (d :: r)).map (· - 48)) from rfl, if_neg H128.out, ← HTR.out.1]
                         rfl)
                      | (rename_i hbad
                         exfalso
                         rcases hbad with hbad | hbad <;> simp_all)
                  · have q9 : ¬ (i : Int) < (t : Int) := by omega
                    clear hge
                    go_wp2_with fail
                    all_goals
                      refine KEY.out.mono ?_
                      rintro e w4 ⟨rfl, rfl⟩
                      go_wp2_with fail
                      go_ret2
                      refine ⟨?_, rfl⟩
                      rw [show fieldR (d :: r) = if d = 128 then readL 256 0 r else readL 8 0 ((trimF (d :: r)).map (· - 48)) from rfl, if_neg H128.out, ← HTR.out.1]
                      rfl
end Go.Proofs.YtgealodojemoeaaDoor
