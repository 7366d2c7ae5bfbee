/- A source: so many bytes of it; its methods. Conditions: none. -/
import Derived.Test.YtiobacnepacjnaaSrcA
import Derived.Test.YtiobacnepacjnaaCloneB
import Derived.Test.YtiobacnepacjnaaCloneI
import Derived.Test.YtiobacnepacjnaaNumPad
import Derived.Test.YtiobacnepacjnaaStr
namespace Go.Proofs.Ytiobacnepacjnaa
open Go.RowKit

theorem infoU8s : (Try.prog.info? 5).map (fun i => (i.zero, i.size, i.bytes)) = some (some (.int .u8 0), 1, 1) := by kernel_rfl
theorem own_len' {w : World} {base n : Nat} {v : Value} {L : List UInt8} (h : w.ownsRow base 5 1 v n (bys L)) : L.length = n := by have := h.1; rw [bys_length] at this; omega
/-- Full's answer: the bytes, in new memory. -/
def FullPost (w : World) (F : Nat → Prop) (sb : Nat) (l : List UInt8) (place n : Nat) (e : Ending) (w' : World) : Prop := ∃ (A : Option Addr) (c m : Nat), m = min n l.length ∧ e = .returned (.slice A m c) ∧ m ≤ c ∧ w'.ownsRow w.heap.size 5 1 (.slice A m c) m (bys (l.take m)) ∧ A.isSome = true ∧ SrcIs w' F sb (l.drop m) (place + m) ∧ Keep (fun j => j = sb) w w'
/-- The loop's state: j bytes are there. -/
def FullAt (w : World) (F : Nat → Prop) (sb : Nat) (l : List UInt8) (place j : Nat) (A : Option Addr) (c : Nat) (wr : World) : Prop :=
  wr.ownsRow w.heap.size 5 1 (.slice A j c) j (bys (l.take j)) ∧ SrcIs wr F sb (l.drop j) (place + j) ∧ Keep (fun i => i = sb) w wr ∧ A.isSome = true ∧ j ≤ c
theorem take_drop_take (l : List UInt8) (j k : Nat) : bys (l.take j) ++ bys ((l.drop j).take k) = bys (l.take (j + k)) := by
  rw [← bys_append, List.take_add]
set_option maxRecDepth 100000 in
set_option maxHeartbeats 4000000 in
theorem full_any (w : World) (F : Nat → Prop) (sb : Nat) (l : List UInt8) (place n : Nat) (h : SrcIs w F sb l place) (h1 : n ≤ 9223372036854775807) (h3 : place + l.length ≤ 4611686018427387904) (h4 : l.length ≤ 140737488351232) :
    Calls Try.prog 22 #[.pointer (some ⟨sb, 0, none⟩), .int .i64 n] w (FullPost w F sb l place n) := by
  have HS := Lib.hid h
  obtain ⟨A, c, C, cc, ch, t, hB, _, _, _, _, _, _, hfs, hfl⟩ := h
  have HFF := Lib.hid (And.intro hfs hfl)
  have c0 := hB.cell 0
  simp only [List.getElem?_cons_zero] at c0
  have HN := Lib.hid h1
  have HB : Hid (place + l.length ≤ 4611686018427387904 ∧ l.length ≤ 140737488351232) := Lib.hid (by omega)
  clear hB h1 h3 h4 hfs hfl
  go_enter Try.func22, Try.ntmps22
  go_upto_region 2 with fail
  obtain ⟨m, hm, hm2⟩ : ∃ m : Nat, (if l.length < n then (l.length : Int) else (n : Int)) = (m : Int) ∧ m = min n l.length := by
    by_cases h : l.length < n
    · rw [if_pos h]; exact ⟨l.length, rfl, by omega⟩
    · rw [if_neg h]; exact ⟨n, rfl, by omega⟩
  rw [hm]
  have HM := Lib.hid hm2
  have hm3 : m ≤ l.length := by omega
  have q1 : (0 : Int) ≤ (m : Int) := by omega
  have q2 : (m : Int) ≤ 140737488351232 := by have := HB.out.2; omega
  clear hm hm2 c0
  obtain ⟨i0, hi, hzz⟩ := Option.map_eq_some_iff.1 infoU8s
  simp only [Prod.mk.injEq] at hzz
  obtain ⟨wm, hmk, hom, hgm⟩ := run_make_own (P := Try.prog) w w.heap.size 22 5 i0 (.int .u8 0) 1 Try.underlying22 hi hzz.1 hzz.2.1 .i64 .i64 m (by rw [hzz.2.2]; omega) (by unfold maxLen; omega) (Nat.le_refl _)
  have hk0 : Keep (fun i => i = sb) w wm := (Keep.of_grown hgm).mono (fun k _ h => by cases h)
  have HF0 : Hid (FullAt w F sb l place 0 (some ⟨w.heap.size, 0, none⟩) m wm) := Lib.hid ⟨by simpa [bys] using hom, by simpa using HS.out.keep (Keep.of_grown hgm) (fun j _ h => by cases h), hk0, rfl, Nat.zero_le _⟩
  have HM3 := Lib.hid hm3
  clear hom hgm hk0 hzz hi HS hm3
  go_wp2_with fail
  clear hmk
  go_loopw [5] (fun v5 wr => ∃ (j : Nat) (A : Option Addr) (c : Nat), j ≤ m ∧ v5 = .slice A j c ∧ Hid (FullAt w F sb l place j A c wr)) (fun v5 _ => m - (match v5 with | .slice _ k _ => k | _ => 0))
  case atStart => exact ⟨0, _, _, Nat.zero_le _, rfl, HF0⟩
  case round =>
    clear HF0
    obtain ⟨j, A, c, hj, rfl, HFA⟩ := hrel
    have r0 : (0 : Int) ≤ (j : Int) := by omega
    by_cases hlt : j < m
    · have r1 : (j : Int) < (m : Int) := by omega
      have HJ := Lib.hid hlt
      have d1 : decide (j < m) = true := decide_eq_true hlt
      have HLD : Hid (m - j ≤ (l.drop j).length) := Lib.hid (by rw [List.length_drop]; have := HM3.out; omega)
      obtain ⟨q, hq⟩ : ∃ q : Nat, (m : Int) - (j : Int) = (q : Int) := ⟨m - j, by omega⟩
      have HQ : Hid (q = m - j) := Lib.hid (by omega)
      clear hlt
      go_wp2_with fail
      clear hq
      refine (some_any wr F sb (l.drop j) (place + j) q HFA.out.2.1 (by have := HQ.out; have := HJ.out; omega) (by rw [HQ.out]; exact HLD.out) (by have := HB.out.1; have := HM3.out; have := HQ.out; have := HJ.out; omega)).mono ?_
      rintro e w2 ⟨k, A2, c2, hk1, hk2, rfl, hkc, hr2, hA2, hs2, hkk⟩
      have HK := Lib.hid (And.intro hk1 hk2)
      have HR2 := Lib.hid hr2
      have hne : ∀ g', Value.ownBlock (.slice A j c) = some g' → w.heap.size ≤ g' := fun g' e => own_base HFA.out.1 g' e
      have HO2 := Lib.hid (own_keep' HFA.out.1 hkk (fun g' e e2 => by have := hne g' e; have e3 : g' = sb := e2; have := HFF.out.2 sb HFF.out.1; omega))
      have HS2 := Lib.hid hs2
      have HK2 : Hid (Keep (fun i => i = sb) w w2) := Lib.hid (HFA.out.2.2.1.trans' hkk (fun _ _ h => h))
      have hlen : (bys ((l.drop j).take k)).length = k * 1 := by
        rw [bys_length, List.length_take, List.length_drop]
        have := HK.out
        have := HQ.out
        have := HJ.out
        have := HM3.out
        omega
      have HLN := Lib.hid hlen
      have HA2 := Lib.hid hA2
      have HI8 := Lib.hid infoU8s
      have hjk : j + k ≤ 140737488351232 := by have := HK.out; have := HQ.out; have := HB.out; have := HM3.out; have := HJ.out; omega
      have HJK := Lib.hid hjk
      clear hk1 hk2 hr2 hs2 hkk hlen hA2 hne hjk hkc
      go_wp2_with (
        at_builtin
        refine wpL_append _ rfl (.tmp 19) (.tmp 25) 22 22 rfl w.heap.size 5 (.int .u8 0) 1 1 Try.underlying22 HI8.out rfl (by decide) (.slice A j c) j (bys (l.take j)) rfl HO2.out (.slice A2 k c2) k (bys ((l.drop j).take k)) rfl (Src.of_rd Try.underlying22 HR2.out k c2 HLN.out (one_bys _) (fun e => by have := HA2.out; rw [e] at this; cases this)) (by have := HJK.out; unfold maxLen; omega) (by have := HJK.out; omega) HK2.out.size ?_
        intro v3 w3 ho3 hg3 _
        rw [take_drop_take] at ho3
        have HO3 := Lib.hid ho3
        have HG3 := Lib.hid hg3
        clear ho3 hg3)
      obtain ⟨A3, c3, rfl, hc3, _, hn3⟩ := own_rd HO3.out
      have HN3 := Lib.hid (And.intro hc3 hn3)
      clear hc3 hn3
      go_roundw
      case rel =>
        have hnb : ∀ i, F i → ¬ (some i = Value.ownBlock (.slice A j c)) := fun i hi e => by
          have := own_base HO2.out i e.symm
          have := HFF.out.2 i hi
          omega
        have hnb2 : ∀ i, i < w.heap.size → ¬ (some i = Value.ownBlock (.slice A j c)) := fun i hi e => by
          have := own_base HO2.out i e.symm
          omega
        refine ⟨j + k, A3, c3, by have := HK.out; have := HQ.out; have := HJ.out; omega, rfl, Lib.hid ⟨HO3.out, ?_, ?_, ?_, HN3.out.1⟩⟩
        · have h := HS2.out.keep (Keep.of_grown HG3.out) hnb
          rw [List.drop_drop] at h
          rwa [Nat.add_assoc] at h
        · exact HK2.out.trans' (Keep.of_grown HG3.out) (fun i hi e => absurd e (hnb2 i hi))
        · cases A3 with
          | none => have := HN3.out.2 rfl; have := HK.out; omega
          | some _ => rfl
      case measure => have := HJ.out; have := HK.out; simp; omega
    · obtain rfl : j = m := by omega
      have d1 : decide (j < j) = false := decide_eq_false (by omega)
      go_wp2_with fail
      go_ret
      exact ⟨A, c, j, HM.out, rfl, HFA.out.2.2.2.2, HFA.out.1, HFA.out.2.2.2.1, HFA.out.2.1, HFA.out.2.2.1⟩
end Go.Proofs.Ytiobacnepacjnaa
