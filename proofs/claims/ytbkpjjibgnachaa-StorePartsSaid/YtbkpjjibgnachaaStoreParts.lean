/- The call of StoreParts. Conditions: none. -/
import Derived.Test.YtbkpjjibgnachaaLaw14
namespace Go.Proofs.Ytbkpjjibgnachaa
open Go.RowKit

def partsS (L : List (List UInt8)) (i : Nat) : StoreM := ⟨1048576, 1, (L.take i).flatten.length, (L.take i).flatten.length, i, [], [(0, (L.take i).flatten)]⟩
theorem flat_succ (L : List (List UInt8)) (i : Nat) (h : i < L.length) : (L.take (i + 1)).flatten = (L.take i).flatten ++ L[i] := by
  rw [List.take_succ_eq_append_getElem h, List.flatten_append]
  simp
theorem partsS_add (L : List (List UInt8)) (i : Nat) (h : i < L.length) : (partsS L i).add 0 L[i] = partsS L (i + 1) := by
  unfold partsS StoreM.add
  rw [flat_succ L i h]
  simp
  omega

theorem storeParts_walk (w : World) (A : Option Addr) (n c : Nat) (L : List (List UInt8)) (hn : n = L.length) (hr : RdRows w A L) (hm : n ≤ 9223372036854775807) (k : Int) (hk : IntKind.u8.min ≤ k ∧ k ≤ IntKind.u8.max) :
    Calls Try.prog 3 #[.slice A n c, .int .u8 k] w fun e w' => e = .returned (.bool true) ∧ Below w.heap.size w w' := by
  subst hn
  have hk0 : 0 ≤ k := hk.1
  have hk1 : k ≤ 255 := hk.2
  have HR := Lib.hid hr
  clear hr hk
  go_enter Try.func3, Try.ntmps3
  go_wp2_with fail
  refine (new_any 1048576 none 0 0 [] _ (by omega) (RdV.nil _ _) rfl (fun _ => ⟨rfl, rfl⟩) (by omega)).mono ?_
  rintro e w1 ⟨sb, rfl, hs, hk⟩
  have HS := Lib.hid hs
  have HO := Lib.hid ((Own.start w).step hk)
  clear hs hk
  go_wp2_with fail
  refine (create_c _ _ sb _ (partsS L 0) 0 HS.out rfl (by decide) rfl).mono ?_
  rintro e w2 ⟨rfl, hs, hk⟩
  have H2 : Hid (∃ F, IsStore w2 F sb (partsS L 0) ∧ Own w w2 F) := Lib.hid ⟨_, hs, HO.out.step hk⟩
  clear hs hk HS HO
  go_wp2_with fail
  go_loopw [8, 9] (fun va vi wr => ∃ i : Nat, i ≤ L.length ∧ vi = .int .i64 i ∧ va = .string (str (L.take i).flatten) ∧ Hid (L.length ≤ 50 ∨ i = 0) ∧ Hid ((L.take i).flatten.length ≤ 500 * i) ∧ Hid (∃ F, IsStore wr F sb (partsS L i) ∧ Own w wr F)) (fun _ i _ => L.length - (intOf i).toNat)
  case atStart => exact ⟨0, by omega, rfl, rfl, Lib.hid (.inr rfl), Lib.hid (by simp), H2⟩
  case round =>
    obtain ⟨i, hi, rfl, rfl, H50, HL, HS⟩ := hrel
    clear H2
    obtain ⟨F, hS, hO⟩ := HS.out
    have HS1 := Lib.hid hS
    have HO1 := Lib.hid hO
    clear HS hS hO
    by_cases hlt : i < L.length
    · obtain ⟨x, A', c', rfl, hc0, hr0, hnn⟩ := HR.out i hlt
      have hc := old_cell hc0 HO1.out.keep
      have HC0 := Lib.hid hc0
      have HR0 := Lib.hid hr0
      have HRV := Lib.hid (hr0.old HO1.out.keep)
      have HNN := Lib.hid hnn
      clear hc0 hr0 hnn
      by_cases h50 : 50 < L.length
      · go_wp2_with (go_at_call 17; refine (answers14 _).mono ?_; rintro e w' ⟨rfl, hb⟩; have HB := Lib.hid hb; clear hb)
        go_ret
        exact ⟨rfl, (HO1.out.keep.trans' (Keep.of_below HB.out) (fun j hj h => by have := HO1.out.keep.size; omega)).below (Nat.le_refl _) (fun _ _ h => h)⟩
      · have d1 : decide (50 < L.length) = false := decide_eq_false h50
        by_cases h500 : 500 < L[i].length
        · go_wp2_with (go_at_call 17; refine (answers14 _).mono ?_; rintro e w' ⟨rfl, hb⟩; have HB := Lib.hid hb; clear hb)
          go_ret
          exact ⟨rfl, (HO1.out.keep.trans' (Keep.of_below HB.out) (fun j hj h => by have := HO1.out.keep.size; omega)).below (Nat.le_refl _) (fun _ _ h => h)⟩
        · have d2 : decide (500 < L[i].length) = false := decide_eq_false h500
          have hi50 : i ≤ 50 := by rcases H50.out with h | h <;> omega
          have hlen : (L.take i).flatten.length + L[i].length ≤ 26000 := by have := HL.out; omega
          have HLEN := Lib.hid hlen
          clear hlen
          go_wp2_with fail
          refine (append_okc _ F sb _ (partsS L (i + 1)) HS1.out 0 _ _ _ L[i] (by simp [partsS]; omega) (L.take i).flatten rfl (by simp [partsS]) rfl HRV.out (fun e => by rw [HNN.out e]; rfl)
            (fun hne y hy hf => by have h1 := HR0.out.low (by simp [bys]; exact hne) y hy; have h2 := HO1.out.foot _ hf; omega)
            (by show (L[i].length : Int) ≤ 1048576 - ((L.take i).flatten.length : Int); have := HLEN.out; omega) (by have := HLEN.out; omega) (partsS_add L i hlt)).mono ?_
          rintro e w3 ⟨rfl, hs, hk⟩
          have HS3 := Lib.hid hs
          have HO3 := Lib.hid (HO1.out.step hk)
          clear hs hk
          have hc3 := old_cell HC0.out HO3.out.keep
          have kb := fun (_ : True) => run_bytes_str (P := Try.prog) 28 9 5 Try.underlying28 Try.underlying5 Try.underlying9 L[i].length c' (HR0.out.old HO3.out.keep) rfl HNN.out
          have hsz : (str (L.take i).flatten).size + (str L[i]).size ≤ 26000 := by rw [str_size, str_size]; exact HLEN.out
          go_wp2_with fail
          go_roundw
          case rel =>
            refine ⟨i + 1, by omega, by go_num, by rw [str_append, flat_succ L i hlt], Lib.hid (.inl (by omega)), Lib.hid ?_, Lib.hid ⟨_, HS3.out, HO3.out⟩⟩
            rw [flat_succ L i hlt, List.length_append]
            have := HL.out
            omega
          case measure => simp [intOf]; omega
    · have HT0 : Hid (i ≤ 50) := Lib.hid (by rcases H50.out with h | h <;> omega)
      obtain ⟨T, hT⟩ : ∃ T, (L.take i).flatten = T := ⟨_, rfl⟩
      have hTl : T.length ≤ 25000 := by rw [← hT]; have h1 := HL.out; have h2 := HT0.out; omega
      have HF : Hid ((partsS L i).find 0 = some T ∧ (partsS L i).used = T.length) := Lib.hid ⟨by rw [← hT]; rfl, by rw [← hT]; rfl⟩
      have hST : (str T).size = T.length := str_size T
      have HS2 : Hid (∃ F, IsStore wr F sb (partsS L i) ∧ Own w wr F) := Lib.hid ⟨F, HS1.out, HO1.out⟩
      rw [hT]
      clear hT HL HT0 H50 HS1 HO1
      go_wp2_with fail
      go_loopw [10] (fun vg wq => ∃ m : Nat, m ≤ T.length ∧ vg = .string (str (T.take m)) ∧ Hid (∃ F, IsStore wq F sb (partsS L i) ∧ Own w wq F)) (fun v _ => T.length - strLen v)
      case atStart => exact ⟨0, by omega, rfl, HS2⟩
      case round =>
        obtain ⟨m, hm', rfl, HS⟩ := hrel
        clear HS2
        obtain ⟨F2, hS, hO⟩ := HS.out
        have HS1 := Lib.hid hS
        have HO1 := Lib.hid hO
        clear HS hS hO
        by_cases hlt2 : m < T.length
        · have hSM : (str (T.take m)).size = m := by rw [str_size, List.length_take]; omega
          obtain ⟨k2, hk2⟩ : ∃ k2, k2 = min (k + 1).toNat (T.length - m) := ⟨_, rfl⟩
          have hk2a : 0 < k2 := by omega
          have hk2b : m + k2 ≤ T.length := by omega
          have hk2c : ((k2 : Int) == 0) = false := by simp; omega
          have HK2 := Lib.hid hk2
          clear hk2
          go_wp2_with fail
          refine (read_c _ F2 sb _ HS1.out 0 m (k + 1).toNat k2 _ _ rfl (by omega) T ((T.drop m).take k2) HF.out.1 hm' (by omega) HK2.out (by omega) rfl).mono ?_
          rintro e w3 ⟨v, rfl, hown, hk3⟩
          have HS3 := Lib.hid (HS1.out.keep hk3 (fun _ _ h => h))
          have HO3 := Lib.hid (HO1.out.keeps hk3 (fun _ _ h => h))
          obtain ⟨A3, c3, rfl, _, hr3, hn3⟩ := own_rd hown
          have kb := fun (_ : True) => run_bytes_str (P := Try.prog) 28 9 5 Try.underlying28 Try.underlying5 Try.underlying9 k2 c3 hr3 (by simp; omega) (fun e => by have := hn3 e; omega)
          have hsz : (str ((T.drop m).take k2)).size ≤ 25000 := by rw [str_size, List.length_take, List.length_drop]; omega
          clear hown hk3 hr3 hn3
          go_wp2_with fail
          go_roundw
          case rel =>
            refine ⟨m + k2, by omega, ?_, Lib.hid ⟨F2, HS3.out, HO3.out⟩⟩
            rw [str_append, List.take_add]
          case measure =>
            simp only [strLen]
            rw [str_append, str_size, str_size]
            simp
            omega
        · rw [List.take_of_length_le (by omega)]
          have hU := HF.out.2
          go_wp2_with (first
            | (go_at_call 17; refine (answers14 _).mono ?_; rintro e w' ⟨rfl, hb⟩; have HB := Lib.hid hb; clear hb)
            | (go_at_call 20; refine (size_yes _ F2 sb _ (HS1.out.keep (Keep.of_below HB.out) (fun k hk h => by have := HS1.out.lt k hk; omega)) 0 T HF.out.1).mono ?_; rintro e w'' ⟨rfl, rfl⟩)
            | (go_at_call 21; refine (used_any _ F2 sb _ (HS1.out.keep (Keep.of_below HB.out) (fun k hk h => by have := HS1.out.lt k hk; omega))).mono ?_; rintro e w'' ⟨rfl, rfl⟩))
          go_ret
          exact ⟨rfl, (HO1.out.keep.trans' (Keep.of_below HB.out) (fun j hj h => by have := HO1.out.keep.size; omega)).below (Nat.le_refl _) (fun _ _ h => h)⟩
end Go.Proofs.Ytbkpjjibgnachaa
