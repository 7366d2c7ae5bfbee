/- FieldBlanks. (alias Tryd) Conditions: none. -/
import Derived.Test.YtgealodojemoeaaDoorFieldWide
import Derived.Lib.ConvBytes
namespace Go.Proofs.YtgealodojemoeaaDoor
open Go.RowKit
set_option linter.unusedVariables false
set_option linter.unusedSimpArgs false

theorem bytesWorld_kp (w : World) (e : TypeId) (s : ByteArray) : Kp w (Lib.bytesWorld w e s) :=
  ⟨rfl, rfl, rfl, by rw [Lib.bytesWorld_size]; omega, fun k hk _ => Lib.bytesWorld_at_old w e s k hk⟩
theorem bytesWorld_rdv (w : World) (e : TypeId) (s : ByteArray) : RdV (Lib.bytesWorld w e s) (some ⟨w.heap.size, 0, none⟩) (bys s.data.toList) := by
  intro j u hj
  refine ⟨_, rfl, ?_⟩
  have hl : j < s.data.toList.length := by have := (List.getElem?_eq_some_iff.1 hj).1; rwa [bys_length] at this
  rw [add_plain, Nat.zero_add, Lib.bytesWorld_cell w e s j (by show j < s.data.size; rwa [Array.length_toList] at hl)]
  rw [← hj]
  simp [bys, List.getD, List.getElem?_eq_getElem hl]
theorem put30 (m : Nat) (h : m ≤ 4294967295) : putF m 30 = some (digL 8 48 m 29 ++ [0]) := by
  unfold putF
  rw [if_pos (Nat.div_eq_of_lt (by show m < 8 ^ 29; omega))]
set_option maxRecDepth 100000 in
set_option maxHeartbeats 4000000 in
theorem fieldBlanks_walk (n : Int) (hn : IntKind.u32.min ≤ n ∧ n ≤ IntKind.u32.max) (x : Int) (hx : IntKind.u8.min ≤ x ∧ x ≤ IntKind.u8.max) (y : Int) (hy : IntKind.u8.min ≤ y ∧ y ≤ IntKind.u8.max) (zs : Bool) (w : World) :
    Calls Tryd.prog 6 #[.int .u32 n, .int .u8 x, .int .u8 y, .bool zs] w fun e w' => e = .returned (.bool true) ∧ Kp w w' := by
  have hn2 : 0 ≤ n ∧ n ≤ 4294967295 := by have e1 : IntKind.u32.min = 0 := rfl; have e2 : IntKind.u32.max = 4294967295 := rfl; omega
  have hx2 : 0 ≤ x ∧ x ≤ 255 := by have e1 : IntKind.u8.min = 0 := rfl; have e2 : IntKind.u8.max = 255 := rfl; omega
  have hy2 : 0 ≤ y ∧ y ≤ 255 := by have e1 : IntKind.u8.min = 0 := rfl; have e2 : IntKind.u8.max = 255 := rfl; omega
  obtain ⟨m, rfl⟩ := Int.eq_ofNat_of_zero_le hn2.1
  obtain ⟨k, rfl⟩ := Int.eq_ofNat_of_zero_le hx2.1
  obtain ⟨l, rfl⟩ := Int.eq_ofNat_of_zero_le hy2.1
  obtain ⟨a, ha⟩ : ∃ a, a = k % 9 := ⟨_, rfl⟩
  obtain ⟨b, hb⟩ : ∃ b, b = l % 9 := ⟨_, rfl⟩
  have ha2 : a < 9 := by omega
  have hb2 : b < 9 := by omega
  have t1 : (k : Int).tmod 9 = (a : Int) := by rw [ha]; rfl
  have t2 : (k : Int) % 9 = (a : Int) := by rw [ha]; rfl
  have t3 : IntKind.u8.wrap (a : Int) = (a : Int) := by rw [IntKind.wrap_u8]; omega
  have s1 : (l : Int).tmod 9 = (b : Int) := by rw [hb]; rfl
  have s2 : (l : Int) % 9 = (b : Int) := by rw [hb]; rfl
  have s3 : IntKind.u8.wrap (b : Int) = (b : Int) := by rw [IntKind.wrap_u8]; omega
  have q0 : (k : Int) ≤ 255 := by omega
  have q1 : (l : Int) ≤ 255 := by omega
  have q2 : (m : Int) ≤ 4294967295 := by omega
  have q3 : (a : Int) < 9 := by omega
  have q4 : (b : Int) < 9 := by omega
  have HM : Hid (m ≤ 4294967295) := Lib.hid (by omega)
  have HAB := Lib.hid (And.intro ha2 hb2)
  clear hn hx hy hn2 hx2 hy2 ha hb ha2 hb2
  go_enter Tryd.func6, Tryd.ntmps6
  go_wp2_with fail
  refine (put_some w m 30 m 30 rfl rfl (by have := HM.out; omega) (by omega) (by omega) _ (put30 m HM.out)).mono ?_
  rintro e w1 ⟨rfl, hb, hk⟩
  generalize w.heap.size = g at hb ⊢
  have HK1 := Lib.hid hk
  have HB1 := Lib.hid hb
  clear hk hb
  go_wp2_with fail
  go_loopw [11, 12] (fun v11 v12 wr => ∃ i : Nat, i ≤ a ∧ v11 = .string (str (List.replicate i 32)) ∧ v12 = .int .i64 i ∧ wr = w1) (fun _ v12 _ => a - (intOf v12).toNat)
  case atStart => exact ⟨0, Nat.zero_le _, rfl, rfl, rfl⟩
  case round =>
    obtain ⟨i, hi, rfl, rfl, rfl⟩ := hrel
    by_cases hlt : i < a
    · have q5 : (i : Int) < (a : Int) := by omega
      have hsz : (str (List.replicate i (32 : UInt8))).size ≤ 9 := by rw [str_size, List.length_replicate]; have := HAB.out; omega
      have hap : str (List.replicate i (32 : UInt8)) ++ (ByteArray.mk #[32]) = str (List.replicate (i + 1) 32) := by
        rw [List.replicate_succ', ← str_append]
        rfl
      have HAP := Lib.hid (And.intro hap hlt)
      clear hap hlt
      generalize str (List.replicate i (32 : UInt8)) = s at hsz HAP
      go_wp2_with fail
      go_roundw
      case rel => exact ⟨i + 1, HAP.out.2, by rw [HAP.out.1], by go_num, trivial⟩
      case measure => have := HAP.out.2; simp [intOf]; omega
    · have hia : i = a := by omega
      subst hia
      clear hlt hi
      have kc : True → (convert 22 9 (.slice (some ⟨g, 0, none⟩) 29 30)).run Tryd.prog wr = .ok (.string (str (digL 8 48 m 29))) wr := fun _ => conv_rd (by
        have h1 := (blk_rd HB1.out).take 29
        rwa [← bys_take, List.take_left' (digL_len _ _ _ _)] at h1) (digL_len _ _ _ _).symm (fun h => by cases h) trivial
      have hsz : (str (List.replicate i (32 : UInt8))).size ≤ 9 := by rw [str_size, List.length_replicate]; have := HAB.out; omega
      have hsz2 : (str (digL 8 48 m 29)).size ≤ 29 := by rw [str_size, digL_len]; exact Nat.le_refl _
      have hap : str (List.replicate i (32 : UInt8)) ++ str (digL 8 48 m 29) = str (List.replicate i 32 ++ digL 8 48 m 29 ++ []) := by
        rw [str_append, List.append_nil]
      have HAP := Lib.hid hap
      clear hap
      generalize str (List.replicate i (32 : UInt8)) = sa at hsz HAP
      generalize hsd : str (digL 8 48 m 29) = sd at hsz2 HAP kc
      clear hsd
      go_wp2_with fail
      go_loopw [11, 13] (fun v11 v13 wx => ∃ (j : Nat) (B : List UInt8), j ≤ b ∧ v11 = .string (str (List.replicate i 32 ++ digL 8 48 m 29 ++ B)) ∧ v13 = .int .i64 j ∧ Hid (B.length = j ∧ ∀ x ∈ B, isBZ x = true) ∧ wx = wr) (fun _ v13 _ => b - (intOf v13).toNat)
      case atStart => exact ⟨0, [], Nat.zero_le _, by rw [← HAP.out], rfl, Lib.hid ⟨rfl, fun x hx => by cases hx⟩, rfl⟩
      case round =>
        clear kc hsz hsz2 HAP
        obtain ⟨j, B, hj, rfl, rfl, HB, rfl⟩ := hrel
        have hlen : (List.replicate i (32 : UInt8) ++ digL 8 48 m 29 ++ B).length ≤ 50 := by
          rw [List.length_append, List.length_append, List.length_replicate, digL_len]
          have := HB.out.1
          have := HAB.out
          omega
        by_cases hlt : j < b
        · have q5 : (j : Int) < (b : Int) := by omega
          have hsz : (str (List.replicate i (32 : UInt8) ++ digL 8 48 m 29 ++ B)).size ≤ 50 := by rw [str_size]; exact hlen
          have hap : ∀ d : UInt8, str (List.replicate i (32 : UInt8) ++ digL 8 48 m 29 ++ B) ++ (ByteArray.mk #[d]) = str (List.replicate i 32 ++ digL 8 48 m 29 ++ (B ++ [d])) := by
            intro d
            rw [← List.append_assoc _ B, ← str_append _ [d]]
            rfl
          have HAP := Lib.hid (And.intro hap hlt)
          clear hap hlt hlen
          generalize str (List.replicate i (32 : UInt8) ++ digL 8 48 m 29 ++ B) = s at hsz HAP
          obtain ⟨par, hpar⟩ : ∃ par, par = j % 2 := ⟨_, rfl⟩
          have p1 : (j : Int).tmod 2 = (par : Int) := by rw [hpar]; rfl
          have p2 : (j : Int) % 2 = (par : Int) := by rw [hpar]; rfl
          clear hpar
          have hcs : (zs = true ∧ par = 0) ∨ (zs = true ∧ ¬ par = 0) ∨ zs = false := by
            cases zs
            · exact .inr (.inr rfl)
            · by_cases h : par = 0
              · exact .inl ⟨rfl, h⟩
              · exact .inr (.inl ⟨rfl, h⟩)
          rcases hcs with ⟨rfl, rfl⟩ | ⟨rfl, hp0⟩ | rfl
          · go_wp2_with fail
            go_roundw
            case rel => exact ⟨j + 1, B ++ [0], HAP.out.2, by rw [← HAP.out.1], by go_num, Lib.hid ⟨by simp [HB.out.1], fun x hx => by
              rcases List.mem_append.1 hx with h | h
              · exact HB.out.2 x h
              · rw [List.mem_singleton.1 h]; rfl⟩, trivial⟩
            case measure => have := HAP.out.2; simp [intOf]; omega
          · have p3 : ¬ (par : Int) = 0 := by omega
            go_wp2_with fail
            go_roundw
            case rel => exact ⟨j + 1, B ++ [32], HAP.out.2, by rw [← HAP.out.1], by go_num, Lib.hid ⟨by simp [HB.out.1], fun x hx => by
              rcases List.mem_append.1 hx with h | h
              · exact HB.out.2 x h
              · rw [List.mem_singleton.1 h]; rfl⟩, trivial⟩
            case measure => have := HAP.out.2; simp [intOf]; omega
          · go_wp2_with fail
            go_roundw
            case rel => exact ⟨j + 1, B ++ [32], HAP.out.2, by rw [← HAP.out.1], by go_num, Lib.hid ⟨by simp [HB.out.1], fun x hx => by
              rcases List.mem_append.1 hx with h | h
              · exact HB.out.2 x h
              · rw [List.mem_singleton.1 h]; rfl⟩, trivial⟩
            case measure => have := HAP.out.2; simp [intOf]; omega
        · have hjb : j = b := by omega
          subst hjb
          have hp := parse_mid (List.replicate i 32) B m 29 (fun x hx => (List.mem_replicate.1 hx).2) HB.out.2 (by omega) (by have := HM.out; omega) (Nat.div_eq_of_lt (by show m < 8 ^ 29; have := HM.out; omega))
          generalize List.replicate i (32 : UInt8) ++ digL 8 48 m 29 ++ B = L at hp hlen ⊢
          have hcv := fun (u : World) => Lib.run_convert_string_bytes (P := Tryd.prog) u 9 22 5 (str L) Tryd.underlying9 Tryd.underlying22 Tryd.underlying5
          have hsz : (str L).size ≤ 50 := by rw [str_size]; exact hlen
          have HL := Lib.hid (And.intro hp hlen)
          have HS : Hid ((str L).data.toList = L ∧ (str L).size = L.length) := Lib.hid ⟨rfl, str_size L⟩
          generalize str L = s at hcv hsz HS
          clear hp hlen hlt hj
          go_wp2_with fail
          have hge := grownCap_ge wr s.size 0 5
          have hle := grownCap_le_maxLen wr s.size 0 5 (by have := HS.out.2; have := HL.out.2; unfold maxLen; omega)
          have hkw := bytesWorld_kp wr 5 s
          have hrd := bytesWorld_rdv wr 5 s
          generalize grownCap wr s.size 0 5 = cc at hge hle ⊢
          generalize Lib.bytesWorld wr 5 s = w3 at hkw hrd ⊢
          have HK3 := Lib.hid (Kp.trans HK1.out hkw)
          rw [HS.out.1] at hrd
          have key := field_parse w3 (some ⟨wr.heap.size, 0, none⟩) s.size cc L HS.out.2 hrd (fun x hx => ⟨_, _, (Option.some.inj hx).symm⟩) (fun hx => by cases hx) (by omega) (by unfold maxLen at hle; omega) (by have := HS.out.2; have := HL.out.2; omega)
          rw [HL.out.1] at key
          have KEY := Lib.hid key
          clear key hrd hkw hge hle hcv hsz
          refine KEY.out.mono ?_
          rintro e w4 ⟨rfl, hk⟩
          have HK4 := Lib.hid (Kp.trans HK3.out hk)
          clear hk
          go_wp2_with fail
          refine (answers2 w4).mono ?_
          rintro e w5 ⟨rfl, hk⟩
          have HK5 := Lib.hid (Kp.trans HK4.out hk)
          clear hk
          go_wp2_with fail
          go_ret
          exact ⟨rfl, HK5.out⟩
end Go.Proofs.YtgealodojemoeaaDoor
