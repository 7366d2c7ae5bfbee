/- StoreFull: the walk. Conditions: none. -/
import Derived.Test.YtbkpjjibgnachaaFullP
import Derived.Test.YtbkpjjibgnachaaAtP
import Derived.Test.YtbkpjjibgnachaaStoreQ
import Derived.Test.YtbkpjjibgnachaaLaw14
import Derived.Deep.OwnRows
namespace Go.Proofs.Ytbkpjjibgnachaa
open Go.RowKit

theorem made_bys (n : Nat) : (madeCells #[Value.int .u8 0] n).toList = bys (List.replicate n 0) := by
  simp [madeCells, bys, Nat.mod_one]
  exact List.eq_replicate_iff.2 ⟨by simp, fun b hb => by
    obtain ⟨_, _, rfl⟩ := List.mem_map.1 hb
    rfl⟩
theorem St.made_u8 {w0 w : World} {l : List Part} (h : St w0 w l) (n : Nat) : St w0 (w.alloc (.cells (madeCells #[Value.int .u8 0] n) 5)) (blkP w.heap.size 5 (bys (List.replicate n 0)) :: l) := by
  have := h.box (bys (List.replicate n 0)) 5
  have e : (bys (List.replicate n 0)).toArray = madeCells #[Value.int .u8 0] n := by rw [← made_bys, Array.toArray_toList]
  rw [e] at this
  exact this
theorem infoInt : (Try.prog.info? 3).map (fun i => (i.zero, i.size, i.bytes)) = some (some (.int .i64 0), 1, 8) := by kernel_rfl
theorem infoU8' : (Try.prog.info? 5).map (fun i => (i.zero, i.size, i.bytes)) = some (some (.int .u8 0), 1, 1) := by kernel_rfl
def natI (l : List Nat) : List Int := l.map fun (n : Nat) => (n : Int)
set_option maxRecDepth 100000 in
set_option maxHeartbeats 8000000 in
theorem storeFull_keep (w : World) (room : Int) (h0 : 0 ≤ room) (h1 : room ≤ 65535) (A : Option Addr) (c : Nat) (B : List UInt8) (hr : RdV w A (bys B)) (hB : B.length ≤ 140737488351232) :
    Calls Try.prog 4 #[.int .u16 room, .slice A B.length c] w fun e w' => e = .returned (.bool true) ∧ Keep (fun b => w.heap.size ≤ b) w w' := by
  have HR := Lib.hid hr
  have HB := Lib.hid hB
  have hbb : (B.length : Int) ≤ 4611686018427387904 := by omega
  clear hr hB
  go_enter Try.func4, Try.ntmps4
  go_wp2_with fail
  refine (St.store_new (St.start w) room none 0 0 [] (by omega) (RdV.nil _ _) rfl (fun _ => ⟨rfl, rfl⟩) (by omega)).mono ?_
  rintro e w1 ⟨sb, rfl, hs⟩
  have HS0 : Hid (St w w1 [storeP sb (StoreM.made room []), atP 3 (.slice none 0 0) 0 [], atP 3 (.slice none 0 0) 0 []]) := Lib.hid ((hs.at_nil 3).at_nil 3).rot.rot
  have HF0 := Lib.hid (full_start room (by omega) h0)
  clear hs
  have hmk := fun (n : Nat) (hn : n ≤ 255) (w : World) => run_make_row' (P := Try.prog) 28 5 (.int .u8 0) 1 Try.underlying28 infoU8' rfl .i64 .i64 n (by omega) (by omega) w
  have HMK := Lib.hid hmk
  clear hmk
  go_wp2_with fail
  go_loopw [6, 7, 8, 9] (fun v6 v7 v8 v9 wr => ∃ (i : Nat) (S : StoreM) (ids : List Int) (sizes : List Nat) (A1 : Option Addr) (c1 : Nat) (A2 : Option Addr) (c2 : Nat), i ≤ B.length ∧ i ≤ 200 ∧ v6 = .int .i64 S.used ∧ v7 = .slice A1 ids.length c1 ∧ v8 = .slice A2 sizes.length c2 ∧ v9 = .int .i64 i ∧ Hid (FullOk room S i ids sizes) ∧
    Hid (St w wr [storeP sb S, atP 3 (.slice A1 ids.length c1) ids.length (ints ids), atP 3 (.slice A2 sizes.length c2) sizes.length (ints (natI sizes))])) (fun _ _ _ v9 _ => B.length - (intOf v9).toNat)
  case atStart => exact ⟨0, _, [], [], none, 0, none, 0, Nat.zero_le _, Nat.zero_le _, rfl, rfl, rfl, rfl, HF0, HS0⟩
  case round =>
    clear HS0 HF0
    obtain ⟨i, S, ids, sizes, A1, c1, A2, c2, hi, hi2, rfl, rfl, rfl, rfl, HFO, HST⟩ := hrel
    have u0 : 0 ≤ S.used := HFO.out.ok.used0
    have u1 : S.used ≤ room := by rw [← HFO.out.room]; exact HFO.out.ok.used1
    by_cases hlt : i < B.length ∧ i < 200
    · obtain ⟨hb, hb2⟩ := hlt
      have q1 : (0 : Int) ≤ i := by omega
      have q2 : (i : Int) < (B.length : Int) := by omega
      have q3 : (i : Int) < 200 := by omega
      have HIB : Hid (i < B.length ∧ i < 200) := Lib.hid ⟨hb, hb2⟩
      obtain ⟨ap, hap, hxx⟩ := (HST.out.rd HR.out) i (.int .u8 (B[i].toNat : Int)) (by simp [bys, hb])
      have HCE : Hid (∀ u, Keep (fun b => w.heap.size ≤ b) w u → u.cell? (ap.add i) = some (.int .u8 (B[i].toNat : Int))) := Lib.hid (fun u k => by
        obtain ⟨ap', hap', h⟩ := (HR.out.old k) i (.int .u8 (B[i].toNat : Int)) (by simp [bys, hb])
        rw [hap] at hap'; cases hap'; exact h)
      have hn1 : B[i].toNat ≤ 255 := by have := B[i].toNat_lt; omega
      clear hxx
      generalize B[i].toNat = n at hn1 HCE
      subst hap
      have n0 : (0 : Int) ≤ n := by omega
      have n1 : (n : Int) ≤ 255 := by omega
      have HN1 := Lib.hid hn1
      clear hb hb2 hn1
      go_wp2_with fail
      refine (St.store_create HST.out (by rw [HFO.out.next]; have := HIB.out.2; omega)).mono ?_
      rintro e w2 ⟨rfl, hs⟩
      rw [HFO.out.next]
      have HS2 := Lib.hid hs
      have hce := HCE.out _ HS2.out.keep
      have hmk := HMK.out n HN1.out w2
      clear hs HST
      go_wp2_with fail
      have HS3 : Hid (St w (w2.alloc (.cells (madeCells #[Value.int .u8 0] n) 5)) [storeP sb S.create, blkP w2.heap.size 5 (bys (List.replicate n 0)), atP 3 (.slice A1 ids.length c1) ids.length (ints ids), atP 3 (.slice A2 sizes.length c2) sizes.length (ints (natI sizes))]) := Lib.hid (HS2.out.made_u8 n).swap
      have hi6 : i < 65536 := by have := HIB.out.2; omega
      clear hmk hce HS2
      generalize w2.alloc (.cells (madeCells #[Value.int .u8 0] n) 5) = w3 at HS3 ⊢
      generalize w2.heap.size = g at HS3 ⊢
      have hrl : (List.replicate n (0 : UInt8)).length = n := by simp
      have HRL := Lib.hid hrl
      clear hrl
      generalize List.replicate n (0 : UInt8) = b at HS3 HRL
      have HAE := Lib.hid (HFO.out.appE hi6 b)
      have HI6 := Lib.hid hi6
      clear hi6
      refine (St.store_append2 HS3.out i (some ⟨g, 0, none⟩) n n b (by rw [(HFO.out.made HI6.out).2.2.2.2.1]; omega) HRL.out.symm (fun G h => blk_app h) (fun e => by cases e) (fun bs hbs => by rw [(HFO.out.made HI6.out).2.2.2.2.2.2.1] at hbs; cases hbs; rw [HRL.out]; simp; omega)).mono ?_
      rintro e w4 ⟨rfl, hs⟩
      have HS4 := Lib.hid hs
      rw [HAE.out, HRL.out]
      clear hs HS3
      by_cases hroom : S.used + (n : Int) ≤ room
      · rw [if_pos hroom]
        obtain ⟨hf2, hu2⟩ := HFO.out.put HI6.out b (by rw [HRL.out]; exact hroom)
        rw [HRL.out] at hf2 hu2
        have HF2 := Lib.hid hf2
        have HU2 := Lib.hid hu2
        have HS5 : Hid (St w w4 [atP 3 (.slice A1 ids.length c1) ids.length (ints ids), storeP sb (S.create.append i b), atP 3 (.slice A2 sizes.length c2) sizes.length (ints (natI sizes))]) := Lib.hid (HS4.out.swap.tail.swap)
        have HL1 : Hid (ids.length ≤ 200 ∧ sizes.length ≤ 200) := Lib.hid (HFO.out.small (by have := HIB.out.2; omega))
        clear hf2 hu2 HS4
        generalize S.create.append i b = S2 at HF2 HU2 HS5
        go_wp2_with (first
          | (at_builtin
             refine wpL_push_at rfl (.tmp 64) (.tmp 66) 37 rfl 3 (.int .i64 0) 8 Try.underlying37 infoInt rfl (.slice A1 ids.length c1) ids.length (ints ids) rfl HS5.out (.int .i64 i) rfl _ rfl rfl (by have := HL1.out.1; unfold maxLen; omega) (by have := HL1.out.1; omega) ?_
             intro A3 c3 w5 hs
             have HS6 := Lib.hid hs.nth3
             clear hs)
          | (at_builtin
             refine wpL_push_at rfl (.tmp 68) (.tmp 70) 37 rfl 3 (.int .i64 0) 8 Try.underlying37 infoInt rfl (.slice A2 sizes.length c2) sizes.length (ints (natI sizes)) rfl HS6.out (.int .i64 n) rfl _ rfl rfl (by have := HL1.out.2; unfold maxLen; omega) (by have := HL1.out.2; omega) ?_
             intro A4 c4 w6 hs
             have HS7 := Lib.hid hs.rot.swap
             clear hs))
        refine (St.store_used HS7.out).mono ?_
        rintro e w7 ⟨rfl, rfl⟩
        rw [HU2.out]
        go_wp2_with fail
        go_roundw
        case rel =>
          refine ⟨i + 1, S2, ids ++ [(i : Int)], sizes ++ [n], A3, c3, A4, c4, by have := HIB.out.1; omega, by have := HIB.out.2; omega, by rw [HU2.out], by simp, by simp, by go_num, HF2, Lib.hid ?_⟩
          have e1 : (ids ++ [(i : Int)]).length = ids.length + 1 := by simp
          have e2 : (sizes ++ [n]).length = sizes.length + 1 := by simp
          have e3 : ints (ids ++ [(i : Int)]) = ints ids ++ [.int .i64 i] := by simp [ints]
          have e4 : ints (natI (sizes ++ [n])) = ints (natI sizes) ++ [.int .i64 n] := by simp [ints, natI]
          rw [e1, e2, e3, e4]
          exact HS7.out
        case measure => have := HIB.out.1; simp [intOf]; omega
      · rw [if_neg hroom]
        obtain ⟨hf2, hu2⟩ := HFO.out.none HI6.out b (by rw [HRL.out]; exact hroom)
        have HF2 := Lib.hid hf2
        have HU2 := Lib.hid hu2
        have HS5 : Hid (St w w4 [storeP sb (S.create.append i b), atP 3 (.slice A1 ids.length c1) ids.length (ints ids), atP 3 (.slice A2 sizes.length c2) sizes.length (ints (natI sizes))]) := Lib.hid (HS4.out.swap.tail)
        have hd : decide (S.used + (n : Int) ≤ room) = false := decide_eq_false hroom
        clear hf2 hu2 HS4 hroom
        generalize S.create.append i b = S2 at HF2 HU2 HS5
        cases ids with
        | nil =>
          simp only [List.length_nil] at HS5 ⊢
          go_wp2_with fail
          refine (St.store_used HS5.out).mono ?_
          rintro e w7 ⟨rfl, rfl⟩
          rw [HU2.out]
          go_wp2_with fail
          go_roundw
          case rel => exact ⟨i + 1, S2, [], sizes, A1, c1, A2, c2, by have := HIB.out.1; omega, by have := HIB.out.2; omega, by rw [HU2.out], rfl, rfl, by go_num, HF2, HS5⟩
          case measure => have := HIB.out.1; simp [intOf]; omega
        | cons id r =>
          cases sizes with
          | nil => have := HF2.out.len; simp at this
          | cons n0 r2 =>
            obtain ⟨g1, o1, rfl, x1, _, hm1, hx1, ht1⟩ := St.at_head (xs := ints r) (x := .int .i64 id) HS5.out.swap
            obtain ⟨d1, d2, d3⟩ := HF2.out.drop
            have HD1 := Lib.hid (And.intro d1 d3)
            have HD2 := Lib.hid d2
            have hul := d2.ok.used0
            rw [d3, HU2.out] at hul
            have hul2 : (n0 : Int) ≤ S.used := by omega
            have hul3 : (0 : Int) ≤ n0 := by omega
            have hm1' : (1 : Int) ≤ (c1 : Int) := by simp at hm1; omega
            have hm2' : (r.length : Int) + 1 ≤ (c1 : Int) := by simp at hm1; omega
            have hrl0 : (0 : Int) ≤ (r.length : Int) := by omega
            clear ht1 d1 d2 d3 hul hm1
            simp only [List.length_cons] at HS5 ⊢
            go_wp2_with fail
            refine (St.store_drop HS5.out id).mono ?_
            rintro e w5 ⟨rfl, hs⟩
            rw [show S2.dropE id = 0 from HD1.out.1]
            have HS6 := Lib.hid hs
            clear hs HS5 x1
            obtain ⟨g1', o1', hg1, _, _, _, _, ht1⟩ := St.at_head (xs := ints r) (x := .int .i64 id) HS6.out.swap
            cases hg1
            obtain ⟨g2, o2, rfl, x2, _, hm2, hx2, ht2⟩ := St.at_head (xs := ints (natI r2)) (x := .int .i64 n0) ht1.nth3
            have HS7 := Lib.hid ht2.rot.swap
            have hm3 : (1 : Int) ≤ (c2 : Int) := by omega
            have hm4 : (r2.length : Int) + 1 ≤ (c2 : Int) := by omega
            have hrl2 : (0 : Int) ≤ (r2.length : Int) := by omega
            clear ht1 ht2 hm2
            go_wp2_with fail
            go_quiet (fail)
            go_wp2_with fail
            all_goals
              refine (St.store_used (HS7.out.drewN nq)).mono ?_
              rintro e w7 ⟨rfl, rfl⟩
              rw [HD1.out.2, HU2.out]
              go_wp2_with fail
              go_roundw
              case rel =>
                have t := HS7.out.drewN nq
                refine ⟨i + 1, S2.drop id, r, r2, _, _, _, _, by have := HIB.out.1; omega, by have := HIB.out.2; omega, by rw [HD1.out.2, HU2.out], rfl, rfl, by go_num, HD2, Lib.hid ?_⟩
                by_cases e1 : c1 = 1 <;> by_cases e2 : c2 = 1 <;> first | (exfalso; omega) | (simp only [e1, e2, if_true, if_false, Nat.add_sub_cancel, Nat.sub_self] at t ⊢; exact t)
              case measure => have := HIB.out.1; simp [intOf]; omega
    · have hp1 : S.peak ≤ room := by rw [← HFO.out.room]; exact HFO.out.ok.peak1
      have hor : decide (i < B.length) = false ∨ (decide (i < B.length) = true ∧ decide ((i : Int) < 200) = false) := by
        by_cases h : i < B.length
        · exact .inr ⟨decide_eq_true h, decide_eq_false (fun h2 => hlt ⟨h, by omega⟩)⟩
        · exact .inl (decide_eq_false h)
      clear hlt
      rcases hor with hd | ⟨hd, hd2⟩
      all_goals
        go_wp2_with fail
        refine (answers14 _).mono ?_
        rintro e w2 ⟨rfl, hb⟩
        have HS2 := Lib.hid (HST.out.later (Keep.of_below hb))
        clear hb HST
        go_wp2_with fail
        refine (St.store_peak HS2.out).mono ?_
        rintro e w3 ⟨rfl, rfl⟩
        go_wp2_with fail
        go_ret
        exact ⟨rfl, HS2.out.keep⟩
theorem storeFull_walk (w : World) (room : Int) (hroom : IntKind.u16.min ≤ room ∧ room ≤ IntKind.u16.max) (A : Option Addr) (n c : Nat) (B : List UInt8) (hn : n = B.length) (_ : n ≤ c) (hr : RdV w A (bys B)) (_ : A = none → B = [] ∧ c = 0) (hy : n ≤ 140737488351232) :
    Calls Try.prog 4 #[.int .u16 room, .slice A n c] w fun e w' => e = .returned (.bool true) ∧ Below w.heap.size w w' := by
  subst hn
  exact (storeFull_keep w room hroom.1 hroom.2 A c B hr hy).mono fun _ _ ⟨h1, h2⟩ => ⟨h1, h2.below (Nat.le_refl _) (fun _ _ h => h)⟩
end Go.Proofs.Ytbkpjjibgnachaa
