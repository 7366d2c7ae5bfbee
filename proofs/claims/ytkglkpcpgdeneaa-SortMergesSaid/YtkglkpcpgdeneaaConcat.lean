/- slices.Grow of nil, slices.Concat of bytes. Conditions: none. -/
import Derived.Test.YtkglkpcpgdeneaaRows
import Derived.Test.YtkglkpcpgdeneaaSt
import Derived.Test.YtkglkpcpgdeneaaStr
import Derived.Lib.AppendZeros
import Derived.WalkSpells
namespace Go.Proofs.Ytkglkpcpgdeneaa
open Go.RowKit

theorem infoU8c : (Try.prog.info? 5).map (fun i => (i.zero, i.size, i.bytes)) = some (some (.int .u8 0), 1, 1) := by kernel_rfl
def GrowPost (w : World) (e : Ending) (w' : World) : Prop := ∃ A c, e = .returned (.slice A 0 c) ∧ w'.ownsRow w.heap.size 5 1 (.slice A 0 c) 0 [] ∧ Keep (fun _ => False) w w'
set_option maxRecDepth 100000 in
theorem grow_nil (n : Nat) (w : World) (hn : n ≤ 140737488355328) : Calls Try.prog 78 #[.slice none 0 0, .int .i64 n] w (GrowPost w) := by
  rcases Nat.eq_zero_or_pos n with rfl | h0
  · have hd : decide ((0 : Int) < 0) = false := rfl
    go_enter Try.func78, Try.ntmps78
    go_wp2
    go_ret
    exact ⟨none, 0, rfl, World.ownsRow_nil _ _ _ _, Keep.refl _ _⟩
  · obtain ⟨i0, hi, hzz⟩ := Option.map_eq_some_iff.1 infoU8c
    simp only [Prod.mk.injEq] at hzz
    obtain ⟨hz0, hz1, hz2⟩ := hzz
    have happ := Lib.run_append_nil_zeros (P := Try.prog) w 42 3 42 5 i0 (.int .u8 0) .i64 .i64 Try.underlying42 Try.underlying3 hi hz0 n h0 (by omega) (by omega) (by rw [hz2]; omega)
    have hcapge := grownCap_ge w n 0 5
    have hcaple := grownCap_le_maxLen w n 0 5 (by unfold maxLen; omega)
    generalize grownCap w n 0 5 = cap at happ hcapge hcaple
    have hZs : (Builtin.zeroCells (Value.int .u8 0).cells n ++ Builtin.zeroCells (Value.int .u8 0).cells (cap - n)).size = cap := by simp [size_zeroCells, Value.cells]; omega
    generalize Builtin.zeroCells (Value.int .u8 0).cells n ++ Builtin.zeroCells (Value.int .u8 0).cells (cap - n) = Z at happ hZs
    have HA := Lib.hid happ
    have HZ := Lib.hid hZs
    have HM := Lib.hid hcaple
    have q1 : (0 : Int) < n := by omega
    have q2 : (n : Int) ≤ 140737488355328 := by omega
    have q3 : (0 : Int) ≤ cap := by omega
    have q4 : (cap : Int) ≤ 9223372036854775807 := by unfold maxLen at hcaple; omega
    clear hi hz0 hz1 hz2 happ hZs hcaple hcapge hn h0
    go_enter Try.func78, Try.ntmps78
    go_wp2_with (at_builtin; refine Lib.wpList_append_run _ rfl _ _ _ _ rfl _ _ rfl rfl _ _ HA.out ?_)
    go_ret
    refine ⟨_, cap, rfl, ⟨rfl, .inr ⟨w.heap.size, cap, Z, rfl, Nat.le_refl _, heap_alloc_new w.drew _, Nat.zero_le _, HM.out, by rw [HZ.out]; simp, by simp⟩⟩, ((Keep.refl _ w).drew).alloc _⟩
def ConcatPost (w : World) (l : List UInt8) (e : Ending) (w' : World) : Prop := ∃ A c, e = .returned (.slice A l.length c) ∧ l.length ≤ c ∧ (A = none → l = []) ∧ w'.ownsRow w.heap.size 5 1 (.slice A l.length c) l.length (bys l) ∧ Keep (fun _ => False) w w'
theorem flatten_succ (L : List (List UInt8)) (i : Nat) (h : i < L.length) : (L.take (i + 1)).flatten = (L.take i).flatten ++ L[i] := by
  rw [List.take_succ_eq_append_getElem h, List.flatten_append]
  simp
theorem flatten_le (L : List (List UInt8)) (i : Nat) : (L.take i).flatten.length ≤ L.flatten.length := by
  have h : L.flatten = (L.take i).flatten ++ (L.drop i).flatten := by rw [← List.flatten_append, List.take_append_drop]
  rw [h, List.length_append]; omega
set_option maxRecDepth 100000 in
set_option maxHeartbeats 4000000 in
theorem concat_any (A : Option Addr) (c : Nat) (L : List (List UInt8)) (w : World) (hr : RdRows w A L) (hL : L.length ≤ 4611686018427387904) (ht : L.flatten.length ≤ 140737488355328) :
    Calls Try.prog 64 #[.slice A L.length c] w (ConcatPost w L.flatten) := by
  have HR := Lib.hid hr
  have HT := Lib.hid ht
  have q1 : (L.length : Int) ≤ 4611686018427387904 := by omega
  clear hr ht hL
  go_enter Try.func64, Try.ntmps64
  go_wp2_with fail
  go_loop [3, 11] (fun v3 v11 => ∃ i : Nat, i ≤ L.length ∧ v3 = .int .i64 ((L.take i).flatten.length : Nat) ∧ v11 = .int .i64 i) (fun _ v11 => L.length - (intOf v11).toNat)
  case atStart => exact ⟨0, Nat.zero_le _, rfl, rfl⟩
  case round =>
    obtain ⟨i, hi, rfl, rfl⟩ := hrel
    have hfl := flatten_le L i
    have hft := HT.out
    by_cases hb : i < L.length
    · obtain ⟨x, A', c', rfl, hc0, _, _⟩ := HR.out i hb
      have q2 : (0 : Int) ≤ i := by omega
      have q3 : (i : Int) < L.length := by omega
      have hfs := congrArg List.length (flatten_succ L i hb)
      rw [List.length_append] at hfs
      have hfl2 := flatten_le L (i + 1)
      have q4 : (((L.take i).flatten.length : Nat) : Int) + (L[i].length : Int) ≤ 140737488355328 := by omega
      have q5 : (0 : Int) ≤ ((L.take i).flatten.length : Nat) := by omega
      have HFS := Lib.hid hfs
      clear hfs hfl hft hfl2
      generalize (L.take i).flatten.length = s at HFS q4 q5 ⊢
      go_wp2_with fail
      go_round
      case rel => exact ⟨i + 1, by omega, by rw [HFS.out]; go_num, by go_num⟩
      case measure => simp [intOf]; omega
    · obtain rfl : i = L.length := by omega
      rw [List.take_length]
      clear hfl
      generalize L.flatten.length = T at hft ⊢
      have hft2 : (T : Int) ≤ 140737488355328 := by omega
      have HTT := Lib.hid hft
      clear hft
      go_wp2_with fail
      refine (grow_nil T _ HTT.out).mono ?_
      rintro e w1 ⟨A1, c1, rfl, ho, hk⟩
      have HO := Lib.hid ho
      have HK := Lib.hid hk
      clear ho hk
      go_wp2_with fail
      go_loopw [6, 27] (fun v6 v27 wr => ∃ (i : Nat) (A2 : Option Addr) (c2 : Nat), i ≤ L.length ∧ v6 = .slice A2 (L.take i).flatten.length c2 ∧ v27 = .int .i64 i ∧ Hid (wr.ownsRow w.heap.size 5 1 (.slice A2 (L.take i).flatten.length c2) (L.take i).flatten.length (bys (L.take i).flatten)) ∧ Hid (Keep (fun _ => False) w wr)) (fun _ v27 _ => L.length - (intOf v27).toNat)
      case atStart => exact ⟨0, A1, c1, Nat.zero_le _, rfl, rfl, HO, HK⟩
      case round =>
        obtain ⟨i, A2, c2, hi, rfl, rfl, HOR, HKR⟩ := hrel
        by_cases hb : i < L.length
        · obtain ⟨x, A', c', rfl, hc0, hrv, hnn⟩ := HR.out i hb
          have hc := old_cell hc0 (HKR.out.mono (fun _ _ f => f.elim))
          have HRV := Lib.hid (hrv.old (HKR.out.mono (fun _ _ f => f.elim)))
          have HNN := Lib.hid hnn
          have q2 : (0 : Int) ≤ i := by omega
          have q3 : (i : Int) < L.length := by omega
          have HFS := Lib.hid (flatten_succ L i hb)
          have HFL := Lib.hid (flatten_le L (i + 1))
          have HSZ : Hid ((L.take i).flatten.length + L[i].length ≤ 140737488355328) := Lib.hid (by have h1 := HFS.out; have h2 := HFL.out; have h3 := HT.out; have h4 := congrArg List.length h1; rw [List.length_append] at h4; omega)
          have HB := Lib.hid hb
          clear hc0 hrv hnn
          have hh := HKR.out.size
          generalize (L.take i).flatten = F at HOR HFS HSZ ⊢
          generalize L[i] = X at HRV HNN HFS HSZ hc
          clear hb
          go_wp2_with (
            at_builtin
            refine wpL_append _ rfl (.tmp 31) (.tmp 32) 42 42 rfl w.heap.size 5 (.int .u8 0) 1 1 Try.underlying42 infoU8c rfl (by decide) (.slice A2 F.length c2) F.length (bys F) rfl HOR.out (.slice A' X.length c') X.length (bys X) rfl (Src.of_rd Try.underlying42 HRV.out _ _ (by rw [bys_length, Nat.mul_one]) (one_bys _) (fun e => by rw [HNN.out e]; rfl)) (by have := HSZ.out; unfold maxLen; omega) (by have := HSZ.out; omega) hh ?_
            intro v3 w3 o3 g3 at3
            obtain ⟨A3, c3, rfl, _⟩ := own_rd o3
            have HO3 := Lib.hid o3
            have HK3 : Hid (Keep (fun _ => False) w w3) := Lib.hid (HKR.out.trans' (Keep.of_grown g3) (fun j hj e => by have := own_base HOR.out j e.symm; omega))
            clear o3 g3 at3)
          go_roundw
          case rel => exact ⟨i + 1, A3, c3, HB.out, by rw [HFS.out, List.length_append], by go_num, by rw [HFS.out, List.length_append, bys_append]; exact HO3, HK3⟩
          case measure => have := HB.out; simp [intOf]; omega
        · obtain rfl : i = L.length := by omega
          rw [List.take_length] at HOR ⊢
          go_wp2_with fail
          go_ret
          refine ⟨A2, c2, rfl, ?_, ?_, HOR.out, HKR.out⟩
          · obtain ⟨_, _, e, hc, _⟩ := own_rd HOR.out
            injection e with _ _ e
            rw [e]; exact hc
          · intro e
            obtain ⟨_, _, e2, _, _, hn⟩ := own_rd HOR.out
            injection e2 with e3 _ _
            exact List.eq_nil_of_length_eq_zero (hn (by rw [← e3]; exact e))
end Go.Proofs.Ytkglkpcpgdeneaa
