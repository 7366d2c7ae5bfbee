/- Law 3's own functions. Conditions: none. -/
import Derived.Test.YtiobacnepacjnaaSrcD
import Derived.Test.YtiobacnepacjnaaSnkB
import Derived.Test.YtiobacnepacjnaaRefMay
import Derived.Test.YtiobacnepacjnaaStApp
import Derived.Test.YtiobacnepacjnaaConvB
import Derived.Lib.SlBytesConst
import Derived.Lib.Strings
namespace Go.Proofs.Ytiobacnepacjnaa
open Go.RowKit

def abc : List UInt8 := [97, 98, 99]
def out03 : List UInt8 := padB abc ++ List.replicate 1024 0
theorem out03_len : out03.length = 1536 := by decide +kernel
theorem out03_take : out03.take 3 = abc := by decide +kernel
theorem out03_rest : ((out03.drop 512).drop 512).all (· == 0) = true := by decide +kernel
theorem pad03 (n : Nat) (z : Int) (hz : z = n) (m : Nat) (hm : m = padN n) (hn : n ≤ 4611686018427387904) (w : World) : Calls Try.prog 13 #[.int .i64 z] w fun e w' => e = .returned (.int .i64 m) ∧ w = w' := by
  subst hz
  have q : (n : Int) ≤ 4611686018427387904 := by omega
  have q0 : (0 : Int) ≤ (n : Int) := by omega
  go_enter Try.func13, Try.ntmps13
  go_wp2
  go_ret
  exact ⟨ret_int (by rw [hm]; unfold padN; omega), rfl⟩
set_option maxRecDepth 100000 in
set_option maxHeartbeats 4000000 in
theorem answers03 (w : World) : Calls Try.prog 8 #[] w fun e w' => e = .returned (.bool true) ∧ Keep (fun b => w.heap.size ≤ b) w w' := by
  have HS := Lib.hid (St.start w)
  have kc : ∀ b, b = w.heap.size + 1 → (convert 22 22 (.slice (some ⟨b, 0, none⟩) 3 3)).run Try.prog ((w.alloc (Obj.cells #[.slice none 0 0] 43)).alloc (Obj.cells #[.int .u8 97, .int .u8 98, .int .u8 99] 5)) = .ok (.slice (some ⟨b, 0, none⟩) 3 3) ((w.alloc (Obj.cells #[.slice none 0 0] 43)).alloc (Obj.cells #[.int .u8 97, .int .u8 98, .int .u8 99] 5 (3, 4))) := by
    intro b hb
    have h := Lib.run_convert_bytes_const (P := Try.prog) (w.alloc (Obj.cells #[.slice none 0 0] 43)) 22 5 #[.int .u8 97, .int .u8 98, .int .u8 99] 3 3 Try.underlying22 Try.underlying5
    have e : (w.alloc (Obj.cells #[.slice none 0 0] 43)).heap.size = b := by simp [hb]
    rw [e] at h
    exact h
  have KC := Lib.hid (kc _ rfl)
  clear kc
  go_enter Try.func8, Try.ntmps8
  have kc := fun (_ : True) => KC.out
  go_wp2_with fail
  clear kc KC
  obtain ⟨kb, hkb⟩ : ∃ kb, kb = w.heap.size := ⟨_, rfl⟩
  obtain ⟨bb, hbb⟩ : ∃ bb, bb = w.heap.size + 1 := ⟨_, rfl⟩
  have hs1 := (HS.out.snk_new kb hkb).alloc (Obj.cells #[.int .u8 97, .int .u8 98, .int .u8 99] 5 (3, 4))
  have hrd : RdV ((w.alloc (Obj.cells #[.slice none 0 0] 43)).alloc (Obj.cells #[.int .u8 97, .int .u8 98, .int .u8 99] 5 (3, 4))) (some ⟨bb, 0, none⟩) (bys abc) :=
    RdV.newm (w.alloc (Obj.cells #[.slice none 0 0] 43)) 5 (bys abc) (3, 4) bb (by simp [hbb])
  rw [← hbb, ← hkb]
  clear hkb hbb
  generalize (w.alloc (Obj.cells #[.slice none 0 0] 43)).alloc (Obj.cells #[.int .u8 97, .int .u8 98, .int .u8 99] 5 (3, 4)) = w1 at hs1 hrd ⊢
  have HS1 := Lib.hid (And.intro hs1 hrd)
  clear hs1 hrd HS
  refine (St.snk_body HS1.out.1 (some ⟨bb, 0, none⟩) 3 3 abc (padB abc) rfl HS1.out.2 (fun e => by cases e) rfl (by decide) (by decide)).mono ?_
  rintro e w2 ⟨rfl, hs2⟩
  have HS2 := Lib.hid hs2
  clear hs2 HS1
  go_wp2_with fail
  refine (St.snk_end HS2.out out03 rfl (by decide)).mono ?_
  rintro e w3 ⟨rfl, hs3⟩
  have HS3 := Lib.hid hs3
  clear hs3 HS2
  go_wp2_with fail
  refine (St.snk_out HS3.out 1536 out03_len.symm (by decide)).mono ?_
  rintro e w4 ⟨A4, c4, rfl, hc4, hn4, hs4⟩
  have HS4 := Lib.hid (And.intro hs4 hn4)
  clear hs4 HS3 hc4 hn4
  go_wp2_with fail
  have hs5 := HS4.out.1.alloc (Obj.cells #[.int .i64 7] 3)
  have hr5 := RdV.new w4 3 [.int .i64 7] w4.heap.size rfl
  refine (St.src_new hs5 A4 1536 c4 out03 (some ⟨w4.heap.size, 0, none⟩) 1 1 [7] (St.own_rdv hs5).1 out03_len.symm HS4.out.2 (by decide) hr5 rfl (fun e => by cases e) (by decide)).mono ?_
  rintro e w6 ⟨sb, rfl, hs6⟩
  have HS6 : Hid (St w w6 [srcP sb out03 0, snkP kb out03]) := Lib.hid (hs6.sel [0, 2] (by decide) (by simp))
  clear hs5 hr5 hs6 HS4
  go_wp2_with fail
  refine (St.src_body HS6.out 3 512 3 rfl (by decide) (by rw [out03_len]; decide) (by decide) ⟨by rw [out03_len]; decide, by rw [out03_len]; decide⟩).mono ?_
  rintro e w7 ⟨A7, c7, rfl, hA7, _, hs7⟩
  have HA7 := Lib.hid hA7
  have HS7 := Lib.hid hs7
  clear hs7 HS6 hA7
  go_wp2_with fail
  refine (St.src_block HS7.out.swap (by rw [List.length_drop, out03_len]; decide) ⟨by rw [List.length_drop, out03_len]; decide, by rw [List.length_drop, out03_len]; decide⟩).mono ?_
  rintro e w8 ⟨A8, c8, rfl, _, _, hs8⟩
  have HS8 : Hid (St w w8 [snkP kb out03, srcP sb ((out03.drop 512).drop 512) (0 + 512 + 512), rdP A7 (bys abc)]) := Lib.hid (by
    have h := hs8.sel [3, 1, 2] (by decide) (by simp)
    rw [out03_take] at h
    exact h)
  clear hs8 HS7
  go_wp2_with fail
  refine (St.snk_out HS8.out 1536 out03_len.symm (by decide)).mono ?_
  rintro e w9 ⟨A9, c9, rfl, _, _, hs9⟩
  have HS9 := Lib.hid hs9.tail
  clear hs9 HS8
  have cv := conv_rd (n := 3) (c := c7) (L := abc) (HS9.out.sel [2] (by decide) (by simp)).rdp rfl (fun e => by have := HA7.out; rw [e] at this; cases this)
  have hstr : (str abc).toList = [97, 98, 99] := by rw [Lib.toList_data]; rfl
  go_wp2_with fail
  clear cv hstr
  refine (St.src_place (HS9.out.sel [1] (by decide) (by simp))).mono ?_
  rintro e w10 ⟨rfl, rfl⟩
  go_wp2_with fail
  refine (St.src_rest (HS9.out.sel [1] (by decide) (by simp)) (by rw [List.length_drop, List.length_drop, out03_len]; decide) true out03_rest).mono ?_
  rintro e w10 ⟨rfl, rfl⟩
  go_wp2_with fail
  go_ret
  exact ⟨rfl, HS9.out.keep⟩
theorem St.ans03 {w0 w : World} {ps : List Part} (h : St w0 w ps) : Calls Try.prog 8 #[] w fun e w' => e = .returned (.bool true) ∧ St w0 w' ps :=
  (answers03 w).mono fun _ _ ⟨h1, h2⟩ => ⟨h1, h.later h2⟩
end Go.Proofs.Ytiobacnepacjnaa
