/- rec.Put: an item's bytes. Conditions: none. -/
import Derived.Test.YtkglkpcpgdeneaaRecBits
import Derived.Test.YtkglkpcpgdeneaaConcat
import Derived.Test.YtkglkpcpgdeneaaNumIn
import Derived.Deep.RegionHeld
import Derived.Lib.ConvBytes
namespace Go.Proofs.Ytkglkpcpgdeneaa
open Go.RowKit

/-- An item's bytes. -/
def putL (k : ByteArray) (s : Int) (d : List UInt8) : List UInt8 := [bitsL k.size 4, k.data.toList, bitsL s.toNat 8, bitsL d.length 4, d].flatten
theorem putL_len (k : ByteArray) (s : Int) (d : List UInt8) : (putL k s d).length = 16 + k.size + d.length := by
  simp [putL, bitsL_len]
  omega
theorem size_list (k : ByteArray) : k.size = k.data.toList.length := (Array.length_toList (xs := k.data)).symm
theorem ktr {a b c : World} (h : Keep (fun j => a.heap.size ≤ j) a b) (g : Keep (fun j => b.heap.size ≤ j) b c) : Keep (fun j => a.heap.size ≤ j) a c := h.trans' g (fun j _ e => by have := h.size; omega)
theorem bytesWorld_keep (w : World) (e : TypeId) (s : ByteArray) : Keep (fun j => w.heap.size ≤ j) w (Lib.bytesWorld w e s) :=
  ⟨rfl, rfl, rfl, by rw [Lib.bytesWorld_size]; omega, fun k hk _ => Lib.bytesWorld_at_old w e s k hk⟩
theorem bytesWorld_rd (w : World) (e : TypeId) (s : ByteArray) : RdV (Lib.bytesWorld w e s) (some ⟨w.heap.size, 0, none⟩) (bys s.data.toList) := by
  intro j u hj
  refine ⟨_, rfl, ?_⟩
  have hl : j < s.data.toList.length := by have := (List.getElem?_eq_some_iff.1 hj).1; rwa [bys_length] at this
  rw [add_plain, Nat.zero_add, Lib.bytesWorld_cell w e s j (by show j < s.data.size; rwa [Array.length_toList] at hl)]
  rw [← hj]
  simp [bys, List.getD, List.getElem?_eq_getElem hl]
/-- rec.bits: its row is read in every later world. -/
theorem bits_f (n z : Int) (m size : Nat) (w : World) (hn : n = m) (hz : z = size) (h : m ≤ 4611686018427387904) (hs : size ≤ 8) :
    Calls Try.prog 65 #[.int .i64 n, .int .i64 z] w fun e w' => ∃ A, e = .returned (.slice A size size) ∧ A.isSome = true ∧ RdV w' A (bys (bitsL m size)) ∧ Keep (fun j => w.heap.size ≤ j) w w' := by
  subst hn hz
  refine (bits_any m size w h hs).mono ?_
  rintro e w' ⟨he, hb, hk⟩
  refine ⟨_, he, rfl, ?_, hk.mono (fun _ _ f => f.elim)⟩
  have := RdV.of_blk hb 0 size
  rwa [List.drop_zero, List.take_of_length_le (by rw [bys_length, bitsL_len]; exact Nat.le_refl _)] at this
def Cat5 (u u0 : World) (T : Nat) (l : List UInt8) (e : Ending) (w' : World) : Prop := ∃ A c, e = .returned (.slice A T c) ∧ T ≤ c ∧ (0 < T → A.isSome = true) ∧ w'.ownsRow u.heap.size 5 1 (.slice A T c) T (bys l) ∧ Keep (fun j => u.heap.size ≤ j) u w' ∧ Keep (fun j => u0.heap.size ≤ j) u0 w'
theorem concat_five (u : World) (l0 l1 l2 l3 l4 : List UInt8) (A0 A1 A2 A3 A4 : Option Addr) (n0 n1 n2 n3 n4 c0 c1 c2 c3 c4 T b : Nat) (hb : b = u.heap.size)
    (h0 : n0 = l0.length) (h1 : n1 = l1.length) (h2 : n2 = l2.length) (h3 : n3 = l3.length) (h4 : n4 = l4.length)
    (r0 : RdV u A0 (bys l0)) (r1 : RdV u A1 (bys l1)) (r2 : RdV u A2 (bys l2)) (r3 : RdV u A3 (bys l3)) (r4 : RdV u A4 (bys l4))
    (i0 : A0.isSome = true) (i1 : A1.isSome = true) (i2 : A2.isSome = true) (i3 : A3.isSome = true) (i4 : A4 = none → l4 = []) (hT : T = n0 + n1 + n2 + n3 + n4) (hm : T ≤ 140737488355328) :
    Calls Try.prog 64 #[.slice (some ⟨b, 0, none⟩) 5 5] (u.alloc (Obj.cells #[.slice A0 n0 c0, .slice A1 n1 c1, .slice A2 n2 c2, .slice A3 n3 c3, .slice A4 n4 c4] 42)) (Cat5 u (u.alloc (Obj.cells #[.slice A0 n0 c0, .slice A1 n1 c1, .slice A2 n2 c2, .slice A3 n3 c3, .slice A4 n4 c4] 42)) T [l0, l1, l2, l3, l4].flatten) := by
  subst hb h0 h1 h2 h3 h4
  have hl : [l0, l1, l2, l3, l4].flatten.length = T := by rw [hT]; simp; omega
  have hk : Keep (fun j => u.heap.size ≤ j) u (u.alloc (Obj.cells #[.slice A0 l0.length c0, .slice A1 l1.length c1, .slice A2 l2.length c2, .slice A3 l3.length c3, .slice A4 l4.length c4] 42)) := (Keep.refl _ u).alloc _
  have hB := Blk.new u 42 [.slice A0 l0.length c0, .slice A1 l1.length c1, .slice A2 l2.length c2, .slice A3 l3.length c3, .slice A4 l4.length c4]
  have ns : ∀ (A : Option Addr) (l : List UInt8), A.isSome = true → A = none → l = [] := fun A l h e => by rw [e] at h; cases h
  refine (concat_any (some ⟨u.heap.size, 0, none⟩) 5 [l0, l1, l2, l3, l4] _ (fun i hi => ?_) (by simp) (by rw [hl]; exact hm)).mono ?_
  · have hi5 : i < 5 := hi
    have hc := hB.cell i
    refine ⟨_, [A0, A1, A2, A3, A4][i], [c0, c1, c2, c3, c4][i], rfl, ?_, ?_, ?_⟩
    · rw [add_plain, Nat.zero_add, hc]
      rcases i with _ | _ | _ | _ | _ | i
      · rfl
      · rfl
      · rfl
      · rfl
      · rfl
      · omega
    · rcases i with _ | _ | _ | _ | _ | i
      · exact r0.old hk
      · exact r1.old hk
      · exact r2.old hk
      · exact r3.old hk
      · exact r4.old hk
      · omega
    · rcases i with _ | _ | _ | _ | _ | i
      · exact ns _ _ i0
      · exact ns _ _ i1
      · exact ns _ _ i2
      · exact ns _ _ i3
      · exact i4
      · omega
  · rintro e w' ⟨A, c, he, hc, hn, ho, hk2⟩
    rw [hl] at he hc ho
    refine ⟨A, c, he, hc, fun h => ?_, own_weaken ho (by simp), hk.trans' hk2 (fun _ _ f => f.elim), hk2.mono (fun _ _ f => f.elim)⟩
    cases A with
    | none =>
      have := hn rfl
      have h2 := congrArg List.length this
      rw [hl] at h2; simp at h2; omega
    | some a => rfl
set_option maxRecDepth 100000 in
set_option maxHeartbeats 8000000 in
theorem put_yes (k : ByteArray) (s : Int) (A : Option Addr) (n c : Nat) (d : List UInt8) (w : World) (hn : n = d.length) (hr : RdV w A (bys d)) (hA : A = none → d = []) (h1 : k.size ≤ 200) (h2 : 0 ≤ s) (h3 : s ≤ 4611686018427387904) (h4 : n ≤ 1048576) :
    Calls Try.prog 46 #[.agg #[.string k, .int .i64 s, .slice A n c]] w fun e w' => ∃ A' c', e = .returned (.tuple #[.slice A' (16 + k.size + n) c', .bool true]) ∧ 16 + k.size + n ≤ c' ∧ A'.isSome = true ∧ w'.ownsRow w.heap.size 5 1 (.slice A' (16 + k.size + n) c') (16 + k.size + n) (bys (putL k s d)) ∧ Keep (fun j => w.heap.size ≤ j) w w' := by
  subst hn
  have hcv := fun (u : World) => Lib.run_convert_string_bytes (P := Try.prog) u 9 42 5 k Try.underlying9 Try.underlying42 Try.underlying5
  have HCV := Lib.hid hcv
  have HR := Lib.hid hr
  have HA := Lib.hid hA
  have q1 : (k.size : Int) ≤ 200 := by omega
  have q2 : (d.length : Int) ≤ 1048576 := by omega
  have q3 : decide ((200 : Int) < (k.size : Int)) = false := decide_eq_false (by omega)
  have q4 : decide ((1048576 : Int) < (d.length : Int)) = false := decide_eq_false (by omega)
  have H1 := Lib.hid h1
  have H4 := Lib.hid h4
  clear hcv hr hA h1 h4
  go_enter Try.func46, Try.ntmps46
  go_wp2_with (go_at_call 63; refine (in_yes _ _ _ _ h2 h3).mono ?_; rintro e w' ⟨rfl, rfl⟩)
  have x0 := Blk.new w 44 [.string k, .int .i64 s, .slice A d.length c]
  have hK1 : Keep (fun j => w.heap.size ≤ j) w (w.alloc (.cells #[.string k, .int .i64 s, .slice A d.length c] 44)) := (Keep.refl _ w).alloc _
  have y0 := x0.cell 0
  have y1 := x0.cell 1
  have y2 := x0.cell 2
  simp only [List.getElem?_cons_zero, List.getElem?_cons_succ] at y0 y1 y2
  have hcv := HCV.out
  clear x0
  have hKD : Keep (fun j => w.heap.size ≤ j) w (w.alloc (.cells #[.string k, .int .i64 s, .slice A d.length c] 44)).drew := hK1.drew
  clear hK1
  generalize w.heap.size = bx at y0 y1 y2 ⊢
  generalize hw1 : w.alloc (.cells #[.string k, .int .i64 s, .slice A d.length c] 44) = w1 at y0 y1 y2 hKD ⊢
  clear hw1
  go_region_held (fun w' => w'.cell? ⟨bx, 0, none⟩ = some (.string k) ∧ w'.cell? ⟨bx, 1, none⟩ = some (.int .i64 s) ∧ w'.cell? ⟨bx, 2, none⟩ = some (.slice A d.length c))
    (first
      | (go_split_ands; exact ⟨old_cell (by assumption) K1, old_cell (by assumption) K1, old_cell (by assumption) K1⟩)
      | (go_split_ands; exact ⟨old_cell (by assumption) K2, old_cell (by assumption) K2, old_cell (by assumption) K2⟩)
      | (go_split_ands; exact ⟨old_cell (by assumption) K3, old_cell (by assumption) K3, old_cell (by assumption) K3⟩)
      | (go_split_ands; exact ⟨old_cell (by assumption) K6, old_cell (by assumption) K6, old_cell (by assumption) K6⟩)
      | exact ⟨y0, y1, y2⟩
      | (go_split_ands; exact ⟨old_cell (by assumption) (bytesWorld_keep _ _ _), old_cell (by assumption) (bytesWorld_keep _ _ _), old_cell (by assumption) (bytesWorld_keep _ _ _)⟩)
      | go_keep)
    (first
      | (go_at_call 65; ((with_reducible refine (bits_f (k.size : Int) 4 k.size 4 _ rfl rfl (by have := H1.out; omega) (by omega)).mono ?_)); rintro e w2 ⟨A1, rfl, i1, r1, K1⟩)
      | (go_at_call 65; ((with_reducible refine (bits_f s 8 s.toNat 8 _ (by omega) rfl (by omega) (by omega)).mono ?_)); rintro e w3 ⟨A2, rfl, i2, r2, K2⟩)
      | (go_at_call 65; ((with_reducible refine (bits_f (d.length : Int) 4 d.length 4 _ rfl rfl (by have := H4.out; omega) (by omega)).mono ?_)); rintro e w4 ⟨A3, rfl, i3, r3, K3⟩)
      | (go_at_call 64
         refine (concat_five _ (bitsL k.size 4) k.data.toList (bitsL s.toNat 8) (bitsL d.length 4) d _ _ _ _ _ _ _ _ _ _ _ _ _ _ _ (16 + k.size + d.length) _ rfl (bitsL_len _ _).symm (size_list k) (bitsL_len _ _).symm (bitsL_len _ _).symm rfl ?_ ?_ ?_ ?_ ?_ ?_ ?_ ?_ ?_ ?_ ?_ ?_).mono ?_
         · exact RdV.old r1 (by repeat (first | exact Keep.refl _ _ | exact bytesWorld_keep _ _ _ | assumption | refine ktr ?_ (by assumption) | refine ktr ?_ (bytesWorld_keep _ _ _)))
         · first | (refine RdV.old (bytesWorld_rd w1.drew 5 k) ?_; (repeat (first | exact Keep.refl _ _ | exact bytesWorld_keep _ _ _ | assumption | refine ktr ?_ (by assumption) | refine ktr ?_ (bytesWorld_keep _ _ _))); done) | exact RdV.old (bytesWorld_rd _ 5 k) (by repeat (first | exact Keep.refl _ _ | exact bytesWorld_keep _ _ _ | assumption | refine ktr ?_ (by assumption) | refine ktr ?_ (bytesWorld_keep _ _ _)))
         · exact RdV.old r2 (by repeat (first | exact Keep.refl _ _ | exact bytesWorld_keep _ _ _ | assumption | refine ktr ?_ (by assumption) | refine ktr ?_ (bytesWorld_keep _ _ _)))
         · exact RdV.old r3 (by repeat (first | exact Keep.refl _ _ | exact bytesWorld_keep _ _ _ | assumption | refine ktr ?_ (by assumption) | refine ktr ?_ (bytesWorld_keep _ _ _)))
         · exact RdV.old HR.out (by repeat (first | exact Keep.refl _ _ | exact bytesWorld_keep _ _ _ | assumption | refine ktr ?_ (by assumption) | refine ktr ?_ (bytesWorld_keep _ _ _)))
         · exact i1
         · rfl
         · exact i2
         · exact i3
         · exact HA.out
         · omega
         · have := H1.out; have := H4.out; omega
         rintro e w5 ⟨A5, c5, rfl, hc5, hn5, o5, K5, K6⟩))
  all_goals
    go_wp2_with fail
    go_ret2
    refine ⟨A5, c5, rfl, hc5, hn5 (by omega), own_weaken o5 (Keep.size (F := fun j => w.heap.size ≤ j) ?_), ktr ?_ K5⟩
    all_goals repeat (first | exact Keep.refl _ _ | exact bytesWorld_keep _ _ _ | assumption | refine ktr ?_ (by assumption) | refine ktr ?_ (bytesWorld_keep _ _ _))
end Go.Proofs.Ytkglkpcpgdeneaa
