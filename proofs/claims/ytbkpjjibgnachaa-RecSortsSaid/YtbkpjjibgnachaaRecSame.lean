/- bytes.Equal, rec.Same. Conditions: none. -/
import Derived.Test.YtbkpjjibgnachaaSame13
namespace Go.Proofs.Ytbkpjjibgnachaa
open Go.RowKit

set_option maxRecDepth 100000 in
theorem equal_any (A A' : Option Addr) (n n' c c' : Nat) (y y' : List UInt8) (w : World) (hn : n = y.length) (hn' : n' = y'.length) (hr : RdV w A (bys y)) (hr' : RdV w A' (bys y')) (hA : A = none → y = []) (hA' : A' = none → y' = []) :
    Calls Try.prog 67 #[.slice A n c, .slice A' n' c'] w fun e w' => e = .returned (.bool (decide (y = y'))) ∧ w = w' := by
  have kb := fun (_ : True) => run_bytes_str (P := Try.prog) 28 9 5 Try.underlying28 Try.underlying5 Try.underlying9 n c hr hn hA
  have kb' := fun (_ : True) => run_bytes_str (P := Try.prog) 28 9 5 Try.underlying28 Try.underlying5 Try.underlying9 n' c' hr' hn' hA'
  clear hr hr' hA hA' hn hn'
  have e : decide (y = y') = ((str y).toList == (str y').toList) := by
    rw [Lib.toList_data, Lib.toList_data, str_data, str_data]
    by_cases h : y = y' <;> simp [h]
  rw [e]
  clear e
  go_enter Try.func67, Try.ntmps67
  go_wp2
  go_ret
  exact ⟨rfl, rfl⟩
theorem cmp2_zero (k k' : ByteArray) (s s' : Int) : (cmp2 k s k' s' == 0) = ((k.toList == k'.toList) && (s == s')) := by
  rw [Bool.eq_iff_iff]
  simp only [beq_iff_eq, Bool.and_eq_true]
  unfold cmp2 or2 sgn
  rw [bytesLess_eq, bytesLess_eq]
  rcases list_tri k.toList k'.toList with h | h | h
  · have hn : k.toList ≠ k'.toList := fun e => by rw [e] at h; exact List.lt_irrefl _ h
    simp [h, hn]
  · rw [h]
    have hi : ¬ k'.toList < k'.toList := List.lt_irrefl _
    simp only [hi, decide_false, Bool.false_eq_true, if_false, if_true, true_and]
    by_cases h1 : s < s'
    · simp [h1]; omega
    · by_cases h2 : s' < s
      · simp [h1, h2]; omega
      · simp [h1, h2]; omega
  · have hn : k.toList ≠ k'.toList := fun e => by rw [e] at h; exact List.lt_irrefl _ h
    have hn2 : ¬ k.toList < k'.toList := fun h2 => List.lt_irrefl _ (List.lt_trans h2 h)
    simp [h, hn, hn2]
set_option maxRecDepth 100000 in
set_option maxHeartbeats 4000000 in
theorem rec_same (k k' : ByteArray) (s s' : Int) (A A' : Option Addr) (n n' c c' : Nat) (y y' : List UInt8) (w : World) (hn : n = y.length) (hn' : n' = y'.length) (hr : RdV w A (bys y)) (hr' : RdV w A' (bys y')) (hA : A = none → y = []) (hA' : A' = none → y' = []) :
    Calls Try.prog 45 #[.agg #[.string k, .int .i64 s, .slice A n c], .agg #[.string k', .int .i64 s', .slice A' n' c']] w fun e w' => e = .returned (.bool ((k.toList == k'.toList) && (s == s') && decide (y = y'))) ∧ Keep (fun b => w.heap.size ≤ b) w w' := by
  have HZ := Lib.hid (cmp2_zero k k' s s')
  have HR := Lib.hid (And.intro hr hr')
  have HA := Lib.hid (And.intro hA hA')
  have HN := Lib.hid (And.intro hn hn')
  clear hr hr' hA hA' hn hn'
  go_enter Try.func45, Try.ntmps45
  go_wp2_with fail
  have B0 : Blk ((w.alloc (Obj.cells #[.string k, .int .i64 s, .slice A n c] 47)).alloc (Obj.cells #[.string k', .int .i64 s', .slice A' n' c'] 47)) w.heap.size 47 [.string k, .int .i64 s, .slice A n c] := (Blk.new w _ _).alloc _
  have B1 : Blk ((w.alloc (Obj.cells #[.string k, .int .i64 s, .slice A n c] 47)).alloc (Obj.cells #[.string k', .int .i64 s', .slice A' n' c'] 47)) (w.heap.size + 1) 47 [.string k', .int .i64 s', .slice A' n' c'] := by
    have := Blk.new (w.alloc (Obj.cells #[.string k, .int .i64 s, .slice A n c] 47)) 47 [.string k', .int .i64 s', .slice A' n' c']
    rwa [show (w.alloc (Obj.cells #[.string k, .int .i64 s, .slice A n c] 47)).heap.size = w.heap.size + 1 by simp] at this
  have KW : Keep (fun b => w.heap.size ≤ b) w ((w.alloc (Obj.cells #[.string k, .int .i64 s, .slice A n c] 47)).alloc (Obj.cells #[.string k', .int .i64 s', .slice A' n' c'] 47)) := ((Keep.refl _ w).alloc _).alloc _
  generalize (w.alloc (Obj.cells #[.string k, .int .i64 s, .slice A n c] 47)).alloc (Obj.cells #[.string k', .int .i64 s', .slice A' n' c'] 47) = W at B0 B1 KW ⊢
  refine (rec_compare k k' s s' _ _ W).mono ?_
  rintro e w1 ⟨rfl, K1⟩
  have HB0 := Lib.hid (B0.keep K1 (by have := B0.lt; omega))
  have HB1 := Lib.hid (B1.keep K1 (by have := B1.lt; omega))
  have HK := Lib.hid (KW.trans' K1 (fun j hj h => by have := KW.size; omega))
  clear B0 B1 KW K1
  have z2 := HB0.out.cell 2
  have y2 := HB1.out.cell 2
  simp only [List.getElem?_cons_zero, List.getElem?_cons_succ] at z2 y2
  cases hc : (cmp2 k s k' s' == 0)
  · have HC := Lib.hid hc
    go_wp2_with fail
    go_ret
    refine ⟨ret_bool ?_, HK.out⟩
    rw [← HZ.out, HC.out]; rfl
  · have HC := Lib.hid hc
    go_wp2_with (go_at_call 67; refine (equal_any A A' n n' c c' y y' _ HN.out.1 HN.out.2 (HR.out.1.old HK.out) (HR.out.2.old HK.out) HA.out.1 HA.out.2).mono ?_; rintro e w' ⟨rfl, rfl⟩)
    go_ret
    refine ⟨ret_bool ?_, HK.out⟩
    rw [← HZ.out, HC.out]; rfl
end Go.Proofs.Ytbkpjjibgnachaa
