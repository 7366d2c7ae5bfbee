/- The walks of rec's order. Conditions: none. -/
import Derived.Test.YtkglkpcpgdeneaaCmp
import Derived.StillTailTactics
namespace Go.Proofs.Ytkglkpcpgdeneaa
open Go.RowKit

/-- An item's value: key, number, bytes (as they lie, whatever). -/
def itemV (k : ByteArray) (s : Int) (d : Value) : Value := .agg #[.string k, .int .i64 s, d]
/-- The order of (key, number). -/
def cmp2 (k : ByteArray) (s : Int) (k' : ByteArray) (s' : Int) : Int :=
  or2 (sgn (Op.bytesLess k.toList k'.toList) (Op.bytesLess k'.toList k.toList)) (sgn (decide (s < s')) (decide (s' < s)))

set_option maxRecDepth 100000 in
set_option maxHeartbeats 4000000 in
theorem rec_compare (k k' : ByteArray) (s s' : Int) (d d' : Value) (w : World) :
    Calls Try.prog 80 #[.agg #[.string k, .int .i64 s, d], .agg #[.string k', .int .i64 s', d']] w fun e w' => e = .returned (.int .i64 (cmp2 k s k' s')) ∧ Keep (fun b => w.heap.size ≤ b) w w' := by
  go_enter Try.func80, Try.ntmps80
  go_wp2_with fail
  generalize hW : (w.alloc (Obj.cells #[Value.string k, Value.int IntKind.i64 s, d] 44)).alloc (Obj.cells #[Value.string k', Value.int IntKind.i64 s', d'] 44) = W
  have B0 : Blk W w.heap.size 44 [.string k, .int .i64 s, d] := by rw [← hW]; exact (Blk.new w _ _).alloc _
  have B1 : Blk W (w.heap.size + 1) 44 [.string k', .int .i64 s', d'] := by
    rw [← hW]
    have := Blk.new (w.alloc (Obj.cells #[Value.string k, Value.int IntKind.i64 s, d] 44)) 44 [.string k', .int .i64 s', d']
    rwa [show (w.alloc (Obj.cells #[Value.string k, Value.int IntKind.i64 s, d] 44)).heap.size = w.heap.size + 1 by simp] at this
  have KW : Keep (fun b => w.heap.size ≤ b) w W := by rw [← hW]; exact ((Keep.refl _ w).alloc _).alloc _
  clear hW
  generalize hb0 : w.heap.size = b0 at B0 B1 KW ⊢
  generalize hb1 : b0 + 1 = b1 at B1 ⊢
  refine wp_region_still_tail 10 (by kernel_rfl) (by kernel_rfl) ?_
  simp only [List.take_succ_cons, List.take_zero, List.drop_succ_cons, List.drop_zero]
  have c0 := (show Blk W.drew b0 44 [.string k, .int .i64 s, d] from B0).cell 0
  have c1 := (show Blk W.drew b0 44 [.string k, .int .i64 s, d] from B0).cell 1
  have c2 := (show Blk W.drew b1 44 [.string k', .int .i64 s', d'] from B1).cell 0
  have c3 := (show Blk W.drew b1 44 [.string k', .int .i64 s', d'] from B1).cell 1
  have KW2 := KW.drew
  change wpStill _ _ W.drew (fun a' => wpList _ _ _ _ a' W.drew) _ _
  generalize W.drew = W2 at c0 c1 c2 c3 KW2 ⊢
  clear B0 B1 KW
  simp only [List.getElem?_cons_zero, List.getElem?_cons_succ] at c0 c1 c2 c3
  still_step
  still_step
  still_step
  still_step
  still_call (compare_str k k' _)
  still_step
  still_step
  still_step
  still_step
  still_call (compare_int s s' _)
  refine wpStill_nil ?_
  go_wp2_with fail
  refine (or_two _ _ W2.heap.size _ ((Blk.new W2 3 [_, _]).cell 0) ((Blk.new W2 3 [_, _]).cell 1)).mono ?_
  rintro e w' ⟨rfl, rfl⟩
  go_wp2
  go_ret
  exact ⟨rfl, by rw [hb0]; exact KW2.alloc _⟩

/-- rec.Less's answer. -/
def lt2 (k : ByteArray) (s : Int) (k' : ByteArray) (s' : Int) : Bool := decide (cmp2 k s k' s' < 0)
set_option maxHeartbeats 4000000 in
theorem rec_less (k k' : ByteArray) (s s' : Int) (d d' : Value) (w : World) :
    Calls Try.prog 91 #[.agg #[.string k, .int .i64 s, d], .agg #[.string k', .int .i64 s', d']] w fun e w' => e = .returned (.bool (lt2 k s k' s')) ∧ Keep (fun b => w.heap.size ≤ b) w w' := by
  go_enter Try.func91, Try.ntmps91
  go_wp2_with (refine (rec_compare k k' s s' d d' _).mono ?_; rintro e w' ⟨rfl, hk⟩; have KW := Lib.hid hk; clear hk)
  go_ret
  exact ⟨rfl, (((Keep.refl _ w).alloc _).alloc _).trans' KW.out (fun _ _ h => by simp at h; omega)⟩
/-- heap.less's answer. -/
def ltE (k : ByteArray) (s r : Int) (k' : ByteArray) (s' r' : Int) : Bool := lt2 k s k' s' || (!lt2 k' s' k s && decide (r < r'))
set_option maxHeartbeats 8000000 in
theorem heap_less (k k' : ByteArray) (s r s' r' : Int) (d d' : Value) (w : World) :
    Calls Try.prog 86 #[.agg #[.string k, .int .i64 s, d, .int .i64 r], .agg #[.string k', .int .i64 s', d', .int .i64 r']] w fun e w' => e = .returned (.bool (ltE k s r k' s' r')) ∧ Keep (fun b => w.heap.size ≤ b) w w' := by
  unfold ltE
  go_enter Try.func86, Try.ntmps86
  go_wp2_with fail
  generalize hW : (w.alloc (Obj.cells #[Value.string k, Value.int IntKind.i64 s, d, Value.int IntKind.i64 r] 128)).alloc (Obj.cells #[Value.string k', Value.int IntKind.i64 s', d', Value.int IntKind.i64 r'] 128) = W
  have B0 : Blk W w.heap.size 128 [.string k, .int .i64 s, d, .int .i64 r] := by rw [← hW]; exact (Blk.new w _ _).alloc _
  have B1 : Blk W (w.heap.size + 1) 128 [.string k', .int .i64 s', d', .int .i64 r'] := by
    rw [← hW]
    have := Blk.new (w.alloc (Obj.cells #[Value.string k, Value.int IntKind.i64 s, d, Value.int IntKind.i64 r] 128)) 128 [.string k', .int .i64 s', d', .int .i64 r']
    rwa [show (w.alloc (Obj.cells #[Value.string k, Value.int IntKind.i64 s, d, Value.int IntKind.i64 r] 128)).heap.size = w.heap.size + 1 by simp] at this
  have KW : Keep (fun b => w.heap.size ≤ b) w W := by rw [← hW]; exact ((Keep.refl _ w).alloc _).alloc _
  clear hW
  have hS : w.heap.size ≤ W.heap.size := KW.size
  generalize hb0 : w.heap.size = b0 at B0 B1 KW hS ⊢
  generalize hb1 : b0 + 1 = b1 at B1 ⊢
  refine (rec_less k k' s s' d d' W).mono ?_
  rintro e w1 ⟨rfl, K1⟩
  replace B0 := B0.keep K1 (by have := B0.lt; omega)
  replace B1 := B1.keep K1 (by have := B1.lt; omega)
  replace KW := KW.trans' K1 (fun j _ h => by omega)
  clear K1
  cases h1 : lt2 k s k' s'
  · have c0 := B0.cell 0
    have c1 := B0.cell 1
    have c2 := B0.cell 2
    have d0 := B1.cell 0
    have d1 := B1.cell 1
    have d2 := B1.cell 2
    simp only [List.getElem?_cons_zero, List.getElem?_cons_succ] at c0 c1 c2 d0 d1 d2
    go_wp2_with fail
    refine (rec_less k' k s' s d' d w1).mono ?_
    rintro e w2 ⟨rfl, K2⟩
    replace B0 := B0.keep K2 (by have := B0.lt; omega)
    replace B1 := B1.keep K2 (by have := B1.lt; omega)
    replace KW := KW.trans' K2 (fun j hj h => by have := KW.size; omega)
    clear K2 c0 c1 c2 d0 d1 d2
    cases h2 : lt2 k' s' k s
    · have c3 := B0.cell 3
      have d3 := B1.cell 3
      simp only [List.getElem?_cons_zero, List.getElem?_cons_succ] at c3 d3
      go_wp2_with (refine (less_int r r' _).mono ?_; rintro e w' ⟨rfl, rfl⟩)
      go_ret
      exact ⟨by simp [h1, h2], by rw [hb0]; exact KW⟩
    · go_wp2
      go_ret
      exact ⟨by simp [h1, h2], by rw [hb0]; exact KW⟩
  · go_wp2
    go_ret
    exact ⟨by simp [h1], by rw [hb0]; exact KW⟩
end Go.Proofs.Ytkglkpcpgdeneaa
