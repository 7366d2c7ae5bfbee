/- The reference's order of items, law 15's of entries. Conditions: none. -/
import Derived.Test.YtbkpjjibgnachaaHeapP
import Derived.Test.YtbkpjjibgnachaaLaw15
namespace Go.Proofs.Ytbkpjjibgnachaa
open Go.RowKit

theorem lt2_eq (k k' : ByteArray) (s s' : Int) : lt2 k s k' s' = (Op.bytesLess k.toList k'.toList || (k.toList == k'.toList && decide (s < s'))) := by
  rw [Bool.eq_iff_iff, lt2_iff, bytesLess_eq]
  simp
set_option maxRecDepth 100000 in
set_option maxHeartbeats 4000000 in
theorem less13 (k k' : ByteArray) (s s' : Int) (d d' : Value) (w : World) :
    Calls Try.prog 44 #[.agg #[.string k, .int .i64 s, d], .agg #[.string k', .int .i64 s', d']] w fun e w' => e = .returned (.bool (lt2 k s k' s')) ∧ Keep (fun b => w.heap.size ≤ b) w w' := by
  rw [lt2_eq]
  go_enter Try.func44, Try.ntmps44
  cases h1 : Op.bytesLess k.toList k'.toList
  · cases h2 : (k.toList == k'.toList)
    · go_wp2
      go_ret
      exact ⟨rfl, ((Keep.refl _ w).alloc _).alloc _⟩
    · go_wp2
      go_ret
      exact ⟨rfl, ((Keep.refl _ w).alloc _).alloc _⟩
  · go_wp2
    go_ret
    exact ⟨rfl, ((Keep.refl _ w).alloc _).alloc _⟩
set_option maxRecDepth 100000 in
set_option maxHeartbeats 8000000 in
theorem less15 (k k' : ByteArray) (s r s' r' : Int) (d d' : Value) (w : World) :
    Calls Try.prog 29 #[.agg #[.string k, .int .i64 s, d, .int .i64 r], .agg #[.string k', .int .i64 s', d', .int .i64 r']] w fun e w' => e = .returned (.bool (ltE k s r k' s' r')) ∧ Keep (fun b => w.heap.size ≤ b) w w' := by
  unfold ltE
  go_enter Try.func29, Try.ntmps29
  go_wp2_with fail
  generalize hW : (w.alloc (Obj.cells #[Value.string k, Value.int IntKind.i64 s, d, Value.int IntKind.i64 r] 49)).alloc (Obj.cells #[Value.string k', Value.int IntKind.i64 s', d', Value.int IntKind.i64 r'] 49) = W
  have B0 : Blk W w.heap.size 49 [.string k, .int .i64 s, d, .int .i64 r] := by rw [← hW]; exact (Blk.new w _ _).alloc _
  have B1 : Blk W (w.heap.size + 1) 49 [.string k', .int .i64 s', d', .int .i64 r'] := by
    rw [← hW]
    have := Blk.new (w.alloc (Obj.cells #[Value.string k, Value.int IntKind.i64 s, d, Value.int IntKind.i64 r] 49)) 49 [.string k', .int .i64 s', d', .int .i64 r']
    rwa [show (w.alloc (Obj.cells #[Value.string k, Value.int IntKind.i64 s, d, Value.int IntKind.i64 r] 49)).heap.size = w.heap.size + 1 by simp] at this
  have KW : Keep (fun b => w.heap.size ≤ b) w W := by rw [← hW]; exact ((Keep.refl _ w).alloc _).alloc _
  clear hW
  have hS : w.heap.size ≤ W.heap.size := KW.size
  generalize hb0 : w.heap.size = b0 at B0 B1 KW hS ⊢
  generalize hb1 : b0 + 1 = b1 at B1 ⊢
  refine (less13 k k' s s' d d' W).mono ?_
  rintro e w1 ⟨rfl, K1⟩
  replace B0 := B0.keep K1 (by have := B0.lt; omega)
  replace B1 := B1.keep K1 (by have := B1.lt; omega)
  replace KW := KW.trans' K1 (fun j _ h => by omega)
  clear K1
  cases h1 : lt2 k s k' s'
  · have c0 := B0.cell 0
    have c1 := B0.cell 1
    have c2 := B0.cell 2
    have d0 := B1.cell 0
    have d1 := B1.cell 1
    have d2 := B1.cell 2
    simp only [List.getElem?_cons_zero, List.getElem?_cons_succ] at c0 c1 c2 d0 d1 d2
    go_wp2_with fail
    refine (less13 k' k s' s d' d w1).mono ?_
    rintro e w2 ⟨rfl, K2⟩
    replace B0 := B0.keep K2 (by have := B0.lt; omega)
    replace B1 := B1.keep K2 (by have := B1.lt; omega)
    replace KW := KW.trans' K2 (fun j hj h => by have := KW.size; omega)
    clear K2 c0 c1 c2 d0 d1 d2
    cases h2 : lt2 k' s' k s
    · have c3 := B0.cell 3
      have d3 := B1.cell 3
      simp only [List.getElem?_cons_zero, List.getElem?_cons_succ] at c3 d3
      go_wp2
      go_ret
      exact ⟨by simp [h1, h2], by rw [hb0]; exact KW⟩
    · go_wp2
      go_ret
      exact ⟨by simp [h1, h2], by rw [hb0]; exact KW⟩
  · go_wp2
    go_ret
    exact ⟨by simp [h1], by rw [hb0]; exact KW⟩
end Go.Proofs.Ytbkpjjibgnachaa
