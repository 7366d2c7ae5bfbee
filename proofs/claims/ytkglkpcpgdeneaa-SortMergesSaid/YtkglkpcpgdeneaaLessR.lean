/- The reference's order of items. Conditions: none. -/
import Derived.Test.YtkglkpcpgdeneaaLtTwo
namespace Go.Proofs.Ytkglkpcpgdeneaa
open Go.RowKit

theorem lt2_eq (k k' : ByteArray) (s s' : Int) : lt2 k s k' s' = (Op.bytesLess k.toList k'.toList || (k.toList == k'.toList && decide (s < s'))) := by
  rw [Bool.eq_iff_iff, lt2_iff, bytesLess_eq]
  simp
set_option maxRecDepth 100000 in
set_option maxHeartbeats 4000000 in
theorem less13 (k k' : ByteArray) (s s' : Int) (d d' : Value) (w : World) :
    Calls Try.prog 38 #[.agg #[.string k, .int .i64 s, d], .agg #[.string k', .int .i64 s', d']] w fun e w' => e = .returned (.bool (lt2 k s k' s')) ∧ Keep (fun b => w.heap.size ≤ b) w w' := by
  rw [lt2_eq]
  go_enter Try.func38, Try.ntmps38
  cases h1 : Op.bytesLess k.toList k'.toList
  · cases h2 : (k.toList == k'.toList)
    · go_wp2
      go_ret
      exact ⟨rfl, ((Keep.refl _ w).alloc _).alloc _⟩
    · go_wp2
      go_ret
      exact ⟨rfl, ((Keep.refl _ w).alloc _).alloc _⟩
  · go_wp2
    go_ret
    exact ⟨rfl, ((Keep.refl _ w).alloc _).alloc _⟩
end Go.Proofs.Ytkglkpcpgdeneaa
