/- The reference's likeness of items. Conditions: none. -/
import Derived.Test.YtkglkpcpgdeneaaLessR
import Derived.Test.YtkglkpcpgdeneaaStr
namespace Go.Proofs.Ytkglkpcpgdeneaa
open Go.RowKit

set_option maxRecDepth 100000 in
set_option maxHeartbeats 4000000 in
theorem same13 (k k' : ByteArray) (s s' : Int) (A A' : Option Addr) (n n' c c' : Nat) (y y' : List UInt8) (w : World) (hn : n = y.length) (hn' : n' = y'.length) (hr : RdV w A (bys y)) (hr' : RdV w A' (bys y')) (hA : A = none → y = []) (hA' : A' = none → y' = []) :
    Calls Try.prog 33 #[.agg #[.string k, .int .i64 s, .slice A n c], .agg #[.string k', .int .i64 s', .slice A' n' c']] w fun e w' => e = .returned (.bool ((k.toList == k'.toList) && (s == s') && ((str y).toList == (str y').toList))) ∧ Keep (fun b => w.heap.size ≤ b) w w' := by
  subst hn hn'
  have hK : ∀ o o', Keep (fun b => w.heap.size ≤ b) w ((w.alloc o).alloc o') := fun o o' => ((Keep.refl _ w).alloc _).alloc _
  have kb := fun (_ : True) => run_bytes_str (P := Try.prog) 42 9 5 Try.underlying42 Try.underlying5 Try.underlying9 y.length c (hr.old (hK (Obj.cells #[.string k, .int .i64 s, .slice A y.length c] 44) (Obj.cells #[.string k', .int .i64 s', .slice A' y'.length c'] 44))) rfl hA
  have kb' := fun (_ : True) => run_bytes_str (P := Try.prog) 42 9 5 Try.underlying42 Try.underlying5 Try.underlying9 y'.length c' (hr'.old (hK (Obj.cells #[.string k, .int .i64 s, .slice A y.length c] 44) (Obj.cells #[.string k', .int .i64 s', .slice A' y'.length c'] 44))) rfl hA'
  clear hK hr hr' hA hA'
  go_enter Try.func33, Try.ntmps33
  cases h1 : (k.toList == k'.toList)
  · go_wp2
    go_ret
    exact ⟨rfl, ((Keep.refl _ w).alloc _).alloc _⟩
  · cases h2 : (s == s')
    · go_wp2
      go_ret
      exact ⟨rfl, ((Keep.refl _ w).alloc _).alloc _⟩
    · go_wp2

      go_ret
      exact ⟨rfl, ((Keep.refl _ w).alloc _).alloc _⟩
end Go.Proofs.Ytkglkpcpgdeneaa
