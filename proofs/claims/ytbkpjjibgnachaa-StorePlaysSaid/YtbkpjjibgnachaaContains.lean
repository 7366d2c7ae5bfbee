/- slices.Contains over ints tells whether the number is there. Conditions: none. -/
import Derived.Test.YtbkpjjibgnachaaRows
import Derived.Test.YtbkpjjibgnachaaBase
namespace Go.Proofs.Ytbkpjjibgnachaa
open Go.RowKit

def IdxPost (l : List Int) (x : Int) (w : World) (e : Ending) (w' : World) : Prop := ∃ k : Int, e = .returned (.int .i64 k) ∧ decide (0 ≤ k) = decide (x ∈ l) ∧ w' = w
theorem index_any (A : Option Addr) (c : Nat) (l : List Int) (x : Int) (w : World) (hr : RdV w A (l.map (Value.int .i64))) (hl : l.length ≤ 9223372036854775807) :
    Calls Try.prog 69 #[.slice A l.length c, .int .i64 x] w (IdxPost l x w) := by
  have HR := Lib.hid hr
  clear hr
  go_enter Try.func69, Try.ntmps69
  go_wp2
  go_loop [8] (fun i => ∃ k : Nat, k ≤ l.length ∧ i = .int .i64 k ∧ Hid (x ∉ l.take k)) (fun i => l.length - (intOf i).toNat)
  case atStart => exact ⟨0, by omega, rfl, Lib.hid (by simp)⟩
  case round =>
    obtain ⟨k, hk, rfl, HN⟩ := hrel
    by_cases hlt : k < l.length
    · obtain ⟨a, rfl, hc⟩ := HR.out k (.int .i64 l[k]) (by simp [hlt])
      generalize hv : l[k] = v at hc
      have HV := Lib.hid hv
      clear hv
      by_cases he : x = v
      · have he2 : (x == v) = true := by simpa using he
        have HE := Lib.hid he
        clear he
        go_wp2
        go_ret
        refine ⟨k, rfl, ?_, rfl⟩
        rw [decide_eq_true (by omega), decide_eq_true]
        rw [HE.out, ← HV.out]; exact List.getElem_mem _
      · have he2 : (x == v) = false := by simpa using he
        have HE := Lib.hid he
        clear he
        go_wp2
        go_round
        case rel =>
          refine ⟨k + 1, by omega, by go_num, Lib.hid ?_⟩
          rw [List.take_succ_eq_append_getElem hlt, List.mem_append, List.mem_singleton, HV.out]
          exact fun h => h.elim HN.out HE.out
        case measure => simp [intOf]; omega
    · go_wp2
      go_ret
      refine ⟨-1, rfl, ?_, rfl⟩
      have := HN.out
      rw [List.take_of_length_le (by omega)] at this
      rw [decide_eq_false this]; rfl
theorem contains_any (A : Option Addr) (c n : Nat) (l : List Int) (x : Int) (w : World) (hr : RdV w A (l.map (Value.int .i64))) (hn : n = l.length) (hl : l.length ≤ 9223372036854775807) :
    Calls Try.prog 52 #[.slice A n c, .int .i64 x] w fun e w' => e = .returned (.bool (decide (x ∈ l))) ∧ w' = w := by
  subst hn
  have HR := Lib.hid hr
  clear hr
  go_enter Try.func52, Try.ntmps52
  go_wp2_with (go_at_call 69; refine (index_any A c l x _ HR.out hl).mono ?_; rintro e w' ⟨k, rfl, hd, rfl⟩; have HD := Lib.hid hd; clear hd)
  go_ret
  exact ⟨ret_bool HD.out, rfl⟩
theorem contains_c (A : Option Addr) (c n : Nat) (l : List Int) (x : Int) (b : Bool) (w : World) (hr : RdV w A (l.map (Value.int .i64))) (hn : n = l.length) (hl : l.length ≤ 9223372036854775807) (hb : decide (x ∈ l) = b) :
    Calls Try.prog 52 #[.slice A n c, .int .i64 x] w fun e w' => e = .returned (.bool b) ∧ w' = w :=
  (contains_any A c n l x w hr hn hl).mono fun e w' ⟨p, q⟩ => ⟨by rw [p, hb], q⟩
end Go.Proofs.Ytbkpjjibgnachaa
