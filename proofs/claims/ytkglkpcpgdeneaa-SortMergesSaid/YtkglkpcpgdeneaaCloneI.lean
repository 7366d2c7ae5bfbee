/- slices.Clone of ints gives a row of its own that holds the same. Conditions: none. -/
import Derived.Test.YtkglkpcpgdeneaaBase
import Derived.Test.YtkglkpcpgdeneaaRows
import Derived.WalkSpells
namespace Go.Proofs.Ytkglkpcpgdeneaa
open Go.RowKit

/-- slices.Clone, ints. -/
theorem cloneI_any (A : Option Addr) (n c : Nat) (vs : List Value) (w : World) (hr : RdV w A vs) (hl : vs.length = n) (hA : A = none → n = 0 ∧ c = 0) (h1 : ∀ u ∈ vs, u.oneCell' = true) (hb : n * 8 ≤ 140737488355328) :
    Calls Try.prog 44 #[.slice A n c] w fun e w' => ∃ v, e = .returned v ∧ w'.ownsRow w.heap.size 3 1 v n vs ∧ Keep (fun _ => False) w w' := by
  cases A with
  | none =>
    obtain ⟨rfl, rfl⟩ := hA rfl
    have hv : vs = [] := List.eq_nil_of_length_eq_zero hl
    subst hv
    clear hb hA hl hr h1
    have hE := Lib.run_eql_slice_nil (P := Try.prog) w 37 3 none 0 0 0 0 Try.underlying37
    go_enter Try.func44, Try.ntmps44
    go_wp2
    refine bodyPost_ret (v := .slice none 0 0) (by simp [results, Try.results44, go_sem]) rfl ?_
    exact ⟨_, rfl, World.ownsRow_nil w _ _ 1, Keep.refl _ w⟩
  | some x =>
    have HR := Lib.hid hr
    have H1 := Lib.hid h1
    have HL := Lib.hid hl
    have hE := Lib.run_eql_slice_nil (P := Try.prog) w 37 3 (some x) n c 0 0 Try.underlying37
    have HB := Lib.hid hb
    clear hr h1 hA hl hb
    go_enter Try.func44, Try.ntmps44
    go_wp2_with (at_builtin; refine wpL_append _ rfl (.tmp 5) (.tmp 6) 37 37 rfl w.heap.size 3 (.int .i64 0) 1 8 Try.underlying37 (by kernel_rfl) rfl (by decide) _ 0 [] rfl (own_empty w _ _ 1 (Nat.le_refl _) _ rfl) _ n _ rfl (Src.of_rd Try.underlying37 ((HR.out).keep ((Keep.refl (fun _ => False) w).alloc _) (fun _ _ _ h => h)) n c (by rw [HL.out, Nat.mul_one]) H1.out (fun e => by cases e)) (by have := HB.out; unfold maxLen; omega) (by have := HB.out; omega) (by simp) ?_; intro v1 w1 hown1 hg1 hat1; have HO1 := Lib.hid hown1; have HG1 := Lib.hid hg1; clear hown1 hg1 hat1)
    go_ret
    refine ⟨_, rfl, by have := HO1.out; simpa using this, ((Keep.refl (fun _ => False) w).alloc _).trans' (Keep.of_grown HG1.out) (fun k hk e => ?_)⟩
    injection (show some k = some w.heap.size from e) with e2
    omega

end Go.Proofs.Ytkglkpcpgdeneaa
