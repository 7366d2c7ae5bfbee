/- The heap's Len, Least. Conditions: none. -/
import Derived.Test.YtbkpjjibgnachaaHeapB
namespace Go.Proofs.Ytbkpjjibgnachaa
open Go.RowKit

def valE (e : En) : Value := .agg #[.string e.k, .int .i64 e.s, .slice e.A e.n e.c, .int .i64 e.r]
theorem HeapAt.head {w : World} {F : Nat → Prop} {hb : Nat} {L : List En} (h : HeapAt w F hb L) : ∃ A c, Blk w hb 44 [.slice A L.length c] ∧ (0 < L.length → ∃ g, A = some ⟨g, 0, none⟩ ∧ F g ∧ RowE w g c L) := by
  obtain ⟨_, v, hB, hv⟩ := h
  rcases hv with ⟨rfl, rfl⟩ | ⟨g, cap, rfl, hg, hr⟩
  · exact ⟨none, 0, hB, fun h => absurd h (by simp)⟩
  · exact ⟨_, cap, hB, fun _ => ⟨g, rfl, hg, hr⟩⟩
set_option maxHeartbeats 1000000 in
theorem len_nil (w : World) : Calls Try.prog 31 #[.pointer none] w fun e w' => e = .returned (.int .i64 0) ∧ w' = w := by
  go_enter Try.func31, Try.ntmps31
  go_wp2
  go_ret
  exact ⟨rfl, rfl⟩
set_option maxHeartbeats 1000000 in
theorem len_any (hb : Nat) (A : Option Addr) (n c : Nat) (w : World) (hc : w.cell? ⟨hb, 0, none⟩ = some (.slice A n c)) : Calls Try.prog 31 #[.pointer (some ⟨hb, 0, none⟩)] w fun e w' => e = .returned (.int .i64 n) ∧ w' = w := by
  go_enter Try.func31, Try.ntmps31
  go_wp2
  go_ret
  exact ⟨rfl, rfl⟩
/-- The result of a function that answers an entry and whether. -/
theorem results_entry {fn : Func} (h : fn.results = #[.cell 2 49, .tmp 3]) (tmps : Array Value) (b : Nat) (e : En) (w : World) (ht : tmps.getD 2 undef = .pointer (some ⟨b, 0, none⟩)) (hB : Blk w b 49 e.cells) :
    (results fn tmps).run Try.prog w = .ok (.tuple #[valE e, tmps.getD 3 undef]) w := by
  have c0 := hB.cell 0
  have c1 := hB.cell 1
  have c2 := hB.cell 2
  have c3 := hB.cell 3
  simp only [En.cells, List.getElem?_cons_zero, List.getElem?_cons_succ] at c0 c1 c2 c3
  have ht2 : tmps[2]?.getD undef = .pointer (some ⟨b, 0, none⟩) := by rw [← ht]; simp
  simp [results, h, ht2, go_sem, c0, c1, c2, c3, valE]
set_option maxRecDepth 100000 in
set_option maxHeartbeats 1000000 in
theorem least_nil (w : World) : Calls Try.prog 27 #[.pointer none] w fun e w' => e = .returned (.tuple #[valE z0, .bool false]) ∧ Keep (fun b => w.heap.size ≤ b) w w' := by
  go_enter Try.func27, Try.ntmps27
  go_wp2_with (refine (len_nil _).mono ?_; rintro e w' ⟨rfl, rfl⟩)
  exact bodyPost_ret (results_entry rfl _ _ z0 _ rfl (Blk.new w _ _)) rfl ⟨rfl, (Keep.refl _ w).alloc _⟩
set_option maxRecDepth 100000 in
set_option maxHeartbeats 1000000 in
theorem least_none (hb : Nat) (A : Option Addr) (c : Nat) (w : World) (hc : w.cell? ⟨hb, 0, none⟩ = some (.slice A 0 c)) : Calls Try.prog 27 #[.pointer (some ⟨hb, 0, none⟩)] w fun e w' => e = .returned (.tuple #[valE z0, .bool false]) ∧ Keep (fun b => w.heap.size ≤ b) w w' := by
  have hlt := block_lt hc
  go_enter Try.func27, Try.ntmps27
  go_wp2_with (refine (len_any hb A 0 c _ (by rw [← hc]; exact World.cell?_alloc_lt w _ _ hlt)).mono ?_; rintro e w' ⟨rfl, rfl⟩)
  exact bodyPost_ret (results_entry rfl _ _ z0 _ rfl (Blk.new w _ _)) rfl ⟨rfl, (Keep.refl _ w).alloc _⟩
set_option maxRecDepth 100000 in
set_option maxHeartbeats 1000000 in
theorem least_some (hb g c : Nat) (L : List En) (w : World) (hc : w.cell? ⟨hb, 0, none⟩ = some (.slice (some ⟨g, 0, none⟩) L.length c)) (hr : RowE w g c L) (hl : 0 < L.length) : Calls Try.prog 27 #[.pointer (some ⟨hb, 0, none⟩)] w fun e w' => e = .returned (.tuple #[valE (gE L 0), .bool true]) ∧ Keep (fun b => w.heap.size ≤ b) w w' := by
  have hlt := block_lt hc
  have hne : ((L.length : Int) == 0) = false := beq_false_of_ne (by omega)
  have hne2 : (0 : Int) < L.length := by omega
  have hgl := hr.lt
  have x0 := hr.cell 0 0 hl (by omega)
  have x1 := hr.cell 0 1 hl (by omega)
  have x2 := hr.cell 0 2 hl (by omega)
  have x3 := hr.cell 0 3 hl (by omega)
  rw [← gE_eq L 0 hl] at x0 x1 x2 x3
  simp only [En.cells, List.getElem?_cons_zero, List.getElem?_cons_succ, Nat.add_zero, Nat.zero_mul, Nat.zero_add] at x0 x1 x2 x3
  clear hl hr
  go_enter Try.func27, Try.ntmps27
  go_wp2_with (refine (len_any hb _ L.length c _ (by rw [← hc]; exact World.cell?_alloc_lt w _ _ hlt)).mono ?_; rintro e w' ⟨rfl, rfl⟩)
  exact bodyPost_ret (results_entry rfl _ _ (gE L 0) _ rfl (Blk.new w _ _)) rfl ⟨rfl, (Keep.refl _ w).alloc _⟩
end Go.Proofs.Ytbkpjjibgnachaa
