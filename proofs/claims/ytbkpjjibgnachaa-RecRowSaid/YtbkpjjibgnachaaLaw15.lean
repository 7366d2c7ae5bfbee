/- Law 15's answers. Conditions: none. -/
import Derived.Test.YtbkpjjibgnachaaHeapE
namespace Go.Proofs.Ytbkpjjibgnachaa
open Go.RowKit

set_option maxHeartbeats 1000000 in
theorem push_nil (k : ByteArray) (s : Int) (A : Option Addr) (n c : Nat) (r : Int) (w : World) : Calls Try.prog 25 #[.pointer none, .agg #[.string k, .int .i64 s, .slice A n c, .int .i64 r]] w fun e w' => e = .returned (.tuple #[]) ∧ Keep (fun b => w.heap.size ≤ b) w w' := by
  go_enter Try.func25, Try.ntmps25
  go_wp2
  (try simp only [Exit.inBlock, Exit.then])
  refine bodyPost_ret (results_none rfl _ _ _) rfl ?_
  exact ⟨rfl, (Keep.refl _ w).alloc _⟩
def eB : En := ⟨⟨#[98]⟩, 0, none, 0, 0, 0⟩
def eA : En := ⟨⟨#[97]⟩, 0, none, 0, 0, 5⟩
theorem push1 : pushE [] eB = [eB] := upE_zero _
theorem push2 : pushE [eB] eA = [eA, eB] := by
  have h : ltN eA eB = true := by decide +kernel
  show upE 1 [eB, eA] = _
  rw [upE_go 1 [eB, eA] (by omega) h]
  exact upE_zero _
theorem pop2 : (popE [eA, eB]).length = 1 := popE_len _
theorem new_heap (w : World) : HeapAt (w.alloc (Obj.cells #[.slice none 0 0] 44)) (fun k => k = w.heap.size) w.heap.size [] := ⟨rfl, _, Blk.new w _ _, .inl ⟨rfl, rfl⟩⟩
set_option maxRecDepth 100000 in
set_option maxHeartbeats 4000000 in
theorem answers15 (w : World) : Calls Try.prog 24 #[] w fun e w' => e = .returned (.bool true) ∧ Keep (fun b => w.heap.size ≤ b) w w' := by
  go_enter Try.func24, Try.ntmps24
  go_wp2_with fail
  have hH := new_heap w
  have K0 : Keep (fun b => w.heap.size ≤ b) w (w.alloc (Obj.cells #[.slice none 0 0] 44)) := (Keep.refl _ w).alloc _
  generalize w.alloc (Obj.cells #[.slice none 0 0] 44) = w0 at hH K0 ⊢
  generalize hb0 : w.heap.size = hb at hH K0 ⊢
  refine (heap_push _ hb [] eB w0 hH (by simp)).mono ?_
  rintro e w1 ⟨rfl, hH1, K1⟩
  rw [push1] at hH1
  have s0 := K0.size
  have K1' := K0.trans' K1 (fun j _ e => by have e2 : j = hb := e; omega)
  clear K1 K0 hH
  go_wp2_with fail
  refine (heap_push _ hb [eB] eA w1 hH1 (by simp)).mono ?_
  rintro e w2 ⟨rfl, hH2, K2⟩
  rw [push2] at hH2
  have K2' := K1'.trans' K2 (fun j _ e => by
    rcases e with e | ⟨e, _⟩
    · have e2 : j = hb := e; omega
    · omega)
  have s1 := K1'.size
  clear K2 K1' hH1
  go_wp2_with fail
  refine (pop_some _ hb [eA, eB] w2 hH2 (by simp) (by simp)).mono ?_
  rintro e w3 ⟨rfl, hH3, K3⟩
  have K3' := K2'.trans' K3 (fun j _ e => by
    have s2 := K2'.size
    rcases e with (e | ⟨e, _⟩) | e
    · rcases e with e | ⟨e, _⟩
      · have e2 : j = hb := e; omega
      · omega
    · omega
    · omega)
  obtain ⟨A3, c3, hB3, _⟩ := hH3.head
  rw [pop2] at hB3
  have HB3 := Lib.hid hB3
  have HK3 := Lib.hid K3'
  clear hB3 K3 K3' K2' hH2 hH3
  simp only [valE, gE, List.getD_cons_zero, eA]
  have hcq := (HB3.out.alloc (Obj.cells #[.string ⟨#[97]⟩, .int .i64 0, .slice none 0 0, .int .i64 5] 49)).cell 0
  simp only [List.getElem?_cons_zero] at hcq
  clear s0 s1
  go_wp2_with fail
  refine (len_any hb A3 1 c3 _ hcq).mono ?_
  rintro e w4 ⟨rfl, rfl⟩
  go_wp2
  go_ret
  exact ⟨rfl, by rw [hb0]; exact HK3.out.alloc _⟩
set_option maxRecDepth 100000 in
set_option maxHeartbeats 4000000 in
theorem heapNone_keep (k : ByteArray) (s : Int) (A : Option Addr) (n c : Nat) (r : Int) (w : World) : Calls Try.prog 7 #[.agg #[.string k, .int .i64 s, .slice A n c, .int .i64 r]] w fun e w' => e = .returned (.bool true) ∧ Keep (fun b => w.heap.size ≤ b) w w' := by
  go_enter Try.func7, Try.ntmps7
  go_wp2_with fail
  have K0 : Keep (fun b => w.heap.size ≤ b) w (w.alloc (Obj.cells #[.string k, .int .i64 s, .slice A n c, .int .i64 r] 49)) := (Keep.refl _ w).alloc _
  generalize w.alloc (Obj.cells #[.string k, .int .i64 s, .slice A n c, .int .i64 r] 49) = w0 at K0 ⊢
  have s0 := K0.size
  refine (push_nil k s A n c r w0).mono ?_
  rintro e w1 ⟨rfl, K1⟩
  have K1' := K0.trans' K1 (fun j _ h => by have h2 : w0.heap.size ≤ j := h; omega)
  have s1 := K1'.size
  clear K0 K1
  go_wp2_with fail
  refine (pop_nil w1).mono ?_
  rintro e w2 ⟨rfl, K2⟩
  have K2' := (K1'.trans' K2 (fun j _ h => by have h2 : w1.heap.size ≤ j := h; omega)).alloc (Obj.cells #[.string ⟨#[]⟩, .int .i64 0, .slice none 0 0, .int .i64 0] 49)
  have s2 := K2'.size
  clear K1' K2
  simp only [valE, z0]
  go_wp2_with fail
  generalize w2.alloc (Obj.cells #[.string ⟨#[]⟩, .int .i64 0, .slice none 0 0, .int .i64 0] 49) = w3 at K2' s2 ⊢
  refine (least_nil w3).mono ?_
  rintro e w4 ⟨rfl, K4⟩
  have K4' := ((K2'.trans' K4 (fun j _ h => by have h2 : w3.heap.size ≤ j := h; omega)).alloc (Obj.cells #[.string ⟨#[]⟩, .int .i64 0, .slice none 0 0, .int .i64 0] 49))
  simp only [valE, z0]
  go_wp2_with fail
  have K5 := K4'.alloc (Obj.cells #[.slice none 0 0] 44)
  have hn := (Blk.new (w4.alloc (Obj.cells #[.string ⟨#[]⟩, .int .i64 0, .slice none 0 0, .int .i64 0] 49)) 44 [.slice none 0 0]).cell 0
  rw [show (w4.alloc (Obj.cells #[.string ⟨#[]⟩, .int .i64 0, .slice none 0 0, .int .i64 0] 49)).heap.size = w4.heap.size + 1 by simp] at hn
  change ((w4.alloc (Obj.cells #[.string ⟨#[]⟩, .int .i64 0, .slice none 0 0, .int .i64 0] 49)).alloc (Obj.cells #[.slice none 0 0] 44)).cell? _ = _ at hn
  simp only [List.getElem?_cons_zero] at hn
  generalize (w4.alloc (Obj.cells #[.string ⟨#[]⟩, .int .i64 0, .slice none 0 0, .int .i64 0] 49)).alloc (Obj.cells #[.slice none 0 0] 44) = w5 at hn K5 ⊢
  have s5 := K5.size
  clear K4' K2' K4
  refine (pop_none (w4.heap.size + 1) none 0 w5 hn).mono ?_
  rintro e w6 ⟨rfl, K6⟩
  have K6' := (K5.trans' K6 (fun j _ h => by have h2 : w5.heap.size ≤ j := h; omega)).alloc (Obj.cells #[.string ⟨#[]⟩, .int .i64 0, .slice none 0 0, .int .i64 0] 49)
  have s6 := K6'.size
  simp only [valE, z0]
  clear K5 K6
  go_wp2_with fail
  generalize w6.alloc (Obj.cells #[.string ⟨#[]⟩, .int .i64 0, .slice none 0 0, .int .i64 0] 49) = w7 at K6' s6 ⊢
  refine (answers15 w7).mono ?_
  rintro e w8 ⟨rfl, K8⟩
  have K8' := K6'.trans' K8 (fun j _ h => by have h2 : w7.heap.size ≤ j := h; omega)
  clear K6' K8 s0 s1 s2 s5 s6 hn
  have HK := Lib.hid K8'
  clear K8'
  go_wp2_with fail
  refine (len_nil w8).mono ?_
  rintro e w9 ⟨rfl, rfl⟩
  go_wp2
  go_ret
  exact ⟨rfl, HK.out⟩
theorem heapNone_walk (w : World) (k : ByteArray) (s : Int) (A : Option Addr) (n c : Nat) (r : Int) : Calls Try.prog 7 #[.agg #[.string k, .int .i64 s, .slice A n c, .int .i64 r]] w fun e w' => e = .returned (.bool true) ∧ Below w.heap.size w w' :=
  (heapNone_keep k s A n c r w).mono fun _ _ ⟨h1, h2⟩ => ⟨h1, h2.below (Nat.le_refl _) (fun _ _ h => h)⟩
end Go.Proofs.Ytbkpjjibgnachaa
