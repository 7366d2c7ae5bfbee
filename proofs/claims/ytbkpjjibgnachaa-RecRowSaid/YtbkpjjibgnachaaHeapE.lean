/- The heap's Pop. Conditions: none. -/
import Derived.Test.YtbkpjjibgnachaaHeapD
namespace Go.Proofs.Ytbkpjjibgnachaa
open Go.RowKit

theorem kidE_ge (L : List En) (n : Nat) : 2 * n + 1 ≤ kidE L n := by unfold kidE; split <;> omega
theorem kidE_lt (L : List En) (n : Nat) (h : 2 * n + 1 < L.length) : kidE L n < L.length := by unfold kidE; split <;> omega
/-- The way down. -/
def downE (n : Nat) (L : List En) : List En :=
  if _h : 2 * n + 1 < L.length then (if ltN (gE L (kidE L n)) (gE L n) then downE (kidE L n) (swapE L n (kidE L n)) else L) else L
termination_by L.length - n
decreasing_by
  have := kidE_ge L n
  rw [swapE_len]
  omega
theorem downE_last (n : Nat) (L : List En) (h : L.length ≤ 2 * n + 1) : downE n L = L := by
  rw [downE, dif_neg (by omega)]
theorem downE_end (n : Nat) (L : List En) (h : ltN (gE L (kidE L n)) (gE L n) = false) : downE n L = L := by
  rw [downE]; split
  · rw [h]; rfl
  · rfl
theorem downE_go (n : Nat) (L : List En) (h : 2 * n + 1 < L.length) (hl : ltN (gE L (kidE L n)) (gE L n) = true) : downE n L = downE (kidE L n) (swapE L n (kidE L n)) := by
  conv => lhs; rw [downE]
  rw [dif_pos h, if_pos hl]
theorem downE_len : ∀ (f n : Nat) (L : List En), L.length ≤ f + n → (downE n L).length = L.length
  | 0, n, L, h => by rw [downE_last n L (by omega)]
  | f + 1, n, L, h => by
    by_cases h1 : 2 * n + 1 < L.length
    · cases hl : ltN (gE L (kidE L n)) (gE L n)
      · rw [downE_end n L hl]
      · have := kidE_ge L n
        rw [downE_go n L h1 hl, downE_len f _ _ (by rw [swapE_len]; omega), swapE_len]
    · rw [downE_last n L (by omega)]
def popE (L : List En) : List En := downE 0 ((swapE L 0 (L.length - 1)).take (L.length - 1))
theorem popE_len (L : List En) : (popE L).length = L.length - 1 := by
  rw [popE, downE_len _ 0 _ (Nat.le_refl _), List.length_take, swapE_len]; omega

theorem RowE.take {w : World} {g cap : Nat} {L : List En} (h : RowE w g cap L) (m : Nat) : RowE w g cap (L.take m) := by
  obtain ⟨rest, hb, hl, h3, h4⟩ := h
  have e : flatE L ++ rest = flatE (L.take m) ++ (flatE (L.drop m) ++ rest) := by
    rw [← List.append_assoc, ← flatE_append, List.take_append_drop]
  exact ⟨flatE (L.drop m) ++ rest, by rw [← e]; exact hb, by rw [← e]; exact hl, by rw [List.length_take]; omega, h4⟩

theorem put_entry {w : World} {b : Nat} {e0 : En} (h : Blk w b 49 e0.cells) (e : En) : Blk ((((w.setCell ⟨b, 0, none⟩ (.string e.k)).setCell ⟨b, 1, none⟩ (.int .i64 e.s)).setCell ⟨b, 2, none⟩ (.slice e.A e.n e.c)).setCell ⟨b, 3, none⟩ (.int .i64 e.r)) b 49 e.cells ∧
    Keep (fun k => k = b) w ((((w.setCell ⟨b, 0, none⟩ (.string e.k)).setCell ⟨b, 1, none⟩ (.int .i64 e.s)).setCell ⟨b, 2, none⟩ (.slice e.A e.n e.c)).setCell ⟨b, 3, none⟩ (.int .i64 e.r)) :=
  ⟨(((h.set 0 (.string e.k)).set 1 (.int .i64 e.s)).set 2 (.slice e.A e.n e.c)).set 3 (.int .i64 e.r), put_keep w b 0 _ _ _ _⟩
set_option maxRecDepth 100000 in
set_option maxHeartbeats 1000000 in
theorem pop_nil (w : World) : Calls Try.prog 28 #[.pointer none] w fun e w' => e = .returned (.tuple #[valE z0, .bool false]) ∧ Keep (fun b => w.heap.size ≤ b) w w' := by
  go_enter Try.func28, Try.ntmps28
  go_wp2_with fail
  generalize hW : w.alloc (Obj.cells #[Value.string ⟨#[]⟩, Value.int IntKind.i64 0, Value.slice none 0 0, Value.int IntKind.i64 0] 49) = W
  have B0 : Blk W w.heap.size 49 z0.cells := by rw [← hW]; exact Blk.new w _ _
  have KW : Keep (fun b => w.heap.size ≤ b) w W := by rw [← hW]; exact (Keep.refl _ w).alloc _
  refine (least_nil W).mono ?_
  rintro e w1 ⟨rfl, K1⟩
  simp only [valE, z0]
  have hBR : ∀ o, Blk (w1.alloc o) w.heap.size 49 z0.cells := fun o => (B0.keep K1 (by have := B0.lt; omega)).alloc o
  have hKR : Keep (fun b => w.heap.size ≤ b) w w1 := KW.trans' K1 (fun j hj h => by have := KW.size; omega)
  have HBR := Lib.hid hBR
  have HKR := Lib.hid hKR
  have c0 := (hBR (Obj.cells #[Value.string ⟨#[]⟩, Value.int IntKind.i64 0, Value.slice none 0 0, Value.int IntKind.i64 0] 49)).cell 0
  have c1 := (hBR (Obj.cells #[Value.string ⟨#[]⟩, Value.int IntKind.i64 0, Value.slice none 0 0, Value.int IntKind.i64 0] 49)).cell 1
  have c2 := (hBR (Obj.cells #[Value.string ⟨#[]⟩, Value.int IntKind.i64 0, Value.slice none 0 0, Value.int IntKind.i64 0] 49)).cell 2
  have c3 := (hBR (Obj.cells #[Value.string ⟨#[]⟩, Value.int IntKind.i64 0, Value.slice none 0 0, Value.int IntKind.i64 0] 49)).cell 3
  have f0 := (hBR (Obj.cells #[Value.string ⟨#[]⟩, Value.int IntKind.i64 0, Value.slice none 0 0, Value.int IntKind.i64 0] 49)).free 0
  have f1 := (hBR (Obj.cells #[Value.string ⟨#[]⟩, Value.int IntKind.i64 0, Value.slice none 0 0, Value.int IntKind.i64 0] 49)).free 1
  have f2 := (hBR (Obj.cells #[Value.string ⟨#[]⟩, Value.int IntKind.i64 0, Value.slice none 0 0, Value.int IntKind.i64 0] 49)).free 2
  have f3 := (hBR (Obj.cells #[Value.string ⟨#[]⟩, Value.int IntKind.i64 0, Value.slice none 0 0, Value.int IntKind.i64 0] 49)).free 3
  simp only [En.cells, z0, List.getElem?_cons_zero, List.getElem?_cons_succ] at c0 c1 c2 c3
  clear hBR hKR K1 KW B0 hW
  go_wp2
  exact bodyPost_ret (results_entry rfl _ _ z0 _ rfl (put_entry (HBR.out _) z0).1) rfl ⟨rfl, (HKR.out.alloc _).trans' (put_entry (HBR.out _) z0).2 (fun j hj e => by omega)⟩
set_option maxRecDepth 100000 in
set_option maxHeartbeats 1000000 in
theorem pop_none (hb : Nat) (A : Option Addr) (c : Nat) (w : World) (hc : w.cell? ⟨hb, 0, none⟩ = some (.slice A 0 c)) : Calls Try.prog 28 #[.pointer (some ⟨hb, 0, none⟩)] w fun e w' => e = .returned (.tuple #[valE z0, .bool false]) ∧ Keep (fun b => w.heap.size ≤ b) w w' := by
  have hlt := block_lt hc
  go_enter Try.func28, Try.ntmps28
  go_wp2_with fail
  generalize hW : w.alloc (Obj.cells #[Value.string ⟨#[]⟩, Value.int IntKind.i64 0, Value.slice none 0 0, Value.int IntKind.i64 0] 49) = W
  have B0 : Blk W w.heap.size 49 z0.cells := by rw [← hW]; exact Blk.new w _ _
  have KW : Keep (fun b => w.heap.size ≤ b) w W := by rw [← hW]; exact (Keep.refl _ w).alloc _
  refine (least_none hb A c W (by rw [← hW, ← hc]; exact World.cell?_alloc_lt w _ _ hlt)).mono ?_
  rintro e w1 ⟨rfl, K1⟩
  simp only [valE, z0]
  have hBR : ∀ o, Blk (w1.alloc o) w.heap.size 49 z0.cells := fun o => (B0.keep K1 (by have := B0.lt; omega)).alloc o
  have hKR : Keep (fun b => w.heap.size ≤ b) w w1 := KW.trans' K1 (fun j hj h => by have := KW.size; omega)
  have HBR := Lib.hid hBR
  have HKR := Lib.hid hKR
  have c0 := (hBR (Obj.cells #[Value.string ⟨#[]⟩, Value.int IntKind.i64 0, Value.slice none 0 0, Value.int IntKind.i64 0] 49)).cell 0
  have c1 := (hBR (Obj.cells #[Value.string ⟨#[]⟩, Value.int IntKind.i64 0, Value.slice none 0 0, Value.int IntKind.i64 0] 49)).cell 1
  have c2 := (hBR (Obj.cells #[Value.string ⟨#[]⟩, Value.int IntKind.i64 0, Value.slice none 0 0, Value.int IntKind.i64 0] 49)).cell 2
  have c3 := (hBR (Obj.cells #[Value.string ⟨#[]⟩, Value.int IntKind.i64 0, Value.slice none 0 0, Value.int IntKind.i64 0] 49)).cell 3
  have f0 := (hBR (Obj.cells #[Value.string ⟨#[]⟩, Value.int IntKind.i64 0, Value.slice none 0 0, Value.int IntKind.i64 0] 49)).free 0
  have f1 := (hBR (Obj.cells #[Value.string ⟨#[]⟩, Value.int IntKind.i64 0, Value.slice none 0 0, Value.int IntKind.i64 0] 49)).free 1
  have f2 := (hBR (Obj.cells #[Value.string ⟨#[]⟩, Value.int IntKind.i64 0, Value.slice none 0 0, Value.int IntKind.i64 0] 49)).free 2
  have f3 := (hBR (Obj.cells #[Value.string ⟨#[]⟩, Value.int IntKind.i64 0, Value.slice none 0 0, Value.int IntKind.i64 0] 49)).free 3
  simp only [En.cells, z0, List.getElem?_cons_zero, List.getElem?_cons_succ] at c0 c1 c2 c3
  clear hBR hKR K1 KW B0 hW
  go_wp2
  exact bodyPost_ret (results_entry rfl _ _ z0 _ rfl (put_entry (HBR.out _) z0).1) rfl ⟨rfl, (HKR.out.alloc _).trans' (put_entry (HBR.out _) z0).2 (fun j hj e => by omega)⟩

/-- What Pop leaves. -/
def PopPost (F : Nat → Prop) (hb : Nat) (L : List En) (w : World) (e : Ending) (w' : World) : Prop := e = .returned (.tuple #[valE (gE L 0), .bool true]) ∧ HeapAt w' F hb (popE L) ∧ Keep (fun k => F k ∨ w.heap.size ≤ k) w w'
set_option maxRecDepth 100000 in
set_option maxHeartbeats 4000000 in
theorem pop_some (F : Nat → Prop) (hb : Nat) (L : List En) (w : World) (hh : HeapAt w F hb L) (hl : 0 < L.length) (hL : L.length < 1000000) :
    Calls Try.prog 28 #[.pointer (some ⟨hb, 0, none⟩)] w (PopPost F hb L w) := by
  obtain ⟨hF, v, hB, hv⟩ := hh
  obtain ⟨g, c, rfl, hg, hr⟩ : ∃ g c, v = .slice (some ⟨g, 0, none⟩) L.length c ∧ F g ∧ RowE w g c L := by
    rcases hv with ⟨rfl, rfl⟩ | ⟨g, c, h⟩
    · exact absurd hl (by simp)
    · exact ⟨g, c, h⟩
  clear hv
  obtain ⟨m, hm⟩ : ∃ m, L.length = m + 1 := ⟨L.length - 1, by omega⟩
  go_enter Try.func28, Try.ntmps28
  go_wp2_with fail
  generalize hW : w.alloc (Obj.cells #[Value.string ⟨#[]⟩, Value.int IntKind.i64 0, Value.slice none 0 0, Value.int IntKind.i64 0] 49) = W
  have B0 : Blk W w.heap.size 49 z0.cells := by rw [← hW]; exact Blk.new w _ _
  have KW : Keep (fun k => F k ∨ w.heap.size ≤ k) w W := by rw [← hW]; exact (Keep.refl _ w).alloc _
  have hBW : Blk W hb 44 [.slice (some ⟨g, 0, none⟩) L.length c] := by rw [← hW]; exact hB.alloc _
  have hRW : RowE W g c L := hr.keep (F := fun k => w.heap.size ≤ k) (by rw [← hW]; exact (Keep.refl _ w).alloc _) (by have := hr.lt; omega)
  have hgl := hr.lt
  have hbl := hB.lt
  clear hW hr hB
  refine (least_some hb g c L W (hBW.cell 0) hRW hl).mono ?_
  rintro e w1 ⟨rfl, K1⟩
  simp only [valE]
  generalize hE : gE L 0 = E
  have HE := Lib.hid hE
  clear hE
  have hWs := KW.size
  have hr1c := hRW
  have B1 := B0.keep K1 (by have := B0.lt; omega)
  have hB1 := hBW.keep K1 (by have := hBW.lt; omega)
  have hR1 := hRW.keep K1 (by have := hRW.lt; omega)
  have K2 := KW.trans' K1 (fun j hj h => .inr (by omega))
  clear K1 KW B0 hBW hRW
  have hcap : m ≤ c := by obtain ⟨_, _, _, h3, _⟩ := hr1c; omega
  clear hr1c
  have cq := (hB1.alloc (Obj.cells #[Value.string E.k, Value.int IntKind.i64 E.s, Value.slice E.A E.n E.c, Value.int IntKind.i64 E.r] 49)).cell 0
  rw [hm] at cq
  simp only [List.getElem?_cons_zero] at cq
  have hcI : (m : Int) ≤ c := by omega
  have hm0 : (0 : Int) ≤ m := by omega
  have hE2 : Blk (w1.alloc (Obj.cells #[Value.string E.k, Value.int IntKind.i64 E.s, Value.slice E.A E.n E.c, Value.int IntKind.i64 E.r] 49)) w1.heap.size 49 E.cells := Blk.new w1 _ _
  have HR1 := Lib.hid (hR1.keep (w' := w1.alloc (Obj.cells #[Value.string E.k, Value.int IntKind.i64 E.s, Value.slice E.A E.n E.c, Value.int IntKind.i64 E.r] 49)) ((Keep.refl (fun _ => False) w1).alloc _) (fun h => h))
  have HB1 := Lib.hid (hB1.alloc (Obj.cells #[Value.string E.k, Value.int IntKind.i64 E.s, Value.slice E.A E.n E.c, Value.int IntKind.i64 E.r] 49))
  have HBR := Lib.hid (B1.alloc (Obj.cells #[Value.string E.k, Value.int IntKind.i64 E.s, Value.slice E.A E.n E.c, Value.int IntKind.i64 E.r] 49))
  have HK2 := Lib.hid (K2.alloc (Obj.cells #[Value.string E.k, Value.int IntKind.i64 E.s, Value.slice E.A E.n E.c, Value.int IntKind.i64 E.r] 49))
  have HBE := Lib.hid hE2
  have hxb : w.heap.size < w1.heap.size := by have := K2.size; have := B1.lt; omega
  clear hR1 hB1 B1 K2 hE2 hWs
  go_wp2_with fail
  generalize w1.alloc (Obj.cells #[Value.string E.k, Value.int IntKind.i64 E.s, Value.slice E.A E.n E.c, Value.int IntKind.i64 E.r] 49) = w2 at cq HR1 HB1 HBR HK2 HBE ⊢
  generalize hxbe : w1.heap.size = xb at hxb HBE ⊢
  clear hxbe
  clear hcap
  refine (heap_swap hb g c 0 m L w2 (by rw [hm]; exact cq) HR1.out hl (by omega)).mono ?_
  rintro e w3 ⟨rfl, hR3, hK3⟩
  rw [swapE_eq] at hR3
  have hgh : g ≠ hb := row_ne HR1.out HB1.out
  have HR3 := Lib.hid (hR3.take m)
  have hB3 := HB1.out.keep hK3 (fun e => hgh e.symm)
  have HBR3 := Lib.hid (HBR.out.keep hK3 (by omega))
  have HBE3 := Lib.hid (HBE.out.keep hK3 (by omega))
  have HK3 := Lib.hid (HK2.out.trans' hK3 (fun j hj e => .inl (by rw [e]; exact hg)))
  have cq3 := hB3.cell 0
  have fq3 := hB3.free 0
  rw [hm] at cq3
  simp only [List.getElem?_cons_zero] at cq3
  have HB3 := Lib.hid hB3
  clear cq hR3 hK3 hB3 HR1 HB1 HBR HK2 HBE
  go_wp2_with fail
  have hM0 : ((swapE L 0 m).take m).length = m := by rw [List.length_take, swapE_len]; omega
  have hsb : ∀ v, Keep (fun k => k = hb) w3 (w3.setCell ⟨hb, 0, none⟩ v) := fun v => (Keep.refl (fun k => k = hb) w3).setCell (p := ⟨hb, 0, none⟩) (.inl rfl) v
  have HF : Hid (∀ wx, Blk wx hb 44 [.slice (some ⟨g, 0, none⟩) m c] → RowE wx g c (popE L) → Keep (fun k => F k ∨ w.heap.size ≤ k) w wx → PopPost F hb L w (.returned (.tuple #[valE E, .bool true])) wx) := Lib.hid (by
    intro wx h1 h2 h3
    exact ⟨by rw [HE.out], ⟨hF, _, h1, .inr ⟨g, c, by rw [popE_len, hm]; rfl, hg, h2⟩⟩, h3⟩)
  go_loopw [7] (fun v7 wr => ∃ (i : Nat) (M : List En), i ≤ m ∧ v7 = .int .i64 i ∧ Hid (M.length = m) ∧ Hid (downE i M = popE L) ∧ Hid (Blk wr hb 44 [.slice (some ⟨g, 0, none⟩) m c]) ∧ Hid (RowE wr g c M) ∧ Hid (Blk wr w.heap.size 49 z0.cells) ∧ Hid (Blk wr xb 49 E.cells) ∧ Hid (Keep (fun k => F k ∨ w.heap.size ≤ k) w wr)) (fun v7 _ => m - (intOf v7).toNat)
  case atStart =>
    refine ⟨0, (swapE L 0 m).take m, by omega, rfl, Lib.hid hM0, Lib.hid (by rw [popE, hm]; rfl), Lib.hid (HB3.out.set 0 _), Lib.hid (HR3.out.keep (hsb _) hgh), Lib.hid (HBR3.out.keep (hsb _) (by omega)), Lib.hid (HBE3.out.keep (hsb _) (by omega)), Lib.hid (HK3.out.trans' (hsb _) (fun j hj e => .inl (by rw [e]; exact hF)))⟩
  case round =>
    obtain ⟨i, M, hi, rfl, HML, HD, HB, HR, HBR, HBE, HK⟩ := hrel
    have HLL := Lib.hid hL
    have HM := Lib.hid hm
    have HI := Lib.hid hi
    clear hL hm hM0 hsb cq3 fq3
    have cqr := HB.out.cell 0
    simp only [List.getElem?_cons_zero] at cqr
    have hsz := HK.out.size
    by_cases hkid : 2 * i + 1 < m
    · obtain ⟨k, hk⟩ : ∃ k, k = kidE M i := ⟨_, rfl⟩
      have hki : 2 * i + 1 ≤ k := by rw [hk]; exact kidE_ge M i
      have hkm : k < m := by rw [hk, ← HML.out]; exact kidE_lt M i (by rw [HML.out]; exact hkid)
      have HKI := Lib.hid hk
      clear hk
      go_wp2_with (refine (child_yes hb g c i M _ (by rw [HML.out]; exact cqr) HR.out (by have := HLL.out; have := HM.out; have := HI.out; omega) (by rw [HML.out]; exact hkid)).mono ?_; rw [← HKI.out]; rintro e w4 ⟨rfl, K4⟩; have HK4 := Lib.hid K4; clear K4)
      clear cqr
      have hRD : RowE w4.drew g c M := (show RowE w4 g c M from HR.out.keep HK4.out (by have := HR.out.lt; omega)).drew
      have hBD : Blk w4.drew hb 44 [.slice (some ⟨g, 0, none⟩) m c] := (show Blk w4 hb 44 [.slice (some ⟨g, 0, none⟩) m c] from HB.out.keep HK4.out (by have := HB.out.lt; omega))
      have HBRn : Hid (Blk w4.drew w.heap.size 49 z0.cells) := Lib.hid (show Blk w4 w.heap.size 49 z0.cells from HBR.out.keep HK4.out (by have := HBR.out.lt; omega))
      have HBEn : Hid (Blk w4.drew xb 49 E.cells) := Lib.hid (show Blk w4 xb 49 E.cells from HBE.out.keep HK4.out (by have := HBE.out.lt; omega))
      have HKn : Hid (Keep (fun k => F k ∨ w.heap.size ≤ k) w w4.drew) := Lib.hid (HK.out.trans' HK4.out (fun j hj h => .inr (by omega))).drew
      have hMk : k < M.length := by rw [HML.out]; exact hkm
      have hMi : i < M.length := by omega
      have cq := hBD.cell 0
      have x0 := hRD.cell k 0 hMk (by omega)
      have x1 := hRD.cell k 1 hMk (by omega)
      have x2 := hRD.cell k 2 hMk (by omega)
      have x3 := hRD.cell k 3 hMk (by omega)
      have y0 := hRD.cell i 0 hMi (by omega)
      have y1 := hRD.cell i 1 hMi (by omega)
      have y2 := hRD.cell i 2 hMi (by omega)
      have y3 := hRD.cell i 3 hMi (by omega)
      rw [← gE_eq M k hMk] at x0 x1 x2 x3
      rw [← gE_eq M i hMi] at y0 y1 y2 y3
      simp only [En.cells, List.getElem?_cons_zero, List.getElem?_cons_succ, Nat.add_zero] at cq x0 x1 x2 x3 y0 y1 y2 y3
      have q1 : (0 : Int) ≤ i := by omega
      have q2 : (i : Int) < (m : Int) := by omega
      have q3 : (0 : Int) ≤ k := by omega
      have q4 : (k : Int) < (m : Int) := by omega
      have HRD := Lib.hid hRD
      have HBD := Lib.hid hBD
      clear hRD hBD HK4 HB HR HBR HBE HK
      refine wp_region_still_tail 17 (by kernel_rfl) (by kernel_rfl) ?_
      simp only [List.take_succ_cons, List.take_zero, List.drop_succ_cons, List.drop_zero]
      change wpStill _ _ w4.drew (fun a' => wpList _ _ _ _ a' w4.drew) _ _
      generalize w4.drew = w5 at cq x0 x1 x2 x3 y0 y1 y2 y3 HRD HBD HBRn HBEn HKn ⊢
      still_step
      still_step
      still_step
      still_step
      still_step
      still_step
      still_step
      still_step
      still_step
      still_step
      still_step
      still_step
      still_step
      still_step
      still_step
      still_step
      still_step
      refine wpStill_nil ?_
      go_wp2_with fail
      refine (heap_less (gE M k).k (gE M i).k (gE M k).s (gE M k).r (gE M i).s (gE M i).r (.slice (gE M k).A (gE M k).n (gE M k).c) (.slice (gE M i).A (gE M i).n (gE M i).c) w5).mono ?_
      rintro e w6 ⟨rfl, K6⟩
      have HR6 := Lib.hid (HRD.out.keep K6 (by have := HRD.out.lt; omega))
      have HB6 := Lib.hid (HBD.out.keep K6 (by have := HBD.out.lt; omega))
      have HBR6 := Lib.hid (HBRn.out.keep K6 (by have := HBRn.out.lt; omega))
      have HBE6 := Lib.hid (HBEn.out.keep K6 (by have := HBEn.out.lt; omega))
      have HK6 := Lib.hid (HKn.out.trans' K6 (fun j hj h => .inr (by have := HKn.out.size; omega)))
      clear cq x0 x1 x2 x3 y0 y1 y2 y3 K6 HRD HBD HBRn HBEn HKn
      cases hlt : ltE (gE M k).k (gE M k).s (gE M k).r (gE M i).k (gE M i).s (gE M i).r
      · have HRn : Hid (RowE w6 g c (popE L)) := Lib.hid (by rw [← HD.out, downE_end i M (by rw [← HKI.out]; exact hlt)]; exact HR6.out)
        have HBn := HB6
        have HBRn := HBR6
        have HBEn := HBE6
        have HKn := HK6
        have x0 := HBEn.out.cell 0
        have x1 := HBEn.out.cell 1
        have x2 := HBEn.out.cell 2
        have x3 := HBEn.out.cell 3
        have r0 := HBRn.out.cell 0
        have r1 := HBRn.out.cell 1
        have r2 := HBRn.out.cell 2
        have r3 := HBRn.out.cell 3
        have f0 := HBRn.out.free 0
        have f1 := HBRn.out.free 1
        have f2 := HBRn.out.free 2
        have f3 := HBRn.out.free 3
        simp only [En.cells, z0, List.getElem?_cons_zero, List.getElem?_cons_succ] at x0 x1 x2 x3 r0 r1 r2 r3
        go_wp2
        refine bodyPost_ret (results_entry rfl _ _ E _ rfl (put_entry HBRn.out E).1) rfl ?_
        exact HF.out _ (HBn.out.keep (put_entry HBRn.out E).2 (fun e => by have e2 : hb = w.heap.size := e; omega)) (HRn.out.keep (put_entry HBRn.out E).2 (fun e => by have e2 : g = w.heap.size := e; omega)) (HKn.out.trans' (put_entry HBRn.out E).2 (fun j hj e => .inr (by have e2 : j = w.heap.size := e; omega)))
      · have HD2 : Hid (downE k (swapE M i k) = popE L) := Lib.hid (by rw [← HD.out, HKI.out, ← downE_go i M (by rw [HML.out]; exact hkid) (by rw [← HKI.out]; exact hlt)])
        have cq := HB6.out.cell 0
        simp only [List.getElem?_cons_zero] at cq
        go_wp2_with (go_at_call 55; refine (heap_swap hb g c i k M _ (by rw [HML.out]; exact cq) HR6.out hMi hMk).mono ?_; rintro e w7 ⟨rfl, hR7, hK7⟩; rw [swapE_eq] at hR7; have HR7 := Lib.hid hR7; have HK7 := Lib.hid hK7; clear hR7 hK7 cq)
        go_roundw
        case rel => exact ⟨k, swapE M i k, by omega, rfl, Lib.hid (by rw [swapE_len]; exact HML.out), Lib.hid HD2.out, Lib.hid (HB6.out.keep HK7.out (fun e => hgh e.symm)), Lib.hid HR7.out, Lib.hid (HBR6.out.keep HK7.out (fun e => by have e2 : w.heap.size = g := e; omega)), Lib.hid (HBE6.out.keep HK7.out (fun e => by have e2 : xb = g := e; omega)), Lib.hid (HK6.out.trans' HK7.out (fun j hj e => .inl (by have e2 : j = g := e; rw [e2]; exact hg)))⟩
        case measure => simp [intOf]; omega
    · go_wp2_with (refine (child_no hb _ m c i _ cqr (by have := HLL.out; have := HM.out; have := HI.out; omega) (by omega)).mono ?_; rintro e w4 ⟨rfl, K4⟩; have HK4 := Lib.hid K4; clear K4)
      go_quiet (fail)
      have hD : RowE (w4.drewN nq) g c M := (show RowE w4 g c M from HR.out.keep HK4.out (by have := HR.out.lt; omega))
      have HRn : Hid (RowE (w4.drewN nq) g c (popE L)) := Lib.hid (by rw [← HD.out, downE_last i M (by rw [HML.out]; omega)]; exact hD)
      have HBn : Hid (Blk (w4.drewN nq) hb 44 [.slice (some ⟨g, 0, none⟩) m c]) := Lib.hid (show Blk w4 hb 44 [.slice (some ⟨g, 0, none⟩) m c] from HB.out.keep HK4.out (by have := HB.out.lt; omega))
      have HBRn : Hid (Blk (w4.drewN nq) w.heap.size 49 z0.cells) := Lib.hid (show Blk w4 w.heap.size 49 z0.cells from HBR.out.keep HK4.out (by have := HBR.out.lt; omega))
      have HBEn : Hid (Blk (w4.drewN nq) xb 49 E.cells) := Lib.hid (show Blk w4 xb 49 E.cells from HBE.out.keep HK4.out (by have := HBE.out.lt; omega))
      have HKn : Hid (Keep (fun k => F k ∨ w.heap.size ≤ k) w (w4.drewN nq)) := Lib.hid ((HK.out.trans' HK4.out (fun j hj h => .inr (by omega))).drewN nq)
      clear hD
      generalize w4.drewN nq = wn at HRn HBn HBRn HBEn HKn ⊢
      have x0 := HBEn.out.cell 0
      have x1 := HBEn.out.cell 1
      have x2 := HBEn.out.cell 2
      have x3 := HBEn.out.cell 3
      have r0 := HBRn.out.cell 0
      have r1 := HBRn.out.cell 1
      have r2 := HBRn.out.cell 2
      have r3 := HBRn.out.cell 3
      have f0 := HBRn.out.free 0
      have f1 := HBRn.out.free 1
      have f2 := HBRn.out.free 2
      have f3 := HBRn.out.free 3
      simp only [En.cells, z0, List.getElem?_cons_zero, List.getElem?_cons_succ] at x0 x1 x2 x3 r0 r1 r2 r3
      go_wp2
      refine bodyPost_ret (results_entry rfl _ _ E _ rfl (put_entry HBRn.out E).1) rfl ?_
      exact HF.out _ (HBn.out.keep (put_entry HBRn.out E).2 (fun e => by have e2 : hb = w.heap.size := e; omega)) (HRn.out.keep (put_entry HBRn.out E).2 (fun e => by have e2 : g = w.heap.size := e; omega)) (HKn.out.trans' (put_entry HBRn.out E).2 (fun j hj e => .inr (by have e2 : j = w.heap.size := e; omega)))

end Go.Proofs.Ytbkpjjibgnachaa
