/- Items in a row of memory. Conditions: none. -/
import Derived.Test.YtkglkpcpgdeneaaRows
import Derived.Test.YtkglkpcpgdeneaaSt
import Derived.Test.YtkglkpcpgdeneaaStoreM
namespace Go.Proofs.Ytkglkpcpgdeneaa
open Go.RowKit

/-- An item: key, number, bytes (as they lie). -/
structure It where
  k : ByteArray
  s : Int
  A : Option Addr
  n : Nat
  c : Nat
def It.cells (x : It) : List Value := [.string x.k, .int .i64 x.s, .slice x.A x.n x.c]
def It.v (x : It) : Value := .agg #[.string x.k, .int .i64 x.s, .slice x.A x.n x.c]
def flatI (L : List It) : List Value := L.flatMap It.cells
theorem It.cells_len (x : It) : x.cells.length = 3 := rfl
theorem flatI_cons (x : It) (L : List It) : flatI (x :: L) = x.cells ++ flatI L := rfl
theorem flatI_append (L M : List It) : flatI (L ++ M) = flatI L ++ flatI M := List.flatMap_append
theorem flatI_one (x : It) : flatI [x] = x.cells := by simp [flatI]
theorem flatI_len : ∀ L : List It, (flatI L).length = L.length * 3
  | [] => rfl
  | x :: L => by rw [flatI_cons, List.length_append, flatI_len L, It.cells_len, List.length_cons]; omega
theorem flatI_get : ∀ (L : List It) (i j : Nat) (h : i < L.length), j < 3 → (flatI L)[i * 3 + j]? = L[i].cells[j]?
  | x :: L, 0, j, _, hj => by rw [flatI_cons, List.getElem?_append_left (by rw [It.cells_len]; omega)]; simp
  | x :: L, i + 1, j, h, hj => by
    rw [flatI_cons, List.getElem?_append_right (by rw [It.cells_len]; omega), It.cells_len, show (i + 1) * 3 + j - 3 = i * 3 + j by omega]
    exact flatI_get L i j (by simpa using h) hj
theorem one_It (L : List It) : ∀ u ∈ flatI L, u.oneCell' = true := by
  intro u hu
  obtain ⟨x, _, hx⟩ := List.mem_flatMap.1 hu
  simp only [It.cells, List.mem_cons, List.not_mem_nil, or_false] at hx
  rcases hx with rfl | rfl | rfl <;> rfl
theorem set_three (i : Nat) : ∀ (cs : List Value) (x : It), i + 3 ≤ cs.length → ((cs.set i (.string x.k)).set (i + 1) (.int .i64 x.s)).set (i + 2) (.slice x.A x.n x.c) = cs.take i ++ x.cells ++ cs.drop (i + 3) := by
  intro cs x h
  apply List.ext_getElem?
  intro j
  rcases Nat.lt_or_ge j i with h1 | h1
  · rw [List.append_assoc, List.getElem?_append_left (by simp; omega)]
    simp only [List.getElem?_take, h1, if_true]
    rw [List.getElem?_set_ne (by omega), List.getElem?_set_ne (by omega), List.getElem?_set_ne (by omega)]
  · rcases Nat.lt_or_ge j (i + 3) with h2 | h2
    · rw [List.getElem?_append_left (by simp [It.cells]; omega), List.getElem?_append_right (by simp; omega)]
      have : j = i ∨ j = i + 1 ∨ j = i + 2 := by omega
      rcases this with rfl | rfl | rfl
      · rw [List.getElem?_set_ne (by omega), List.getElem?_set_ne (by omega), List.getElem?_set_self (by omega)]
        simp [It.cells, Nat.min_eq_left (show j ≤ cs.length by omega)]
      · rw [List.getElem?_set_ne (by omega), List.getElem?_set_self (by simp; omega)]
        simp [It.cells, Nat.min_eq_left (show i ≤ cs.length by omega)]
      · rw [List.getElem?_set_self (by simp; omega)]
        simp [It.cells, Nat.min_eq_left (show i ≤ cs.length by omega)]
    · rw [List.getElem?_append_right (by simp [It.cells]; omega)]
      rw [List.getElem?_set_ne (by omega), List.getElem?_set_ne (by omega), List.getElem?_set_ne (by omega), List.getElem?_drop]
      congr 1
      simp [It.cells, Nat.min_eq_left (show i ≤ cs.length by omega)]; omega
theorem flatI_set : ∀ (L : List It) (i : Nat) (x : It), i < L.length → flatI (L.set i x) = (flatI L).take (i * 3) ++ x.cells ++ (flatI L).drop (i * 3 + 3)
  | a :: L, 0, x, _ => by
    rw [List.set_cons_zero, flatI_cons, flatI_cons]
    simp [It.cells]
  | a :: L, i + 1, x, h => by
    rw [List.set_cons_succ, flatI_cons, flatI_cons, flatI_set L i x (by simpa using h)]
    rw [List.take_append, List.drop_append, List.take_of_length_le (l := a.cells) (by rw [It.cells_len]; omega), List.drop_of_length_le (l := a.cells) (by rw [It.cells_len]; omega), It.cells_len]
    rw [show (i + 1) * 3 - 3 = i * 3 by omega, show (i + 1) * 3 + 3 - 3 = i * 3 + 3 by omega]
    simp
/-- A block whose first cells are these items. -/
def RowI (w : World) (g cap : Nat) (L : List It) : Prop := ∃ rest, Blk w g 44 (flatI L ++ rest) ∧ (flatI L ++ rest).length = cap * 3 ∧ L.length ≤ cap ∧ cap ≤ maxLen
theorem RowI.cell {w : World} {g cap : Nat} {L : List It} (h : RowI w g cap L) (i j : Nat) (hi : i < L.length) (hj : j < 3) : w.cell? ⟨g, i * 3 + j, none⟩ = L[i].cells[j]? := by
  obtain ⟨rest, hb, hl, _⟩ := h
  have := flatI_len L
  rw [hb.cell, List.getElem?_append_left (by omega), flatI_get L i j hi hj]
theorem RowI.free {w : World} {g cap : Nat} {L : List It} (h : RowI w g cap L) (i : Nat) : w.frozen? ⟨g, i, none⟩ = false := by
  obtain ⟨rest, hb, hl, _⟩ := h
  exact hb.free _
theorem RowI.keep {w w' : World} {g cap : Nat} {L : List It} (h : RowI w g cap L) {F : Nat → Prop} (k : Keep F w w') (hn : ¬ F g) : RowI w' g cap L := by
  obtain ⟨rest, hb, r⟩ := h
  exact ⟨rest, hb.keep k hn, r⟩
theorem RowI.lt {w : World} {g cap : Nat} {L : List It} (h : RowI w g cap L) : g < w.heap.size := by
  obtain ⟨rest, hb, _⟩ := h
  exact hb.lt
theorem RowI.drew {w : World} {g cap : Nat} {L : List It} (h : RowI w g cap L) : RowI w.drew g cap L := h
/-- An item is written in place. -/
theorem RowI.put {w : World} {g cap : Nat} {L : List It} (h : RowI w g cap L) (i : Nat) (x : It) (hi : i < L.length) :
    RowI (((w.setCell ⟨g, i * 3, none⟩ (.string x.k)).setCell ⟨g, i * 3 + 1, none⟩ (.int .i64 x.s)).setCell ⟨g, i * 3 + 2, none⟩ (.slice x.A x.n x.c)) g cap (L.set i x) := by
  obtain ⟨rest, hb, hl, h3, h4⟩ := h
  have hf := flatI_len L
  refine ⟨rest, ?_, ?_, by simpa using h3, h4⟩
  · have := ((hb.set (i * 3) (.string x.k)).set (i * 3 + 1) (.int .i64 x.s)).set (i * 3 + 2) (.slice x.A x.n x.c)
    rw [set_three (i * 3) _ x (by rw [List.length_append]; omega)] at this
    rw [flatI_set L i x hi]
    rw [List.take_append_of_le_length (by omega), List.drop_append_of_le_length (by omega)] at this
    simpa using this
  · rw [List.length_append, flatI_len, List.length_set, ← flatI_len, ← List.length_append, hl]
theorem put3_keep (w : World) (g i : Nat) (a b c : Value) : Keep (fun k => k = g) w (((w.setCell ⟨g, i, none⟩ a).setCell ⟨g, i + 1, none⟩ b).setCell ⟨g, i + 2, none⟩ c) :=
  (((Keep.refl (fun k => k = g) w).setCell (p := ⟨g, _, none⟩) (.inl rfl) _).setCell (p := ⟨g, _, none⟩) (.inl rfl) _).setCell (p := ⟨g, _, none⟩) (.inl rfl) _
theorem RowI.own {w : World} {g cap : Nat} {L : List It} (h : RowI w g cap L) : w.ownsRow 0 44 3 (.slice (some ⟨g, 0, none⟩) L.length cap) L.length (flatI L) := by
  obtain ⟨rest, hb, hl, h3, h4⟩ := h
  exact ⟨flatI_len L, .inr ⟨g, cap, (flatI L ++ rest).toArray, rfl, Nat.zero_le _, hb, h3, h4, by simpa using hl, by
    rw [← flatI_len]; simp⟩⟩
theorem RowI.of_own {w : World} {g cap n b : Nat} {L : List It} (h : w.ownsRow b 44 3 (.slice (some ⟨g, 0, none⟩) n cap) n (flatI L)) : RowI w g cap L := by
  have hL : n = L.length := by have := h.1; rw [flatI_len] at this; omega
  subst hL
  rcases h.2 with ⟨e, _⟩ | ⟨g', cap', cur, e, _, hh, h3, h4, h5, h6⟩
  · cases e
  · injection e with e1 _ e3
    cases e1
    subst e3
    refine ⟨cur.toList.drop (L.length * 3), ?_, ?_, h3, h4⟩
    · unfold Blk
      rw [hh]
      have : flatI L ++ cur.toList.drop (L.length * 3) = cur.toList := by rw [← h6, List.take_append_drop]
      rw [this, Array.toArray_toList]
    · have : flatI L ++ cur.toList.drop (L.length * 3) = cur.toList := by rw [← h6, List.take_append_drop]
      rw [this, Array.length_toList, h5]
/-- Items that are read, wherever they lie. -/
def RdI (w : World) (a : Option Addr) (L : List It) : Prop := (a = none ∧ L = []) ∨ ∃ b o, a = some ⟨b, o, none⟩ ∧ ∀ i j (h : i < L.length), j < 3 → w.cell? ⟨b, o + i * 3 + j, none⟩ = L[i].cells[j]?
theorem RdI.keep {w w' : World} {a : Option Addr} {L : List It} (h : RdI w a L) (k : Keep (fun b => w.heap.size ≤ b) w w') : RdI w' a L := by
  rcases h with h | ⟨b, o, rfl, hc⟩
  · exact .inl h
  · refine .inr ⟨b, o, rfl, fun i j hi hj => ?_⟩
    have h1 := hc i j hi hj
    have h2 : j < (L[i].cells).length := by rw [It.cells_len]; exact hj
    rw [List.getElem?_eq_getElem h2] at h1 ⊢
    exact old_cell h1 k
theorem RowI.rd {w : World} {g cap : Nat} {L : List It} (h : RowI w g cap L) : RdI w (some ⟨g, 0, none⟩) L :=
  .inr ⟨g, 0, rfl, fun i j hi hj => by rw [Nat.zero_add]; exact h.cell i j hi hj⟩
/-- Items in a block from its beginning on. -/
theorem RdI.of_blk {w : World} {g : Nat} {L : List It} (h : Blk w g 44 (flatI L)) : RdI w (some ⟨g, 0, none⟩) L :=
  .inr ⟨g, 0, rfl, fun i j hi hj => by rw [Nat.zero_add, h.cell, flatI_get L i j hi hj]⟩
/-- An item's bytes, as world w has them. -/
def DatI (w : World) (x : It) (y : List UInt8) : Prop := x.n = y.length ∧ x.n ≤ x.c ∧ RdV w x.A (bys y) ∧ (x.A = none → y = [])
theorem DatI.keep {w w' : World} {x : It} {y : List UInt8} (h : DatI w x y) (k : Keep (fun b => w.heap.size ≤ b) w w') : DatI w' x y := ⟨h.1, h.2.1, h.2.2.1.old k, h.2.2.2⟩
end Go.Proofs.Ytkglkpcpgdeneaa
