/- How a heap of entries lies in memory. Conditions: none. -/
import Derived.Test.YtbkpjjibgnachaaRecLess
import Derived.RegionTactic
import Derived.BigRegion
namespace Go.Proofs.Ytbkpjjibgnachaa
open Go.RowKit

/-- An entry: key, number, bytes (as they lie), run. -/
structure En where
  k : ByteArray
  s : Int
  A : Option Addr
  n : Nat
  c : Nat
  r : Int
def En.d (e : En) : Value := .slice e.A e.n e.c
def En.cells (e : En) : List Value := [.string e.k, .int .i64 e.s, .slice e.A e.n e.c, .int .i64 e.r]
def flatE (L : List En) : List Value := L.flatMap En.cells
theorem En.cells_len (e : En) : e.cells.length = 4 := rfl
theorem flatE_nil : flatE [] = [] := rfl
theorem flatE_cons (e : En) (L : List En) : flatE (e :: L) = e.cells ++ flatE L := rfl
theorem flatE_append (L M : List En) : flatE (L ++ M) = flatE L ++ flatE M := List.flatMap_append
theorem flatE_len : ∀ L : List En, (flatE L).length = L.length * 4
  | [] => rfl
  | e :: L => by rw [flatE_cons, List.length_append, flatE_len L, En.cells_len, List.length_cons]; omega
theorem flatE_get : ∀ (L : List En) (i j : Nat) (h : i < L.length), j < 4 → (flatE L)[i * 4 + j]? = L[i].cells[j]?
  | e :: L, 0, j, _, hj => by rw [flatE_cons, List.getElem?_append_left (by rw [En.cells_len]; omega)]; simp
  | e :: L, i + 1, j, h, hj => by
    rw [flatE_cons, List.getElem?_append_right (by rw [En.cells_len]; omega), En.cells_len, show (i + 1) * 4 + j - 4 = i * 4 + j by omega]
    exact flatE_get L i j (by simpa using h) hj
theorem set_four (i : Nat) : ∀ (cs : List Value) (e : En), i + 4 ≤ cs.length → (((cs.set i (.string e.k)).set (i + 1) (.int .i64 e.s)).set (i + 2) (.slice e.A e.n e.c)).set (i + 3) (.int .i64 e.r) = cs.take i ++ e.cells ++ cs.drop (i + 4) := by
  intro cs e h
  apply List.ext_getElem?
  intro j
  rcases Nat.lt_or_ge j i with h1 | h1
  · rw [List.append_assoc, List.getElem?_append_left (by simp; omega)]
    simp only [List.getElem?_take, h1, if_true]
    rw [List.getElem?_set_ne (by omega), List.getElem?_set_ne (by omega), List.getElem?_set_ne (by omega), List.getElem?_set_ne (by omega)]
  · rcases Nat.lt_or_ge j (i + 4) with h2 | h2
    · rw [List.getElem?_append_left (by simp [En.cells]; omega), List.getElem?_append_right (by simp; omega)]
      have : j = i ∨ j = i + 1 ∨ j = i + 2 ∨ j = i + 3 := by omega
      rcases this with rfl | rfl | rfl | rfl
      · rw [List.getElem?_set_ne (by omega), List.getElem?_set_ne (by omega), List.getElem?_set_ne (by omega), List.getElem?_set_self (by omega)]
        simp [En.cells, Nat.min_eq_left (show j ≤ cs.length by omega)]
      · rw [List.getElem?_set_ne (by omega), List.getElem?_set_ne (by omega), List.getElem?_set_self (by simp; omega)]
        simp [En.cells, Nat.min_eq_left (show i ≤ cs.length by omega)]
      · rw [List.getElem?_set_ne (by omega), List.getElem?_set_self (by simp; omega)]
        simp [En.cells, Nat.min_eq_left (show i ≤ cs.length by omega)]
      · rw [List.getElem?_set_self (by simp; omega)]
        simp [En.cells, Nat.min_eq_left (show i ≤ cs.length by omega)]
    · rw [List.getElem?_append_right (by simp [En.cells]; omega)]
      rw [List.getElem?_set_ne (by omega), List.getElem?_set_ne (by omega), List.getElem?_set_ne (by omega), List.getElem?_set_ne (by omega), List.getElem?_drop]
      congr 1
      simp [En.cells, Nat.min_eq_left (show i ≤ cs.length by omega)]; omega
theorem flatE_set : ∀ (L : List En) (i : Nat) (e : En), i < L.length → flatE (L.set i e) = (flatE L).take (i * 4) ++ e.cells ++ (flatE L).drop (i * 4 + 4)
  | a :: L, 0, e, _ => by
    rw [List.set_cons_zero, flatE_cons, flatE_cons]
    simp [En.cells]
  | a :: L, i + 1, e, h => by
    rw [List.set_cons_succ, flatE_cons, flatE_cons, flatE_set L i e (by simpa using h)]
    rw [List.take_append, List.drop_append, List.take_of_length_le (l := a.cells) (by rw [En.cells_len]; omega), List.drop_of_length_le (l := a.cells) (by rw [En.cells_len]; omega), En.cells_len]
    rw [show (i + 1) * 4 - 4 = i * 4 by omega, show (i + 1) * 4 + 4 - 4 = i * 4 + 4 by omega]
    simp
/-- A block whose first cells are these entries. -/
def RowE (w : World) (g cap : Nat) (L : List En) : Prop := ∃ rest, Blk w g 49 (flatE L ++ rest) ∧ (flatE L ++ rest).length = cap * 4 ∧ L.length ≤ cap ∧ cap ≤ maxLen
theorem RowE.cell {w : World} {g cap : Nat} {L : List En} (h : RowE w g cap L) (i j : Nat) (hi : i < L.length) (hj : j < 4) : w.cell? ⟨g, i * 4 + j, none⟩ = L[i].cells[j]? := by
  obtain ⟨rest, hb, hl, _⟩ := h
  have := flatE_len L
  rw [hb.cell, List.getElem?_append_left (by omega), flatE_get L i j hi hj]
theorem RowE.free {w : World} {g cap : Nat} {L : List En} (h : RowE w g cap L) (i : Nat) : w.frozen? ⟨g, i, none⟩ = false := by
  obtain ⟨rest, hb, hl, _⟩ := h
  exact hb.free _
theorem RowE.keep {w w' : World} {g cap : Nat} {L : List En} (h : RowE w g cap L) {F : Nat → Prop} (k : Keep F w w') (hn : ¬ F g) : RowE w' g cap L := by
  obtain ⟨rest, hb, r⟩ := h
  exact ⟨rest, hb.keep k hn, r⟩
theorem RowE.lt {w : World} {g cap : Nat} {L : List En} (h : RowE w g cap L) : g < w.heap.size := by
  obtain ⟨rest, hb, _⟩ := h
  exact hb.lt
theorem RowE.drew {w : World} {g cap : Nat} {L : List En} (h : RowE w g cap L) : RowE w.drew g cap L := h
/-- An entry is written in place. -/
theorem RowE.put {w : World} {g cap : Nat} {L : List En} (h : RowE w g cap L) (i : Nat) (e : En) (hi : i < L.length) :
    RowE ((((w.setCell ⟨g, i * 4, none⟩ (.string e.k)).setCell ⟨g, i * 4 + 1, none⟩ (.int .i64 e.s)).setCell ⟨g, i * 4 + 2, none⟩ (.slice e.A e.n e.c)).setCell ⟨g, i * 4 + 3, none⟩ (.int .i64 e.r)) g cap (L.set i e) := by
  obtain ⟨rest, hb, hl, h3, h4⟩ := h
  have hf := flatE_len L
  refine ⟨rest, ?_, ?_, by simpa using h3, h4⟩
  · have := (((hb.set (i * 4) (.string e.k)).set (i * 4 + 1) (.int .i64 e.s)).set (i * 4 + 2) (.slice e.A e.n e.c)).set (i * 4 + 3) (.int .i64 e.r)
    rw [set_four (i * 4) _ e (by rw [List.length_append]; omega)] at this
    rw [flatE_set L i e hi]
    rw [List.take_append_of_le_length (by omega), List.drop_append_of_le_length (by omega)] at this
    simpa using this
  · rw [List.length_append, flatE_len, List.length_set, ← flatE_len, ← List.length_append, hl]
theorem put_keep (w : World) (g i : Nat) (a b c d : Value) : Keep (fun k => k = g) w ((((w.setCell ⟨g, i, none⟩ a).setCell ⟨g, i + 1, none⟩ b).setCell ⟨g, i + 2, none⟩ c).setCell ⟨g, i + 3, none⟩ d) :=
  ((((Keep.refl (fun k => k = g) w).setCell (p := ⟨g, _, none⟩) (.inl rfl) _).setCell (p := ⟨g, _, none⟩) (.inl rfl) _).setCell (p := ⟨g, _, none⟩) (.inl rfl) _).setCell (p := ⟨g, _, none⟩) (.inl rfl) _

def swapM (L : List En) (x y : Nat) (hx : x < L.length) (hy : y < L.length) : List En := (L.set x L[y]).set y L[x]
set_option maxRecDepth 100000 in
set_option maxHeartbeats 4000000 in
theorem heap_swap (hb g cap x y : Nat) (L : List En) (w : World) (hc : w.cell? ⟨hb, 0, none⟩ = some (.slice (some ⟨g, 0, none⟩) L.length cap)) (hr : RowE w g cap L) (hx : x < L.length) (hy : y < L.length) :
    Calls Try.prog 55 #[.pointer (some ⟨hb, 0, none⟩), .int .i64 x, .int .i64 y] w fun e w' => e = .returned (.tuple #[]) ∧ RowE w' g cap (swapM L x y hx hy) ∧ Keep (fun k => k = g) w w' := by
  have HR := Lib.hid hr
  have x0 := hr.cell x 0 hx (by omega)
  have x1 := hr.cell x 1 hx (by omega)
  have x2 := hr.cell x 2 hx (by omega)
  have x3 := hr.cell x 3 hx (by omega)
  have y0 := hr.cell y 0 hy (by omega)
  have y1 := hr.cell y 1 hy (by omega)
  have y2 := hr.cell y 2 hy (by omega)
  have y3 := hr.cell y 3 hy (by omega)
  have ex : L[x] = L[x] := rfl
  have ey : L[y] = L[y] := rfl
  generalize hex : L[x] = a at x0 x1 x2 x3
  generalize hey : L[y] = b at y0 y1 y2 y3
  obtain ⟨k, s, A, n, c, r⟩ := a
  obtain ⟨k', s', A', n', c', r'⟩ := b
  simp only [En.cells, List.getElem?_cons_zero, List.getElem?_cons_succ, Nat.add_zero] at x0 x1 x2 x3 y0 y1 y2 y3
  have HX := Lib.hid hex
  have HY := Lib.hid hey
  clear hex hey ex ey
  have fx0 := hr.free (x * 4)
  have fx1 := hr.free (x * 4 + 1)
  have fx2 := hr.free (x * 4 + 2)
  have fx3 := hr.free (x * 4 + 3)
  have fy0 := hr.free (y * 4)
  have fy1 := hr.free (y * 4 + 1)
  have fy2 := hr.free (y * 4 + 2)
  have fy3 := hr.free (y * 4 + 3)
  clear hr
  have q1 : (0 : Int) ≤ x := by omega
  have q2 : (x : Int) < (L.length : Int) := by omega
  have q3 : (0 : Int) ≤ y := by omega
  have q4 : (y : Int) < (L.length : Int) := by omega
  by_cases hxy : x = y
  · subst hxy
    go_enter Try.func55, Try.ntmps55
    go_wp2_with fail
    go_region
    go_end0
    refine ⟨rfl, ?_, ?_⟩
    · rw [swapM, HX.out]
      exact ((HR.out.put x ⟨k, s, A, n, c, r⟩ hx).put x ⟨k, s, A, n, c, r⟩ (by simpa using hx)).drew
    · exact ((put_keep w g (x * 4) (.string k) (.int .i64 s) (.slice A n c) (.int .i64 r)).trans' (put_keep _ g (x * 4) (.string k) (.int .i64 s) (.slice A n c) (.int .i64 r)) (fun _ _ h => h)).drew
  · have HNE := Lib.hid hxy
    have n00 : ¬ x * 4 = y * 4 := by omega
    have m00 : ¬ y * 4 = x * 4 := by omega
    have n01 : ¬ x * 4 = y * 4 + 1 := by omega
    have m01 : ¬ y * 4 + 1 = x * 4 := by omega
    have n02 : ¬ x * 4 = y * 4 + 2 := by omega
    have m02 : ¬ y * 4 + 2 = x * 4 := by omega
    have n03 : ¬ x * 4 = y * 4 + 3 := by omega
    have m03 : ¬ y * 4 + 3 = x * 4 := by omega
    have n10 : ¬ x * 4 + 1 = y * 4 := by omega
    have m10 : ¬ y * 4 = x * 4 + 1 := by omega
    have n11 : ¬ x * 4 + 1 = y * 4 + 1 := by omega
    have m11 : ¬ y * 4 + 1 = x * 4 + 1 := by omega
    have n12 : ¬ x * 4 + 1 = y * 4 + 2 := by omega
    have m12 : ¬ y * 4 + 2 = x * 4 + 1 := by omega
    have n13 : ¬ x * 4 + 1 = y * 4 + 3 := by omega
    have m13 : ¬ y * 4 + 3 = x * 4 + 1 := by omega
    have n20 : ¬ x * 4 + 2 = y * 4 := by omega
    have m20 : ¬ y * 4 = x * 4 + 2 := by omega
    have n21 : ¬ x * 4 + 2 = y * 4 + 1 := by omega
    have m21 : ¬ y * 4 + 1 = x * 4 + 2 := by omega
    have n22 : ¬ x * 4 + 2 = y * 4 + 2 := by omega
    have m22 : ¬ y * 4 + 2 = x * 4 + 2 := by omega
    have n23 : ¬ x * 4 + 2 = y * 4 + 3 := by omega
    have m23 : ¬ y * 4 + 3 = x * 4 + 2 := by omega
    have n30 : ¬ x * 4 + 3 = y * 4 := by omega
    have m30 : ¬ y * 4 = x * 4 + 3 := by omega
    have n31 : ¬ x * 4 + 3 = y * 4 + 1 := by omega
    have m31 : ¬ y * 4 + 1 = x * 4 + 3 := by omega
    have n32 : ¬ x * 4 + 3 = y * 4 + 2 := by omega
    have m32 : ¬ y * 4 + 2 = x * 4 + 3 := by omega
    have n33 : ¬ x * 4 + 3 = y * 4 + 3 := by omega
    have m33 : ¬ y * 4 + 3 = x * 4 + 3 := by omega
    clear hxy
    go_enter Try.func55, Try.ntmps55
    go_wp2_with fail
    go_region
    go_end0
    refine ⟨rfl, ?_, ?_⟩
    · rw [swapM, HX.out, HY.out]
      exact ((HR.out.put x ⟨k', s', A', n', c', r'⟩ hx).put y ⟨k, s, A, n, c, r⟩ (by simpa using hy)).drew
    · exact ((put_keep w g (x * 4) (.string k') (.int .i64 s') (.slice A' n' c') (.int .i64 r')).trans' (put_keep _ g (y * 4) (.string k) (.int .i64 s) (.slice A n c) (.int .i64 r)) (fun _ _ h => h)).drew
end Go.Proofs.Ytbkpjjibgnachaa
