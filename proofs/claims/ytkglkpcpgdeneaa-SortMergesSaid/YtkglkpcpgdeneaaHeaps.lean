/- Heaps of entries: a merger's heap (its first cell), as a part of memory. Conditions: none. -/
import Derived.Test.YtkglkpcpgdeneaaRefS
import Derived.Test.YtkglkpcpgdeneaaRecLess
import Derived.RegionTactic
import Derived.BigRegion
import Derived.Deep.RegionLaw
import Derived.Deep.DeepCutAuto
import Derived.Deep.AppendLies
import Derived.IntWalk
import Derived.Test.YtkglkpcpgdeneaaSt
namespace Go.Proofs.Ytkglkpcpgdeneaa
open Go.RowKit
variable {cu pk : Value}

/-- An entry: key, number, bytes (as they lie), run. -/
structure En where
  k : ByteArray
  s : Int
  A : Option Addr
  n : Nat
  c : Nat
  r : Int
def En.d (e : En) : Value := .slice e.A e.n e.c
def En.cells (e : En) : List Value := [.string e.k, .int .i64 e.s, .slice e.A e.n e.c, .int .i64 e.r]
def flatE (L : List En) : List Value := L.flatMap En.cells
theorem En.cells_len (e : En) : e.cells.length = 4 := rfl
theorem flatE_nil : flatE [] = [] := rfl
theorem flatE_cons (e : En) (L : List En) : flatE (e :: L) = e.cells ++ flatE L := rfl
theorem flatE_append (L M : List En) : flatE (L ++ M) = flatE L ++ flatE M := List.flatMap_append
theorem flatE_len : ∀ L : List En, (flatE L).length = L.length * 4
  | [] => rfl
  | e :: L => by rw [flatE_cons, List.length_append, flatE_len L, En.cells_len, List.length_cons]; omega
theorem flatE_get : ∀ (L : List En) (i j : Nat) (h : i < L.length), j < 4 → (flatE L)[i * 4 + j]? = L[i].cells[j]?
  | e :: L, 0, j, _, hj => by rw [flatE_cons, List.getElem?_append_left (by rw [En.cells_len]; omega)]; simp
  | e :: L, i + 1, j, h, hj => by
    rw [flatE_cons, List.getElem?_append_right (by rw [En.cells_len]; omega), En.cells_len, show (i + 1) * 4 + j - 4 = i * 4 + j by omega]
    exact flatE_get L i j (by simpa using h) hj
theorem set_four (i : Nat) : ∀ (cs : List Value) (e : En), i + 4 ≤ cs.length → (((cs.set i (.string e.k)).set (i + 1) (.int .i64 e.s)).set (i + 2) (.slice e.A e.n e.c)).set (i + 3) (.int .i64 e.r) = cs.take i ++ e.cells ++ cs.drop (i + 4) := by
  intro cs e h
  apply List.ext_getElem?
  intro j
  rcases Nat.lt_or_ge j i with h1 | h1
  · rw [List.append_assoc, List.getElem?_append_left (by simp; omega)]
    simp only [List.getElem?_take, h1, if_true]
    rw [List.getElem?_set_ne (by omega), List.getElem?_set_ne (by omega), List.getElem?_set_ne (by omega), List.getElem?_set_ne (by omega)]
  · rcases Nat.lt_or_ge j (i + 4) with h2 | h2
    · rw [List.getElem?_append_left (by simp [En.cells]; omega), List.getElem?_append_right (by simp; omega)]
      have : j = i ∨ j = i + 1 ∨ j = i + 2 ∨ j = i + 3 := by omega
      rcases this with rfl | rfl | rfl | rfl
      · rw [List.getElem?_set_ne (by omega), List.getElem?_set_ne (by omega), List.getElem?_set_ne (by omega), List.getElem?_set_self (by omega)]
        simp [En.cells, Nat.min_eq_left (show j ≤ cs.length by omega)]
      · rw [List.getElem?_set_ne (by omega), List.getElem?_set_ne (by omega), List.getElem?_set_self (by simp; omega)]
        simp [En.cells, Nat.min_eq_left (show i ≤ cs.length by omega)]
      · rw [List.getElem?_set_ne (by omega), List.getElem?_set_self (by simp; omega)]
        simp [En.cells, Nat.min_eq_left (show i ≤ cs.length by omega)]
      · rw [List.getElem?_set_self (by simp; omega)]
        simp [En.cells, Nat.min_eq_left (show i ≤ cs.length by omega)]
    · rw [List.getElem?_append_right (by simp [En.cells]; omega)]
      rw [List.getElem?_set_ne (by omega), List.getElem?_set_ne (by omega), List.getElem?_set_ne (by omega), List.getElem?_set_ne (by omega), List.getElem?_drop]
      congr 1
      simp [En.cells, Nat.min_eq_left (show i ≤ cs.length by omega)]; omega
theorem flatE_set : ∀ (L : List En) (i : Nat) (e : En), i < L.length → flatE (L.set i e) = (flatE L).take (i * 4) ++ e.cells ++ (flatE L).drop (i * 4 + 4)
  | a :: L, 0, e, _ => by
    rw [List.set_cons_zero, flatE_cons, flatE_cons]
    simp [En.cells]
  | a :: L, i + 1, e, h => by
    rw [List.set_cons_succ, flatE_cons, flatE_cons, flatE_set L i e (by simpa using h)]
    rw [List.take_append, List.drop_append, List.take_of_length_le (l := a.cells) (by rw [En.cells_len]; omega), List.drop_of_length_le (l := a.cells) (by rw [En.cells_len]; omega), En.cells_len]
    rw [show (i + 1) * 4 - 4 = i * 4 by omega, show (i + 1) * 4 + 4 - 4 = i * 4 + 4 by omega]
    simp
/-- A block whose first cells are these entries. -/
def RowE (w : World) (g cap : Nat) (L : List En) : Prop := ∃ rest, Blk w g 128 (flatE L ++ rest) ∧ (flatE L ++ rest).length = cap * 4 ∧ L.length ≤ cap ∧ cap ≤ maxLen
theorem RowE.cell {w : World} {g cap : Nat} {L : List En} (h : RowE w g cap L) (i j : Nat) (hi : i < L.length) (hj : j < 4) : w.cell? ⟨g, i * 4 + j, none⟩ = L[i].cells[j]? := by
  obtain ⟨rest, hb, hl, _⟩ := h
  have := flatE_len L
  rw [hb.cell, List.getElem?_append_left (by omega), flatE_get L i j hi hj]
theorem RowE.free {w : World} {g cap : Nat} {L : List En} (h : RowE w g cap L) (i : Nat) : w.frozen? ⟨g, i, none⟩ = false := by
  obtain ⟨rest, hb, hl, _⟩ := h
  exact hb.free _
theorem RowE.keep {w w' : World} {g cap : Nat} {L : List En} (h : RowE w g cap L) {F : Nat → Prop} (k : Keep F w w') (hn : ¬ F g) : RowE w' g cap L := by
  obtain ⟨rest, hb, r⟩ := h
  exact ⟨rest, hb.keep k hn, r⟩
theorem RowE.lt {w : World} {g cap : Nat} {L : List En} (h : RowE w g cap L) : g < w.heap.size := by
  obtain ⟨rest, hb, _⟩ := h
  exact hb.lt
theorem RowE.drew {w : World} {g cap : Nat} {L : List En} (h : RowE w g cap L) : RowE w.drew g cap L := h
/-- An entry is written in place. -/
theorem RowE.put {w : World} {g cap : Nat} {L : List En} (h : RowE w g cap L) (i : Nat) (e : En) (hi : i < L.length) :
    RowE ((((w.setCell ⟨g, i * 4, none⟩ (.string e.k)).setCell ⟨g, i * 4 + 1, none⟩ (.int .i64 e.s)).setCell ⟨g, i * 4 + 2, none⟩ (.slice e.A e.n e.c)).setCell ⟨g, i * 4 + 3, none⟩ (.int .i64 e.r)) g cap (L.set i e) := by
  obtain ⟨rest, hb, hl, h3, h4⟩ := h
  have hf := flatE_len L
  refine ⟨rest, ?_, ?_, by simpa using h3, h4⟩
  · have := (((hb.set (i * 4) (.string e.k)).set (i * 4 + 1) (.int .i64 e.s)).set (i * 4 + 2) (.slice e.A e.n e.c)).set (i * 4 + 3) (.int .i64 e.r)
    rw [set_four (i * 4) _ e (by rw [List.length_append]; omega)] at this
    rw [flatE_set L i e hi]
    rw [List.take_append_of_le_length (by omega), List.drop_append_of_le_length (by omega)] at this
    simpa using this
  · rw [List.length_append, flatE_len, List.length_set, ← flatE_len, ← List.length_append, hl]
theorem put_keep (w : World) (g i : Nat) (a b c d : Value) : Keep (fun k => k = g) w ((((w.setCell ⟨g, i, none⟩ a).setCell ⟨g, i + 1, none⟩ b).setCell ⟨g, i + 2, none⟩ c).setCell ⟨g, i + 3, none⟩ d) :=
  ((((Keep.refl (fun k => k = g) w).setCell (p := ⟨g, _, none⟩) (.inl rfl) _).setCell (p := ⟨g, _, none⟩) (.inl rfl) _).setCell (p := ⟨g, _, none⟩) (.inl rfl) _).setCell (p := ⟨g, _, none⟩) (.inl rfl) _

def swapM (L : List En) (x y : Nat) (hx : x < L.length) (hy : y < L.length) : List En := (L.set x L[y]).set y L[x]
set_option maxRecDepth 100000 in
set_option maxHeartbeats 4000000 in
theorem heap_swap (hb g cap x y : Nat) (L : List En) (w : World) (hc : w.cell? ⟨hb, 0, none⟩ = some (.slice (some ⟨g, 0, none⟩) L.length cap)) (hr : RowE w g cap L) (hx : x < L.length) (hy : y < L.length) :
    Calls Try.prog 84 #[.pointer (some ⟨hb, 0, none⟩), .int .i64 x, .int .i64 y] w fun e w' => e = .returned (.tuple #[]) ∧ RowE w' g cap (swapM L x y hx hy) ∧ Keep (fun k => k = g) w w' := by
  have HR := Lib.hid hr
  have x0 := hr.cell x 0 hx (by omega)
  have x1 := hr.cell x 1 hx (by omega)
  have x2 := hr.cell x 2 hx (by omega)
  have x3 := hr.cell x 3 hx (by omega)
  have y0 := hr.cell y 0 hy (by omega)
  have y1 := hr.cell y 1 hy (by omega)
  have y2 := hr.cell y 2 hy (by omega)
  have y3 := hr.cell y 3 hy (by omega)
  have ex : L[x] = L[x] := rfl
  have ey : L[y] = L[y] := rfl
  generalize hex : L[x] = a at x0 x1 x2 x3
  generalize hey : L[y] = b at y0 y1 y2 y3
  obtain ⟨k, s, A, n, c, r⟩ := a
  obtain ⟨k', s', A', n', c', r'⟩ := b
  simp only [En.cells, List.getElem?_cons_zero, List.getElem?_cons_succ, Nat.add_zero] at x0 x1 x2 x3 y0 y1 y2 y3
  have HX := Lib.hid hex
  have HY := Lib.hid hey
  clear hex hey ex ey
  have fx0 := hr.free (x * 4)
  have fx1 := hr.free (x * 4 + 1)
  have fx2 := hr.free (x * 4 + 2)
  have fx3 := hr.free (x * 4 + 3)
  have fy0 := hr.free (y * 4)
  have fy1 := hr.free (y * 4 + 1)
  have fy2 := hr.free (y * 4 + 2)
  have fy3 := hr.free (y * 4 + 3)
  clear hr
  have q1 : (0 : Int) ≤ x := by omega
  have q2 : (x : Int) < (L.length : Int) := by omega
  have q3 : (0 : Int) ≤ y := by omega
  have q4 : (y : Int) < (L.length : Int) := by omega
  by_cases hxy : x = y
  · subst hxy
    go_enter Try.func84, Try.ntmps84
    go_wp2_with fail
    go_region
    go_end0
    refine ⟨rfl, ?_, ?_⟩
    · rw [swapM, HX.out]
      exact ((HR.out.put x ⟨k, s, A, n, c, r⟩ hx).put x ⟨k, s, A, n, c, r⟩ (by simpa using hx)).drew
    · exact ((put_keep w g (x * 4) (.string k) (.int .i64 s) (.slice A n c) (.int .i64 r)).trans' (put_keep _ g (x * 4) (.string k) (.int .i64 s) (.slice A n c) (.int .i64 r)) (fun _ _ h => h)).drew
  · have HNE := Lib.hid hxy
    have n00 : ¬ x * 4 = y * 4 := by omega
    have m00 : ¬ y * 4 = x * 4 := by omega
    have n01 : ¬ x * 4 = y * 4 + 1 := by omega
    have m01 : ¬ y * 4 + 1 = x * 4 := by omega
    have n02 : ¬ x * 4 = y * 4 + 2 := by omega
    have m02 : ¬ y * 4 + 2 = x * 4 := by omega
    have n03 : ¬ x * 4 = y * 4 + 3 := by omega
    have m03 : ¬ y * 4 + 3 = x * 4 := by omega
    have n10 : ¬ x * 4 + 1 = y * 4 := by omega
    have m10 : ¬ y * 4 = x * 4 + 1 := by omega
    have n11 : ¬ x * 4 + 1 = y * 4 + 1 := by omega
    have m11 : ¬ y * 4 + 1 = x * 4 + 1 := by omega
    have n12 : ¬ x * 4 + 1 = y * 4 + 2 := by omega
    have m12 : ¬ y * 4 + 2 = x * 4 + 1 := by omega
    have n13 : ¬ x * 4 + 1 = y * 4 + 3 := by omega
    have m13 : ¬ y * 4 + 3 = x * 4 + 1 := by omega
    have n20 : ¬ x * 4 + 2 = y * 4 := by omega
    have m20 : ¬ y * 4 = x * 4 + 2 := by omega
    have n21 : ¬ x * 4 + 2 = y * 4 + 1 := by omega
    have m21 : ¬ y * 4 + 1 = x * 4 + 2 := by omega
    have n22 : ¬ x * 4 + 2 = y * 4 + 2 := by omega
    have m22 : ¬ y * 4 + 2 = x * 4 + 2 := by omega
    have n23 : ¬ x * 4 + 2 = y * 4 + 3 := by omega
    have m23 : ¬ y * 4 + 3 = x * 4 + 2 := by omega
    have n30 : ¬ x * 4 + 3 = y * 4 := by omega
    have m30 : ¬ y * 4 = x * 4 + 3 := by omega
    have n31 : ¬ x * 4 + 3 = y * 4 + 1 := by omega
    have m31 : ¬ y * 4 + 1 = x * 4 + 3 := by omega
    have n32 : ¬ x * 4 + 3 = y * 4 + 2 := by omega
    have m32 : ¬ y * 4 + 2 = x * 4 + 3 := by omega
    have n33 : ¬ x * 4 + 3 = y * 4 + 3 := by omega
    have m33 : ¬ y * 4 + 3 = x * 4 + 3 := by omega
    clear hxy
    go_enter Try.func84, Try.ntmps84
    go_wp2_with fail
    go_region
    go_end0
    refine ⟨rfl, ?_, ?_⟩
    · rw [swapM, HX.out, HY.out]
      exact ((HR.out.put x ⟨k', s', A', n', c', r'⟩ hx).put y ⟨k, s, A, n, c, r⟩ (by simpa using hy)).drew
    · exact ((put_keep w g (x * 4) (.string k') (.int .i64 s') (.slice A' n' c') (.int .i64 r')).trans' (put_keep _ g (y * 4) (.string k) (.int .i64 s) (.slice A n c) (.int .i64 r)) (fun _ _ h => h)).drew
end Go.Proofs.Ytkglkpcpgdeneaa
namespace Go.Proofs.Ytkglkpcpgdeneaa
open Go.RowKit
variable {cu pk : Value}

theorem RowE.own {w : World} {g cap : Nat} {L : List En} (h : RowE w g cap L) : w.ownsRow 0 128 4 (.slice (some ⟨g, 0, none⟩) L.length cap) L.length (flatE L) := by
  obtain ⟨rest, hb, hl, h3, h4⟩ := h
  refine ⟨flatE_len L, .inr ⟨g, cap, (flatE L ++ rest).toArray, rfl, Nat.zero_le _, hb, h3, h4, by simpa using hl, ?_⟩⟩
  rw [List.toList_toArray, ← flatE_len L, List.take_left]
theorem RowE.of_own {w : World} {g cap n b : Nat} {L : List En} (h : w.ownsRow b 128 4 (.slice (some ⟨g, 0, none⟩) n cap) n (flatE L)) : RowE w g cap L := by
  obtain ⟨hl, h⟩ := h
  rcases h with ⟨h, _⟩ | ⟨g', cap', cur, hv, _, hb, hn, hm, hs, ht⟩
  · cases h
  · cases hv
    have hn2 : L.length = n := by have := flatE_len L; omega
    refine ⟨cur.toList.drop (n * 4), ?_, ?_, by omega, hm⟩
    · rw [← ht, List.take_append_drop]
      unfold Blk
      rw [Array.toArray_toList]; exact hb
    · rw [← ht, List.take_append_drop, Array.length_toList, hs]

def z0 : En := ⟨⟨#[]⟩, 0, none, 0, 0, 0⟩
def gE (L : List En) (i : Nat) : En := L.getD i z0
def swapE (L : List En) (x y : Nat) : List En := (L.set x (gE L y)).set y (gE L x)
theorem gE_eq (L : List En) (i : Nat) (h : i < L.length) : gE L i = L[i] := by simp [gE, h]
theorem swapE_eq (L : List En) (x y : Nat) (hx : x < L.length) (hy : y < L.length) : swapM L x y hx hy = swapE L x y := by rw [swapM, swapE, gE_eq L x hx, gE_eq L y hy]
theorem swapE_len (L : List En) (x y : Nat) : (swapE L x y).length = L.length := by simp [swapE]
def ltN (a b : En) : Bool := ltE a.k a.s a.r b.k b.s b.r
/-- The way up. -/
def upE (n : Nat) (L : List En) : List En :=
  if h : n = 0 then L else if ltN (gE L n) (gE L ((n - 1) / 2)) then upE ((n - 1) / 2) (swapE L n ((n - 1) / 2)) else L
termination_by n
decreasing_by omega
theorem upE_zero (L : List En) : upE 0 L = L := by rw [upE]; simp
theorem upE_go (n : Nat) (L : List En) (h : 0 < n) (hl : ltN (gE L n) (gE L ((n - 1) / 2)) = true) : upE n L = upE ((n - 1) / 2) (swapE L n ((n - 1) / 2)) := by
  conv => lhs; rw [upE]
  simp [Nat.ne_of_gt h, hl]
theorem upE_end (n : Nat) (L : List En) (hl : ltN (gE L n) (gE L ((n - 1) / 2)) = false) : upE n L = L := by
  rw [upE]; simp [hl]
theorem upE_len : ∀ (n : Nat) (L : List En), (upE n L).length = L.length := by
  intro n
  induction n using Nat.strongRecOn with
  | _ n ih =>
    intro L
    by_cases h : n = 0
    · subst h; rw [upE_zero]
    · cases hl : ltN (gE L n) (gE L ((n - 1) / 2))
      · rw [upE_end n L hl]
      · rw [upE_go n L (by omega) hl, ih _ (by omega), swapE_len]
def pushE (L : List En) (e : En) : List En := upE L.length (L ++ [e])

/-- A heap: its own block and its row's, both among F. -/
def HeapAt (w : World) (F : Nat → Prop) (hb : Nat) (cu pk : Value) (L : List En) : Prop := F hb ∧ ∃ v, Blk w hb 114 [v, cu, pk] ∧ ((v = .slice none 0 0 ∧ L = []) ∨ ∃ g cap, v = .slice (some ⟨g, 0, none⟩) L.length cap ∧ F g ∧ RowE w g cap L)
theorem HeapAt.mono {w : World} {F G : Nat → Prop} {hb : Nat} {L : List En} (h : HeapAt w F hb cu pk L) (hm : ∀ k, k < w.heap.size → F k → G k) : HeapAt w G hb cu pk L := by
  obtain ⟨h1, v, hb, h2⟩ := h
  refine ⟨hm _ hb.lt h1, v, hb, ?_⟩
  rcases h2 with h2 | ⟨g, cap, hv, hg, hr⟩
  · exact .inl h2
  · exact .inr ⟨g, cap, hv, hm _ hr.lt hg, hr⟩
theorem HeapAt.keep {w w' : World} {F G : Nat → Prop} {hb : Nat} {L : List En} (h : HeapAt w F hb cu pk L) (k : Keep G w w') (hd : ∀ k, F k → ¬ G k) : HeapAt w' F hb cu pk L := by
  obtain ⟨h1, v, hbk, h2⟩ := h
  refine ⟨h1, v, hbk.keep k (hd _ h1), ?_⟩
  rcases h2 with h2 | ⟨g, cap, hv, hg, hr⟩
  · exact .inl h2
  · exact .inr ⟨g, cap, hv, hg, hr.keep k (hd _ hg)⟩
theorem row_ne {w : World} {g hb cap : Nat} {L : List En} {v : Value} (h : RowE w g cap L) (hb' : Blk w hb 114 [v, cu, pk]) : g ≠ hb := by
  rintro rfl
  obtain ⟨rest, h1, _⟩ := h
  unfold Blk at h1 hb'
  rw [h1] at hb'
  injection (Option.some.inj hb') with _ h2
  exact absurd h2 (by decide)

theorem infoEn : (Try.prog.info? 128).map (fun i => (i.zero, i.size, i.bytes)) = some (some (.agg #[.string ⟨#[]⟩, .int .i64 0, .slice none 0 0, .int .i64 0]), 4, 56) := by kernel_rfl

def extF (F : Nat → Prop) (w w' : World) : Nat → Prop := fun k => F k ∨ (w.heap.size ≤ k ∧ k < w'.heap.size)
/-- What Push leaves. -/
def PushPost (F : Nat → Prop) (hb : Nat) (cu pk : Value) (L : List En) (w : World) (e : Ending) (w' : World) : Prop := e = .returned (.tuple #[]) ∧ HeapAt w' (extF F w w') hb cu pk L ∧ Keep F w w'
set_option maxRecDepth 100000 in
set_option maxHeartbeats 4000000 in
theorem heap_push (F : Nat → Prop) (hb : Nat) (L : List En) (x : En) (w : World) (hh : HeapAt w F hb cu pk L) (hl : L.length < 1000000) :
    Calls Try.prog 81 #[.pointer (some ⟨hb, 0, none⟩), .agg #[.string x.k, .int .i64 x.s, .slice x.A x.n x.c, .int .i64 x.r]] w (PushPost F hb cu pk (pushE L x) w) := by
  obtain ⟨hF, v, hB, hv⟩ := hh
  have hown : w.ownsRow 0 128 4 v L.length (flatE L) := by
    rcases hv with ⟨rfl, rfl⟩ | ⟨g, cap, rfl, _, hr⟩
    · exact World.ownsRow_nil w 0 _ 4
    · exact hr.own
  have hFv : ∀ k, v.ownBlock = some k → F k ∧ k ≠ hb := by
    rcases hv with ⟨rfl, rfl⟩ | ⟨g, cap, rfl, hg, hr⟩
    · intro k h; cases h
    · intro k h; cases h; exact ⟨hg, row_ne hr hB⟩
  have hvs : ∃ A n c, v = .slice A n c := by
    rcases hv with ⟨rfl, rfl⟩ | ⟨g, cap, rfl, hg, hr⟩
    · exact ⟨_, _, _, rfl⟩
    · exact ⟨_, _, _, rfl⟩
  obtain ⟨vA, vn, vc, rfl⟩ := hvs
  clear hv
  obtain ⟨k, s, A, n, c, r⟩ := x
  go_enter Try.func81, Try.ntmps81
  go_upto_region 2 with fail
  obtain ⟨i0, hi0, hz0, hz1, hz2⟩ := info_parts infoEn
  generalize hW : w.alloc (Obj.cells #[Value.string k, Value.int IntKind.i64 s, Value.slice A n c, Value.int IntKind.i64 r] 128) = W
  have B0 : Blk W w.heap.size 128 [.string k, .int .i64 s, .slice A n c, .int .i64 r] := by rw [← hW]; exact Blk.new w _ _
  have KW : Keep F w W := by rw [← hW]; exact (Keep.refl _ w).alloc _
  have hSW : W.heap.size = w.heap.size + 1 := by rw [← hW]; simp
  have hB' : Blk W hb 114 [.slice vA vn vc, cu, pk] := by rw [← hW]; exact hB.alloc _
  have hown' : W.ownsRow 0 128 4 (.slice vA vn vc) L.length (flatE L) := by rw [← hW]; exact hown.alloc _
  clear hW
  have hb0 : hb < w.heap.size := hB.lt
  clear hB hown
  generalize hbb : w.heap.size = b0 at B0 hSW hb0 ⊢
  have ch := hB'.cell 0
  have fh := hB'.free 0
  have hfa : ∀ o, (W.alloc o).drew.frozen? ⟨hb, 0, none⟩ = false := fun o => (hB'.alloc o).free 0
  have c0 := B0.cell 0
  have c1 := B0.cell 1
  have c2 := B0.cell 2
  have c3 := B0.cell 3
  simp only [List.getElem?_cons_zero, List.getElem?_cons_succ] at ch c0 c1 c2 c3
  have hLN : (L.length + 1) * 56 ≤ 140737488355328 := by omega
  have hLM : L.length + 1 ≤ maxLen := by unfold maxLen; omega
  have hcs : ∀ w1, (W.alloc (Obj.cells #[Value.string k, Value.int IntKind.i64 s, Value.slice A n c, Value.int IntKind.i64 r] 128)).drew.grownBy w1 (Value.ownBlock (.slice vA vn vc)) → w1.cell? ⟨hb, 0, none⟩ = some (.slice vA vn vc) ∧ w1.frozen? ⟨hb, 0, none⟩ = false := by
    intro w1 hg
    have h1 := (show Blk (W.alloc (Obj.cells #[Value.string k, Value.int IntKind.i64 s, Value.slice A n c, Value.int IntKind.i64 r] 128)).drew hb 114 [.slice vA vn vc, cu, pk] from hB'.alloc _).keep (Keep.of_grown hg) (fun e => (hFv _ e.symm).2 rfl)
    exact ⟨h1.cell 0, h1.free 0⟩
  have hmt : ∀ gg cap w1, w1.ownsRow 0 128 4 (.slice (some ⟨gg, 0, none⟩) (L.length + 1) cap) (L.length + 1) (flatE L ++ [.string k, .int .i64 s, .slice A n c, .int .i64 r]) → (W.alloc (Obj.cells #[Value.string k, Value.int IntKind.i64 s, Value.slice A n c, Value.int IntKind.i64 r] 128)).drew.grownBy w1 (Value.ownBlock (.slice vA vn vc)) → (Value.ownBlock (.slice vA vn vc) = some gg ∨ gg = W.heap.size + 1) →
      Blk (w1.setCell ⟨hb, 0, none⟩ (.slice (some ⟨gg, 0, none⟩) (L.length + 1) cap)) hb 114 [.slice (some ⟨gg, 0, none⟩) (L.length + 1) cap, cu, pk] ∧ RowE (w1.setCell ⟨hb, 0, none⟩ (.slice (some ⟨gg, 0, none⟩) (L.length + 1) cap)) gg cap (L ++ [⟨k, s, A, n, c, r⟩]) ∧ Keep F w (w1.setCell ⟨hb, 0, none⟩ (.slice (some ⟨gg, 0, none⟩) (L.length + 1) cap)) ∧ (F gg ∨ w.heap.size ≤ gg) := by
    intro gg cap w1 hown1 hg hat
    have h1 := (show Blk (W.alloc (Obj.cells #[Value.string k, Value.int IntKind.i64 s, Value.slice A n c, Value.int IntKind.i64 r] 128)).drew hb 114 [.slice vA vn vc, cu, pk] from hB'.alloc _).keep (Keep.of_grown hg) (fun e => (hFv _ e.symm).2 rfl)
    have h2 : RowE w1 gg cap (L ++ [⟨k, s, A, n, c, r⟩]) := RowE.of_own (b := 0) (n := L.length + 1) (by rw [flatE_append]; exact hown1)
    refine ⟨h1.set 0 _, h2.keep ((Keep.refl (fun k => k = hb) w1).setCell (p := ⟨hb, 0, none⟩) (.inl rfl) _) (row_ne h2 h1), ?_, ?_⟩
    · exact (((KW.alloc _).drew).trans' (Keep.of_grown hg) (fun j _ e => (hFv j e.symm).1)).setCell (p := ⟨hb, 0, none⟩) (.inl hF) _
    · rcases hat with h | h
      · exact .inl (hFv gg h).1
      · exact .inr (by omega)
  have HFV := Lib.hid hFv
  have HL := Lib.hid hl
  have HB' := Lib.hid hB'
  have KW' := Lib.hid KW
  have HBB := Lib.hid hbb
  clear hFv hl hB' B0 KW hbb
  go_cut [] (fun wx => ∃ gg cap, Hid (Blk wx hb 114 [.slice (some ⟨gg, 0, none⟩) (L.length + 1) cap, cu, pk] ∧ RowE wx gg cap (L ++ [⟨k, s, A, n, c, r⟩]) ∧ Keep F w wx ∧ (F gg ∨ w.heap.size ≤ gg)))
  case first =>
    go_region_law ((refine step_append_lies _ (by rfl) _ _ _ (by rfl) 0 128 i0 _ 4 56 Try.underlying109 hi0 hz0 hz1 hz2 rfl (by omega) (.slice vA vn vc) L.length (flatE L) (by rfl) ((hown'.alloc _).drew) ⟨b0 + 1, 0, none⟩ 1 1 [.string k, .int .i64 s, .slice A n c, .int .i64 r] (by rfl) (by rfl) (World.news_of_block (cs := #[.string k, .int .i64 s, .slice A n c, .int .i64 r]) (t := 128) (fr := (0, 0)) (by rw [← hSW]; exact heap_alloc_new W _)) (by simp [Value.oneCell']) (by omega) hLM hLN (by simp) (W.heap.size + 1) (by simp) ?_; intro gg cap w1 hown1 hgrow hat hlt; have hq1 := (hcs w1 hgrow).1; have hq2 := (hcs w1 hgrow).2))
    all_goals (go_wp2_with fail; go_meet; exact ⟨gg, cap, Lib.hid (hmt gg cap w1 hown1 hgrow hat)⟩)
  case rest =>
    obtain ⟨gg, cap, HC⟩ := hcut
    have HM : Hid (w.heap.size = b0) := HBB
    clear c0 c1 c2 c3 ch fh hfa hcs hmt hown' hSW hi0 hz0 hz1 hz2
    have cq := HC.out.1.cell 0
    simp only [List.getElem?_cons_zero] at cq
    go_wp2_with fail
    clear cq
    go_loopw [4] (fun v4 wr => ∃ (i : Nat) (M : List En), i < L.length + 1 ∧ v4 = .int .i64 i ∧ Hid (M.length = L.length + 1) ∧ Hid (upE i M = pushE L ⟨k, s, A, n, c, r⟩) ∧ Hid (Blk wr hb 114 [.slice (some ⟨gg, 0, none⟩) (L.length + 1) cap, cu, pk]) ∧ Hid (RowE wr gg cap M) ∧ Hid (Keep F w wr)) (fun v4 _ => (intOf v4).toNat)
    case atStart => exact ⟨L.length, L ++ [⟨k, s, A, n, c, r⟩], by omega, by go_num, Lib.hid (by simp), Lib.hid rfl, Lib.hid HC.out.1, Lib.hid HC.out.2.1, Lib.hid HC.out.2.2.1⟩
    case round =>
      obtain ⟨i, M, hi, rfl, HML, HU, HBL, HRO, HKE⟩ := hrel
      have hfin : ∀ w2, Blk w2 hb 114 [.slice (some ⟨gg, 0, none⟩) (L.length + 1) cap, cu, pk] → RowE w2 gg cap (pushE L ⟨k, s, A, n, c, r⟩) → Keep F w w2 → PushPost F hb cu pk (pushE L ⟨k, s, A, n, c, r⟩) w (.returned (.tuple #[])) w2 := by
        intro w2 h1 h2 h3
        have hle : (pushE L ⟨k, s, A, n, c, r⟩).length = L.length + 1 := by rw [← HU.out, upE_len]; exact HML.out
        refine ⟨rfl, ⟨.inl hF, _, h1, .inr ⟨gg, cap, by rw [hle], ?_, h2⟩⟩, h3⟩
        rcases HC.out.2.2.2 with h | h
        · exact .inl h
        · exact .inr ⟨h, h2.lt⟩
      have HF := Lib.hid hfin
      clear hfin
      by_cases hi0 : i = 0
      · subst hi0
        have hd : decide ((0 : Int) < 0) = false := rfl
        go_wp2
        go_end0
        exact HF.out _ HBL.out (by have := HU.out; rw [upE_zero] at this; rw [← this]; exact HRO.out) HKE.out
      · have hp : (0 : Int) < (i : Int) := by omega
        obtain ⟨p, hpe⟩ : ∃ p, p = (i - 1) / 2 := ⟨_, rfl⟩
        have HP := Lib.hid hpe
        have hpl : p < i := by omega
        have hq : ((i : Int) - 1).tdiv 2 = (p : Int) := by
          rw [Int.tdiv_eq_ediv_of_nonneg (by omega)]; omega
        have hq2 : ((i : Int) - 1) / 2 = (p : Int) := by omega
        clear hpe
        go_wp2_with fail
        clear hq hq2
        have q1 : (0 : Int) ≤ i := by omega
        have q2 : (i : Int) < (L.length : Int) + 1 := by omega
        have q3 : (0 : Int) ≤ p := by omega
        have q4 : (p : Int) < (L.length : Int) + 1 := by omega
        have hMi : i < M.length := by rw [HML.out]; exact hi
        have hMp : p < M.length := by rw [HML.out]; omega
        have hRD : RowE wr.drew gg cap M := HRO.out.drew
        have hBD : Blk wr.drew hb 114 [.slice (some ⟨gg, 0, none⟩) (L.length + 1) cap, cu, pk] := HBL.out
        have hKD : Keep F w wr.drew := HKE.out.drew
        have cq := hBD.cell 0
        have x0 := hRD.cell i 0 hMi (by omega)
        have x1 := hRD.cell i 1 hMi (by omega)
        have x2 := hRD.cell i 2 hMi (by omega)
        have x3 := hRD.cell i 3 hMi (by omega)
        have y0 := hRD.cell p 0 hMp (by omega)
        have y1 := hRD.cell p 1 hMp (by omega)
        have y2 := hRD.cell p 2 hMp (by omega)
        have y3 := hRD.cell p 3 hMp (by omega)
        rw [← gE_eq M i hMi] at x0 x1 x2 x3
        rw [← gE_eq M p hMp] at y0 y1 y2 y3
        simp only [En.cells, List.getElem?_cons_zero, List.getElem?_cons_succ, Nat.add_zero] at cq x0 x1 x2 x3 y0 y1 y2 y3
        refine wp_region_still_tail 14 (by kernel_rfl) (by kernel_rfl) ?_
        simp only [List.take_succ_cons, List.take_zero, List.drop_succ_cons, List.drop_zero]
        change wpStill _ _ wr.drew (fun a' => wpList _ _ _ _ a' wr.drew) _ _
        have HRO2 := Lib.hid hRD
        have HBL2 := Lib.hid hBD
        have HKE2 := Lib.hid hKD
        clear hRD hBD hKD HRO HBL HKE
        generalize wr.drew = wd at cq x0 x1 x2 x3 y0 y1 y2 y3 HRO2 HBL2 HKE2 ⊢
        still_step
        still_step
        still_step
        still_step
        still_step
        still_step
        still_step
        still_step
        still_step
        still_step
        still_step
        still_step
        still_step
        still_step
        refine wpStill_nil ?_
        go_wp2_with fail
        refine (heap_less (gE M i).k (gE M p).k (gE M i).s (gE M i).r (gE M p).s (gE M p).r (.slice (gE M i).A (gE M i).n (gE M i).c) (.slice (gE M p).A (gE M p).n (gE M p).c) wd).mono ?_
        rintro e w2 ⟨rfl, K2⟩
        have hR2 := HRO2.out.keep K2 (by have := HRO2.out.lt; omega)
        have hB2 := HBL2.out.keep K2 (by have := HBL2.out.lt; omega)
        have hK2 := HKE2.out.trans' K2 (fun j hj h => by have := HKE2.out.size; omega)
        clear cq x0 x1 x2 x3 y0 y1 y2 y3 K2 HRO2 HBL2 HKE2
        have hU := HU.out
        cases hlt : ltE (gE M i).k (gE M i).s (gE M i).r (gE M p).k (gE M p).s (gE M p).r
        · have hpu : upE i M = M := upE_end i M (by rw [← HP.out]; exact hlt)
          rw [hpu] at hU
          have HU2 := Lib.hid hU
          have HR2 := Lib.hid hR2
          have HB2 := Lib.hid hB2
          have HK2 := Lib.hid hK2
          clear hU hpu hR2 hB2 hK2
          go_wp2
          (try simp only [Exit.inBlock, Exit.then])
          refine bodyPost_ret (results_none rfl _ _ _) rfl ?_
          exact HF.out _ HB2.out (by rw [← HU2.out]; exact HR2.out) HK2.out
        · have hpu : upE i M = upE p (swapE M i p) := by rw [HP.out]; exact upE_go i M (by omega) (by rw [← HP.out]; exact hlt)
          rw [hpu] at hU
          have HU2 := Lib.hid hU
          have HR2 := Lib.hid hR2
          have HB2 := Lib.hid hB2
          have HK2 := Lib.hid hK2
          have cq := hB2.cell 0
          simp only [List.getElem?_cons_zero] at cq
          rw [← HML.out] at cq
          clear hU hpu hR2 hB2 hK2
          go_wp2_with (go_at_call 84; refine (heap_swap hb gg cap i p M _ cq HR2.out hMi hMp).mono ?_; rintro e w3 ⟨rfl, hR3, hK3⟩; rw [swapE_eq] at hR3; have HR3 := Lib.hid hR3; have HK3 := Lib.hid hK3; clear hR3 hK3 cq)
          go_roundw
          case rel => exact ⟨p, swapE M i p, by omega, rfl, Lib.hid (by rw [swapE_len]; exact HML.out), Lib.hid HU2.out, Lib.hid (HB2.out.keep HK3.out (fun e => row_ne HR2.out HB2.out e.symm)), Lib.hid HR3.out, Lib.hid (HK2.out.trans' HK3.out (fun j hj e => by subst e; rcases HC.out.2.2.2 with h | h; exact h; omega))⟩
          case measure => simp [intOf]; omega
end Go.Proofs.Ytkglkpcpgdeneaa
namespace Go.Proofs.Ytkglkpcpgdeneaa
open Go.RowKit
variable {cu pk : Value}

def valE (e : En) : Value := .agg #[.string e.k, .int .i64 e.s, .slice e.A e.n e.c, .int .i64 e.r]
theorem HeapAt.head {w : World} {F : Nat → Prop} {hb : Nat} {L : List En} (h : HeapAt w F hb cu pk L) : ∃ A c, Blk w hb 114 [.slice A L.length c, cu, pk] ∧ (0 < L.length → ∃ g, A = some ⟨g, 0, none⟩ ∧ F g ∧ RowE w g c L) := by
  obtain ⟨_, v, hB, hv⟩ := h
  rcases hv with ⟨rfl, rfl⟩ | ⟨g, cap, rfl, hg, hr⟩
  · exact ⟨none, 0, hB, fun h => absurd h (by simp)⟩
  · exact ⟨_, cap, hB, fun _ => ⟨g, rfl, hg, hr⟩⟩
set_option maxHeartbeats 1000000 in
theorem len_nil (w : World) : Calls Try.prog 82 #[.pointer none] w fun e w' => e = .returned (.int .i64 0) ∧ w' = w := by
  go_enter Try.func82, Try.ntmps82
  go_wp2
  go_ret
  exact ⟨rfl, rfl⟩
set_option maxHeartbeats 1000000 in
theorem len_any (hb : Nat) (A : Option Addr) (n c : Nat) (w : World) (hc : w.cell? ⟨hb, 0, none⟩ = some (.slice A n c)) : Calls Try.prog 82 #[.pointer (some ⟨hb, 0, none⟩)] w fun e w' => e = .returned (.int .i64 n) ∧ w' = w := by
  go_enter Try.func82, Try.ntmps82
  go_wp2
  go_ret
  exact ⟨rfl, rfl⟩
/-- The result of a function that answers an entry and whether. -/
theorem results_entry {fn : Func} (h : fn.results = #[.cell 2 128, .tmp 3]) (tmps : Array Value) (b : Nat) (e : En) (w : World) (ht : tmps.getD 2 undef = .pointer (some ⟨b, 0, none⟩)) (hB : Blk w b 128 e.cells) :
    (results fn tmps).run Try.prog w = .ok (.tuple #[valE e, tmps.getD 3 undef]) w := by
  have c0 := hB.cell 0
  have c1 := hB.cell 1
  have c2 := hB.cell 2
  have c3 := hB.cell 3
  simp only [En.cells, List.getElem?_cons_zero, List.getElem?_cons_succ] at c0 c1 c2 c3
  have ht2 : tmps[2]?.getD undef = .pointer (some ⟨b, 0, none⟩) := by rw [← ht]; simp
  simp [results, h, ht2, go_sem, c0, c1, c2, c3, valE]
set_option maxRecDepth 100000 in
set_option maxHeartbeats 1000000 in
theorem least_nil (w : World) : Calls Try.prog 83 #[.pointer none] w fun e w' => e = .returned (.tuple #[valE z0, .bool false]) ∧ Keep (fun b => w.heap.size ≤ b) w w' := by
  go_enter Try.func83, Try.ntmps83
  go_wp2_with (refine (len_nil _).mono ?_; rintro e w' ⟨rfl, rfl⟩)
  exact bodyPost_ret (results_entry rfl _ _ z0 _ rfl (Blk.new w _ _)) rfl ⟨rfl, (Keep.refl _ w).alloc _⟩
set_option maxRecDepth 100000 in
set_option maxHeartbeats 1000000 in
theorem least_none (hb : Nat) (A : Option Addr) (c : Nat) (w : World) (hc : w.cell? ⟨hb, 0, none⟩ = some (.slice A 0 c)) : Calls Try.prog 83 #[.pointer (some ⟨hb, 0, none⟩)] w fun e w' => e = .returned (.tuple #[valE z0, .bool false]) ∧ Keep (fun b => w.heap.size ≤ b) w w' := by
  have hlt := block_lt hc
  go_enter Try.func83, Try.ntmps83
  go_wp2_with (refine (len_any hb A 0 c _ (by rw [← hc]; exact World.cell?_alloc_lt w _ _ hlt)).mono ?_; rintro e w' ⟨rfl, rfl⟩)
  exact bodyPost_ret (results_entry rfl _ _ z0 _ rfl (Blk.new w _ _)) rfl ⟨rfl, (Keep.refl _ w).alloc _⟩
set_option maxRecDepth 100000 in
set_option maxHeartbeats 1000000 in
theorem least_some (hb g c : Nat) (L : List En) (w : World) (hc : w.cell? ⟨hb, 0, none⟩ = some (.slice (some ⟨g, 0, none⟩) L.length c)) (hr : RowE w g c L) (hl : 0 < L.length) : Calls Try.prog 83 #[.pointer (some ⟨hb, 0, none⟩)] w fun e w' => e = .returned (.tuple #[valE (gE L 0), .bool true]) ∧ Keep (fun b => w.heap.size ≤ b) w w' := by
  have hlt := block_lt hc
  have hne : ((L.length : Int) == 0) = false := beq_false_of_ne (by omega)
  have hne2 : (0 : Int) < L.length := by omega
  have hgl := hr.lt
  have x0 := hr.cell 0 0 hl (by omega)
  have x1 := hr.cell 0 1 hl (by omega)
  have x2 := hr.cell 0 2 hl (by omega)
  have x3 := hr.cell 0 3 hl (by omega)
  rw [← gE_eq L 0 hl] at x0 x1 x2 x3
  simp only [En.cells, List.getElem?_cons_zero, List.getElem?_cons_succ, Nat.add_zero, Nat.zero_mul, Nat.zero_add] at x0 x1 x2 x3
  clear hl hr
  go_enter Try.func83, Try.ntmps83
  go_wp2_with (refine (len_any hb _ L.length c _ (by rw [← hc]; exact World.cell?_alloc_lt w _ _ hlt)).mono ?_; rintro e w' ⟨rfl, rfl⟩)
  exact bodyPost_ret (results_entry rfl _ _ (gE L 0) _ rfl (Blk.new w _ _)) rfl ⟨rfl, (Keep.refl _ w).alloc _⟩
end Go.Proofs.Ytkglkpcpgdeneaa
namespace Go.Proofs.Ytkglkpcpgdeneaa
open Go.RowKit
variable {cu pk : Value}

/-- The lesser child of n. -/
def kidE (L : List En) (n : Nat) : Nat := if 2 * n + 2 < L.length ∧ ltN (gE L (2 * n + 2)) (gE L (2 * n + 1)) = true then 2 * n + 2 else 2 * n + 1
set_option maxRecDepth 100000 in
set_option maxHeartbeats 1000000 in
theorem child_no (hb : Nat) (A : Option Addr) (m c n : Nat) (w : World) (hc : w.cell? ⟨hb, 0, none⟩ = some (.slice A m c)) (hn : n < 1000000) (hm : m ≤ 2 * n + 1) :
    Calls Try.prog 85 #[.pointer (some ⟨hb, 0, none⟩), .int .i64 n] w fun e w' => e = .returned (.tuple #[.int .i64 0, .bool false]) ∧ Keep (fun b => w.heap.size ≤ b) w w' := by
  have h1 : (0 : Int) ≤ n := by omega
  have h2 : (n : Int) ≤ 2305843009213693951 := by omega
  have h3 : (m : Int) ≤ 2 * (n : Int) + 1 := by omega
  clear hn hm
  go_enter Try.func85, Try.ntmps85
  go_wp2
  go_ret2
  exact ⟨rfl, Keep.refl _ _⟩
set_option maxRecDepth 100000 in
set_option maxHeartbeats 4000000 in
theorem child_yes (hb g c n : Nat) (L : List En) (w : World) (hc : w.cell? ⟨hb, 0, none⟩ = some (.slice (some ⟨g, 0, none⟩) L.length c)) (hr : RowE w g c L) (hn : n < 1000000) (hm : 2 * n + 1 < L.length) :
    Calls Try.prog 85 #[.pointer (some ⟨hb, 0, none⟩), .int .i64 n] w fun e w' => e = .returned (.tuple #[.int .i64 (kidE L n), .bool true]) ∧ Keep (fun b => w.heap.size ≤ b) w w' := by
  obtain ⟨k, hk⟩ : ∃ k, k = 2 * n + 1 := ⟨_, rfl⟩
  have HK := Lib.hid hk
  have h1 : (0 : Int) ≤ n := by omega
  have h2 : (n : Int) ≤ 2305843009213693951 := by omega
  have h3 : 2 * (n : Int) + 1 = (k : Int) := by omega
  have h4 : (k : Int) < (L.length : Int) := by omega
  have h4' : decide ((L.length : Int) ≤ (k : Int)) = false := decide_eq_false (by omega)
  have h5 : (0 : Int) ≤ (k : Int) := by omega
  have h6 : (k : Int) ≤ 4611686018427387904 := by omega
  have HM := Lib.hid hm
  clear hn hm hk
  by_cases hs : k + 1 < L.length
  · have HS := Lib.hid hs
    clear hs
    have HR := Lib.hid hr
    clear hr
    go_enter Try.func85, Try.ntmps85
    go_upto_region 4 with fail
    have q1 : IntKind.i64.wrap ((k : Int) + 1) = (k : Int) + 1 := IntWalk.i64_in _ (by omega)
    have q2 : ((k : Int) + 1).toNat = k + 1 := by omega
    have q3 : (k : Int) + 1 < (L.length : Int) := by have := HS.out; omega
    have q4 : (0 : Int) ≤ (k : Int) + 1 := by omega
    have hRD : RowE w.drew g c L := HR.out.drew
    have cq : w.drew.cell? ⟨hb, 0, none⟩ = some (.slice (some ⟨g, 0, none⟩) L.length c) := hc
    have hKD : Keep (fun b => w.heap.size ≤ b) w w.drew := (Keep.refl _ w).drew
    have x0 := hRD.cell k 0 (by omega) (by omega)
    have x1 := hRD.cell k 1 (by omega) (by omega)
    have x2 := hRD.cell k 2 (by omega) (by omega)
    have x3 := hRD.cell k 3 (by omega) (by omega)
    have y0 := hRD.cell (k + 1) 0 HS.out (by omega)
    have y1 := hRD.cell (k + 1) 1 HS.out (by omega)
    have y2 := hRD.cell (k + 1) 2 HS.out (by omega)
    have y3 := hRD.cell (k + 1) 3 HS.out (by omega)
    rw [← gE_eq L k (by omega)] at x0 x1 x2 x3
    rw [← gE_eq L (k + 1) HS.out] at y0 y1 y2 y3
    simp only [En.cells, List.getElem?_cons_zero, List.getElem?_cons_succ, Nat.add_zero] at x0 x1 x2 x3 y0 y1 y2 y3
    have HR2 := Lib.hid hRD
    have HK2 := Lib.hid hKD
    clear hRD hKD
    refine wp_region_still_tail 24 (by kernel_rfl) (by kernel_rfl) ?_
    simp only [List.take_succ_cons, List.take_zero, List.drop_succ_cons, List.drop_zero]
    change wpStill _ _ w.drew (fun a' => wpList _ _ _ _ a' w.drew) _ _
    clear hc
    generalize w.drew = wd at cq x0 x1 x2 x3 y0 y1 y2 y3 HR2 HK2 ⊢
    still_step
    still_step
    still_step
    still_step
    still_step
    still_step
    still_step
    still_step
    still_step
    still_step
    still_step
    still_step
    still_step
    still_step
    still_step
    still_step
    still_step
    still_step
    still_step
    still_step
    still_step
    still_step
    still_step
    still_step
    refine wpStill_nil ?_
    go_wp2_with fail
    refine (heap_less (gE L (k + 1)).k (gE L k).k (gE L (k + 1)).s (gE L (k + 1)).r (gE L k).s (gE L k).r (.slice (gE L (k + 1)).A (gE L (k + 1)).n (gE L (k + 1)).c) (.slice (gE L k).A (gE L k).n (gE L k).c) wd).mono ?_
    rintro e w2 ⟨rfl, K2⟩
    have hK3 := HK2.out.trans' K2 (fun j hj h => by have := HK2.out.size; omega)
    have HK3 := Lib.hid hK3
    clear cq x0 x1 x2 x3 y0 y1 y2 y3 K2 HK2 hK3 q1 q2 HR2
    cases hlt : ltE (gE L (k + 1)).k (gE L (k + 1)).s (gE L (k + 1)).r (gE L k).k (gE L k).s (gE L k).r
    · have hkd : kidE L n = k := by
        have := HK.out
        unfold kidE ltN
        rw [if_neg]
        · exact this.symm
        · rintro ⟨_, h⟩
          rw [show 2 * n + 2 = k + 1 by omega, show 2 * n + 1 = k by omega, hlt] at h
          cases h
      have HKD := Lib.hid hkd
      clear hkd
      go_wp2
      go_ret2
      exact ⟨by rw [HKD.out]; rfl, HK3.out⟩
    · have hkd : kidE L n = k + 1 := by
        have := HK.out
        unfold kidE ltN
        rw [if_pos]
        · omega
        · have := HS.out
          refine ⟨by omega, ?_⟩
          rw [show 2 * n + 2 = k + 1 by omega, show 2 * n + 1 = k by omega, hlt]
      have HKD := Lib.hid hkd
      clear hkd
      go_wp2
      go_ret2
      exact ⟨by rw [HKD.out]; rfl, HK3.out⟩
  · have hs' : decide ((k : Int) + 1 < (L.length : Int)) = false := decide_eq_false (by omega)
    have hkd : kidE L n = k := by
      have := HK.out
      unfold kidE
      rw [if_neg]
      · exact this.symm
      · rintro ⟨h, _⟩; omega
    rw [hkd]
    clear hkd hs hr
    go_enter Try.func85, Try.ntmps85
    go_upto_region 4 with fail
    have q1 : IntKind.i64.wrap ((k : Int) + 1) = (k : Int) + 1 := IntWalk.i64_in _ (by omega)
    go_quiet (fail)
    go_wp2
    go_ret2
    exact ⟨rfl, (Keep.refl _ w).drewN _⟩
end Go.Proofs.Ytkglkpcpgdeneaa
namespace Go.Proofs.Ytkglkpcpgdeneaa
open Go.RowKit
variable {cu pk : Value}

theorem kidE_ge (L : List En) (n : Nat) : 2 * n + 1 ≤ kidE L n := by unfold kidE; split <;> omega
theorem kidE_lt (L : List En) (n : Nat) (h : 2 * n + 1 < L.length) : kidE L n < L.length := by unfold kidE; split <;> omega
/-- The way down. -/
def downE (n : Nat) (L : List En) : List En :=
  if _h : 2 * n + 1 < L.length then (if ltN (gE L (kidE L n)) (gE L n) then downE (kidE L n) (swapE L n (kidE L n)) else L) else L
termination_by L.length - n
decreasing_by
  have := kidE_ge L n
  rw [swapE_len]
  omega
theorem downE_last (n : Nat) (L : List En) (h : L.length ≤ 2 * n + 1) : downE n L = L := by
  rw [downE, dif_neg (by omega)]
theorem downE_end (n : Nat) (L : List En) (h : ltN (gE L (kidE L n)) (gE L n) = false) : downE n L = L := by
  rw [downE]; split
  · rw [h]; rfl
  · rfl
theorem downE_go (n : Nat) (L : List En) (h : 2 * n + 1 < L.length) (hl : ltN (gE L (kidE L n)) (gE L n) = true) : downE n L = downE (kidE L n) (swapE L n (kidE L n)) := by
  conv => lhs; rw [downE]
  rw [dif_pos h, if_pos hl]
theorem downE_len : ∀ (f n : Nat) (L : List En), L.length ≤ f + n → (downE n L).length = L.length
  | 0, n, L, h => by rw [downE_last n L (by omega)]
  | f + 1, n, L, h => by
    by_cases h1 : 2 * n + 1 < L.length
    · cases hl : ltN (gE L (kidE L n)) (gE L n)
      · rw [downE_end n L hl]
      · have := kidE_ge L n
        rw [downE_go n L h1 hl, downE_len f _ _ (by rw [swapE_len]; omega), swapE_len]
    · rw [downE_last n L (by omega)]
def popE (L : List En) : List En := downE 0 ((swapE L 0 (L.length - 1)).take (L.length - 1))
theorem popE_len (L : List En) : (popE L).length = L.length - 1 := by
  rw [popE, downE_len _ 0 _ (Nat.le_refl _), List.length_take, swapE_len]; omega

theorem RowE.take {w : World} {g cap : Nat} {L : List En} (h : RowE w g cap L) (m : Nat) : RowE w g cap (L.take m) := by
  obtain ⟨rest, hb, hl, h3, h4⟩ := h
  have e : flatE L ++ rest = flatE (L.take m) ++ (flatE (L.drop m) ++ rest) := by
    rw [← List.append_assoc, ← flatE_append, List.take_append_drop]
  exact ⟨flatE (L.drop m) ++ rest, by rw [← e]; exact hb, by rw [← e]; exact hl, by rw [List.length_take]; omega, h4⟩

theorem put_entry {w : World} {b : Nat} {e0 : En} (h : Blk w b 128 e0.cells) (e : En) : Blk ((((w.setCell ⟨b, 0, none⟩ (.string e.k)).setCell ⟨b, 1, none⟩ (.int .i64 e.s)).setCell ⟨b, 2, none⟩ (.slice e.A e.n e.c)).setCell ⟨b, 3, none⟩ (.int .i64 e.r)) b 128 e.cells ∧
    Keep (fun k => k = b) w ((((w.setCell ⟨b, 0, none⟩ (.string e.k)).setCell ⟨b, 1, none⟩ (.int .i64 e.s)).setCell ⟨b, 2, none⟩ (.slice e.A e.n e.c)).setCell ⟨b, 3, none⟩ (.int .i64 e.r)) :=
  ⟨(((h.set 0 (.string e.k)).set 1 (.int .i64 e.s)).set 2 (.slice e.A e.n e.c)).set 3 (.int .i64 e.r), put_keep w b 0 _ _ _ _⟩
set_option maxRecDepth 100000 in
set_option maxHeartbeats 1000000 in
theorem pop_nil (w : World) : Calls Try.prog 77 #[.pointer none] w fun e w' => e = .returned (.tuple #[valE z0, .bool false]) ∧ Keep (fun b => w.heap.size ≤ b) w w' := by
  go_enter Try.func77, Try.ntmps77
  go_wp2_with fail
  generalize hW : w.alloc (Obj.cells #[Value.string ⟨#[]⟩, Value.int IntKind.i64 0, Value.slice none 0 0, Value.int IntKind.i64 0] 128) = W
  have B0 : Blk W w.heap.size 128 z0.cells := by rw [← hW]; exact Blk.new w _ _
  have KW : Keep (fun b => w.heap.size ≤ b) w W := by rw [← hW]; exact (Keep.refl _ w).alloc _
  refine (least_nil W).mono ?_
  rintro e w1 ⟨rfl, K1⟩
  simp only [valE, z0]
  have hBR : ∀ o, Blk (w1.alloc o) w.heap.size 128 z0.cells := fun o => (B0.keep K1 (by have := B0.lt; omega)).alloc o
  have hKR : Keep (fun b => w.heap.size ≤ b) w w1 := KW.trans' K1 (fun j hj h => by have := KW.size; omega)
  have HBR := Lib.hid hBR
  have HKR := Lib.hid hKR
  have c0 := (hBR (Obj.cells #[Value.string ⟨#[]⟩, Value.int IntKind.i64 0, Value.slice none 0 0, Value.int IntKind.i64 0] 128)).cell 0
  have c1 := (hBR (Obj.cells #[Value.string ⟨#[]⟩, Value.int IntKind.i64 0, Value.slice none 0 0, Value.int IntKind.i64 0] 128)).cell 1
  have c2 := (hBR (Obj.cells #[Value.string ⟨#[]⟩, Value.int IntKind.i64 0, Value.slice none 0 0, Value.int IntKind.i64 0] 128)).cell 2
  have c3 := (hBR (Obj.cells #[Value.string ⟨#[]⟩, Value.int IntKind.i64 0, Value.slice none 0 0, Value.int IntKind.i64 0] 128)).cell 3
  have f0 := (hBR (Obj.cells #[Value.string ⟨#[]⟩, Value.int IntKind.i64 0, Value.slice none 0 0, Value.int IntKind.i64 0] 128)).free 0
  have f1 := (hBR (Obj.cells #[Value.string ⟨#[]⟩, Value.int IntKind.i64 0, Value.slice none 0 0, Value.int IntKind.i64 0] 128)).free 1
  have f2 := (hBR (Obj.cells #[Value.string ⟨#[]⟩, Value.int IntKind.i64 0, Value.slice none 0 0, Value.int IntKind.i64 0] 128)).free 2
  have f3 := (hBR (Obj.cells #[Value.string ⟨#[]⟩, Value.int IntKind.i64 0, Value.slice none 0 0, Value.int IntKind.i64 0] 128)).free 3
  simp only [En.cells, z0, List.getElem?_cons_zero, List.getElem?_cons_succ] at c0 c1 c2 c3
  clear hBR hKR K1 KW B0 hW
  go_wp2
  exact bodyPost_ret (results_entry rfl _ _ z0 _ rfl (put_entry (HBR.out _) z0).1) rfl ⟨rfl, (HKR.out.alloc _).trans' (put_entry (HBR.out _) z0).2 (fun j hj e => by omega)⟩
set_option maxRecDepth 100000 in
set_option maxHeartbeats 1000000 in
theorem pop_none (hb : Nat) (A : Option Addr) (c : Nat) (w : World) (hc : w.cell? ⟨hb, 0, none⟩ = some (.slice A 0 c)) : Calls Try.prog 77 #[.pointer (some ⟨hb, 0, none⟩)] w fun e w' => e = .returned (.tuple #[valE z0, .bool false]) ∧ Keep (fun b => w.heap.size ≤ b) w w' := by
  have hlt := block_lt hc
  go_enter Try.func77, Try.ntmps77
  go_wp2_with fail
  generalize hW : w.alloc (Obj.cells #[Value.string ⟨#[]⟩, Value.int IntKind.i64 0, Value.slice none 0 0, Value.int IntKind.i64 0] 128) = W
  have B0 : Blk W w.heap.size 128 z0.cells := by rw [← hW]; exact Blk.new w _ _
  have KW : Keep (fun b => w.heap.size ≤ b) w W := by rw [← hW]; exact (Keep.refl _ w).alloc _
  refine (least_none hb A c W (by rw [← hW, ← hc]; exact World.cell?_alloc_lt w _ _ hlt)).mono ?_
  rintro e w1 ⟨rfl, K1⟩
  simp only [valE, z0]
  have hBR : ∀ o, Blk (w1.alloc o) w.heap.size 128 z0.cells := fun o => (B0.keep K1 (by have := B0.lt; omega)).alloc o
  have hKR : Keep (fun b => w.heap.size ≤ b) w w1 := KW.trans' K1 (fun j hj h => by have := KW.size; omega)
  have HBR := Lib.hid hBR
  have HKR := Lib.hid hKR
  have c0 := (hBR (Obj.cells #[Value.string ⟨#[]⟩, Value.int IntKind.i64 0, Value.slice none 0 0, Value.int IntKind.i64 0] 128)).cell 0
  have c1 := (hBR (Obj.cells #[Value.string ⟨#[]⟩, Value.int IntKind.i64 0, Value.slice none 0 0, Value.int IntKind.i64 0] 128)).cell 1
  have c2 := (hBR (Obj.cells #[Value.string ⟨#[]⟩, Value.int IntKind.i64 0, Value.slice none 0 0, Value.int IntKind.i64 0] 128)).cell 2
  have c3 := (hBR (Obj.cells #[Value.string ⟨#[]⟩, Value.int IntKind.i64 0, Value.slice none 0 0, Value.int IntKind.i64 0] 128)).cell 3
  have f0 := (hBR (Obj.cells #[Value.string ⟨#[]⟩, Value.int IntKind.i64 0, Value.slice none 0 0, Value.int IntKind.i64 0] 128)).free 0
  have f1 := (hBR (Obj.cells #[Value.string ⟨#[]⟩, Value.int IntKind.i64 0, Value.slice none 0 0, Value.int IntKind.i64 0] 128)).free 1
  have f2 := (hBR (Obj.cells #[Value.string ⟨#[]⟩, Value.int IntKind.i64 0, Value.slice none 0 0, Value.int IntKind.i64 0] 128)).free 2
  have f3 := (hBR (Obj.cells #[Value.string ⟨#[]⟩, Value.int IntKind.i64 0, Value.slice none 0 0, Value.int IntKind.i64 0] 128)).free 3
  simp only [En.cells, z0, List.getElem?_cons_zero, List.getElem?_cons_succ] at c0 c1 c2 c3
  clear hBR hKR K1 KW B0 hW
  go_wp2
  exact bodyPost_ret (results_entry rfl _ _ z0 _ rfl (put_entry (HBR.out _) z0).1) rfl ⟨rfl, (HKR.out.alloc _).trans' (put_entry (HBR.out _) z0).2 (fun j hj e => by omega)⟩

/-- What Pop leaves. -/
def PopPost (F : Nat → Prop) (hb : Nat) (cu pk : Value) (L : List En) (w : World) (e : Ending) (w' : World) : Prop := e = .returned (.tuple #[valE (gE L 0), .bool true]) ∧ HeapAt w' F hb cu pk (popE L) ∧ Keep (fun k => F k ∨ w.heap.size ≤ k) w w'
set_option maxRecDepth 100000 in
set_option maxHeartbeats 4000000 in
theorem pop_some (F : Nat → Prop) (hb : Nat) (L : List En) (w : World) (hh : HeapAt w F hb cu pk L) (hl : 0 < L.length) (hL : L.length < 1000000) :
    Calls Try.prog 77 #[.pointer (some ⟨hb, 0, none⟩)] w (PopPost F hb cu pk L w) := by
  obtain ⟨hF, v, hB, hv⟩ := hh
  obtain ⟨g, c, rfl, hg, hr⟩ : ∃ g c, v = .slice (some ⟨g, 0, none⟩) L.length c ∧ F g ∧ RowE w g c L := by
    rcases hv with ⟨rfl, rfl⟩ | ⟨g, c, h⟩
    · exact absurd hl (by simp)
    · exact ⟨g, c, h⟩
  clear hv
  obtain ⟨m, hm⟩ : ∃ m, L.length = m + 1 := ⟨L.length - 1, by omega⟩
  go_enter Try.func77, Try.ntmps77
  go_wp2_with fail
  generalize hW : w.alloc (Obj.cells #[Value.string ⟨#[]⟩, Value.int IntKind.i64 0, Value.slice none 0 0, Value.int IntKind.i64 0] 128) = W
  have B0 : Blk W w.heap.size 128 z0.cells := by rw [← hW]; exact Blk.new w _ _
  have KW : Keep (fun k => F k ∨ w.heap.size ≤ k) w W := by rw [← hW]; exact (Keep.refl _ w).alloc _
  have hBW : Blk W hb 114 [.slice (some ⟨g, 0, none⟩) L.length c, cu, pk] := by rw [← hW]; exact hB.alloc _
  have hRW : RowE W g c L := hr.keep (F := fun k => w.heap.size ≤ k) (by rw [← hW]; exact (Keep.refl _ w).alloc _) (by have := hr.lt; omega)
  have hgl := hr.lt
  have hbl := hB.lt
  clear hW hr hB
  refine (least_some hb g c L W (hBW.cell 0) hRW hl).mono ?_
  rintro e w1 ⟨rfl, K1⟩
  simp only [valE]
  generalize hE : gE L 0 = E
  have HE := Lib.hid hE
  clear hE
  have hWs := KW.size
  have hr1c := hRW
  have B1 := B0.keep K1 (by have := B0.lt; omega)
  have hB1 := hBW.keep K1 (by have := hBW.lt; omega)
  have hR1 := hRW.keep K1 (by have := hRW.lt; omega)
  have K2 := KW.trans' K1 (fun j hj h => .inr (by omega))
  clear K1 KW B0 hBW hRW
  have hcap : m ≤ c := by obtain ⟨_, _, _, h3, _⟩ := hr1c; omega
  clear hr1c
  have cq := (hB1.alloc (Obj.cells #[Value.string E.k, Value.int IntKind.i64 E.s, Value.slice E.A E.n E.c, Value.int IntKind.i64 E.r] 128)).cell 0
  rw [hm] at cq
  simp only [List.getElem?_cons_zero] at cq
  have hcI : (m : Int) ≤ c := by omega
  have hm0 : (0 : Int) ≤ m := by omega
  have hE2 : Blk (w1.alloc (Obj.cells #[Value.string E.k, Value.int IntKind.i64 E.s, Value.slice E.A E.n E.c, Value.int IntKind.i64 E.r] 128)) w1.heap.size 128 E.cells := Blk.new w1 _ _
  have HR1 := Lib.hid (hR1.keep (w' := w1.alloc (Obj.cells #[Value.string E.k, Value.int IntKind.i64 E.s, Value.slice E.A E.n E.c, Value.int IntKind.i64 E.r] 128)) ((Keep.refl (fun _ => False) w1).alloc _) (fun h => h))
  have HB1 := Lib.hid (hB1.alloc (Obj.cells #[Value.string E.k, Value.int IntKind.i64 E.s, Value.slice E.A E.n E.c, Value.int IntKind.i64 E.r] 128))
  have HBR := Lib.hid (B1.alloc (Obj.cells #[Value.string E.k, Value.int IntKind.i64 E.s, Value.slice E.A E.n E.c, Value.int IntKind.i64 E.r] 128))
  have HK2 := Lib.hid (K2.alloc (Obj.cells #[Value.string E.k, Value.int IntKind.i64 E.s, Value.slice E.A E.n E.c, Value.int IntKind.i64 E.r] 128))
  have HBE := Lib.hid hE2
  have hxb : w.heap.size < w1.heap.size := by have := K2.size; have := B1.lt; omega
  clear hR1 hB1 B1 K2 hE2 hWs
  go_wp2_with fail
  generalize w1.alloc (Obj.cells #[Value.string E.k, Value.int IntKind.i64 E.s, Value.slice E.A E.n E.c, Value.int IntKind.i64 E.r] 128) = w2 at cq HR1 HB1 HBR HK2 HBE ⊢
  generalize hxbe : w1.heap.size = xb at hxb HBE ⊢
  clear hxbe
  clear hcap
  refine (heap_swap hb g c 0 m L w2 (by rw [hm]; exact cq) HR1.out hl (by omega)).mono ?_
  rintro e w3 ⟨rfl, hR3, hK3⟩
  rw [swapE_eq] at hR3
  have hgh : g ≠ hb := row_ne HR1.out HB1.out
  have HR3 := Lib.hid (hR3.take m)
  have hB3 := HB1.out.keep hK3 (fun e => hgh e.symm)
  have HBR3 := Lib.hid (HBR.out.keep hK3 (by omega))
  have HBE3 := Lib.hid (HBE.out.keep hK3 (by omega))
  have HK3 := Lib.hid (HK2.out.trans' hK3 (fun j hj e => .inl (by rw [e]; exact hg)))
  have cq3 := hB3.cell 0
  have fq3 := hB3.free 0
  rw [hm] at cq3
  simp only [List.getElem?_cons_zero] at cq3
  have HB3 := Lib.hid hB3
  clear cq hR3 hK3 hB3 HR1 HB1 HBR HK2 HBE
  go_wp2_with fail
  have hM0 : ((swapE L 0 m).take m).length = m := by rw [List.length_take, swapE_len]; omega
  have hsb : ∀ v, Keep (fun k => k = hb) w3 (w3.setCell ⟨hb, 0, none⟩ v) := fun v => (Keep.refl (fun k => k = hb) w3).setCell (p := ⟨hb, 0, none⟩) (.inl rfl) v
  have HF : Hid (∀ wx, Blk wx hb 114 [.slice (some ⟨g, 0, none⟩) m c, cu, pk] → RowE wx g c (popE L) → Keep (fun k => F k ∨ w.heap.size ≤ k) w wx → PopPost F hb cu pk L w (.returned (.tuple #[valE E, .bool true])) wx) := Lib.hid (by
    intro wx h1 h2 h3
    exact ⟨by rw [HE.out], ⟨hF, _, h1, .inr ⟨g, c, by rw [popE_len, hm]; rfl, hg, h2⟩⟩, h3⟩)
  go_loopw [7] (fun v7 wr => ∃ (i : Nat) (M : List En), i ≤ m ∧ v7 = .int .i64 i ∧ Hid (M.length = m) ∧ Hid (downE i M = popE L) ∧ Hid (Blk wr hb 114 [.slice (some ⟨g, 0, none⟩) m c, cu, pk]) ∧ Hid (RowE wr g c M) ∧ Hid (Blk wr w.heap.size 128 z0.cells) ∧ Hid (Blk wr xb 128 E.cells) ∧ Hid (Keep (fun k => F k ∨ w.heap.size ≤ k) w wr)) (fun v7 _ => m - (intOf v7).toNat)
  case atStart =>
    refine ⟨0, (swapE L 0 m).take m, by omega, rfl, Lib.hid hM0, Lib.hid (by rw [popE, hm]; rfl), Lib.hid (HB3.out.set 0 _), Lib.hid (HR3.out.keep (hsb _) hgh), Lib.hid (HBR3.out.keep (hsb _) (by omega)), Lib.hid (HBE3.out.keep (hsb _) (by omega)), Lib.hid (HK3.out.trans' (hsb _) (fun j hj e => .inl (by rw [e]; exact hF)))⟩
  case round =>
    obtain ⟨i, M, hi, rfl, HML, HD, HB, HR, HBR, HBE, HK⟩ := hrel
    have HLL := Lib.hid hL
    have HM := Lib.hid hm
    have HI := Lib.hid hi
    clear hL hm hM0 hsb cq3 fq3
    have cqr := HB.out.cell 0
    simp only [List.getElem?_cons_zero] at cqr
    have hsz := HK.out.size
    by_cases hkid : 2 * i + 1 < m
    · obtain ⟨k, hk⟩ : ∃ k, k = kidE M i := ⟨_, rfl⟩
      have hki : 2 * i + 1 ≤ k := by rw [hk]; exact kidE_ge M i
      have hkm : k < m := by rw [hk, ← HML.out]; exact kidE_lt M i (by rw [HML.out]; exact hkid)
      have HKI := Lib.hid hk
      clear hk
      go_wp2_with (refine (child_yes hb g c i M _ (by rw [HML.out]; exact cqr) HR.out (by have := HLL.out; have := HM.out; have := HI.out; omega) (by rw [HML.out]; exact hkid)).mono ?_; rw [← HKI.out]; rintro e w4 ⟨rfl, K4⟩; have HK4 := Lib.hid K4; clear K4)
      clear cqr
      have hRD : RowE w4.drew g c M := (show RowE w4 g c M from HR.out.keep HK4.out (by have := HR.out.lt; omega)).drew
      have hBD : Blk w4.drew hb 114 [.slice (some ⟨g, 0, none⟩) m c, cu, pk] := (show Blk w4 hb 114 [.slice (some ⟨g, 0, none⟩) m c, cu, pk] from HB.out.keep HK4.out (by have := HB.out.lt; omega))
      have HBRn : Hid (Blk w4.drew w.heap.size 128 z0.cells) := Lib.hid (show Blk w4 w.heap.size 128 z0.cells from HBR.out.keep HK4.out (by have := HBR.out.lt; omega))
      have HBEn : Hid (Blk w4.drew xb 128 E.cells) := Lib.hid (show Blk w4 xb 128 E.cells from HBE.out.keep HK4.out (by have := HBE.out.lt; omega))
      have HKn : Hid (Keep (fun k => F k ∨ w.heap.size ≤ k) w w4.drew) := Lib.hid (HK.out.trans' HK4.out (fun j hj h => .inr (by omega))).drew
      have hMk : k < M.length := by rw [HML.out]; exact hkm
      have hMi : i < M.length := by omega
      have cq := hBD.cell 0
      have x0 := hRD.cell k 0 hMk (by omega)
      have x1 := hRD.cell k 1 hMk (by omega)
      have x2 := hRD.cell k 2 hMk (by omega)
      have x3 := hRD.cell k 3 hMk (by omega)
      have y0 := hRD.cell i 0 hMi (by omega)
      have y1 := hRD.cell i 1 hMi (by omega)
      have y2 := hRD.cell i 2 hMi (by omega)
      have y3 := hRD.cell i 3 hMi (by omega)
      rw [← gE_eq M k hMk] at x0 x1 x2 x3
      rw [← gE_eq M i hMi] at y0 y1 y2 y3
      simp only [En.cells, List.getElem?_cons_zero, List.getElem?_cons_succ, Nat.add_zero] at cq x0 x1 x2 x3 y0 y1 y2 y3
      have q1 : (0 : Int) ≤ i := by omega
      have q2 : (i : Int) < (m : Int) := by omega
      have q3 : (0 : Int) ≤ k := by omega
      have q4 : (k : Int) < (m : Int) := by omega
      have HRD := Lib.hid hRD
      have HBD := Lib.hid hBD
      clear hRD hBD HK4 HB HR HBR HBE HK
      refine wp_region_still_tail 17 (by kernel_rfl) (by kernel_rfl) ?_
      simp only [List.take_succ_cons, List.take_zero, List.drop_succ_cons, List.drop_zero]
      change wpStill _ _ w4.drew (fun a' => wpList _ _ _ _ a' w4.drew) _ _
      generalize w4.drew = w5 at cq x0 x1 x2 x3 y0 y1 y2 y3 HRD HBD HBRn HBEn HKn ⊢
      still_step
      still_step
      still_step
      still_step
      still_step
      still_step
      still_step
      still_step
      still_step
      still_step
      still_step
      still_step
      still_step
      still_step
      still_step
      still_step
      still_step
      refine wpStill_nil ?_
      go_wp2_with fail
      refine (heap_less (gE M k).k (gE M i).k (gE M k).s (gE M k).r (gE M i).s (gE M i).r (.slice (gE M k).A (gE M k).n (gE M k).c) (.slice (gE M i).A (gE M i).n (gE M i).c) w5).mono ?_
      rintro e w6 ⟨rfl, K6⟩
      have HR6 := Lib.hid (HRD.out.keep K6 (by have := HRD.out.lt; omega))
      have HB6 := Lib.hid (HBD.out.keep K6 (by have := HBD.out.lt; omega))
      have HBR6 := Lib.hid (HBRn.out.keep K6 (by have := HBRn.out.lt; omega))
      have HBE6 := Lib.hid (HBEn.out.keep K6 (by have := HBEn.out.lt; omega))
      have HK6 := Lib.hid (HKn.out.trans' K6 (fun j hj h => .inr (by have := HKn.out.size; omega)))
      clear cq x0 x1 x2 x3 y0 y1 y2 y3 K6 HRD HBD HBRn HBEn HKn
      cases hlt : ltE (gE M k).k (gE M k).s (gE M k).r (gE M i).k (gE M i).s (gE M i).r
      · have HRn : Hid (RowE w6 g c (popE L)) := Lib.hid (by rw [← HD.out, downE_end i M (by rw [← HKI.out]; exact hlt)]; exact HR6.out)
        have HBn := HB6
        have HBRn := HBR6
        have HBEn := HBE6
        have HKn := HK6
        have x0 := HBEn.out.cell 0
        have x1 := HBEn.out.cell 1
        have x2 := HBEn.out.cell 2
        have x3 := HBEn.out.cell 3
        have r0 := HBRn.out.cell 0
        have r1 := HBRn.out.cell 1
        have r2 := HBRn.out.cell 2
        have r3 := HBRn.out.cell 3
        have f0 := HBRn.out.free 0
        have f1 := HBRn.out.free 1
        have f2 := HBRn.out.free 2
        have f3 := HBRn.out.free 3
        simp only [En.cells, z0, List.getElem?_cons_zero, List.getElem?_cons_succ] at x0 x1 x2 x3 r0 r1 r2 r3
        go_wp2
        refine bodyPost_ret (results_entry rfl _ _ E _ rfl (put_entry HBRn.out E).1) rfl ?_
        exact HF.out _ (HBn.out.keep (put_entry HBRn.out E).2 (fun e => by have e2 : hb = w.heap.size := e; omega)) (HRn.out.keep (put_entry HBRn.out E).2 (fun e => by have e2 : g = w.heap.size := e; omega)) (HKn.out.trans' (put_entry HBRn.out E).2 (fun j hj e => .inr (by have e2 : j = w.heap.size := e; omega)))
      · have HD2 : Hid (downE k (swapE M i k) = popE L) := Lib.hid (by rw [← HD.out, HKI.out, ← downE_go i M (by rw [HML.out]; exact hkid) (by rw [← HKI.out]; exact hlt)])
        have cq := HB6.out.cell 0
        simp only [List.getElem?_cons_zero] at cq
        go_wp2_with (go_at_call 84; refine (heap_swap hb g c i k M _ (by rw [HML.out]; exact cq) HR6.out hMi hMk).mono ?_; rintro e w7 ⟨rfl, hR7, hK7⟩; rw [swapE_eq] at hR7; have HR7 := Lib.hid hR7; have HK7 := Lib.hid hK7; clear hR7 hK7 cq)
        go_roundw
        case rel => exact ⟨k, swapE M i k, by omega, rfl, Lib.hid (by rw [swapE_len]; exact HML.out), Lib.hid HD2.out, Lib.hid (HB6.out.keep HK7.out (fun e => hgh e.symm)), Lib.hid HR7.out, Lib.hid (HBR6.out.keep HK7.out (fun e => by have e2 : w.heap.size = g := e; omega)), Lib.hid (HBE6.out.keep HK7.out (fun e => by have e2 : xb = g := e; omega)), Lib.hid (HK6.out.trans' HK7.out (fun j hj e => .inl (by have e2 : j = g := e; rw [e2]; exact hg)))⟩
        case measure => simp [intOf]; omega
    · go_wp2_with (refine (child_no hb _ m c i _ cqr (by have := HLL.out; have := HM.out; have := HI.out; omega) (by omega)).mono ?_; rintro e w4 ⟨rfl, K4⟩; have HK4 := Lib.hid K4; clear K4)
      go_quiet (fail)
      have hD : RowE (w4.drewN nq) g c M := (show RowE w4 g c M from HR.out.keep HK4.out (by have := HR.out.lt; omega))
      have HRn : Hid (RowE (w4.drewN nq) g c (popE L)) := Lib.hid (by rw [← HD.out, downE_last i M (by rw [HML.out]; omega)]; exact hD)
      have HBn : Hid (Blk (w4.drewN nq) hb 114 [.slice (some ⟨g, 0, none⟩) m c, cu, pk]) := Lib.hid (show Blk w4 hb 114 [.slice (some ⟨g, 0, none⟩) m c, cu, pk] from HB.out.keep HK4.out (by have := HB.out.lt; omega))
      have HBRn : Hid (Blk (w4.drewN nq) w.heap.size 128 z0.cells) := Lib.hid (show Blk w4 w.heap.size 128 z0.cells from HBR.out.keep HK4.out (by have := HBR.out.lt; omega))
      have HBEn : Hid (Blk (w4.drewN nq) xb 128 E.cells) := Lib.hid (show Blk w4 xb 128 E.cells from HBE.out.keep HK4.out (by have := HBE.out.lt; omega))
      have HKn : Hid (Keep (fun k => F k ∨ w.heap.size ≤ k) w (w4.drewN nq)) := Lib.hid ((HK.out.trans' HK4.out (fun j hj h => .inr (by omega))).drewN nq)
      clear hD
      generalize w4.drewN nq = wn at HRn HBn HBRn HBEn HKn ⊢
      have x0 := HBEn.out.cell 0
      have x1 := HBEn.out.cell 1
      have x2 := HBEn.out.cell 2
      have x3 := HBEn.out.cell 3
      have r0 := HBRn.out.cell 0
      have r1 := HBRn.out.cell 1
      have r2 := HBRn.out.cell 2
      have r3 := HBRn.out.cell 3
      have f0 := HBRn.out.free 0
      have f1 := HBRn.out.free 1
      have f2 := HBRn.out.free 2
      have f3 := HBRn.out.free 3
      simp only [En.cells, z0, List.getElem?_cons_zero, List.getElem?_cons_succ] at x0 x1 x2 x3 r0 r1 r2 r3
      go_wp2
      refine bodyPost_ret (results_entry rfl _ _ E _ rfl (put_entry HBRn.out E).1) rfl ?_
      exact HF.out _ (HBn.out.keep (put_entry HBRn.out E).2 (fun e => by have e2 : hb = w.heap.size := e; omega)) (HRn.out.keep (put_entry HBRn.out E).2 (fun e => by have e2 : g = w.heap.size := e; omega)) (HKn.out.trans' (put_entry HBRn.out E).2 (fun j hj e => .inr (by have e2 : j = w.heap.size := e; omega)))

end Go.Proofs.Ytkglkpcpgdeneaa
namespace Go.Proofs.Ytkglkpcpgdeneaa
open Go.RowKit
variable {cu pk : Value}
def heapP (hb : Nat) (cu pk : Value) (L : List En) : Part where
  at_ w F := HeapAt w F hb cu pk L ∧ ∀ k, F k → k < w.heap.size
  keep h k hd := ⟨h.1.keep k hd, fun j hj => Nat.lt_of_lt_of_le (h.2 j hj) k.size⟩
  lt h := h.2
section
variable {w0 w w' : World} {l : List Part} {hb : Nat} {L : List En}
theorem St.heap_new (h : St w0 w l) : St w0 (w.alloc (Obj.cells #[.slice none 0 0, cu, pk] 114)) (heapP w.heap.size cu pk [] :: l) :=
  h.new (q := heapP w.heap.size cu pk []) (F := fun k => k = w.heap.size) ((Keep.refl _ w).alloc _) ⟨⟨rfl, _, Blk.new w _ _, .inl ⟨rfl, rfl⟩⟩, fun j hj => by have e : j = _ := hj; subst e; simp⟩ (fun j hj => by have e : j = _ := hj; omega)
theorem St.heap_push (h : St w0 w (heapP hb cu pk L :: l)) (x : En) (hl : L.length < 1000000) :
    Calls Try.prog 81 #[.pointer (some ⟨hb, 0, none⟩), .agg #[.string x.k, .int .i64 x.s, .slice x.A x.n x.c, .int .i64 x.r]] w fun e w' => e = .returned (.tuple #[]) ∧ St w0 w' (heapP hb cu pk (pushE L x) :: l) := by
  obtain ⟨F, h1, h2, h3, _⟩ := h.open_
  refine (Go.Proofs.Ytkglkpcpgdeneaa.heap_push F hb L x w h1.1 hl).mono ?_
  rintro e w' ⟨he, hp, hk⟩
  exact ⟨he, h3 w' _ hk ⟨hp, fun j hj => by
    rcases hj with hj | hj
    · exact Nat.lt_of_lt_of_le (h2 j hj).2 hk.size
    · exact hj.2⟩⟩
theorem St.heap_pop (h : St w0 w (heapP hb cu pk L :: l)) (h0 : 0 < L.length) (hl : L.length < 1000000) :
    Calls Try.prog 77 #[.pointer (some ⟨hb, 0, none⟩)] w fun e w' => e = .returned (.tuple #[valE (gE L 0), .bool true]) ∧ St w0 w' (heapP hb cu pk (popE L) :: l) := by
  obtain ⟨F, h1, h2, h3, _⟩ := h.open_
  refine (pop_some F hb L w h1.1 h0 hl).mono ?_
  rintro e w' ⟨he, hp, hk⟩
  have hs := hk.size
  exact ⟨he, h3 w' _ (hk.mono (fun j hj hf => by rcases hf with hf | hf; exact hf; omega)) ⟨hp.mono (fun j _ hj => .inl hj), fun j hj => by
    rcases hj with hj | hj
    · exact Nat.lt_of_lt_of_le (h2 j hj).2 hs
    · exact hj.2⟩⟩
theorem St.heap_cell (h : St w0 w (heapP hb cu pk L :: l)) : ∃ A c, w.cell? ⟨hb, 0, none⟩ = some (.slice A L.length c) ∧ (0 < L.length → ∃ g, A = some ⟨g, 0, none⟩ ∧ RowE w g c L) := by
  obtain ⟨F, h1, _⟩ := h.open_
  obtain ⟨A, c, hB, hr⟩ := h1.1.head
  exact ⟨A, c, hB.cell 0, fun h0 => by obtain ⟨g, e, _, hr⟩ := hr h0; exact ⟨g, e, hr⟩⟩
theorem St.heap_pop_no (h : St w0 w (heapP hb cu pk L :: l)) (h0 : L.length = 0) :
    Calls Try.prog 77 #[.pointer (some ⟨hb, 0, none⟩)] w fun e w' => e = .returned (.tuple #[valE z0, .bool false]) ∧ St w0 w' (heapP hb cu pk L :: l) := by
  obtain ⟨A, c, hc, _⟩ := h.heap_cell
  rw [h0] at hc
  exact (pop_none hb A c w hc).mono fun e w' ⟨he, hk⟩ => ⟨he, h.later hk⟩
theorem St.heap_least (h : St w0 w (heapP hb cu pk L :: l)) (h0 : 0 < L.length) :
    Calls Try.prog 83 #[.pointer (some ⟨hb, 0, none⟩)] w fun e w' => e = .returned (.tuple #[valE (gE L 0), .bool true]) ∧ St w0 w' (heapP hb cu pk L :: l) := by
  obtain ⟨A, c, hc, hr⟩ := h.heap_cell
  obtain ⟨g, rfl, hr2⟩ := hr h0
  exact (least_some hb g c L w hc hr2 h0).mono fun e w' ⟨he, hk⟩ => ⟨he, h.later hk⟩
theorem St.heap_least_no (h : St w0 w (heapP hb cu pk L :: l)) (h0 : L.length = 0) :
    Calls Try.prog 83 #[.pointer (some ⟨hb, 0, none⟩)] w fun e w' => e = .returned (.tuple #[valE z0, .bool false]) ∧ St w0 w' (heapP hb cu pk L :: l) := by
  obtain ⟨A, c, hc, _⟩ := h.heap_cell
  rw [h0] at hc
  exact (least_none hb A c w hc).mono fun e w' ⟨he, hk⟩ => ⟨he, h.later hk⟩
theorem St.heap_len (h : St w0 w (heapP hb cu pk L :: l)) :
    Calls Try.prog 82 #[.pointer (some ⟨hb, 0, none⟩)] w fun e w' => e = .returned (.int .i64 L.length) ∧ w = w' := by
  obtain ⟨A, c, hc, _⟩ := h.heap_cell
  exact (len_any hb A L.length c w hc).mono fun e w' ⟨he, hk⟩ => ⟨he, hk.symm⟩
end
end Go.Proofs.Ytkglkpcpgdeneaa
