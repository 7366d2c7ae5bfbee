/- The plain law of rec.Get: the cursor's reading is the reference's. No program in sight. Conditions: none. -/
import Derived.Test.YtkglkpcpgdeneaaRecCur
namespace Go.Proofs.Ytkglkpcpgdeneaa

def getS' (l : List UInt8) : List UInt8 × Nat × List UInt8 × List UInt8 × Bool :=
  let a := numS l false 4 200
  let b := takeS a.2.1 a.2.2 a.1
  let c := numS b.2.1 b.2.2 8 4611686018427387904
  let d := numS c.2.1 c.2.2 4 1048576
  let e := takeS d.2.1 d.2.2 d.1
  (b.1, c.1, e.1, e.2.1, e.2.2)
/-- The item that bytes begin with: key, number, data, how many bytes. -/
def begS (l : List UInt8) : Option (List UInt8 × Nat × List UInt8 × Nat) :=
  if l.length < 16 then none else
  let k := numL (l.take 4)
  if k > 200 ∨ l.length < 16 + k then none else
  let seq := numL ((l.drop (4 + k)).take 8)
  if seq > 4611686018427387904 then none else
  let n := numL ((l.drop (12 + k)).take 4)
  if n > 1048576 ∨ n > l.length - 16 - k then none else
  some ((l.drop 4).take k, seq, (l.drop (16 + k)).take n, 16 + k + n)
theorem bad_take (r : List UInt8) (m : Nat) : takeS r true m = ([], r, true) := by simp [takeS]
theorem bad_num (r : List UInt8) (m x : Nat) : numS r true m x = (0, r, true) := by simp [numS]
theorem num_short {r : List UInt8} {m x : Nat} (h : r.length < m) : numS r false m x = (0, r, true) := by unfold numS; rw [if_pos (.inr h)]
theorem num_gt {r : List UInt8} {m x : Nat} (h : ¬ r.length < m) (h2 : numL (r.take m) > x) : numS r false m x = (0, r.drop m, true) := by unfold numS; rw [if_neg (by simp; omega), if_pos h2]
theorem num_ok {r : List UInt8} {m x : Nat} (h : ¬ r.length < m) (h2 : ¬ numL (r.take m) > x) : numS r false m x = (numL (r.take m), r.drop m, false) := by unfold numS; rw [if_neg (by simp; omega), if_neg h2]
theorem take_short {r : List UInt8} {m : Nat} (h : r.length < m) : takeS r false m = ([], r, true) := by unfold takeS; rw [if_pos (.inr h)]
theorem take_fine {r : List UInt8} {m : Nat} (h : ¬ r.length < m) : takeS r false m = (r.take m, r.drop m, false) := by unfold takeS; rw [if_neg (by simp; omega)]
def BegEq (l : List UInt8) : Prop := match begS l with
    | none => (getS' l).2.2.2.2 = true
    | some (k, s, d, t) => (getS' l).1 = k ∧ (getS' l).2.1 = s ∧ (getS' l).2.2.1 = d ∧ (getS' l).2.2.2.2 = false ∧ (getS' l).2.2.2.1.length + t = l.length ∧ t ≤ l.length
theorem BegEq.no {l : List UInt8} (h : begS l = none) (g : (getS' l).2.2.2.2 = true) : BegEq l := by unfold BegEq; rw [h]; exact g
/-- What the cursor reads is what bytes begin with. -/
theorem getS_beg (l : List UInt8) : BegEq l := by
  by_cases h1 : l.length < 4
  · refine .no (by unfold begS; rw [if_pos (by omega)]) ?_
    simp only [getS', num_short h1, bad_take, bad_num]
  obtain ⟨k, hk⟩ : ∃ k, k = numL (l.take 4) := ⟨_, rfl⟩
  by_cases h2 : k > 200
  · refine .no ?_ ?_
    · unfold begS
      simp only [← hk]
      split
      · rfl
      · rw [if_pos (.inl h2)]
    · simp only [getS', num_gt h1 (by rw [← hk]; exact h2), bad_take, bad_num]
  have e1 : numS l false 4 200 = (k, l.drop 4, false) := by rw [num_ok h1 (by rw [← hk]; exact h2), hk]
  by_cases h3 : (l.drop 4).length < k
  · refine .no ?_ ?_
    · unfold begS
      simp only [← hk]
      split
      · rfl
      · rw [if_pos (.inr (by rw [List.length_drop] at h3; omega))]
    · simp only [getS', e1, take_short h3, bad_take, bad_num]
  have e2 : takeS (l.drop 4) false k = ((l.drop 4).take k, l.drop (4 + k), false) := by rw [take_fine h3, List.drop_drop]
  by_cases h4 : (l.drop (4 + k)).length < 8
  · refine .no ?_ ?_
    · unfold begS
      simp only [← hk]
      split
      · rfl
      · rw [if_pos (.inr (by rw [List.length_drop] at h4; omega))]
    · simp only [getS', e1, e2, num_short h4, bad_take, bad_num]
  obtain ⟨sq, hsq⟩ : ∃ sq, sq = numL ((l.drop (4 + k)).take 8) := ⟨_, rfl⟩
  by_cases h5 : sq > 4611686018427387904
  · refine .no ?_ ?_
    · unfold begS
      simp only [← hk, ← hsq]
      split
      · rfl
      · split
        · rfl
        · first | rfl | rw [if_pos h5]
    · simp only [getS', e1, e2, num_gt h4 (by rw [← hsq]; exact h5), bad_take, bad_num]
  have e3 : numS (l.drop (4 + k)) false 8 4611686018427387904 = (sq, l.drop (12 + k), false) := by rw [num_ok h4 (by rw [← hsq]; exact h5), hsq, List.drop_drop, show 4 + k + 8 = 12 + k by omega]
  by_cases h6 : (l.drop (12 + k)).length < 4
  · refine .no ?_ ?_
    · unfold begS
      simp only [← hk]
      split
      · rfl
      · rw [if_pos (.inr (by rw [List.length_drop] at h6; omega))]
    · simp only [getS', e1, e2, e3, num_short h6, bad_take]
  obtain ⟨n, hn⟩ : ∃ n, n = numL ((l.drop (12 + k)).take 4) := ⟨_, rfl⟩
  by_cases h7 : n > 1048576
  · refine .no ?_ ?_
    · unfold begS
      simp only [← hk, ← hsq, ← hn]
      split
      · rfl
      · split
        · rfl
        · first | rw [if_neg h5, if_pos (.inl h7)] | rw [if_pos (.inl h7)]
    · simp only [getS', e1, e2, e3, num_gt h6 (by rw [← hn]; exact h7), bad_take]
  have e4 : numS (l.drop (12 + k)) false 4 1048576 = (n, l.drop (16 + k), false) := by rw [num_ok h6 (by rw [← hn]; exact h7), hn, List.drop_drop, show 12 + k + 4 = 16 + k by omega]
  by_cases h8 : (l.drop (16 + k)).length < n
  · refine .no ?_ ?_
    · unfold begS
      simp only [← hk, ← hsq, ← hn]
      split
      · rfl
      · split
        · rfl
        · first | rw [if_neg h5, if_pos (.inr (by rw [List.length_drop] at h8; omega))] | rw [if_pos (.inr (by rw [List.length_drop] at h8; omega))]
    · simp only [getS', e1, e2, e3, e4, take_short h8]
  have e5 : takeS (l.drop (16 + k)) false n = ((l.drop (16 + k)).take n, l.drop (16 + k + n), false) := by rw [take_fine h8, List.drop_drop]
  have hb : begS l = some ((l.drop 4).take k, sq, (l.drop (16 + k)).take n, 16 + k + n) := by
    rw [List.length_drop] at h3 h4 h6 h8
    unfold begS
    simp only [← hk, ← hsq, ← hn]
    rw [if_neg (by omega), if_neg (by omega), if_neg h5, if_neg (by omega)]
  unfold BegEq
  rw [hb]
  rw [List.length_drop] at h3 h4 h6 h8
  simp only [getS', e1, e2, e3, e4, e5, List.length_drop]
  exact ⟨trivial, trivial, trivial, trivial, by omega, by omega⟩
/-- What rec.Get answers. -/
def GetOut (w : World) (l : List UInt8) (e : Ending) (w' : World) : Prop := Keep (fun j => w.heap.size ≤ j) w w' ∧ match begS l with
  | none => e = .returned (.tuple #[.agg #[.string ⟨#[]⟩, .int .i64 0, .slice none 0 0], .int .i64 0, .bool false])
  | some (k, s, d, t) => ∃ A c b, e = .returned (.tuple #[.agg #[.string (str k), .int .i64 (s : Nat), .slice A d.length c], .int .i64 (t : Nat), .bool true]) ∧ w.heap.size ≤ b ∧ w'.ownsRow b 5 1 (.slice A d.length c) d.length (bys d)
def itemC (k : ByteArray) (s : Int) (d : Value) : List Value := [.string k, .int .i64 s, d]
theorem results_item {fn : Func} (h : fn.results = #[.cell 2 44, .tmp 3, .tmp 4]) (tmps : Array Value) (b : Nat) (k : ByteArray) (s : Int) (A : Option Addr) (n c : Nat) (w : World) (ht : tmps.getD 2 undef = .pointer (some ⟨b, 0, none⟩)) (hB : Blk w b 44 (itemC k s (.slice A n c))) :
    (results fn tmps).run Try.prog w = .ok (.tuple #[.agg #[.string k, .int .i64 s, .slice A n c], tmps.getD 3 undef, tmps.getD 4 undef]) w := by
  have c0 := hB.cell 0
  have c1 := hB.cell 1
  have c2 := hB.cell 2
  simp only [itemC, List.getElem?_cons_zero, List.getElem?_cons_succ] at c0 c1 c2
  have ht2 : tmps[2]?.getD undef = .pointer (some ⟨b, 0, none⟩) := by rw [← ht]; simp
  simp [results, h, ht2, go_sem, c0, c1, c2]
theorem begS_none (l : List UInt8) (h : l.length < 16 ∨ numL (l.take 4) > 200 ∨ l.length < 16 + numL (l.take 4) ∨ numL ((l.drop (4 + numL (l.take 4))).take 8) > 4611686018427387904 ∨ numL ((l.drop (12 + numL (l.take 4))).take 4) > 1048576 ∨ numL ((l.drop (12 + numL (l.take 4))).take 4) > l.length - 16 - numL (l.take 4)) : begS l = none := by
  unfold begS
  simp only
  split
  · rfl
  · rename_i h1
    split
    · rfl
    · rename_i h2
      split
      · rfl
      · rename_i h3
        rw [if_pos]
        rcases h with h | h | h | h | h | h
        · exact absurd h h1
        · exact absurd (.inl h) h2
        · exact absurd (.inr h) h2
        · exact absurd h h3
        · exact .inl h
        · exact .inr h
theorem begS_some (l : List UInt8) (k sq n : Nat) (hk : k = numL (l.take 4)) (hs : sq = numL ((l.drop (4 + k)).take 8)) (hn : n = numL ((l.drop (12 + k)).take 4)) (h1 : ¬ l.length < 16) (h2 : k ≤ 200) (h3 : ¬ l.length < 16 + k) (h4 : sq ≤ 4611686018427387904) (h5 : n ≤ 1048576) (h6 : ¬ n > l.length - 16 - k) :
    begS l = some ((l.drop 4).take k, sq, (l.drop (16 + k)).take n, 16 + k + n) := by
  unfold begS
  simp only [← hk, ← hs, ← hn]
  rw [if_neg h1, if_neg (by omega), if_neg (by omega), if_neg (by omega)]
end Go.Proofs.Ytkglkpcpgdeneaa
