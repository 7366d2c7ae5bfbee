/- The cursor in one form: what take and number make of what is left. Conditions: none. -/
import Derived.Test.YtkglkpcpgdeneaaRecGet
namespace Go.Proofs.Ytkglkpcpgdeneaa
open Go.RowKit

/-- number: what it answers, what is left, whether it is bad. -/
def numS (rest : List UInt8) (bad : Bool) (size most : Nat) : Nat × List UInt8 × Bool :=
  if bad = true ∨ rest.length < size then (0, rest, true) else if numL (rest.take size) > most then (0, rest.drop size, true) else (numL (rest.take size), rest.drop size, false)
def takeS (rest : List UInt8) (bad : Bool) (m : Nat) : List UInt8 × List UInt8 × Bool :=
  if bad = true ∨ rest.length < m then ([], rest, true) else (rest.take m, rest.drop m, false)
/-- A slice that reads so in world w0. -/
def SlB (w0 : World) (A : Option Addr) (c : Nat) (l : List UInt8) : Prop := l.length ≤ c ∧ c ≤ 9223372036854775807 ∧ RdV w0 A (bys l) ∧ (A = none → l = []) ∧ (∀ x, A = some x → ∃ g o, x = ⟨g, o, none⟩ ∧ g < w0.heap.size)
def Cur (w0 w : World) (cb : Nat) (rest : List UInt8) (bad : Bool) (strong : Prop) : Prop := ∃ A c, CurAt w cb A rest.length c bad ∧ SlB w0 A c rest ∧ (strong → A = none → bad = true)
theorem rd_drop {w : World} {g o : Nat} {l : List UInt8} (h : RdV w (some ⟨g, o, none⟩) (bys l)) (m : Nat) : RdV w (some ⟨g, o + m, none⟩) (bys (l.drop m)) := by
  intro j u hj
  refine ⟨_, rfl, ?_⟩
  obtain ⟨x, hx, hc⟩ := h (m + j) u (by rw [← hj]; simp [bys, List.getElem?_drop])
  cases hx
  rw [add_plain] at hc ⊢
  rw [Nat.add_assoc]; exact hc
theorem rd_take {w : World} {A : Option Addr} {l : List UInt8} (h : RdV w A (bys l)) (m : Nat) : RdV w A (bys (l.take m)) := by
  have := h.take m
  rwa [show bys (l.take m) = (bys l).take m by simp [bys, List.map_take]]
theorem Cur.weak {w0 w : World} {cb : Nat} {rest : List UInt8} {bad : Bool} {s : Prop} (h : Cur w0 w cb rest bad s) : Cur w0 w cb rest bad False := by
  obtain ⟨A, c, h1, h2, _⟩ := h
  exact ⟨A, c, h1, h2, fun h => h.elim⟩
theorem CurAt.keep {w w' : World} {cb : Nat} {A : Option Addr} {n c : Nat} {bad : Bool} (h : CurAt w cb A n c bad) {F : Nat → Prop} (k : Keep F w w') (hn : ¬ F cb) : CurAt w' cb A n c bad := Blk.keep h k hn
theorem Cur.keep {w0 w w' : World} {cb : Nat} {rest : List UInt8} {bad : Bool} {s : Prop} (h : Cur w0 w cb rest bad s) {F : Nat → Prop} (k : Keep F w w') (hn : ¬ F cb) : Cur w0 w' cb rest bad s := by
  obtain ⟨A, c, h1, h2⟩ := h
  exact ⟨A, c, h1.keep k hn, h2⟩
theorem Cur.lt {w0 w : World} {cb : Nat} {rest : List UInt8} {bad : Bool} {s : Prop} (h : Cur w0 w cb rest bad s) : cb < w.heap.size := by
  obtain ⟨A, c, h1, _⟩ := h
  exact Blk.lt h1
theorem Cur.bad {w0 w : World} {cb : Nat} {rest : List UInt8} {bad : Bool} {s : Prop} (h : Cur w0 w cb rest bad s) : ∃ v, w.cell? ⟨cb, 0, none⟩ = some v ∧ w.cell? ⟨cb, 1, none⟩ = some (.bool bad) := by
  obtain ⟨A, c, h1, _⟩ := h
  exact ⟨_, Blk.cell h1 0, Blk.cell h1 1⟩
theorem Cur.left {w0 w : World} {cb : Nat} {rest : List UInt8} {bad : Bool} {s : Prop} (h : Cur w0 w cb rest bad s) : ∃ A c, w.cell? ⟨cb, 0, none⟩ = some (.slice A rest.length c) := by
  obtain ⟨A, c, h1, _⟩ := h
  exact ⟨_, _, Blk.cell h1 0⟩
theorem number_any (w0 w : World) (cb size most : Nat) (z zm : Int) (rest : List UInt8) (bad : Bool) (s : Prop) (hz : z = size) (hzm : zm = most) (hc : Cur w0 w cb rest bad s) (hk : Keep (fun j => w0.heap.size ≤ j) w0 w) (hcb : w0.heap.size ≤ cb) (h1 : 1 ≤ size) (h8 : size ≤ 8) (hmost : most ≤ 4611686018427387904) :
    Calls Try.prog 71 #[.pointer (some ⟨cb, 0, none⟩), .int .i64 z, .int .i64 zm] w fun e w' => e = .returned (.int .i64 ((numS rest bad size most).1 : Nat)) ∧ Cur w0 w' cb (numS rest bad size most).2.1 (numS rest bad size most).2.2 True ∧ Keep (fun j => j = cb) w w' := by
  subst hz hzm
  obtain ⟨A, c, ha, ⟨hl, hcc, hr, hA, hpl⟩, _⟩ := hc
  unfold numS
  by_cases hb : bad = true ∨ rest.length < size
  · rw [if_pos hb]
    refine (number_bad cb A rest.length c size most bad w ha hb h8 (by omega) hmost).mono ?_
    rintro e w' ⟨he, h2, h3⟩
    exact ⟨he, ⟨A, c, h2, ⟨hl, hcc, hr, hA, hpl⟩, fun _ _ => rfl⟩, h3⟩
  · rw [if_neg hb]
    have hbf : bad = false := by cases bad; rfl; exact absurd (.inl rfl) hb
    subst hbf
    have hle : size ≤ rest.length := by omega
    cases A with
    | none => have := hA rfl; rw [this] at hle; simp at hle; omega
    | some x =>
      obtain ⟨g, o, rfl, hg⟩ := hpl x rfl
      refine (number_ok cb g o rest.length c size most (rest.take size) w ha hle hl hcc h8 (by simp; omega) ((rd_take hr size).old hk) (by omega) hmost).mono ?_
      rintro e w' ⟨he, ⟨o', h2, h3⟩, h4⟩
      have hcur : ∀ b, CurAt w' cb (some ⟨g, o', none⟩) (rest.length - size) (c - size) b → Cur w0 w' cb (rest.drop size) b True := fun b hb => by
        refine ⟨some ⟨g, o', none⟩, c - size, by rw [List.length_drop]; exact hb, ⟨by rw [List.length_drop]; omega, by omega, ?_, (fun e => by cases e), (fun x hx => by cases hx; exact ⟨g, o', rfl, hg⟩)⟩, fun _ e => by cases e⟩
        by_cases hlt : size < rest.length
        · rw [h3 hlt]; exact rd_drop hr size
        · rw [List.drop_of_length_le (by omega)]; exact RdV.nil _ _
      by_cases hgt : numL (rest.take size) > most
      · rw [if_pos hgt] at he ⊢
        rw [decide_eq_true hgt] at h2
        exact ⟨he, hcur _ h2, h4⟩
      · rw [if_neg hgt] at he ⊢
        rw [decide_eq_false hgt] at h2
        exact ⟨he, hcur _ h2, h4⟩
def TakeAny (w0 w : World) (cb m : Nat) (rest : List UInt8) (bad : Bool) (e : Ending) (w' : World) : Prop := ∃ A c, e = .returned (.slice A (takeS rest bad m).1.length c) ∧ SlB w0 A c (takeS rest bad m).1 ∧ Cur w0 w' cb (takeS rest bad m).2.1 (takeS rest bad m).2.2 True ∧ Keep (fun j => j = cb) w w'
theorem take_any (w0 w : World) (cb m : Nat) (z : Int) (rest : List UInt8) (bad : Bool) (hz : z = m) (hc : Cur w0 w cb rest bad True) (hm : m ≤ 4611686018427387904) :
    Calls Try.prog 70 #[.pointer (some ⟨cb, 0, none⟩), .int .i64 z] w (TakeAny w0 w cb m rest bad) := by
  subst hz
  obtain ⟨A, c, ha, ⟨hl, hcc, hr, hA, hpl⟩, hst⟩ := hc
  unfold TakeAny takeS
  by_cases hb : bad = true ∨ rest.length < m
  · rw [if_pos hb]
    refine (take_bad cb A rest.length c m bad w ha hb hm (by omega)).mono ?_
    rintro e w' ⟨he, h2, h3⟩
    exact ⟨none, 0, he, ⟨by simp, by omega, RdV.nil _ _, (fun _ => rfl), (fun x hx => by cases hx)⟩, ⟨A, c, h2, ⟨hl, hcc, hr, hA, hpl⟩, fun _ _ => rfl⟩, h3⟩
  · rw [if_neg hb]
    have hbf : bad = false := by cases bad; rfl; exact absurd (.inl rfl) hb
    subst hbf
    have hle : m ≤ rest.length := by omega
    cases A with
    | none => have := hst trivial rfl; cases this
    | some x =>
      obtain ⟨g, o, rfl, hg⟩ := hpl x rfl
      refine (take_ok cb g o rest.length c m w ha hle hl hcc).mono ?_
      rintro e w' ⟨he, ⟨o', h2, h3⟩, h4⟩
      have hlt : (rest.take m).length = m := by simp; omega
      refine ⟨some ⟨g, o, none⟩, c, by rw [hlt]; exact he, ⟨by rw [hlt]; omega, hcc, rd_take hr m, (fun e => by cases e), (fun x hx => by cases hx; exact ⟨g, o, rfl, hg⟩)⟩, ⟨some ⟨g, o', none⟩, c - m, by rw [List.length_drop]; exact h2, ⟨by rw [List.length_drop]; omega, by omega, ?_, (fun e => by cases e), (fun x hx => by cases hx; exact ⟨g, o', rfl, hg⟩)⟩, fun _ e => by cases e⟩, h4⟩
      by_cases hlt : m < rest.length
      · rw [h3 hlt]; exact rd_drop hr m
      · rw [List.drop_of_length_le (by omega)]; exact RdV.nil _ _
end Go.Proofs.Ytkglkpcpgdeneaa
