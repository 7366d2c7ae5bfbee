/- RecGets. Conditions: none. -/
import Derived.Test.YtbkpjjibgnachaaLaw13
import Derived.Test.YtbkpjjibgnachaaRefBeg
import Derived.Test.YtbkpjjibgnachaaSame13
namespace Go.Proofs.Ytbkpjjibgnachaa
open Go.RowKit

def outS (l : List UInt8) : List UInt8 × Nat × List UInt8 × Nat × Bool := match begS l with
  | none => ([], 0, [], 0, false)
  | some (k, s, d, t) => (k, s, d, t, true)
def OutG (w : World) (G : List UInt8 × Nat × List UInt8 × Nat × Bool) (e : Ending) (w' : World) : Prop := ∃ A c, e = .returned (.tuple #[.agg #[.string (str G.1), .int .i64 (G.2.1 : Nat), .slice A G.2.2.1.length c], .int .i64 (G.2.2.2.1 : Nat), .bool G.2.2.2.2]) ∧ Keep (fun j => w.heap.size ≤ j) w w' ∧ RdV w' A (bys G.2.2.1) ∧ (A = none → G.2.2.1 = [])
theorem out_g {w w' : World} {l : List UInt8} {e : Ending} (h : GetOut w l e w') (G : List UInt8 × Nat × List UInt8 × Nat × Bool) (hG : G = outS l) : OutG w G e w' := by
  subst hG
  obtain ⟨hk, ho⟩ := h
  unfold outS
  cases hb : begS l with
  | none =>
    rw [hb] at ho
    exact ⟨none, 0, ho, hk, RdV.nil _ _, fun _ => rfl⟩
  | some q =>
    rw [hb] at ho
    rcases q with ⟨k, s, d, t⟩
    have ho' : ∃ A c b, e = .returned (.tuple #[.agg #[.string (str k), .int .i64 (s : Nat), .slice A d.length c], .int .i64 (t : Nat), .bool true]) ∧ w.heap.size ≤ b ∧ w'.ownsRow b 5 1 (.slice A d.length c) d.length (bys d) := ho
    obtain ⟨A', c', b, he, _, ho2⟩ := ho'
    obtain ⟨A2, c2, e2, _, hr, hn0⟩ := own_rd ho2
    injection e2 with e3 e4 e5
    subst e3 e5
    exact ⟨A', c', he, hk, hr, fun hh => List.eq_nil_of_length_eq_zero (hn0 hh)⟩
theorem same13_c (k : ByteArray) (s : Int) (A A' : Option Addr) (n c c' : Nat) (y : List UInt8) (w : World) (hn : n = y.length) (hr : RdV w A (bys y)) (hr' : RdV w A' (bys y)) (hA : A = none → y = []) (hA' : A' = none → y = []) :
    Calls Try.prog 30 #[.agg #[.string k, .int .i64 s, .slice A n c], .agg #[.string k, .int .i64 s, .slice A' n c']] w fun e w' => e = .returned (.bool true) ∧ Keep (fun b => w.heap.size ≤ b) w w' := by
  refine (same13 k k s s A A' n n c c' y y w hn hn hr hr' hA hA').mono ?_
  rintro e w' ⟨rfl, hk⟩
  exact ⟨by simp, hk⟩
set_option maxRecDepth 100000 in
set_option maxHeartbeats 4000000 in
theorem recgets_any (A : Option Addr) (c : Nat) (l : List UInt8) (w : World) (hr : RdV w A (bys l)) (hA : A = none → l = []) (hl : l.length ≤ c) (hc : c ≤ 9223372036854775807) :
    Calls Try.prog 11 #[.slice A l.length c] w fun e w' => e = .returned (.bool true) ∧ Keep (fun b => w.heap.size ≤ b) w w' := by
  have HR := Lib.hid hr
  have HA := Lib.hid hA
  have HC := Lib.hid (And.intro hl hc)
  by_cases h3 : l.length ≤ 3000
  · have q1 : (l.length : Int) ≤ 3000 := by omega
    have HL := Lib.hid h3
    have d1 : decide ((3000 : Int) < (l.length : Int)) = false := decide_eq_false (by omega)
    clear hr hA hl hc h3 q1
    go_enter Try.func11, Try.ntmps11
    go_wp2_with (
      at_builtin
      refine wpL_fresh _ rfl (.tmp 14) (.tmp 15) 28 28 rfl 5 (.int .u8 0) 1 1 Try.underlying28 infoU8 rfl (by decide) _ rfl rfl _ l.length (bys l) rfl (Src.of_rd Try.underlying28 (HR.out.old ((Keep.refl _ w).alloc _)) l.length c (by rw [bys_length, Nat.mul_one]) (one_bys _) (fun e => by have := HA.out e; subst this; rfl)) (by have := HL.out; unfold maxLen; omega) (by have := HL.out; omega) ?_
      intro v1 w1 hown1 hk1
      obtain ⟨A1, c1, rfl, _⟩ := own_rd hown1
      have HO1 := Lib.hid hown1
      have HK1 := Lib.hid hk1
      clear hown1 hk1)
    obtain ⟨G, hG⟩ : ∃ G, G = outS l := ⟨_, rfl⟩
    have HG := Lib.hid hG
    clear hG
    refine (get_any A1 c1 l w1 (slb_own HO1.out).2).mono ?_
    rintro e w2 hgo
    obtain ⟨A2, c2, rfl, K2, hr2, hn2⟩ := out_g hgo G HG.out
    have HK2 : Hid (Keep (fun j => w.heap.size ≤ j) w w2) := Lib.hid ((HK1.out.mono (fun _ _ h => h.elim)).trans' K2 (fun j _ h => by have := HK1.out.size; omega))
    have HD2 := Lib.hid (And.intro hr2 hn2)
    clear hgo K2 hr2 hn2 HK1 HO1
    go_wp2_with fail
    have hx := Blk.new w2 47 (itemC (str G.1) G.2.1 (.slice A2 G.2.2.1.length c2))
    have hk3 : Keep (fun j => w.heap.size ≤ j) w (w2.alloc (Obj.cells #[.string (str G.1), .int .i64 (G.2.1 : Nat), .slice A2 G.2.2.1.length c2] 47)) := HK2.out.alloc _
    have hd3 := HD2.out.1.old ((Keep.refl (fun j => w2.heap.size ≤ j) w2).alloc (Obj.cells #[.string (str G.1), .int .i64 (G.2.1 : Nat), .slice A2 G.2.2.1.length c2] 47))
    have hx : Blk (w2.alloc (Obj.cells #[.string (str G.1), .int .i64 (G.2.1 : Nat), .slice A2 G.2.2.1.length c2] 47)) w2.heap.size 47 (itemC (str G.1) G.2.1 (.slice A2 G.2.2.1.length c2)) := hx
    generalize w2.alloc (Obj.cells #[.string (str G.1), .int .i64 (G.2.1 : Nat), .slice A2 G.2.2.1.length c2] 47) = w3 at hx hk3 hd3 ⊢
    have HN2 := Lib.hid HD2.out.2
    clear HD2 HK2
    generalize w2.heap.size = xb at hx ⊢
    refine (refbegins_any A c l w3 (HR.out.old hk3) HA.out HC.out.1 HC.out.2).mono ?_
    rintro e w4 hgo
    obtain ⟨A4, c4, rfl, K4, hr4, hn4⟩ := out_g hgo G HG.out
    have hx4 := hx.keep K4 (by have := hx.lt; omega)
    have hk4 := hk3.trans' K4 (fun j _ h => by have := hk3.size; omega)
    have hd4 := hd3.old K4
    clear hgo K4 hx hk3 hd3
    have HX4 := Lib.hid hx4
    have HK4 := Lib.hid hk4
    have HD4 := Lib.hid hd4
    have HE4 := Lib.hid (And.intro hr4 hn4)
    clear hx4 hk4 hd4 hr4 hn4
    go_wp2_with fail
    have hy5 : Blk (w4.alloc (Obj.cells #[.string (str G.1), .int .i64 (G.2.1 : Nat), .slice A4 G.2.2.1.length c4] 47)) w4.heap.size 47 (itemC (str G.1) G.2.1 (.slice A4 G.2.2.1.length c4)) := Blk.new w4 47 _
    have hx5 := HX4.out.alloc (Obj.cells #[.string (str G.1), .int .i64 (G.2.1 : Nat), .slice A4 G.2.2.1.length c4] 47)
    have hk5 := HK4.out.alloc (Obj.cells #[.string (str G.1), .int .i64 (G.2.1 : Nat), .slice A4 G.2.2.1.length c4] 47)
    have hkk := (Keep.refl (fun j => w4.heap.size ≤ j) w4).alloc (Obj.cells #[.string (str G.1), .int .i64 (G.2.1 : Nat), .slice A4 G.2.2.1.length c4] 47)
    have hd5 := HD4.out.old hkk
    have he5 := HE4.out.1.old hkk
    have HN4 := Lib.hid HE4.out.2
    clear hkk HX4 HK4 HD4 HE4
    generalize w4.alloc (Obj.cells #[.string (str G.1), .int .i64 (G.2.1 : Nat), .slice A4 G.2.2.1.length c4] 47) = w5 at hy5 hx5 hk5 hd5 he5 ⊢
    generalize w4.heap.size = yb at hy5 ⊢
    refine (answers13 w5).mono ?_
    rintro e w6 ⟨rfl, K6⟩
    have hx6 := hx5.keep K6 (by have := hx5.lt; omega)
    have hy6 := hy5.keep K6 (by have := hy5.lt; omega)
    have HK6 := Lib.hid (hk5.trans' K6 (fun j _ h => by have := hk5.size; omega))
    have HD6 := Lib.hid (And.intro (hd5.old K6) (he5.old K6))
    clear K6 hx5 hy5 hk5 hd5 he5
    have b0 := hx6.cell 0
    have b1 := hx6.cell 1
    have b2 := hx6.cell 2
    have y0 := hy6.cell 0
    have y1 := hy6.cell 1
    have y2 := hy6.cell 2
    simp only [itemC, List.getElem?_cons_zero, List.getElem?_cons_succ] at b0 b1 b2 y0 y1 y2
    clear hx6 hy6
    go_wp2_with fail
    refine (same13_c (str G.1) G.2.1 A2 A4 G.2.2.1.length c2 c4 G.2.2.1 _ rfl HD6.out.1 HD6.out.2 HN2.out HN4.out).mono ?_
    rintro e w7 ⟨rfl, K7⟩
    have HK7 := Lib.hid (HK6.out.trans' K7 (fun j _ h => by have := HK6.out.size; omega))
    clear K7 HK6
    go_wp2
    go_ret
    exact ⟨rfl, HK7.out⟩
  · have d1 : decide ((3000 : Int) < (l.length : Int)) = true := decide_eq_true (by omega)
    clear hr hA hl hc h3
    go_enter Try.func11, Try.ntmps11
    go_wp2_with fail
    refine (answers13 w).mono ?_
    rintro e w' ⟨rfl, hk⟩
    have HK := Lib.hid hk
    clear hk
    go_wp2
    go_ret
    exact ⟨rfl, HK.out⟩
theorem recGets_walk (w : World) (A : Option Addr) (n c : Nat) (B : List UInt8) (hn : n = B.length) (hc : n ≤ c) (hm : c ≤ 9223372036854775807) (hr : RdV w A (bys B)) (hA : A = none → B = [] ∧ c = 0) (_ : n ≤ 140737488351232) :
    Calls Try.prog 11 #[.slice A n c] w fun e w' => e = .returned (.bool true) ∧ Below w.heap.size w w' := by
  subst hn
  exact (recgets_any A c B w hr (fun h => (hA h).1) hc hm).mono fun _ _ ⟨h1, h2⟩ => ⟨h1, h2.below (Nat.le_refl _) (fun _ _ h => h)⟩
end Go.Proofs.Ytbkpjjibgnachaa
