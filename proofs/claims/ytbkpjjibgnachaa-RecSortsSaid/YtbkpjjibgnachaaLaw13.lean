/- Law 13's answers. Conditions: none. -/
import Derived.Test.YtbkpjjibgnachaaRecGetW
import Derived.Test.YtbkpjjibgnachaaRecPut
import Derived.Test.YtbkpjjibgnachaaRecSame
import Derived.Test.YtbkpjjibgnachaaRecLess
namespace Go.Proofs.Ytbkpjjibgnachaa
open Go.RowKit

theorem put13 : begS (putL ⟨#[107]⟩ 7 [100]) = some ([107], 7, [100], 18) := by decide +kernel
theorem put13_len : (putL ⟨#[107]⟩ 7 [100]).length = 18 := by decide +kernel
theorem lt13a : lt2 ⟨#[97]⟩ 0 ⟨#[107]⟩ 7 = true := by decide +kernel
theorem lt13b : lt2 ⟨#[107]⟩ 7 ⟨#[107]⟩ 7 = false := by decide +kernel
def PutC (w : World) (N : Nat) (l : List UInt8) (e : Ending) (w' : World) : Prop := ∃ A' c', e = .returned (.tuple #[.slice A' N c', .bool true]) ∧ w'.ownsRow w.heap.size 5 1 (.slice A' N c') N (bys l) ∧ Keep (fun j => w.heap.size ≤ j) w w'
theorem put_c (k : ByteArray) (s : Int) (A : Option Addr) (n c N : Nat) (d l : List UInt8) (w : World) (hN : N = 16 + k.size + n) (hl : l = putL k s d) (hn : n = d.length) (hr : RdV w A (bys d)) (hA : A = none → d = []) (h1 : k.size ≤ 200) (h2 : 0 ≤ s) (h3 : s ≤ 4611686018427387904) (h4 : n ≤ 1048576) :
    Calls Try.prog 38 #[.agg #[.string k, .int .i64 s, .slice A n c]] w (PutC w N l) := by
  subst hN hl
  refine (put_yes k s A n c d w hn hr hA h1 h2 h3 h4).mono ?_
  rintro e w' ⟨A', c', h1, _, _, h4, h5⟩
  exact ⟨A', c', h1, h4, h5⟩
/-- A row that is owned is a slice that rec.Get reads. -/
theorem slb_own {w : World} {base n c : Nat} {A : Option Addr} {l : List UInt8} (h : w.ownsRow base 5 1 (.slice A n c) n (bys l)) : n = l.length ∧ SlB w A c l := by
  have hl : n = l.length := by have := h.1; rw [bys_length] at this; omega
  rcases own_form h with ⟨h1, h2, h3⟩ | ⟨g, c', h1, h2, h3, h4⟩
  · injection h1 with e1 e2 e3
    subst e1 e3
    have hz : l = [] := List.eq_nil_of_length_eq_zero (by omega)
    subst hz
    exact ⟨hl, Nat.le_refl _, by omega, RdV.nil _ _, fun _ => rfl, fun x hx => by cases hx⟩
  · injection h1 with e1 e2 e3
    subst e1 e3
    refine ⟨hl, by omega, h3, by have := h4 0; rwa [List.drop_zero] at this, fun e => absurd e (by simp), fun x hx => ?_⟩
    cases hx
    refine ⟨g, 0, rfl, ?_⟩
    rcases h.2 with ⟨h5, _⟩ | ⟨g', cap, cur, h5, h6, h7, _⟩
    · cases h5
    · injection h5 with e1 e2 e3
      injection e1 with e1
      injection e1 with e1 _ _
      subst e1
      exact (Array.getElem?_eq_some_iff.1 h7).1
def GetC (w : World) (z : ByteArray) (s : Int) (d : List UInt8) (m : Nat) (t : Int) (e : Ending) (w' : World) : Prop := ∃ A c, e = .returned (.tuple #[.agg #[.string z, .int .i64 s, .slice A m c], .int .i64 t, .bool true]) ∧ Keep (fun j => w.heap.size ≤ j) w w' ∧ RdV w' A (bys d) ∧ (A = none → d = [])
theorem get_c (A : Option Addr) (n c base : Nat) (l : List UInt8) (w : World) (k d : List UInt8) (s t m : Nat) (sI tI : Int) (z : ByteArray) (h : w.ownsRow base 5 1 (.slice A n c) n (bys l)) (hb : begS l = some (k, s, d, t)) (hz : z = str k) (hs : sI = s) (ht : tI = t) (hm : m = d.length) :
    Calls Try.prog 40 #[.slice A n c] w (GetC w z sI d m tI) := by
  obtain ⟨hn, hsl⟩ := slb_own h
  subst hn hz hs ht hm
  refine (get_any A c l w hsl).mono ?_
  rintro e w' ⟨hk, ho⟩
  rw [hb] at ho
  obtain ⟨A', c', b, he, _, ho⟩ := ho
  obtain ⟨A2, c2, e2, _, hr, hn0⟩ := own_rd ho
  injection e2 with e3 e4 e5
  subst e3 e5
  exact ⟨A', c', he, hk, hr, fun hh => List.eq_nil_of_length_eq_zero (hn0 hh)⟩
theorem same_c (k : ByteArray) (s : Int) (A A' : Option Addr) (n c c' : Nat) (y : List UInt8) (w : World) (hn : n = y.length) (hr : RdV w A (bys y)) (hr' : RdV w A' (bys y)) (hA : A = none → y = []) (hA' : A' = none → y = []) :
    Calls Try.prog 45 #[.agg #[.string k, .int .i64 s, .slice A n c], .agg #[.string k, .int .i64 s, .slice A' n c']] w fun e w' => e = .returned (.bool true) ∧ Keep (fun b => w.heap.size ≤ b) w w' := by
  refine (rec_same k k s s A A' n n c c' y y w hn hn hr hr' hA hA').mono ?_
  rintro e w' ⟨rfl, hk⟩
  exact ⟨by simp, hk⟩
theorem less_c (k k' : ByteArray) (s s' : Int) (d d' : Value) (b : Bool) (hb : lt2 k s k' s' = b) (w : World) :
    Calls Try.prog 43 #[.agg #[.string k, .int .i64 s, d], .agg #[.string k', .int .i64 s', d']] w fun e w' => e = .returned (.bool b) ∧ Keep (fun b => w.heap.size ≤ b) w w' := by
  subst hb
  exact rec_less k k' s s' d d' w
set_option maxRecDepth 100000 in
set_option maxHeartbeats 4000000 in
theorem answers13 (w : World) : Calls Try.prog 37 #[] w fun e w' => e = .returned (.bool true) ∧ Keep (fun b => w.heap.size ≤ b) w w' := by
  have kc := fun (w : World) (C : Array Value) (n c : Nat) => Lib.run_convert_bytes_const (P := Try.prog) w 28 5 C n c Try.underlying28 Try.underlying5
  go_enter Try.func37, Try.ntmps37
  go_wp2_with fail
  clear kc
  obtain ⟨g, hg⟩ : ∃ g, g = w.heap.size := ⟨_, rfl⟩
  have h1 : Blk (w.alloc (Obj.cells #[.int .u8 100] 5 (1, 2))) g 5 [.int .u8 100] ∨ True := .inr trivial
  have hr1 : RdV ((w.alloc (Obj.cells #[.int .u8 100] 5 (1, 2))).alloc (Obj.cells #[.string ⟨#[107]⟩, .int .i64 7, .slice (some ⟨w.heap.size, 0, none⟩) 1 1] 47)) (some ⟨w.heap.size, 0, none⟩) (bys [100]) :=
    (RdV.newm w 5 [.int .u8 100] _ _ rfl).old ((Keep.refl _ _).alloc _)
  have hb1 : Blk ((w.alloc (Obj.cells #[.int .u8 100] 5 (1, 2))).alloc (Obj.cells #[.string ⟨#[107]⟩, .int .i64 7, .slice (some ⟨w.heap.size, 0, none⟩) 1 1] 47)) (w.heap.size + 1) 47 (itemC ⟨#[107]⟩ 7 (.slice (some ⟨w.heap.size, 0, none⟩) 1 1)) := by
    have := Blk.new (w.alloc (Obj.cells #[.int .u8 100] 5 (1, 2))) 47 (itemC ⟨#[107]⟩ 7 (.slice (some ⟨w.heap.size, 0, none⟩) 1 1))
    rwa [show (w.alloc (Obj.cells #[.int .u8 100] 5 (1, 2))).heap.size = w.heap.size + 1 by simp] at this
  have hk1 : Keep (fun j => w.heap.size ≤ j) w ((w.alloc (Obj.cells #[.int .u8 100] 5 (1, 2))).alloc (Obj.cells #[.string ⟨#[107]⟩, .int .i64 7, .slice (some ⟨w.heap.size, 0, none⟩) 1 1] 47)) := ((Keep.refl _ w).alloc _).alloc _
  generalize (w.alloc (Obj.cells #[.int .u8 100] 5 (1, 2))).alloc (Obj.cells #[.string ⟨#[107]⟩, .int .i64 7, .slice (some ⟨w.heap.size, 0, none⟩) 1 1] 47) = w1 at hr1 hb1 hk1 ⊢
  clear h1
  obtain ⟨xb, hxb⟩ : ∃ xb, xb = w.heap.size + 1 := ⟨_, rfl⟩
  rw [← hxb] at hb1 ⊢
  rw [← hg] at hr1 hb1 ⊢
  have HXB := Lib.hid (And.intro hg hxb)
  clear hg hxb
  have HR1 := Lib.hid hr1
  have HB1 := Lib.hid hb1
  have HK1 := Lib.hid hk1
  clear hr1 hb1 hk1
  refine (put_c _ _ _ _ _ 18 [100] _ w1 rfl rfl rfl HR1.out (fun e => by cases e) (by decide) (by decide) (by decide) (by decide)).mono ?_
  rintro e w2 ⟨A2, c2, rfl, ho2, K2⟩
  have HO2 := Lib.hid ho2
  have HR2 := Lib.hid (HR1.out.old K2)
  have HB2 : Hid (Blk w2 xb 47 (itemC ⟨#[107]⟩ 7 (.slice (some ⟨g, 0, none⟩) 1 1))) := Lib.hid (HB1.out.keep K2 (by have := HB1.out.lt; omega))
  have HK2 : Hid (Keep (fun j => w.heap.size ≤ j) w w2) := Lib.hid (HK1.out.trans' K2 (fun j _ h => by have := HK1.out.size; omega))
  clear ho2 K2 HR1 HB1 HK1
  go_wp2_with fail
  refine (get_c A2 18 c2 _ (putL ⟨#[107]⟩ 7 [100]) w2 [107] [100] 7 18 1 7 18 ⟨#[107]⟩ HO2.out put13 (by rfl) rfl rfl rfl).mono ?_
  rintro e w3 ⟨A3, c3, rfl, K3, hr3, hn3⟩
  have HR3 := Lib.hid (HR2.out.old K3)
  have HB3 : Hid (Blk w3 xb 47 (itemC ⟨#[107]⟩ 7 (.slice (some ⟨g, 0, none⟩) 1 1))) := Lib.hid (HB2.out.keep K3 (by have := HB2.out.lt; omega))
  have HK3 : Hid (Keep (fun j => w.heap.size ≤ j) w w3) := Lib.hid (HK2.out.trans' K3 (fun j _ h => by have := HK2.out.size; omega))
  have HD3 := Lib.hid (And.intro hr3 hn3)
  clear hr3 hn3 K3 HR2 HB2 HK2 HO2
  have hB := HB3.out.alloc (Obj.cells #[.string ⟨#[107]⟩, .int .i64 7, .slice A3 1 c3] 47)
  have b0 := hB.cell 0
  have b1 := hB.cell 1
  have b2 := hB.cell 2
  simp only [itemC, List.getElem?_cons_zero, List.getElem?_cons_succ] at b0 b1 b2
  clear hB
  go_wp2_with fail
  refine (same_c ⟨#[107]⟩ 7 (some ⟨g, 0, none⟩) A3 1 1 c3 [100] _ rfl (HR3.out.old ((Keep.refl _ _).alloc _)) (HD3.out.1.old ((Keep.refl _ _).alloc _)) (fun e => absurd e (by simp)) HD3.out.2).mono ?_
  rintro e w4 ⟨rfl, K4⟩
  have hB := (HB3.out.alloc (Obj.cells #[.string ⟨#[107]⟩, .int .i64 7, .slice A3 1 c3] 47)).keep K4 (by have := (HB3.out.alloc (Obj.cells #[.string ⟨#[107]⟩, .int .i64 7, .slice A3 1 c3] 47)).lt; omega)
  have HB4 := Lib.hid hB
  have HK4 : Hid (Keep (fun j => w.heap.size ≤ j) w w4) := Lib.hid ((HK3.out.alloc (Obj.cells #[.string ⟨#[107]⟩, .int .i64 7, .slice A3 1 c3] 47)).trans' K4 (fun j _ h => by have := (HK3.out.alloc (Obj.cells #[.string ⟨#[107]⟩, .int .i64 7, .slice A3 1 c3] 47)).size; omega))
  clear K4 b0 b1 b2 HB3 HK3 HR3 HD3
  have b0 := hB.cell 0
  have b1 := hB.cell 1
  have b2 := hB.cell 2
  simp only [itemC, List.getElem?_cons_zero, List.getElem?_cons_succ] at b0 b1 b2
  clear hB
  go_wp2_with fail
  refine (less_c _ _ _ _ _ _ true lt13a w4).mono ?_
  rintro e w5 ⟨rfl, K5⟩
  have hB := HB4.out.keep K5 (by have := HB4.out.lt; omega)
  have HK5 : Hid (Keep (fun j => w.heap.size ≤ j) w w5) := Lib.hid (HK4.out.trans' K5 (fun j _ h => by have := HK4.out.size; omega))
  clear K5 b0 b1 b2 HB4 HK4
  have b0 := hB.cell 0
  have b1 := hB.cell 1
  have b2 := hB.cell 2
  simp only [itemC, List.getElem?_cons_zero, List.getElem?_cons_succ] at b0 b1 b2
  clear hB
  go_wp2_with fail
  refine (less_c _ _ _ _ _ _ false lt13b w5).mono ?_
  rintro e w6 ⟨rfl, K6⟩
  have HK6 : Hid (Keep (fun j => w.heap.size ≤ j) w w6) := Lib.hid (HK5.out.trans' K6 (fun j _ h => by have := HK5.out.size; omega))
  clear K6 b0 b1 b2 HK5
  go_wp2
  go_ret
  exact ⟨rfl, HK6.out⟩
end Go.Proofs.Ytbkpjjibgnachaa
