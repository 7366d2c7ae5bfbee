/- rec.Get: the item that bytes begin with. Conditions: none. -/
import Derived.Test.YtkglkpcpgdeneaaRecCur
import Derived.Test.YtkglkpcpgdeneaaBegS
import Derived.Deep.RegionHeld
import Derived.Below
import Derived.Deep.DeepCutAuto
import Derived.Deep.CutBlock
import Derived.RegionTactic
import Derived.BigRegion
namespace Go.Proofs.Ytkglkpcpgdeneaa
open Go.RowKit

def BClone (w : World) (n : Nat) (l : List UInt8) (e : Ending) (w' : World) : Prop := ∃ A c, e = .returned (.slice A n c) ∧ w'.ownsRow w.heap.size 5 1 (.slice A n c) n (bys l) ∧ Keep (fun _ => False) w w'
set_option maxRecDepth 100000 in
theorem bclone_any (A : Option Addr) (n c : Nat) (l : List UInt8) (w : World) (hr : RdV w A (bys l)) (hl : n = l.length) (hA : A = none → l = []) (hb : n ≤ 140737488355328) :
    Calls Try.prog 72 #[.slice A n c] w (BClone w n l) := by
  cases A with
  | none =>
    obtain rfl := hA rfl
    subst hl
    clear hb hA hr
    have hE := Lib.run_eql_slice_nil (P := Try.prog) w 42 5 none 0 c 0 0 Try.underlying42
    go_enter Try.func72, Try.ntmps72
    go_wp2
    go_ret
    exact ⟨none, 0, rfl, World.ownsRow_nil w _ _ 1, Keep.refl _ w⟩
  | some x =>
    have HR := Lib.hid hr
    have HL := Lib.hid hl
    have hE := Lib.run_eql_slice_nil (P := Try.prog) w 42 5 (some x) n c 0 0 Try.underlying42
    have HB := Lib.hid hb
    clear hr hA hl hb
    go_enter Try.func72, Try.ntmps72
    go_wp2_with (at_builtin; refine wpL_append _ rfl (.tmp 5) (.tmp 6) 42 42 rfl w.heap.size 5 (.int .u8 0) 1 1 Try.underlying42 infoU8 rfl (by decide) _ 0 [] rfl (own_empty w _ _ 1 (Nat.le_refl _) _ rfl) _ n _ rfl (Src.of_rd Try.underlying42 ((HR.out).keep ((Keep.refl (fun _ => False) w).alloc _) (fun _ _ _ h => h)) n c (by rw [HL.out, bys_length, Nat.mul_one]) (one_bys _) (fun e => by cases e)) (by have := HB.out; unfold maxLen; omega) (by have := HB.out; omega) (by simp) ?_; intro v1 w1 hown1 hg1 hat1; have HO1 := Lib.hid hown1; have HG1 := Lib.hid hg1; clear hown1 hg1 hat1)
    go_ret
    have ho := HO1.out
    rw [Nat.zero_add, List.nil_append] at ho
    obtain ⟨A', c', rfl, _⟩ := own_rd ho
    refine ⟨A', c', rfl, ho, ((Keep.refl (fun _ => False) w).alloc _).trans' (Keep.of_grown HG1.out) (fun k hk e => ?_)⟩
    injection (show some k = some w.heap.size from e) with e2
    omega
/-- An item that begins bytes: what is read, one behind the other. -/
def getS (l : List UInt8) : List UInt8 × Nat × List UInt8 × List UInt8 × Bool :=
  let a := numS l false 4 200
  let b := takeS a.2.1 a.2.2 a.1
  let c := numS b.2.1 b.2.2 8 4611686018427387904
  let d := numS c.2.1 c.2.2 4 1048576
  let e := takeS d.2.1 d.2.2 d.1
  (b.1, c.1, e.1, e.2.1, e.2.2)
theorem numS_le (rest : List UInt8) (bad : Bool) (size most : Nat) : (numS rest bad size most).1 ≤ most := by
  unfold numS
  split
  · simp
  · split
    · simp
    · simp; omega
/-- The result's block, and nothing old has turned. -/
def RK (w u : World) (rb : Nat) (cs : List Value) : Prop := Blk u rb 44 cs ∧ Keep (fun j => w.heap.size ≤ j) w u
theorem RK.keep {w u u' : World} {rb cb : Nat} {cs : List Value} (h : RK w u rb cs) (he : rb = w.heap.size ∧ cb = w.heap.size + 1) (k : Keep (fun j => j = cb) u u') : RK w u' rb cs :=
  ⟨h.1.keep k (by omega), h.2.trans' k (fun j _ e => by have e2 : j = cb := e; omega)⟩
theorem RK.alloc {w u : World} {rb : Nat} {cs : List Value} (h : RK w u rb cs) (o : Obj) : RK w (u.alloc o) rb cs := ⟨h.1.alloc o, h.2.alloc o⟩
theorem RK.allocD {w u : World} {rb : Nat} {cs : List Value} (h : RK w u rb cs) (o : Obj) : RK w (u.alloc o).drew rb cs := ⟨h.1.alloc o, (h.2.alloc o).drew⟩
theorem RK.set3 {w u v : World} {rb B : Nat} {cs : List Value} (h : RK w u rb cs) (hv : RK w v rb cs) (hB : B = v.heap.size) (a b c : Value) : RK w (((u.setCell ⟨B, 0, none⟩ a).setCell ⟨B, 1, none⟩ b).setCell ⟨B, 2, none⟩ c) rb cs := by
  have h1 := hv.1.lt
  have h2 := hv.2.size
  exact ⟨((h.1.set_ne (p := ⟨B, 0, none⟩) (by show rb ≠ B; omega) a).set_ne (p := ⟨B, 1, none⟩) (by show rb ≠ B; omega) b).set_ne (p := ⟨B, 2, none⟩) (by show rb ≠ B; omega) c,
    ((h.2.setCell (p := ⟨B, 0, none⟩) (.inl (by show w.heap.size ≤ B; omega)) a).setCell (p := ⟨B, 1, none⟩) (.inl (by show w.heap.size ≤ B; omega)) b).setCell (p := ⟨B, 2, none⟩) (.inl (by show w.heap.size ≤ B; omega)) c⟩
/-- The block of an item that is laid somewhere on the way. -/
def ZB (u : World) (b : Nat) : Prop := Blk u b 44 [.string ⟨#[]⟩, .int .i64 0, .slice none 0 0]
theorem ZB.new {w0 u u' : World} {cb : Nat} {rest : List UInt8} {bad : Bool} {s : Prop} (h : Cur w0 u cb rest bad s) (k : Keep (fun j => j = cb) (u.alloc (Obj.cells #[.string ⟨#[]⟩, .int .i64 0, .slice none 0 0] 44)) u') : ZB u' u.heap.size :=
  (Blk.new u 44 [.string ⟨#[]⟩, .int .i64 0, .slice none 0 0]).keep k (fun e => by have e2 : u.heap.size = cb := e; have := h.lt; omega)
theorem ZB.newD {w0 u u' : World} {cb : Nat} {rest : List UInt8} {bad : Bool} {s : Prop} (h : Cur w0 u cb rest bad s) (k : Keep (fun j => j = cb) (u.alloc (Obj.cells #[.string ⟨#[]⟩, .int .i64 0, .slice none 0 0] 44)).drew u') : ZB u' u.heap.size := by
  have h1 : Blk (u.alloc (Obj.cells #[.string ⟨#[]⟩, .int .i64 0, .slice none 0 0] 44)).drew u.heap.size 44 [.string ⟨#[]⟩, .int .i64 0, .slice none 0 0] := Blk.new u 44 [.string ⟨#[]⟩, .int .i64 0, .slice none 0 0]
  exact h1.keep k (fun e => by have e2 : u.heap.size = cb := e; have := h.lt; omega)
theorem ZB.keep {w0 u u' : World} {v : World} {cb b : Nat} {rest : List UInt8} {bad : Bool} {s : Prop} (z : ZB u b) (h : Cur w0 v cb rest bad s) (hb : b = v.heap.size) (k : Keep (fun j => j = cb) u u') : ZB u' b :=
  Blk.keep z k (fun e => by have e2 : b = cb := e; have := h.lt; omega)
theorem ne_cur {w0 w : World} {cb : Nat} {rest : List UInt8} {bad : Bool} {s : Prop} (h : Cur w0 w cb rest bad s) : ¬ (fun j => j = cb) w.heap.size := fun e => by
  have e2 : w.heap.size = cb := e
  have := h.lt
  omega
theorem number_eq (w0 w : World) (cb size most : Nat) (z zm : Int) (rest : List UInt8) (bad : Bool) (s : Prop) (R : Nat × List UInt8 × Bool) (hR : R = numS rest bad size most) (hz : z = size) (hzm : zm = most) (hc : Cur w0 w cb rest bad s) (hk : Keep (fun j => w0.heap.size ≤ j) w0 w) (hcb : w0.heap.size ≤ cb) (h1 : 1 ≤ size) (h8 : size ≤ 8) (hmost : most ≤ 4611686018427387904) :
    Calls Try.prog 71 #[.pointer (some ⟨cb, 0, none⟩), .int .i64 z, .int .i64 zm] w fun e w' => e = .returned (.int .i64 (R.1 : Nat)) ∧ Cur w0 w' cb R.2.1 R.2.2 True ∧ Keep (fun j => j = cb) w w' := by
  subst hR
  exact number_any w0 w cb size most z zm rest bad s hz hzm hc hk hcb h1 h8 hmost
def TakeEq (w0 w : World) (cb : Nat) (R : List UInt8 × List UInt8 × Bool) (e : Ending) (w' : World) : Prop := ∃ A c, e = .returned (.slice A R.1.length c) ∧ SlB w0 A c R.1 ∧ Cur w0 w' cb R.2.1 R.2.2 True ∧ Keep (fun j => j = cb) w w'
theorem take_eq (w0 w : World) (cb m : Nat) (z : Int) (rest : List UInt8) (bad : Bool) (R : List UInt8 × List UInt8 × Bool) (hR : R = takeS rest bad m) (hz : z = m) (hc : Cur w0 w cb rest bad True) (hm : m ≤ 4611686018427387904) :
    Calls Try.prog 70 #[.pointer (some ⟨cb, 0, none⟩), .int .i64 z] w (TakeEq w0 w cb R) := by
  subst hR
  exact take_any w0 w cb m z rest bad hz hc hm
theorem conv_sl {w : World} {A : Option Addr} {c : Nat} {l : List UInt8} (h : SlB w A c l) (u : World) (k : Keep (fun j => w.heap.size ≤ j) w u) (_ : True) : (convert 42 9 (.slice A l.length c)).run Try.prog u = .ok (.string (str l)) u :=
  run_bytes_str (P := Try.prog) 42 9 5 Try.underlying42 Try.underlying5 Try.underlying9 l.length c (h.2.2.1.old k) rfl h.2.2.2.1
theorem number_rk (w u : World) (rb cb size most : Nat) (cs : List Value) (z zm : Int) (rest : List UInt8) (bad : Bool) (s : Prop) (R : Nat × List UInt8 × Bool) (hR : R = numS rest bad size most) (hz : z = size) (hzm : zm = most) (he : rb = w.heap.size ∧ cb = w.heap.size + 1) (hc : Cur w u cb rest bad s) (hk : RK w u rb cs) (h1 : 1 ≤ size) (h8 : size ≤ 8) (hmost : most ≤ 4611686018427387904) :
    Calls Try.prog 71 #[.pointer (some ⟨cb, 0, none⟩), .int .i64 z, .int .i64 zm] u fun e w' => e = .returned (.int .i64 (R.1 : Nat)) ∧ Cur w w' cb R.2.1 R.2.2 True ∧ Keep (fun j => j = cb) u w' ∧ RK w w' rb cs :=
  (number_eq w u cb size most z zm rest bad s R hR hz hzm hc hk.2 (by omega) h1 h8 hmost).mono fun _ _ ⟨h1, h2, h3⟩ => ⟨h1, h2, h3, hk.keep he h3⟩
def TakeRk (w u : World) (rb cb : Nat) (cs : List Value) (R : List UInt8 × List UInt8 × Bool) (e : Ending) (w' : World) : Prop := ∃ A c, e = .returned (.slice A R.1.length c) ∧ SlB w A c R.1 ∧ Cur w w' cb R.2.1 R.2.2 True ∧ Keep (fun j => j = cb) u w' ∧ RK w w' rb cs
theorem take_rk (w u : World) (rb cb m : Nat) (cs : List Value) (z : Int) (rest : List UInt8) (bad : Bool) (R : List UInt8 × List UInt8 × Bool) (hR : R = takeS rest bad m) (hz : z = m) (he : rb = w.heap.size ∧ cb = w.heap.size + 1) (hc : Cur w u cb rest bad True) (hk : RK w u rb cs) (hm : m ≤ 4611686018427387904) :
    Calls Try.prog 70 #[.pointer (some ⟨cb, 0, none⟩), .int .i64 z] u (TakeRk w u rb cb cs R) :=
  (take_eq w u cb m z rest bad R hR hz hc hm).mono fun _ _ ⟨A, c, h1, h2, h3, h4⟩ => ⟨A, c, h1, h2, h3, h4, hk.keep he h4⟩
/-- The item's box is laid, the result's block is untouched. -/
def Mid (w wx : World) (rb cb xb : Nat) (TB : List UInt8) (NC : Nat × List UInt8 × Bool) : Prop := Blk wx xb 44 (itemC (str TB) NC.1 (.slice none 0 0)) ∧ w.heap.size + 2 ≤ xb ∧ Cur w wx cb NC.2.1 NC.2.2 True ∧ Blk wx rb 44 (itemC ⟨#[]⟩ 0 (.slice none 0 0)) ∧ Keep (fun j => w.heap.size ≤ j) w wx
theorem mid_le {w u : World} {rb cb : Nat} {rest : List UInt8} {bad : Bool} {s : Prop} (he : rb = w.heap.size ∧ cb = w.heap.size + 1) (h : Cur w u cb rest bad s) : w.heap.size + 2 ≤ u.heap.size := by have := h.lt; omega
theorem mid_new {w u : World} {rb cb : Nat} {TB : List UInt8} {NC : Nat × List UInt8 × Bool} (he : rb = w.heap.size ∧ cb = w.heap.size + 1) (h : Cur w u cb NC.2.1 NC.2.2 True) (r : RK w u rb (itemC ⟨#[]⟩ 0 (.slice none 0 0))) :
    Mid w (u.alloc (Obj.cells #[.string (str TB), .int .i64 (NC.1 : Nat), .slice none 0 0] 44)) rb cb u.heap.size TB NC :=
  ⟨Blk.new u 44 (itemC (str TB) NC.1 (.slice none 0 0)), mid_le he h, h.keep ((Keep.refl (fun _ => False) _).alloc _) (fun h => h), r.1.alloc _, r.2.alloc _⟩
theorem mid_set {w u : World} {rb cb B : Nat} {TB : List UInt8} {NC : Nat × List UInt8 × Bool} (he : rb = w.heap.size ∧ cb = w.heap.size + 1) (hb : w.heap.size + 2 ≤ B) (h : Cur w u cb NC.2.1 NC.2.2 True) (r : RK w u rb (itemC ⟨#[]⟩ 0 (.slice none 0 0))) (z : ZB u B) :
    Mid w (((u.setCell ⟨B, 0, none⟩ (.string (str TB))).setCell ⟨B, 1, none⟩ (.int .i64 (NC.1 : Nat))).setCell ⟨B, 2, none⟩ (.slice none 0 0)) rb cb B TB NC :=
  ⟨((Blk.set z 0 _).set 1 _).set 2 _, hb,
    h.keep (((((Keep.refl (fun j => j = B) u).setCell (p := ⟨B, 0, none⟩) (.inl rfl) _).setCell (p := ⟨B, 1, none⟩) (.inl rfl) _).setCell (p := ⟨B, 2, none⟩) (.inl rfl) _)) (fun e => by have e2 : cb = B := e; omega),
    ((r.1.set_ne (p := ⟨B, 0, none⟩) (by show rb ≠ B; omega) _).set_ne (p := ⟨B, 1, none⟩) (by show rb ≠ B; omega) _).set_ne (p := ⟨B, 2, none⟩) (by show rb ≠ B; omega) _,
    ((r.2.setCell (p := ⟨B, 0, none⟩) (.inl (by show w.heap.size ≤ B; omega)) _).setCell (p := ⟨B, 1, none⟩) (.inl (by show w.heap.size ≤ B; omega)) _).setCell (p := ⟨B, 2, none⟩) (.inl (by show w.heap.size ≤ B; omega)) _⟩
theorem get_out (l : List UInt8) (NA : Nat × List UInt8 × Bool) (TB : List UInt8 × List UInt8 × Bool) (NC ND : Nat × List UInt8 × Bool) (TE : List UInt8 × List UInt8 × Bool)
    (h1 : NA = numS l false 4 200) (h2 : TB = takeS NA.2.1 NA.2.2 NA.1) (h3 : NC = numS TB.2.1 TB.2.2 8 4611686018427387904) (h4 : ND = numS NC.2.1 NC.2.2 4 1048576) (h5 : TE = takeS ND.2.1 ND.2.2 ND.1) :
    (TE.2.2 = true → begS l = none) ∧ (TE.2.2 = false → ∃ t, begS l = some (TB.1, NC.1, TE.1, t) ∧ TE.2.1.length + t = l.length) := by
  have e : getS' l = (TB.1, NC.1, TE.1, TE.2.1, TE.2.2) := by unfold getS'; simp only [← h1, ← h2, ← h3, ← h4, ← h5]
  have g := getS_beg l
  unfold BegEq at g
  rw [e] at g
  cases hb : begS l with
  | none => rw [hb] at g; exact ⟨fun _ => rfl, fun h => by have g2 : TE.2.2 = true := g; rw [h] at g2; cases g2⟩
  | some q =>
    rw [hb] at g
    rcases q with ⟨k, s, d, t⟩
    have g1 := g.1
    have g2 := g.2.1
    have g3 := g.2.2.1
    have g4 := g.2.2.2.1
    have g5 := g.2.2.2.2.1
    have g4' : TE.2.2 = false := g4
    refine ⟨fun h => absurd (h.symm.trans g4') (by decide), fun _ => ⟨t, ?_, g5⟩⟩
    show some (k, s, d, t) = some (TB.1, NC.1, TE.1, t)
    rw [show TB.1 = k from g1, show NC.1 = s from g2, show TE.1 = d from g3]
theorem Mid.cur {w u : World} {rb cb xb : Nat} {TB : List UInt8} {NC : Nat × List UInt8 × Bool} (h : Mid w u rb cb xb TB NC) : Cur w u cb NC.2.1 NC.2.2 True := h.2.2.1
theorem Mid.kp {w u : World} {rb cb xb : Nat} {TB : List UInt8} {NC : Nat × List UInt8 × Bool} (h : Mid w u rb cb xb TB NC) : Keep (fun j => w.heap.size ≤ j) w u := h.2.2.2.2
/-- The two items' blocks stand. -/
def Two (w u : World) (rb xb : Nat) (TB : List UInt8) (n : Nat) : Prop := Blk u xb 44 (itemC (str TB) n (.slice none 0 0)) ∧ w.heap.size + 2 ≤ xb ∧ Blk u rb 44 (itemC ⟨#[]⟩ 0 (.slice none 0 0)) ∧ Keep (fun j => w.heap.size ≤ j) w u
theorem Mid.two {w u : World} {rb cb xb : Nat} {TB : List UInt8} {NC : Nat × List UInt8 × Bool} (h : Mid w u rb cb xb TB NC) : Two w u rb xb TB NC.1 := ⟨h.1, h.2.1, h.2.2.2.1, h.2.2.2.2⟩
theorem Two.keep {w u u' : World} {rb cb xb n : Nat} {TB : List UInt8} (he : rb = w.heap.size ∧ cb = w.heap.size + 1) (h : Two w u rb xb TB n) (k : Keep (fun j => j = cb) u u') : Two w u' rb xb TB n :=
  ⟨h.1.keep k (fun e => by have e2 : xb = cb := e; have := h.2.1; omega), h.2.1, h.2.2.1.keep k (fun e => by have e2 : rb = cb := e; omega), h.2.2.2.trans' k (fun j _ e => by have e2 : j = cb := e; omega)⟩
theorem Two.keep0 {w u u' : World} {rb xb n : Nat} {TB : List UInt8} (h : Two w u rb xb TB n) (k : Keep (fun _ => False) u u') : Two w u' rb xb TB n :=
  ⟨h.1.keep k (fun e => e), h.2.1, h.2.2.1.keep k (fun e => e), h.2.2.2.trans' k (fun _ _ e => e.elim)⟩
theorem takeS_len (rest : List UInt8) (bad : Bool) (m : Nat) : (takeS rest bad m).1.length ≤ m := by
  unfold takeS
  split
  · simp
  · simp; omega
set_option maxRecDepth 100000 in
set_option maxHeartbeats 16000000 in
theorem get_any (A : Option Addr) (c : Nat) (l : List UInt8) (w : World) (hs : SlB w A c l) :
    Calls Try.prog 55 #[.slice A l.length c] w (GetOut w l) := by
  have HSL := Lib.hid hs
  have q1 : (l.length : Int) ≤ 9223372036854775807 := by have := hs.1; have := hs.2.1; omega
  clear hs
  go_enter Try.func55, Try.ntmps55
  go_wp2_with fail
  have hrb : Blk ((w.alloc (Obj.cells #[.string ⟨#[]⟩, .int .i64 0, .slice none 0 0] 44)).alloc (Obj.cells #[.slice A l.length c, .bool false] 124)) w.heap.size 44 (itemC ⟨#[]⟩ 0 (.slice none 0 0)) := (Blk.new w 44 (itemC ⟨#[]⟩ 0 (.slice none 0 0))).alloc _
  have hcb : Cur w ((w.alloc (Obj.cells #[.string ⟨#[]⟩, .int .i64 0, .slice none 0 0] 44)).alloc (Obj.cells #[.slice A l.length c, .bool false] 124)) (w.heap.size + 1) l false False := by
    refine ⟨A, c, ?_, HSL.out, fun h => h.elim⟩
    have := Blk.new (w.alloc (Obj.cells #[.string ⟨#[]⟩, .int .i64 0, .slice none 0 0] 44)) 124 [.slice A l.length c, .bool false]
    rwa [show (w.alloc (Obj.cells #[.string ⟨#[]⟩, .int .i64 0, .slice none 0 0] 44)).heap.size = w.heap.size + 1 by simp] at this
  have hkk : Keep (fun j => w.heap.size ≤ j) w ((w.alloc (Obj.cells #[.string ⟨#[]⟩, .int .i64 0, .slice none 0 0] 44)).alloc (Obj.cells #[.slice A l.length c, .bool false] 124)) := ((Keep.refl _ w).alloc _).alloc _
  generalize hw1 : (w.alloc (Obj.cells #[.string ⟨#[]⟩, .int .i64 0, .slice none 0 0] 44)).alloc (Obj.cells #[.slice A l.length c, .bool false] 124) = w1 at hrb hcb hkk ⊢
  clear hw1
  have HCB := Lib.hid hcb
  have HRB := Lib.hid hrb
  have HKK := Lib.hid hkk
  clear hcb hrb hkk
  obtain ⟨rb, hrb⟩ : ∃ rb, rb = w.heap.size := ⟨_, rfl⟩
  obtain ⟨cb, hcb⟩ : ∃ cb, cb = w.heap.size + 1 := ⟨_, rfl⟩
  rw [← hcb, ← hrb]
  rw [← hcb] at HCB
  rw [← hrb] at HRB
  have HRK : Hid (Blk w1 rb 44 (itemC ⟨#[]⟩ 0 (.slice none 0 0)) ∧ Keep (fun j => w.heap.size ≤ j) w w1) := Lib.hid ⟨HRB.out, HKK.out⟩
  clear HRB HKK
  have HE : Hid (rb = w.heap.size ∧ cb = w.heap.size + 1) := Lib.hid ⟨hrb, hcb⟩
  clear hrb hcb
  obtain ⟨NA, hna⟩ : ∃ x, x = numS l false 4 200 := ⟨_, rfl⟩
  obtain ⟨TB, htb⟩ : ∃ x, x = takeS NA.2.1 NA.2.2 NA.1 := ⟨_, rfl⟩
  obtain ⟨NC, hnc⟩ : ∃ x, x = numS TB.2.1 TB.2.2 8 4611686018427387904 := ⟨_, rfl⟩
  have HNA := Lib.hid hna
  have HTB := Lib.hid htb
  have HNC := Lib.hid hnc
  have HN1 : Hid (NA.1 ≤ 200) := Lib.hid (by rw [hna]; exact numS_le _ _ _ _)
  clear hna htb hnc
  go_cut [6] (fun v6 wx => ∃ xb, v6 = .pointer (some ⟨xb, 0, none⟩) ∧ Hid (Mid w wx rb cb xb TB.1 NC))
  case first =>
    have R0 : RK w w1 rb (itemC ⟨#[]⟩ 0 (.slice none 0 0)) := HRK.out
    have R1 : RK w w1.drew rb (itemC ⟨#[]⟩ 0 (.slice none 0 0)) := ⟨HRK.out.1, HRK.out.2.drew⟩
    have hc1 : Cur w w1.drew cb l false False := HCB.out.keep (Keep.refl (fun _ => False) _).drew (fun h => h)
    go_region_held (fun w' => RK w w' rb (itemC ⟨#[]⟩ 0 (.slice none 0 0)))
      (first
        | with_reducible assumption
        | with_reducible exact RK.alloc R4 _
        | with_reducible exact RK.alloc R3 _
        | with_reducible exact RK.alloc R2 _
        | with_reducible exact RK.alloc R1 _
        | with_reducible exact RK.allocD R0 _
        | exact RK.set3 (by with_reducible assumption) R1 rfl _ _ _
        | exact RK.set3 (by with_reducible assumption) R2 rfl _ _ _
        | exact RK.set3 (by with_reducible assumption) R3 rfl _ _ _
        | exact RK.set3 (by with_reducible assumption) R4 rfl _ _ _)
      (first
        | (go_at_call 71
           ((with_reducible refine (number_rk w _ rb cb 4 200 _ 4 200 l false False NA HNA.out rfl rfl HE.out ?_ (by with_reducible assumption) (by omega) (by omega) (by omega)).mono ?_))
           · first | with_reducible exact hc1 | exact HCB.out.keep ((Keep.refl (fun _ => False) _).alloc _).drew (fun h => h)
           rintro e w2 ⟨rfl, h1, K1, R2⟩
           first
             | have zb := (by with_reducible exact ZB.newD HCB.out K1 : ZB w2 _)
             | skip)
        | (go_at_call 70
           ((with_reducible refine (take_rk w _ rb cb NA.1 _ _ NA.2.1 NA.2.2 TB HTB.out rfl HE.out ?_ (by with_reducible assumption) (by have := HN1.out; omega)).mono ?_))
           · first | with_reducible exact h1 | exact h1.keep ((Keep.refl (fun _ => False) _).alloc _) (fun h => h)
           rintro e w3 ⟨A', c', rfl, hsl, h2, K2, R3⟩
           have cv1 := conv_sl hsl _ R3.2
           have cv2 := conv_sl hsl _ (R3.2.alloc (Obj.cells #[.string ⟨#[]⟩, .int .i64 0, .slice none 0 0] 44))
           first
             | have zb := (by with_reducible exact ZB.new h1 K2 : ZB w3 _)
             | have zb := ZB.keep zb hc1 rfl K2
             | skip)
        | (go_at_call 71
           ((with_reducible refine (number_rk w _ rb cb 8 4611686018427387904 _ 8 4611686018427387904 TB.2.1 TB.2.2 True NC HNC.out rfl rfl HE.out ?_ (by with_reducible assumption) (by omega) (by omega) (by omega)).mono ?_))
           · first | with_reducible exact h2 | exact h2.keep ((Keep.refl (fun _ => False) _).alloc _) (fun h => h)
           rintro e w4 ⟨rfl, h3, K3, R4⟩
           have cv3 := conv_sl hsl _ R4.2
           have cv4 := conv_sl hsl _ (R4.2.alloc (Obj.cells #[.string ⟨#[]⟩, .int .i64 0, .slice none 0 0] 44))
           first
             | have zb := (by with_reducible exact ZB.new h2 K3 : ZB w4 _)
             | have zb := ZB.keep zb hc1 rfl K3
             | have zb := ZB.keep zb h1 rfl K3
             | skip
           first
             | (have z0 := Blk.cell zb 0
                have z1 := Blk.cell zb 1
                have z2 := Blk.cell zb 2
                have zf0 := Blk.free zb 0
                have zf1 := Blk.free zb 1
                have zf2 := Blk.free zb 2
                simp only [List.getElem?_cons_zero, List.getElem?_cons_succ] at z0 z1 z2)
             | skip))
    all_goals go_wp2_with fail
    all_goals go_meet
    all_goals
      first
        | exact ⟨_, rfl, Lib.hid (mid_new HE.out h3 R4)⟩
        | exact ⟨_, rfl, Lib.hid (mid_set HE.out (mid_le HE.out hc1) h3 R4 zb)⟩
        | exact ⟨_, rfl, Lib.hid (mid_set HE.out (mid_le HE.out h1) h3 R4 zb)⟩
        | exact ⟨_, rfl, Lib.hid (mid_set HE.out (mid_le HE.out h2) h3 R4 zb)⟩
        | exact ⟨_, rfl, Lib.hid (mid_set HE.out (mid_le HE.out h3) h3 R4 zb)⟩
  case rest =>
    obtain ⟨xb, rfl, HM⟩ := hcut
    have hx := HM.out
    clear HRK HCB
    obtain ⟨ND, hnd⟩ : ∃ x, x = numS NC.2.1 NC.2.2 4 1048576 := ⟨_, rfl⟩
    obtain ⟨TE, hte⟩ : ∃ x, x = takeS ND.2.1 ND.2.2 ND.1 := ⟨_, rfl⟩
    have HND := Lib.hid hnd
    have HTE := Lib.hid hte
    have HN4 : Hid (ND.1 ≤ 1048576) := Lib.hid (by rw [hnd]; exact numS_le _ _ _ _)
    have HTL : Hid (TE.1.length ≤ 1048576) := Lib.hid (by rw [hte]; exact Nat.le_trans (takeS_len _ _ _) HN4.out)
    clear hnd hte hx
    go_wp2_with fail
    (with_reducible refine (number_eq w _ cb 4 1048576 4 1048576 NC.2.1 NC.2.2 True ND HND.out rfl rfl (Mid.cur HM.out) (Mid.kp HM.out) (by have := HE.out; omega) (by omega) (by omega) (by omega)).mono ?_)
    rintro e w5 ⟨rfl, h5, K5⟩
    have HT5 : Hid (Two w w5 rb xb TB.1 NC.1) := Lib.hid ((Mid.two HM.out).keep HE.out K5)
    have H5 := Lib.hid h5
    have HK5 := Lib.hid K5
    clear h5 K5
    go_wp2_with fail
    (with_reducible refine (take_eq w _ cb ND.1 _ ND.2.1 ND.2.2 TE HTE.out rfl H5.out (by have := HN4.out; omega)).mono ?_)
    rintro e w6 ⟨A6, c6, rfl, hs6, h6, K6⟩
    have HS6 := Lib.hid hs6
    have H6 := Lib.hid h6
    have HT6 : Hid (Two w w6 rb xb TB.1 NC.1) := Lib.hid (HT5.out.keep HE.out K6)
    clear hs6 h6 K6
    go_wp2_with fail
    have r6 := HS6.out.2.2.1.old HT6.out.2.2.2
    have n6 := HS6.out.2.2.2.1
    (with_reducible refine (bclone_any A6 _ c6 TE.1 w6 r6 rfl n6 (by have := HTL.out; omega)).mono ?_)
    rintro e w7 ⟨A7, c7, rfl, o7, K7⟩
    clear r6 n6
    have HT7 : Hid (Two w w7 rb xb TB.1 NC.1) := Lib.hid (HT6.out.keep0 K7)
    have H7 : Hid (Cur w w7 cb TE.2.1 TE.2.2 True) := Lib.hid (H6.out.keep K7 (fun h => h))
    have HO7 : Hid (w7.ownsRow w6.heap.size 5 1 (.slice A7 TE.1.length c7) TE.1.length (bys TE.1)) := Lib.hid o7
    have HS7 : Hid (w.heap.size + 2 ≤ w6.heap.size ∧ xb < w6.heap.size) := Lib.hid ⟨mid_le HE.out H6.out, HT6.out.1.lt⟩
    clear o7 K7
    have HOUT := Lib.hid (get_out l NA TB NC ND TE HNA.out HTB.out HNC.out HND.out HTE.out)
    obtain ⟨w8, hw8⟩ : ∃ w8, w8 = w7.setCell ⟨xb, 2, none⟩ (.slice A7 TE.1.length c7) := ⟨_, rfl⟩
    have k8 : Keep (fun j => j = xb) w7 w8 := by rw [hw8]; exact (Keep.refl (fun j => j = xb) w7).setCell (p := ⟨xb, 2, none⟩) (.inl rfl) _
    have hx8 : Blk w8 xb 44 (itemC (str TB.1) NC.1 (.slice A7 TE.1.length c7)) := by rw [hw8]; exact HT7.out.1.set 2 _
    have hr8 : Blk w8 rb 44 (itemC ⟨#[]⟩ 0 (.slice none 0 0)) := HT7.out.2.2.1.keep k8 (fun e => by have e2 : rb = xb := e; have := HT7.out.2.1; have := HE.out; omega)
    have hc8 : Cur w w8 cb TE.2.1 TE.2.2 True := H7.out.keep k8 (fun e => by have e2 : cb = xb := e; have := HT7.out.2.1; have := HE.out; omega)
    have ho8 : w8.ownsRow w6.heap.size 5 1 (.slice A7 TE.1.length c7) TE.1.length (bys TE.1) := by
      rw [hw8]
      exact Go.RowKit.ownsRow_setCell_below HO7.out (by show xb < w6.heap.size; exact HS7.out.2) _
    have hk8 : Keep (fun j => w.heap.size ≤ j) w w8 := HT7.out.2.2.2.trans' k8 (fun j _ e => by have e2 : j = xb := e; have := HT7.out.2.1; omega)
    obtain ⟨_, hcb0, hcb1⟩ := hc8.bad
    obtain ⟨AR, cR, hcl⟩ := hc8.left
    have zf2 := HT7.out.1.free 2
    have z2 := HT7.out.1.cell 2
    simp only [itemC, List.getElem?_cons_zero, List.getElem?_cons_succ] at z2
    have HX8 := Lib.hid hx8
    have HR8 := Lib.hid hr8
    have HO8 := Lib.hid ho8
    have HK8 := Lib.hid hk8
    have y0 := hx8.cell 0
    have y1 := hx8.cell 1
    have y2 := hx8.cell 2
    have p0 := hr8.cell 0
    have p1 := hr8.cell 1
    have p2 := hr8.cell 2
    have pf0 := hr8.free 0
    have pf1 := hr8.free 1
    have pf2 := hr8.free 2
    simp only [itemC, List.getElem?_cons_zero, List.getElem?_cons_succ] at y0 y1 y2 p0 p1 p2
    clear hx8 hr8 ho8 hk8 k8 hc8
    rw [hw8] at y0 y1 y2 p0 p1 p2 pf0 pf1 pf2 hcb0 hcl hcb1
    by_cases hbad : TE.2.2 = true
    · rw [hbad] at hcb1
      go_wp2_with fail
      have hbo := HR8.out
      rw [hw8] at hbo
      have hb0 := ((hbo.set 0 (.string ⟨#[]⟩)).set 1 (.int .i64 0)).set 2 (.slice none 0 0)
      refine bodyPost_ret (results_item rfl _ rb ⟨#[]⟩ 0 none 0 0 _ rfl hb0) rfl ⟨?_, ?_⟩
      · have hk8 := HK8.out
        rw [hw8] at hk8
        have hrb := HE.out.1
        exact ((hk8.setCell (p := ⟨rb, 0, none⟩) (.inl (by show w.heap.size ≤ rb; omega)) _).setCell (p := ⟨rb, 1, none⟩) (.inl (by show w.heap.size ≤ rb; omega)) _).setCell (p := ⟨rb, 2, none⟩) (.inl (by show w.heap.size ≤ rb; omega)) _
      · rw [HOUT.out.1 hbad]
        rfl
    · have hb2 : TE.2.2 = false := by simpa using hbad
      rw [hb2] at hcb1
      go_wp2_with fail
      rw [← hw8] at y0 y1 y2 p0 p1 p2 pf0 pf1 pf2 hcb0 hcl hcb1
      rw [← hw8]
      clear hw8
      obtain ⟨hsx, t, hbeg, htt⟩ : True ∧ ∃ t, begS l = some (TB.1, NC.1, TE.1, t) ∧ TE.2.1.length + t = l.length := ⟨trivial, HOUT.out.2 hb2⟩
      have HBEG := Lib.hid hbeg
      have q2 : (l.length : Int) = TE.2.1.length + t := by omega
      have q3 : (0 : Int) ≤ TE.2.1.length := by omega
      have wr : IntKind.i64.wrap ((l.length : Int) - (TE.2.1.length : Int)) = (t : Int) := by rw [IntWalk.i64_in _ (by omega)]; omega
      clear hbeg htt
      have y0' : w8.drew.cell? ⟨xb, 0, none⟩ = _ := y0
      have y1' : w8.drew.cell? ⟨xb, 1, none⟩ = _ := y1
      have y2' : w8.drew.cell? ⟨xb, 2, none⟩ = _ := y2
      have p0' : w8.drew.cell? ⟨rb, 0, none⟩ = _ := p0
      have p1' : w8.drew.cell? ⟨rb, 1, none⟩ = _ := p1
      have p2' : w8.drew.cell? ⟨rb, 2, none⟩ = _ := p2
      have pf0' : w8.drew.frozen? ⟨rb, 0, none⟩ = _ := pf0
      have pf1' : w8.drew.frozen? ⟨rb, 1, none⟩ = _ := pf1
      have pf2' : w8.drew.frozen? ⟨rb, 2, none⟩ = _ := pf2
      have hcl' : w8.drew.cell? ⟨cb, 0, none⟩ = _ := hcl
      have hcl3 : (((w8.setCell ⟨rb, 0, none⟩ (.string (str TB.1))).setCell ⟨rb, 1, none⟩ (.int .i64 (NC.1 : Nat))).setCell ⟨rb, 2, none⟩ (.slice A7 TE.1.length c7)).drew.cell? ⟨cb, 0, none⟩ = some (.slice AR TE.2.1.length cR) := by
        have hne : (⟨cb, 0, none⟩ : Addr).block ≠ rb := by show cb ≠ rb; have := HE.out; omega
        have e1 : ∀ (u : World) (o : Nat) (v : Value), (u.setCell ⟨rb, o, none⟩ v).cell? ⟨cb, 0, none⟩ = u.cell? ⟨cb, 0, none⟩ := fun u o v => by
          exact World.cell?_of_block (Below.heap_setCell _ _ _ _ hne)
        exact ((e1 _ _ _).trans ((e1 _ _ _).trans (e1 _ _ _))).trans hcl
      go_region
      go_wp2_with fail
      have hb0 := ((HR8.out.set 0 (.string (str TB.1))).set 1 (.int .i64 (NC.1 : Nat))).set 2 (.slice A7 TE.1.length c7)
      have hev : Value.int IntKind.i64 ((TE.2.1.length : Int) + (t : Int) - (TE.2.1.length : Int)) = .int .i64 (t : Nat) := congrArg (Value.int IntKind.i64) (by omega)
      refine bodyPost_ret (results_item rfl _ rb (str TB.1) NC.1 A7 TE.1.length c7 _ rfl (hb0 : Blk _ rb _ _)) rfl ⟨?_, ?_⟩
      · have hk8 := HK8.out
        have hrb := HE.out.1
        exact (((hk8.setCell (p := ⟨rb, 0, none⟩) (.inl (by show w.heap.size ≤ rb; omega)) _).setCell (p := ⟨rb, 1, none⟩) (.inl (by show w.heap.size ≤ rb; omega)) _).setCell (p := ⟨rb, 2, none⟩) (.inl (by show w.heap.size ≤ rb; omega)) _).drew
      · rw [HBEG.out]
        refine ⟨A7, c7, w6.heap.size, ?_, ?_, ?_⟩
        · rw [← hev]; rfl
        · have := HS7.out.1; omega
        · have hx := HS7.out.1
          have hrb := HE.out.1
          exact Go.RowKit.ownsRow_setCell_below (Go.RowKit.ownsRow_setCell_below (Go.RowKit.ownsRow_setCell_below HO8.out (by show rb < w6.heap.size; omega) _) (by show rb < w6.heap.size; omega) _) (by show rb < w6.heap.size; omega) _
end Go.Proofs.Ytkglkpcpgdeneaa
