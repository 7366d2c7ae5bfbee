/- The reference's bytes of an item; may it be? Conditions: none. -/
import Derived.Test.YtkglkpcpgdeneaaRefBits
import Derived.Test.YtkglkpcpgdeneaaStepApp
import Derived.Test.YtkglkpcpgdeneaaRefMay
import Derived.Test.YtkglkpcpgdeneaaStoreB
import Derived.Deep.RegionHeld3
namespace Go.Proofs.Ytkglkpcpgdeneaa
open Go.RowKit

theorem own_of_blk {w : World} {base g : Nat} {T : TypeId} {cs : List Value} {n : Nat} (h : Blk w g T cs) (hb : base ≤ g) (hn : cs.length = n) (hm : n ≤ maxLen) : w.ownsRow base T 1 (.slice (some ⟨g, 0, none⟩) n n) n cs := by
  subst hn
  exact ⟨by simp, .inr ⟨g, cs.length, cs.toArray, rfl, hb, h, Nat.le_refl _, hm, by simp, by simp⟩⟩
def RB (w : World) (m size : Nat) (e : Ending) (w' : World) : Prop := ∃ g, e = .returned (.slice (some ⟨g, 0, none⟩) size size) ∧ w'.ownsRow w.heap.size 5 1 (.slice (some ⟨g, 0, none⟩) size size) size (bys (bitsL m size)) ∧ Keep (fun j => w.heap.size ≤ j) w w'
theorem refbits_f (n z : Int) (m size : Nat) (w : World) (hn : n = m) (hz : z = size) (h : m ≤ 4611686018427387904) (h0 : 1 ≤ size) (hs : size ≤ 8) :
    Calls Try.prog 54 #[.int .i64 n, .int .i64 z] w (RB w m size) := by
  subst hn hz
  refine (refbits_any m size w h h0 hs).mono ?_
  rintro e w' ⟨he, hb, hk⟩
  exact ⟨_, he, own_of_blk hb (Nat.le_refl _) (by rw [bys_length, bitsL_len]) (by unfold maxLen; omega), hk.mono (fun _ _ f => f.elim)⟩
theorem byteCells_bys (k : ByteArray) : byteCells k = bys k.data.toList := rfl
/-- A block that came with the call, and nothing old has turned. -/
def XB (w u : World) (bx : Nat) (cs : List Value) : Prop := Blk u bx 44 cs ∧ Keep (fun j => w.heap.size ≤ j) w u
theorem XB.step {w u u' : World} {bx : Nat} {cs : List Value} (h : XB w u bx cs) (k : Keep (fun j => u.heap.size ≤ j) u u') : XB w u' bx cs :=
  ⟨h.1.keep k (by have := h.1.lt; omega), ktr h.2 k⟩
theorem XB.drew {w u : World} {bx : Nat} {cs : List Value} (h : XB w u bx cs) : XB w u.drew bx cs := ⟨h.1, h.2.drew⟩
theorem XB.drewN {w u : World} {bx : Nat} {cs : List Value} (h : XB w u bx cs) (n : Nat) : XB w (u.drewN n) bx cs := ⟨h.1, h.2.drewN n⟩
theorem XB.alloc {w u : World} {bx : Nat} {cs : List Value} (h : XB w u bx cs) (o : Obj) : XB w (u.alloc o) bx cs := ⟨h.1.alloc o, h.2.alloc o⟩
theorem own_grown {u w2 w3 : World} {e : TypeId} {size n : Nat} {v : Value} {xs : List Value} (o : w2.ownsRow u.heap.size e size v n xs) (g : w2.grownBy w3 v.ownBlock) (k : Keep (fun j => u.heap.size ≤ j) u w2) : Keep (fun j => u.heap.size ≤ j) u w3 :=
  k.trans' (Keep.of_grown g) (fun j _ e => own_base o j e.symm)
theorem XB.grown {w u u' : World} {bx : Nat} {cs : List Value} {e : TypeId} {size n b0 : Nat} {v : Value} {xs : List Value} (h : XB w u bx cs) (o : u.ownsRow b0 e size v n xs) (hb : b0 = w.heap.size) (hne : e ≠ 44) (g : u.grownBy u' v.ownBlock) : XB w u' bx cs := by
  subst hb
  refine ⟨h.1.keep (Keep.of_grown g) (fun e1 => ?_), h.2.trans' (Keep.of_grown g) (fun j _ e => own_base o j e.symm)⟩
  have e2 : v.ownBlock = some bx := Eq.symm e1
  obtain ⟨cs', hc⟩ := own_heap o bx e2
  have h1 := h.1
  unfold Blk at h1 hc
  rw [h1] at hc
  injection hc with hc
  injection hc with _ hc _
  exact hne hc.symm
theorem own_rd' {w : World} {base size n c : Nat} {e : TypeId} {A : Option Addr} {xs : List Value} (h : w.ownsRow base e size (.slice A n c) n xs) : RdV w A xs := by
  obtain ⟨_, _, e, _, hr, _⟩ := own_rd h
  injection e with e _ _
  rw [e]; exact hr
def RefB (w : World) (T : Nat) (l : List UInt8) (e : Ending) (w' : World) : Prop := ∃ A c, e = .returned (.slice A T c) ∧ T ≤ c ∧ (0 < T → A.isSome = true) ∧ w'.ownsRow w.heap.size 5 1 (.slice A T c) T (bys l) ∧ Keep (fun j => w.heap.size ≤ j) w w'
set_option maxRecDepth 100000 in
set_option maxHeartbeats 8000000 in
theorem refbytes_any (k : ByteArray) (s : Int) (A : Option Addr) (n c : Nat) (d : List UInt8) (w : World) (hn : n = d.length) (hr : RdV w A (bys d)) (hA : A = none → d = []) (h1 : k.size ≤ 200) (h2 : 0 ≤ s) (h3 : s ≤ 4611686018427387904) (h4 : n ≤ 1048576) :
    Calls Try.prog 30 #[.agg #[.string k, .int .i64 s, .slice A n c]] w (RefB w (16 + k.size + n) (putL k s d)) := by
  subst hn
  have HR := Lib.hid hr
  have HA := Lib.hid hA
  have q1 : (k.size : Int) ≤ 200 := by omega
  have q2 : (d.length : Int) ≤ 1048576 := by omega
  have H1 := Lib.hid h1
  have H4 := Lib.hid h4
  clear hr hA h1 h4
  go_enter Try.func30, Try.ntmps30
  go_wp2_with fail
  have x0 := Blk.new w 44 [.string k, .int .i64 s, .slice A d.length c]
  have hK1 : Keep (fun j => w.heap.size ≤ j) w (w.alloc (.cells #[.string k, .int .i64 s, .slice A d.length c] 44)) := (Keep.refl _ w).alloc _
  generalize hw1 : w.alloc (.cells #[.string k, .int .i64 s, .slice A d.length c] 44) = w1 at x0 hK1 ⊢
  clear hw1
  obtain ⟨bx, hbx⟩ : ∃ bx, bx = w.heap.size := ⟨_, rfl⟩
  rw [← hbx] at x0 ⊢
  have HBX := Lib.hid hbx
  clear hbx
  have y0 := x0.cell 0
  simp only [List.getElem?_cons_zero] at y0
  have HX : Hid (XB w w1 bx [.string k, .int .i64 s, .slice A d.length c]) := Lib.hid ⟨x0, hK1⟩
  have y0d : w1.drew.cell? ⟨bx, 0, none⟩ = some (.string k) := y0
  clear x0 hK1
  go_region_held3 (fun w' => w'.cell? ⟨bx, 0, none⟩ = some (.string k) ∧ XB w w' bx [.string k, .int .i64 s, .slice A d.length c])
    (first
      | exact ⟨y0, HX.out.drew⟩
      | (go_split_ands; exact ⟨old_cell (by assumption) K1, XB.step (by assumption) K1⟩)
      | exact ⟨old_cell y0d K2, HX.out.drew.step K2⟩
      | go_keep)
    (first
      | (go_at_call 54
         ((with_reducible refine (refbits_f (k.size : Int) 4 k.size 4 _ rfl rfl (by have := H1.out; omega) (by omega) (by omega)).mono ?_)); rintro e w2 ⟨g1, rfl, o1, K1⟩)
      | (refine step_append_src rfl (.tmp 7) (.tmp 9) 42 9 rfl w1.heap.size 5 (.int .u8 0) 1 1 Try.underlying42 infoU8 rfl (by decide) (.slice (some ⟨g1, 0, none⟩) 4 4) 4 (bys (bitsL k.size 4)) (by rfl) o1 (.string k) k.size (byteCells k) (by rfl) (Src.ofString _ Try.underlying9 k) (by have := H1.out; unfold maxLen; omega) (by have := H1.out; omega) (K1.size) ?_; intro v3 w3 o3 G3 at3; have K2 := own_grown o1 G3 K1))
  have HX3 : Hid (XB w w3 bx [.string k, .int .i64 s, .slice A d.length c]) := Lib.hid (HX.out.drew.step K2)
  have HO3 : Hid (w3.ownsRow w.heap.size 5 1 v3 (4 + k.size) (bys (bitsL k.size 4) ++ byteCells k)) := Lib.hid (own_weaken o3 (HX.out.2.size))
  obtain ⟨A3, c3, rfl, _⟩ := own_rd HO3.out
  clear o1 o3 G3 at3 K1 K2 y0 y0d HX
  have y1 := HX3.out.1.cell 1
  simp only [List.getElem?_cons_zero, List.getElem?_cons_succ] at y1
  go_wp2_with fail
  refine (refbits_f s 8 s.toNat 8 _ (by omega) rfl (by omega) (by omega) (by omega)).mono ?_
  rintro e w4 ⟨g2, rfl, o4, K4⟩
  have HX4 := Lib.hid (HX3.out.step K4)
  have HO4 : Hid (w4.ownsRow w.heap.size 5 1 (.slice A3 (4 + k.size) c3) (4 + k.size) (bys (bitsL k.size 4) ++ byteCells k)) := Lib.hid (own_keep' HO3.out K4 (fun g hg e => by have := ownBlock_lt HO3.out g hg; omega))
  have HR4 : Hid (RdV w4 (some ⟨g2, 0, none⟩) (bys (bitsL s.toNat 8)) ∧ 1 = 1) := Lib.hid ⟨by obtain ⟨_, _, e, _, hr, _⟩ := own_rd o4; injection e with e _ _; rw [e]; exact hr, rfl⟩
  clear K4 o4 HX3 HO3 y1
  go_wp2_with (
    at_builtin
    refine wpL_append _ rfl (.tmp 11) (.tmp 14) 42 42 rfl w.heap.size 5 (.int .u8 0) 1 1 Try.underlying42 infoU8 rfl (by decide) (.slice A3 (4 + k.size) c3) (4 + k.size) _ rfl HO4.out (.slice (some ⟨g2, 0, none⟩) 8 8) 8 (bys (bitsL s.toNat 8)) rfl (Src.of_rd Try.underlying42 HR4.out.1 _ _ (by rw [bys_length, bitsL_len]) (one_bys _) (fun e => by cases e)) (by have := H1.out; unfold maxLen; omega) (by have := H1.out; omega) HX4.out.2.size ?_
    intro v5 w5 o5 G5 at5
    have HX5 := Lib.hid (XB.grown HX4.out HO4.out rfl (by decide) G5)
    obtain ⟨A5, c5, rfl, _⟩ := own_rd o5
    have HO5 := Lib.hid o5
    clear o5 G5 at5)
  have hfl : (bys (bitsL k.size 4) ++ byteCells k) ++ bys (bitsL s.toNat 8) = bys (bitsL k.size 4 ++ k.data.toList ++ bitsL s.toNat 8) := by
    rw [byteCells_bys, bys_append, bys_append]
  have HO5' : Hid (w5.drew.ownsRow w.heap.size 5 1 (.slice A5 (4 + k.size + 8) c5) (4 + k.size + 8) (bys (bitsL k.size 4 ++ k.data.toList ++ bitsL s.toNat 8))) := Lib.hid (by rw [← hfl]; exact HO5.out)
  have HXD := Lib.hid HX5.out.drew
  have y2 : w5.drew.cell? ⟨bx, 2, none⟩ = some (.slice A d.length c) := HXD.out.1.cell 2
  clear hfl HO5 HX4 HO4 HR4 HX5
  go_region_held3 (fun w' => w'.cell? ⟨bx, 2, none⟩ = some (.slice A d.length c) ∧ XB w w' bx [.string k, .int .i64 s, .slice A d.length c])
    (first
      | exact ⟨(X8.out.1.cell 2 : _ = some _), X8.out⟩
      | exact ⟨(X7.out.1.cell 2 : _ = some _), X7.out⟩
      | exact ⟨(X6.out.1.cell 2 : _ = some _), X6.out⟩
      | exact ⟨y2, HXD.out⟩
      | go_keep)
    (first
      | (go_at_call 54
         ((with_reducible refine (refbits_f (d.length : Int) 4 d.length 4 _ rfl rfl (by have := H4.out; omega) (by omega) (by omega)).mono ?_)); rintro e w6 ⟨g3, rfl, o6, K6⟩
         have X6 := Lib.hid (HXD.out.step K6)
         have O6 := Lib.hid (own_keep' HO5'.out K6 (fun g hg e => by have h1 := ownBlock_lt HO5'.out g hg; have h2 : w5.drew.heap.size ≤ g := e; omega)))
      | (refine step_append_src rfl (.tmp 16) (.tmp 20) 42 42 rfl w.heap.size 5 (.int .u8 0) 1 1 Try.underlying42 infoU8 rfl (by decide) (.slice A5 (4 + k.size + 8) c5) (4 + k.size + 8) _ (by rfl) O6.out (.slice (some ⟨g3, 0, none⟩) 4 4) 4 (bys (bitsL d.length 4)) (by rfl) (Src.of_rd Try.underlying42 (own_rd' o6) _ _ (by rw [bys_length, bitsL_len]) (one_bys _) (fun e => by cases e)) (by have := H1.out; unfold maxLen; omega) (by have := H1.out; omega) X6.out.2.size ?_; intro v7 w7 o7 G7 at7; have X7 := Lib.hid (XB.grown X6.out O6.out rfl (by decide) G7))
      | (refine step_append_src rfl (.tmp 21) (.tmp 23) 42 42 rfl w.heap.size 5 (.int .u8 0) 1 1 Try.underlying42 infoU8 rfl (by decide) v7 (4 + k.size + 8 + 4) _ (by rfl) o7 (.slice A d.length c) d.length (bys d) (by rfl) (Src.of_rd Try.underlying42 (HR.out.old X7.out.2) _ _ (by rw [bys_length, Nat.mul_one]) (one_bys _) (fun e => by rw [HA.out e]; rfl)) (by have := H1.out; have := H4.out; unfold maxLen; omega) (by have := H1.out; have := H4.out; omega) X7.out.2.size ?_; intro v8 w8 o8 G8 at8; have X8 := Lib.hid (XB.grown X7.out o7 rfl (by decide) G8)))
  have HO8 : Hid (w8.ownsRow w.heap.size 5 1 v8 (16 + k.size + d.length) (bys (putL k s d))) := Lib.hid (by
    have h := o8
    rw [show 4 + k.size + 8 + 4 + d.length = 16 + k.size + d.length by omega] at h
    have e : bys (bitsL k.size 4 ++ k.data.toList ++ bitsL s.toNat 8) ++ bys (bitsL d.length 4) ++ bys d = bys (putL k s d) := by
      rw [← bys_append, ← bys_append]
      congr 1
      simp [putL]
    rw [e] at h
    exact h)
  obtain ⟨A8, c8, rfl, hc8, _, hn8⟩ := own_rd HO8.out
  have HF : Hid (RefB w (16 + k.size + d.length) (putL k s d) (.returned (.slice A8 (16 + k.size + d.length) c8)) w8) := Lib.hid ⟨A8, c8, rfl, hc8, fun h => by
    cases A8 with
    | none => have := hn8 rfl; omega
    | some a => rfl, HO8.out, X8.out.2⟩
  clear o8 G8 at8 o7 G7 at7 o6 K6 hc8 hn8
  go_wp2_with fail
  go_ret
  exact HF.out
end Go.Proofs.Ytkglkpcpgdeneaa
