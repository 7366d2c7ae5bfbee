/- The reference's Begins. Conditions: none. -/
import Derived.Test.YtbkpjjibgnachaaBegS
import Derived.Test.YtbkpjjibgnachaaRefNum
import Derived.Test.YtbkpjjibgnachaaRefBytes
import Derived.RegionTactic
import Derived.Below
import Derived.BigRegion
import Derived.Deep.DeepCutAuto
import Derived.Deep.CutBlock
namespace Go.Proofs.Ytbkpjjibgnachaa
open Go.RowKit

theorem numL_first (l : List UInt8) (h : 8 ≤ l.length) (hb : 64 < (l[0]'(by omega)).toNat) : numL (l.take 8) > 4611686018427387904 := by
  have e : l.take 8 = l[0]'(by omega) :: (l.take 8).drop 1 := by
    cases l with
    | nil => simp at h
    | cons b r => simp
  have hf : ∀ (m : List UInt8) (n : Nat), n * 256 ^ m.length ≤ m.foldl (fun n b => n * 256 + b.toNat) n := by
    intro m
    induction m with
    | nil => intro n; simp
    | cons b r ih =>
      intro n
      refine Nat.le_trans ?_ (ih _)
      rw [List.length_cons, Nat.pow_succ, Nat.mul_comm (256 ^ r.length) 256, ← Nat.mul_assoc]
      exact Nat.mul_le_mul_right _ (show n * 256 ≤ n * 256 + b.toNat by omega)
  have hl : ((l.take 8).drop 1).length = 7 := by simp; omega
  have h1 : numL (l.take 8) = ((l.take 8).drop 1).foldl (fun n b => n * 256 + b.toNat) (l[0]'(by omega)).toNat := by
    unfold numL
    conv => lhs; rw [e]
    simp
  have h2 := hf ((l.take 8).drop 1) (l[0]'(by omega)).toNat
  rw [hl, ← h1] at h2
  have h3 : 65 * 256 ^ 7 ≤ (l[0]'(by omega)).toNat * 256 ^ 7 := Nat.mul_le_mul_right _ (by omega)
  have h4 : (65 : Nat) * 256 ^ 7 > 4611686018427387904 := by decide
  omega
theorem numL_small (l : List UInt8) (h : l.length ≤ 8) (hb : ∀ h0 : 0 < l.length, (l[0]'h0).toNat ≤ 64) : numL l ≤ 9223372036854775807 := by
  cases l with
  | nil => simp [numL]
  | cons b r =>
    have hb0 := hb (by simp)
    simp at hb0
    have hf : ∀ (m : List UInt8) (n : Nat), m.foldl (fun n b => n * 256 + b.toNat) n < (n + 1) * 256 ^ m.length := by
      intro m
      induction m with
      | nil => intro n; simp
      | cons b r ih =>
        intro n
        refine Nat.lt_of_lt_of_le (ih _) ?_
        rw [List.length_cons, Nat.pow_succ, Nat.mul_comm (256 ^ r.length) 256, ← Nat.mul_assoc]
        exact Nat.mul_le_mul_right _ (show n * 256 + b.toNat + 1 ≤ (n + 1) * 256 by have := b.toNat_lt; omega)
    have h1 : numL (b :: r) = r.foldl (fun n b => n * 256 + b.toNat) b.toNat := by simp [numL]
    rw [h1]
    have h2 := hf r b.toNat
    have h3 : (b.toNat + 1) * 256 ^ r.length ≤ 65 * 256 ^ 7 := Nat.mul_le_mul (by omega) (Nat.pow_le_pow_right (by omega) (by simp at h; omega))
    have h4 : (65 : Nat) * 256 ^ 7 ≤ 9223372036854775807 := by decide
    omega
theorem rdv_drop {w : World} {x : Addr} {l : List UInt8} (h : RdV w (some x) (bys l)) (m : Nat) : RdV w (some (x.add m)) (bys (l.drop m)) := by
  intro j u hj
  refine ⟨_, rfl, ?_⟩
  obtain ⟨y, hy, hc⟩ := h (m + j) u (by rw [← hj]; simp [bys, List.getElem?_drop])
  cases hy
  rw [Addr.add_add]
  exact hc
theorem beg_keep {w w9 : World} (g : (((w.alloc (Obj.cells #[Value.string ⟨#[]⟩, Value.int IntKind.i64 0, Value.slice none 0 0] 47)).alloc (Obj.cells #[] 5)).drew).grownBy w9 (Value.slice (some ⟨w.heap.size + 1, 0, none⟩) 0 0).ownBlock) : Keep (fun j => w.heap.size ≤ j) w w9 :=
  ((((Keep.refl _ w).alloc _).alloc _).drew).trans' (Keep.of_grown g) (fun j _ e => by injection (show some j = some (w.heap.size + 1) from e) with e; omega)
theorem beg_zb {w w9 : World} (g : (((w.alloc (Obj.cells #[Value.string ⟨#[]⟩, Value.int IntKind.i64 0, Value.slice none 0 0] 47)).alloc (Obj.cells #[] 5)).drew).grownBy w9 (Value.slice (some ⟨w.heap.size + 1, 0, none⟩) 0 0).ownBlock) : Blk w9 w.heap.size 47 [.string ⟨#[]⟩, .int .i64 0, .slice none 0 0] := by
  have h1 : Blk (((w.alloc (Obj.cells #[Value.string ⟨#[]⟩, Value.int IntKind.i64 0, Value.slice none 0 0] 47)).alloc (Obj.cells #[] 5)).drew) w.heap.size 47 [.string ⟨#[]⟩, .int .i64 0, .slice none 0 0] := (Blk.new w 47 [.string ⟨#[]⟩, .int .i64 0, .slice none 0 0]).alloc _
  exact h1.keep (Keep.of_grown g) (fun e => by injection (show some w.heap.size = some (w.heap.size + 1) from e) with e; omega)
theorem beg_zero {w : World} {l : List UInt8} (hb : begS l = none) (fn : Func) (hf : fn.results = #[.cell 2 47, .tmp 3, .tmp 4]) (tmps : Array Value) (h2 : tmps.getD 2 undef = .pointer (some ⟨w.heap.size, 0, none⟩)) (h3 : tmps.getD 3 undef = .int .i64 0) (h4 : tmps.getD 4 undef = .bool false) :
    bodyPost Try.prog fn (GetOut w l) .ret ⟨tmps, []⟩ (w.alloc (Obj.cells #[Value.string ⟨#[]⟩, Value.int IntKind.i64 0, Value.slice none 0 0] 47)) := by
  have hB := Blk.new w 47 (itemC ⟨#[]⟩ 0 (.slice none 0 0))
  refine bodyPost_ret (results_item hf tmps w.heap.size ⟨#[]⟩ 0 none 0 0 _ h2 hB) rfl ⟨(Keep.refl (fun j => w.heap.size ≤ j) w).alloc _, ?_⟩
  rw [hb, h3, h4]
theorem beg_yes {w w9 w' : World} {l : List UInt8} {k : List UInt8} {sq t : Nat} {d : List UInt8} (hb : begS l = some (k, sq, d, t)) (fn : Func) (hf : fn.results = #[.cell 2 47, .tmp 3, .tmp 4]) (tmps : Array Value) (A : Option Addr) (n c : Nat) (hn : n = d.length)
    (hw : w' = ((w9.setCell ⟨w.heap.size, 0, none⟩ (.string (str k))).setCell ⟨w.heap.size, 1, none⟩ (.int .i64 (sq : Nat))).setCell ⟨w.heap.size, 2, none⟩ (.slice A n c))
    (kk : Keep (fun j => w.heap.size ≤ j) w w9) (zb : Blk w9 w.heap.size 47 [.string ⟨#[]⟩, .int .i64 0, .slice none 0 0]) (ho : w9.ownsRow (w.heap.size + 1) 5 1 (.slice A n c) n (bys d))
    (h2 : tmps.getD 2 undef = .pointer (some ⟨w.heap.size, 0, none⟩)) (h3 : tmps.getD 3 undef = .int .i64 (t : Nat)) (h4 : tmps.getD 4 undef = .bool true) :
    bodyPost Try.prog fn (GetOut w l) .ret ⟨tmps, []⟩ w' := by
  subst hn hw
  have hB := ((zb.set 0 (.string (str k))).set 1 (.int .i64 (sq : Nat))).set 2 (.slice A d.length c)
  refine bodyPost_ret (results_item hf tmps w.heap.size (str k) sq A d.length c _ h2 hB) rfl ⟨?_, ?_⟩
  · exact ((kk.setCell (p := ⟨w.heap.size, 0, none⟩) (.inl (Nat.le_refl _)) _).setCell (p := ⟨w.heap.size, 1, none⟩) (.inl (Nat.le_refl _)) _).setCell (p := ⟨w.heap.size, 2, none⟩) (.inl (Nat.le_refl _)) _
  · rw [hb, h3, h4]
    exact ⟨A, c, w.heap.size + 1, rfl, Nat.le_succ _, Go.RowKit.ownsRow_setCell_below (Go.RowKit.ownsRow_setCell_below (Go.RowKit.ownsRow_setCell_below ho (Nat.lt_succ_self _) _) (Nat.lt_succ_self _) _) (Nat.lt_succ_self _) _⟩
set_option maxRecDepth 100000 in
set_option maxHeartbeats 8000000 in
theorem refbegins_any (A : Option Addr) (c : Nat) (l : List UInt8) (w : World) (hr : RdV w A (bys l)) (hA : A = none → l = []) (hl : l.length ≤ c) (hc : c ≤ 9223372036854775807) :
    Calls Try.prog 42 #[.slice A l.length c] w (GetOut w l) := by
  have HR := Lib.hid hr
  have HA := Lib.hid hA
  have q1 : (l.length : Int) ≤ c := by omega
  have q2 : (c : Int) ≤ 9223372036854775807 := by omega
  by_cases h16 : l.length < 16
  · have q3 : (l.length : Int) < 16 := by omega
    have HB := Lib.hid (begS_none l (.inl h16))
    clear hr hA hl hc h16
    go_enter Try.func42, Try.ntmps42
    go_wp2_with fail
    refine beg_zero HB.out _ ?_ _ ?_ ?_ ?_ <;> rfl
  · cases A with
    | none => rw [hA rfl] at h16; simp at h16
    | some x =>
      have q3 : (16 : Int) ≤ l.length := by omega
      have H16 := Lib.hid h16
      have HLC := Lib.hid (And.intro hl hc)
      clear hr hA hl hc h16
      go_enter Try.func42, Try.ntmps42
      go_wp2_with fail
      obtain ⟨k, hk⟩ : ∃ k, k = numL (l.take 4) := ⟨_, rfl⟩
      have hk32 : k < 4294967296 := by
        have := numL_lt (l.take 4)
        rw [← hk] at this
        have h4 : (l.take 4).length ≤ 4 := List.length_take_le _ _
        exact Nat.lt_of_lt_of_le this (Nat.le_trans (Nat.pow_le_pow_right (by omega) h4) (by decide))
      have HK := Lib.hid hk
      have HK32 := Lib.hid hk32
      clear hk hk32
      refine (refnumber_any (some x) 4 c 200 200 (l.take 4) _ rfl (by have := H16.out; simp; omega) ((rd_take HR.out 4).old ((Keep.refl _ w).alloc _)) (by rw [← HK.out]; have := HK32.out; omega) (by omega) (by have := List.length_take_le 4 l; omega)).mono ?_
      rintro e w' ⟨rfl, rfl⟩
      rw [← HK.out]
      by_cases hk2 : k ≤ 200
      · rw [if_pos hk2]
        have q4 : (k : Int) ≤ 200 := by omega
        by_cases hlk : l.length < 16 + k
        · have HB := Lib.hid (begS_none l (.inr (.inr (.inl (by rw [← HK.out]; exact hlk)))))
          have q5 : (l.length : Int) < 16 + k := by omega
          have q7 : (0 : Int) ≤ k := by omega
          have dk : decide ((k : Int) < 0) = false := decide_eq_false (by omega)
          have dk2 : decide ((l.length : Int) < 16 + (k : Int)) = true := decide_eq_true (by omega)
          clear hk2 hlk
          go_wp2_with fail
          refine beg_zero HB.out _ ?_ _ ?_ ?_ ?_ <;> rfl
        · have q5 : (16 : Int) + k ≤ l.length := by omega
          have HLK := Lib.hid hlk
          clear hk2 hlk
          have hcell : (w.alloc (Obj.cells #[Value.string ⟨#[]⟩, Value.int IntKind.i64 0, Value.slice none 0 0] 47)).cell? (x.add (4 + k)) = some (.int .u8 ((l[4 + k]'(by have := HLK.out; omega)).toNat : Int)) := by
            obtain ⟨y, hy, hc⟩ := (HR.out.old ((Keep.refl (fun j => w.heap.size ≤ j) w).alloc (Obj.cells #[Value.string ⟨#[]⟩, Value.int IntKind.i64 0, Value.slice none 0 0] 47))) (4 + k) (.int .u8 ((l[4 + k]'(by have := HLK.out; omega)).toNat : Int)) (by simp [bys, List.getElem?_eq_getElem (show 4 + k < l.length by have := HLK.out; omega)])
            cases hy; exact hc
          have q6 : (k : Int) + 16 ≤ c := by have := HLC.out; have := HLK.out; omega
          have q7 : (0 : Int) ≤ k := by omega
          have dk : decide ((k : Int) < 0) = false := decide_eq_false (by omega)
          have dk2 : decide ((l.length : Int) < 16 + (k : Int)) = false := decide_eq_false (by omega)
          have dl : decide ((l.length : Int) < 16) = false := decide_eq_false (by omega)
          obtain ⟨sq, hsq⟩ : ∃ sq, sq = numL ((l.drop (4 + k)).take 8) := ⟨_, rfl⟩
          obtain ⟨sI, hsI⟩ : ∃ sI : Int, sI = if sq ≤ 4611686018427387904 then (sq : Int) else -1 := ⟨_, rfl⟩
          have hd8 : 8 ≤ (l.drop (4 + k)).length := by have := HLK.out; rw [List.length_drop]; omega
          have e0 : (l.drop (4 + k))[0]'(by omega) = l[4 + k]'(by have := HLK.out; omega) := by simp
          have HFST : Hid (64 < (l[4 + k]'(by have := HLK.out; omega)).toNat → sI = -1) := Lib.hid (fun h => by rw [hsI, if_neg (by have := numL_first (l.drop (4 + k)) hd8 (by rw [e0]; exact h); omega)])
          have HSML : Hid ((l[4 + k]'(by have := HLK.out; omega)).toNat ≤ 64 → sq ≤ 9223372036854775807) := Lib.hid (fun h => by rw [hsq]; exact numL_small _ (List.length_take_le _ _) (fun h0 => by rw [List.getElem_take, e0]; exact h))
          have HSQ := Lib.hid hsq
          have HSI := Lib.hid hsI
          clear hsq hsI hd8 e0
          generalize (l[4 + k]'(by have := HLK.out; omega)).toNat = b0 at hcell HFST HSML
          go_upto_if 30 with fail
          go_cut [6] (fun v6 wx => v6 = .int .i64 sI ∧ wx = w.alloc (Obj.cells #[Value.string ⟨#[]⟩, Value.int IntKind.i64 0, Value.slice none 0 0] 47))
          case first =>
            by_cases hb : b0 ≤ 64
            · have d1 : (b0 : Int) ≤ 64 := by omega
              have HS9 := Lib.hid (HSML.out hb)
              clear hb
              go_wp2_with fail
              refine (refnumber_any (some (x.add (4 + k))) _ _ 4611686018427387904 4611686018427387904 ((l.drop (4 + k)).take 8) _ rfl (by have := HLK.out; simp; omega) ((rd_take (rdv_drop HR.out (4 + k)) 8).old ((Keep.refl _ w).alloc _)) (by rw [← HSQ.out]; exact HS9.out) (by omega) (by have := List.length_take_le 8 (l.drop (4 + k)); omega)).mono ?_
              rintro e w' ⟨rfl, rfl⟩
              rw [← HSQ.out, ← HSI.out]
              go_wp2_with fail
              go_meet
              exact ⟨rfl, rfl⟩
            · have d1 : decide ((b0 : Int) ≤ 64) = false := decide_eq_false (by omega)
              have HS9 := Lib.hid (HFST.out (by omega))
              have hb2 : (64 : Int) < b0 := by omega
              clear hb
              go_wp2_with fail
              go_meet
              exact ⟨by rw [HS9.out], rfl⟩
          case rest =>
            obtain ⟨rfl, rfl⟩ := hcut
            go_wp2_with fail
            obtain ⟨n, hn⟩ : ∃ n, n = numL ((l.drop (12 + k)).take 4) := ⟨_, rfl⟩
            have hn32 : n < 4294967296 := by
              have := numL_lt ((l.drop (12 + k)).take 4)
              rw [← hn] at this
              have h4 : ((l.drop (12 + k)).take 4).length ≤ 4 := List.length_take_le _ _
              exact Nat.lt_of_lt_of_le this (Nat.le_trans (Nat.pow_le_pow_right (by omega) h4) (by decide))
            have HN := Lib.hid hn
            have HN32 := Lib.hid hn32
            clear hn hn32
            refine (refnumber_any (some (x.add (12 + k))) _ _ 1048576 1048576 ((l.drop (12 + k)).take 4) _ rfl (by have := HLK.out; simp; omega) ((rd_take (rdv_drop HR.out (12 + k)) 4).old ((Keep.refl _ w).alloc _)) (by rw [← HN.out]; have := HN32.out; omega) (by omega) (by have := List.length_take_le 4 (l.drop (12 + k)); omega)).mono ?_
            rintro e w' ⟨rfl, rfl⟩
            rw [← HN.out]
            by_cases hs : sq ≤ 4611686018427387904
            · obtain rfl : sI = sq := by rw [HSI.out, if_pos hs]
              by_cases hn : n ≤ 1048576
              · rw [if_pos hn]
                by_cases hn2 : n > l.length - 16 - k
                · have HB := Lib.hid (begS_none l (.inr (.inr (.inr (.inr (.inr (by rw [← HK.out, ← HN.out]; exact hn2)))))))
                  have d4 : decide ((sq : Int) < 0) = false := decide_eq_false (by omega)
                  have d5 : decide ((n : Int) < 0) = false := decide_eq_false (by omega)
                  have d6 : decide ((l.length : Int) - 16 - (k : Int) < (n : Int)) = true := decide_eq_true (by have := HLK.out; omega)
                  clear hs hn hn2
                  go_wp2_with fail
                  refine beg_zero HB.out _ ?_ _ ?_ ?_ ?_ <;> rfl
                · have d1 : (n : Int) + 16 + k ≤ l.length := by have := HLK.out; omega
                  have d2 : (sq : Int) ≤ 4611686018427387904 := by omega
                  have d3 : (n : Int) ≤ 1048576 := by omega
                  have d4 : decide ((sq : Int) < 0) = false := decide_eq_false (by omega)
                  have d5 : decide ((n : Int) < 0) = false := decide_eq_false (by omega)
                  have d6 : decide ((l.length : Int) - 16 - (k : Int) < (n : Int)) = false := decide_eq_false (by omega)
                  have d7 : (16 : Int) + k + n ≤ c := by have := HLC.out; omega
                  have HNN := Lib.hid (And.intro hs (And.intro hn hn2))
                  clear hs hn hn2
                  have HU := Lib.hid (And.intro d7 d7)
                  have w1 : IntKind.i64.wrap (4 + (k : Int)) = 4 + (k : Int) := IntWalk.i64_in _ (by omega)
                  have w2 : IntKind.i64.wrap (16 + (k : Int)) = 16 + (k : Int) := IntWalk.i64_in _ (by omega)
                  have w3 : IntKind.i64.wrap (16 + (k : Int) + (n : Int)) = 16 + (k : Int) + (n : Int) := IntWalk.i64_in _ (by omega)
                  have b1 : (0 : Int) ≤ 4 + (k : Int) := by omega
                  have b2 : (0 : Int) ≤ 16 + (k : Int) := by omega
                  have b3 : (0 : Int) ≤ 16 + (k : Int) + (n : Int) := by omega
                  have t1 : (4 + (k : Int)).toNat = 4 + k := by omega
                  have t2 : (16 + (k : Int)).toNat = 16 + k := by omega
                  have t3 : (16 + (k : Int) + (n : Int)).toNat = 16 + k + n := by omega
                  have b4 : (4 : Int) ≤ 4 + (k : Int) := by omega
                  have b5 : 4 + (k : Int) ≤ (c : Int) := by omega
                  have b6 : 16 + (k : Int) ≤ 16 + (k : Int) + (n : Int) := by omega
                  have hc4 : ¬ c = 4 := by have := HLC.out; omega
                  have hcf : ∀ u : World, Keep (fun j => w.heap.size ≤ j) w u → (convert 28 9 (.slice (some ⟨x.block, x.off + 4, none⟩) k (c - 4))).run Try.prog u = .ok (.string (str ((l.drop 4).take k))) u := fun u ku =>
                    run_bytes_str (P := Try.prog) 28 9 5 Try.underlying28 Try.underlying5 Try.underlying9 k (c - 4) ((rd_take (rdv_drop HR.out 4) k).old ku) (by have := HLK.out; simp; omega) (fun e => by cases e)
                  have HCF := Lib.hid hcf
                  have cv0 := fun (_ : True) => hcf (w.alloc (Obj.cells #[Value.string ⟨#[]⟩, Value.int IntKind.i64 0, Value.slice none 0 0] 47)).drew ((Keep.refl _ w).alloc _).drew
                  have cv1 := fun (_ : True) => hcf ((w.alloc (Obj.cells #[Value.string ⟨#[]⟩, Value.int IntKind.i64 0, Value.slice none 0 0] 47)).alloc (Obj.cells #[] 5)).drew (((Keep.refl _ w).alloc _).alloc _).drew
                  have HOW0 : Hid ((((w.alloc (Obj.cells #[Value.string ⟨#[]⟩, Value.int IntKind.i64 0, Value.slice none 0 0] 47)).alloc (Obj.cells #[] 5)).drew).ownsRow (w.heap.size + 1) 5 1 (.slice (some ⟨w.heap.size + 1, 0, none⟩) 0 0) 0 []) := Lib.hid (by
                    have := own_empty (w.alloc (Obj.cells #[Value.string ⟨#[]⟩, Value.int IntKind.i64 0, Value.slice none 0 0] 47)) (w.heap.size + 1) 5 1 (by simp) (w.heap.size + 1) (by simp)
                    exact this)
                  have HSRC : Hid (Src Try.prog 1 28 (.slice (if c = 16 + k then some x else some (x.add (16 + k))) n (c - (16 + k))) n (bys ((l.drop (16 + k)).take n)) (((w.alloc (Obj.cells #[Value.string ⟨#[]⟩, Value.int IntKind.i64 0, Value.slice none 0 0] 47)).alloc (Obj.cells #[] 5)).drew)) := Lib.hid (by
                    have h1 := HLK.out
                    have h2 := HNN.out.2.2
                    have h3 := HLC.out
                    refine Src.of_rd Try.underlying28 ?_ _ _ (by rw [bys_length]; simp; omega) (one_bys _) (fun e => by split at e <;> cases e)
                    by_cases hcc : c = 16 + k
                    · rw [List.drop_of_length_le (by omega)]
                      simp only [List.take_nil]
                      exact RdV.nil _ _
                    · rw [if_neg hcc]
                      exact (rd_take (rdv_drop HR.out (16 + k)) n).old (((Keep.refl _ w).alloc _).alloc _).drew)
                  have HBD := Lib.hid (And.intro (And.intro q4 d3) q4)
                  have HBG := Lib.hid (begS_some l k sq n HK.out HSQ.out HN.out H16.out (by have := HBD.out; omega) HLK.out HNN.out.1 HNN.out.2.1 HNN.out.2.2)
                  clear hcf
                  go_wp2_with fail
                  go_region_law (
                    refine step_append_src rfl (.tmp 67) (.tmp 75) 28 28 rfl (w.heap.size + 1) 5 (.int .u8 0) 1 1 Try.underlying28 infoU8 rfl (by decide) (.slice (some ⟨w.heap.size + 1, 0, none⟩) 0 0) 0 [] (by rfl) HOW0.out (.slice (if c = 16 + k then some x else some (x.add (16 + k))) n (c - (16 + k))) n (bys ((l.drop (16 + k)).take n)) (by rfl) HSRC.out (by have := HBD.out; unfold maxLen; omega) (by have := HBD.out; omega) (by simp) ?_
                    intro v9 w9 o9 g9 at9
                    obtain ⟨A9, c9, rfl, hle9, hrd9, hnn9⟩ := own_rd o9
                    have kk9 := beg_keep g9
                    have cv2 := fun (_ : True) => HCF.out w9 kk9
                    have zb := beg_zb g9
                    have z0 := zb.cell 0
                    have z1 := zb.cell 1
                    have z2 := zb.cell 2
                    have zf0 := zb.free 0
                    have zf1 := zb.free 1
                    have zf2 := zb.free 2
                    simp only [List.getElem?_cons_zero, List.getElem?_cons_succ] at z0 z1 z2)
                  all_goals go_wp2_with fail
                  all_goals
                    refine beg_yes HBG.out _ rfl _ A9 _ c9 (by have := HNN.out.2.2; have := HLK.out; simp; omega) rfl kk9 zb (by rw [Nat.zero_add] at o9; exact o9) (by rfl) (by rfl) (by rfl)
              · rw [if_neg hn]
                have HB := Lib.hid (begS_none l (.inr (.inr (.inr (.inr (.inl (by rw [← HK.out, ← HN.out]; omega)))))))
                have d4 : decide ((sq : Int) < 0) = false := decide_eq_false (by omega)
                clear hs hn
                go_wp2_with fail
                refine beg_zero HB.out _ ?_ _ ?_ ?_ ?_ <;> rfl
            · obtain rfl : sI = -1 := by rw [HSI.out, if_neg hs]
              have HB := Lib.hid (begS_none l (.inr (.inr (.inr (.inl (by rw [← HK.out, ← HSQ.out]; omega))))))
              clear hs
              generalize (if n ≤ 1048576 then (n : Int) else -1) = nI
              go_wp2_with fail
              refine beg_zero HB.out _ ?_ _ ?_ ?_ ?_ <;> rfl
      · rw [if_neg hk2]
        have HB := Lib.hid (begS_none l (.inr (.inl (by rw [← HK.out]; omega))))
        clear hk2
        go_wp2_with fail
        refine beg_zero HB.out _ ?_ _ ?_ ?_ ?_ <;> rfl
end Go.Proofs.Ytbkpjjibgnachaa
