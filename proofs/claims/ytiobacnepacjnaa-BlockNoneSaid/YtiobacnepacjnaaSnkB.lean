/- A sink's other methods. Conditions: none. -/
import Derived.Test.YtiobacnepacjnaaSnk
import Derived.Deep.OwnRows
namespace Go.Proofs.Ytiobacnepacjnaa
open Go.RowKit

theorem made_bys (n : Nat) : (madeCells #[Value.int .u8 0] n).toList = bys (List.replicate n 0) := by
  simp [madeCells, bys, Nat.mod_one]
  exact List.eq_replicate_iff.2 ⟨by simp, fun b hb => by
    obtain ⟨_, _, rfl⟩ := List.mem_map.1 hb
    rfl⟩
theorem made_rd (w : World) (n : Nat) (T : TypeId) (b : Nat) (hb : b = w.heap.size) : RdV (w.alloc (.cells (madeCells #[Value.int .u8 0] n) T)) (some ⟨b, 0, none⟩) (bys (List.replicate n 0)) := by
  have := RdV.new w T (bys (List.replicate n 0)) b hb
  have e : (bys (List.replicate n 0)).toArray = madeCells #[Value.int .u8 0] n := by rw [← made_bys, Array.toArray_toList]
  rwa [e] at this
/-- A literal of slices. -/
theorem lit_rows (w : World) (T : TypeId) (xs : List (Option Addr × Nat × List UInt8)) (h : ∀ x ∈ xs, RdV w x.1 (bys x.2.2) ∧ (x.1 = none → x.2.2 = [])) (b : Nat) (hb : b = w.heap.size) :
    RdRows (w.alloc (.cells (xs.map fun x => Value.slice x.1 x.2.2.length x.2.1).toArray T)) (some ⟨b, 0, none⟩) (xs.map (·.2.2)) := by
  subst hb
  intro i hi
  have hi' : i < xs.length := by simpa using hi
  obtain ⟨h1, h2⟩ := h xs[i] (List.getElem_mem hi')
  refine ⟨_, xs[i].1, xs[i].2.1, rfl, ?_, ?_, ?_⟩
  · rw [add_plain, Nat.zero_add]
    have := (Blk.new w T (xs.map fun x => Value.slice x.1 x.2.2.length x.2.1)).cell i
    rw [this]
    simp [hi']
  · simpa using h1.old ((Keep.refl _ w).alloc _)
  · simpa using h2
section
variable {w0 w : World} {ps : List Part} {kb : Nat} {l : List UInt8}
theorem St.snk_new (h : St w0 w ps) (b : Nat) (hb : b = w.heap.size) : St w0 (w.alloc (Obj.cells #[.slice none 0 0] 43)) (snkP b [] :: ps) := by
  subst hb
  have hB := Blk.new w 43 [.slice none 0 0]
  refine h.new (q := snkP w.heap.size []) (F := fun k => k = w.heap.size) ((Keep.refl _ w).alloc _) ⟨none, 0, hB, World.ownsRow_nil _ _ _ _, by simp [Value.ownBlock], rfl, (fun k hk => by cases hk), (fun k hk => by have e : k = w.heap.size := hk; rw [e]; exact hB.lt)⟩ (fun j hj => by omega)
theorem snk_put_nil (A : Option Addr) (n c : Nat) (w : World) : Calls Try.prog 17 #[.pointer none, .slice A n c] w fun e w' => e = .returned (.tuple #[]) ∧ w = w' := by
  go_enter Try.func17, Try.ntmps17
  go_wp2
  go_end0
  exact ⟨rfl, rfl⟩
set_option maxRecDepth 100000 in
theorem St.snk_fill (h : St w0 w (snkP kb l :: ps)) (n : Nat) (z : Int) (hz : z = n) (M : List UInt8) (hM : M = l ++ List.replicate n 0) (ht : l.length + n ≤ 140737488355328) :
    Calls Try.prog 26 #[.pointer (some ⟨kb, 0, none⟩), .int .i64 z] w fun e w' => e = .returned (.tuple #[]) ∧ St w0 w' (snkP kb M :: ps) := by
  subst hz
  have HS := Lib.hid h
  have HM := Lib.hid (And.intro hM ht)
  have hmk := fun (_ : True) => run_make_row' (P := Try.prog) 22 5 (.int .u8 0) 1 Try.underlying22 infoU8k rfl .i64 .i64 n (by omega) (by omega) w
  clear h hM ht
  go_enter Try.func26, Try.ntmps26
  go_wp2_with fail
  clear hmk
  obtain ⟨b, hb⟩ : ∃ b, b = w.heap.size + 1 := ⟨_, rfl⟩
  have hrd := made_rd w n 5 w.heap.size rfl
  have hrow := lit_rows (w.alloc (.cells (madeCells #[Value.int .u8 0] n) 5)) 22 [(some ⟨w.heap.size, 0, none⟩, n, List.replicate n 0)] (fun x hx => by
    obtain rfl := List.mem_singleton.1 hx
    exact ⟨hrd, fun e => by cases e⟩) b (by simp [hb])
  simp only [List.map_cons, List.map_nil, List.length_replicate] at hrow
  have hs2 := (HS.out.alloc (.cells (madeCells #[Value.int .u8 0] n) 5)).alloc (.cells #[.slice (some ⟨w.heap.size, 0, none⟩) n n] 22)
  rw [← hb]
  refine (St.snk_put hs2 (some ⟨b, 0, none⟩) 1 1 [List.replicate n 0] (List.replicate n 0) (by simp) hrow rfl (by simp) (by rw [List.length_replicate]; exact HM.out.2)).mono ?_
  rintro e w3 ⟨rfl, hs3⟩
  rw [← HM.out.1] at hs3
  have HS3 := Lib.hid hs3
  clear hs3 hs2 hrow hrd HS
  go_wp2_with fail
  go_end0
  exact ⟨rfl, HS3.out⟩
theorem snk_fill_nil (n : Nat) (z : Int) (hz : z = n) (hn : n ≤ 140737488355328) (w : World) : Calls Try.prog 26 #[.pointer none, .int .i64 z] w fun e w' => e = .returned (.tuple #[]) ∧ Keep (fun j => w.heap.size ≤ j) w w' := by
  subst hz
  have hmk := fun (_ : True) => run_make_row' (P := Try.prog) 22 5 (.int .u8 0) 1 Try.underlying22 infoU8k rfl .i64 .i64 n (by omega) (by omega) w
  clear hn
  go_enter Try.func26, Try.ntmps26
  go_wp2_with fail
  clear hmk
  refine (snk_put_nil _ _ _ _).mono ?_
  rintro e w3 ⟨rfl, rfl⟩
  go_wp2_with fail
  go_end0
  exact ⟨rfl, ((Keep.refl _ w).alloc _).alloc _⟩
theorem St.snk_end (h : St w0 w (snkP kb l :: ps)) (M : List UInt8) (hM : M = l ++ List.replicate 1024 0) (ht : l.length ≤ 140737488351232) :
    Calls Try.prog 18 #[.pointer (some ⟨kb, 0, none⟩)] w fun e w' => e = .returned (.tuple #[]) ∧ St w0 w' (snkP kb M :: ps) := by
  have HS := Lib.hid h
  have HM := Lib.hid (And.intro hM ht)
  clear h hM ht
  go_enter Try.func18, Try.ntmps18
  go_wp2_with fail
  refine (St.snk_fill HS.out 1024 1024 rfl M HM.out.1 (by have := HM.out.2; omega)).mono ?_
  rintro e w3 ⟨rfl, hs3⟩
  have HS3 := Lib.hid hs3
  clear hs3 HS
  go_wp2_with fail
  go_end0
  exact ⟨rfl, HS3.out⟩
theorem snk_end_nil (w : World) : Calls Try.prog 18 #[.pointer none] w fun e w' => e = .returned (.tuple #[]) ∧ Keep (fun j => w.heap.size ≤ j) w w' := by
  go_enter Try.func18, Try.ntmps18
  go_wp2_with fail
  refine (snk_fill_nil 1024 1024 rfl (by decide) w).mono ?_
  rintro e w3 ⟨rfl, hs3⟩
  have HS3 := Lib.hid hs3
  clear hs3
  go_wp2_with fail
  go_end0
  exact ⟨rfl, HS3.out⟩
/-- To whole blocks. -/
def padB (l : List UInt8) : List UInt8 := l ++ List.replicate ((l.length + 511) / 512 * 512 - l.length) 0
theorem pad_len (n : Nat) (hn : n ≤ 140737488351232) : ∃ m : Nat, padR n = ((m : Int), true) ∧ m = (n + 511) / 512 * 512 ∧ n ≤ m ∧ m ≤ 140737488351743 := by
  refine ⟨(n + 511) / 512 * 512, ?_, rfl, by omega, by omega⟩
  unfold padR
  rw [if_pos (by omega)]
  exact Prod.ext (by show ((n : Int) + 511) / 512 * 512 = (((n + 511) / 512 * 512 : Nat) : Int); omega) rfl
set_option maxRecDepth 100000 in
theorem St.snk_body (h : St w0 w (snkP kb l :: ps)) (A : Option Addr) (n c : Nat) (B M : List UInt8) (hM : M = l ++ padB B) (hr : RdV w A (bys B)) (hA : A = none → B = []) (hn : n = B.length) (hl : n ≤ 140737488350000) (ht : l.length + (padB B).length ≤ 140737488355328) :
    Calls Try.prog 16 #[.pointer (some ⟨kb, 0, none⟩), .slice A n c] w fun e w' => e = .returned (.tuple #[]) ∧ St w0 w' (snkP kb M :: ps) := by
  obtain ⟨m, hp, hm, hm1, hm2⟩ := pad_len n (by omega)
  have HS := Lib.hid h
  have HP := Lib.hid hp
  have HR := Lib.hid (And.intro hr hA)
  have HM := Lib.hid (And.intro hM (And.intro hm (And.intro hn ht)))
  have q1 : (n : Int) ≤ (m : Int) := by omega
  have q2 : (m : Int) ≤ 140737488351743 := by omega
  have q3 : (0 : Int) ≤ (n : Int) := by omega
  have HQ : Hid ((padB B).length = m) := Lib.hid (by unfold padB; rw [List.length_append, List.length_replicate, ← hn, ← hm]; omega)
  have HN := Lib.hid (And.intro hl hm1)
  clear h hp hr hA hM hm hn ht hm1 hm2 hl
  go_enter Try.func16, Try.ntmps16
  go_wp2_with fail
  refine (pad_c n m true _ HP.out).mono ?_
  rintro e w' ⟨rfl, rfl⟩
  go_wp2_with fail
  obtain ⟨b, hb⟩ : ∃ b, b = w.heap.size := ⟨_, rfl⟩
  have hrow := lit_rows w 22 [(A, c, B)] (fun x hx => by
    obtain rfl := List.mem_singleton.1 hx
    exact ⟨HR.out.1, HR.out.2⟩) b hb
  simp only [List.map_cons, List.map_nil] at hrow
  rw [← HM.out.2.2.1] at hrow
  have hs2 := HS.out.alloc (.cells #[.slice A n c] 22)
  rw [← hb]
  refine (St.snk_put hs2 (some ⟨b, 0, none⟩) 1 1 [B] B (by simp) hrow rfl (by simp) (by have := HM.out.2.2.2; have := HQ.out; have := HN.out; have := HM.out.2.2.1; omega)).mono ?_
  rintro e w3 ⟨rfl, hs3⟩
  have HS3 := Lib.hid hs3
  obtain ⟨q, hq⟩ : ∃ q : Nat, (m : Int) - (n : Int) = (q : Int) := ⟨m - n, by omega⟩
  have HQ2 : Hid (q = m - n) := Lib.hid (by omega)
  clear hs3 hs2 hrow HS hb
  go_wp2_with fail
  clear hq
  refine (St.snk_fill HS3.out q q rfl M (by rw [HM.out.1, HQ2.out, HM.out.2.1, HM.out.2.2.1]; unfold padB; rw [List.append_assoc]) (by rw [List.length_append]; have := HM.out.2.2; have := HQ.out; have := HQ2.out; have := HN.out; omega)).mono ?_
  rintro e w4 ⟨rfl, hs4⟩
  have HS4 := Lib.hid hs4
  clear hs4 HS3
  go_wp2_with fail
  go_end0
  exact ⟨rfl, HS4.out⟩
set_option maxRecDepth 100000 in
theorem snk_body_nil (A : Option Addr) (n c : Nat) (hl : n ≤ 140737488350000) (w : World) : Calls Try.prog 16 #[.pointer none, .slice A n c] w fun e w' => e = .returned (.tuple #[]) ∧ Keep (fun j => w.heap.size ≤ j) w w' := by
  obtain ⟨m, hp, hm, hm1, hm2⟩ := pad_len n (by omega)
  have HP := Lib.hid hp
  have q1 : (n : Int) ≤ (m : Int) := by omega
  have q2 : (m : Int) ≤ 140737488351743 := by omega
  have q3 : (0 : Int) ≤ (n : Int) := by omega
  have HN := Lib.hid (And.intro hl hm2)
  clear hp hm hm1 hm2 hl
  go_enter Try.func16, Try.ntmps16
  go_wp2_with fail
  refine (pad_c n m true _ HP.out).mono ?_
  rintro e w' ⟨rfl, rfl⟩
  go_wp2_with fail
  refine (snk_put_nil _ _ _ _).mono ?_
  rintro e w3 ⟨rfl, rfl⟩
  obtain ⟨q, hq⟩ : ∃ q : Nat, (m : Int) - (n : Int) = (q : Int) := ⟨m - n, by omega⟩
  have HQ2 : Hid (q ≤ m) := Lib.hid (by omega)
  go_wp2_with fail
  clear hq
  refine (snk_fill_nil q q rfl (by have := HQ2.out; have := HN.out; omega) _).mono ?_
  rintro e w4 ⟨rfl, hs4⟩
  have HS4 := Lib.hid (((Keep.refl (fun j => w.heap.size ≤ j) w).alloc (.cells #[.slice A n c] 22)).trans' hs4 (fun j _ h => by
    have e : (w.alloc (.cells #[.slice A n c] 22)).heap.size = w.heap.size + 1 := by simp
    omega))
  clear hs4
  go_wp2_with fail
  go_end0
  exact ⟨rfl, HS4.out⟩
/-- What a sink holds, handed out. -/
def OutS (w0 : World) (ps : List Part) (n : Nat) (L : List UInt8) (e : Ending) (w' : World) : Prop := ∃ (A : Option Addr) (c : Nat), e = .returned (.slice A n c) ∧ n ≤ c ∧ (A = none → n = 0 ∧ c = 0) ∧ St w0 w' (ownP 5 1 (.slice A n c) n (bys L) :: ps)
set_option maxRecDepth 100000 in
theorem St.snk_out (h : St w0 w (snkP kb l :: ps)) (n : Nat) (hn : n = l.length) (ht : n ≤ 140737488351232) :
    Calls Try.prog 19 #[.pointer (some ⟨kb, 0, none⟩)] w (OutS w0 (snkP kb l :: ps) n l) := by
  obtain ⟨F, ⟨A, c, hB, ho, _⟩, _⟩ := h.open_
  rw [← hn] at hB ho
  have c0 : w.cell? ⟨kb, 0, none⟩ = some (.slice A n c) := hB.cell 0
  have HS := Lib.hid h
  have HO := Lib.hid ho
  have HT := Lib.hid (And.intro hn ht)
  clear h hB ho hn ht
  go_enter Try.func19, Try.ntmps19
  go_wp2_with fail
  obtain ⟨_, _, e1, _, hr, hn0⟩ := own_rd HO.out
  injection e1 with e1 _ e3
  subst e1 e3
  have hnc : A = none → n = 0 ∧ c = 0 := by
    intro e
    rcases own_form HO.out with ⟨e2, _⟩ | ⟨_, _, e2, _⟩
    · injection e2 with _ e2 e3; exact ⟨e2, e3⟩
    · rw [e] at e2; injection e2 with e2 _ _; cases e2
  refine (cloneB_any A n c (bys l) w hr (by rw [bys_length, HT.out.1]) hnc (one_bys _) (by have := HT.out.2; omega)).mono ?_
  rintro e w2 ⟨v, rfl, ho2, hk2⟩
  obtain ⟨A2, c2, rfl, hc2, _, hn2⟩ := own_rd ho2
  have hnc2 : A2 = none → n = 0 ∧ c2 = 0 := by
    intro e
    rcases own_form ho2 with ⟨e2, _⟩ | ⟨_, _, e2, _⟩
    · injection e2 with _ e2 e3; exact ⟨e2, e3⟩
    · rw [e] at e2; injection e2 with e2 _ _; cases e2
  have HS2 := Lib.hid (HS.out.made ho2 (hk2.mono (fun _ _ h => h.elim)))
  have HC := Lib.hid (And.intro hc2 hnc2)
  clear ho2 hk2 hr hn0 hnc hc2 hn2 hnc2
  go_wp2_with fail
  go_ret
  exact ⟨A2, c2, rfl, HC.out.1, HC.out.2, HS2.out⟩
theorem snk_out_nil (w : World) : Calls Try.prog 19 #[.pointer none] w fun e w' => e = .returned (.slice none 0 0) ∧ w = w' := by
  go_enter Try.func19, Try.ntmps19
  go_wp2
  go_ret
  exact ⟨rfl, rfl⟩
end
end Go.Proofs.Ytiobacnepacjnaa
