/- A new source; whether only bytes 0 are left. Conditions: none. -/
import Derived.Test.YtiobacnepacjnaaSrcC
namespace Go.Proofs.Ytiobacnepacjnaa
open Go.RowKit

section
variable {w0 w : World} {ps : List Part} {sb : Nat} {l : List UInt8} {place : Nat}
theorem aside_own {w : World} {base : Nat} {e : TypeId} {n c : Nat} {A : Option Addr} {xs : List Value} {F : Nat → Prop} {sb : Nat} (h : w.ownsRow base e 1 (.slice A n c) n xs) (hF : ∀ g, Value.ownBlock (.slice A n c) = some g → F g ∧ g ≠ sb) : Aside w F sb A xs := by
  obtain ⟨A', c', e1, _, hr, _⟩ := own_rd h
  injection e1 with e1 _ _
  subst e1
  rcases own_form h with ⟨e1, _, e3⟩ | ⟨g, _, e1, _⟩
  · injection e1 with e1 _ _
    subst e1 e3
    exact .inl ⟨rfl, rfl⟩
  · injection e1 with e1 _ _
    subst e1
    obtain ⟨h1, h2⟩ := hF g rfl
    exact .inr ⟨g, 0, rfl, h2, h1, hr⟩
set_option maxRecDepth 100000 in
set_option maxHeartbeats 4000000 in
theorem St.src_new (h : St w0 w ps) (A : Option Addr) (n c : Nat) (l : List UInt8) (C : Option Addr) (m cc : Nat) (ch : List Int) (hr : RdV w A (bys l)) (hn : n = l.length) (hA : A = none → n = 0 ∧ c = 0) (hl : n ≤ 140737488351232)
    (hrc : RdV w C (ch.map (Value.int .i64))) (hm : m = ch.length) (hC : C = none → m = 0 ∧ cc = 0) (hcl : m * 8 ≤ 140737488351232) :
    Calls Try.prog 9 #[.slice A n c, .slice C m cc] w fun e w' => ∃ sb, e = .returned (.pointer (some ⟨sb, 0, none⟩)) ∧ St w0 w' (srcP sb l 0 :: ps) := by
  subst hn hm
  have HS := Lib.hid h
  have HRC := Lib.hid (And.intro hrc (And.intro hC hcl))
  have HR := Lib.hid (And.intro hr (And.intro hA hl))
  clear h hrc hC hcl hr hA hl
  go_enter Try.func9, Try.ntmps9
  go_wp2_with fail
  refine (cloneB_any A l.length c (bys l) w HR.out.1 (bys_length l) HR.out.2.1 (one_bys _) (by have := HR.out.2.2; omega)).mono ?_
  rintro e w2 ⟨v2, rfl, ho2, hk2⟩
  obtain ⟨A2, c2, rfl, hc2, _, _⟩ := own_rd ho2
  have HO2 := Lib.hid (And.intro ho2 hk2)
  clear ho2 hk2
  go_wp2_with fail
  refine (cloneI_any C ch.length cc (ch.map (Value.int .i64)) w2 (HRC.out.1.keep HO2.out.2 (fun _ _ _ h => h)) (by simp) HRC.out.2.1 (one_ints .i64 ch) (by have := HRC.out.2.2; omega)).mono ?_
  rintro e w3 ⟨v3, rfl, ho3, hk3⟩
  obtain ⟨A3, c3, rfl, hc3, _, _⟩ := own_rd ho3
  have HO3 := Lib.hid (And.intro ho3 hk3)
  have hcm := own_form HO2.out.1
  have HC2 := Lib.hid hc2
  clear ho3 hk3 hc2 hc3 hcm
  go_wp2_with fail
  go_ret
  refine ⟨w3.heap.size, rfl, ?_⟩
  have hB := Blk.new w3 55 [.slice A2 l.length c2, .slice A3 ch.length c3, .int .i64 0, .int .i64 0]
  have hkk : Keep (fun _ => False) w (w3.alloc (Obj.cells #[.slice A2 l.length c2, .slice A3 ch.length c3, .int .i64 0, .int .i64 0] 55)) := (HO2.out.2.trans HO3.out.2).alloc _
  have ho2' := (own_keep' HO2.out.1 (HO3.out.2.alloc (Obj.cells #[.slice A2 l.length c2, .slice A3 ch.length c3, .int .i64 0, .int .i64 0] 55)) (fun _ _ h => h))
  have ho3' := (own_keep' HO3.out.1 ((Keep.refl (fun _ => False) w3).alloc (Obj.cells #[.slice A2 l.length c2, .slice A3 ch.length c3, .int .i64 0, .int .i64 0] 55)) (fun _ _ h => h))
  have hz2 := HO2.out.2.size
  have hz3 := HO3.out.2.size
  have hsz : (w3.alloc (Obj.cells #[.slice A2 l.length c2, .slice A3 ch.length c3, .int .i64 0, .int .i64 0] 55)).heap.size = w3.heap.size + 1 := by simp
  have hb2 : ∀ g, Value.ownBlock (.slice A2 l.length c2) = some g → w.heap.size ≤ g ∧ g < w3.heap.size := fun g e => by
    have := own_base HO2.out.1 g e
    have := ownBlock_lt HO2.out.1 g e
    omega
  have hb3 : ∀ g, Value.ownBlock (.slice A3 ch.length c3) = some g → w.heap.size ≤ g ∧ g < w3.heap.size := fun g e => by
    have := own_base HO3.out.1 g e
    have := ownBlock_lt HO3.out.1 g e
    omega
  have hcc : c2 ≤ 9223372036854775807 := by
    rcases own_form HO2.out.1 with ⟨e, _⟩ | ⟨_, _, e, _, h, _⟩
    · injection e with _ _ e; omega
    · injection e with _ _ e; omega
  refine HS.out.new (q := srcP w3.heap.size l 0) (F := fun j => w.heap.size ≤ j ∧ j ≤ w3.heap.size) (hkk.mono (fun _ _ f => f.elim)) ⟨A2, c2, A3, c3, ch, 0, hB, ?_, HC2.out, hcc, by have := HRC.out.2.2; omega, ?_, ?_, ⟨by omega, Nat.le_refl _⟩, fun k hk => by omega⟩ (fun j hj => hj.1)
  · cases ch with
    | nil => exact .inl rfl
    | cons => exact .inr (by simp)
  · exact aside_own ho2' (fun g e => by have := hb2 g e; omega)
  · exact aside_own ho3' (fun g e => by have := hb3 g e; omega)
theorem rest1 (b : Int) (w : World) : Calls Try.prog 25 #[.int .u8 b] w fun e w' => e = .returned (.bool (b != 0)) ∧ w = w' := by
  go_enter Try.func25, Try.ntmps25
  go_wp2
  go_ret
  exact ⟨rfl, rfl⟩
theorem rest1_c (b : UInt8) (q : Bool) (hq : (b != 0) = q) (w : World) : Calls Try.prog 25 #[.int .u8 (b.toNat : Int)] w fun e w' => e = .returned (.bool q) ∧ w = w' := by
  refine (rest1 b.toNat w).mono ?_
  rintro e w' ⟨rfl, rfl⟩
  refine ⟨ret_bool ?_, rfl⟩
  rw [← hq, Bool.eq_iff_iff]
  simp only [bne_iff_ne, ne_eq]
  refine not_congr ⟨fun h => ?_, fun h => by rw [h]; rfl⟩
  have : b.toNat = 0 := by omega
  exact UInt8.toNat_inj.1 this
/-- IndexFunc's answer: whether there is one. -/
def IdxS (l : List UInt8) (w : World) (e : Ending) (w' : World) : Prop := ∃ k : Int, e = .returned (.int .i64 k) ∧ decide (0 ≤ k) = !(l.all (· == 0)) ∧ w = w'
set_option maxRecDepth 100000 in
set_option maxHeartbeats 4000000 in
theorem index_any (A : Option Addr) (c : Nat) (l : List UInt8) (w : World) (hr : RdV w A (bys l)) (hl : l.length ≤ 4611686018427387904) :
    Calls Try.prog 30 #[.slice A l.length c, .func (Fn.func 25) #[] #[]] w (IdxS l w) := by
  have HR := Lib.hid hr
  have q0 : (l.length : Int) ≤ 4611686018427387904 := by omega
  clear hr hl
  go_enter Try.func30, Try.ntmps30
  go_wp2_with fail
  go_loop [8] (fun v8 => ∃ i : Nat, i ≤ l.length ∧ v8 = .int .i64 i ∧ Hid ((l.take i).all (· == 0) = true)) (fun v8 => l.length - (intOf v8).toNat)
  case atStart => exact ⟨0, Nat.zero_le _, rfl, Lib.hid rfl⟩
  case round =>
    obtain ⟨i, hi, rfl, HA⟩ := hrel
    by_cases hlt : i < l.length
    · have q1 : (0 : Int) ≤ i := by omega
      have q2 : (i : Int) < (l.length : Int) := by omega
      obtain ⟨x, rfl, hx⟩ := HR.out i (.int .u8 (l[i].toNat : Int)) (by simp [bys, hlt])
      cases hb : (l[i] != 0)
      · have HN : Hid ((l.take (i + 1)).all (· == 0) = true) := Lib.hid (by
          rw [List.take_succ_eq_append_getElem hlt, List.all_append, HA.out]
          have : l[i] = 0 := by simpa using hb
          simp [this])
        have HB := Lib.hid (rest1_c l[i] false hb)
        clear hb
        have HI := Lib.hid hlt
        generalize l[i] = y at hx HB
        clear hlt
        go_wp2_with (go_at_call 25; refine (HB.out _).mono ?_; rintro e w' ⟨rfl, rfl⟩)
        go_round
        case rel => exact ⟨i + 1, HI.out, by go_num, HN⟩
        case measure => have := HI.out; simp [intOf]; omega
      · have HN : Hid (l.all (· == 0) = false) := Lib.hid (by
          rw [← Bool.not_eq_true, List.all_eq_true]
          intro h
          have := h l[i] (List.getElem_mem hlt)
          have h2 : l[i] ≠ 0 := by simpa using hb
          exact h2 (by simpa using this))
        have HB := Lib.hid (rest1_c l[i] true hb)
        clear hb
        have HI := Lib.hid hlt
        generalize l[i] = y at hx HB
        clear hlt
        go_wp2_with (go_at_call 25; refine (HB.out _).mono ?_; rintro e w' ⟨rfl, rfl⟩)
        go_ret
        exact ⟨i, rfl, by rw [HN.out]; simp, rfl⟩
    · obtain rfl : i = l.length := by omega
      go_wp2_with fail
      go_ret
      exact ⟨-1, rfl, by have := HA.out; rw [List.take_length] at this; rw [this]; rfl, rfl⟩
set_option maxRecDepth 100000 in
theorem contains_any (A : Option Addr) (c : Nat) (l : List UInt8) (w : World) (hr : RdV w A (bys l)) (hl : l.length ≤ 4611686018427387904) :
    Calls Try.prog 24 #[.slice A l.length c, .func (Fn.func 25) #[] #[]] w fun e w' => e = .returned (.bool (!(l.all (· == 0)))) ∧ w = w' := by
  have HR := Lib.hid (And.intro hr hl)
  clear hr hl
  go_enter Try.func24, Try.ntmps24
  go_wp2_with fail
  refine (index_any A c l w HR.out.1 HR.out.2).mono ?_
  rintro e w' ⟨k, rfl, hk, rfl⟩
  have HK := Lib.hid hk
  clear hk
  go_wp2_with fail
  go_ret
  exact ⟨ret_bool HK.out, rfl⟩
set_option maxRecDepth 100000 in
theorem St.src_rest (h : St w0 w (srcP sb l place :: ps)) (hl : l.length ≤ 4611686018427387904) (b : Bool) (hb : l.all (· == 0) = b) :
    Calls Try.prog 15 #[.pointer (some ⟨sb, 0, none⟩)] w fun e w' => e = .returned (.bool b) ∧ w = w' := by
  obtain ⟨A, c, c0, _, hr, hA, hc⟩ := h.src_cells
  have HR := Lib.hid (And.intro hr hl)
  have HB := Lib.hid hb
  clear h hr hl hb
  go_enter Try.func15, Try.ntmps15
  go_wp2_with fail
  refine (contains_any A c l w HR.out.1 HR.out.2).mono ?_
  rintro e w' ⟨rfl, rfl⟩
  rw [HB.out]
  go_wp2_with fail
  go_ret
  exact ⟨ret_bool (by simp), rfl⟩
end
end Go.Proofs.Ytiobacnepacjnaa
