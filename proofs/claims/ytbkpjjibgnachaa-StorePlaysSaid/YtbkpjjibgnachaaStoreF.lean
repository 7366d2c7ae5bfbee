/- The scratch store: Read, Size, Drop, Used, Peak, Writes. Conditions: none. -/
import Derived.Test.YtbkpjjibgnachaaStoreE
namespace Go.Proofs.Ytbkpjjibgnachaa
open Go.RowKit

theorem read_no (w : World) (F : Nat → Prop) (sb : Nat) (S : StoreM) (hS : IsStore w F sb S) (n at_ many : Int) (hf : S.find n = none) :
    Calls Try.prog 19 #[.pointer (some ⟨sb, 0, none⟩), .int .i64 n, .int .i64 at_, .int .i64 many] w fun e w' => e = .returned (.tuple #[.slice none 0 0, .int .i64 14]) ∧ w = w' := by
  obtain ⟨fv, mb, E, h⟩ := hS
  have c6 := h.self.cell 6
  simp only [List.getElem?_cons_succ, List.getElem?_cons_zero] at c6
  have HM := Lib.hid h.map
  have HL := Lib.hid (h.lost hf)
  have HC := Lib.hid c6
  clear h hf c6
  go_enter Try.func19, Try.ntmps19
  go_wp2_with (go_at_call 51; refine (found_no sb mb _ n _ HC.out HM.out HL.out).mono ?_; rintro e w' ⟨rfl, rfl⟩)
  go_ret2
  exact ⟨rfl, rfl⟩
theorem read_nil (w : World) (n at_ many : Int) :
    Calls Try.prog 19 #[.pointer none, .int .i64 n, .int .i64 at_, .int .i64 many] w fun e w' => e = .returned (.tuple #[.slice none 0 0, .int .i64 1]) ∧ w = w' := by
  go_enter Try.func19, Try.ntmps19
  go_wp2_with (go_at_call 51; refine (found_nil n _).mono ?_; rintro e w' ⟨rfl, rfl⟩)
  go_ret2
  exact ⟨rfl, rfl⟩
theorem read_bad (w : World) (F : Nat → Prop) (sb : Nat) (S : StoreM) (hS : IsStore w F sb S) (n at_ many : Int) (bs : List UInt8) (hf : S.find n = some bs) (hbad : at_ < 0 ∨ many < 0 ∨ at_ > bs.length) :
    Calls Try.prog 19 #[.pointer (some ⟨sb, 0, none⟩), .int .i64 n, .int .i64 at_, .int .i64 many] w fun e w' => e = .returned (.tuple #[.slice none 0 0, .int .i64 1]) ∧ w = w' := by
  obtain ⟨fv, mb, E, h⟩ := hS
  obtain ⟨x, hx, hxid, hxb, hfind⟩ := h.found hf
  have c6 := h.self.cell 6
  have cb := (h.ent x hx).1.cell 0
  obtain ⟨A1, c1, hv, hc1, hr1, hn1⟩ := own_rd (h.ent x hx).2
  rw [hv] at cb
  simp only [List.getElem?_cons_succ, List.getElem?_cons_zero] at c6 cb
  have HM := Lib.hid h.map
  have HFD := Lib.hid hfind
  have HC := Lib.hid c6
  rw [← hxb] at hbad
  clear h hf c6 hfind hr1 hn1 hc1 hv hxb hxid hx
  have D : (at_ < 0) ∨ (decide (at_ < 0) = false ∧ many < 0) ∨ (decide (at_ < 0) = false ∧ decide (many < 0) = false ∧ decide ((x.bytes.length : Int) < at_) = true) := by
    by_cases h1 : at_ < 0
    · exact .inl h1
    · by_cases h2 : many < 0
      · exact .inr (.inl ⟨decide_eq_false h1, h2⟩)
      · exact .inr (.inr ⟨decide_eq_false h1, decide_eq_false h2, decide_eq_true (by omega)⟩)
  clear hbad
  rcases D with d1 | ⟨d1, d2⟩ | ⟨d1, d2, d3⟩
  all_goals
    go_enter Try.func19, Try.ntmps19
    go_wp2_with (go_at_call 51; refine (found_yes sb mb _ _ n _ HC.out HM.out _ HFD.out rfl).mono ?_; rintro e w' ⟨rfl, rfl⟩)
    go_ret2
    exact ⟨rfl, rfl⟩

def Read (w : World) (bs : List UInt8) (k : Nat) (e : Ending) (w' : World) : Prop := ∃ v, e = .returned (.tuple #[v, .int .i64 0]) ∧ w'.ownsRow w.heap.size 5 1 v k (bys bs) ∧ Keep (fun _ => False) w w'
theorem read_ok (w : World) (F : Nat → Prop) (sb : Nat) (S : StoreM) (hS : IsStore w F sb S) (n : Int) (a m k : Nat) (bs : List UInt8) (hf : S.find n = some bs) (ha : a ≤ bs.length) (hm : (m : Int) ≤ 9223372036854775807) (hk : k = min m (bs.length - a)) (hlen : bs.length ≤ 140737488355328) :
    Calls Try.prog 19 #[.pointer (some ⟨sb, 0, none⟩), .int .i64 n, .int .i64 a, .int .i64 m] w (Read w ((bs.drop a).take k) k) := by
  obtain ⟨fv, mb, E, h⟩ := hS
  obtain ⟨x, hx, hxid, hxb, hfind⟩ := h.found hf
  have c6 := h.self.cell 6
  have cb := (h.ent x hx).1.cell 0
  have hof := own_form (h.ent x hx).2
  rw [hxb] at hof
  simp only [List.getElem?_cons_succ, List.getElem?_cons_zero] at c6 cb
  have HM := Lib.hid h.map
  have HFD := Lib.hid hfind
  have HC := Lib.hid c6
  clear h hf c6 hfind hxid hx hxb
  rcases hof with ⟨hv, hn0, _⟩ | ⟨g, c, hv, hc, hcm, hr⟩
  · rw [hv] at cb
    have hb0 : bs = [] := List.eq_nil_of_length_eq_zero hn0
    subst hb0
    have ha0 : a = 0 := by simpa using ha
    have hk0 : k = 0 := by simp at hk; exact hk
    subst ha0 hk0
    clear hv hn0 ha hk hlen
    go_enter Try.func19, Try.ntmps19
    go_wp2_with (go_at_call 51; refine (found_yes sb mb _ _ n _ HC.out HM.out _ HFD.out rfl).mono ?_; rintro e w' ⟨rfl, rfl⟩)
    all_goals
      refine (cloneB_any none _ 0 [] _ (RdV.nil _ _) (by simp <;> omega) (fun _ => ⟨by omega, rfl⟩) (by simp) (by omega)).mono ?_
      rintro e w1 ⟨v, rfl, hown, hk1⟩
      have HO := Lib.hid hown
      have HK1 := Lib.hid hk1
      clear hown hk1
      go_wp2
      go_ret2
      refine ⟨v, rfl, ?_, HK1.out⟩
      have := HO.out
      first | exact this | (rw [show m = 0 from by omega] at this; exact this)
  · rw [hv] at cb
    have HR := Lib.hid hr
    have HL := Lib.hid hlen
    have d1 : decide ((a : Int) < 0) = false := decide_eq_false (by omega)
    have d2 : decide ((m : Int) < 0) = false := decide_eq_false (by omega)
    have d3 : decide ((bs.length : Int) < a) = false := decide_eq_false (by omega)
    clear hv hr hlen
    by_cases hca : c = a
    all_goals by_cases hmn : m ≤ bs.length - a
    all_goals
      have HK := Lib.hid hk
      clear hk
      go_enter Try.func19, Try.ntmps19
      go_wp2_with (go_at_call 51; refine (found_yes sb mb _ _ n _ HC.out HM.out _ HFD.out rfl).mono ?_; rintro e w' ⟨rfl, rfl⟩)
      refine (cloneB_any _ _ _ (bys ((bs.drop a).take k)) _ ?hr ?hl (fun e => by cases e) (one_bys _) (by have := HL.out; omega)).mono ?_
      case hr =>
        have e1 : bys ((bs.drop a).take k) = ((bys bs).drop a).take k := by simp [bys, List.map_take, List.map_drop]
        first
        | (rw [e1]; exact (HR.out a).take k)
        | (rw [e1, List.drop_of_length_le (by simp [bys]; omega), List.take_nil]; exact RdV.nil _ _)
      case hl => simp [bys]; have := HK.out; omega
      rintro e w1 ⟨v, rfl, hown, hk1⟩
      have HO := Lib.hid hown
      have HK1 := Lib.hid hk1
      clear hown hk1
      go_wp2
      go_ret2
      refine ⟨v, rfl, ?_, HK1.out⟩
      have h1 := HO.out
      have h2 := HK.out
      first | (rw [show k = m from by omega] at h1 ⊢; exact h1) | (rw [show k = bs.length - a from by omega] at h1 ⊢; exact h1)

theorem size_no (w : World) (F : Nat → Prop) (sb : Nat) (S : StoreM) (hS : IsStore w F sb S) (n : Int) (hf : S.find n = none) :
    Calls Try.prog 20 #[.pointer (some ⟨sb, 0, none⟩), .int .i64 n] w fun e w' => e = .returned (.int .i64 0) ∧ w = w' := by
  obtain ⟨fv, mb, E, h⟩ := hS
  have c6 := h.self.cell 6
  simp only [List.getElem?_cons_succ, List.getElem?_cons_zero] at c6
  have HM := Lib.hid h.map
  have HL := Lib.hid (h.lost hf)
  have HC := Lib.hid c6
  clear h hf c6
  go_enter Try.func20, Try.ntmps20
  go_wp2_with (go_at_call 51; refine (found_no sb mb _ n _ HC.out HM.out HL.out).mono ?_; rintro e w' ⟨rfl, rfl⟩)
  go_ret
  exact ⟨rfl, rfl⟩
theorem size_nil (w : World) (n : Int) :
    Calls Try.prog 20 #[.pointer none, .int .i64 n] w fun e w' => e = .returned (.int .i64 0) ∧ w = w' := by
  go_enter Try.func20, Try.ntmps20
  go_wp2_with (go_at_call 51; refine (found_nil n _).mono ?_; rintro e w' ⟨rfl, rfl⟩)
  go_ret
  exact ⟨rfl, rfl⟩
theorem size_yes (w : World) (F : Nat → Prop) (sb : Nat) (S : StoreM) (hS : IsStore w F sb S) (n : Int) (bs : List UInt8) (hf : S.find n = some bs) :
    Calls Try.prog 20 #[.pointer (some ⟨sb, 0, none⟩), .int .i64 n] w fun e w' => e = .returned (.int .i64 bs.length) ∧ w = w' := by
  obtain ⟨fv, mb, E, h⟩ := hS
  obtain ⟨x, hx, hxid, hxb, hfind⟩ := h.found hf
  have c6 := h.self.cell 6
  have cb := (h.ent x hx).1.cell 0
  obtain ⟨A1, c1, hv, hc1, hr1, hn1⟩ := own_rd (h.ent x hx).2
  rw [hv] at cb
  rw [hxb] at cb
  simp only [List.getElem?_cons_succ, List.getElem?_cons_zero] at c6 cb
  have HM := Lib.hid h.map
  have HFD := Lib.hid hfind
  have HC := Lib.hid c6
  clear h hf c6 hfind hr1 hn1 hc1 hv hxb hxid hx
  go_enter Try.func20, Try.ntmps20
  go_wp2_with (go_at_call 51; refine (found_yes sb mb _ _ n _ HC.out HM.out _ HFD.out rfl).mono ?_; rintro e w' ⟨rfl, rfl⟩)
  go_ret
  exact ⟨rfl, rfl⟩

theorem used_any (w : World) (F : Nat → Prop) (sb : Nat) (S : StoreM) (hS : IsStore w F sb S) :
    Calls Try.prog 21 #[.pointer (some ⟨sb, 0, none⟩)] w fun e w' => e = .returned (.int .i64 S.used) ∧ w = w' := by
  obtain ⟨fv, mb, E, h⟩ := hS
  have c2 := h.self.cell 2
  simp only [List.getElem?_cons_succ, List.getElem?_cons_zero] at c2
  clear h
  go_enter Try.func21, Try.ntmps21
  go_wp2
  go_ret
  exact ⟨rfl, rfl⟩
theorem used_nil (w : World) :
    Calls Try.prog 21 #[.pointer none] w fun e w' => e = .returned (.int .i64 0) ∧ w = w' := by
  go_enter Try.func21, Try.ntmps21
  go_wp2
  go_ret
  exact ⟨rfl, rfl⟩
theorem peak_any (w : World) (F : Nat → Prop) (sb : Nat) (S : StoreM) (hS : IsStore w F sb S) :
    Calls Try.prog 23 #[.pointer (some ⟨sb, 0, none⟩)] w fun e w' => e = .returned (.int .i64 S.peak) ∧ w = w' := by
  obtain ⟨fv, mb, E, h⟩ := hS
  have c3 := h.self.cell 3
  simp only [List.getElem?_cons_succ, List.getElem?_cons_zero] at c3
  clear h
  go_enter Try.func23, Try.ntmps23
  go_wp2
  go_ret
  exact ⟨rfl, rfl⟩
theorem peak_nil (w : World) :
    Calls Try.prog 23 #[.pointer none] w fun e w' => e = .returned (.int .i64 0) ∧ w = w' := by
  go_enter Try.func23, Try.ntmps23
  go_wp2
  go_ret
  exact ⟨rfl, rfl⟩
theorem writes_any (w : World) (F : Nat → Prop) (sb : Nat) (S : StoreM) (hS : IsStore w F sb S) :
    Calls Try.prog 35 #[.pointer (some ⟨sb, 0, none⟩)] w fun e w' => e = .returned (.int .i64 S.writes) ∧ w = w' := by
  obtain ⟨fv, mb, E, h⟩ := hS
  have c4 := h.self.cell 4
  simp only [List.getElem?_cons_succ, List.getElem?_cons_zero] at c4
  clear h
  go_enter Try.func35, Try.ntmps35
  go_wp2
  go_ret
  exact ⟨rfl, rfl⟩
theorem writes_nil (w : World) :
    Calls Try.prog 35 #[.pointer none] w fun e w' => e = .returned (.int .i64 0) ∧ w = w' := by
  go_enter Try.func35, Try.ntmps35
  go_wp2
  go_ret
  exact ⟨rfl, rfl⟩
end Go.Proofs.Ytbkpjjibgnachaa
