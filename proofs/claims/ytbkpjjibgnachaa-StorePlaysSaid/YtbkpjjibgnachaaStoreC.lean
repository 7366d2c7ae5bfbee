/- The scratch store: New and Create. Conditions: none. -/
import Derived.Test.YtbkpjjibgnachaaStoreB
import Derived.RegionTactic
import Derived.BigRegion
import Derived.Carry
namespace Go.Proofs.Ytbkpjjibgnachaa
open Go.RowKit
open Go.ChangeMaps (setBlock)

theorem StoreAt.create {w w1 w2 w3 : World} {F : Nat → Prop} {sb : Nat} {S : StoreM} {fv : Value} {mb : Nat} {E : List Ent} (h : StoreAt w F sb S fv mb E) (hn : S.next < 65536)
    (h1 : w1 = w.alloc (.cells #[.slice none 0 0] 87)) (k2 : Keep (fun k => k = mb) w1 w2) (hm : MapB w2 mb ((E.map fun e => (e.id, .pointer (some ⟨e.blk, 0, none⟩))) ++ [(S.next, .pointer (some ⟨w.heap.size, 0, none⟩))]))
    (h3 : w3 = w2.setCell ⟨sb, 1, none⟩ (.int .i64 (S.next + 1))) (n : Nat) : IsStore (w3.drewN n) (ext F w (w3.drewN n)) sb S.create ∧ Keep F w (w3.drewN n) := by
  have hs1 : w1.heap.size = w.heap.size + 1 := by rw [h1]; simp
  have k1 : Keep (fun _ => False) w w1 := by rw [h1]; exact (Keep.refl _ w).alloc _
  have hb1 : Blk w1 w.heap.size 87 [.slice none 0 0] := by rw [h1]; exact Blk.new w _ [.slice none 0 0]
  have lsb := h.lt _ h.fsb
  have lmb := h.lt _ h.fmb
  obtain ⟨nsm, nfv, nent⟩ := h.nes
  have s1 : StoreAt w1 F sb S fv mb E := h.keep k1 (fun _ _ h => h)
  have hself2 := s1.self.keep k2 nsm
  have k3 : Keep (fun k => k = sb) w2 w3 := by rw [h3]; exact (Keep.refl (fun k => k = sb) w2).setCell (p := ⟨sb, 1, none⟩) (.inl rfl) _
  have k23 : Keep (fun k => k = mb ∨ k = sb) w1 (w3.drewN n) := ((k2.mono (fun _ _ h => .inl h)).trans (k3.mono (fun _ _ h => .inr h))).drewN n
  have hself3 := hself2.set 1 (.int .i64 (S.next + 1))
  rw [← h3] at hself3
  replace hself3 := hself3.keep ((Keep.refl (fun _ => False) w3).drewN n) (fun h => h)
  have hb3 : Blk (w3.drewN n) w.heap.size 87 [.slice none 0 0] := hb1.keep k23 (by omega)
  have kall : Keep F w (w3.drewN n) := (k1.mono (fun _ _ h => h.elim)).trans' k23 (fun k hk e => by
    rcases e with rfl | rfl
    · exact h.fmb
    · exact h.fsb)
  have hs : w.heap.size < (w3.drewN n).heap.size := hb3.lt
  have e : S.create = { S with next := S.next + 1, runs := S.runs ++ [(S.next, [])] } := by unfold StoreM.create; rw [if_neg (by omega)]
  refine ⟨⟨fv, mb, E ++ [⟨S.next, w.heap.size, .slice none 0 0, []⟩], ?_⟩, kall⟩
  rw [e]
  refine ⟨hself3, own_keep s1.fails k23 (fun g hg hh => ?_), ?_, ?_, ?_, ?_, ?_, .inl h.fsb, .inl h.fmb, fun k hk => .inl (h.ffv k hk), ?_, ?_⟩
  · have := nfv g hg; rcases hh with hh | hh; exact this.2.1 hh; exact this.1 hh
  · rw [List.map_append]
    exact hm.keep (k3.drewN n) (fun hh => nsm hh.symm)
  · intro x hx
    simp only [List.mem_append, List.mem_singleton] at hx
    rcases hx with hx | rfl
    · have := nent x hx
      refine ⟨(s1.ent x hx).1.keep k23 (fun hh => ?_), own_keep (s1.ent x hx).2 k23 (fun g hg hh => ?_)⟩
      · rcases hh with hh | hh; exact this.1.2 hh; exact this.1.1 hh
      · have := this.2 g hg; rcases hh with hh | hh; exact this.2.1 hh; exact this.1 hh
    · exact ⟨hb3, World.ownsRow_nil _ _ _ 1⟩
  · refine List.pairwise_append.2 ⟨h.apart, by simp, fun a ha b hb => ?_⟩
    simp only [List.mem_singleton] at hb
    subst hb
    have := h.lt _ (h.fent a ha).1
    exact ⟨by simp; omega, fun k hk => by simp [Value.ownBlock]⟩
  · simp [h.runs]
  · have := h.ok.create
    rwa [e] at this
  · intro x hx
    simp only [List.mem_append, List.mem_singleton] at hx
    rcases hx with hx | rfl
    · exact ⟨.inl (h.fent x hx).1, fun k hk => .inl ((h.fent x hx).2 k hk)⟩
    · exact ⟨.inr ⟨Nat.le_refl _, hs⟩, fun k hk => by cases hk⟩
  · intro k hk
    rcases hk with hk | hk
    · have := h.lt k hk; omega
    · exact hk.2

theorem create_yes (w : World) (F : Nat → Prop) (sb : Nat) (S : StoreM) (hS : IsStore w F sb S) (hn : S.next < 65536) :
    Calls Try.prog 16 #[.pointer (some ⟨sb, 0, none⟩)] w fun e w' => e = .returned (.tuple #[.int .i64 S.next, .int .i64 0]) ∧ IsStore w' (ext F w w') sb S.create ∧ Keep F w w' := by
  obtain ⟨fv, mb, E, h⟩ := hS
  have H := Lib.hid h
  have c1 := h.self.cell 1
  have c6 := h.self.cell 6
  have nsm : sb ≠ mb := h.self.ne_map h.map
  have hka := (Keep.refl (fun _ => False) w).alloc (.cells #[.slice none 0 0] 87)
  have d1 := (h.self.keep hka (fun h => h)).cell 1
  have d6 := (h.self.keep hka (fun h => h)).cell 6
  have hno := StoreM.find_next h.ok
  have n0 := h.ok.next0
  obtain ⟨o, hup, hmap⟩ := run_update_new (P := Try.prog) Try.underlying82 Try.underlying3 (h.map.keep hka (fun h => h)) S.next (.pointer (some ⟨w.heap.size, 0, none⟩)) (h.lost (n := S.next) (by unfold StoreM.find; rw [hno]; rfl))
  have k2 := keep_setBlock (w.alloc (.cells #[.slice none 0 0] 87)) mb o
  obtain ⟨W2, hW2⟩ : ∃ W2, W2 = setBlock (w.alloc (.cells #[.slice none 0 0] 87)) mb o := ⟨_, rfl⟩
  rw [← hW2] at hup hmap k2
  have hself2 := (h.self.keep hka (fun h => h)).keep k2 nsm
  have e1 := hself2.cell 1
  have z1 := hself2.free 1
  simp only [List.getElem?_cons_succ, List.getElem?_cons_zero] at c1 c6 d1 d6 e1
  have hup1 : True → (Instr.mapUpdate 82 (.map (some mb)) (.int .i64 S.next) (.pointer (some ⟨w.heap.size, 0, none⟩))).run Try.prog (w.alloc (.cells #[.slice none 0 0] 87)).drew = .ok () W2.drew := fun _ => hup 1
  have HM := Lib.hid hmap
  have HK := Lib.hid k2
  clear h hno hup hka hW2 hmap k2 nsm hself2
  go_enter Try.func16, Try.ntmps16
  go_wp2
  go_region
  go_wp2
  go_ret2
  exact ⟨rfl, H.out.create hn rfl HK.out HM.out rfl 1⟩
theorem create_nil (w : World) :
    Calls Try.prog 16 #[.pointer none] w fun e w' => e = .returned (.tuple #[.int .i64 0, .int .i64 1]) ∧ w = w' := by
  go_enter Try.func16, Try.ntmps16
  go_wp2
  go_ret2
  exact ⟨rfl, rfl⟩
theorem create_full (w : World) (F : Nat → Prop) (sb : Nat) (S : StoreM) (hS : IsStore w F sb S) (hn : ¬ S.next < 65536) :
    Calls Try.prog 16 #[.pointer (some ⟨sb, 0, none⟩)] w fun e w' => e = .returned (.tuple #[.int .i64 0, .int .i64 12]) ∧ w = w' := by
  obtain ⟨fv, mb, E, h⟩ := hS
  have c1 := h.self.cell 1
  simp only [List.getElem?_cons_succ, List.getElem?_cons_zero] at c1
  have hq : decide (65536 ≤ S.next) = true := decide_eq_true (by omega)
  clear h hn
  go_enter Try.func16, Try.ntmps16
  go_wp2
  go_ret2
  exact ⟨rfl, rfl⟩

/-- store.New's two blocks. -/
theorem StoreAt.made {w w1 : World} {v : Value} {l : List Int} {room : Int} (hroom : room ≤ 9223372036854775807) (hown : w1.ownsRow w.heap.size 3 1 v l.length (ints l)) (hk : Keep (fun _ => False) w w1) (r : Int) (hr : r = max room 0) :
    IsStore ((w1.alloc (.map #[] 0)).alloc (.cells #[.int .i64 r, .int .i64 0, .int .i64 0, .int .i64 0, .int .i64 0, v, .map (some w1.heap.size)] 84)) (ext (fun _ => False) w ((w1.alloc (.map #[] 0)).alloc (.cells #[.int .i64 r, .int .i64 0, .int .i64 0, .int .i64 0, .int .i64 0, v, .map (some w1.heap.size)] 84))) (w1.heap.size + 1) (StoreM.made room l) ∧
      Keep (fun _ => False) w ((w1.alloc (.map #[] 0)).alloc (.cells #[.int .i64 r, .int .i64 0, .int .i64 0, .int .i64 0, .int .i64 0, v, .map (some w1.heap.size)] 84)) := by
  subst hr
  have hs := hk.size
  refine ⟨⟨v, w1.heap.size, [], ?_⟩, (hk.alloc _).alloc _⟩
  have hb := Blk.new (w1.alloc (.map #[] 0)) 84 [.int .i64 (max room 0), .int .i64 0, .int .i64 0, .int .i64 0, .int .i64 0, v, .map (some w1.heap.size)]
  have e : (w1.alloc (.map #[] 0)).heap.size = w1.heap.size + 1 := by simp
  rw [e] at hb
  have k2 := ((Keep.refl (fun _ => False) w1).alloc (.map #[] 0)).alloc (.cells #[.int .i64 (max room 0), .int .i64 0, .int .i64 0, .int .i64 0, .int .i64 0, v, .map (some w1.heap.size)] 84)
  have ho : w1.ownsRow 0 3 1 v l.length (ints l) := own_weaken hown (Nat.zero_le _)
  refine ⟨hb, own_keep ho k2 (fun _ _ h => h), ?_, by simp, by simp, by simp [StoreM.made], StoreM.ok_made room l hroom, .inr (by simp; omega), .inr (by simp; omega), fun k hk' => .inr ?_, by simp, ?_⟩
  · exact (MapB.made w1).keep ((Keep.refl (fun _ => False) (w1.alloc (.map #[] 0))).alloc _) (fun h => h)
  · have h1 := own_base hown k hk'
    obtain ⟨cs, hc⟩ := own_heap hown k hk'
    have := hc.lt
    exact ⟨h1, by simp; omega⟩
  · intro k hk'
    rcases hk' with hk' | hk'
    · exact hk'.elim
    · exact hk'.2

/-- store.New. -/
theorem new_any (room : Int) (A : Option Addr) (n c : Nat) (l : List Int) (w : World) (hroom : room ≤ 9223372036854775807) (hr : RdV w A (ints l)) (hl : n = l.length) (hA : A = none → n = 0 ∧ c = 0) (hb : n * 8 ≤ 140737488355328) :
    Calls Try.prog 15 #[.int .i64 room, .slice A n c] w fun e w' => ∃ sb, e = .returned (.pointer (some ⟨sb, 0, none⟩)) ∧ IsStore w' (ext (fun _ => False) w w') sb (StoreM.made room l) ∧ Keep (fun _ => False) w w' := by
  subst hl
  have HR := Lib.hid hr
  have HA := Lib.hid hA
  have HB := Lib.hid hb
  have HO := Lib.hid hroom
  clear hr hA hb hroom
  have hmm := @run_makeMap Try.prog
  by_cases h0 : room < 0
  all_goals
    go_enter Try.func15, Try.ntmps15
    go_wp2_with (go_at_call 50; refine (cloneI_any A _ c (ints l) _ HR.out (by simp [ints]) HA.out (one_ints _ l) HB.out).mono ?_; rintro e w1 ⟨v, rfl, hown, hk⟩; have HW := Lib.hid hown; have HK := Lib.hid hk; clear hown hk; obtain ⟨A1, c1, rfl, _⟩ := own_rd HW.out)
    refine bodyPost_ret (v := .pointer (some ⟨w1.heap.size + 1, 0, none⟩)) (by simp [results, Try.results15, go_sem]) rfl ?_
    exact ⟨_, rfl, StoreAt.made HO.out HW.out HK.out _ (by omega)⟩
end Go.Proofs.Ytbkpjjibgnachaa
