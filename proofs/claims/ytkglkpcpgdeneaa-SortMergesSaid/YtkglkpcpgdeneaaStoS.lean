/- The scratch store's methods, and the store as a part of memory. Conditions: none. -/
import Derived.Test.YtkglkpcpgdeneaaStoreB
import Derived.RegionTactic
import Derived.BigRegion
import Derived.Carry
import Derived.Test.YtkglkpcpgdeneaaRows
import Derived.Test.YtkglkpcpgdeneaaBase
import Derived.Test.YtkglkpcpgdeneaaStoreM
import Derived.Test.YtkglkpcpgdeneaaSt
namespace Go.Proofs.Ytkglkpcpgdeneaa
open Go.RowKit
open Go.ChangeMaps (setBlock)

theorem StoreAt.create {w w1 w2 w3 : World} {F : Nat → Prop} {sb : Nat} {S : StoreM} {fv : Value} {mb : Nat} {E : List Ent} (h : StoreAt w F sb S fv mb E) (hn : S.next < 65536)
    (h1 : w1 = w.alloc (.cells #[.slice none 0 0] 91)) (k2 : Keep (fun k => k = mb) w1 w2) (hm : MapB w2 mb ((E.map fun e => (e.id, .pointer (some ⟨e.blk, 0, none⟩))) ++ [(S.next, .pointer (some ⟨w.heap.size, 0, none⟩))]))
    (h3 : w3 = w2.setCell ⟨sb, 1, none⟩ (.int .i64 (S.next + 1))) (n : Nat) : IsStore (w3.drewN n) (ext F w (w3.drewN n)) sb S.create ∧ Keep F w (w3.drewN n) := by
  have hs1 : w1.heap.size = w.heap.size + 1 := by rw [h1]; simp
  have k1 : Keep (fun _ => False) w w1 := by rw [h1]; exact (Keep.refl _ w).alloc _
  have hb1 : Blk w1 w.heap.size 91 [.slice none 0 0] := by rw [h1]; exact Blk.new w _ [.slice none 0 0]
  have lsb := h.lt _ h.fsb
  have lmb := h.lt _ h.fmb
  obtain ⟨nsm, nfv, nent⟩ := h.nes
  have s1 : StoreAt w1 F sb S fv mb E := h.keep k1 (fun _ _ h => h)
  have hself2 := s1.self.keep k2 nsm
  have k3 : Keep (fun k => k = sb) w2 w3 := by rw [h3]; exact (Keep.refl (fun k => k = sb) w2).setCell (p := ⟨sb, 1, none⟩) (.inl rfl) _
  have k23 : Keep (fun k => k = mb ∨ k = sb) w1 (w3.drewN n) := ((k2.mono (fun _ _ h => .inl h)).trans (k3.mono (fun _ _ h => .inr h))).drewN n
  have hself3 := hself2.set 1 (.int .i64 (S.next + 1))
  rw [← h3] at hself3
  replace hself3 := hself3.keep ((Keep.refl (fun _ => False) w3).drewN n) (fun h => h)
  have hb3 : Blk (w3.drewN n) w.heap.size 91 [.slice none 0 0] := hb1.keep k23 (by omega)
  have kall : Keep F w (w3.drewN n) := (k1.mono (fun _ _ h => h.elim)).trans' k23 (fun k hk e => by
    rcases e with rfl | rfl
    · exact h.fmb
    · exact h.fsb)
  have hs : w.heap.size < (w3.drewN n).heap.size := hb3.lt
  have e : S.create = { S with next := S.next + 1, runs := S.runs ++ [(S.next, [])] } := by unfold StoreM.create; rw [if_neg (by omega)]
  refine ⟨⟨fv, mb, E ++ [⟨S.next, w.heap.size, .slice none 0 0, []⟩], ?_⟩, kall⟩
  rw [e]
  refine ⟨hself3, own_keep s1.fails k23 (fun g hg hh => ?_), ?_, ?_, ?_, ?_, ?_, .inl h.fsb, .inl h.fmb, fun k hk => .inl (h.ffv k hk), ?_, ?_⟩
  · have := nfv g hg; rcases hh with hh | hh; exact this.2.1 hh; exact this.1 hh
  · rw [List.map_append]
    exact hm.keep (k3.drewN n) (fun hh => nsm hh.symm)
  · intro x hx
    simp only [List.mem_append, List.mem_singleton] at hx
    rcases hx with hx | rfl
    · have := nent x hx
      refine ⟨(s1.ent x hx).1.keep k23 (fun hh => ?_), own_keep (s1.ent x hx).2 k23 (fun g hg hh => ?_)⟩
      · rcases hh with hh | hh; exact this.1.2 hh; exact this.1.1 hh
      · have := this.2 g hg; rcases hh with hh | hh; exact this.2.1 hh; exact this.1 hh
    · exact ⟨hb3, World.ownsRow_nil _ _ _ 1⟩
  · refine List.pairwise_append.2 ⟨h.apart, by simp, fun a ha b hb => ?_⟩
    simp only [List.mem_singleton] at hb
    subst hb
    have := h.lt _ (h.fent a ha).1
    exact ⟨by simp; omega, fun k hk => by simp [Value.ownBlock]⟩
  · simp [h.runs]
  · have := h.ok.create
    rwa [e] at this
  · intro x hx
    simp only [List.mem_append, List.mem_singleton] at hx
    rcases hx with hx | rfl
    · exact ⟨.inl (h.fent x hx).1, fun k hk => .inl ((h.fent x hx).2 k hk)⟩
    · exact ⟨.inr ⟨Nat.le_refl _, hs⟩, fun k hk => by cases hk⟩
  · intro k hk
    rcases hk with hk | hk
    · have := h.lt k hk; omega
    · exact hk.2

theorem create_yes (w : World) (F : Nat → Prop) (sb : Nat) (S : StoreM) (hS : IsStore w F sb S) (hn : S.next < 65536) :
    Calls Try.prog 27 #[.pointer (some ⟨sb, 0, none⟩)] w fun e w' => e = .returned (.tuple #[.int .i64 S.next, .int .i64 0]) ∧ IsStore w' (ext F w w') sb S.create ∧ Keep F w w' := by
  obtain ⟨fv, mb, E, h⟩ := hS
  have H := Lib.hid h
  have c1 := h.self.cell 1
  have c6 := h.self.cell 6
  have nsm : sb ≠ mb := h.self.ne_map h.map
  have hka := (Keep.refl (fun _ => False) w).alloc (.cells #[.slice none 0 0] 91)
  have d1 := (h.self.keep hka (fun h => h)).cell 1
  have d6 := (h.self.keep hka (fun h => h)).cell 6
  have hno := StoreM.find_next h.ok
  have n0 := h.ok.next0
  obtain ⟨o, hup, hmap⟩ := run_update_new (P := Try.prog) Try.underlying77 Try.underlying3 (h.map.keep hka (fun h => h)) S.next (.pointer (some ⟨w.heap.size, 0, none⟩)) (h.lost (n := S.next) (by unfold StoreM.find; rw [hno]; rfl))
  have k2 := keep_setBlock (w.alloc (.cells #[.slice none 0 0] 91)) mb o
  obtain ⟨W2, hW2⟩ : ∃ W2, W2 = setBlock (w.alloc (.cells #[.slice none 0 0] 91)) mb o := ⟨_, rfl⟩
  rw [← hW2] at hup hmap k2
  have hself2 := (h.self.keep hka (fun h => h)).keep k2 nsm
  have e1 := hself2.cell 1
  have z1 := hself2.free 1
  simp only [List.getElem?_cons_succ, List.getElem?_cons_zero] at c1 c6 d1 d6 e1
  have hup1 : True → (Instr.mapUpdate 77 (.map (some mb)) (.int .i64 S.next) (.pointer (some ⟨w.heap.size, 0, none⟩))).run Try.prog (w.alloc (.cells #[.slice none 0 0] 91)).drew = .ok () W2.drew := fun _ => hup 1
  have HM := Lib.hid hmap
  have HK := Lib.hid k2
  clear h hno hup hka hW2 hmap k2 nsm hself2
  go_enter Try.func27, Try.ntmps27
  go_wp2
  go_region
  go_wp2
  go_ret2
  exact ⟨rfl, H.out.create hn rfl HK.out HM.out rfl 1⟩
theorem create_nil (w : World) :
    Calls Try.prog 27 #[.pointer none] w fun e w' => e = .returned (.tuple #[.int .i64 0, .int .i64 1]) ∧ w = w' := by
  go_enter Try.func27, Try.ntmps27
  go_wp2
  go_ret2
  exact ⟨rfl, rfl⟩
theorem create_full (w : World) (F : Nat → Prop) (sb : Nat) (S : StoreM) (hS : IsStore w F sb S) (hn : ¬ S.next < 65536) :
    Calls Try.prog 27 #[.pointer (some ⟨sb, 0, none⟩)] w fun e w' => e = .returned (.tuple #[.int .i64 0, .int .i64 12]) ∧ w = w' := by
  obtain ⟨fv, mb, E, h⟩ := hS
  have c1 := h.self.cell 1
  simp only [List.getElem?_cons_succ, List.getElem?_cons_zero] at c1
  have hq : decide (65536 ≤ S.next) = true := decide_eq_true (by omega)
  clear h hn
  go_enter Try.func27, Try.ntmps27
  go_wp2
  go_ret2
  exact ⟨rfl, rfl⟩

/-- store.New's two blocks. -/
theorem StoreAt.made {w w1 : World} {v : Value} {l : List Int} {room : Int} (hroom : room ≤ 9223372036854775807) (hown : w1.ownsRow w.heap.size 3 1 v l.length (ints l)) (hk : Keep (fun _ => False) w w1) (r : Int) (hr : r = max room 0) :
    IsStore ((w1.alloc (.map #[] 0)).alloc (.cells #[.int .i64 r, .int .i64 0, .int .i64 0, .int .i64 0, .int .i64 0, v, .map (some w1.heap.size)] 79)) (ext (fun _ => False) w ((w1.alloc (.map #[] 0)).alloc (.cells #[.int .i64 r, .int .i64 0, .int .i64 0, .int .i64 0, .int .i64 0, v, .map (some w1.heap.size)] 79))) (w1.heap.size + 1) (StoreM.made room l) ∧
      Keep (fun _ => False) w ((w1.alloc (.map #[] 0)).alloc (.cells #[.int .i64 r, .int .i64 0, .int .i64 0, .int .i64 0, .int .i64 0, v, .map (some w1.heap.size)] 79)) := by
  subst hr
  have hs := hk.size
  refine ⟨⟨v, w1.heap.size, [], ?_⟩, (hk.alloc _).alloc _⟩
  have hb := Blk.new (w1.alloc (.map #[] 0)) 79 [.int .i64 (max room 0), .int .i64 0, .int .i64 0, .int .i64 0, .int .i64 0, v, .map (some w1.heap.size)]
  have e : (w1.alloc (.map #[] 0)).heap.size = w1.heap.size + 1 := by simp
  rw [e] at hb
  have k2 := ((Keep.refl (fun _ => False) w1).alloc (.map #[] 0)).alloc (.cells #[.int .i64 (max room 0), .int .i64 0, .int .i64 0, .int .i64 0, .int .i64 0, v, .map (some w1.heap.size)] 79)
  have ho : w1.ownsRow 0 3 1 v l.length (ints l) := own_weaken hown (Nat.zero_le _)
  refine ⟨hb, own_keep ho k2 (fun _ _ h => h), ?_, by simp, by simp, by simp [StoreM.made], StoreM.ok_made room l hroom, .inr (by simp; omega), .inr (by simp; omega), fun k hk' => .inr ?_, by simp, ?_⟩
  · exact (MapB.made w1).keep ((Keep.refl (fun _ => False) (w1.alloc (.map #[] 0))).alloc _) (fun h => h)
  · have h1 := own_base hown k hk'
    obtain ⟨cs, hc⟩ := own_heap hown k hk'
    have := hc.lt
    exact ⟨h1, by simp; omega⟩
  · intro k hk'
    rcases hk' with hk' | hk'
    · exact hk'.elim
    · exact hk'.2

/-- store.New. -/
theorem new_any (room : Int) (A : Option Addr) (n c : Nat) (l : List Int) (w : World) (hroom : room ≤ 9223372036854775807) (hr : RdV w A (ints l)) (hl : n = l.length) (hA : A = none → n = 0 ∧ c = 0) (hb : n * 8 ≤ 140737488355328) :
    Calls Try.prog 16 #[.int .i64 room, .slice A n c] w fun e w' => ∃ sb, e = .returned (.pointer (some ⟨sb, 0, none⟩)) ∧ IsStore w' (ext (fun _ => False) w w') sb (StoreM.made room l) ∧ Keep (fun _ => False) w w' := by
  subst hl
  have HR := Lib.hid hr
  have HA := Lib.hid hA
  have HB := Lib.hid hb
  have HO := Lib.hid hroom
  clear hr hA hb hroom
  have hmm := @run_makeMap Try.prog
  by_cases h0 : room < 0
  all_goals
    go_enter Try.func16, Try.ntmps16
    go_wp2_with (go_at_call 44; refine (cloneI_any A _ c (ints l) _ HR.out (by simp [ints]) HA.out (one_ints _ l) HB.out).mono ?_; rintro e w1 ⟨v, rfl, hown, hk⟩; have HW := Lib.hid hown; have HK := Lib.hid hk; clear hown hk; obtain ⟨A1, c1, rfl, _⟩ := own_rd HW.out)
    refine bodyPost_ret (v := .pointer (some ⟨w1.heap.size + 1, 0, none⟩)) (by simp [results, Try.results16, go_sem]) rfl ?_
    exact ⟨_, rfl, StoreAt.made HO.out HW.out HK.out _ (by omega)⟩
end Go.Proofs.Ytkglkpcpgdeneaa
namespace Go.Proofs.Ytkglkpcpgdeneaa
open Go.RowKit

def IdxPost (l : List Int) (x : Int) (w : World) (e : Ending) (w' : World) : Prop := ∃ k : Int, e = .returned (.int .i64 k) ∧ decide (0 ≤ k) = decide (x ∈ l) ∧ w' = w
theorem index_any (A : Option Addr) (c : Nat) (l : List Int) (x : Int) (w : World) (hr : RdV w A (l.map (Value.int .i64))) (hl : l.length ≤ 9223372036854775807) :
    Calls Try.prog 69 #[.slice A l.length c, .int .i64 x] w (IdxPost l x w) := by
  have HR := Lib.hid hr
  clear hr
  go_enter Try.func69, Try.ntmps69
  go_wp2
  go_loop [8] (fun i => ∃ k : Nat, k ≤ l.length ∧ i = .int .i64 k ∧ Hid (x ∉ l.take k)) (fun i => l.length - (intOf i).toNat)
  case atStart => exact ⟨0, by omega, rfl, Lib.hid (by simp)⟩
  case round =>
    obtain ⟨k, hk, rfl, HN⟩ := hrel
    by_cases hlt : k < l.length
    · obtain ⟨a, rfl, hc⟩ := HR.out k (.int .i64 l[k]) (by simp [hlt])
      generalize hv : l[k] = v at hc
      have HV := Lib.hid hv
      clear hv
      by_cases he : x = v
      · have he2 : (x == v) = true := by simpa using he
        have HE := Lib.hid he
        clear he
        go_wp2
        go_ret
        refine ⟨k, rfl, ?_, rfl⟩
        rw [decide_eq_true (by omega), decide_eq_true]
        rw [HE.out, ← HV.out]; exact List.getElem_mem _
      · have he2 : (x == v) = false := by simpa using he
        have HE := Lib.hid he
        clear he
        go_wp2
        go_round
        case rel =>
          refine ⟨k + 1, by omega, by go_num, Lib.hid ?_⟩
          rw [List.take_succ_eq_append_getElem hlt, List.mem_append, List.mem_singleton, HV.out]
          exact fun h => h.elim HN.out HE.out
        case measure => simp [intOf]; omega
    · go_wp2
      go_ret
      refine ⟨-1, rfl, ?_, rfl⟩
      have := HN.out
      rw [List.take_of_length_le (by omega)] at this
      rw [decide_eq_false this]; rfl
theorem contains_any (A : Option Addr) (c n : Nat) (l : List Int) (x : Int) (w : World) (hr : RdV w A (l.map (Value.int .i64))) (hn : n = l.length) (hl : l.length ≤ 9223372036854775807) :
    Calls Try.prog 53 #[.slice A n c, .int .i64 x] w fun e w' => e = .returned (.bool (decide (x ∈ l))) ∧ w' = w := by
  subst hn
  have HR := Lib.hid hr
  clear hr
  go_enter Try.func53, Try.ntmps53
  go_wp2_with (go_at_call 69; refine (index_any A c l x _ HR.out hl).mono ?_; rintro e w' ⟨k, rfl, hd, rfl⟩; have HD := Lib.hid hd; clear hd)
  go_ret
  exact ⟨ret_bool HD.out, rfl⟩
theorem contains_c (A : Option Addr) (c n : Nat) (l : List Int) (x : Int) (b : Bool) (w : World) (hr : RdV w A (l.map (Value.int .i64))) (hn : n = l.length) (hl : l.length ≤ 9223372036854775807) (hb : decide (x ∈ l) = b) :
    Calls Try.prog 53 #[.slice A n c, .int .i64 x] w fun e w' => e = .returned (.bool b) ∧ w' = w :=
  (contains_any A c n l x w hr hn hl).mono fun e w' ⟨p, q⟩ => ⟨by rw [p, hb], q⟩
end Go.Proofs.Ytkglkpcpgdeneaa
namespace Go.Proofs.Ytkglkpcpgdeneaa
open Go.RowKit

theorem append_no (w : World) (F : Nat → Prop) (sb : Nat) (S : StoreM) (hS : IsStore w F sb S) (n : Int) (A : Option Addr) (m c : Nat) (hf : S.find n = none) :
    Calls Try.prog 29 #[.pointer (some ⟨sb, 0, none⟩), .int .i64 n, .slice A m c] w fun e w' => e = .returned (.int .i64 14) ∧ w = w' := by
  obtain ⟨fv, mb, E, h⟩ := hS
  have c6 := h.self.cell 6
  simp only [List.getElem?_cons_succ, List.getElem?_cons_zero] at c6
  have HM := Lib.hid h.map
  have HL := Lib.hid (h.lost hf)
  have HC := Lib.hid c6
  clear h hf c6
  go_enter Try.func29, Try.ntmps29
  go_wp2_with (go_at_call 52; refine (found_no sb mb _ n _ HC.out HM.out HL.out).mono ?_; rintro e w' ⟨rfl, rfl⟩)
  go_ret
  exact ⟨rfl, rfl⟩

theorem append_io (w : World) (F : Nat → Prop) (sb : Nat) (S : StoreM) (hS : IsStore w F sb S) (n : Int) (A : Option Addr) (m c : Nat) (hw : S.writes ≤ 9223372036854775806) (bs : List UInt8) (hf : S.find n = some bs) (hio : S.writes ∈ S.fails) :
    Calls Try.prog 29 #[.pointer (some ⟨sb, 0, none⟩), .int .i64 n, .slice A m c] w fun e w' => e = .returned (.int .i64 13) ∧ IsStore w' F sb { S with writes := S.writes + 1 } ∧ Keep F w w' := by
  obtain ⟨fv, mb, E, h⟩ := hS
  obtain ⟨x, hx, _, _, hfind⟩ := h.found hf
  have c6 := h.self.cell 6
  have c4 := h.self.cell 4
  have c5 := h.self.cell 5
  have z4 := h.self.free 4
  simp only [List.getElem?_cons_succ, List.getElem?_cons_zero] at c4 c5 c6
  have w0 := h.ok.writes0
  obtain ⟨A1, c1, rfl, hc1, hr1, hn1⟩ := own_rd h.fails
  have HM := Lib.hid h.map
  have HC := Lib.hid c6
  have HFD := Lib.hid hfind
  have k1 : Keep (fun j => j = sb) w (w.setCell ⟨sb, 4, none⟩ (.int .i64 (S.writes + 1))) := (Keep.refl (fun j => j = sb) w).setCell (p := ⟨sb, 4, none⟩) (.inl rfl) _
  have HR1 := Lib.hid (hr1.keep k1 (fun y hy _ hh => by
    subst hy
    exact (h.nes.2.1 y.block rfl).1 hh))
  have HLEN := Lib.hid (own_len h.fails)
  have HIO := Lib.hid hio
  have H := Lib.hid h
  clear h hf hfind hr1 hn1 hc1 hio k1 c6
  go_enter Try.func29, Try.ntmps29
  go_wp2_with (go_at_call 52; refine (found_yes sb mb _ _ n _ HC.out HM.out _ HFD.out rfl).mono ?_; rintro e w' ⟨rfl, rfl⟩)
  go_quiet ((go_at_call 53; exact Calls.quiet_of_same (contains_c _ _ _ S.fails S.writes true _ HR1.out (by simp) HLEN.out (decide_eq_true HIO.out))))
  go_wp2
  go_ret
  have k1 : Keep (fun j => j = sb) w ((w.setCell ⟨sb, 4, none⟩ (.int .i64 (S.writes + 1))).drewN nq) := ((Keep.refl (fun j => j = sb) w).setCell (p := ⟨sb, 4, none⟩) (.inl rfl) _).drewN nq
  have hb : Blk ((w.setCell ⟨sb, 4, none⟩ (.int .i64 (S.writes + 1))).drewN nq) sb 79 _ := H.out.self.set 4 (.int .i64 (S.writes + 1))
  exact ⟨rfl, ⟨_, mb, E, H.out.counters (S' := { S with writes := S.writes + 1 }) k1 hb rfl rfl H.out.ok.wrote⟩, k1.mono (fun _ _ e => by subst e; exact H.out.fsb)⟩

theorem append_full (w : World) (F : Nat → Prop) (sb : Nat) (S : StoreM) (hS : IsStore w F sb S) (n : Int) (A : Option Addr) (m c : Nat) (hw : S.writes ≤ 9223372036854775806) (bs : List UInt8) (hf : S.find n = some bs) (hio : S.writes ∉ S.fails) (hfull : (m : Int) > S.room - S.used) :
    Calls Try.prog 29 #[.pointer (some ⟨sb, 0, none⟩), .int .i64 n, .slice A m c] w fun e w' => e = .returned (.int .i64 12) ∧ IsStore w' F sb { S with writes := S.writes + 1 } ∧ Keep F w w' := by
  obtain ⟨fv, mb, E, h⟩ := hS
  obtain ⟨x, hx, _, _, hfind⟩ := h.found hf
  have c6 := h.self.cell 6
  have c4 := h.self.cell 4
  have c5 := h.self.cell 5
  have c0 := h.self.cell 0
  have c2 := h.self.cell 2
  have z4 := h.self.free 4
  simp only [List.getElem?_cons_succ, List.getElem?_cons_zero] at c4 c5 c6 c0 c2
  have w0 := h.ok.writes0
  have u0 := h.ok.used0
  have u1 := h.ok.used1
  have r1 := h.ok.room1
  have hq : decide (S.room - S.used < (m : Int)) = true := decide_eq_true hfull
  obtain ⟨A1, c1, rfl, hc1, hr1, hn1⟩ := own_rd h.fails
  have HM := Lib.hid h.map
  have HC := Lib.hid c6
  have HFD := Lib.hid hfind
  have k1 : Keep (fun j => j = sb) w (w.setCell ⟨sb, 4, none⟩ (.int .i64 (S.writes + 1))) := (Keep.refl (fun j => j = sb) w).setCell (p := ⟨sb, 4, none⟩) (.inl rfl) _
  have HR1 := Lib.hid (hr1.keep k1 (fun y hy _ hh => by
    subst hy
    exact (h.nes.2.1 y.block rfl).1 hh))
  have HLEN := Lib.hid (own_len h.fails)
  have HIO := Lib.hid hio
  have H := Lib.hid h
  clear h hf hfind hr1 hn1 hc1 hio k1 c6 hfull
  go_enter Try.func29, Try.ntmps29
  go_wp2_with (go_at_call 52; refine (found_yes sb mb _ _ n _ HC.out HM.out _ HFD.out rfl).mono ?_; rintro e w' ⟨rfl, rfl⟩)
  go_quiet ((go_at_call 53; exact Calls.quiet_of_same (contains_c _ _ _ S.fails S.writes false _ HR1.out (by simp) HLEN.out (decide_eq_false HIO.out))))
  go_wp2
  go_quiet (fail)
  go_wp2
  go_ret
  have k2 : Keep (fun j => j = sb) w (w.setCell ⟨sb, 4, none⟩ (.int .i64 (S.writes + 1))) := (Keep.refl (fun j => j = sb) w).setCell (p := ⟨sb, 4, none⟩) (.inl rfl) _
  have hs := H.out.counters (S' := { S with writes := S.writes + 1 }) k2 (H.out.self.set 4 (.int .i64 (S.writes + 1))) rfl rfl H.out.ok.wrote
  have k3 := (k2.drewN nq).mono (G := F) (fun _ _ e => by subst e; exact H.out.fsb)
  exact ⟨rfl, ⟨_, mb, E, hs.keep (((Keep.refl (fun _ => False) _).drewN _).drewN _) (fun _ _ h => h)⟩, (((k2.mono (G := F) (fun _ _ e => by subst e; exact H.out.fsb)).drewN _).drewN _)⟩

/-- The bytes of one run have grown. -/
theorem StoreAt.grown {w w1 w2 w3 : World} {F : Nat → Prop} {sb : Nat} {S : StoreM} {fv : Value} {mb : Nat} {E : List Ent} (h : StoreAt w F sb S fv mb E) {x : Ent} (hx : x ∈ E) (bs : List UInt8) (hroom : (bs.length : Int) ≤ S.room - S.used)
    {v : Value} (k1 : Keep (fun j => j = sb) w w1) (hown : w2.ownsRow 0 5 1 v (x.bytes.length + bs.length) (bys x.bytes ++ bys bs)) (k2 : Keep (fun j => some j = x.val.ownBlock) w1 w2) (hat : v.ownBlock = x.val.ownBlock ∨ v.ownBlock = some w1.heap.size)
    (hb : Blk w3 x.blk 91 [v]) (k3 : Keep (fun j => j = x.blk ∨ j = sb) w2 w3)
    (hself : Blk w3 sb 79 [.int .i64 S.room, .int .i64 S.next, .int .i64 (S.used + bs.length), .int .i64 (max S.peak (S.used + bs.length)), .int .i64 (S.writes + 1), fv, .map (some mb)]) :
    IsStore w3 (ext F w w3) sb (S.add x.id bs) ∧ Keep F w w3 := by
  obtain ⟨nsm, nfv, nent⟩ := h.nes
  have hxf := h.fent x hx
  have kall : Keep F w w3 := ((k1.mono (G := F) (fun _ _ e => by subst e; exact h.fsb)).trans' (k2.mono (G := fun j => some j = x.val.ownBlock) (fun _ _ h => h)) (fun k _ e => hxf.2 k e.symm)).trans' k3 (fun k _ e => by
    rcases e with rfl | rfl
    · exact hxf.1
    · exact h.fsb)
  have hs1 := k1.size
  have hs2 := k2.size
  have hs3 := k3.size
  have xown := (h.ent x hx).2
  have vlt : ∀ k, v.ownBlock = some k → k < w2.heap.size := fun k hk => by
    obtain ⟨cs, hc⟩ := own_heap hown k hk
    exact hc.lt
  -- what is not written stays
  have kk : Keep (fun j => j = sb ∨ j = x.blk ∨ some j = x.val.ownBlock) w w3 := ((k1.mono (fun _ _ e => .inl e)).trans (k2.mono (fun _ _ e => .inr (.inr e)))).trans (k3.mono (fun _ _ e => by
    rcases e with e | e
    · exact .inr (.inl e)
    · exact .inl e))
  have hids : ∀ e ∈ E, e ≠ x → e.blk ≠ x.blk ∧ ∀ k, e.val.ownBlock = some k → x.val.ownBlock ≠ some k := by
    intro e he hne
    rcases List.mem_iff_getElem.1 he with ⟨i, hi, rfl⟩
    rcases List.mem_iff_getElem.1 hx with ⟨j, hj, hj'⟩
    have hp := List.pairwise_iff_getElem.1 h.apart
    rcases Nat.lt_trichotomy i j with hlt | heq | hgt
    · have := hp i j hi hj hlt
      rw [hj'] at this
      exact this
    · subst heq; exact absurd hj' hne
    · have := hp j i hj hi hgt
      rw [hj'] at this
      exact ⟨this.1.symm, fun k hk hk' => this.2 k hk' hk⟩
  refine ⟨⟨fv, mb, E.map fun e => if e.id == x.id then { e with val := v, bytes := e.bytes ++ bs } else e, ?_⟩, kall⟩
  have hidne : ∀ e ∈ E, e.id = x.id → e = x := by
    intro e he hid
    have hn := h.ok.ids
    rw [h.runs, List.pairwise_map] at hn
    rcases List.mem_iff_getElem.1 he with ⟨i, hi, rfl⟩
    rcases List.mem_iff_getElem.1 hx with ⟨j, hj, hj'⟩
    have hp := List.pairwise_iff_getElem.1 hn
    rcases Nat.lt_trichotomy i j with hlt | heq | hgt
    · have := hp i j hi hj hlt; rw [hj'] at this; exact absurd hid this
    · subst heq; exact hj'
    · have := hp j i hj hi hgt; rw [hj'] at this; exact absurd hid.symm this
  have hfind : S.find x.id ≠ none := by
    intro hn
    have := h.lost hn
    rw [List.find?_eq_none] at this
    exact this _ (List.mem_map.2 ⟨x, hx, rfl⟩) (by simp)
  have hvb : ∀ k, v.ownBlock = some k → k ≠ x.blk ∧ k ≠ sb := fun k hk => by
    rcases hat with e | e
    · rw [e] at hk
      exact ⟨((nent x hx).2 k hk).2.2.1 x hx, ((nent x hx).2 k hk).1⟩
    · rw [e] at hk
      injection hk with hk
      have l1 := h.lt _ hxf.1
      have l2 := h.lt _ h.fsb
      omega
  have own3 : w3.ownsRow 0 5 1 v (x.bytes.length + bs.length) (bys (x.bytes ++ bs)) := by
    rw [bys_append]
    exact own_keep hown k3 (fun g hg hh => by
      have := hvb g hg
      rcases hh with hh | hh
      · exact this.1 hh
      · exact this.2 hh)
  refine ⟨hself, own_keep h.fails kk (fun g hg hh => ?_), ?_, ?_, ?_, ?_, h.ok.add x.id bs hfind hroom, .inl h.fsb, .inl h.fmb, fun k hk => .inl (h.ffv k hk), ?_, ?_⟩
  · have := nfv g hg
    rcases hh with hh | hh | hh
    · exact this.1 hh
    · exact this.2.2 x hx hh
    · exact ((nent x hx).2 g hh.symm).2.2.2 g hg rfl
  · have e : (E.map fun e => if e.id == x.id then { e with val := v, bytes := e.bytes ++ bs } else e).map (fun e => (e.id, Value.pointer (some ⟨e.blk, 0, none⟩))) = E.map fun e => (e.id, Value.pointer (some ⟨e.blk, 0, none⟩)) := by
      rw [List.map_map]
      refine List.map_congr_left fun e _ => ?_
      simp only [Function.comp]
      split <;> rfl
    rw [e]
    exact h.map.keep kk (fun hh => by
      rcases hh with hh | hh | hh
      · exact nsm hh.symm
      · exact (nent x hx).1.2 hh.symm
      · exact ((nent x hx).2 mb hh.symm).2.1 rfl)
  · intro e he
    obtain ⟨y, hy, rfl⟩ := List.mem_map.1 he
    by_cases c : y.id = x.id
    · have := hidne y hy c
      subst this
      simp only [beq_self_eq_true, if_true]
      exact ⟨hb, by rw [List.length_append]; exact own3⟩
    · have c2 : (y.id == x.id) = false := by simpa using c
      rw [c2]
      simp only [Bool.false_eq_true, if_false]
      have hyx : y ≠ x := fun e => c (by rw [e])
      have hd := hids y hy hyx
      refine ⟨(h.ent y hy).1.keep kk (fun hh => ?_), own_keep (h.ent y hy).2 kk (fun g hg hh => ?_)⟩
      · rcases hh with hh | hh | hh
        · exact (nent y hy).1.1 hh
        · exact hd.1 hh
        · exact ((nent x hx).2 y.blk hh.symm).2.2.1 y hy rfl
      · rcases hh with hh | hh | hh
        · exact ((nent y hy).2 g hg).1 hh
        · exact ((nent y hy).2 g hg).2.2.1 x hx hh
        · exact hd.2 g hg hh.symm
  · rw [List.pairwise_map]
    refine List.Pairwise.imp_of_mem ?_ h.apart
    intro a b ha hb' hab
    by_cases ca : a.id = x.id
    · have ea := hidne a ha ca
      by_cases cb : b.id = x.id
      · have eb := hidne b hb' cb
        rw [ea, eb] at hab
        exact absurd rfl hab.1
      · have ca2 : (a.id == x.id) = true := by simpa using ca
        have cb2 : (b.id == x.id) = false := by simpa using cb
        simp only [ca2, cb2, if_true, Bool.false_eq_true, if_false]
        refine ⟨hab.1, fun k hk hk' => ?_⟩
        rcases hat with e | e
        · rw [e, ← ea] at hk; exact hab.2 k hk hk'
        · rw [e] at hk
          injection hk with hk
          have := h.lt _ ((h.fent b hb').2 k hk')
          omega
    · by_cases cb : b.id = x.id
      · have eb := hidne b hb' cb
        have ca2 : (a.id == x.id) = false := by simpa using ca
        have cb2 : (b.id == x.id) = true := by simpa using cb
        simp only [ca2, cb2, if_true, Bool.false_eq_true, if_false]
        refine ⟨hab.1, fun k hk hk' => ?_⟩
        rcases hat with e | e
        · rw [e, ← eb] at hk'; exact hab.2 k hk hk'
        · rw [e] at hk'
          injection hk' with hk'
          have := h.lt _ ((h.fent a ha).2 k hk)
          omega
      · have ca2 : (a.id == x.id) = false := by simpa using ca
        have cb2 : (b.id == x.id) = false := by simpa using cb
        simp only [ca2, cb2, Bool.false_eq_true, if_false]
        exact hab
  · simp only [StoreM.add]
    rw [h.runs, List.map_map, List.map_map]
    refine List.map_congr_left fun e _ => ?_
    simp only [Function.comp]
    split <;> rfl
  · intro e he
    obtain ⟨y, hy, rfl⟩ := List.mem_map.1 he
    have hyf := h.fent y hy
    split
    · refine ⟨.inl hyf.1, fun k hk => ?_⟩
      rcases hat with e | e
      · rw [e] at hk; exact .inl (hxf.2 k hk)
      · have h1 := vlt k hk
        rw [e] at hk
        injection hk with hk
        exact .inr ⟨by omega, by omega⟩
    · exact ⟨.inl hyf.1, fun k hk => .inl (hyf.2 k hk)⟩
  · intro k hk
    rcases hk with hk | hk
    · have := h.lt k hk; omega
    · exact hk.2
end Go.Proofs.Ytkglkpcpgdeneaa
namespace Go.Proofs.Ytkglkpcpgdeneaa
open Go.RowKit

theorem append_ok (w : World) (F : Nat → Prop) (sb : Nat) (S : StoreM) (hS : IsStore w F sb S) (n : Int) (A : Option Addr) (m c : Nat) (b : List UInt8) (hw : S.writes ≤ 9223372036854775806) (bs : List UInt8) (hf : S.find n = some bs) (hio : S.writes ∉ S.fails)
    (hm : m = b.length) (hr : RdV w A (bys b)) (hA : A = none → m = 0) (hFA : b ≠ [] → ∀ y, A = some y → ¬ F y.block) (hroom : (b.length : Int) ≤ S.room - S.used) (hlen : bs.length + b.length ≤ 140737488355328) :
    Calls Try.prog 29 #[.pointer (some ⟨sb, 0, none⟩), .int .i64 n, .slice A m c] w fun e w' => e = .returned (.int .i64 0) ∧ IsStore w' (ext F w w') sb (S.add n b) ∧ Keep F w w' := by
  obtain ⟨fv, mb, E, h⟩ := hS
  obtain ⟨x, hx, hxid, hxb, hfind⟩ := h.found hf
  have c6 := h.self.cell 6
  have c4 := h.self.cell 4
  have c5 := h.self.cell 5
  have c0 := h.self.cell 0
  have c2 := h.self.cell 2
  have z4 := h.self.free 4
  have cb := (h.ent x hx).1.cell 0
  simp only [List.getElem?_cons_succ, List.getElem?_cons_zero] at c4 c5 c6 c0 c2 cb
  have nb : x.blk ≠ sb := (h.nes.2.2 x hx).1.1
  have nb2 : sb ≠ x.blk := nb.symm
  have w0 := h.ok.writes0
  have u0 := h.ok.used0
  have u1 := h.ok.used1
  have r1 := h.ok.room1
  have p0 := h.ok.peak0
  have p1 := h.ok.peak1
  subst hm
  have hq : decide (S.room - S.used < (b.length : Int)) = false := decide_eq_false (by omega)
  have hu : S.used + (b.length : Int) ≤ 9223372036854775807 := by omega
  obtain ⟨A1, c1, rfl, hc1, hr1, hn1⟩ := own_rd h.fails
  have HM := Lib.hid h.map
  have HC := Lib.hid c6
  have HFD := Lib.hid hfind
  have k1 : Keep (fun j => j = sb) w (w.setCell ⟨sb, 4, none⟩ (.int .i64 (S.writes + 1))) := (Keep.refl (fun j => j = sb) w).setCell (p := ⟨sb, 4, none⟩) (.inl rfl) _
  have HR1 := Lib.hid (hr1.keep k1 (fun y hy _ hh => by
    subst hy
    exact (h.nes.2.1 y.block rfl).1 hh))
  have HLEN := Lib.hid (own_len h.fails)
  have HIO := Lib.hid hio
  have HRB : Hid (∀ p, RdV ((w.setCell ⟨sb, 4, none⟩ (.int .i64 (S.writes + 1))).drewN p) A (bys b)) := Lib.hid (fun p => by
    cases b with
    | nil => exact RdV.nil _ _
    | cons u r => exact hr.keep (k1.drewN p) (fun y hy _ hh => hFA (by simp) y hy (by rw [hh]; exact h.fsb)))
  have HXO := Lib.hid (fun p => own_keep (h.ent x hx).2 (k1.drewN p) (fun g hg => ((h.nes.2.2 x hx).2 g hg).1))
  have HK1 := Lib.hid k1
  have HS1 : Hid (∀ p, Blk ((w.setCell ⟨sb, 4, none⟩ (.int .i64 (S.writes + 1))).drewN p) sb 79 [.int .i64 S.room, .int .i64 S.next, .int .i64 S.used, .int .i64 S.peak, .int .i64 (S.writes + 1), .slice A1 S.fails.length c1, .map (some mb)]) := Lib.hid (fun p => h.self.set 4 (.int .i64 (S.writes + 1)))
  have HB1 := Lib.hid (fun p => (h.ent x hx).1.keep (k1.drewN p) nb)
  have HNX := Lib.hid ((h.nes.2.2 x hx).2)
  have HA := Lib.hid hA
  have HLE := Lib.hid hlen
  have HXB := Lib.hid hxb
  have HXI := Lib.hid hxid
  have H := Lib.hid h
  have HX := Lib.hid hx
  have HRO := Lib.hid hroom
  clear h hf hfind hr1 hn1 hc1 hio k1 c6 hr hFA hA hlen hxb hxid hroom
  go_enter Try.func29, Try.ntmps29
  go_wp2_with (go_at_call 52; refine (found_yes sb mb _ _ n _ HC.out HM.out _ HFD.out rfl).mono ?_; rintro e w' ⟨rfl, rfl⟩)
  go_quiet ((go_at_call 53; exact Calls.quiet_of_same (contains_c _ _ _ S.fails S.writes false _ HR1.out (by simp) HLEN.out (decide_eq_false HIO.out))))
  go_wp2
  go_quiet (fail)
  go_wp2_with (
    at_builtin
    refine wpL_append _ rfl (.tmp 53) (.tmp 54) 42 42 rfl 0 5 (.int .u8 0) 1 1 Try.underlying42 (by kernel_rfl) rfl (by decide) _ x.bytes.length (bys x.bytes) rfl (HXO.out _) _ b.length (bys b) rfl (Src.of_rd Try.underlying42 (HRB.out _) b.length c (by simp [bys]) (one_bys b) HA.out) (by have := HLE.out; rw [HXB.out]; unfold maxLen; omega) (by have := HLE.out; rw [HXB.out]; omega) (Nat.zero_le _) ?_
    intro v1 w1 hown1 hg1 hat1
    have K2 := Keep.of_grown (show World.grownBy _ w1 x.val.ownBlock from hg1)
    obtain ⟨A2, c2', rfl, hc2', hr2, hn2⟩ := own_rd hown1
    have hself := (HS1.out _).keep K2 (fun hh => ((HNX.out sb hh.symm).1 rfl))
    have hblk := (HB1.out _).keep K2 (fun hh => ((HNX.out x.blk hh.symm).2.2.1 x HX.out rfl))
    have e2 := hself.cell 2
    have e3 := hself.cell 3
    have f2 := hself.free 2
    have f3 := hself.free 3
    have eb := hblk.cell 0
    have fb := hblk.free 0
    simp only [List.getElem?_cons_succ, List.getElem?_cons_zero] at e2 e3 eb
    have HO1 := Lib.hid hown1
    have HG1 := Lib.hid K2
    have HAT := Lib.hid (show _ ∨ _ from hat1)
    have HSELF := Lib.hid hself
    have HBLK := Lib.hid hblk
    clear hown1 hg1 hat1 K2 hc2' hr2 hn2 hself hblk)
  go_region
  go_wp2
  all_goals
    go_ret
    refine ⟨rfl, ?_⟩
    rw [← HXI.out]
    have k3 := ((((Keep.refl (fun j => j = x.blk ∨ j = sb) w1).setCell (p := ⟨x.blk, 0, none⟩) (.inl (.inl rfl)) (.slice A2 (x.bytes.length + b.length) c2')).setCell (p := ⟨sb, 2, none⟩) (.inl (.inr rfl)) (.int .i64 (S.used + b.length))).setCell (p := ⟨sb, 3, none⟩) (.inl (.inr rfl)) (.int .i64 (max S.peak (S.used + b.length)))).drewN 1
    have hb := ((((HBLK.out.set 0 (.slice A2 (x.bytes.length + b.length) c2')).set_ne nb (p := ⟨sb, 2, none⟩) (.int .i64 (S.used + b.length))).set_ne nb (p := ⟨sb, 3, none⟩) (.int .i64 (max S.peak (S.used + b.length)))).keep ((Keep.refl (fun _ => False) _).drewN 1) (fun h => h))
    have hs := (((((HSELF.out.set_ne nb2 (p := ⟨x.blk, 0, none⟩) (.slice A2 (x.bytes.length + b.length) c2')).set 2 (.int .i64 (S.used + b.length))).set 3 (.int .i64 (max S.peak (S.used + b.length)))).keep ((Keep.refl (fun _ => False) _).drewN 1) (fun h => h)))
    have key := H.out.grown HX.out b HRO.out (HK1.out.drewN _) HO1.out HG1.out HAT.out hb k3 hs
    first
    | (rw [show max S.peak (S.used + (b.length : Int)) = S.used + (b.length : Int) from by omega] at key; exact key)
    | (rw [show max S.peak (S.used + (b.length : Int)) = S.peak from by omega] at key; exact key)
end Go.Proofs.Ytkglkpcpgdeneaa
namespace Go.Proofs.Ytkglkpcpgdeneaa
open Go.RowKit

theorem read_no (w : World) (F : Nat → Prop) (sb : Nat) (S : StoreM) (hS : IsStore w F sb S) (n at_ many : Int) (hf : S.find n = none) :
    Calls Try.prog 41 #[.pointer (some ⟨sb, 0, none⟩), .int .i64 n, .int .i64 at_, .int .i64 many] w fun e w' => e = .returned (.tuple #[.slice none 0 0, .int .i64 14]) ∧ w = w' := by
  obtain ⟨fv, mb, E, h⟩ := hS
  have c6 := h.self.cell 6
  simp only [List.getElem?_cons_succ, List.getElem?_cons_zero] at c6
  have HM := Lib.hid h.map
  have HL := Lib.hid (h.lost hf)
  have HC := Lib.hid c6
  clear h hf c6
  go_enter Try.func41, Try.ntmps41
  go_wp2_with (go_at_call 52; refine (found_no sb mb _ n _ HC.out HM.out HL.out).mono ?_; rintro e w' ⟨rfl, rfl⟩)
  go_ret2
  exact ⟨rfl, rfl⟩
theorem read_nil (w : World) (n at_ many : Int) :
    Calls Try.prog 41 #[.pointer none, .int .i64 n, .int .i64 at_, .int .i64 many] w fun e w' => e = .returned (.tuple #[.slice none 0 0, .int .i64 1]) ∧ w = w' := by
  go_enter Try.func41, Try.ntmps41
  go_wp2_with (go_at_call 52; refine (found_nil n _).mono ?_; rintro e w' ⟨rfl, rfl⟩)
  go_ret2
  exact ⟨rfl, rfl⟩
theorem read_bad (w : World) (F : Nat → Prop) (sb : Nat) (S : StoreM) (hS : IsStore w F sb S) (n at_ many : Int) (bs : List UInt8) (hf : S.find n = some bs) (hbad : at_ < 0 ∨ many < 0 ∨ at_ > bs.length) :
    Calls Try.prog 41 #[.pointer (some ⟨sb, 0, none⟩), .int .i64 n, .int .i64 at_, .int .i64 many] w fun e w' => e = .returned (.tuple #[.slice none 0 0, .int .i64 1]) ∧ w = w' := by
  obtain ⟨fv, mb, E, h⟩ := hS
  obtain ⟨x, hx, hxid, hxb, hfind⟩ := h.found hf
  have c6 := h.self.cell 6
  have cb := (h.ent x hx).1.cell 0
  obtain ⟨A1, c1, hv, hc1, hr1, hn1⟩ := own_rd (h.ent x hx).2
  rw [hv] at cb
  simp only [List.getElem?_cons_succ, List.getElem?_cons_zero] at c6 cb
  have HM := Lib.hid h.map
  have HFD := Lib.hid hfind
  have HC := Lib.hid c6
  rw [← hxb] at hbad
  clear h hf c6 hfind hr1 hn1 hc1 hv hxb hxid hx
  have D : (at_ < 0) ∨ (decide (at_ < 0) = false ∧ many < 0) ∨ (decide (at_ < 0) = false ∧ decide (many < 0) = false ∧ decide ((x.bytes.length : Int) < at_) = true) := by
    by_cases h1 : at_ < 0
    · exact .inl h1
    · by_cases h2 : many < 0
      · exact .inr (.inl ⟨decide_eq_false h1, h2⟩)
      · exact .inr (.inr ⟨decide_eq_false h1, decide_eq_false h2, decide_eq_true (by omega)⟩)
  clear hbad
  rcases D with d1 | ⟨d1, d2⟩ | ⟨d1, d2, d3⟩
  all_goals
    go_enter Try.func41, Try.ntmps41
    go_wp2_with (go_at_call 52; refine (found_yes sb mb _ _ n _ HC.out HM.out _ HFD.out rfl).mono ?_; rintro e w' ⟨rfl, rfl⟩)
    go_ret2
    exact ⟨rfl, rfl⟩

def Read (w : World) (bs : List UInt8) (k : Nat) (e : Ending) (w' : World) : Prop := ∃ v, e = .returned (.tuple #[v, .int .i64 0]) ∧ w'.ownsRow w.heap.size 5 1 v k (bys bs) ∧ Keep (fun _ => False) w w'
theorem read_ok (w : World) (F : Nat → Prop) (sb : Nat) (S : StoreM) (hS : IsStore w F sb S) (n : Int) (a m k : Nat) (bs : List UInt8) (hf : S.find n = some bs) (ha : a ≤ bs.length) (hm : (m : Int) ≤ 9223372036854775807) (hk : k = min m (bs.length - a)) (hlen : bs.length ≤ 140737488355328) :
    Calls Try.prog 41 #[.pointer (some ⟨sb, 0, none⟩), .int .i64 n, .int .i64 a, .int .i64 m] w (Read w ((bs.drop a).take k) k) := by
  obtain ⟨fv, mb, E, h⟩ := hS
  obtain ⟨x, hx, hxid, hxb, hfind⟩ := h.found hf
  have c6 := h.self.cell 6
  have cb := (h.ent x hx).1.cell 0
  have hof := own_form (h.ent x hx).2
  rw [hxb] at hof
  simp only [List.getElem?_cons_succ, List.getElem?_cons_zero] at c6 cb
  have HM := Lib.hid h.map
  have HFD := Lib.hid hfind
  have HC := Lib.hid c6
  clear h hf c6 hfind hxid hx hxb
  rcases hof with ⟨hv, hn0, _⟩ | ⟨g, c, hv, hc, hcm, hr⟩
  · rw [hv] at cb
    have hb0 : bs = [] := List.eq_nil_of_length_eq_zero hn0
    subst hb0
    have ha0 : a = 0 := by simpa using ha
    have hk0 : k = 0 := by simp at hk; exact hk
    subst ha0 hk0
    clear hv hn0 ha hk hlen
    go_enter Try.func41, Try.ntmps41
    go_wp2_with (go_at_call 52; refine (found_yes sb mb _ _ n _ HC.out HM.out _ HFD.out rfl).mono ?_; rintro e w' ⟨rfl, rfl⟩)
    all_goals
      refine (cloneB_any none _ 0 [] _ (RdV.nil _ _) (by simp <;> omega) (fun _ => ⟨by omega, rfl⟩) (by simp) (by omega)).mono ?_
      rintro e w1 ⟨v, rfl, hown, hk1⟩
      have HO := Lib.hid hown
      have HK1 := Lib.hid hk1
      clear hown hk1
      go_wp2
      go_ret2
      refine ⟨v, rfl, ?_, HK1.out⟩
      have := HO.out
      first | exact this | (rw [show m = 0 from by omega] at this; exact this)
  · rw [hv] at cb
    have HR := Lib.hid hr
    have HL := Lib.hid hlen
    have d1 : decide ((a : Int) < 0) = false := decide_eq_false (by omega)
    have d2 : decide ((m : Int) < 0) = false := decide_eq_false (by omega)
    have d3 : decide ((bs.length : Int) < a) = false := decide_eq_false (by omega)
    clear hv hr hlen
    by_cases hca : c = a
    all_goals by_cases hmn : m ≤ bs.length - a
    all_goals
      have HK := Lib.hid hk
      clear hk
      go_enter Try.func41, Try.ntmps41
      go_wp2_with (go_at_call 52; refine (found_yes sb mb _ _ n _ HC.out HM.out _ HFD.out rfl).mono ?_; rintro e w' ⟨rfl, rfl⟩)
      refine (cloneB_any _ _ _ (bys ((bs.drop a).take k)) _ ?hr ?hl (fun e => by cases e) (one_bys _) (by have := HL.out; omega)).mono ?_
      case hr =>
        have e1 : bys ((bs.drop a).take k) = ((bys bs).drop a).take k := by simp [bys, List.map_take, List.map_drop]
        first
        | (rw [e1]; exact (HR.out a).take k)
        | (rw [e1, List.drop_of_length_le (by simp [bys]; omega), List.take_nil]; exact RdV.nil _ _)
      case hl => simp [bys]; have := HK.out; omega
      rintro e w1 ⟨v, rfl, hown, hk1⟩
      have HO := Lib.hid hown
      have HK1 := Lib.hid hk1
      clear hown hk1
      go_wp2
      go_ret2
      refine ⟨v, rfl, ?_, HK1.out⟩
      have h1 := HO.out
      have h2 := HK.out
      first | (rw [show k = m from by omega] at h1 ⊢; exact h1) | (rw [show k = bs.length - a from by omega] at h1 ⊢; exact h1)

theorem used_any (w : World) (F : Nat → Prop) (sb : Nat) (S : StoreM) (hS : IsStore w F sb S) :
    Calls Try.prog 21 #[.pointer (some ⟨sb, 0, none⟩)] w fun e w' => e = .returned (.int .i64 S.used) ∧ w = w' := by
  obtain ⟨fv, mb, E, h⟩ := hS
  have c2 := h.self.cell 2
  simp only [List.getElem?_cons_succ, List.getElem?_cons_zero] at c2
  clear h
  go_enter Try.func21, Try.ntmps21
  go_wp2
  go_ret
  exact ⟨rfl, rfl⟩
theorem used_nil (w : World) :
    Calls Try.prog 21 #[.pointer none] w fun e w' => e = .returned (.int .i64 0) ∧ w = w' := by
  go_enter Try.func21, Try.ntmps21
  go_wp2
  go_ret
  exact ⟨rfl, rfl⟩
theorem peak_any (w : World) (F : Nat → Prop) (sb : Nat) (S : StoreM) (hS : IsStore w F sb S) :
    Calls Try.prog 22 #[.pointer (some ⟨sb, 0, none⟩)] w fun e w' => e = .returned (.int .i64 S.peak) ∧ w = w' := by
  obtain ⟨fv, mb, E, h⟩ := hS
  have c3 := h.self.cell 3
  simp only [List.getElem?_cons_succ, List.getElem?_cons_zero] at c3
  clear h
  go_enter Try.func22, Try.ntmps22
  go_wp2
  go_ret
  exact ⟨rfl, rfl⟩
theorem peak_nil (w : World) :
    Calls Try.prog 22 #[.pointer none] w fun e w' => e = .returned (.int .i64 0) ∧ w = w' := by
  go_enter Try.func22, Try.ntmps22
  go_wp2
  go_ret
  exact ⟨rfl, rfl⟩
theorem writes_any (w : World) (F : Nat → Prop) (sb : Nat) (S : StoreM) (hS : IsStore w F sb S) :
    Calls Try.prog 24 #[.pointer (some ⟨sb, 0, none⟩)] w fun e w' => e = .returned (.int .i64 S.writes) ∧ w = w' := by
  obtain ⟨fv, mb, E, h⟩ := hS
  have c4 := h.self.cell 4
  simp only [List.getElem?_cons_succ, List.getElem?_cons_zero] at c4
  clear h
  go_enter Try.func24, Try.ntmps24
  go_wp2
  go_ret
  exact ⟨rfl, rfl⟩
theorem writes_nil (w : World) :
    Calls Try.prog 24 #[.pointer none] w fun e w' => e = .returned (.int .i64 0) ∧ w = w' := by
  go_enter Try.func24, Try.ntmps24
  go_wp2
  go_ret
  exact ⟨rfl, rfl⟩
end Go.Proofs.Ytkglkpcpgdeneaa
namespace Go.Proofs.Ytkglkpcpgdeneaa
open Go.RowKit

theorem StoreAt.dropped {w w1 w2 : World} {F : Nat → Prop} {sb : Nat} {S : StoreM} {fv : Value} {mb : Nat} {E : List Ent} (h : StoreAt w F sb S fv mb E) {n : Int} {bs : List UInt8} (hf : S.find n = some bs)
    (k1 : Keep (fun j => j = sb) w w1) (k2 : Keep (fun j => j = mb) w1 w2) (hself : Blk w1 sb 79 [.int .i64 S.room, .int .i64 S.next, .int .i64 (S.used - bs.length), .int .i64 S.peak, .int .i64 S.writes, fv, .map (some mb)])
    (hm : MapB w2 mb ((E.map fun e => (e.id, Value.pointer (some ⟨e.blk, 0, none⟩))).eraseP fun p => p.1 == n)) : IsStore w2 F sb (S.drop n) ∧ Keep F w w2 := by
  obtain ⟨nsm, nfv, nent⟩ := h.nes
  have kk : Keep (fun j => j = sb ∨ j = mb) w w2 := (k1.mono (fun _ _ e => .inl e)).trans (k2.mono (fun _ _ e => .inr e))
  have e : S.drop n = { S with used := S.used - bs.length, runs := S.runs.eraseP fun p => p.1 == n } := by unfold StoreM.drop; rw [hf]
  have hsub : ∀ x ∈ E.eraseP (fun e => e.id == n), x ∈ E := fun x hx => List.mem_of_mem_eraseP hx
  refine ⟨⟨fv, mb, E.eraseP (fun e => e.id == n), ?_⟩, kk.mono (fun _ _ e => by rcases e with rfl | rfl; exact h.fsb; exact h.fmb)⟩
  rw [e]
  refine ⟨hself.keep k2 nsm, own_keep h.fails kk (fun g hg hh => by have := nfv g hg; rcases hh with hh | hh; exact this.1 hh; exact this.2.1 hh), ?_, ?_, h.apart.sublist List.eraseP_sublist, ?_, ?_, h.fsb, h.fmb, h.ffv, fun x hx => h.fent x (hsub x hx), fun k hk => Nat.lt_of_lt_of_le (h.lt k hk) kk.size⟩
  · rw [List.eraseP_map] at hm
    exact hm
  · intro x hx
    have hx' := hsub x hx
    have hn := nent x hx'
    exact ⟨(h.ent x hx').1.keep kk (fun hh => by rcases hh with hh | hh; exact hn.1.1 hh; exact hn.1.2 hh), own_keep (h.ent x hx').2 kk (fun g hg hh => by have := hn.2 g hg; rcases hh with hh | hh; exact this.1 hh; exact this.2.1 hh)⟩
  · show S.runs.eraseP _ = _
    rw [h.runs, List.eraseP_map]
    rfl
  · have := h.ok.drop n
    rwa [e] at this

theorem drop_no (w : World) (F : Nat → Prop) (sb : Nat) (S : StoreM) (hS : IsStore w F sb S) (n : Int) (hf : S.find n = none) :
    Calls Try.prog 43 #[.pointer (some ⟨sb, 0, none⟩), .int .i64 n] w fun e w' => e = .returned (.int .i64 14) ∧ w = w' := by
  obtain ⟨fv, mb, E, h⟩ := hS
  have c6 := h.self.cell 6
  simp only [List.getElem?_cons_succ, List.getElem?_cons_zero] at c6
  have HM := Lib.hid h.map
  have HL := Lib.hid (h.lost hf)
  have HC := Lib.hid c6
  clear h hf c6
  go_enter Try.func43, Try.ntmps43
  go_wp2_with (go_at_call 52; refine (found_no sb mb _ n _ HC.out HM.out HL.out).mono ?_; rintro e w' ⟨rfl, rfl⟩)
  go_ret
  exact ⟨rfl, rfl⟩
theorem drop_nil (w : World) (n : Int) :
    Calls Try.prog 43 #[.pointer none, .int .i64 n] w fun e w' => e = .returned (.int .i64 1) ∧ w = w' := by
  go_enter Try.func43, Try.ntmps43
  go_wp2_with (go_at_call 52; refine (found_nil n _).mono ?_; rintro e w' ⟨rfl, rfl⟩)
  go_ret
  exact ⟨rfl, rfl⟩
theorem drop_yes (w : World) (F : Nat → Prop) (sb : Nat) (S : StoreM) (hS : IsStore w F sb S) (n : Int) (bs : List UInt8) (hf : S.find n = some bs) :
    Calls Try.prog 43 #[.pointer (some ⟨sb, 0, none⟩), .int .i64 n] w fun e w' => e = .returned (.int .i64 0) ∧ IsStore w' F sb (S.drop n) ∧ Keep F w w' := by
  obtain ⟨fv, mb, E, h⟩ := hS
  obtain ⟨x, hx, hxid, hxb, hfind⟩ := h.found hf
  have c6 := h.self.cell 6
  have c2 := h.self.cell 2
  have z2 := h.self.free 2
  have cb := (h.ent x hx).1.cell 0
  obtain ⟨A1, c1, hv, hc1, hr1, hn1⟩ := own_rd (h.ent x hx).2
  rw [hv] at cb
  rw [hxb] at cb
  simp only [List.getElem?_cons_succ, List.getElem?_cons_zero] at c6 c2 cb
  have nb : x.blk ≠ sb := (h.nes.2.2 x hx).1.1
  have nb2 : sb ≠ x.blk := nb.symm
  have hle := StoreM.find_le h.ok hf
  have u0 := h.ok.used0
  have u1 := h.ok.used1
  have r1 := h.ok.room1
  have HM := Lib.hid h.map
  have HFD := Lib.hid hfind
  have HC := Lib.hid c6
  have HK1 : Hid (∀ p, Keep (fun j => j = sb) w ((w.setCell ⟨sb, 2, none⟩ (.int .i64 (S.used - bs.length))).drewN p)) := Lib.hid fun p => ((Keep.refl (fun j => j = sb) w).setCell (p := ⟨sb, 2, none⟩) (.inl rfl) _).drewN p
  have HM1 := Lib.hid (h.map.keep (HK1.out 1) (fun e => h.nes.1 e.symm))
  have HS1 : Hid (Blk ((w.setCell ⟨sb, 2, none⟩ (.int .i64 (S.used - bs.length))).drewN 1) sb 79 [.int .i64 S.room, .int .i64 S.next, .int .i64 (S.used - bs.length), .int .i64 S.peak, .int .i64 S.writes, fv, .map (some mb)]) := Lib.hid (h.self.set 2 (.int .i64 (S.used - bs.length)))
  have HF := Lib.hid hf
  have H := Lib.hid h
  clear h hf hfind hr1 hn1 hc1 hv hxb hxid hx
  go_enter Try.func43, Try.ntmps43
  go_wp2_with (go_at_call 52; refine (found_yes sb mb _ _ n _ HC.out HM.out _ HFD.out rfl).mono ?_; rintro e w' ⟨rfl, rfl⟩)
  go_region
  go_wp2_with (
    at_delete
    refine wpL_delete rfl _ _ _ rfl rfl Try.underlying77 Try.underlying3 rfl n rfl HM1.out ?_
    intro w2 hm2 hk2
    have HM2 := Lib.hid hm2
    have HK2 := Lib.hid hk2
    clear hm2 hk2)
  go_ret
  exact ⟨rfl, H.out.dropped HF.out (HK1.out 1) HK2.out HS1.out HM2.out⟩
end Go.Proofs.Ytkglkpcpgdeneaa
namespace Go.Proofs.Ytkglkpcpgdeneaa
namespace StoreM
theorem find_create {S : StoreM} (h : S.Ok) (hn : S.next < 65536) (id : Int) : S.create.find id = if id = S.next then some [] else S.find id := by
  unfold create
  rw [if_neg (by omega)]
  unfold find
  simp only [List.find?_append]
  have h1 := find_next h
  by_cases c : id = S.next
  · subst c
    rw [h1, if_pos rfl]
    simp
  · rw [if_neg c]
    have : ([(S.next, ([] : List UInt8))].find? fun p => p.1 == id) = none := by
      rw [List.find?_eq_none]
      intro p hp
      rw [List.mem_singleton.1 hp]
      simp
      exact fun e => c e.symm
    rw [this, Option.or_none]
theorem find_add (S : StoreM) (n : Int) (b : List UInt8) (id : Int) : (S.add n b).find id = (S.find id).map fun x => if id = n then x ++ b else x := by
  unfold add find
  simp only [List.find?_map]
  have e : ((fun p : Int × List UInt8 => p.1 == id) ∘ fun p => if (p.1 == n) = true then (p.1, p.2 ++ b) else p) = fun p => p.1 == id := by
    funext p
    simp only [Function.comp]
    split <;> rfl
  rw [e]
  cases h : S.runs.find? fun p => p.1 == id with
  | none => rfl
  | some p =>
    have hp := List.find?_some h
    simp only [beq_iff_eq] at hp
    simp only [Option.map_some]
    rw [hp]
    by_cases c : id = n
    · simp [c]
    · simp [c]
theorem find_drop {S : StoreM} (h : S.Ok) (n id : Int) : (S.drop n).find id = if id = n then none else S.find id := by
  unfold drop
  cases hf : S.find n with
  | none =>
    simp only
    split
    · rename_i c; rw [c]; exact hf
    · rfl
  | some b =>
    simp only
    unfold find
    have hids := h.ids
    generalize S.runs = R at hids ⊢
    clear hf h
    induction R with
    | nil => simp
    | cons p R ih =>
      rw [List.pairwise_cons] at hids
      by_cases c : p.1 = n
      · rw [List.eraseP_cons_of_pos (by simpa using c)]
        by_cases c2 : id = n
        · rw [if_pos c2]
          have : (R.find? fun q => q.1 == id) = none := by
            rw [List.find?_eq_none]
            intro q hq
            have := hids.1 q hq
            simp
            rw [c2, ← c]
            exact fun e => this e.symm
          rw [this]; rfl
        · rw [if_neg c2, List.find?_cons_of_neg (by simp; rw [c]; exact fun e => c2 e.symm)]
      · rw [List.eraseP_cons_of_neg (by simpa using c)]
        by_cases c3 : p.1 = id
        · rw [List.find?_cons_of_pos (by simpa using c3), List.find?_cons_of_pos (by simpa using c3), if_neg (by rw [← c3]; exact c)]
        · rw [List.find?_cons_of_neg (by simpa using c3), List.find?_cons_of_neg (by simpa using c3)]
          exact ih hids.2
def dropE' (S : StoreM) (n : Int) : Int := if (S.find n).isSome then 0 else 14
theorem create_ok {S : StoreM} (hn : S.next < 65536) : S.create.next = S.next + 1 ∧ S.create.used = S.used ∧ S.create.room = S.room ∧ S.create.writes = S.writes ∧ S.create.fails = S.fails ∧ S.create.peak = S.peak := by
  unfold create
  rw [if_neg (by omega)]
  exact ⟨rfl, rfl, rfl, rfl, rfl, rfl⟩
end StoreM
end Go.Proofs.Ytkglkpcpgdeneaa
namespace Go.Proofs.Ytkglkpcpgdeneaa
open Go.RowKit

def storeP (sb : Nat) (S : StoreM) : Part where
  at_ w F := IsStore w F sb S
  keep h k hd := h.keep k hd
  lt h := by obtain ⟨_, _, _, h⟩ := h; exact h.lt
section
variable {w0 w : World} {l : List Part} {sb : Nat} {S : StoreM}
theorem St.store (h : St w0 w (storeP sb S :: l)) : ∃ F, IsStore w F sb S := by
  obtain ⟨F, h1, _⟩ := h.open_
  exact ⟨F, h1⟩
theorem St.store_ok (h : St w0 w (storeP sb S :: l)) : S.Ok := by
  obtain ⟨F, _, _, _, h⟩ := h.store
  exact h.ok
theorem St.store_new (h : St w0 w l) (room : Int) (A : Option Addr) (n c : Nat) (fl : List Int) (hroom : room ≤ 9223372036854775807) (hr : RdV w A (ints fl)) (hl : n = fl.length) (hA : A = none → n = 0 ∧ c = 0) (hb : n * 8 ≤ 140737488355328) :
    Calls Try.prog 16 #[.int .i64 room, .slice A n c] w fun e w' => ∃ sb, e = .returned (.pointer (some ⟨sb, 0, none⟩)) ∧ St w0 w' (storeP sb (StoreM.made room fl) :: l) := by
  refine (new_any room A n c fl w hroom hr hl hA hb).mono ?_
  rintro e w' ⟨sb, he, hs, hk⟩
  exact ⟨sb, he, h.new (q := storeP sb _) (hk.mono (fun _ _ f => f.elim)) hs (fun j hj => by rcases hj with hj | hj; exact hj.elim; exact hj.1)⟩
theorem St.store_create (h : St w0 w (storeP sb S :: l)) (hn : S.next < 65536) :
    Calls Try.prog 27 #[.pointer (some ⟨sb, 0, none⟩)] w fun e w' => e = .returned (.tuple #[.int .i64 S.next, .int .i64 0]) ∧ St w0 w' (storeP sb S.create :: l) := by
  obtain ⟨F, h1, h2, h3, _⟩ := h.open_
  refine (create_yes w F sb S h1 hn).mono ?_
  rintro e w' ⟨he, hs, hk⟩
  exact ⟨he, h3 w' (storeP sb _) hk hs⟩
theorem St.store_create_full (h : St w0 w (storeP sb S :: l)) (hn : ¬ S.next < 65536) :
    Calls Try.prog 27 #[.pointer (some ⟨sb, 0, none⟩)] w fun e w' => e = .returned (.tuple #[.int .i64 0, .int .i64 12]) ∧ w = w' := by
  obtain ⟨F, h1⟩ := h.store
  exact create_full w F sb S h1 hn
theorem store_append_F (w : World) (F : Nat → Prop) (hS : IsStore w F sb S) (n : Int) (A : Option Addr) (m c : Nat) (b : List UInt8) (hw : S.writes ≤ 9223372036854775806)
    (hm : m = b.length) (hr : RdV w A (bys b)) (hA : A = none → m = 0) (hFA : b ≠ [] → ∀ y, A = some y → ¬ F y.block) (hlen : ∀ bs, S.find n = some bs → bs.length + b.length ≤ 140737488355328) :
    Calls Try.prog 29 #[.pointer (some ⟨sb, 0, none⟩), .int .i64 n, .slice A m c] w fun e w' => e = .returned (.int .i64 (S.appendE n b)) ∧ IsStore w' (ext F w w') sb (S.append n b) ∧ Keep F w w' := by
  have hF : ∀ w' S', IsStore w' F sb S' → Keep F w w' → IsStore w' (ext F w w') sb S' := fun w' S' h k => by
    obtain ⟨fv, mb, E, h⟩ := h
    refine ⟨fv, mb, E, h.widen (fun k hk => .inl hk) (fun j hj => ?_)⟩
    rcases hj with hj | hj
    · exact h.lt j hj
    · exact hj.2
  unfold StoreM.appendE StoreM.append
  cases hf : S.find n with
  | none =>
    refine (append_no w F sb S hS n A m c hf).mono ?_
    rintro e w' ⟨he, rfl⟩
    exact ⟨he, hF _ _ hS (Keep.refl F w), Keep.refl F w⟩
  | some bs =>
    by_cases hio : S.writes ∈ S.fails
    · simp only [hio, if_true]
      refine (append_io w F sb S hS n A m c hw bs hf hio).mono ?_
      rintro e w' ⟨he, hs, hk⟩
      exact ⟨he, hF _ _ hs hk, hk⟩
    · simp only [hio, if_false]
      by_cases hfull : (b.length : Int) > S.room - S.used
      · simp only [hfull, if_true]
        refine (append_full w F sb S hS n A m c hw bs hf hio (by rw [hm]; exact hfull)).mono ?_
        rintro e w' ⟨he, hs, hk⟩
        exact ⟨he, hF _ _ hs hk, hk⟩
      · simp only [hfull, if_false]
        exact append_ok w F sb S hS n A m c b hw bs hf hio hm hr hA hFA (by omega) (hlen bs hf)
/-- What is appended lies in old memory. -/
theorem St.store_append (h : St w0 w (storeP sb S :: l)) (n : Int) (A : Option Addr) (m c : Nat) (b : List UInt8) (hw : S.writes ≤ 9223372036854775806)
    (hm : m = b.length) (hr : RdV w A (bys b)) (hA : A = none → m = 0) (hlow : b ≠ [] → ∀ y, A = some y → y.block < w0.heap.size) (hlen : ∀ bs, S.find n = some bs → bs.length + b.length ≤ 140737488355328) :
    Calls Try.prog 29 #[.pointer (some ⟨sb, 0, none⟩), .int .i64 n, .slice A m c] w fun e w' => e = .returned (.int .i64 (S.appendE n b)) ∧ St w0 w' (storeP sb (S.append n b) :: l) := by
  obtain ⟨F, h1, h2, h3, _⟩ := h.open_
  refine (store_append_F w F h1 n A m c b hw hm hr hA (fun hb y hy hf => by have := hlow hb y hy; have := (h2 _ hf).1; omega) hlen).mono ?_
  rintro e w' ⟨he, hs, hk⟩
  exact ⟨he, h3 w' (storeP sb _) hk hs⟩
/-- What is appended lies in the part beside. -/
theorem St.store_append2 {q : Part} (h : St w0 w (storeP sb S :: q :: l)) (n : Int) (A : Option Addr) (m c : Nat) (b : List UInt8) (hw : S.writes ≤ 9223372036854775806)
    (hm : m = b.length) (hq : ∀ G, q.at_ w G → RdV w A (bys b) ∧ (b ≠ [] → ∀ y, A = some y → G y.block)) (hA : A = none → m = 0) (hlen : ∀ bs, S.find n = some bs → bs.length + b.length ≤ 140737488355328) :
    Calls Try.prog 29 #[.pointer (some ⟨sb, 0, none⟩), .int .i64 n, .slice A m c] w fun e w' => e = .returned (.int .i64 (S.appendE n b)) ∧ St w0 w' (storeP sb (S.append n b) :: q :: l) := by
  obtain ⟨h0, U, F, V, h1, h2, ⟨G, V2, g1, g2⟩, h4, h5⟩ := h
  have hd : ∀ k, F k → ¬ G k := fun k hk hg => h4 k hk ((g2.2.2.2 k).2 (.inl hg))
  have h : St w0 w (storeP sb S :: q :: l) := ⟨h0, U, F, V, h1, h2, ⟨G, V2, g1, g2⟩, h4, h5⟩
  refine (store_append_F w F h1 n A m c b hw hm (hq G g1).1 hA (fun hb y hy hf => hd _ hf ((hq G g1).2 hb y hy)) hlen).mono ?_
  rintro e w' ⟨he, hs, hk⟩
  refine ⟨he, ?_⟩
  -- the same footprint F serves
  have hsz := h0.size
  have h3 : Parts w w0.heap.size (q :: l) V := ⟨G, V2, g1, g2⟩
  have hV := h3.bd
  refine ⟨h0.trans' hk (fun j _ hf => h2 j hf), fun j => ext F w w' j ∨ V j, ext F w w', V, hs, fun j hj => ?_, h3.keep hk (fun j hj hf => h4 j hf hj), fun j hj hv => ?_, fun _ => Iff.rfl⟩
  · rcases hj with hj | hj
    · exact h2 j hj
    · omega
  · rcases hj with hj | hj
    · exact h4 j hj hv
    · have := (hV j hv).2; omega
theorem own_app {w : World} {G : Nat → Prop} {A : Option Addr} {m c : Nat} {b : List UInt8} (h : (ownP 5 1 (.slice A m c) m (bys b)).at_ w G) : RdV w A (bys b) ∧ (b ≠ [] → ∀ y, A = some y → G y.block) := by
  obtain ⟨A', c', e1, _, hr, _⟩ := own_rd h.1
  injection e1 with e1 _ _
  subst e1
  refine ⟨hr, fun _ y hy => (h.2 _).2 ?_⟩
  subst hy
  rcases h.1.2 with ⟨e, _⟩ | ⟨g, cap, cur, e, _⟩
  · cases e
  · injection e with e _ _
    cases e
    rfl
theorem blk_app {w : World} {G : Nat → Prop} {g : Nat} {T : TypeId} {b : List UInt8} (h : (blkP g T (bys b)).at_ w G) : RdV w (some ⟨g, 0, none⟩) (bys b) ∧ (b ≠ [] → ∀ y, some (⟨g, 0, none⟩ : Addr) = some y → G y.block) := by
  have := RdV.of_blk h.1 0 (bys b).length
  rw [List.drop_zero, List.take_length] at this
  exact ⟨this, fun _ y hy => by cases hy; exact (h.2 g).2 rfl⟩
theorem St.store_read (h : St w0 w (storeP sb S :: l)) (n : Int) (a m k : Nat) (ai mi : Int) (hai : ai = a) (hmi : mi = m) (bs cs : List UInt8) (hf : S.find n = some bs) (ha : a ≤ bs.length) (hm : (m : Int) ≤ 9223372036854775807) (hk : k = min m (bs.length - a)) (hlen : bs.length ≤ 140737488355328) (hcs : (bs.drop a).take k = cs) :
    Calls Try.prog 41 #[.pointer (some ⟨sb, 0, none⟩), .int .i64 n, .int .i64 ai, .int .i64 mi] w fun e w' => ∃ A c, e = .returned (.tuple #[.slice A k c, .int .i64 0]) ∧ k ≤ c ∧ (A = none → k = 0) ∧ St w0 w' (ownP 5 1 (.slice A k c) k (bys cs) :: storeP sb S :: l) := by
  subst hai hmi hcs
  obtain ⟨F, h1⟩ := h.store
  refine (read_ok w F sb S h1 n a m k bs hf ha hm hk hlen).mono ?_
  rintro e w' ⟨v, he, ho, hk⟩
  have h3 := h.made ho (hk.mono (fun _ _ f => f.elim))
  obtain ⟨A, c, rfl, hc, _, hn⟩ := own_rd ho
  exact ⟨A, c, he, hc, hn, h3⟩
theorem St.store_read_no (h : St w0 w (storeP sb S :: l)) (n at_ many : Int) (hf : S.find n = none) :
    Calls Try.prog 41 #[.pointer (some ⟨sb, 0, none⟩), .int .i64 n, .int .i64 at_, .int .i64 many] w fun e w' => e = .returned (.tuple #[.slice none 0 0, .int .i64 14]) ∧ w = w' := by
  obtain ⟨F, h1⟩ := h.store
  exact read_no w F sb S h1 n at_ many hf
theorem St.store_read_bad (h : St w0 w (storeP sb S :: l)) (n at_ many : Int) (bs : List UInt8) (hf : S.find n = some bs) (hbad : at_ < 0 ∨ many < 0 ∨ at_ > bs.length) :
    Calls Try.prog 41 #[.pointer (some ⟨sb, 0, none⟩), .int .i64 n, .int .i64 at_, .int .i64 many] w fun e w' => e = .returned (.tuple #[.slice none 0 0, .int .i64 1]) ∧ w = w' := by
  obtain ⟨F, h1⟩ := h.store
  exact read_bad w F sb S h1 n at_ many bs hf hbad
def StoreM.sizeN (S : StoreM) (n : Int) : Nat := ((S.find n).getD []).length
theorem St.store_used (h : St w0 w (storeP sb S :: l)) : Calls Try.prog 21 #[.pointer (some ⟨sb, 0, none⟩)] w fun e w' => e = .returned (.int .i64 S.used) ∧ w = w' := by
  obtain ⟨F, h1⟩ := h.store
  exact used_any w F sb S h1
theorem St.store_peak (h : St w0 w (storeP sb S :: l)) : Calls Try.prog 22 #[.pointer (some ⟨sb, 0, none⟩)] w fun e w' => e = .returned (.int .i64 S.peak) ∧ w = w' := by
  obtain ⟨F, h1⟩ := h.store
  exact peak_any w F sb S h1
theorem St.store_writes (h : St w0 w (storeP sb S :: l)) : Calls Try.prog 24 #[.pointer (some ⟨sb, 0, none⟩)] w fun e w' => e = .returned (.int .i64 S.writes) ∧ w = w' := by
  obtain ⟨F, h1⟩ := h.store
  exact writes_any w F sb S h1
def StoreM.dropE (S : StoreM) (n : Int) : Int := S.dropE' n
theorem St.store_drop (h : St w0 w (storeP sb S :: l)) (n : Int) :
    Calls Try.prog 43 #[.pointer (some ⟨sb, 0, none⟩), .int .i64 n] w fun e w' => e = .returned (.int .i64 (S.dropE n)) ∧ St w0 w' (storeP sb (S.drop n) :: l) := by
  obtain ⟨F, h1, h2, h3, _⟩ := h.open_
  unfold StoreM.dropE StoreM.dropE'
  cases hf : S.find n with
  | none =>
    refine (drop_no w F sb S h1 n hf).mono ?_
    rintro e w' ⟨he, rfl⟩
    refine ⟨he, ?_⟩
    have : S.drop n = S := by unfold StoreM.drop; rw [hf]
    rw [this]; exact h
  | some bs =>
    refine (drop_yes w F sb S h1 n bs hf).mono ?_
    rintro e w' ⟨he, hs, hk⟩
    refine ⟨he, h3 w' (storeP sb _) hk ?_⟩
    obtain ⟨fv, mb, E, hh⟩ := hs
    exact ⟨fv, mb, E, hh.widen (fun k hk => .inl hk) (fun j hj => by
      rcases hj with hj | hj
      · exact hh.lt j hj
      · exact hj.2)⟩
end
end Go.Proofs.Ytkglkpcpgdeneaa
