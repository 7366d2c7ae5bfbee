/- The scratch store: Append. Conditions: none. -/
import Derived.Test.YtbkpjjibgnachaaStoreC
import Derived.Test.YtbkpjjibgnachaaContains
namespace Go.Proofs.Ytbkpjjibgnachaa
open Go.RowKit

theorem append_no (w : World) (F : Nat → Prop) (sb : Nat) (S : StoreM) (hS : IsStore w F sb S) (n : Int) (A : Option Addr) (m c : Nat) (hf : S.find n = none) :
    Calls Try.prog 18 #[.pointer (some ⟨sb, 0, none⟩), .int .i64 n, .slice A m c] w fun e w' => e = .returned (.int .i64 14) ∧ w = w' := by
  obtain ⟨fv, mb, E, h⟩ := hS
  have c6 := h.self.cell 6
  simp only [List.getElem?_cons_succ, List.getElem?_cons_zero] at c6
  have HM := Lib.hid h.map
  have HL := Lib.hid (h.lost hf)
  have HC := Lib.hid c6
  clear h hf c6
  go_enter Try.func18, Try.ntmps18
  go_wp2_with (go_at_call 51; refine (found_no sb mb _ n _ HC.out HM.out HL.out).mono ?_; rintro e w' ⟨rfl, rfl⟩)
  go_ret
  exact ⟨rfl, rfl⟩

theorem append_io (w : World) (F : Nat → Prop) (sb : Nat) (S : StoreM) (hS : IsStore w F sb S) (n : Int) (A : Option Addr) (m c : Nat) (hw : S.writes ≤ 9223372036854775806) (bs : List UInt8) (hf : S.find n = some bs) (hio : S.writes ∈ S.fails) :
    Calls Try.prog 18 #[.pointer (some ⟨sb, 0, none⟩), .int .i64 n, .slice A m c] w fun e w' => e = .returned (.int .i64 13) ∧ IsStore w' F sb { S with writes := S.writes + 1 } ∧ Keep F w w' := by
  obtain ⟨fv, mb, E, h⟩ := hS
  obtain ⟨x, hx, _, _, hfind⟩ := h.found hf
  have c6 := h.self.cell 6
  have c4 := h.self.cell 4
  have c5 := h.self.cell 5
  have z4 := h.self.free 4
  simp only [List.getElem?_cons_succ, List.getElem?_cons_zero] at c4 c5 c6
  have w0 := h.ok.writes0
  obtain ⟨A1, c1, rfl, hc1, hr1, hn1⟩ := own_rd h.fails
  have HM := Lib.hid h.map
  have HC := Lib.hid c6
  have HFD := Lib.hid hfind
  have k1 : Keep (fun j => j = sb) w (w.setCell ⟨sb, 4, none⟩ (.int .i64 (S.writes + 1))) := (Keep.refl (fun j => j = sb) w).setCell (p := ⟨sb, 4, none⟩) (.inl rfl) _
  have HR1 := Lib.hid (hr1.keep k1 (fun y hy _ hh => by
    subst hy
    exact (h.nes.2.1 y.block rfl).1 hh))
  have HLEN := Lib.hid (own_len h.fails)
  have HIO := Lib.hid hio
  have H := Lib.hid h
  clear h hf hfind hr1 hn1 hc1 hio k1 c6
  go_enter Try.func18, Try.ntmps18
  go_wp2_with (go_at_call 51; refine (found_yes sb mb _ _ n _ HC.out HM.out _ HFD.out rfl).mono ?_; rintro e w' ⟨rfl, rfl⟩)
  go_quiet ((go_at_call 52; exact Calls.quiet_of_same (contains_c _ _ _ S.fails S.writes true _ HR1.out (by simp) HLEN.out (decide_eq_true HIO.out))))
  go_wp2
  go_ret
  have k1 : Keep (fun j => j = sb) w ((w.setCell ⟨sb, 4, none⟩ (.int .i64 (S.writes + 1))).drewN nq) := ((Keep.refl (fun j => j = sb) w).setCell (p := ⟨sb, 4, none⟩) (.inl rfl) _).drewN nq
  have hb : Blk ((w.setCell ⟨sb, 4, none⟩ (.int .i64 (S.writes + 1))).drewN nq) sb 84 _ := H.out.self.set 4 (.int .i64 (S.writes + 1))
  exact ⟨rfl, ⟨_, mb, E, H.out.counters (S' := { S with writes := S.writes + 1 }) k1 hb rfl rfl H.out.ok.wrote⟩, k1.mono (fun _ _ e => by subst e; exact H.out.fsb)⟩

theorem append_full (w : World) (F : Nat → Prop) (sb : Nat) (S : StoreM) (hS : IsStore w F sb S) (n : Int) (A : Option Addr) (m c : Nat) (hw : S.writes ≤ 9223372036854775806) (bs : List UInt8) (hf : S.find n = some bs) (hio : S.writes ∉ S.fails) (hfull : (m : Int) > S.room - S.used) :
    Calls Try.prog 18 #[.pointer (some ⟨sb, 0, none⟩), .int .i64 n, .slice A m c] w fun e w' => e = .returned (.int .i64 12) ∧ IsStore w' F sb { S with writes := S.writes + 1 } ∧ Keep F w w' := by
  obtain ⟨fv, mb, E, h⟩ := hS
  obtain ⟨x, hx, _, _, hfind⟩ := h.found hf
  have c6 := h.self.cell 6
  have c4 := h.self.cell 4
  have c5 := h.self.cell 5
  have c0 := h.self.cell 0
  have c2 := h.self.cell 2
  have z4 := h.self.free 4
  simp only [List.getElem?_cons_succ, List.getElem?_cons_zero] at c4 c5 c6 c0 c2
  have w0 := h.ok.writes0
  have u0 := h.ok.used0
  have u1 := h.ok.used1
  have r1 := h.ok.room1
  have hq : decide (S.room - S.used < (m : Int)) = true := decide_eq_true hfull
  obtain ⟨A1, c1, rfl, hc1, hr1, hn1⟩ := own_rd h.fails
  have HM := Lib.hid h.map
  have HC := Lib.hid c6
  have HFD := Lib.hid hfind
  have k1 : Keep (fun j => j = sb) w (w.setCell ⟨sb, 4, none⟩ (.int .i64 (S.writes + 1))) := (Keep.refl (fun j => j = sb) w).setCell (p := ⟨sb, 4, none⟩) (.inl rfl) _
  have HR1 := Lib.hid (hr1.keep k1 (fun y hy _ hh => by
    subst hy
    exact (h.nes.2.1 y.block rfl).1 hh))
  have HLEN := Lib.hid (own_len h.fails)
  have HIO := Lib.hid hio
  have H := Lib.hid h
  clear h hf hfind hr1 hn1 hc1 hio k1 c6 hfull
  go_enter Try.func18, Try.ntmps18
  go_wp2_with (go_at_call 51; refine (found_yes sb mb _ _ n _ HC.out HM.out _ HFD.out rfl).mono ?_; rintro e w' ⟨rfl, rfl⟩)
  go_quiet ((go_at_call 52; exact Calls.quiet_of_same (contains_c _ _ _ S.fails S.writes false _ HR1.out (by simp) HLEN.out (decide_eq_false HIO.out))))
  go_wp2
  go_quiet (fail)
  go_wp2
  go_ret
  have k2 : Keep (fun j => j = sb) w (w.setCell ⟨sb, 4, none⟩ (.int .i64 (S.writes + 1))) := (Keep.refl (fun j => j = sb) w).setCell (p := ⟨sb, 4, none⟩) (.inl rfl) _
  have hs := H.out.counters (S' := { S with writes := S.writes + 1 }) k2 (H.out.self.set 4 (.int .i64 (S.writes + 1))) rfl rfl H.out.ok.wrote
  have k3 := (k2.drewN nq).mono (G := F) (fun _ _ e => by subst e; exact H.out.fsb)
  exact ⟨rfl, ⟨_, mb, E, hs.keep (((Keep.refl (fun _ => False) _).drewN _).drewN _) (fun _ _ h => h)⟩, (((k2.mono (G := F) (fun _ _ e => by subst e; exact H.out.fsb)).drewN _).drewN _)⟩

/-- The bytes of one run have grown. -/
theorem StoreAt.grown {w w1 w2 w3 : World} {F : Nat → Prop} {sb : Nat} {S : StoreM} {fv : Value} {mb : Nat} {E : List Ent} (h : StoreAt w F sb S fv mb E) {x : Ent} (hx : x ∈ E) (bs : List UInt8) (hroom : (bs.length : Int) ≤ S.room - S.used)
    {v : Value} (k1 : Keep (fun j => j = sb) w w1) (hown : w2.ownsRow 0 5 1 v (x.bytes.length + bs.length) (bys x.bytes ++ bys bs)) (k2 : Keep (fun j => some j = x.val.ownBlock) w1 w2) (hat : v.ownBlock = x.val.ownBlock ∨ v.ownBlock = some w1.heap.size)
    (hb : Blk w3 x.blk 87 [v]) (k3 : Keep (fun j => j = x.blk ∨ j = sb) w2 w3)
    (hself : Blk w3 sb 84 [.int .i64 S.room, .int .i64 S.next, .int .i64 (S.used + bs.length), .int .i64 (max S.peak (S.used + bs.length)), .int .i64 (S.writes + 1), fv, .map (some mb)]) :
    IsStore w3 (ext F w w3) sb (S.add x.id bs) ∧ Keep F w w3 := by
  obtain ⟨nsm, nfv, nent⟩ := h.nes
  have hxf := h.fent x hx
  have kall : Keep F w w3 := ((k1.mono (G := F) (fun _ _ e => by subst e; exact h.fsb)).trans' (k2.mono (G := fun j => some j = x.val.ownBlock) (fun _ _ h => h)) (fun k _ e => hxf.2 k e.symm)).trans' k3 (fun k _ e => by
    rcases e with rfl | rfl
    · exact hxf.1
    · exact h.fsb)
  have hs1 := k1.size
  have hs2 := k2.size
  have hs3 := k3.size
  have xown := (h.ent x hx).2
  have vlt : ∀ k, v.ownBlock = some k → k < w2.heap.size := fun k hk => by
    obtain ⟨cs, hc⟩ := own_heap hown k hk
    exact hc.lt
  -- what is not written stays
  have kk : Keep (fun j => j = sb ∨ j = x.blk ∨ some j = x.val.ownBlock) w w3 := ((k1.mono (fun _ _ e => .inl e)).trans (k2.mono (fun _ _ e => .inr (.inr e)))).trans (k3.mono (fun _ _ e => by
    rcases e with e | e
    · exact .inr (.inl e)
    · exact .inl e))
  have hids : ∀ e ∈ E, e ≠ x → e.blk ≠ x.blk ∧ ∀ k, e.val.ownBlock = some k → x.val.ownBlock ≠ some k := by
    intro e he hne
    rcases List.mem_iff_getElem.1 he with ⟨i, hi, rfl⟩
    rcases List.mem_iff_getElem.1 hx with ⟨j, hj, hj'⟩
    have hp := List.pairwise_iff_getElem.1 h.apart
    rcases Nat.lt_trichotomy i j with hlt | heq | hgt
    · have := hp i j hi hj hlt
      rw [hj'] at this
      exact this
    · subst heq; exact absurd hj' hne
    · have := hp j i hj hi hgt
      rw [hj'] at this
      exact ⟨this.1.symm, fun k hk hk' => this.2 k hk' hk⟩
  refine ⟨⟨fv, mb, E.map fun e => if e.id == x.id then { e with val := v, bytes := e.bytes ++ bs } else e, ?_⟩, kall⟩
  have hidne : ∀ e ∈ E, e.id = x.id → e = x := by
    intro e he hid
    have hn := h.ok.ids
    rw [h.runs, List.pairwise_map] at hn
    rcases List.mem_iff_getElem.1 he with ⟨i, hi, rfl⟩
    rcases List.mem_iff_getElem.1 hx with ⟨j, hj, hj'⟩
    have hp := List.pairwise_iff_getElem.1 hn
    rcases Nat.lt_trichotomy i j with hlt | heq | hgt
    · have := hp i j hi hj hlt; rw [hj'] at this; exact absurd hid this
    · subst heq; exact hj'
    · have := hp j i hj hi hgt; rw [hj'] at this; exact absurd hid.symm this
  have hfind : S.find x.id ≠ none := by
    intro hn
    have := h.lost hn
    rw [List.find?_eq_none] at this
    exact this _ (List.mem_map.2 ⟨x, hx, rfl⟩) (by simp)
  have hvb : ∀ k, v.ownBlock = some k → k ≠ x.blk ∧ k ≠ sb := fun k hk => by
    rcases hat with e | e
    · rw [e] at hk
      exact ⟨((nent x hx).2 k hk).2.2.1 x hx, ((nent x hx).2 k hk).1⟩
    · rw [e] at hk
      injection hk with hk
      have l1 := h.lt _ hxf.1
      have l2 := h.lt _ h.fsb
      omega
  have own3 : w3.ownsRow 0 5 1 v (x.bytes.length + bs.length) (bys (x.bytes ++ bs)) := by
    rw [bys_append]
    exact own_keep hown k3 (fun g hg hh => by
      have := hvb g hg
      rcases hh with hh | hh
      · exact this.1 hh
      · exact this.2 hh)
  refine ⟨hself, own_keep h.fails kk (fun g hg hh => ?_), ?_, ?_, ?_, ?_, h.ok.add x.id bs hfind hroom, .inl h.fsb, .inl h.fmb, fun k hk => .inl (h.ffv k hk), ?_, ?_⟩
  · have := nfv g hg
    rcases hh with hh | hh | hh
    · exact this.1 hh
    · exact this.2.2 x hx hh
    · exact ((nent x hx).2 g hh.symm).2.2.2 g hg rfl
  · have e : (E.map fun e => if e.id == x.id then { e with val := v, bytes := e.bytes ++ bs } else e).map (fun e => (e.id, Value.pointer (some ⟨e.blk, 0, none⟩))) = E.map fun e => (e.id, Value.pointer (some ⟨e.blk, 0, none⟩)) := by
      rw [List.map_map]
      refine List.map_congr_left fun e _ => ?_
      simp only [Function.comp]
      split <;> rfl
    rw [e]
    exact h.map.keep kk (fun hh => by
      rcases hh with hh | hh | hh
      · exact nsm hh.symm
      · exact (nent x hx).1.2 hh.symm
      · exact ((nent x hx).2 mb hh.symm).2.1 rfl)
  · intro e he
    obtain ⟨y, hy, rfl⟩ := List.mem_map.1 he
    by_cases c : y.id = x.id
    · have := hidne y hy c
      subst this
      simp only [beq_self_eq_true, if_true]
      exact ⟨hb, by rw [List.length_append]; exact own3⟩
    · have c2 : (y.id == x.id) = false := by simpa using c
      rw [c2]
      simp only [Bool.false_eq_true, if_false]
      have hyx : y ≠ x := fun e => c (by rw [e])
      have hd := hids y hy hyx
      refine ⟨(h.ent y hy).1.keep kk (fun hh => ?_), own_keep (h.ent y hy).2 kk (fun g hg hh => ?_)⟩
      · rcases hh with hh | hh | hh
        · exact (nent y hy).1.1 hh
        · exact hd.1 hh
        · exact ((nent x hx).2 y.blk hh.symm).2.2.1 y hy rfl
      · rcases hh with hh | hh | hh
        · exact ((nent y hy).2 g hg).1 hh
        · exact ((nent y hy).2 g hg).2.2.1 x hx hh
        · exact hd.2 g hg hh.symm
  · rw [List.pairwise_map]
    refine List.Pairwise.imp_of_mem ?_ h.apart
    intro a b ha hb' hab
    by_cases ca : a.id = x.id
    · have ea := hidne a ha ca
      by_cases cb : b.id = x.id
      · have eb := hidne b hb' cb
        rw [ea, eb] at hab
        exact absurd rfl hab.1
      · have ca2 : (a.id == x.id) = true := by simpa using ca
        have cb2 : (b.id == x.id) = false := by simpa using cb
        simp only [ca2, cb2, if_true, Bool.false_eq_true, if_false]
        refine ⟨hab.1, fun k hk hk' => ?_⟩
        rcases hat with e | e
        · rw [e, ← ea] at hk; exact hab.2 k hk hk'
        · rw [e] at hk
          injection hk with hk
          have := h.lt _ ((h.fent b hb').2 k hk')
          omega
    · by_cases cb : b.id = x.id
      · have eb := hidne b hb' cb
        have ca2 : (a.id == x.id) = false := by simpa using ca
        have cb2 : (b.id == x.id) = true := by simpa using cb
        simp only [ca2, cb2, if_true, Bool.false_eq_true, if_false]
        refine ⟨hab.1, fun k hk hk' => ?_⟩
        rcases hat with e | e
        · rw [e, ← eb] at hk'; exact hab.2 k hk hk'
        · rw [e] at hk'
          injection hk' with hk'
          have := h.lt _ ((h.fent a ha).2 k hk)
          omega
      · have ca2 : (a.id == x.id) = false := by simpa using ca
        have cb2 : (b.id == x.id) = false := by simpa using cb
        simp only [ca2, cb2, Bool.false_eq_true, if_false]
        exact hab
  · simp only [StoreM.add]
    rw [h.runs, List.map_map, List.map_map]
    refine List.map_congr_left fun e _ => ?_
    simp only [Function.comp]
    split <;> rfl
  · intro e he
    obtain ⟨y, hy, rfl⟩ := List.mem_map.1 he
    have hyf := h.fent y hy
    split
    · refine ⟨.inl hyf.1, fun k hk => ?_⟩
      rcases hat with e | e
      · rw [e] at hk; exact .inl (hxf.2 k hk)
      · have h1 := vlt k hk
        rw [e] at hk
        injection hk with hk
        exact .inr ⟨by omega, by omega⟩
    · exact ⟨.inl hyf.1, fun k hk => .inl (hyf.2 k hk)⟩
  · intro k hk
    rcases hk with hk | hk
    · have := h.lt k hk; omega
    · exact hk.2
end Go.Proofs.Ytbkpjjibgnachaa
