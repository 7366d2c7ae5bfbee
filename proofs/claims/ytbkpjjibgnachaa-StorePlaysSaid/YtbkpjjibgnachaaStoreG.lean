/- The scratch store: Drop. Conditions: none. -/
import Derived.Test.YtbkpjjibgnachaaStoreF
namespace Go.Proofs.Ytbkpjjibgnachaa
open Go.RowKit

theorem StoreAt.dropped {w w1 w2 : World} {F : Nat → Prop} {sb : Nat} {S : StoreM} {fv : Value} {mb : Nat} {E : List Ent} (h : StoreAt w F sb S fv mb E) {n : Int} {bs : List UInt8} (hf : S.find n = some bs)
    (k1 : Keep (fun j => j = sb) w w1) (k2 : Keep (fun j => j = mb) w1 w2) (hself : Blk w1 sb 84 [.int .i64 S.room, .int .i64 S.next, .int .i64 (S.used - bs.length), .int .i64 S.peak, .int .i64 S.writes, fv, .map (some mb)])
    (hm : MapB w2 mb ((E.map fun e => (e.id, Value.pointer (some ⟨e.blk, 0, none⟩))).eraseP fun p => p.1 == n)) : IsStore w2 F sb (S.drop n) ∧ Keep F w w2 := by
  obtain ⟨nsm, nfv, nent⟩ := h.nes
  have kk : Keep (fun j => j = sb ∨ j = mb) w w2 := (k1.mono (fun _ _ e => .inl e)).trans (k2.mono (fun _ _ e => .inr e))
  have e : S.drop n = { S with used := S.used - bs.length, runs := S.runs.eraseP fun p => p.1 == n } := by unfold StoreM.drop; rw [hf]
  have hsub : ∀ x ∈ E.eraseP (fun e => e.id == n), x ∈ E := fun x hx => List.mem_of_mem_eraseP hx
  refine ⟨⟨fv, mb, E.eraseP (fun e => e.id == n), ?_⟩, kk.mono (fun _ _ e => by rcases e with rfl | rfl; exact h.fsb; exact h.fmb)⟩
  rw [e]
  refine ⟨hself.keep k2 nsm, own_keep h.fails kk (fun g hg hh => by have := nfv g hg; rcases hh with hh | hh; exact this.1 hh; exact this.2.1 hh), ?_, ?_, h.apart.sublist List.eraseP_sublist, ?_, ?_, h.fsb, h.fmb, h.ffv, fun x hx => h.fent x (hsub x hx), fun k hk => Nat.lt_of_lt_of_le (h.lt k hk) kk.size⟩
  · rw [List.eraseP_map] at hm
    exact hm
  · intro x hx
    have hx' := hsub x hx
    have hn := nent x hx'
    exact ⟨(h.ent x hx').1.keep kk (fun hh => by rcases hh with hh | hh; exact hn.1.1 hh; exact hn.1.2 hh), own_keep (h.ent x hx').2 kk (fun g hg hh => by have := hn.2 g hg; rcases hh with hh | hh; exact this.1 hh; exact this.2.1 hh)⟩
  · show S.runs.eraseP _ = _
    rw [h.runs, List.eraseP_map]
    rfl
  · have := h.ok.drop n
    rwa [e] at this

theorem drop_no (w : World) (F : Nat → Prop) (sb : Nat) (S : StoreM) (hS : IsStore w F sb S) (n : Int) (hf : S.find n = none) :
    Calls Try.prog 22 #[.pointer (some ⟨sb, 0, none⟩), .int .i64 n] w fun e w' => e = .returned (.int .i64 14) ∧ w = w' := by
  obtain ⟨fv, mb, E, h⟩ := hS
  have c6 := h.self.cell 6
  simp only [List.getElem?_cons_succ, List.getElem?_cons_zero] at c6
  have HM := Lib.hid h.map
  have HL := Lib.hid (h.lost hf)
  have HC := Lib.hid c6
  clear h hf c6
  go_enter Try.func22, Try.ntmps22
  go_wp2_with (go_at_call 51; refine (found_no sb mb _ n _ HC.out HM.out HL.out).mono ?_; rintro e w' ⟨rfl, rfl⟩)
  go_ret
  exact ⟨rfl, rfl⟩
theorem drop_nil (w : World) (n : Int) :
    Calls Try.prog 22 #[.pointer none, .int .i64 n] w fun e w' => e = .returned (.int .i64 1) ∧ w = w' := by
  go_enter Try.func22, Try.ntmps22
  go_wp2_with (go_at_call 51; refine (found_nil n _).mono ?_; rintro e w' ⟨rfl, rfl⟩)
  go_ret
  exact ⟨rfl, rfl⟩
theorem drop_yes (w : World) (F : Nat → Prop) (sb : Nat) (S : StoreM) (hS : IsStore w F sb S) (n : Int) (bs : List UInt8) (hf : S.find n = some bs) :
    Calls Try.prog 22 #[.pointer (some ⟨sb, 0, none⟩), .int .i64 n] w fun e w' => e = .returned (.int .i64 0) ∧ IsStore w' F sb (S.drop n) ∧ Keep F w w' := by
  obtain ⟨fv, mb, E, h⟩ := hS
  obtain ⟨x, hx, hxid, hxb, hfind⟩ := h.found hf
  have c6 := h.self.cell 6
  have c2 := h.self.cell 2
  have z2 := h.self.free 2
  have cb := (h.ent x hx).1.cell 0
  obtain ⟨A1, c1, hv, hc1, hr1, hn1⟩ := own_rd (h.ent x hx).2
  rw [hv] at cb
  rw [hxb] at cb
  simp only [List.getElem?_cons_succ, List.getElem?_cons_zero] at c6 c2 cb
  have nb : x.blk ≠ sb := (h.nes.2.2 x hx).1.1
  have nb2 : sb ≠ x.blk := nb.symm
  have hle := StoreM.find_le h.ok hf
  have u0 := h.ok.used0
  have u1 := h.ok.used1
  have r1 := h.ok.room1
  have HM := Lib.hid h.map
  have HFD := Lib.hid hfind
  have HC := Lib.hid c6
  have HK1 : Hid (∀ p, Keep (fun j => j = sb) w ((w.setCell ⟨sb, 2, none⟩ (.int .i64 (S.used - bs.length))).drewN p)) := Lib.hid fun p => ((Keep.refl (fun j => j = sb) w).setCell (p := ⟨sb, 2, none⟩) (.inl rfl) _).drewN p
  have HM1 := Lib.hid (h.map.keep (HK1.out 1) (fun e => h.nes.1 e.symm))
  have HS1 : Hid (Blk ((w.setCell ⟨sb, 2, none⟩ (.int .i64 (S.used - bs.length))).drewN 1) sb 84 [.int .i64 S.room, .int .i64 S.next, .int .i64 (S.used - bs.length), .int .i64 S.peak, .int .i64 S.writes, fv, .map (some mb)]) := Lib.hid (h.self.set 2 (.int .i64 (S.used - bs.length)))
  have HF := Lib.hid hf
  have H := Lib.hid h
  clear h hf hfind hr1 hn1 hc1 hv hxb hxid hx
  go_enter Try.func22, Try.ntmps22
  go_wp2_with (go_at_call 51; refine (found_yes sb mb _ _ n _ HC.out HM.out _ HFD.out rfl).mono ?_; rintro e w' ⟨rfl, rfl⟩)
  go_region
  go_wp2_with (
    at_delete
    refine wpL_delete rfl _ _ _ rfl rfl Try.underlying82 Try.underlying3 rfl n rfl HM1.out ?_
    intro w2 hm2 hk2
    have HM2 := Lib.hid hm2
    have HK2 := Lib.hid hk2
    clear hm2 hk2)
  go_ret
  exact ⟨rfl, H.out.dropped HF.out (HK1.out 1) HK2.out HS1.out HM2.out⟩
end Go.Proofs.Ytbkpjjibgnachaa
