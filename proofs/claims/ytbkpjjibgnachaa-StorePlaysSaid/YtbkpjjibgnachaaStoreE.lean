/- The scratch store: Append where there is room. Conditions: none. -/
import Derived.Test.YtbkpjjibgnachaaStoreD
namespace Go.Proofs.Ytbkpjjibgnachaa
open Go.RowKit

theorem append_ok (w : World) (F : Nat → Prop) (sb : Nat) (S : StoreM) (hS : IsStore w F sb S) (n : Int) (A : Option Addr) (m c : Nat) (b : List UInt8) (hw : S.writes ≤ 9223372036854775806) (bs : List UInt8) (hf : S.find n = some bs) (hio : S.writes ∉ S.fails)
    (hm : m = b.length) (hr : RdV w A (bys b)) (hA : A = none → m = 0) (hFA : b ≠ [] → ∀ y, A = some y → ¬ F y.block) (hroom : (b.length : Int) ≤ S.room - S.used) (hlen : bs.length + b.length ≤ 140737488355328) :
    Calls Try.prog 18 #[.pointer (some ⟨sb, 0, none⟩), .int .i64 n, .slice A m c] w fun e w' => e = .returned (.int .i64 0) ∧ IsStore w' (ext F w w') sb (S.add n b) ∧ Keep F w w' := by
  obtain ⟨fv, mb, E, h⟩ := hS
  obtain ⟨x, hx, hxid, hxb, hfind⟩ := h.found hf
  have c6 := h.self.cell 6
  have c4 := h.self.cell 4
  have c5 := h.self.cell 5
  have c0 := h.self.cell 0
  have c2 := h.self.cell 2
  have z4 := h.self.free 4
  have cb := (h.ent x hx).1.cell 0
  simp only [List.getElem?_cons_succ, List.getElem?_cons_zero] at c4 c5 c6 c0 c2 cb
  have nb : x.blk ≠ sb := (h.nes.2.2 x hx).1.1
  have nb2 : sb ≠ x.blk := nb.symm
  have w0 := h.ok.writes0
  have u0 := h.ok.used0
  have u1 := h.ok.used1
  have r1 := h.ok.room1
  have p0 := h.ok.peak0
  have p1 := h.ok.peak1
  subst hm
  have hq : decide (S.room - S.used < (b.length : Int)) = false := decide_eq_false (by omega)
  have hu : S.used + (b.length : Int) ≤ 9223372036854775807 := by omega
  obtain ⟨A1, c1, rfl, hc1, hr1, hn1⟩ := own_rd h.fails
  have HM := Lib.hid h.map
  have HC := Lib.hid c6
  have HFD := Lib.hid hfind
  have k1 : Keep (fun j => j = sb) w (w.setCell ⟨sb, 4, none⟩ (.int .i64 (S.writes + 1))) := (Keep.refl (fun j => j = sb) w).setCell (p := ⟨sb, 4, none⟩) (.inl rfl) _
  have HR1 := Lib.hid (hr1.keep k1 (fun y hy _ hh => by
    subst hy
    exact (h.nes.2.1 y.block rfl).1 hh))
  have HLEN := Lib.hid (own_len h.fails)
  have HIO := Lib.hid hio
  have HRB : Hid (∀ p, RdV ((w.setCell ⟨sb, 4, none⟩ (.int .i64 (S.writes + 1))).drewN p) A (bys b)) := Lib.hid (fun p => by
    cases b with
    | nil => exact RdV.nil _ _
    | cons u r => exact hr.keep (k1.drewN p) (fun y hy _ hh => hFA (by simp) y hy (by rw [hh]; exact h.fsb)))
  have HXO := Lib.hid (fun p => own_keep (h.ent x hx).2 (k1.drewN p) (fun g hg => ((h.nes.2.2 x hx).2 g hg).1))
  have HK1 := Lib.hid k1
  have HS1 : Hid (∀ p, Blk ((w.setCell ⟨sb, 4, none⟩ (.int .i64 (S.writes + 1))).drewN p) sb 84 [.int .i64 S.room, .int .i64 S.next, .int .i64 S.used, .int .i64 S.peak, .int .i64 (S.writes + 1), .slice A1 S.fails.length c1, .map (some mb)]) := Lib.hid (fun p => h.self.set 4 (.int .i64 (S.writes + 1)))
  have HB1 := Lib.hid (fun p => (h.ent x hx).1.keep (k1.drewN p) nb)
  have HNX := Lib.hid ((h.nes.2.2 x hx).2)
  have HA := Lib.hid hA
  have HLE := Lib.hid hlen
  have HXB := Lib.hid hxb
  have HXI := Lib.hid hxid
  have H := Lib.hid h
  have HX := Lib.hid hx
  have HRO := Lib.hid hroom
  clear h hf hfind hr1 hn1 hc1 hio k1 c6 hr hFA hA hlen hxb hxid hroom
  go_enter Try.func18, Try.ntmps18
  go_wp2_with (go_at_call 51; refine (found_yes sb mb _ _ n _ HC.out HM.out _ HFD.out rfl).mono ?_; rintro e w' ⟨rfl, rfl⟩)
  go_quiet ((go_at_call 52; exact Calls.quiet_of_same (contains_c _ _ _ S.fails S.writes false _ HR1.out (by simp) HLEN.out (decide_eq_false HIO.out))))
  go_wp2
  go_quiet (fail)
  go_wp2_with (
    at_builtin
    refine wpL_append _ rfl (.tmp 53) (.tmp 54) 28 28 rfl 0 5 (.int .u8 0) 1 1 Try.underlying28 (by kernel_rfl) rfl (by decide) _ x.bytes.length (bys x.bytes) rfl (HXO.out _) _ b.length (bys b) rfl (Src.of_rd Try.underlying28 (HRB.out _) b.length c (by simp [bys]) (one_bys b) HA.out) (by have := HLE.out; rw [HXB.out]; unfold maxLen; omega) (by have := HLE.out; rw [HXB.out]; omega) (Nat.zero_le _) ?_
    intro v1 w1 hown1 hg1 hat1
    have K2 := Keep.of_grown (show World.grownBy _ w1 x.val.ownBlock from hg1)
    obtain ⟨A2, c2', rfl, hc2', hr2, hn2⟩ := own_rd hown1
    have hself := (HS1.out _).keep K2 (fun hh => ((HNX.out sb hh.symm).1 rfl))
    have hblk := (HB1.out _).keep K2 (fun hh => ((HNX.out x.blk hh.symm).2.2.1 x HX.out rfl))
    have e2 := hself.cell 2
    have e3 := hself.cell 3
    have f2 := hself.free 2
    have f3 := hself.free 3
    have eb := hblk.cell 0
    have fb := hblk.free 0
    simp only [List.getElem?_cons_succ, List.getElem?_cons_zero] at e2 e3 eb
    have HO1 := Lib.hid hown1
    have HG1 := Lib.hid K2
    have HAT := Lib.hid (show _ ∨ _ from hat1)
    have HSELF := Lib.hid hself
    have HBLK := Lib.hid hblk
    clear hown1 hg1 hat1 K2 hc2' hr2 hn2 hself hblk)
  go_region
  go_wp2
  all_goals
    go_ret
    refine ⟨rfl, ?_⟩
    rw [← HXI.out]
    have k3 := ((((Keep.refl (fun j => j = x.blk ∨ j = sb) w1).setCell (p := ⟨x.blk, 0, none⟩) (.inl (.inl rfl)) (.slice A2 (x.bytes.length + b.length) c2')).setCell (p := ⟨sb, 2, none⟩) (.inl (.inr rfl)) (.int .i64 (S.used + b.length))).setCell (p := ⟨sb, 3, none⟩) (.inl (.inr rfl)) (.int .i64 (max S.peak (S.used + b.length)))).drewN 1
    have hb := ((((HBLK.out.set 0 (.slice A2 (x.bytes.length + b.length) c2')).set_ne nb (p := ⟨sb, 2, none⟩) (.int .i64 (S.used + b.length))).set_ne nb (p := ⟨sb, 3, none⟩) (.int .i64 (max S.peak (S.used + b.length)))).keep ((Keep.refl (fun _ => False) _).drewN 1) (fun h => h))
    have hs := (((((HSELF.out.set_ne nb2 (p := ⟨x.blk, 0, none⟩) (.slice A2 (x.bytes.length + b.length) c2')).set 2 (.int .i64 (S.used + b.length))).set 3 (.int .i64 (max S.peak (S.used + b.length)))).keep ((Keep.refl (fun _ => False) _).drewN 1) (fun h => h)))
    have key := H.out.grown HX.out b HRO.out (HK1.out.drewN _) HO1.out HG1.out HAT.out hb k3 hs
    first
    | (rw [show max S.peak (S.used + (b.length : Int)) = S.used + (b.length : Int) from by omega] at key; exact key)
    | (rw [show max S.peak (S.used + (b.length : Int)) = S.peak from by omega] at key; exact key)
end Go.Proofs.Ytbkpjjibgnachaa
