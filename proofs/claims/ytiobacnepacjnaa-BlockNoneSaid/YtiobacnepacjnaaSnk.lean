/- A sink in memory: its methods' contracts. Conditions: none. -/
import Derived.Test.YtiobacnepacjnaaConcat
import Derived.Test.YtiobacnepacjnaaRdP
import Derived.Test.YtiobacnepacjnaaCloneB
import Derived.Test.YtiobacnepacjnaaNumPad
import Derived.Test.YtiobacnepacjnaaStepApp
import Derived.Deep.RegionLaw
import Derived.Deep.DeepCutAuto
import Derived.BigRegion
namespace Go.Proofs.Ytiobacnepacjnaa
open Go.RowKit

/-- A sink at kb holds these bytes. -/
def snkP (kb : Nat) (l : List UInt8) : Part where
  at_ w F := ∃ (A : Option Addr) (c : Nat), Blk w kb 43 [.slice A l.length c] ∧ w.ownsRow 0 5 1 (.slice A l.length c) l.length (bys l) ∧ Value.ownBlock (.slice A l.length c) ≠ some kb ∧ F kb ∧ (∀ k, Value.ownBlock (.slice A l.length c) = some k → F k) ∧ ∀ k, F k → k < w.heap.size
  keep h k hd := by
    obtain ⟨A, c, h1, h2, h3, h4, h5, h6⟩ := h
    exact ⟨A, c, h1.keep k (hd _ h4), own_keep' h2 k (fun g hg => hd g (h5 g hg)), h3, h4, h5, fun j hj => Nat.lt_of_lt_of_le (h6 j hj) k.size⟩
  lt h k hk := by
    obtain ⟨_, _, _, _, _, _, _, h⟩ := h
    exact h k hk
section
variable {w0 w : World} {ps : List Part} {kb : Nat} {l : List UInt8}
theorem infoU8k : (Try.prog.info? 5).map (fun i => (i.zero, i.size, i.bytes)) = some (some (.int .u8 0), 1, 1) := by kernel_rfl
theorem concat_c (A : Option Addr) (c : Nat) (L : List (List UInt8)) (M : List UInt8) (w : World) (hM : M = L.flatten) (hr : RdRows w A L) (hL : L.length ≤ 4611686018427387904) (ht : M.length ≤ 140737488355328) :
    Calls Try.prog 27 #[.slice A L.length c] w (ConcatPost w M) := by
  subst hM
  exact concat_any A c L w hr hL ht
set_option maxRecDepth 100000 in
set_option maxHeartbeats 4000000 in
theorem St.snk_put (h : St w0 w (snkP kb l :: ps)) (A : Option Addr) (n c : Nat) (L : List (List UInt8)) (M : List UInt8) (hM : M = L.flatten) (hr : RdRows w A L) (hn : n = L.length) (hL : L.length ≤ 4611686018427387904) (ht : l.length + M.length ≤ 140737488355328) :
    Calls Try.prog 17 #[.pointer (some ⟨kb, 0, none⟩), .slice A n c] w fun e w' => e = .returned (.tuple #[]) ∧ St w0 w' (snkP kb (l ++ M) :: ps) := by
  subst hn
  have HMM := Lib.hid hM
  have HS := Lib.hid h
  obtain ⟨F, ⟨Av, cv, hB, ho, hkb, hF1, hF2, hF3⟩, g1, g2, _⟩ := h.open_
  have c0 : w.drew.cell? ⟨kb, 0, none⟩ = some (.slice Av l.length cv) := hB.cell 0
  have f0 := hB.free 0
  have HB := Lib.hid (And.intro hB (And.intro ho (And.intro hkb (And.intro hF1 (And.intro hF2 hF3)))))
  have HG := Lib.hid (And.intro g1 g2)
  have HR : Hid (RdRows w.drew A L) := Lib.hid (hr.later (Keep.refl _ w).drew)
  have HT := Lib.hid (And.intro hL ht)
  have HO : Hid (w.drew.ownsRow 0 5 1 (.slice Av l.length cv) l.length (bys l)) := Lib.hid ho
  have HI8 := Lib.hid infoU8k
  clear h hB ho hkb hF1 hF2 hF3 g1 g2 hr hL ht hM
  go_enter Try.func17, Try.ntmps17
  go_wp2_with fail
  go_region_law (first
    | (refine step_append_src rfl (.tmp 10) (.tmp 12) 22 22 rfl 0 5 (.int .u8 0) 1 1 Try.underlying22 HI8.out rfl (by decide) (.slice Av l.length cv) l.length (bys l) (by rfl) HO2.out (.slice A2 M.length c2) M.length (bys M) (by rfl) (Src.of_rd Try.underlying22 HR2.out.1 _ _ (by rw [bys_length, Nat.mul_one]) (one_bys _) HR2.out.2) (by have := HT.out.2; unfold maxLen; omega) (by have := HT.out.2; omega) (Nat.zero_le _) ?_; intro v3 w3 o3 G3 at3
       obtain ⟨A3, c3, rfl, _, _, _⟩ := own_rd o3
       have HB3 := Lib.hid (HB2.out.keep (Keep.of_grown G3) (fun e => HB.out.2.2.1 e.symm))
       have f3 := HB3.out.free 0
       have e3 : w3.cell? ⟨kb, 0, none⟩ = some (.slice Av l.length cv) := HB3.out.cell 0)
    | (go_simp; go_at_call 27; ((with_reducible refine (concat_c A c L M _ HMM.out HR.out HT.out.1 (by have := HT.out.2; omega)).mono ?_)); rintro e w2 ⟨A2, c2, rfl, hc2, hn2, o2, K2⟩
       have HO2 := Lib.hid (own_keep' HO.out K2 (fun _ _ h => h))
       have HB2 : Hid (Blk w2 kb 43 [.slice Av l.length cv]) := Lib.hid ((show Blk w.drew kb 43 [.slice Av l.length cv] from HB.out.1).keep K2 (fun h => h))
       have e2 : w2.cell? ⟨kb, 0, none⟩ = some (.slice Av l.length cv) := HB2.out.cell 0
       have HR2 : Hid (RdV w2 A2 (bys M) ∧ (A2 = none → M.length = 0)) := Lib.hid ⟨by (obtain ⟨_, _, e1, _, hr2, _⟩ := own_rd o2); (injection e1 with e1 _ _); (subst e1); exact hr2, fun e => by rw [hn2 e]; rfl⟩))
  all_goals
    have HB4 := Lib.hid (HB3.out.set 0 (.slice A3 (l.length + M.length) c3))
    have HK : Hid (Keep F w (w3.setCell ⟨kb, 0, none⟩ (.slice A3 (l.length + M.length) c3))) := Lib.hid (by
      have k2 : Keep F w w2 := ((Keep.refl F w).drew).trans' K2 (fun _ _ h => h.elim)
      have k3 := k2.trans' (Keep.of_grown G3) (fun j _ e => HB.out.2.2.2.2.1 j e.symm)
      exact k3.setCell (p := ⟨kb, 0, none⟩) (.inl HB.out.2.2.2.1) _)
    have HO4 : Hid ((w3.setCell ⟨kb, 0, none⟩ (.slice A3 (l.length + M.length) c3)).ownsRow 0 5 1 (.slice A3 (l.length + M.length) c3) (l.length + M.length) (bys (l ++ M)) ∧ Value.ownBlock (.slice A3 (l.length + M.length) c3) ≠ some kb ∧ ∀ k, Value.ownBlock (.slice A3 (l.length + M.length) c3) = some k → F k ∨ w.heap.size ≤ k) := Lib.hid (by
      rw [← bys_append] at o3
      have hz : w.heap.size ≤ w2.heap.size := K2.size
      have hne : Value.ownBlock (.slice A3 (l.length + M.length) c3) ≠ some kb := by
        rcases at3 with e | e
        · rw [e]; exact HB.out.2.2.1
        · rw [e]
          intro h
          have h2 := Option.some.inj h
          have := HB.out.1.lt
          omega
      refine ⟨own_keep' o3 ((Keep.refl (fun j => j = kb) w3).setCell (p := ⟨kb, 0, none⟩) (.inl rfl) _) (fun g hg e => hne (by rw [hg]; exact congrArg some e)), hne, fun k hk => ?_⟩
      rcases at3 with e | e
      · rw [e] at hk; exact .inl (HB.out.2.2.2.2.1 k hk)
      · rw [e] at hk; cases hk; exact .inr hz)
    clear e2 e3 f3 c0 f0 at3 G3 o3 K2 o2 hc2 hn2
    generalize w3.setCell ⟨kb, 0, none⟩ (.slice A3 (l.length + M.length) c3) = w5 at HB4 HK HO4 ⊢
    go_wp2_with fail
    go_end0
    refine ⟨rfl, HG.out.2 w5 (snkP kb (l ++ M)) HK.out ⟨A3, c3, ?_, ?_, ?_, .inl HB.out.2.2.2.1, fun k hk => ?_, fun k hk => ?_⟩⟩
    · have h := HB4.out
      rw [List.set_cons_zero] at h
      rw [List.length_append]
      exact h
    · rw [List.length_append]; exact HO4.out.1
    · rw [List.length_append]; exact HO4.out.2.1
    · rw [List.length_append] at hk
      rcases HO4.out.2.2 k hk with h | h
      · exact .inl h
      · exact .inr ⟨h, ownBlock_lt HO4.out.1 k hk⟩
    · rcases hk with hk | hk
      · exact Nat.lt_of_lt_of_le (HB.out.2.2.2.2.2 k hk) HK.out.size
      · exact hk.2
end
end Go.Proofs.Ytiobacnepacjnaa
