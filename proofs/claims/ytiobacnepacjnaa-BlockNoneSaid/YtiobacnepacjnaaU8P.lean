/- A row of bytes of the call's own, whatever they are; a source that is none. Conditions: none. -/
import Derived.Test.YtiobacnepacjnaaSrcE
import Derived.Test.YtiobacnepacjnaaStApp
import Derived.Laws.BitsAllLaws
namespace Go.Proofs.Ytiobacnepacjnaa
open Go.RowKit
section
variable {w0 w : World} {l : List Part}
/-- A row of the call's own, of n bytes. -/
def u8P (A : Option Addr) (n : Nat) : Part where
  at_ w F := (n = 0 ∨ ∃ g cs, A = some ⟨g, 0, none⟩ ∧ F g ∧ Blk w g 5 cs ∧ ∀ i, i < n → ∃ z : Int, cs[i]? = some (.int .u8 z) ∧ 0 ≤ z ∧ z ≤ 255) ∧ ∀ k, F k → k < w.heap.size
  keep := by
    rintro w w' F G ⟨h, hl⟩ k hd
    refine ⟨?_, fun j hj => Nat.lt_of_lt_of_le (hl j hj) k.size⟩
    rcases h with h | ⟨g, cs, hA, hg, hb, hu⟩
    · exact .inl h
    · exact .inr ⟨g, cs, hA, hg, hb.keep k (hd g hg), hu⟩
  lt h := h.2
theorem St.u8_of {A : Option Addr} {n c : Nat} {L : List UInt8} (h : St w0 w (ownP 5 1 (.slice A n c) n (bys L) :: l)) : St w0 w (u8P A n :: l) :=
  h.in_ (p := u8P A n) (fun F hF => by
    refine ⟨?_, (ownP 5 1 (.slice A n c) n (bys L)).lt hF⟩
    obtain ⟨ho, hown⟩ := hF
    rcases ho.2 with ⟨_, h0⟩ | ⟨g, cap, cur, hv, hg, hh, hc, _, hs, ht⟩
    · exact .inl h0
    · injection hv with hv
      subst hv
      refine .inr ⟨g, cur.toList, rfl, (hown g).2 rfl, by unfold Blk; rw [Array.toArray_toList]; exact hh, fun i hi => ?_⟩
      have hl : L.length = n := by have := ho.1; simpa [bys] using this
      have h1 : (cur.toList.take (n * 1))[i]? = (bys L)[i]? := by rw [ht]
      rw [List.getElem?_take, if_pos (by omega)] at h1
      rw [h1]
      refine ⟨(L[i]'(by omega)).toNat, ?_, by omega, ?_⟩
      · simp [bys, show i < L.length by omega]
      · have := (L[i]'(by omega)).toNat_lt; omega)
theorem St.u8_at {A : Option Addr} {n : Nat} (h : St w0 w (u8P A n :: l)) (i : Nat) (hi : i < n) : ∃ g, ∃ z : Int, A = some ⟨g, 0, none⟩ ∧ w.cell? ⟨g, i, none⟩ = some (.int .u8 z) ∧ w.frozen? ⟨g, i, none⟩ = false ∧ 0 ≤ z ∧ z ≤ 255 := by
  obtain ⟨F, ⟨h1, _⟩, _⟩ := h.open_
  rcases h1 with h1 | ⟨g, cs, hA, _, hb, hu⟩
  · omega
  · obtain ⟨z, hz, h0, h1⟩ := hu i hi
    exact ⟨g, z, hA, by rw [hb.cell, hz], hb.free i, h0, h1⟩
theorem St.u8_set {g n : Nat} (h : St w0 w (u8P (some ⟨g, 0, none⟩) n :: l)) (i : Nat) (hi : i < n) (z : Int) (h0 : 0 ≤ z) (h1 : z ≤ 255) : St w0 (w.setCell ⟨g, i, none⟩ (.int .u8 z)) (u8P (some ⟨g, 0, none⟩) n :: l) := by
  obtain ⟨F, ⟨q1, q2⟩, _, h3, _⟩ := h.open_
  rcases q1 with q1 | ⟨g', cs, hA, hg, hb, hu⟩
  · omega
  · injection hA with hA
    injection hA with hA
    subst hA
    refine h3 _ (u8P (some ⟨g, 0, none⟩) n) ((Keep.refl F w).setCell (p := ⟨g, i, none⟩) (.inl hg) _) ⟨.inr ⟨g, _, rfl, .inl hg, hb.set i (.int .u8 z), fun j hj => ?_⟩, fun k hk => ?_⟩
    · obtain ⟨z', hz', h0', h1'⟩ := hu j hj
      have hlt : j < cs.length := (List.getElem?_eq_some_iff.1 hz').1
      by_cases e : i = j
      · subst e
        exact ⟨z, by rw [List.getElem?_set_self hlt], h0, h1⟩
      · exact ⟨z', by rw [List.getElem?_set_ne e, hz'], h0', h1'⟩
    · have e : (w.setCell ⟨g, i, none⟩ (.int .u8 z)).heap.size = w.heap.size := by simp [World.setCell]
      rcases hk with hk | hk
      · rw [e]; exact q2 k hk
      · exact hk.2
theorem xor255 (z : Int) (h0 : 0 ≤ z) (h1 : z ≤ 255) : 0 ≤ bits .xor .u8 z 255 ∧ bits .xor .u8 z 255 ≤ 255 := by
  rw [u8_xor z 255 h0 (by omega) (by omega) (by omega)]
  have : z.toNat ^^^ (255 : Int).toNat < 2 ^ 8 := Nat.xor_lt_two_pow (by omega) (by decide)
  omega
end
theorem src_block_nil (w : World) : Calls Try.prog 10 #[.pointer none] w fun e w' => e = .returned (.tuple #[.slice none 0 0, .int .i64 1]) ∧ w = w' := by
  go_enter Try.func10, Try.ntmps10
  go_wp2
  go_ret2
  exact ⟨rfl, rfl⟩
theorem src_body_nil (n : Int) (w : World) : Calls Try.prog 11 #[.pointer none, .int .i64 n] w fun e w' => e = .returned (.tuple #[.slice none 0 0, .int .i64 1]) ∧ w = w' := by
  go_enter Try.func11, Try.ntmps11
  go_wp2
  go_ret2
  exact ⟨rfl, rfl⟩
theorem src_place_nil (w : World) : Calls Try.prog 14 #[.pointer none] w fun e w' => e = .returned (.int .i64 0) ∧ w = w' := by
  go_enter Try.func14, Try.ntmps14
  go_wp2
  go_ret
  exact ⟨rfl, rfl⟩
theorem src_rest_nil (w : World) : Calls Try.prog 15 #[.pointer none] w fun e w' => e = .returned (.bool false) ∧ w = w' := by
  go_enter Try.func15, Try.ntmps15
  go_wp2
  go_ret
  exact ⟨rfl, rfl⟩
end Go.Proofs.Ytiobacnepacjnaa
