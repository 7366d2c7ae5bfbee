/- The call of StoreNone. Conditions: none. -/
import Derived.Test.YtbkpjjibgnachaaLaw14
import Derived.DataShut
import Derived.Laws.BitsAllLaws
namespace Go.Proofs.Ytbkpjjibgnachaa
open Go.RowKit

theorem append_nil (w : World) (n : Int) (v : Value) :
    Calls Try.prog 18 #[.pointer none, .int .i64 n, v] w fun e w' => e = .returned (.int .i64 1) ∧ w = w' := by
  go_enter Try.func18, Try.ntmps18
  go_wp2_with (go_at_call 51; refine (found_nil n _).mono ?_; rintro e w' ⟨rfl, rfl⟩)
  go_ret
  exact ⟨rfl, rfl⟩

/-- A row of the call's own, of n bytes. -/
def U8Row (w : World) (A : Option Addr) (n : Nat) : Prop := n = 0 ∨ ∃ g cs, A = some ⟨g, 0, none⟩ ∧ Blk w g 5 cs ∧ ∀ i, i < n → ∃ z : Int, cs[i]? = some (.int .u8 z) ∧ 0 ≤ z ∧ z ≤ 255
theorem U8Row.at_ {w : World} {A : Option Addr} {n : Nat} (h : U8Row w A n) (i : Nat) (hi : i < n) : ∃ g, ∃ z : Int, A = some ⟨g, 0, none⟩ ∧ w.cell? ⟨g, i, none⟩ = some (.int .u8 z) ∧ w.frozen? ⟨g, i, none⟩ = false ∧ 0 ≤ z ∧ z ≤ 255 := by
  rcases h with h | ⟨g, cs, hA, hb, hu⟩
  · omega
  · obtain ⟨z, hz, h0, h1⟩ := hu i hi
    exact ⟨g, z, hA, by rw [hb.cell, hz], hb.free i, h0, h1⟩
theorem U8Row.set {w : World} {g n : Nat} (h : U8Row w (some ⟨g, 0, none⟩) n) (i : Nat) (z : Int) (h0 : 0 ≤ z) (h1 : z ≤ 255) : U8Row (w.setCell ⟨g, i, none⟩ (.int .u8 z)) (some ⟨g, 0, none⟩) n := by
  rcases h with h | ⟨g', cs, hA, hb, hu⟩
  · exact .inl h
  · injection hA with hA
    injection hA with hA
    subst hA
    refine .inr ⟨g, _, rfl, hb.set i (.int .u8 z), fun j hj => ?_⟩
    obtain ⟨z', hz', h0', h1'⟩ := hu j hj
    have hlt : j < cs.length := (List.getElem?_eq_some_iff.1 hz').1
    by_cases e : i = j
    · subst e
      exact ⟨z, by rw [List.getElem?_set_self hlt], h0, h1⟩
    · exact ⟨z', by rw [List.getElem?_set_ne e, hz'], h0', h1'⟩
theorem U8Row.keep {w w' : World} {A : Option Addr} {n : Nat} (h : U8Row w A n) {F : Nat → Prop} (k : Keep F w w') (hn : ∀ y, A = some y → ¬ F y.block) : U8Row w' A n := by
  rcases h with h | ⟨g, cs, hA, hb, hu⟩
  · exact .inl h
  · exact .inr ⟨g, cs, hA, hb.keep k (hn _ hA), hu⟩
theorem U8Row.of_own {w : World} {base n c : Nat} {A : Option Addr} {l : List UInt8} (h : w.ownsRow base 5 1 (.slice A n c) n (bys l)) : U8Row w A n := by
  rcases h.2 with ⟨_, h0⟩ | ⟨g, cap, cur, hv, hg, hh, hc, _, hs, ht⟩
  · exact .inl h0
  · injection hv with hv
    subst hv
    refine .inr ⟨g, cur.toList, rfl, by unfold Blk; rw [Array.toArray_toList]; exact hh, fun i hi => ?_⟩
    have hl : l.length = n := by have := h.1; simpa [bys] using this
    have h1 : (cur.toList.take (n * 1))[i]? = (bys l)[i]? := by rw [ht]
    rw [List.getElem?_take, if_pos (by omega)] at h1
    rw [h1]
    refine ⟨(l[i]'(by omega)).toNat, ?_, by omega, ?_⟩
    · simp [bys, show i < l.length by omega]
    · have := (l[i]'(by omega)).toNat_lt; omega

theorem xor255 (z : Int) (h0 : 0 ≤ z) (h1 : z ≤ 255) : 0 ≤ bits .xor .u8 z 255 ∧ bits .xor .u8 z 255 ≤ 255 := by
  rw [u8_xor z 255 h0 (by omega) (by omega) (by omega)]
  have : z.toNat ^^^ (255 : Int).toNat < 2 ^ 8 := Nat.xor_lt_two_pow (by omega) (by decide)
  omega

theorem storeNone_walk (w : World) (A : Option Addr) (len cap : Nat) (b : List UInt8) (hl : len = b.length) (_ : len ≤ cap) (hr : RdV w A (bys b)) (hA : A = none → b = [] ∧ cap = 0) (_ : len ≤ 140737488351232) (n : Int) (_ : IntKind.i64.min ≤ n ∧ n ≤ IntKind.i64.max) :
    Calls Try.prog 9 #[.slice A len cap, .int .i64 n] w fun e w' => e = .returned (.bool true) ∧ Below w.heap.size w w' := by
  subst hl
  have HR := Lib.hid hr
  have HA := Lib.hid hA
  clear hr hA
  by_cases h500 : 500 < b.length
  · go_enter Try.func9, Try.ntmps9
    go_wp2_with (go_at_call 17; refine (answers14 _).mono ?_; rintro e w' ⟨rfl, hb⟩; have HB := Lib.hid hb; clear hb)
    go_ret
    exact ⟨rfl, HB.out⟩
  · have h500' : b.length ≤ 500 := by omega
    clear h500
    go_enter Try.func9, Try.ntmps9
    go_wp2_with fail
    refine (create_nil _).mono ?_
    rintro e w' ⟨rfl, rfl⟩
    go_wp2_with fail
    refine (read_nil _ n n n).mono ?_
    rintro e w' ⟨rfl, rfl⟩
    go_wp2_with fail
    refine (new_any 1000 _ _ _ [1] _ (by omega) (RdV.new w 3 [.int .i64 1] _ rfl) (by rfl) (fun e => by cases e) (by omega)).mono ?_
    rintro e w1 ⟨sb, rfl, hs, hk⟩
    have hf := (Blk.new w 3 [.int .i64 1]).keep hk (fun h => h)
    have c1 := hf.cell 0
    have z1 := hf.free 0
    have HS1 := Lib.hid hs
    have HO1 := Lib.hid (((Own.start w).alloc (.cells #[.int .i64 1] 3)).step hk)
    have HNF : Hid (¬ ext (fun _ => False) (w.alloc (.cells #[.int .i64 1] 3)) w1 w.heap.size) := Lib.hid (by
      rintro (h | h)
      · exact h
      · exact absurd h.1 (by simp))
    simp only [List.getElem?_cons_zero] at c1
    clear hs hk hf
    go_wp2_with (at_builtin; refine wpL_fresh _ rfl (.tmp 44) (.tmp 45) 28 28 rfl 5 (.int .u8 0) 1 1 Try.underlying28 (by kernel_rfl) rfl (by decide) _ (by simp) rfl _ b.length (bys b) rfl (Src.of_rd Try.underlying28 (HR.out.old ((HO1.out.keep.setCell (p := ⟨w.heap.size, 0, none⟩) (.inl (Nat.le_refl _)) _).alloc _)) b.length cap (by simp [bys]) (one_bys b) (fun e => by rw [(HA.out e).1]; rfl)) (by unfold maxLen; omega) (by omega) ?_; intro v2 w2 hown2 hk2; have HOW := Lib.hid hown2; have HK2 := Lib.hid hk2; clear hown2 hk2)
    have k1 : Keep (fun j => j = w.heap.size) w1 (w1.setCell ⟨w.heap.size, 0, none⟩ (.int .i64 0)) := (Keep.refl (fun j => j = w.heap.size) w1).setCell (p := ⟨w.heap.size, 0, none⟩) (.inl rfl) (.int .i64 0)
    have hs2 : IsStore w2 _ sb _ := (HS1.out.keep k1 (fun k hk e => by subst e; exact HNF.out hk)).keep HK2.out (fun _ _ h => h)
    have ho2 : Own w w2 _ := (HO1.out.keeps k1 (fun j hj e => by omega)).keeps HK2.out (fun _ _ h => h)
    have hlt2 : ∀ k, ext (fun _ => False) (w.alloc (.cells #[.int .i64 1] 3)) w1 k → ∀ g, v2.ownBlock = some g → k ≠ g := fun k hk g hg e => by
      have h1 := own_base HOW.out g hg
      have h2 := HS1.out.lt k hk
      simp at h1
      omega
    obtain ⟨A2, c2, rfl, _, hr2, hn2⟩ := own_rd HOW.out
    have hu2 := U8Row.of_own HOW.out
    have hA2 : ∀ y, A2 = some y → ∃ g, y = ⟨g, 0, none⟩ ∧ (Value.slice A2 b.length c2).ownBlock = some g := fun y hy => by
      rcases HOW.out.2 with ⟨h0, _⟩ | ⟨g, _, _, h0, _⟩
      · injection h0 with h0; rw [h0] at hy; cases hy
      · injection h0 with h0; rw [h0] at hy; cases hy; exact ⟨g, rfl, by rw [h0]; rfl⟩
    refine (create_c _ _ sb _ ⟨1000, 1, 0, 0, 0, [1], [(0, [])]⟩ 0 hs2 rfl (by decide) rfl).mono ?_
    rintro e w3 ⟨rfl, hs3, hk3⟩
    have nf2 : ∀ y, A2 = some y → ¬ ext (fun _ => False) (w.alloc (.cells #[.int .i64 1] 3)) w1 y.block := fun y hy hf => by
      obtain ⟨g, rfl, hg⟩ := hA2 y hy
      exact hlt2 _ hf g hg rfl
    have lt2 : ∀ y, A2 = some y → y.block < w2.heap.size := fun y hy => by
      obtain ⟨g, rfl, hg⟩ := hA2 y hy
      obtain ⟨cs, hc⟩ := own_heap HOW.out g hg
      exact hc.lt
    have nf3 : ∀ y, A2 = some y → ¬ ext (ext (fun _ => False) (w.alloc (.cells #[.int .i64 1] 3)) w1) w2 w3 y.block := fun y hy hf => by
      rcases hf with hf | hf
      · exact nf2 y hy hf
      · have := lt2 y hy; omega
    have hu3 := hu2.keep hk3 nf2
    have HR3 := Lib.hid (hr2.keep hk3 (fun y hy _ => nf2 y hy))
    have HS3 := Lib.hid hs3
    have HO3 := Lib.hid (ho2.step hk3)
    have HU3 := Lib.hid hu3
    have NF3 := Lib.hid nf3
    have L3 : Hid (∀ y, A2 = some y → y.block < w3.heap.size) := Lib.hid (fun y hy => Nat.lt_of_lt_of_le (lt2 y hy) hk3.size)
    have HN2 := Lib.hid hn2
    have HG : Hid (∀ y, A2 = some y → w.heap.size ≤ y.block) := Lib.hid (fun y hy => by
      obtain ⟨g, rfl, hg⟩ := hA2 y hy
      have h1 := own_base HOW.out g hg
      have h2 := HO1.out.keep.size
      simp at h1
      exact Nat.le_trans h2 h1)
    clear hs3 hk3 hu3 nf3 lt2 nf2 hA2 hu2 hlt2 ho2 hs2 k1 HOW HK2 HS1 HO1 hr2 hn2 HNF c1 z1
    go_wp2_with fail
    refine (append_okc _ _ sb _ ⟨1000, 1, b.length, b.length, 1, [1], [(0, b)]⟩ HS3.out 0 _ _ _ b (by decide) [] rfl (by simp) rfl HR3.out (fun e => HN2.out e) (fun _ y hy hf => NF3.out y hy hf) (by show (b.length : Int) ≤ 1000 - 0; omega) (by simp; omega) (by simp [StoreM.add])).mono ?_
    rintro e w4 ⟨rfl, hs4, hk4⟩
    obtain ⟨F4, hF4⟩ : ∃ F4, F4 = ext (ext (ext (fun _ => False) (w.alloc (.cells #[.int .i64 1] 3)) w1) w2 w3) w3 w4 := ⟨_, rfl⟩
    have HS4 : Hid (IsStore w4 F4 sb ⟨1000, 1, b.length, b.length, 1, [1], [(0, b)]⟩) := Lib.hid (by rw [hF4]; exact hs4)
    have HO4 : Hid (Own w w4 F4) := Lib.hid (by rw [hF4]; exact HO3.out.step hk4)
    have HU4 := Lib.hid (HU3.out.keep hk4 NF3.out)
    have NF4 : Hid (∀ y, A2 = some y → ¬ F4 y.block) := Lib.hid (by
      rw [hF4]
      intro y hy hf
      rcases hf with hf | hf
      · exact NF3.out y hy hf
      · have := L3.out y hy; omega)
    clear hs4 hk4 hF4 HS3 HO3 HU3 NF3 L3 HR3
    go_wp2_with fail
    go_loopw [16] (fun vi wr => ∃ i : Nat, i ≤ b.length ∧ vi = .int .i64 i ∧ Hid (U8Row wr A2 b.length) ∧ Hid (IsStore wr F4 sb ⟨1000, 1, b.length, b.length, 1, [1], [(0, b)]⟩) ∧ Hid (Own w wr F4)) (fun i _ => b.length - (intOf i).toNat)
    case atStart => exact ⟨0, by omega, rfl, HU4, HS4, HO4⟩
    case round =>
      obtain ⟨i, hi, rfl, HU, HS, HO⟩ := hrel
      clear HS4 HO4 HU4
      by_cases hlt : i < b.length
      · obtain ⟨g, z, rfl, cz, fz, z0, z1⟩ := HU.out.at_ i hlt
        have hx := xor255 z z0 z1
        have HX := Lib.hid hx
        clear hx
        go_wp2_with fail
        go_roundw
        case rel =>
          have kk := (Keep.refl (fun j => j = g) wr).setCell (p := ⟨g, i, none⟩) (.inl rfl) (.int .u8 (bits .xor .u8 z 255))
          exact ⟨i + 1, by omega, by go_num, Lib.hid (HU.out.set i _ HX.out.1 HX.out.2), Lib.hid (HS.out.keep kk (fun k hk e => by subst e; exact NF4.out _ rfl hk)), Lib.hid (HO.out.keeps kk (fun j hj e => by have := HG.out _ rfl; simp at this; omega))⟩
        case measure => simp [intOf]; omega
      · go_wp2_with fail
        refine (read_c _ F4 sb _ HS.out 0 0 500 b.length _ _ rfl rfl b b rfl (by omega) (by omega) (by omega) (by omega) (by simp)).mono ?_
        rintro e w5 ⟨v5, rfl, hown5, hk5⟩
        have hs5 := HS.out.keep hk5 (fun _ _ h => h)
        have ho5 := HO.out.keeps hk5 (fun _ _ h => h)
        obtain ⟨A5, c5, rfl, _, _, _⟩ := own_rd hown5
        have hA5 : ∀ y, A5 = some y → ∃ g, y = ⟨g, 0, none⟩ ∧ (Value.slice A5 b.length c5).ownBlock = some g := fun y hy => by
          rcases hown5.2 with ⟨h0, _⟩ | ⟨g, _, _, h0, _⟩
          · injection h0 with h0; rw [h0] at hy; cases hy
          · injection h0 with h0; rw [h0] at hy; cases hy; exact ⟨g, rfl, by rw [h0]; rfl⟩
        have HG5 : Hid (∀ y, A5 = some y → wr.heap.size ≤ y.block) := Lib.hid (fun y hy => by
          obtain ⟨g, rfl, hg⟩ := hA5 y hy
          exact own_base hown5 g hg)
        have NF5 : Hid (∀ y, A5 = some y → ¬ F4 y.block) := Lib.hid (fun y hy hf => by
          have h1 := HG5.out y hy
          have h2 := HS.out.lt _ hf
          omega)
        have HGW : Hid (w.heap.size ≤ wr.heap.size) := Lib.hid HO.out.keep.size
        have HU5 := Lib.hid (U8Row.of_own hown5)
        have HS5 := Lib.hid hs5
        have HO5 := Lib.hid ho5
        clear hs5 ho5 hown5 hk5 hA5 HU HS HO
        go_wp2_with fail
        go_loopw [19] (fun vi wq => ∃ i : Nat, i ≤ b.length ∧ vi = .int .i64 i ∧ Hid (U8Row wq A5 b.length) ∧ Hid (IsStore wq F4 sb ⟨1000, 1, b.length, b.length, 1, [1], [(0, b)]⟩) ∧ Hid (Own w wq F4)) (fun i _ => b.length - (intOf i).toNat)
        case atStart => exact ⟨0, by omega, rfl, HU5, HS5, HO5⟩
        case round =>
          obtain ⟨i, hi, rfl, HU, HS, HO⟩ := hrel
          clear HS5 HO5 HU5
          by_cases hlt : i < b.length
          · obtain ⟨g, z, rfl, cz, fz, z0, z1⟩ := HU.out.at_ i hlt
            have hx := xor255 z z0 z1
            have HX := Lib.hid hx
            clear hx
            go_wp2_with fail
            go_roundw
            case rel =>
              have kk := (Keep.refl (fun j => j = g) wr).setCell (p := ⟨g, i, none⟩) (.inl rfl) (.int .u8 (bits .xor .u8 z 255))
              exact ⟨i + 1, by omega, by go_num, Lib.hid (HU.out.set i _ HX.out.1 HX.out.2), Lib.hid (HS.out.keep kk (fun k hk e => by subst e; exact NF5.out _ rfl hk)), Lib.hid (HO.out.keeps kk (fun j hj e => by have h1 := HG5.out _ rfl; have h2 := HGW.out; simp at h1; omega))⟩
            case measure => simp [intOf]; omega
          · go_wp2_with fail
            refine (read_c _ F4 sb _ HS.out 0 0 500 b.length _ _ rfl rfl b b rfl (by omega) (by omega) (by omega) (by omega) (by simp)).mono ?_
            rintro e w6 ⟨v6, rfl, hown6, hk6⟩
            have HO6 := Lib.hid (HO.out.keeps hk6 (fun _ _ h => h))
            obtain ⟨A6, c6, rfl, _, hr6, hn6⟩ := own_rd hown6
            have HR6 := Lib.hid hr6
            have HN6 := Lib.hid hn6
            clear hown6 hk6 hr6 hn6 HU HS HO
            go_wp2_with fail
            refine (answers14 _).mono ?_
            rintro e w7 ⟨rfl, hb⟩
            have ho7 : Keep (fun k => w.heap.size ≤ k) w w7 := HO6.out.keep.trans' (Keep.of_below hb) (fun j hj h => by have := HO6.out.keep.size; omega)
            have k1 := fun (_ : True) => run_bytes_str (P := Try.prog) 28 9 5 Try.underlying28 Try.underlying5 Try.underlying9 b.length c6 (HR6.out.below hb (fun y hy h => h)) rfl (fun e => List.eq_nil_of_length_eq_zero (HN6.out e))
            have k2 := fun (_ : True) => run_bytes_str (P := Try.prog) 28 9 5 Try.underlying28 Try.underlying5 Try.underlying9 b.length cap (HR.out.old ho7) rfl (fun e => (HA.out e).1)
            have HO7 := Lib.hid ho7
            clear hb ho7
            go_wp2_with (first
              | (go_at_call 18; refine (append_nil _ n _).mono ?_; rintro e w' ⟨rfl, rfl⟩)
              | (go_at_call 22; refine (drop_nil _ n).mono ?_; rintro e w' ⟨rfl, rfl⟩)
              | (go_at_call 20; refine (size_nil _ n).mono ?_; rintro e w' ⟨rfl, rfl⟩)
              | (go_at_call 21; refine (used_nil _).mono ?_; rintro e w' ⟨rfl, rfl⟩)
              | (go_at_call 23; refine (peak_nil _).mono ?_; rintro e w' ⟨rfl, rfl⟩)
              | (go_at_call 35; refine (writes_nil _).mono ?_; rintro e w' ⟨rfl, rfl⟩))
            go_ret
            exact ⟨rfl, HO7.out.below (Nat.le_refl _) (fun _ _ h => h)⟩
end Go.Proofs.Ytbkpjjibgnachaa
