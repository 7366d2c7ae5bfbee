/- field.Put. (alias Tryd) Conditions: none. -/
import Derived.Test.YtgealodojemoeaaDoorFieldB
import Derived.Deep.Cut
namespace Go.Proofs.YtgealodojemoeaaDoor
open Go.RowKit
set_option linter.unusedVariables false

theorem infoU8f : (Tryd.prog.info? 5).map (fun i => (i.zero, i.size, i.bytes)) = some (some (.int .u8 0), 1, 1) := by kernel_rfl
/-- A number's field, or none. -/
def putF (n wide : Nat) : Option (List UInt8) :=
  if n / 8 ^ (wide - 1) = 0 then some (digL 8 48 n (wide - 1) ++ [0]) else if n / 256 ^ (wide - 1) = 0 then some (128 :: digL 256 0 n (wide - 1)) else none
/-- What Put answers. -/
def PutA (w : World) (n wide : Nat) (e : Ending) (w' : World) : Prop :=
  match putF n wide with
  | some L => e = .returned (.tuple #[.slice (some ⟨w.heap.size, 0, none⟩) wide wide, .bool true]) ∧ Blk w' w.heap.size 5 (bys L) ∧ Keep (fun j => w.heap.size ≤ j) w w'
  | none => e = .returned (.tuple #[.slice none 0 0, .bool false]) ∧ Keep (fun j => w.heap.size ≤ j) w w'
theorem field_put_no (w : World) (n wide : Int) (h : ¬ (0 ≤ n ∧ n ≤ 4611686018427387904 ∧ 2 ≤ wide ∧ wide ≤ 100)) :
    Calls Tryd.prog 11 #[.int .i64 n, .int .i64 wide] w fun e w' => e = .returned (.tuple #[.slice none 0 0, .bool false]) ∧ w = w' := by
  by_cases h1 : 0 ≤ n ∧ n ≤ 4611686018427387904
  · have h2 : ¬ (2 ≤ wide ∧ wide ≤ 100) := fun h3 => h ⟨h1.1, h1.2, h3.1, h3.2⟩
    have H1 := Lib.hid h1
    have H2 := Lib.hid h2
    clear h h1 h2
    go_enter Tryd.func11, Tryd.ntmps11
    go_wp2_with fail
    refine (in_yes n 0 4611686018427387904 _ H1.out.1 H1.out.2).mono ?_
    rintro e w1 ⟨rfl, rfl⟩
    go_wp2_with fail
    refine (in_no wide 2 100 _ H2.out).mono ?_
    rintro e w1 ⟨rfl, rfl⟩
    go_wp2_with fail
    go_ret2
    exact ⟨rfl, rfl⟩
  · have H1 := Lib.hid h1
    clear h h1
    go_enter Tryd.func11, Tryd.ntmps11
    go_wp2_with fail
    refine (in_no n 0 4611686018427387904 _ H1.out).mono ?_
    rintro e w1 ⟨rfl, rfl⟩
    go_wp2_with fail
    go_ret2
    exact ⟨rfl, rfl⟩
set_option maxRecDepth 100000 in
set_option maxHeartbeats 4000000 in
theorem field_put (w : World) (n wide : Nat) (hn : n ≤ 4611686018427387904) (h2 : 2 ≤ wide) (h3 : wide ≤ 100) :
    Calls Tryd.prog 11 #[.int .i64 n, .int .i64 wide] w (PutA w n wide) := by
  have hmk := fun (w : World) => run_make_row' (P := Tryd.prog) 22 5 (.int .u8 0) 1 Tryd.underlying22 infoU8f rfl .i64 .i64 wide (by omega) (by omega) w
  have HN := Lib.hid (And.intro hn (And.intro h2 h3))
  obtain ⟨m, hm⟩ : ∃ m, m = wide - 1 := ⟨_, rfl⟩
  have e1 : IntKind.i64.wrap ((wide : Int) - 1) = (m : Int) := by rw [IntWalk.i64_in _ (by omega)]; omega
  have q0 : (wide : Int) ≤ 100 := by omega
  have q1 : (2 : Int) ≤ (wide : Int) := by omega
  have q2 : (m : Int) ≤ (wide : Int) := by omega
  have q3 : (0 : Int) ≤ (m : Int) := by omega
  have q4 : (m : Int) < (wide : Int) := by omega
  have HM := Lib.hid hm
  clear hn h2 h3 hm
  go_enter Tryd.func11, Tryd.ntmps11
  go_wp2_with fail
  refine (in_yes n 0 4611686018427387904 _ (by omega) (by have := HN.out.1; omega)).mono ?_
  rintro e w1 ⟨rfl, rfl⟩
  go_wp2_with fail
  refine (in_yes wide 2 100 _ q1 q0).mono ?_
  rintro e w1 ⟨rfl, rfl⟩
  go_wp2_with fail
  clear hmk
  obtain ⟨g, hg⟩ : ∃ g, g = w.heap.size := ⟨_, rfl⟩
  have hB : Blk (w.alloc (.cells (madeCells #[Value.int .u8 0] wide) 5)) g 5 (bys (List.replicate wide 0)) := by
    have h1 := Blk.new w 5 (madeCells #[Value.int .u8 0] wide).toList
    rw [Array.toArray_toList] at h1
    have h4 : (madeCells #[Value.int .u8 0] wide).toList = bys (List.replicate wide 0) := by
      apply List.ext_getElem?
      intro i
      by_cases hi : i < wide
      · simp [madeCells, bys, hi, Nat.mod_one]
      · simp [madeCells, bys, hi]
    rw [h4] at h1
    rw [hg]
    exact h1
  have hK : Keep (fun j => w.heap.size ≤ j) w (w.alloc (.cells (madeCells #[Value.int .u8 0] wide) 5)) := (Keep.refl _ w).alloc _
  rw [← hg]
  generalize w.alloc (.cells (madeCells #[Value.int .u8 0] wide) 5) = w1 at hB hK ⊢
  have HB := Lib.hid hB
  have HK := Lib.hid hK
  have HG := Lib.hid hg
  clear hB hK hg
  refine (field_write w1 g 0 m wide 5 _ n 8 48 (.inl ⟨rfl, rfl⟩) HB.out (by simp [bys]; have := HM.out; omega) (by have := HM.out; have := HN.out; omega) HN.out.1).mono ?_
  rintro e w2 ⟨rfl, hb2, hk2⟩
  have HB2 := Lib.hid hb2
  have HK2 := Lib.hid hk2
  clear hb2 hk2
  have hb8 : bys (digL 8 48 n m) ++ List.drop m (bys (List.replicate wide 0)) = bys (digL 8 48 n m ++ [0]) := by
    have h1 : List.drop m (bys (List.replicate wide 0)) = bys [0] := by
      have := HM.out
      have := HN.out
      simp only [bys, ← List.map_drop]
      rw [List.drop_replicate, show wide - m = 1 by omega]
      rfl
    rw [h1]
    simp [bys]
  have hb3 : Blk w2 g 5 (bys (digL 8 48 n m ++ [0])) := by
    have h1 := HB2.out
    rw [List.take_zero, List.nil_append, Nat.zero_add, hb8] at h1
    exact h1
  have HB3 := Lib.hid hb3
  have HK3 : Hid (Keep (fun j => w.heap.size ≤ j) w w2) := Lib.hid (HK.out.trans' HK2.out (fun j _ h => by have := HG.out; omega))
  clear hb8 hb3 HB2 HK2 HB HK
  by_cases h8 : n / 8 ^ m = 0
  · have H8 := Lib.hid h8
    rw [decide_eq_true h8]
    clear h8
    go_wp2_with fail
    go_ret2
    unfold PutA putF
    rw [← HM.out, if_pos H8.out, HG.out]
    exact ⟨rfl, HG.out ▸ HB3.out, HK3.out⟩
  · have H8 := Lib.hid h8
    rw [decide_eq_false h8]
    clear h8
    have hl3 : (bys (digL 8 48 n m ++ [0])).length = m + 1 := by simp [bys, digL_len]
    have f0 := HB3.out.free 0
    have b3s := HB3.out.set 0 (.int .u8 128)
    have f1 := b3s.free m
    have b4s := b3s.set m (.int .u8 0)
    have x0 : ∃ u, w2.cell? ⟨g, 0, none⟩ = some u := by
      rw [HB3.out.cell]; exact ⟨_, List.getElem?_eq_getElem (by rw [hl3]; omega)⟩
    obtain ⟨u0, x0⟩ := x0
    have x1 : ∃ u, (w2.setCell ⟨g, 0, none⟩ (.int .u8 128)).cell? ⟨g, m, none⟩ = some u := by
      rw [b3s.cell]; exact ⟨_, List.getElem?_eq_getElem (by rw [List.length_set, hl3]; omega)⟩
    obtain ⟨u1, x1⟩ := x1
    have HB4 := Lib.hid b4s
    have HK4 : Hid (Keep (fun j => w.heap.size ≤ j) w ((w2.setCell ⟨g, 0, none⟩ (.int .u8 128)).setCell ⟨g, m, none⟩ (.int .u8 0))) := Lib.hid ((HK3.out.setCell (p := ⟨g, 0, none⟩) (.inl (by show w.heap.size ≤ g; have := HG.out; omega)) _).setCell (p := ⟨g, m, none⟩) (.inl (by show w.heap.size ≤ g; have := HG.out; omega)) _)
    clear b3s b4s hl3
    go_upto_region 7 with fail
    clear f0 f1 x0 x1
    generalize (w2.setCell ⟨g, 0, none⟩ (.int .u8 128)).setCell ⟨g, m, none⟩ (.int .u8 0) = w4 at HB4 HK4 ⊢
    clear HB3 HK3
    have ew : wide - 1 = m := HM.out.symm
    go_wp2_with fail
    refine (field_write w4 g 1 m m 5 _ n 256 0 (.inr ⟨rfl, rfl⟩) HB4.out (by simp [bys, digL_len]; omega) (by have := HN.out; omega) HN.out.1).mono ?_
    rintro e w5 ⟨rfl, hb5, hk5⟩
    have hbb : Blk w5 g 5 (bys (128 :: digL 256 0 n m)) := by
      have h2 : ∀ cs : List Value, cs.length = m + 1 → 1 ≤ m → ((cs.set 0 (.int .u8 128)).set m (.int .u8 0)).take 1 = [.int .u8 128] ∧ ((cs.set 0 (.int .u8 128)).set m (.int .u8 0)).drop (1 + m) = [] := by
        intro cs hl hm1
        constructor
        · rcases cs with _ | ⟨c0, cs⟩
          · simp at hl
          · obtain ⟨p, rfl⟩ : ∃ p, m = p + 1 := ⟨m - 1, by omega⟩
            simp
        · exact List.drop_of_length_le (by simp [hl]; omega)
      obtain ⟨g1, g2⟩ := h2 (bys (digL 8 48 n m ++ [0])) (by simp [bys, digL_len]) (by have := HM.out; have := HN.out; omega)
      rw [g1, g2, List.append_nil] at hb5
      exact hb5
    have HB5 := Lib.hid hbb
    have HK5 : Hid (Keep (fun j => w.heap.size ≤ j) w w5) := Lib.hid (HK4.out.trans' hk5 (fun j _ h => by have := HG.out; omega))
    clear hb5 hk5 hbb HB4 HK4
    by_cases h256 : n / 256 ^ m = 0
    · have H256 := Lib.hid h256
      rw [decide_eq_true h256]
      clear h256 ew
      go_wp2_with fail
      go_ret2
      unfold PutA putF
      rw [← HM.out, if_neg H8.out, if_pos H256.out]
      exact ⟨by rw [HG.out]; rfl, HG.out ▸ HB5.out, HK5.out⟩
    · have H256 := Lib.hid h256
      rw [decide_eq_false h256]
      clear h256 ew
      go_wp2_with fail
      go_ret2
      unfold PutA putF
      rw [← HM.out, if_neg H8.out, if_neg H256.out]
      exact ⟨rfl, HK5.out⟩
end Go.Proofs.YtgealodojemoeaaDoor
