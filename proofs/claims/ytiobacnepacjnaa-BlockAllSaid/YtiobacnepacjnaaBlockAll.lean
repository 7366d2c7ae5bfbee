/- BlockAll. Conditions: none. -/
import Derived.Test.YtiobacnepacjnaaLaw03
import Derived.Test.YtiobacnepacjnaaHeldG
namespace Go.Proofs.Ytiobacnepacjnaa
open Go.RowKit

theorem str_take_add (B : List UInt8) (i : Nat) : str (B.take (i * 512)) ++ str ((B.drop (i * 512)).take 512) = str (B.take ((i + 1) * 512)) := by
  rw [str_append, ← List.take_add, show i * 512 + 512 = (i + 1) * 512 by omega]
set_option maxRecDepth 100000 in
set_option maxHeartbeats 4000000 in
theorem blockall_any (w : World) (A : Option Addr) (c : Nat) (B : List UInt8) (hB : B.length ≤ 20000) (hr : RdV w A (bys B)) (hA : A = none → B = [] ∧ c = 0) (hc : B.length ≤ c) (C : Option Addr) (cc : Nat) (ch : List Int) (hrc : RdV w C (ch.map (Value.int .i64))) (hC : C = none → ch = [] ∧ cc = 0) (hcl : ch.length * 8 ≤ 140737488351232) :
    Calls Try.prog 7 #[.slice A B.length c, .slice C ch.length cc] w fun e w' => e = .returned (.bool true) ∧ Keep (fun b => w.heap.size ≤ b) w w' := by
  have HR := Lib.hid (And.intro hr (And.intro hA hc))
  have HC := Lib.hid (And.intro hrc (And.intro hC hcl))
  have HB := Lib.hid hB
  obtain ⟨Q, hQ⟩ : ∃ Q, Q = B.length / 512 := ⟨_, rfl⟩
  obtain ⟨R, hR⟩ : ∃ R, R = B.length % 512 := ⟨_, rfl⟩
  have HQ : Hid (B.length = Q * 512 + R ∧ R < 512) := Lib.hid (by omega)
  have b1 : (B.length : Int) ≤ 20000 := by omega
  have b2 : (B.length : Int) / 512 = (Q : Int) := by omega
  have b3 : (B.length : Int) % 512 = (R : Int) := by omega
  have b4 : (Q : Int) ≤ 39 := by omega
  have b5 : (Q : Int) * 512 ≤ (c : Int) := by omega
  have b6 : (0 : Int) ≤ (Q : Int) := by omega
  have b7 : (R : Int) < 512 := by omega
  clear hr hA hc hrc hC hcl hB hQ hR
  go_enter Try.func7, Try.ntmps7
  go_wp2_with fail
  refine (St.src_new (St.start w) A B.length c B C ch.length cc ch HR.out.1 rfl (fun e => by have := HR.out.2.1 e; rw [this.1]; exact ⟨rfl, this.2⟩) (by have := HB.out; omega) HC.out.1 rfl (fun e => by have := HC.out.2.1 e; rw [this.1]; exact ⟨rfl, this.2⟩) HC.out.2.2).mono ?_
  rintro e w1 ⟨sb, rfl, hs1⟩
  have HS1 : Hid (St w w1 [srcP sb (B.drop (0 * 512)) (0 * 512)]) := Lib.hid hs1
  clear hs1
  go_wp2_with fail
  go_loopw [6, 7] (fun v6 v7 wr => ∃ i : Nat, i ≤ Q ∧ v6 = .string (str (B.take (i * 512))) ∧ v7 = .int .i64 i ∧ Hid (St w wr [srcP sb (B.drop (i * 512)) (i * 512)])) (fun _ v7 _ => Q - (intOf v7).toNat)
  case atStart => exact ⟨0, Nat.zero_le _, rfl, rfl, HS1⟩
  case round =>
    clear HS1
    obtain ⟨i, hi, rfl, rfl, HS⟩ := hrel
    by_cases hlt : i < Q
    · have q1 : (i : Int) < (Q : Int) := by omega
      have q0 : (0 : Int) ≤ (i : Int) := by omega
      have HI := Lib.hid hlt
      have HST := Lib.hid (str_take_add B i)
      clear hlt
      go_wp2_with fail
      refine (St.src_block HS.out (by rw [List.length_drop]; have := HQ.out; have := HI.out; omega) ⟨by rw [List.length_drop]; have := HQ.out; have := HI.out; have := HB.out; omega, by rw [List.length_drop]; have := HB.out; omega⟩).mono ?_
      rintro e w2 ⟨A2, c2, rfl, hA2, _, hs2⟩
      have HA2 := Lib.hid hA2
      have HS2 := Lib.hid hs2
      have hl5 : 512 = ((B.drop (i * 512)).take 512).length := by rw [List.length_take, List.length_drop]; have := HQ.out; have := HI.out; omega
      have cv := conv_rd (n := 512) (c := c2) hs2.rdp hl5 (fun e => by rw [e] at hA2; cases hA2)
      have hsz : (str (B.take (i * 512))).size + (str ((B.drop (i * 512)).take 512)).size ≤ 25000 := by rw [str_size, str_size, List.length_take, List.length_take]; have := HB.out; omega
      clear hs2 hA2 hl5
      go_wp2_with fail
      clear cv hsz
      go_roundw
      case rel =>
        refine ⟨i + 1, HI.out, by rw [← HST.out], by go_num, Lib.hid ?_⟩
        have h := HS2.out.tail
        rw [List.drop_drop] at h
        rw [Nat.succ_mul]
        exact h
      case measure => have := HI.out; simp [intOf]; omega
    · obtain rfl : i = Q := by omega
      clear hlt hi
      have HD : Hid ((B.drop (i * 512)).length = R) := Lib.hid (by rw [List.length_drop]; have := HQ.out; omega)
      by_cases hR0 : R = 0
      · subst hR0
        have HE : Hid (B.drop (i * 512) = []) := Lib.hid (List.eq_nil_of_length_eq_zero HD.out)
        have HS0 : Hid (St w wr [srcP sb [] (i * 512)]) := Lib.hid (by have h := HS.out; rw [HE.out] at h; exact h)
        clear HS
        go_wp2_with fail
        refine (St.src_block_none HS0.out).mono ?_
        rintro e w2 ⟨rfl, rfl⟩
        go_wp2_with fail
        refine (St.src_block_none HS0.out).mono ?_
        rintro e w2 ⟨rfl, rfl⟩
        go_wp2_with fail
        refine (St.ans03 HS0.out).mono ?_
        rintro e w5 ⟨rfl, hs5⟩
        have HS5 := Lib.hid hs5
        have cv := conv_rd (n := i * 512) (c := c) (L := B.take (i * 512)) (A := A) (w := w5) (by
          have h := (HS5.out.rd HR.out.1).take (i * 512)
          have e : (bys B).take (i * 512) = bys (B.take (i * 512)) := by unfold bys; rw [← List.map_take]
          rwa [e] at h) (by rw [List.length_take]; have := HQ.out; omega) (fun e => by have := HR.out.2.1 e; have h2 := HQ.out.1; rw [this.1] at h2; simp at h2; omega)
        have b8 : ((i * 512 : Nat) : Int) = (i : Int) * 512 := by omega
        have hpl : ((i * 512 : Nat) : Int) = (B.length : Int) := by have := HQ.out; omega
        clear hs5 HS0
        go_wp2_with fail
        clear cv
        refine (St.src_place HS5.out).mono ?_
        rintro e w6 ⟨rfl, rfl⟩
        rw [hpl]
        go_wp2_with fail
        go_ret
        exact ⟨rfl, HS5.out.keep⟩
      · have hD : B.drop (i * 512) ≠ [] := fun e => by have := HD.out; rw [e] at this; simp at this; omega
        have HDD := Lib.hid hD
        have b9 : (0 : Int) < (R : Int) := by omega
        clear hD hR0
        go_wp2_with fail
        refine (St.src_block_short HS.out HDD.out (by rw [HD.out]; exact HQ.out.2) ⟨by rw [HD.out]; have := HQ.out; have := HB.out; omega, by rw [HD.out]; have := HQ.out; omega⟩).mono ?_
        rintro e w2 ⟨rfl, hs2⟩
        rw [HD.out] at hs2
        have HS0 := Lib.hid hs2
        clear hs2 HS
        go_wp2_with fail
        refine (St.src_block_none HS0.out).mono ?_
        rintro e w2 ⟨rfl, rfl⟩
        go_wp2_with fail
        refine (St.ans03 HS0.out).mono ?_
        rintro e w5 ⟨rfl, hs5⟩
        have HS5 := Lib.hid hs5
        have cv := conv_rd (n := i * 512) (c := c) (L := B.take (i * 512)) (A := A) (w := w5) (by
          have h := (HS5.out.rd HR.out.1).take (i * 512)
          have e : (bys B).take (i * 512) = bys (B.take (i * 512)) := by unfold bys; rw [← List.map_take]
          rwa [e] at h) (by rw [List.length_take]; have := HQ.out; omega) (fun e => by have := HR.out.2.1 e; have h2 := HQ.out.1; rw [this.1] at h2; simp at h2; omega)
        have b8 : ((i * 512 : Nat) : Int) = (i : Int) * 512 := by omega
        have hpl : ((i * 512 + R : Nat) : Int) = (B.length : Int) := by have := HQ.out; omega
        clear hs5 HS0
        go_wp2_with fail
        clear cv
        refine (St.src_place HS5.out).mono ?_
        rintro e w6 ⟨rfl, rfl⟩
        rw [hpl]
        go_wp2_with fail
        go_ret
        exact ⟨rfl, HS5.out.keep⟩
set_option maxRecDepth 100000 in
theorem blockall_big (w : World) (A : Option Addr) (c : Nat) (B : List UInt8) (hB : ¬ B.length ≤ 20000) (hB2 : B.length ≤ 4611686018427387904) (v : Value) :
    Calls Try.prog 7 #[.slice A B.length c, v] w fun e w' => e = .returned (.bool true) ∧ Keep (fun b => w.heap.size ≤ b) w w' := by
  have d1 : decide ((20000 : Int) < (B.length : Int)) = true := decide_eq_true (by omega)
  have b1 : (B.length : Int) ≤ 4611686018427387904 := by omega
  clear hB hB2
  go_enter Try.func7, Try.ntmps7
  go_wp2_with fail
  refine (answers03 w).mono ?_
  rintro e w5 ⟨rfl, hs5⟩
  have HS5 := Lib.hid hs5
  clear hs5
  go_wp2_with fail
  go_ret
  exact ⟨rfl, HS5.out⟩
theorem blockAll_walk (w : World) (A : Option Addr) (n c : Nat) (B : List UInt8) (hn : n = B.length) (hc : n ≤ c) (hr : RdV w A (bys B)) (hA : A = none → B = [] ∧ c = 0) (hy : n ≤ 140737488351232)
    (C : Option Addr) (m cc : Nat) (ch : List Int) (hm : m = ch.length) (_ : m ≤ cc) (hrc : RdV w C (ch.map (Value.int .i64))) (hC : C = none → ch = [] ∧ cc = 0) (_ : ∀ x ∈ ch, (Lit.int .i64 x).wf = true) (hz : m * 8 ≤ 140737488351232) :
    Calls Try.prog 7 #[.slice A n c, .slice C m cc] w fun e w' => e = .returned (.bool true) ∧ Below w.heap.size w w' := by
  subst hn hm
  by_cases h : B.length ≤ 20000
  · exact (blockall_any w A c B h hr hA hc C cc ch hrc hC hz).mono fun _ _ ⟨h1, h2⟩ => ⟨h1, h2.below (Nat.le_refl _) (fun _ _ h => h)⟩
  · exact (blockall_big w A c B h (by omega) _).mono fun _ _ ⟨h1, h2⟩ => ⟨h1, h2.below (Nat.le_refl _) (fun _ _ h => h)⟩
end Go.Proofs.Ytiobacnepacjnaa
