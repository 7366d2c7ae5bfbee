/- BlockChunks. Conditions: none. -/
import Derived.Test.YtiobacnepacjnaaLaw03
import Derived.Test.YtiobacnepacjnaaSrcE
import Derived.Test.YtiobacnepacjnaaRowAsk
namespace Go.Proofs.Ytiobacnepacjnaa
open Go.RowKit

/-- The cells of an ask in a list that came in. -/
theorem RdA.at_ {w0 w : World} {l : List Part} {b o : Nat} {L : List As} (hc : ∀ i j (h : i < L.length), j < 2 → w0.cell? ⟨b, o + i * 2 + j, none⟩ = L[i].cells[j]?) (h : St w0 w l) (i : Nat) (hi : i < L.length) :
    w.cell? ⟨b, o + i * 2, none⟩ = some (.bool L[i].b) ∧ w.cell? ⟨b, o + i * 2 + 1, none⟩ = some (.int .i64 L[i].n) :=
  ⟨h.cell (hc i 0 hi (by omega)), h.cell (hc i 1 hi (by omega))⟩
set_option maxRecDepth 100000 in
set_option maxHeartbeats 8000000 in
theorem chunks_any (w : World) (A : Option Addr) (c : Nat) (B : List UInt8) (hB : B.length ≤ 5000) (hr : RdV w A (bys B)) (hA : A = none → B = [] ∧ c = 0)
    (C : Option Addr) (cc : Nat) (ch : List Int) (hrc : RdV w C (ch.map (Value.int .i64))) (hC : C = none → ch = [] ∧ cc = 0) (hcl : ch.length * 8 ≤ 140737488351232)
    (D : Option Addr) (dc : Nat) (dh : List Int) (hrd : RdV w D (dh.map (Value.int .i64))) (hD : D = none → dh = [] ∧ dc = 0) (hdl : dh.length * 8 ≤ 140737488351232)
    (a : Option Addr) (ac : Nat) (L : List As) (hL : RdA w a L) (hll : L.length ≤ 40) :
    Calls Try.prog 4 #[.slice A B.length c, .slice C ch.length cc, .slice D dh.length dc, .slice a L.length ac] w fun e w' => e = .returned (.bool true) ∧ Keep (fun b => w.heap.size ≤ b) w w' := by
  have HR := Lib.hid (And.intro hr hA)
  have HC := Lib.hid (And.intro hrc (And.intro hC hcl))
  have HD := Lib.hid (And.intro hrd (And.intro hD hdl))
  have HB := Lib.hid hB
  have HL := Lib.hid hL
  have b1 : (B.length : Int) ≤ 5000 := by omega
  have b2 : (L.length : Int) ≤ 40 := by omega
  clear hr hA hrc hC hcl hrd hD hdl hB hL hll
  go_enter Try.func4, Try.ntmps4
  go_wp2_with fail
  refine (St.src_new (St.start w) A B.length c B C ch.length cc ch HR.out.1 rfl (fun e => by have := HR.out.2 e; rw [this.1]; exact ⟨rfl, this.2⟩) (by have := HB.out; omega) HC.out.1 rfl (fun e => by have := HC.out.2.1 e; rw [this.1]; exact ⟨rfl, this.2⟩) HC.out.2.2).mono ?_
  rintro e w1 ⟨sb, rfl, hs1⟩
  have HS1 := Lib.hid hs1
  clear hs1
  go_wp2_with fail
  refine (St.src_new HS1.out A B.length c B D dh.length dc dh (HS1.out.rd HR.out.1) rfl (fun e => by have := HR.out.2 e; rw [this.1]; exact ⟨rfl, this.2⟩) (by have := HB.out; omega) (HS1.out.rd HD.out.1) rfl (fun e => by have := HD.out.2.1 e; rw [this.1]; exact ⟨rfl, this.2⟩) HD.out.2.2).mono ?_
  rintro e w2 ⟨tb, rfl, hs2⟩
  have HS2 := Lib.hid hs2
  clear hs2 HS1
  go_wp2_with fail
  go_loopw [11] (fun v11 wr => ∃ (i : Nat) (l : List UInt8) (pl : Nat), i ≤ L.length ∧ v11 = .int .i64 i ∧ Hid (pl + l.length = B.length) ∧ Hid (St w wr [srcP tb l pl, srcP sb l pl])) (fun v11 _ => L.length - (intOf v11).toNat)
  case atStart => exact ⟨0, B, 0, Nat.zero_le _, rfl, Lib.hid (by omega), HS2⟩
  case round =>
    clear HS2
    obtain ⟨i, l, pl, hi, rfl, HP, HS⟩ := hrel
    by_cases hlt : i < L.length
    · rcases HL.out with ⟨_, h0⟩ | ⟨b, o, rfl, hc⟩
      · rw [h0] at hlt; simp at hlt
      have HCE := Lib.hid hc
      have q1 : (0 : Int) ≤ i := by omega
      have q2 : (i : Int) < (L.length : Int) := by omega
      have hHC : ∃ X : As, ∀ u ps, St w u ps → u.cell? ⟨b, o + i * 2, none⟩ = some (.bool X.b) ∧ u.cell? ⟨b, o + i * 2 + 1, none⟩ = some (.int .i64 X.n) := ⟨L[i], fun u ps h => RdA.at_ hc h i hlt⟩
      obtain ⟨X, hX⟩ := hHC
      have HX := Lib.hid hX
      have HI := Lib.hid hlt
      have HOK : Hid (SrcOk l pl) := Lib.hid ⟨by have := HP.out; have := HB.out; omega, by have := HP.out; have := HB.out; omega⟩
      obtain ⟨x0, x1⟩ := HX.out wr _ HS.out
      clear hX hc hlt
      obtain ⟨R, hR⟩ : ∃ R, R = if X.b then blockF l else bodyF l X.n := ⟨_, rfl⟩
      have HRL : Hid (R.2.2 ≤ l.length) := Lib.hid (by rw [hR]; split; exact blockF_le l; exact bodyF_le l _)
      cases hb : X.b
      · rw [hb] at hR x0
        have HRR : Hid (R = bodyF l X.n) := Lib.hid (by rw [hR]; rfl)
        clear hR hb
        go_wp2_with fail
        refine (St.src_body_f (HS.out.sel [1, 0] (by decide) (by simp)) HOK.out X.n R HRR.out).mono ?_
        rintro e w3 ⟨A3, c3, rfl, hA3, hs3⟩
        have HS3 := Lib.hid hs3
        have HA3 := Lib.hid hA3
        clear hs3 hA3 HS x0 x1
        obtain ⟨x0, x1⟩ := HX.out w3 _ HS3.out
        go_wp2_with fail
        refine (St.src_body_f (HS3.out.sel [2, 1, 0] (by decide) (by simp)) HOK.out X.n R HRR.out).mono ?_
        rintro e w4 ⟨A4, c4, rfl, hA4, hs4⟩
        have HS4 := Lib.hid hs4
        have HA4 := Lib.hid hA4
        have cv3 := conv_rd (n := R.2.1.length) (c := c3) (hs4.sel [3] (by decide) (by simp)).rdp rfl HA3.out
        have cv4 := conv_rd (n := R.2.1.length) (c := c4) hs4.rdp rfl HA4.out
        clear hs4 hA4 HS3 x0 x1
        go_wp2_with fail
        clear cv3 cv4
        refine (St.src_place (HS4.out.sel [2] (by decide) (by simp))).mono ?_
        rintro e w5 ⟨rfl, rfl⟩
        go_wp2_with fail
        refine (St.src_place (HS4.out.sel [1] (by decide) (by simp))).mono ?_
        rintro e w5 ⟨rfl, rfl⟩
        go_wp2_with fail
        go_roundw
        case rel =>
          refine ⟨i + 1, l.drop R.2.2, pl + R.2.2, HI.out, by go_num, Lib.hid ?_, Lib.hid (HS4.out.sel [1, 2] (by decide) (by simp))⟩
          rw [List.length_drop]
          have := HP.out
          have := HRL.out
          omega
        case measure => have := HI.out; simp [intOf]; omega
      · rw [hb] at hR x0
        have HRR : Hid (R = blockF l) := Lib.hid (by rw [hR]; rfl)
        clear hR hb
        go_wp2_with fail
        refine (St.src_block_f (HS.out.sel [1, 0] (by decide) (by simp)) HOK.out R HRR.out).mono ?_
        rintro e w3 ⟨A3, c3, rfl, hA3, hs3⟩
        have HS3 := Lib.hid hs3
        have HA3 := Lib.hid hA3
        clear hs3 hA3 HS x0 x1
        obtain ⟨x0, x1⟩ := HX.out w3 _ HS3.out
        go_wp2_with fail
        refine (St.src_block_f (HS3.out.sel [2, 1, 0] (by decide) (by simp)) HOK.out R HRR.out).mono ?_
        rintro e w4 ⟨A4, c4, rfl, hA4, hs4⟩
        have HS4 := Lib.hid hs4
        have HA4 := Lib.hid hA4
        have cv3 := conv_rd (n := R.2.1.length) (c := c3) (hs4.sel [3] (by decide) (by simp)).rdp rfl HA3.out
        have cv4 := conv_rd (n := R.2.1.length) (c := c4) hs4.rdp rfl HA4.out
        clear hs4 hA4 HS3 x0 x1
        go_wp2_with fail
        clear cv3 cv4
        refine (St.src_place (HS4.out.sel [2] (by decide) (by simp))).mono ?_
        rintro e w5 ⟨rfl, rfl⟩
        go_wp2_with fail
        refine (St.src_place (HS4.out.sel [1] (by decide) (by simp))).mono ?_
        rintro e w5 ⟨rfl, rfl⟩
        go_wp2_with fail
        go_roundw
        case rel =>
          refine ⟨i + 1, l.drop R.2.2, pl + R.2.2, HI.out, by go_num, Lib.hid ?_, Lib.hid (HS4.out.sel [1, 2] (by decide) (by simp))⟩
          rw [List.length_drop]
          have := HP.out
          have := HRL.out
          omega
        case measure => have := HI.out; simp [intOf]; omega
    · obtain rfl : i = L.length := by omega
      clear hlt
      go_wp2_with fail
      refine (St.ans03 HS.out).mono ?_
      rintro e w5 ⟨rfl, hs5⟩
      have HS5 := Lib.hid hs5
      clear hs5 HS
      go_wp2_with fail
      go_ret
      exact ⟨rfl, HS5.out.keep⟩
set_option maxRecDepth 100000 in
theorem chunks_big (w : World) (A : Option Addr) (c : Nat) (B : List UInt8) (C D a : Value) (hB : 5000 < B.length) (hB2 : B.length ≤ 4611686018427387904) :
    Calls Try.prog 4 #[.slice A B.length c, C, D, a] w fun e w' => e = .returned (.bool true) ∧ Keep (fun b => w.heap.size ≤ b) w w' := by
  have d1 : decide ((5000 : Int) < (B.length : Int)) = true := decide_eq_true (by omega)
  clear hB hB2
  go_enter Try.func4, Try.ntmps4
  go_wp2_with fail
  refine (answers03 w).mono ?_
  rintro e w5 ⟨rfl, hs5⟩
  have HS5 := Lib.hid hs5
  clear hs5
  go_wp2_with fail
  go_ret
  exact ⟨rfl, HS5.out⟩
set_option maxRecDepth 100000 in
theorem chunks_long (w : World) (A : Option Addr) (c : Nat) (B : List UInt8) (C D : Value) (a : Option Addr) (n ac : Nat) (hB : B.length ≤ 5000) (hn : 40 < n) (hn2 : n ≤ 9223372036854775807) :
    Calls Try.prog 4 #[.slice A B.length c, C, D, .slice a n ac] w fun e w' => e = .returned (.bool true) ∧ Keep (fun b => w.heap.size ≤ b) w w' := by
  have d1 : decide ((5000 : Int) < (B.length : Int)) = false := decide_eq_false (by omega)
  have d2 : decide ((40 : Int) < (n : Int)) = true := decide_eq_true (by omega)
  clear hB hn hn2
  go_enter Try.func4, Try.ntmps4
  go_wp2_with fail
  refine (answers03 w).mono ?_
  rintro e w5 ⟨rfl, hs5⟩
  have HS5 := Lib.hid hs5
  clear hs5
  go_wp2_with fail
  go_ret
  exact ⟨rfl, HS5.out⟩
theorem blockChunks_walk (w : World) (A : Option Addr) (n c : Nat) (B : List UInt8) (hn : n = B.length) (_ : n ≤ c) (hr : RdV w A (bys B)) (hA : A = none → B = [] ∧ c = 0) (hy : n ≤ 140737488351232)
    (C : Option Addr) (m cc : Nat) (ch : List Int) (hm : m = ch.length) (_ : m ≤ cc) (hrc : RdV w C (ch.map (Value.int .i64))) (hC : C = none → ch = [] ∧ cc = 0) (_ : ∀ x ∈ ch, (Lit.int .i64 x).wf = true) (hz : m * 8 ≤ 140737488351232)
    (D : Option Addr) (k dc : Nat) (dh : List Int) (hk : k = dh.length) (_ : k ≤ dc) (hrd : RdV w D (dh.map (Value.int .i64))) (hD : D = none → dh = [] ∧ dc = 0) (_ : ∀ x ∈ dh, (Lit.int .i64 x).wf = true) (hz2 : k * 8 ≤ 140737488351232)
    (a : Option Addr) (q ac : Nat) (L : List As) (hq : q = L.length) (hqa : q ≤ ac) (hac : ac ≤ 9223372036854775807) (hL : RdA w a L) (_ : a = none → L = [] ∧ ac = 0) :
    Calls Try.prog 4 #[.slice A n c, .slice C m cc, .slice D k dc, .slice a q ac] w fun e w' => e = .returned (.bool true) ∧ Below w.heap.size w w' := by
  subst hn hm hk hq
  by_cases h : B.length ≤ 5000
  · by_cases h2 : L.length ≤ 40
    · exact (chunks_any w A c B h hr hA C cc ch hrc hC hz D dc dh hrd hD hz2 a ac L hL h2).mono fun _ _ ⟨h1, h2⟩ => ⟨h1, h2.below (Nat.le_refl _) (fun _ _ h => h)⟩
    · exact (chunks_long w A c B _ _ a L.length ac h (by omega) (by omega)).mono fun _ _ ⟨h1, h2⟩ => ⟨h1, h2.below (Nat.le_refl _) (fun _ _ h => h)⟩
  · exact (chunks_big w A c B _ _ _ (by omega) (by omega)).mono fun _ _ ⟨h1, h2⟩ => ⟨h1, h2.below (Nat.le_refl _) (fun _ _ h => h)⟩
end Go.Proofs.Ytiobacnepacjnaa
