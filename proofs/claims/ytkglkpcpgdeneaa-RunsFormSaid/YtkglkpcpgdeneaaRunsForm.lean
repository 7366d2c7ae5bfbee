/- RunsForm. Conditions: none. -/
import Derived.Test.YtkglkpcpgdeneaaFormP
namespace Go.Proofs.Ytkglkpcpgdeneaa
open Go.RowKit
set_option linter.unusedVariables false
set_option linter.unusedSimpArgs false

theorem St.own_rdi {w0 w : World} {l : List Part} {A : Option Addr} {n c : Nat} {L : List It} (h : St w0 w (ownP 44 3 (.slice A n c) n (flatI L) :: l)) : RdI w A L := by
  rcases own_row h.own rfl with h1 | ⟨g, rfl, h1⟩
  · exact .inl h1
  · exact h1.rd
theorem infoIt16 : (Try.prog.info? 44).map (fun i => (i.zero, i.size, i.bytes)) = some (some (.agg #[.string ⟨#[]⟩, .int .i64 0, .slice none 0 0]), 3, 48) := by kernel_rfl
theorem info64 : (Try.prog.info? 3).map (fun i => (i.zero, i.size, i.bytes)) = some (some (.int .i64 0), 1, 8) := by kernel_rfl
/-- What the law's side has: what is held, the runs, the reference's store. -/
structure LawW where
  F : FM
  R : RefM
  Hx : List ItX
  Ah : Option Addr
  ch : Nat
  Ai : Option Addr
  ci : Nat
def lawL (rb nf cf : Nat) (Af : Option Addr) (x : LawW) : List Part := [ownP 44 3 (.slice x.Ah x.Hx.length x.ch) x.Hx.length (flatI (x.Hx.map Prod.fst)), ownP 3 1 (.slice x.Ai x.F.ids.length x.ci) x.F.ids.length (ints x.F.ids), refP rb Af nf cf x.R]
/-- It is as the model has it. -/
structure LawOk (bud room : Int) (fl : List Int) (X : List ItX) (i m : Nat) (x : LawW) : Prop where
  inv : FInv bud x.F i m
  sim : Sim x.F.S x.R
  fails : x.R.fails = fl
  room : x.R.room = max room 0
  hk : x.Hx.map keyX = x.F.held
  hx : ∀ y ∈ x.Hx, y ∈ X
  runs : x.R.runs.length ≤ i
theorem FM.Bd.mono {F : FM} {W : Int} {c m c' m' : Nat} (h : F.Bd W c m) (h1 : c ≤ c') (h2 : m ≤ m') : F.Bd W c' m' := by
  obtain ⟨a1, a2, a3⟩ := h
  exact ⟨by omega, by omega, by omega⟩
theorem LawOk.mono {bud room : Int} {fl : List Int} {X : List ItX} {i m i' m' : Nat} {x : LawW} (h : LawOk bud room fl X i m x) (h1 : i ≤ i') (h2 : m ≤ m') : LawOk bud room fl X i' m' x :=
  ⟨⟨h.inv.bd.mono h1 h2, h.inv.may, h.inv.held, by have := h.inv.used; omega, h.inv.ids⟩, h.sim, h.fails, h.room, h.hk, h.hx, by have := h.runs; omega⟩
theorem FSt.later {w0 w w' : World} {l : List Part} {fb sb : Nat} {bud : Int} {F : FM} (h : FSt w0 w l fb sb bud F) (k : Keep (fun j => w.heap.size ≤ j) w w') : FSt w0 w' l fb sb bud F := by
  obtain ⟨X, hX, hS⟩ := h
  exact ⟨X, hX, hS.later k⟩
theorem St.five {w0 w : World} {a b c d e : Part} (h : St w0 w [a, b, c, d, e]) : St w0 w [c, a, b, d, e] := h.nth3
/-- What the law looks at, when the former is closed. -/
def lawS (rb nf cf : Nat) (Af : Option Addr) (R : RefM) (x : RefW) (sb : Nat) (S : StoreM) (A9 : Option Addr) (c9 : Nat) (Aq : Option Addr) (cq : Nat) (ids : List Int) : List Part :=
  [blkP rb 64 (x.cells Af nf cf R), ownP 42 1 (.slice x.A2 R.runs.length x.c2) R.runs.length (x.rows.map rowV), ownP 4 1 (.slice x.A3 R.runs.length x.c3) R.runs.length (R.there.map Value.bool), rdsP x.rows, storeP sb S, ownP 3 1 (.slice A9 ids.length c9) ids.length (ints ids), ownP 3 1 (.slice Aq ids.length cq) ids.length (ints ids)]
section
variable {w0 u : World} {rb nf cf : Nat} {Af : Option Addr} {R : RefM} {x : RefW} {sb : Nat} {S : StoreM} {A9 : Option Addr} {c9 : Nat} {Aq : Option Addr} {cq : Nat} {ids : List Int}
theorem St.lawS_store (h : St w0 u (lawS rb nf cf Af R x sb S A9 c9 Aq cq ids)) : St w0 u (storeP sb S :: blkP rb 64 (x.cells Af nf cf R) :: [ownP 42 1 (.slice x.A2 R.runs.length x.c2) R.runs.length (x.rows.map rowV), ownP 4 1 (.slice x.A3 R.runs.length x.c3) R.runs.length (R.there.map Value.bool), rdsP x.rows, ownP 3 1 (.slice A9 ids.length c9) ids.length (ints ids), ownP 3 1 (.slice Aq ids.length cq) ids.length (ints ids)]) :=
  h.mv 4 (by simp [lawS])
theorem lawS_used (h : St w0 u (lawS rb nf cf Af R x sb S A9 c9 Aq cq ids)) (e : S.used = R.used) : Calls Try.prog 21 #[.pointer (some ⟨sb, 0, none⟩)] u fun e w' => e = .returned (.int .i64 R.used) ∧ Anew u w' := by
  refine (St.store_used h.lawS_store).mono ?_
  rintro e9 w8 ⟨rfl, rfl⟩
  exact ⟨by rw [e], Anew.refl _⟩
theorem lawS_writes (h : St w0 u (lawS rb nf cf Af R x sb S A9 c9 Aq cq ids)) (e : S.writes = R.writes) : Calls Try.prog 24 #[.pointer (some ⟨sb, 0, none⟩)] u fun e w' => e = .returned (.int .i64 R.writes) ∧ Anew u w' := by
  refine (St.store_writes h.lawS_store).mono ?_
  rintro e9 w8 ⟨rfl, rfl⟩
  exact ⟨by rw [e], Anew.refl _⟩
theorem lawS_ref (h : St w0 u (lawS rb nf cf Af R x sb S A9 c9 Aq cq ids)) (hx : x.rows.map (·.2.2) = R.runs) (hu : R.used ≤ 4611686018427387904) : Calls Try.prog 40 #[.pointer (some ⟨rb, 0, none⟩)] u fun e w' => e = .returned (.int .i64 R.used) ∧ Anew u w' := by
  refine (St.ref_used (St.ref_mk x hx h) hu).mono ?_
  rintro e9 w8 ⟨rfl, rfl⟩
  exact ⟨rfl, Anew.refl _⟩
theorem St.lawS4 (h : St w0 u (lawS rb nf cf Af R x sb S A9 c9 Aq cq ids)) : u.cell? ⟨rb, 4, none⟩ = some (.int .i64 R.writes) := h.blk.1.cell 4
theorem St.lawS2 (h : St w0 u (lawS rb nf cf Af R x sb S A9 c9 Aq cq ids)) : u.cell? ⟨rb, 2, none⟩ = some (.slice x.A2 R.runs.length x.c2) := h.blk.1.cell 2
theorem St.lawS_l (h : St w0 u (lawS rb nf cf Af R x sb S A9 c9 Aq cq ids)) (i : Nat) (hi : i < ids.length) : ∃ g, A9 = some ⟨g, 0, none⟩ ∧ u.cell? ⟨g, i, none⟩ = some (.int .i64 ids[i]) := by
  obtain ⟨g, e, hc, _⟩ := (St.mv h 5 (by simp [lawS])).own_at i hi
  exact ⟨g, e, by rw [hc]; simp [ints, hi]⟩
theorem St.lawS_q (h : St w0 u (lawS rb nf cf Af R x sb S A9 c9 Aq cq ids)) (i : Nat) (hi : i < ids.length) : ∃ g, Aq = some ⟨g, 0, none⟩ ∧ u.cell? ⟨g, i, none⟩ = some (.int .i64 ids[i]) := by
  obtain ⟨g, e, hc, _⟩ := (St.mv h 6 (by simp [lawS])).own_at i hi
  exact ⟨g, e, by rw [hc]; simp [ints, hi]⟩
theorem St.lawS_row (h : St w0 u (lawS rb nf cf Af R x sb S A9 c9 Aq cq ids)) (hx : x.rows.map (·.2.2) = R.runs) (i : Nat) (hi : i < x.rows.length) : ∃ g, x.A2 = some ⟨g, 0, none⟩ ∧ u.cell? ⟨g, i, none⟩ = some (.slice x.rows[i].1 x.rows[i].2.2.length x.rows[i].2.1) ∧ RdV u x.rows[i].1 (bys x.rows[i].2.2) ∧ (x.rows[i].1 = none → x.rows[i].2.2 = []) := by
  have hl := congrArg List.length hx
  simp at hl
  obtain ⟨g, e, hc, _⟩ := (St.mv h 1 (by simp [lawS])).own_at i (by omega)
  have hr := St.rds_at (St.mv h 3 (by simp [lawS])) x.rows[i] (List.getElem_mem hi)
  exact ⟨g, e, by rw [hc]; simp [hi, rowV], hr.1, hr.2⟩
end
theorem FInv.shut {bud : Int} {F : FM} {i m : Nat} (hb : 1 ≤ bud) (h : FInv bud F i m) (hok : F.S.Ok) (hn : F.S.next < 65536) : FInv bud F.shut i m := by
  unfold FM.shut
  split
  · rename_i h2
    have hu := h.used
    rw [if_pos h2.1] at hu
    exact FInv.flush hb ⟨h.bd, h.may, h2.1, h2.2, hu, h.ids⟩ hok hn
  · exact h
theorem FM.shut_no {F : FM} (h : F.bad = 0 → F.held = []) : F.shut = F := by
  unfold FM.shut
  rw [if_neg (fun h2 => h2.2 (h h2.1))]
theorem FM.shut_yes {F : FM} (h : F.bad = 0) (h2 : F.held ≠ []) : F.shut = F.flush := by
  unfold FM.shut
  rw [if_pos ⟨h, h2⟩]
set_option maxRecDepth 100000 in
set_option maxHeartbeats 8000000 in
theorem runsForm_small (w : World) (a : Option Addr) (c : Nat) (L : List It) (bud room : Int) (Af : Option Addr) (nf cf : Nat) (fl : List Int) (hbud : bud ≤ 9223372036854775807 ∧ -9223372036854775808 ≤ bud) (hroom : room ≤ 9223372036854775807 ∧ -9223372036854775808 ≤ room)
    (hfr : RdV w Af (ints fl)) (hfn : nf = fl.length) (hfc : nf ≤ cf) (hfA : Af = none → nf = 0 ∧ cf = 0) (hf50 : nf ≤ 50)
    (hr : RdI w a L) (hcap : L.length ≤ c) (hcap2 : c ≤ 2932031007402) (hx : ∀ x ∈ L, ItOk w x) (hl : L.length ≤ 200) (hs : wsum L ≤ 100000) :
    Calls Try.prog 8 #[.slice a L.length c, .int .i64 bud, .int .i64 room, .slice Af nf cf] w fun e w' => e = .returned (.bool true) ∧ Keep (fun b => w.heap.size ≤ b) w w' := by
  obtain ⟨X, hX⟩ : ∃ X, X = xsI w L := ⟨_, rfl⟩
  have hXf : X.map Prod.fst = L := by rw [hX]; exact xsI_fst w L
  have hXn : X.length = L.length := by rw [hX]; exact xsI_len w L
  have hXd := xsI_dat hx
  rw [← hX] at hXd
  obtain ⟨K, hK⟩ : ∃ K, K = X.map keyX := ⟨_, rfl⟩
  have hKn : K.length = X.length := by rw [hK, List.length_map]
  have hKs : sumK K ≤ 103200 := by
    rw [hK, sumK_wsum X (fun x hx' => (hXd x hx').1.1), hXf, hXn]
    omega
  have HX := Lib.hid (And.intro hXf (And.intro hXn (And.intro hXd (And.intro hK (And.intro hKn hKs)))))
  have HR := Lib.hid hr
  have HO := Lib.hid hx
  have HL := Lib.hid (And.intro hl hs)
  have HFL := Lib.hid (And.intro hfr (And.intro hfn (And.intro hfc (And.intro hfA hf50))))
  obtain ⟨n, hn⟩ : ∃ n, n = L.length := ⟨_, rfl⟩
  have HN := Lib.hid hn
  have q0 : (n : Int) ≤ 200 := by omega
  have qc1 : (n : Int) ≤ (c : Int) := by omega
  have qc2 : (c : Int) ≤ 2932031007402 := by omega
  have qf : decide ((50 : Int) < (nf : Int)) = false := decide_eq_false (by omega)
  obtain ⟨qb1, qb2⟩ := hbud
  obtain ⟨qr1, qr2⟩ := hroom
  rw [← hn]
  clear hr hx hl hs hX hXf hXn hXd hK hKn hKs hn hfr hfn hfc hfA hf50 hcap hcap2
  go_enter Try.func8, Try.ntmps8
  go_wp2_with fail
  refine (St.light16 (St.start w) a n c L true HN.out HR.out (by have := HL.out.1; omega) (fun x hx => (HO.out x hx).small2) (decide_eq_true HL.out)).mono ?_
  rintro e w1 ⟨rfl, hs1⟩
  have HS1 := Lib.hid hs1
  clear hs1
  go_wp2_with fail
  refine (St.store_new HS1.out room Af nf cf fl (by omega) (HS1.out.rd HFL.out.1) HFL.out.2.1 HFL.out.2.2.2.1 (by have := HFL.out.2.2.2.2; omega)).mono ?_
  rintro e w2 ⟨sb, rfl, hs2⟩
  have HS2 := Lib.hid hs2
  clear hs2 HS1
  go_wp2_with fail
  have hsm := sim_made room fl qr1
  obtain ⟨rm, hrm⟩ : ∃ rm, rm = max room 0 := ⟨_, rfl⟩
  rw [← hrm] at hsm ⊢
  obtain ⟨rb, hrb⟩ : ∃ rb, rb = w2.heap.size := ⟨_, rfl⟩
  have hs3 := HS2.out.ref_new (Af := Af) (nf := nf) (cf := cf) rb hrb rm fl
  have HS3 := Lib.hid hs3
  have HSM := Lib.hid hsm
  have HRM := Lib.hid hrm
  rw [← hrb]
  clear hs3 hsm hrm hrb HS2
  generalize w2.alloc (Obj.cells #[Value.int IntKind.i64 rm, Value.slice Af nf cf, Value.slice none 0 0, Value.slice none 0 0, Value.int IntKind.i64 0, Value.int IntKind.i64 0] 64) = w3 at HS3 ⊢
  by_cases hb1 : bud < 1
  · refine (runs_new_small w3 sb bud hb1).mono ?_
    rintro e w4 ⟨rfl, rfl⟩
    go_wp2_with fail
    refine (St.ans16 HS3.out).mono ?_
    rintro e w5 ⟨rfl, hs5⟩
    have HS5 := Lib.hid hs5
    clear hs5 HS3
    go_wp2_with fail
    go_ret
    exact ⟨rfl, HS5.out.keep⟩
  · have qb3 : 1 ≤ bud := by omega
    have qb4 : ¬ bud < 1 := hb1
    clear hb1
    refine (HS3.out.swap.runs_new bud qb3).mono ?_
    rintro e w4 ⟨fb, rfl, hs4⟩
    have hs5 : St w w4 (formP fb sb bud [] [] 0 :: storeP sb (StoreM.made room fl) :: lawL rb nf cf Af ⟨⟨StoreM.made room fl, [], [], 0⟩, ⟨rm, fl, [], [], 0, 0⟩, [], none, 0, none, 0⟩) :=
      ((((hs4.nil 3 1).nth3.nth3).nil 44 3).nth3.nth3)
    have HF5 : Hid (FSt w w4 (lawL rb nf cf Af ⟨⟨StoreM.made room fl, [], [], 0⟩, ⟨rm, fl, [], [], 0, 0⟩, [], none, 0, none, 0⟩) fb sb bud ⟨StoreM.made room fl, [], [], 0⟩) := Lib.hid ⟨[], rfl, hs5⟩
    have HOK0 : Hid (LawOk bud room fl X 0 (offK K 0) ⟨⟨StoreM.made room fl, [], [], 0⟩, ⟨rm, fl, [], [], 0, 0⟩, [], none, 0, none, 0⟩) := Lib.hid
      ⟨⟨⟨by simp, by simp [sumK, offK], by simp [StoreM.made]⟩, (fun x hx => by cases hx), (fun _ => by simp; omega), by simp [StoreM.made, sumK], (fun id hid => by cases hid)⟩, by rw [HRM.out]; have := HSM.out; rw [HRM.out] at this; exact this, rfl, HRM.out, rfl, (fun y hy => by cases hy), Nat.zero_le _⟩
    clear hs4 hs5 HS3
    go_wp2_with fail
    go_loopw [13, 14, 15, 16] (fun v13 v14 v15 v16 wr => ∃ (i : Nat) (x : LawW), i ≤ n ∧ v13 = .slice x.Ah x.Hx.length x.ch ∧ v14 = .slice x.Ai x.F.ids.length x.ci ∧ v15 = .int .i64 x.F.bad ∧ v16 = .int .i64 i ∧ Hid (FSt w wr (lawL rb nf cf Af x) fb sb bud x.F) ∧ Hid (LawOk bud room fl X i (offK K i) x)) (fun _ _ _ v16 _ => n - (intOf v16).toNat)
    case atStart => exact ⟨0, _, Nat.zero_le _, rfl, rfl, rfl, rfl, HF5, HOK0⟩
    case round =>
      clear HF5 HOK0
      obtain ⟨i, x, hi, rfl, rfl, rfl, rfl, HFS, HOK⟩ := hrel
      obtain ⟨F, R, Hx, Ah, ch, Ai, ci⟩ := x
      dsimp only at HFS HOK ⊢
      by_cases hlt : i < n
      · have hiX : i < X.length := by have := HX.out.2.1; have := HN.out; omega
        obtain ⟨x, hx⟩ : ∃ x, X[i]? = some x := ⟨_, List.getElem?_eq_getElem hiX⟩
        have hki : K[i]? = some (keyX x) := by rw [HX.out.2.2.2.1, List.getElem?_map, hx]; rfl
        rcases HR.out with ⟨_, h0⟩ | ⟨ba, o, hA, hc⟩
        · have h1 := HN.out; rw [h0] at h1; simp at h1; omega
        subst hA
        have hcl := St.itemAt hc i x.1 (by rw [← HX.out.1, List.getElem?_map, hx]; rfl)
        have HC := Lib.hid hcl
        have d0 := old_cell hcl.1 HFS.out.st.keep
        have d1 := old_cell hcl.2.1 HFS.out.st.keep
        have d2 := old_cell hcl.2.2 HFS.out.st.keep
        have HD := Lib.hid (And.intro (HX.out.2.2.1 x (List.mem_of_getElem? hx)) (And.intro hki (And.intro (List.mem_of_getElem? hx) (And.intro True.intro hlt))))
        have q1 : (i : Int) < (n : Int) := by omega
        have qci : ¬ c = i := by omega
        have qci2 : (i : Int) + 1 ≤ (c : Int) := by omega
        have hoff := offK_succ hki
        have HOFF := Lib.hid hoff
        clear hc hx hki hlt hiX hcl hoff
        obtain ⟨⟨k, s, A1, n1, c1⟩, d⟩ := x
        dsimp only at d0 d1 d2
        have hn1 : n1 = d.length := HD.out.1.1.1
        have HN1 := Lib.hid hn1
        by_cases hb : F.bad = 0
        · have HB := Lib.hid hb
          rw [hb]
          clear hn1
          go_wp2_with fail
          refine (may13 k s A1 n1 c1 wr).mono ?_
          rintro e w4 ⟨rfl, hk4⟩
          have HFS := Lib.hid (HFS.out.later hk4)
          clear hk4 d0 d1 d2
          cases hmy : mayI k s n1 with
          | false =>
            have hadd : stepF bud F (k, s, d) = (F, 1) := by
              unfold stepF FM.add
              rw [if_pos hb, if_neg (by show ¬ mayI k s d.length = true; rw [← HN1.out, hmy]; simp)]
            have hlk : LawOk bud room fl X (i + 1) (offK K (i + 1)) ⟨F, R, Hx, Ah, ch, Ai, ci⟩ := HOK.out.mono (by omega) (by have := HOFF.out; omega)
            clear hmy hb
            have HLK := Lib.hid hlk
            have HADD := Lib.hid hadd
            clear hlk hadd
            go_wp2_with fail
            refine (ref_own w4 (some ⟨ba, o + i * 3, none⟩) 1 (c - i) [(⟨k, s, A1, n1, c1⟩, d)] rfl (.inr ⟨ba, o + i * 3, rfl, fun j t hj ht => ?_⟩) (fun z hz => ?_) (by omega)).mono ?_
            · have hj0 : j = 0 := by simpa using hj
              subst hj0
              have e0 := old_cell HC.out.1 HFS.out.st.keep
              have e1 := old_cell HC.out.2.1 HFS.out.st.keep
              have e2 := old_cell HC.out.2.2 HFS.out.st.keep
              rcases t with _ | _ | _ | t
              · exact e0
              · exact e1
              · exact e2
              · omega
            · rw [List.mem_singleton.1 hz]
              exact ⟨HD.out.1.1.st HFS.out.st, HD.out.1.2⟩
            rintro e w8 ⟨A8, c8, Y, rfl, hY, hs8⟩
            have hYl : Y.length = 1 := by have := congrArg List.length hY; simpa using this
            have HF8 : Hid (FSt w w8 (itsP A8 c8 Y :: lawL rb nf cf Af ⟨F, R, Hx, Ah, ch, Ai, ci⟩) fb sb bud F) := Lib.hid (HFS.out.put (fun q hq => hq.lift hs8))
            have HYL := Lib.hid (And.intro hY hYl)
            clear hs8 hY hYl HFS
            go_wp2_with fail
            have hal := FSt.addL HF8.out A8 Y.length c8 Y rfl (fun w' h => ⟨h.its_rd, h.its_dat⟩) 0 i (offK K i) HOK.out.inv.bd HOK.out.inv.may (by have := HYL.out.2; have := HD.out.2.2.2.2; have := HL.out.1; have := HN.out; omega) (by
              rw [HYL.out.1]
              have h1 := offK_succ HD.out.2.1
              have h2 := offK_le K (i + 1)
              have h3 := HX.out.2.2.2.2.2
              have e9 : sumK ([((⟨k, s, A1, n1, c1⟩, d) : ItX)].map keyX) = lenK (k, s, d) := by simp [sumK, keyX]
              have e10 : lenK (keyX (⟨k, s, A1, n1, c1⟩, d)) = lenK (k, s, d) := rfl
              rw [e9]
              omega) (by omega)
            rw [HYL.out.1, show [((⟨k, s, A1, n1, c1⟩, d) : ItX)].map keyX = [(k, s, d)] from rfl, addL_one, HADD.out] at hal
            refine hal.mono ?_
            rintro e w9 ⟨rfl, hf9⟩
            have HF9 := Lib.hid hf9.drop
            clear hal hf9 HF8
            go_wp2_with fail
            refine HF9.out.heldC.mono ?_
            rintro e w10 ⟨rfl, rfl⟩
            have hhl : F.held.length = Hx.length := by have h1 := HLK.out.hk; rw [← h1, List.length_map]
            rw [hhl]
            clear hhl
            go_wp2_with fail
            go_roundw
            case rel => exact ⟨i + 1, ⟨F, R, Hx, Ah, ch, Ai, ci⟩, HD.out.2.2.2.2, rfl, rfl, by rw [HB.out], by go_num, HF9, HLK⟩
            case measure => have := HD.out.2.2.2.2; simp [intOf]; omega
          | true =>
            have HMY := Lib.hid hmy
            have hmk : mayK (k, s, d) = true := by show mayI k s d.length = true; rw [← HN1.out]; exact hmy
            have HMK := Lib.hid hmk
            obtain ⟨Xf, hXf, hS⟩ := HFS.out
            have HS := Lib.hid (hS.mv 2 (by simp [lawL]))
            have d0 := old_cell HC.out.1 HFS.out.st.keep
            have d1 := old_cell HC.out.2.1 HFS.out.st.keep
            have d2 := old_cell HC.out.2.2 HFS.out.st.keep
            have HXF := Lib.hid hXf
            obtain ⟨Hx2, hHx2⟩ : ∃ Hx2, Hx2 = Hx ++ [((⟨k, s, A1, n1, c1⟩, d) : ItX)] := ⟨_, rfl⟩
            have hl2 : Hx.length + 1 = Hx2.length := by rw [hHx2]; simp
            have hhl : F.held.length = Hx.length := by have h1 := HOK.out.hk; rw [← h1, List.length_map]
            have hxl : Hx.length ≤ i := by have h1 := HOK.out.inv.bd.1; simp only at h1; omega
            have HH2 := Lib.hid (And.intro hHx2 (And.intro hl2 (And.intro hhl hxl)))
            clear hmy hmk hS hXf hHx2 hl2 hhl hxl hb
            by_cases hbf : (Hx2.length : Int) = bud
            · have HBF := Lib.hid hbf
              have hbq : ((Hx2.length : Int) == bud) = true := by simpa using hbf
              clear hbf
              go_wp2_with (
                at_builtin
                refine wpL_push_st rfl (.tmp 76) (.tmp 81) 22 rfl 44 (.agg #[.string ⟨#[]⟩, .int .i64 0, .slice none 0 0]) 3 48 Try.underlying22 infoIt16 rfl (by decide) (.slice Ah Hx.length ch) Hx.length (flatI (Hx.map Prod.fst)) rfl HS.out [.string k, .int .i64 s, .slice A1 n1 c1] rfl (by intro u hu; simp at hu; rcases hu with rfl | rfl | rfl <;> rfl) _ rfl rfl (by have := HH2.out.2.2.2; have := HD.out.2.2.2.2; have := HL.out.1; have := HN.out; unfold maxLen; omega) (by have := HH2.out.2.2.2; have := HD.out.2.2.2.2; have := HL.out.1; have := HN.out; omega) ?_
                intro A5 c5 w5 hc5 hn5 hs5
                rw [HH2.out.2.1] at hs5 ⊢
                have HS5 := Lib.hid hs5
                clear hs5 hc5 hn5)
              clear hbq
              have hfull2 := HBF.out
              have hk2 : Hx2.map keyX = F.held ++ [(k, s, d)] := by rw [HH2.out.1, List.map_append, HOK.out.hk]; rfl
              have hx2 : ∀ y ∈ Hx2, y ∈ X := by
                intro y hy
                rw [HH2.out.1] at hy
                rcases List.mem_append.1 hy with h | h
                · exact HOK.out.hx y h
                · rw [List.mem_singleton.1 h]; exact HD.out.2.2.1
              have hs2 : sumK (F.held ++ [(k, s, d)]) = sumK F.held + lenK (k, s, d) := by rw [sumK_app]; simp [sumK]
              have hlk0 : lenK (keyX (⟨k, s, A1, n1, c1⟩, d)) = lenK (k, s, d) := rfl
              have hoff : offK K (i + 1) = offK K i + lenK (k, s, d) := HOFF.out
              have hus : F.S.used + ((sumK F.held : Nat) : Int) ≤ (offK K i : Nat) := by have h1 := HOK.out.inv.used; rw [if_pos HB.out] at h1; exact h1
              have hbd2 : (FM.mk F.S (F.held ++ [(k, s, d)]) F.ids 0).Bd 0 (i + 1) (offK K (i + 1)) := by
                obtain ⟨h1, h2, h3⟩ := HOK.out.inv.bd
                simp only at h1 h2 h3
                rw [if_pos HB.out] at h3
                refine ⟨by simp; omega, by show sumK (F.held ++ [(k, s, d)]) ≤ _; rw [hs2, hoff]; omega, ?_⟩
                simp only [if_true]
                rw [List.length_append, List.length_singleton]
                omega
              have hmy2 : (FM.mk F.S (F.held ++ [(k, s, d)]) F.ids 0).May := by
                intro z hz
                rcases List.mem_append.1 hz with h | h
                · exact HOK.out.inv.may z h
                · rw [List.mem_singleton.1 h]; exact HMK.out
              have e9 : flatI (Hx.map Prod.fst) ++ [Value.string k, Value.int IntKind.i64 s, Value.slice A1 n1 c1] = flatI (Hx2.map Prod.fst) := by
                rw [HH2.out.1, List.map_append, flatI_append]
                rw [show ([((⟨k, s, A1, n1, c1⟩, d) : ItX)].map Prod.fst) = [⟨k, s, A1, n1, c1⟩] from rfl, flatI_one]
                rfl
              have hs5 := HS5.out
              rw [e9] at hs5
              have hs6 : St w w5 (refP rb Af nf cf R :: ownP 44 3 (.slice A5 Hx2.length c5) Hx2.length (flatI (Hx2.map Prod.fst)) :: formP fb sb bud Xf F.ids F.bad :: storeP sb F.S :: [ownP 3 1 (.slice Ai F.ids.length ci) F.ids.length (ints F.ids)]) := hs5.mv 4 (by simp [lawL])
              obtain ⟨r, hrr⟩ : ∃ r, r = wrS F.S (F.held ++ [(k, s, d)]) := ⟨_, rfl⟩
              have hkl := HX.out.2.2.2.2.2
              have hol := offK_le K (i + 1)
              have hnl : n ≤ 200 := by have := HL.out.1; have := HN.out; omega
              have hrl := HOK.out.runs
              have hil := HD.out.2.2.2.2
              have hfe := HOK.out.fails
              have hro := HOK.out.room
              have hwr := HOK.out.inv.bd.2.2
              simp only at hrl hfe hro hwr
              have hfl := St.ref_flush hs6 HOK.out.sim (by omega) (by rw [hfe]; exact HFL.out.1) (by rw [hfe]; exact HFL.out.2.1) (by have := HFL.out.2.2.2.2; omega) A5 Hx2.length c5 Hx2 rfl (fun u hu => ⟨hu.own_rdi, fun x hx => (HX.out.2.2.1 x (hx2 x hx)).1.st hu⟩)
                (fun x hx => hmy2 _ (by show keyX x ∈ F.held ++ [(k, s, d)]; rw [← hk2]; exact List.mem_map_of_mem hx)) (by have := HH2.out.2.1; have := HH2.out.2.2.2; omega) (by rw [hk2, hs2]; have h1 := HOK.out.inv.bd.2.1; simp only at h1; omega) (by have h9 := offK_le K i; simp only; omega) (by have h9 := offK_le K i; simp only; rw [if_pos HB.out] at hwr; omega) (by rw [hro]; omega) r (by rw [hk2]; exact hrr.symm)
              have hnx : F.S.next = R.runs.length := HOK.out.sim.next
              have hG : (FM.mk F.S (F.held ++ [(k, s, d)]) F.ids 0).flush = if r.2 = 0 then FM.mk r.1 [] (F.ids ++ [F.S.next]) 0 else FM.mk r.1 (F.held ++ [(k, s, d)]) F.ids r.2 := by
                unfold FM.flush
                rw [if_pos rfl]
                simp only
                rw [← hrr]
              have hI : FInv bud (FM.mk F.S (F.held ++ [(k, s, d)]) F.ids 0).flush (i + 1) (offK K (i + 1)) := FInv.flush qb3 ⟨hbd2, hmy2, rfl, (by simp), by simp only; rw [hs2, hoff]; omega, HOK.out.inv.ids⟩ HOK.out.sim.ok (by rw [hnx]; omega)
              have hadd0 : stepF bud F (k, s, d) = ((FM.mk F.S (F.held ++ [(k, s, d)]) F.ids 0).flush, (FM.mk F.S (F.held ++ [(k, s, d)]) F.ids 0).flush.bad) := by
                unfold stepF FM.add
                have h3 := HH2.out.2.1
                have h4 := HH2.out.2.2.1
                rw [if_pos HB.out, if_pos HMK.out, if_neg (by omega), HB.out]
              rw [hG] at hI hadd0
              have HI1 := Lib.hid (And.intro hI (And.intro hadd0 (And.intro hnx (And.intro hk2 hx2))))
              have HB2 := Lib.hid (And.intro hrl (And.intro hil (And.intro hnl (And.intro hfe hro))))
              clear hfull2 hk2 hx2 hs2 hlk0 hoff hus hbd2 hmy2 e9 hs5 hs6 hrr hkl hol hnl hrl hil hfe hro hwr hnx hG hI hadd0 HS5
              refine hfl.mono ?_
              rintro e w6 ⟨rfl, R', hsm', hrl', hrf', hrr', hs7⟩
              clear hfl
              by_cases he : r.2 = 0
              · have HE := Lib.hid he
                have h9 := HI1.out
                rw [if_pos he] at h9
                rw [he]
                obtain ⟨ids2, hids⟩ : ∃ ids2, ids2 = F.ids ++ [F.S.next] := ⟨_, rfl⟩
                have hl2 : F.ids.length + 1 = ids2.length := by rw [hids]; simp
                have hil2 : F.ids.length ≤ 1000 := by have h1 := HOK.out.inv.bd.1; have := HB2.out; simp only at h1; omega
                rw [← hids] at h9
                have HI9 := Lib.hid h9
                have HIL := Lib.hid (And.intro hids (And.intro hl2 hil2))
                have HII := Lib.hid (hs7.mv 4 (by simp))
                obtain ⟨xr, _, _, _, cc2, _⟩ := hs7.ref_cells
                have e1 : IntKind.i64.wrap ((R'.runs.length : Int) - 1) = (R.runs.length : Int) := by rw [IntWalk.i64_in _ (by have := HB2.out; omega)]; omega
                have e2 : (R'.runs.length : Int) - 1 = (R.runs.length : Int) := by omega
                have qr5 : (R'.runs.length : Int) ≤ 1000 := by have := HB2.out; omega
                have HSM2 := Lib.hid (And.intro hsm' (And.intro hrl' (And.intro hrf' hrr')))
                clear he h9 hids hl2 hil2 hs7 hsm' hrl' hrf' hrr' HI1
                go_wp2_with (
                  at_builtin
                  refine wpL_push_st rfl (.tmp 93) (.tmp 100) 37 rfl 3 (.int .i64 0) 1 8 Try.underlying37 info64 rfl (by decide) (.slice Ai F.ids.length ci) F.ids.length (ints F.ids) rfl HII.out [.int .i64 (R.runs.length : Int)] rfl (by intro u hu; simp at hu; subst hu; rfl) _ rfl rfl (by have := HIL.out.2.2; unfold maxLen; omega) (by have := HIL.out.2.2; omega) ?_
                  intro A7 c7 w7 hc7 hn7 hs8
                  rw [HIL.out.2.1] at hs8 ⊢
                  have HS8 := Lib.hid hs8
                  clear hs8 hc7 hn7)
                have hids9 : ints F.ids ++ [Value.int IntKind.i64 (R.runs.length : Int)] = ints ids2 := by
                  rw [HIL.out.1, HI9.out.2.2.1]
                  simp [ints]
                have HFS : Hid (FSt w w7 (lawL rb nf cf Af ⟨FM.mk r.1 [] ids2 0, R', [], none, 0, A7, c7⟩) fb sb bud F) := Lib.hid ⟨Xf, HXF.out, by
                  have h1 := HS8.out
                  rw [hids9] at h1
                  have h2 := (((h1.mv 2 (by simp)).tail.mv 3 (by simp)).mv 3 (by simp))
                  exact (h2.nil 44 3).nth3.nth3⟩
                have hlk : LawOk bud room fl X (i + 1) (offK K (i + 1)) ⟨FM.mk r.1 [] ids2 0, R', [], none, 0, A7, c7⟩ :=
                  ⟨HI9.out.1, HSM2.out.1, by show R'.fails = fl; rw [HSM2.out.2.2.1]; exact HB2.out.2.2.2.1, by show R'.room = _; rw [HSM2.out.2.2.2]; exact HB2.out.2.2.2.2, rfl, (fun y hy => by cases hy), by show R'.runs.length ≤ _; have := HB2.out.1; have := HSM2.out.2.1; omega⟩
                have hadd : stepF bud F (k, s, d) = (FM.mk r.1 [] ids2 0, 0) := HI9.out.2.1
                clear hids9 cc2 e1 e2 qr5
                have HLK := Lib.hid hlk
                have HADD := Lib.hid hadd
                clear hlk hadd
                refine (ref_own w7 (some ⟨ba, o + i * 3, none⟩) 1 (c - i) [(⟨k, s, A1, n1, c1⟩, d)] rfl (.inr ⟨ba, o + i * 3, rfl, fun j t hj ht => ?_⟩) (fun z hz => ?_) (by omega)).mono ?_
                · have hj0 : j = 0 := by simpa using hj
                  subst hj0
                  have e0 := old_cell HC.out.1 HFS.out.st.keep
                  have e1 := old_cell HC.out.2.1 HFS.out.st.keep
                  have e2 := old_cell HC.out.2.2 HFS.out.st.keep
                  rcases t with _ | _ | _ | t
                  · exact e0
                  · exact e1
                  · exact e2
                  · omega
                · rw [List.mem_singleton.1 hz]
                  exact ⟨HD.out.1.1.st HFS.out.st, HD.out.1.2⟩
                rintro e w8 ⟨A8, c8, Y, rfl, hY, hs8⟩
                have hYl : Y.length = 1 := by have := congrArg List.length hY; simpa using this
                have HF8 : Hid (FSt w w8 (itsP A8 c8 Y :: lawL rb nf cf Af ⟨(FM.mk r.1 [] ids2 0), R', ([] : List ItX), (none : Option Addr), 0, A7, c7⟩) fb sb bud F) := Lib.hid (HFS.out.put (fun q hq => hq.lift hs8))
                have HYL := Lib.hid (And.intro hY hYl)
                clear hs8 hY hYl HFS
                go_wp2_with fail
                have hal := FSt.addL HF8.out A8 Y.length c8 Y rfl (fun w' h => ⟨h.its_rd, h.its_dat⟩) 0 i (offK K i) HOK.out.inv.bd HOK.out.inv.may (by have := HYL.out.2; have := HD.out.2.2.2.2; have := HL.out.1; have := HN.out; omega) (by
                  rw [HYL.out.1]
                  have h1 := offK_succ HD.out.2.1
                  have h2 := offK_le K (i + 1)
                  have h3 := HX.out.2.2.2.2.2
                  have e9 : sumK ([((⟨k, s, A1, n1, c1⟩, d) : ItX)].map keyX) = lenK (k, s, d) := by simp [sumK, keyX]
                  have e10 : lenK (keyX (⟨k, s, A1, n1, c1⟩, d)) = lenK (k, s, d) := rfl
                  rw [e9]
                  omega) (by omega)
                rw [HYL.out.1, show [((⟨k, s, A1, n1, c1⟩, d) : ItX)].map keyX = [(k, s, d)] from rfl, addL_one, HADD.out] at hal
                refine hal.mono ?_
                rintro e w9 ⟨rfl, hf9⟩
                have HF9 := Lib.hid hf9.drop
                clear hal hf9 HF8
                go_wp2_with fail
                refine HF9.out.heldC.mono ?_
                rintro e w10 ⟨rfl, rfl⟩
                have hhl : (FM.mk r.1 [] ids2 0).held.length = ([] : List ItX).length := by have h1 := HLK.out.hk; rw [← h1, List.length_map]
                rw [hhl]
                clear hhl
                go_wp2_with fail
                go_roundw
                case rel => exact ⟨i + 1, ⟨(FM.mk r.1 [] ids2 0), R', ([] : List ItX), (none : Option Addr), 0, A7, c7⟩, HD.out.2.2.2.2, rfl, rfl, rfl, by go_num, HF9, HLK⟩
                case measure => have := HD.out.2.2.2.2; simp [intOf]; omega
              · have HE := Lib.hid he
                have h9 := HI1.out
                rw [if_neg he] at h9
                have HI9 := Lib.hid h9
                have HSM2 := Lib.hid (And.intro hsm' (And.intro hrl' (And.intro hrf' hrr')))
                have HFS : Hid (FSt w w6 (lawL rb nf cf Af ⟨FM.mk r.1 (F.held ++ [(k, s, d)]) F.ids r.2, R', Hx2, A5, c5, Ai, ci⟩) fb sb bud F) := Lib.hid ⟨Xf, HXF.out, hs7.rot.nth3.nth3⟩
                have hlk : LawOk bud room fl X (i + 1) (offK K (i + 1)) ⟨FM.mk r.1 (F.held ++ [(k, s, d)]) F.ids r.2, R', Hx2, A5, c5, Ai, ci⟩ :=
                  ⟨HI9.out.1, HSM2.out.1, by show R'.fails = fl; rw [HSM2.out.2.2.1]; exact HB2.out.2.2.2.1, by show R'.room = _; rw [HSM2.out.2.2.2]; exact HB2.out.2.2.2.2, HI9.out.2.2.2.1, HI9.out.2.2.2.2, by show R'.runs.length ≤ _; have := HB2.out.1; have := HSM2.out.2.1; omega⟩
                have hadd : stepF bud F (k, s, d) = (FM.mk r.1 (F.held ++ [(k, s, d)]) F.ids r.2, r.2) := HI9.out.2.1
                clear h9 hs7 hsm' hrl' hrf' hrr' HI1
                have HLK := Lib.hid hlk
                have HADD := Lib.hid hadd
                clear hlk hadd
                go_wp2_with fail
                refine (ref_own w6 (some ⟨ba, o + i * 3, none⟩) 1 (c - i) [(⟨k, s, A1, n1, c1⟩, d)] rfl (.inr ⟨ba, o + i * 3, rfl, fun j t hj ht => ?_⟩) (fun z hz => ?_) (by omega)).mono ?_
                · have hj0 : j = 0 := by simpa using hj
                  subst hj0
                  have e0 := old_cell HC.out.1 HFS.out.st.keep
                  have e1 := old_cell HC.out.2.1 HFS.out.st.keep
                  have e2 := old_cell HC.out.2.2 HFS.out.st.keep
                  rcases t with _ | _ | _ | t
                  · exact e0
                  · exact e1
                  · exact e2
                  · omega
                · rw [List.mem_singleton.1 hz]
                  exact ⟨HD.out.1.1.st HFS.out.st, HD.out.1.2⟩
                rintro e w8 ⟨A8, c8, Y, rfl, hY, hs8⟩
                have hYl : Y.length = 1 := by have := congrArg List.length hY; simpa using this
                have HF8 : Hid (FSt w w8 (itsP A8 c8 Y :: lawL rb nf cf Af ⟨(FM.mk r.1 (F.held ++ [(k, s, d)]) F.ids r.2), R', Hx2, A5, c5, Ai, ci⟩) fb sb bud F) := Lib.hid (HFS.out.put (fun q hq => hq.lift hs8))
                have HYL := Lib.hid (And.intro hY hYl)
                clear hs8 hY hYl HFS
                go_wp2_with fail
                have hal := FSt.addL HF8.out A8 Y.length c8 Y rfl (fun w' h => ⟨h.its_rd, h.its_dat⟩) 0 i (offK K i) HOK.out.inv.bd HOK.out.inv.may (by have := HYL.out.2; have := HD.out.2.2.2.2; have := HL.out.1; have := HN.out; omega) (by
                  rw [HYL.out.1]
                  have h1 := offK_succ HD.out.2.1
                  have h2 := offK_le K (i + 1)
                  have h3 := HX.out.2.2.2.2.2
                  have e9 : sumK ([((⟨k, s, A1, n1, c1⟩, d) : ItX)].map keyX) = lenK (k, s, d) := by simp [sumK, keyX]
                  have e10 : lenK (keyX (⟨k, s, A1, n1, c1⟩, d)) = lenK (k, s, d) := rfl
                  rw [e9]
                  omega) (by omega)
                rw [HYL.out.1, show [((⟨k, s, A1, n1, c1⟩, d) : ItX)].map keyX = [(k, s, d)] from rfl, addL_one, HADD.out] at hal
                refine hal.mono ?_
                rintro e w9 ⟨rfl, hf9⟩
                have HF9 := Lib.hid hf9.drop
                clear hal hf9 HF8
                go_wp2_with fail
                refine HF9.out.heldC.mono ?_
                rintro e w10 ⟨rfl, rfl⟩
                have hhl : (FM.mk r.1 (F.held ++ [(k, s, d)]) F.ids r.2).held.length = Hx2.length := by have h1 := HLK.out.hk; rw [← h1, List.length_map]
                rw [hhl]
                clear hhl
                go_wp2_with fail
                go_roundw
                case rel => exact ⟨i + 1, ⟨(FM.mk r.1 (F.held ++ [(k, s, d)]) F.ids r.2), R', Hx2, A5, c5, Ai, ci⟩, HD.out.2.2.2.2, rfl, rfl, rfl, by go_num, HF9, HLK⟩
                case measure => have := HD.out.2.2.2.2; simp [intOf]; omega
            · have HBF := Lib.hid hbf
              have hbq : ((Hx2.length : Int) == bud) = false := by simpa using hbf
              clear hbf
              go_wp2_with (
                at_builtin
                refine wpL_push_st rfl (.tmp 76) (.tmp 81) 22 rfl 44 (.agg #[.string ⟨#[]⟩, .int .i64 0, .slice none 0 0]) 3 48 Try.underlying22 infoIt16 rfl (by decide) (.slice Ah Hx.length ch) Hx.length (flatI (Hx.map Prod.fst)) rfl HS.out [.string k, .int .i64 s, .slice A1 n1 c1] rfl (by intro u hu; simp at hu; rcases hu with rfl | rfl | rfl <;> rfl) _ rfl rfl (by have := HH2.out.2.2.2; have := HD.out.2.2.2.2; have := HL.out.1; have := HN.out; unfold maxLen; omega) (by have := HH2.out.2.2.2; have := HD.out.2.2.2.2; have := HL.out.1; have := HN.out; omega) ?_
                intro A5 c5 w5 hc5 hn5 hs5
                rw [HH2.out.2.1] at hs5 ⊢
                have HS5 := Lib.hid hs5
                clear hs5 hc5 hn5)
              clear hbq
              have hfull2 := HBF.out
              have hk2 : Hx2.map keyX = F.held ++ [(k, s, d)] := by rw [HH2.out.1, List.map_append, HOK.out.hk]; rfl
              have hx2 : ∀ y ∈ Hx2, y ∈ X := by
                intro y hy
                rw [HH2.out.1] at hy
                rcases List.mem_append.1 hy with h | h
                · exact HOK.out.hx y h
                · rw [List.mem_singleton.1 h]; exact HD.out.2.2.1
              have hs2 : sumK (F.held ++ [(k, s, d)]) = sumK F.held + lenK (k, s, d) := by rw [sumK_app]; simp [sumK]
              have hlk0 : lenK (keyX (⟨k, s, A1, n1, c1⟩, d)) = lenK (k, s, d) := rfl
              have hoff : offK K (i + 1) = offK K i + lenK (k, s, d) := HOFF.out
              have hus : F.S.used + ((sumK F.held : Nat) : Int) ≤ (offK K i : Nat) := by have h1 := HOK.out.inv.used; rw [if_pos HB.out] at h1; exact h1
              have hbd2 : (FM.mk F.S (F.held ++ [(k, s, d)]) F.ids 0).Bd 0 (i + 1) (offK K (i + 1)) := by
                obtain ⟨h1, h2, h3⟩ := HOK.out.inv.bd
                simp only at h1 h2 h3
                rw [if_pos HB.out] at h3
                refine ⟨by simp; omega, by show sumK (F.held ++ [(k, s, d)]) ≤ _; rw [hs2, hoff]; omega, ?_⟩
                simp only [if_true]
                rw [List.length_append, List.length_singleton]
                omega
              have hmy2 : (FM.mk F.S (F.held ++ [(k, s, d)]) F.ids 0).May := by
                intro z hz
                rcases List.mem_append.1 hz with h | h
                · exact HOK.out.inv.may z h
                · rw [List.mem_singleton.1 h]; exact HMK.out
              have hlt : ((F.held.length + 1 : Nat) : Int) < bud := by
                have h1 := HOK.out.inv.held HB.out
                simp only at h1
                have h2 := HH2.out.2.1
                have h3 := HH2.out.2.2.1
                omega
              have hadd : stepF bud F (k, s, d) = (FM.mk F.S (F.held ++ [(k, s, d)]) F.ids 0, 0) := by
                unfold stepF FM.add
                rw [if_pos HB.out, if_pos HMK.out, if_pos hlt, HB.out]
              have hlk : LawOk bud room fl X (i + 1) (offK K (i + 1)) ⟨FM.mk F.S (F.held ++ [(k, s, d)]) F.ids 0, R, Hx2, A5, c5, Ai, ci⟩ :=
                ⟨⟨hbd2, hmy2, (fun _ => by show ((F.held ++ [(k, s, d)]).length : Int) < bud; rw [List.length_append, List.length_singleton]; exact hlt), by simp only [if_true]; rw [hs2, hoff]; omega, HOK.out.inv.ids⟩, HOK.out.sim, HOK.out.fails, HOK.out.room, hk2, hx2, by have := HOK.out.runs; simp only at this ⊢; omega⟩
              have HFS : Hid (FSt w w5 (lawL rb nf cf Af ⟨FM.mk F.S (F.held ++ [(k, s, d)]) F.ids 0, R, Hx2, A5, c5, Ai, ci⟩) fb sb bud F) := Lib.hid ⟨Xf, HXF.out, by
                have h1 := HS5.out.nth3.nth3
                have e9 : flatI (Hx.map Prod.fst) ++ [Value.string k, Value.int IntKind.i64 s, Value.slice A1 n1 c1] = flatI (Hx2.map Prod.fst) := by
                  rw [HH2.out.1, List.map_append, flatI_append]
                  rw [show ([((⟨k, s, A1, n1, c1⟩, d) : ItX)].map Prod.fst) = [⟨k, s, A1, n1, c1⟩] from rfl, flatI_one]
                  rfl
                rw [e9] at h1
                exact h1⟩
              clear hfull2 hk2 hx2 hs2 hlk0 hoff hus hbd2 hmy2 hlt
              have HLK := Lib.hid hlk
              have HADD := Lib.hid hadd
              clear hlk hadd
              refine (ref_own w5 (some ⟨ba, o + i * 3, none⟩) 1 (c - i) [(⟨k, s, A1, n1, c1⟩, d)] rfl (.inr ⟨ba, o + i * 3, rfl, fun j t hj ht => ?_⟩) (fun z hz => ?_) (by omega)).mono ?_
              · have hj0 : j = 0 := by simpa using hj
                subst hj0
                have e0 := old_cell HC.out.1 HFS.out.st.keep
                have e1 := old_cell HC.out.2.1 HFS.out.st.keep
                have e2 := old_cell HC.out.2.2 HFS.out.st.keep
                rcases t with _ | _ | _ | t
                · exact e0
                · exact e1
                · exact e2
                · omega
              · rw [List.mem_singleton.1 hz]
                exact ⟨HD.out.1.1.st HFS.out.st, HD.out.1.2⟩
              rintro e w8 ⟨A8, c8, Y, rfl, hY, hs8⟩
              have hYl : Y.length = 1 := by have := congrArg List.length hY; simpa using this
              have HF8 : Hid (FSt w w8 (itsP A8 c8 Y :: lawL rb nf cf Af ⟨(FM.mk F.S (F.held ++ [(k, s, d)]) F.ids 0), R, Hx2, A5, c5, Ai, ci⟩) fb sb bud F) := Lib.hid (HFS.out.put (fun q hq => hq.lift hs8))
              have HYL := Lib.hid (And.intro hY hYl)
              clear hs8 hY hYl HFS
              go_wp2_with fail
              have hal := FSt.addL HF8.out A8 Y.length c8 Y rfl (fun w' h => ⟨h.its_rd, h.its_dat⟩) 0 i (offK K i) HOK.out.inv.bd HOK.out.inv.may (by have := HYL.out.2; have := HD.out.2.2.2.2; have := HL.out.1; have := HN.out; omega) (by
                rw [HYL.out.1]
                have h1 := offK_succ HD.out.2.1
                have h2 := offK_le K (i + 1)
                have h3 := HX.out.2.2.2.2.2
                have e9 : sumK ([((⟨k, s, A1, n1, c1⟩, d) : ItX)].map keyX) = lenK (k, s, d) := by simp [sumK, keyX]
                have e10 : lenK (keyX (⟨k, s, A1, n1, c1⟩, d)) = lenK (k, s, d) := rfl
                rw [e9]
                omega) (by omega)
              rw [HYL.out.1, show [((⟨k, s, A1, n1, c1⟩, d) : ItX)].map keyX = [(k, s, d)] from rfl, addL_one, HADD.out] at hal
              refine hal.mono ?_
              rintro e w9 ⟨rfl, hf9⟩
              have HF9 := Lib.hid hf9.drop
              clear hal hf9 HF8
              go_wp2_with fail
              refine HF9.out.heldC.mono ?_
              rintro e w10 ⟨rfl, rfl⟩
              have hhl : (FM.mk F.S (F.held ++ [(k, s, d)]) F.ids 0).held.length = Hx2.length := by have h1 := HLK.out.hk; rw [← h1, List.length_map]
              rw [hhl]
              clear hhl
              go_wp2_with fail
              go_roundw
              case rel => exact ⟨i + 1, ⟨(FM.mk F.S (F.held ++ [(k, s, d)]) F.ids 0), R, Hx2, A5, c5, Ai, ci⟩, HD.out.2.2.2.2, rfl, rfl, rfl, by go_num, HF9, HLK⟩
              case measure => have := HD.out.2.2.2.2; simp [intOf]; omega
        · have hadd : stepF bud F (k, s, d) = (F, F.bad) := by unfold stepF; rw [if_neg hb]
          have hlk : LawOk bud room fl X (i + 1) (offK K (i + 1)) ⟨F, R, Hx, Ah, ch, Ai, ci⟩ := HOK.out.mono (by omega) (by have := HOFF.out; omega)
          have HB := Lib.hid hb
          clear hn1
          have HLK := Lib.hid hlk
          have HADD := Lib.hid hadd
          clear hlk hadd
          go_wp2_with fail
          refine (ref_own wr (some ⟨ba, o + i * 3, none⟩) 1 (c - i) [(⟨k, s, A1, n1, c1⟩, d)] rfl (.inr ⟨ba, o + i * 3, rfl, fun j t hj ht => ?_⟩) (fun z hz => ?_) (by omega)).mono ?_
          · have hj0 : j = 0 := by simpa using hj
            subst hj0
            have e0 := old_cell HC.out.1 HFS.out.st.keep
            have e1 := old_cell HC.out.2.1 HFS.out.st.keep
            have e2 := old_cell HC.out.2.2 HFS.out.st.keep
            rcases t with _ | _ | _ | t
            · exact e0
            · exact e1
            · exact e2
            · omega
          · rw [List.mem_singleton.1 hz]
            exact ⟨HD.out.1.1.st HFS.out.st, HD.out.1.2⟩
          rintro e w8 ⟨A8, c8, Y, rfl, hY, hs8⟩
          have hYl : Y.length = 1 := by have := congrArg List.length hY; simpa using this
          have HF8 : Hid (FSt w w8 (itsP A8 c8 Y :: lawL rb nf cf Af ⟨F, R, Hx, Ah, ch, Ai, ci⟩) fb sb bud F) := Lib.hid (HFS.out.put (fun q hq => hq.lift hs8))
          have HYL := Lib.hid (And.intro hY hYl)
          clear hs8 hY hYl HFS
          go_wp2_with fail
          have hal := FSt.addL HF8.out A8 Y.length c8 Y rfl (fun w' h => ⟨h.its_rd, h.its_dat⟩) 0 i (offK K i) HOK.out.inv.bd HOK.out.inv.may (by have := HYL.out.2; have := HD.out.2.2.2.2; have := HL.out.1; have := HN.out; omega) (by
            rw [HYL.out.1]
            have h1 := offK_succ HD.out.2.1
            have h2 := offK_le K (i + 1)
            have h3 := HX.out.2.2.2.2.2
            have e9 : sumK ([((⟨k, s, A1, n1, c1⟩, d) : ItX)].map keyX) = lenK (k, s, d) := by simp [sumK, keyX]
            have e10 : lenK (keyX (⟨k, s, A1, n1, c1⟩, d)) = lenK (k, s, d) := rfl
            rw [e9]
            omega) (by omega)
          rw [HYL.out.1, show [((⟨k, s, A1, n1, c1⟩, d) : ItX)].map keyX = [(k, s, d)] from rfl, addL_one, HADD.out] at hal
          refine hal.mono ?_
          rintro e w9 ⟨rfl, hf9⟩
          have HF9 := Lib.hid hf9.drop
          clear hal hf9 HF8
          go_wp2_with fail
          refine HF9.out.heldC.mono ?_
          rintro e w10 ⟨rfl, rfl⟩
          have hhl : F.held.length = Hx.length := by have h1 := HLK.out.hk; rw [← h1, List.length_map]
          rw [hhl]
          clear hhl
          go_wp2_with fail
          go_roundw
          case rel => exact ⟨i + 1, ⟨F, R, Hx, Ah, ch, Ai, ci⟩, HD.out.2.2.2.2, rfl, rfl, rfl, by go_num, HF9, HLK⟩
          case measure => have := HD.out.2.2.2.2; simp [intOf]; omega
      · have hin : n = i := by omega
        subst hin
        have hno := offK_le K n
        have hkl := HX.out.2.2.2.2.2
        have hnl : n ≤ 200 := by have := HL.out.1; have := HN.out; omega
        have hrl : R.runs.length ≤ n := HOK.out.runs
        have hfit : F.Fit := (HOK.out.inv.bd.fit HOK.out.inv.may (by omega) (by omega) (by omega)).1
        have hsm : Sim F.S R := HOK.out.sim
        have hgi : FInv bud F.shut n (offK K n) := FInv.shut qb3 HOK.out.inv hsm.ok (by rw [hsm.next]; omega)
        have hgl : F.shut.ids.length ≤ 1000000 := by have h1 := hgi.bd.1; omega
        have hhl : F.held.length = Hx.length := by have h1 := HOK.out.hk; rw [← h1, List.length_map]
        obtain ⟨bb, hbb⟩ : ∃ bb, bb = (decide (F.bad = 0) && decide (0 < Hx.length)) := ⟨_, rfl⟩
        have HBB := Lib.hid hbb
        have HFI := Lib.hid (And.intro hfit (And.intro hgl (And.intro hgi (And.intro hhl (And.intro hno (And.intro hkl (And.intro hnl hrl)))))))
        clear hlt hi hno hkl hnl hrl hfit hsm hgi hgl hhl hbb
        go_upto_region 25 with fail
        go_cut [125] from 119 to 124 (fun c wx => c = .bool bb ∧ wx = wr)
        case first =>
          by_cases hb : F.bad = 0
          · have HB := Lib.hid hb
            have hbq : (F.bad == 0) = true := by simpa using hb
            clear hb
            by_cases hh : 0 < Hx.length
            · have q4 : (0 : Int) < (Hx.length : Int) := by omega
              have HH := Lib.hid hh
              clear hh
              go_wp2_with fail
              go_meet
              case rel => exact ⟨by rw [HBB.out, decide_eq_true HB.out, decide_eq_true HH.out]; rfl, rfl⟩
            · have q4 : ¬ (0 : Int) < (Hx.length : Int) := by omega
              have HH := Lib.hid hh
              clear hh
              go_wp2_with fail
              go_meet
              case rel => exact ⟨by rw [HBB.out, decide_eq_true HB.out, decide_eq_false HH.out]; rfl, rfl⟩
          · have HB := Lib.hid hb
            have hbq : (F.bad == 0) = false := by simpa using hb
            clear hb
            go_wp2_with fail
            go_meet
            case rel => exact ⟨by rw [HBB.out, decide_eq_false HB.out]; rfl, rfl⟩
        case rest =>
          obtain ⟨rfl, rfl⟩ := hcut
          obtain ⟨G, hG⟩ : ∃ G, G = F.shut := ⟨_, rfl⟩
          have HG := Lib.hid hG
          clear hG
          go_upto_if 125 with fail
          go_cut [14, 15] from 126 to 137 (fun v14 v15 wx => ∃ (Aq : Option Addr) (cq : Nat) (idq : List Int) (Rq : RefM), v14 = .slice Aq idq.length cq ∧ v15 = .int .i64 G.bad ∧ Hid (FSt w wx [ownP 3 1 (.slice Aq idq.length cq) idq.length (ints idq), refP rb Af nf cf Rq] fb sb bud F) ∧ Hid (Sim G.S Rq ∧ (G.bad = 0 → G.ids = idq)))
          case first =>
            cases bb with
            | false =>
              have hgf : G = F := by
                rw [HG.out]
                refine FM.shut_no (fun h => ?_)
                have h1 := HBB.out
                rw [decide_eq_true h] at h1
                have h2 := of_decide_eq_false (by simpa using h1.symm : decide (0 < Hx.length) = false)
                have h3 := HFI.out.2.2.2.1
                exact List.eq_nil_of_length_eq_zero (by omega)
              have HGF := Lib.hid hgf
              clear hgf
              go_wp2_with fail
              go_meet
              case rel =>
                refine ⟨Ai, ci, F.ids, R, rfl, by rw [HGF.out], Lib.hid HFS.out.drop, Lib.hid ?_⟩
                rw [HGF.out]
                exact ⟨HOK.out.sim, fun _ => rfl⟩
            | true =>
              have hb2 : F.bad = 0 ∧ 0 < Hx.length := by have h1 := HBB.out; simp at h1; exact h1
              have hgf : G = F.flush := by
                rw [HG.out]
                refine FM.shut_yes hb2.1 (fun h => ?_)
                have h3 := HFI.out.2.2.2.1
                rw [h] at h3
                have h4 := hb2.2
                simp at h3
                omega
              have HGF := Lib.hid hgf
              obtain ⟨Xf, hXf, hS⟩ := HFS.out
              have hs6 : St w wc (refP rb Af nf cf R :: ownP 44 3 (.slice Ah Hx.length ch) Hx.length (flatI (Hx.map Prod.fst)) :: formP fb sb bud Xf F.ids F.bad :: storeP sb F.S :: [ownP 3 1 (.slice Ai F.ids.length ci) F.ids.length (ints F.ids)]) := (hS.mv 2 (by simp [lawL])).mv 4 (by simp [lawL])
              obtain ⟨r, hrr⟩ : ∃ r, r = wrS F.S F.held := ⟨_, rfl⟩
              have hfe : R.fails = fl := HOK.out.fails
              have hro : R.room = max room 0 := HOK.out.room
              have hwr : F.S.writes + (if F.bad = 0 then F.held.length else 0 : Nat) ≤ 0 + n := HOK.out.inv.bd.2.2
              have hus : F.S.used + ((if F.bad = 0 then sumK F.held else 0 : Nat) : Int) ≤ (offK K n : Nat) := HOK.out.inv.used
              rw [if_pos hb2.1] at hwr hus
              have hk9 : Hx.map keyX = F.held := HOK.out.hk
              have hh9 : Hx.length ≤ n := by have h1 := HOK.out.inv.bd.1; have h2 := HFI.out.2.2.2.1; simp only at h1; omega
              have hm9 : sumK F.held ≤ offK K n := HOK.out.inv.bd.2.1
              have hb9 := HFI.out.2.2.2.2
              have hfl := St.ref_flush hs6 HOK.out.sim (by omega) (by rw [hfe]; exact HFL.out.1) (by rw [hfe]; exact HFL.out.2.1) (by have := HFL.out.2.2.2.2; omega) Ah Hx.length ch Hx rfl (fun u hu => ⟨hu.own_rdi, fun x hx => (HX.out.2.2.1 x (HOK.out.hx x hx)).1.st hu⟩)
                (fun x hx => HOK.out.inv.may _ (by show keyX x ∈ F.held; rw [← hk9]; exact List.mem_map_of_mem hx)) (by omega) (by rw [hk9]; omega) (by simp only; omega) (by simp only; omega) (by rw [hro]; omega) r (by rw [hk9]; exact hrr.symm)
              have hgb : G.bad = r.2 ∧ G.S = r.1 ∧ (r.2 = 0 → G.ids = F.ids ++ [F.S.next]) := by
                rw [hgf]
                unfold FM.flush
                rw [if_pos hb2.1, ← hrr]
                simp only
                split
                · rename_i h0
                  exact ⟨h0.symm, rfl, fun _ => rfl⟩
                · rename_i h0
                  exact ⟨rfl, rfl, fun h => absurd h h0⟩
              have hnx : F.S.next = R.runs.length := HOK.out.sim.next
              have HGB := Lib.hid (And.intro hgb hnx)
              have HXF := Lib.hid hXf
              have hil2 : F.ids.length ≤ 1000 := by have h1 := HOK.out.inv.bd.1; simp only at h1; omega
              obtain ⟨ids2, hids⟩ : ∃ ids2, ids2 = F.ids ++ [F.S.next] := ⟨_, rfl⟩
              have hl2 : F.ids.length + 1 = ids2.length := by rw [hids]; simp
              have HIL := Lib.hid (And.intro hids (And.intro hl2 hil2))
              clear hb2 hgf hXf hS hs6 hrr hfe hro hwr hus hk9 hh9 hm9 hb9 hgb hnx hil2 hids hl2
              go_wp2_with fail
              refine hfl.mono ?_
              rintro e w6 ⟨rfl, R', hsm', hrl', hrf', hrr', hs7⟩
              clear hfl
              have HII := Lib.hid (hs7.mv 4 (by simp))
              obtain ⟨xr, _, _, _, cc2, _⟩ := hs7.ref_cells
              have e1 : IntKind.i64.wrap ((R'.runs.length : Int) - 1) = (R.runs.length : Int) := by rw [IntWalk.i64_in _ (by have := HFI.out; omega)]; omega
              have e2 : (R'.runs.length : Int) - 1 = (R.runs.length : Int) := by omega
              have qr5 : (R'.runs.length : Int) ≤ 1000 := by have := HFI.out; omega
              have HSM2 := Lib.hid hsm'
              clear hs7 hsm' hrl' hrf' hrr'
              go_wp2_with (
                at_builtin
                refine wpL_push_st rfl (.tmp 129) (.tmp 136) 37 rfl 3 (.int .i64 0) 1 8 Try.underlying37 info64 rfl (by decide) (.slice Ai F.ids.length ci) F.ids.length (ints F.ids) rfl HII.out [.int .i64 (R.runs.length : Int)] rfl (by intro u hu; simp at hu; subst hu; rfl) _ rfl rfl (by have := HIL.out.2.2; unfold maxLen; omega) (by have := HIL.out.2.2; omega) ?_
                intro A7 c7 w7 hc7 hn7 hs8
                rw [HIL.out.2.1] at hs8 ⊢
                have HS8 := Lib.hid hs8
                clear hs8 hc7 hn7)
              go_meet
              case rel =>
                refine ⟨A7, c7, ids2, R', rfl, by rw [HGB.out.1.1], Lib.hid ⟨Xf, HXF.out, ?_⟩, Lib.hid ⟨by rw [HGB.out.1.2.1]; exact HSM2.out, fun h => ?_⟩⟩
                · have h1 := HS8.out
                  rw [show ints F.ids ++ [Value.int IntKind.i64 (R.runs.length : Int)] = ints ids2 by rw [HIL.out.1, HGB.out.2]; simp [ints]] at h1
                  exact (h1.sel [3, 4, 0, 1] (by decide) (by simp))
                · rw [HIL.out.1]
                  exact HGB.out.1.2.2 (by rw [← HGB.out.1.1]; exact h)
          case rest =>
            obtain ⟨Aq, cq, idq, Rq, rfl, rfl, HQ, HGQ⟩ := hcut
            clear HFS HOK
            have HGI : Hid (FInv bud G n (offK K n)) := Lib.hid (by rw [HG.out]; exact HFI.out.2.2.1)
            have hus : Rq.used ≤ 4611686018427387904 := by have h1 := HGI.out.used; have h2 := HGQ.out.1.used; have h3 := HFI.out.2.2.2.2; omega
            have HUS := Lib.hid hus
            clear hus
            go_wp2_with fail
            refine (FSt.close HQ.out HFI.out.1 HFI.out.2.1 G HG.out).mono ?_
            rintro e w9 hcl
            unfold CloseS at hcl
            by_cases hgb : G.bad = 0
            · rw [if_pos hgb] at hcl
              obtain ⟨A9, c9, rfl, X9, hX9, hs9⟩ := hcl
              obtain rfl : idq = G.ids := (HGQ.out.2 hgb).symm
              obtain ⟨⟨A2, c2, A3, c3, rows⟩, hx, hs11⟩ := (hs9.sel [4, 1, 2, 3] (by decide) (by simp)).ref
              obtain ⟨x, hxe⟩ : ∃ x : RefW, x = ⟨A2, c2, A3, c3, rows⟩ := ⟨_, rfl⟩
              rw [← hxe] at hx hs11
              have HXE := Lib.hid hxe
              clear hxe
              have HS : Hid (St w w9 (lawS rb nf cf Af Rq x sb G.S A9 c9 Aq cq G.ids)) := Lib.hid hs11
              have HRX := Lib.hid hx
              have HGB := Lib.hid hgb
              rw [hgb]
              have HCU := Lib.hid fun u hu => lawS_used (w0 := w) (u := u) (rb := rb) (nf := nf) (cf := cf) (Af := Af) (R := Rq) (x := x) (sb := sb) (S := G.S) (A9 := A9) (c9 := c9) (Aq := Aq) (cq := cq) (ids := G.ids) hu HGQ.out.1.used
              have HCW := Lib.hid fun u hu => lawS_writes (w0 := w) (u := u) (rb := rb) (nf := nf) (cf := cf) (Af := Af) (R := Rq) (x := x) (sb := sb) (S := G.S) (A9 := A9) (c9 := c9) (Aq := Aq) (cq := cq) (ids := G.ids) hu HGQ.out.1.writes
              have HCR := Lib.hid fun u hu => lawS_ref (w0 := w) (u := u) (rb := rb) (nf := nf) (cf := cf) (Af := Af) (R := Rq) (x := x) (sb := sb) (S := G.S) (A9 := A9) (c9 := c9) (Aq := Aq) (cq := cq) (ids := G.ids) hu hx HUS.out
              clear hs9 hX9 hs11 hx hgb
              go_upto_region 29 with fail
              refine wp_region_G [] Anew (fun u => St w u (lawS rb nf cf Af Rq x sb G.S A9 c9 Aq cq G.ids)) (by kernel_rfl) (by kernel_rfl) (by kernel_rfl) Anew.refl (St.stays _ _) HS.out.drew ?_
              repeat (first
                | (refine wpG_skip (by rfl) ?_
                   simp only [Act.put, List.setIfInBounds_toArray, List.set_cons_zero, List.set_cons_succ])
                | (apply wpG_val
                   · rfl
                   · intro u hu
                     have b4 := hu.lawS4
                     clear hu
                     (go_simp <;> with_reducible rfl)
                   simp only [Act.put, List.setIfInBounds_toArray, List.set_cons_zero, List.set_cons_succ])
                | (apply wpG_call
                   · rfl
                   · intro u
                     go_simp
                     exact ⟨rfl, rfl⟩
                   · intro u hu
                     first
                       | with_reducible exact HCU.out u hu
                       | with_reducible exact HCR.out u hu
                       | with_reducible exact HCW.out u hu
                   simp only [Act.put, List.setIfInBounds_toArray, List.set_cons_zero, List.set_cons_succ]))
              refine wpG_nil ?_
              intro w10 hs10
              have HS10 := Lib.hid hs10
              clear hs10 HS HCU HCW HCR
              obtain ⟨m, hm⟩ : ∃ m, m = G.ids.length := ⟨_, rfl⟩
              have HM := Lib.hid hm
              have q4 : (m : Int) ≤ 1000000 := by have h1 := HFI.out.2.1; rw [← HG.out] at h1; omega
              rw [← hm]
              clear hm
              go_wp2_with fail
              go_loopw [20] (fun v20 wr => ∃ i : Nat, i ≤ m ∧ v20 = .int .i64 i ∧ Hid (St w wr (lawS rb nf cf Af Rq x sb G.S A9 c9 Aq cq G.ids))) (fun v20 _ => m - (intOf v20).toNat)
              case atStart => exact ⟨0, Nat.zero_le _, rfl, HS10⟩
              case round =>
                clear HS10
                obtain ⟨i, hi, rfl, HS⟩ := hrel
                by_cases hlt : i < m
                · have him : i < G.ids.length := by have := HM.out; omega
                  obtain ⟨id, hid⟩ : ∃ id, id = G.ids[i] := ⟨_, rfl⟩
                  obtain ⟨g9, hA9, c9i⟩ := HS.out.lawS_l i him
                  obtain ⟨gq, hAq, cqi⟩ := HS.out.lawS_q i him
                  subst hA9
                  subst hAq
                  rw [← hid] at c9i cqi
                  have hfn := HGI.out.ids id (by rw [hid]; exact List.getElem_mem him)
                  have hhas : Rq.has id = true := by
                    rw [HGQ.out.1.find id] at hfn
                    by_cases h : Rq.has id = true
                    · exact h
                    · rw [if_neg h] at hfn; exact absurd rfl hfn
                  have hfy := HGQ.out.1.yes hhas
                  obtain ⟨hi0, hi1, _⟩ := (RefM.has_iff Rq id).1 hhas
                  obtain ⟨j, hj⟩ : ∃ j : Nat, id = (j : Int) := ⟨id.toNat, by omega⟩
                  subst hj
                  have hrl : x.rows.length = Rq.runs.length := by have := congrArg List.length HRX.out; simpa using this
                  have hjr : j < x.rows.length := by omega
                  obtain ⟨bs, hbs⟩ : ∃ bs, bs = x.rows[j].2.2 := ⟨_, rfl⟩
                  obtain ⟨RA, hRA⟩ : ∃ RA, RA = x.rows[j].1 := ⟨_, rfl⟩
                  obtain ⟨rc, hrc⟩ : ∃ rc, rc = x.rows[j].2.1 := ⟨_, rfl⟩
                  have hfb : G.S.find (j : Int) = some bs := by
                    rw [hfy, hbs, ← HRX.out]
                    simp [List.getD_eq_getElem?_getD, hjr]
                  have hbl : bs.length ≤ 103200 := by have h1 := StoreM.find_le HGQ.out.1.ok hfb; have h2 := HGI.out.used; have h3 := HFI.out.2.2.2.2; omega
                  obtain ⟨g2, hg2, -⟩ := HS.out.lawS_row HRX.out j hjr
                  have HROW : Hid (∀ u, St w u (lawS rb nf cf Af Rq x sb G.S (some ⟨g9, 0, none⟩) c9 (some ⟨gq, 0, none⟩) cq G.ids) → u.cell? ⟨g2, j, none⟩ = some (.slice RA bs.length rc) ∧ RdV u RA (bys bs) ∧ (RA = none → bs = [])) := Lib.hid (fun u hu => by
                    obtain ⟨g, e, h1, h2, h3⟩ := hu.lawS_row HRX.out j hjr
                    rw [hg2] at e
                    cases e
                    rw [← hbs, ← hRA, ← hrc] at h1
                    rw [← hbs, ← hRA] at h2 h3
                    exact ⟨h1, h2, h3⟩)
                  have HLQ : Hid (∀ u, St w u (lawS rb nf cf Af Rq x sb G.S (some ⟨g9, 0, none⟩) c9 (some ⟨gq, 0, none⟩) cq G.ids) → u.cell? ⟨g9, i, none⟩ = some (.int .i64 (j : Int)) ∧ u.cell? ⟨gq, i, none⟩ = some (.int .i64 (j : Int)) ∧ u.cell? ⟨rb, 2, none⟩ = some (.slice (some ⟨g2, 0, none⟩) Rq.runs.length x.c2)) := Lib.hid (fun u hu => by
                    obtain ⟨g, e, h1⟩ := hu.lawS_l i him
                    obtain ⟨g', e', h1'⟩ := hu.lawS_q i him
                    cases e
                    cases e'
                    have h2 := hu.lawS2
                    rw [hg2] at h2
                    rw [hid]
                    exact ⟨h1, h1', h2⟩)
                  have q5 : (i : Int) < (m : Int) := by omega
                  have q6 : (j : Int) < (Rq.runs.length : Int) := hi1
                  have q7 : (Rq.runs.length : Int) ≤ 9223372036854775807 := by have := (St.ref_mk x HRX.out HS.out).ref_len.2; omega
                  have HB := Lib.hid (And.intro hfb (And.intro hbl hlt))
                  clear hlt him hid hfn hhas hfy hi0 hi1 hrl hjr hbs hRA hrc hfb hbl hg2 cqi
                  obtain ⟨rl, hrl⟩ : ∃ rl, rl = Rq.runs.length := ⟨_, rfl⟩
                  have HRL := Lib.hid hrl
                  rw [← hrl] at q6 q7
                  clear hrl
                  go_wp2_with fail
                  refine (St.store_read HS.out.lawS_store (j : Int) 0 1048576 bs.length 0 1048576 rfl rfl bs bs HB.out.1 (Nat.zero_le _) (by decide) (by have := HB.out.2.1; omega) (by have := HB.out.2.1; omega) (by simp)).mono ?_
                  rintro e w5 ⟨A6, c6, rfl, hc6, hn6, hs6⟩
                  have HS6 : Hid (St w w5 (ownP 5 1 (.slice A6 bs.length c6) bs.length (bys bs) :: lawS rb nf cf Af Rq x sb G.S (some ⟨g9, 0, none⟩) c9 (some ⟨gq, 0, none⟩) cq G.ids)) := Lib.hid (hs6.sel [0, 2, 3, 4, 5, 1, 6, 7] (by decide) (by simp))
                  clear hs6 hc6 hn6 c9i
                  go_upto_region 39 with fail
                  refine wp_region_G [] Anew (fun u => St w u (ownP 5 1 (.slice A6 bs.length c6) bs.length (bys bs) :: lawS rb nf cf Af Rq x sb G.S (some ⟨g9, 0, none⟩) c9 (some ⟨gq, 0, none⟩) cq G.ids)) (by kernel_rfl) (by kernel_rfl) (by kernel_rfl) Anew.refl (St.stays _ _) HS6.out.drew ?_
                  repeat (first
                    | (refine wpG_skip (by rfl) ?_
                       simp only [Act.put, List.setIfInBounds_toArray, List.set_cons_zero, List.set_cons_succ])
                    | (apply wpG_val
                       · rfl
                       · intro u hu
                         have cv1 := conv_own hu
                         obtain ⟨d1, d2, d3⟩ := HROW.out u hu.tail
                         obtain ⟨d4, d5, d6⟩ := HLQ.out u hu.tail
                         rw [← HRL.out] at d6
                         have cv2 := conv_rd (c := rc) d2 rfl (fun e => by rw [d3 e]; rfl)
                         clear hu d2 d3
                         (go_simp <;> with_reducible rfl)
                       simp only [Act.put, List.setIfInBounds_toArray, List.set_cons_zero, List.set_cons_succ]))
                  refine wpG_nil ?_
                  intro w11 hs11
                  have HS11 := Lib.hid hs11
                  clear hs11 HS6
                  go_wp2_with fail
                  go_roundw
                  case rel => exact ⟨i + 1, HB.out.2.2, by go_num, Lib.hid HS11.out.tail⟩
                  case measure => have := HB.out.2.2; simp [intOf]; omega
                · have q5 : ¬ (i : Int) < (m : Int) := by omega
                  clear hlt hi
                  go_wp2_with fail
                  refine (St.ans16 HS.out).mono ?_
                  rintro e w6 ⟨rfl, hs6⟩
                  have HS6 := Lib.hid hs6
                  clear hs6 HS
                  go_wp2_with fail
                  go_ret
                  exact ⟨rfl, HS6.out.keep⟩
            · rw [if_neg hgb] at hcl
              obtain ⟨rfl, X9, hX9, hs9⟩ := hcl
              obtain ⟨x, hx, hs11⟩ := ((((hs9.sel [3, 1] (by decide) (by simp)).nil 3 1).nil 3 1).sel [2, 3, 0, 1] (by decide) (by simp)).ref
              have HS : Hid (St w w9 (lawS rb nf cf Af Rq x sb G.S none 0 none 0 [])) := Lib.hid hs11
              have HRX := Lib.hid hx
              have HGB := Lib.hid hgb
              have hgq : (G.bad == 0) = false := by simpa using hgb
              have HCU := Lib.hid fun u hu => lawS_used (w0 := w) (u := u) (rb := rb) (nf := nf) (cf := cf) (Af := Af) (R := Rq) (x := x) (sb := sb) (S := G.S) (A9 := none) (c9 := 0) (Aq := none) (cq := 0) (ids := []) hu HGQ.out.1.used
              have HCW := Lib.hid fun u hu => lawS_writes (w0 := w) (u := u) (rb := rb) (nf := nf) (cf := cf) (Af := Af) (R := Rq) (x := x) (sb := sb) (S := G.S) (A9 := none) (c9 := 0) (Aq := none) (cq := 0) (ids := []) hu HGQ.out.1.writes
              have HCR := Lib.hid fun u hu => lawS_ref (w0 := w) (u := u) (rb := rb) (nf := nf) (cf := cf) (Af := Af) (R := Rq) (x := x) (sb := sb) (S := G.S) (A9 := none) (c9 := 0) (Aq := none) (cq := 0) (ids := []) hu hx HUS.out
              clear hs9 hX9 hs11 hx hgb
              go_upto_region 29 with fail
              refine wp_region_G [] Anew (fun u => St w u (lawS rb nf cf Af Rq x sb G.S none 0 none 0 [])) (by kernel_rfl) (by kernel_rfl) (by kernel_rfl) Anew.refl (St.stays _ _) HS.out.drew ?_
              repeat (first
                | (refine wpG_skip (by rfl) ?_
                   simp only [Act.put, List.setIfInBounds_toArray, List.set_cons_zero, List.set_cons_succ])
                | (apply wpG_val
                   · rfl
                   · intro u hu
                     have b4 := hu.lawS4
                     clear hu
                     (go_simp <;> with_reducible rfl)
                   simp only [Act.put, List.setIfInBounds_toArray, List.set_cons_zero, List.set_cons_succ])
                | (apply wpG_call
                   · rfl
                   · intro u
                     go_simp
                     exact ⟨rfl, rfl⟩
                   · intro u hu
                     first
                       | with_reducible exact HCU.out u hu
                       | with_reducible exact HCR.out u hu
                       | with_reducible exact HCW.out u hu
                   simp only [Act.put, List.setIfInBounds_toArray, List.set_cons_zero, List.set_cons_succ]))
              refine wpG_nil ?_
              intro w10 hs10
              have HS10 := Lib.hid hs10
              clear hs10 HS HCU HCW HCR
              go_wp2_with fail
              refine (St.ans16 HS10.out).mono ?_
              rintro e w6 ⟨rfl, hs6⟩
              have HS6 := Lib.hid hs6
              clear hs6 HS10
              go_wp2_with fail
              go_ret
              exact ⟨rfl, HS6.out.keep⟩
set_option maxRecDepth 100000 in
theorem runsForm_big (w : World) (a : Option Addr) (c : Nat) (L : List It) (bud room : Int) (Af : Option Addr) (nf cf : Nat) (hr : RdI w a L) (hx : ∀ x ∈ L, ItOk w x) (hl : L.length ≤ 4611686018427387904) (hnf : nf ≤ 4611686018427387904) (hs : ¬ (L.length ≤ 200 ∧ wsum L ≤ 100000) ∨ 50 < nf) :
    Calls Try.prog 8 #[.slice a L.length c, .int .i64 bud, .int .i64 room, .slice Af nf cf] w fun e w' => e = .returned (.bool true) ∧ Keep (fun b => w.heap.size ≤ b) w w' := by
  have HR := Lib.hid hr
  have HX := Lib.hid hx
  have HL := Lib.hid hl
  have HN := Lib.hid hs
  obtain ⟨lt, hlt⟩ : ∃ lt, decide (L.length ≤ 200 ∧ wsum L ≤ 100000) = lt := ⟨_, rfl⟩
  have HLT := Lib.hid hlt
  have hor : lt = false ∨ (lt = true ∧ decide ((50 : Int) < (nf : Int)) = true) := by
    cases lt with
    | false => exact .inl rfl
    | true =>
      have h1 := of_decide_eq_true hlt
      exact .inr ⟨rfl, decide_eq_true (by omega)⟩
  clear hr hx hl hs hlt hnf
  go_enter Try.func8, Try.ntmps8
  go_wp2_with fail
  refine (St.light16 (St.start w) a L.length c L lt rfl HR.out HL.out (fun x hx => (HX.out x hx).small2) HLT.out).mono ?_
  rintro e w1 ⟨rfl, hs1⟩
  have HS1 := Lib.hid hs1
  clear hs1
  rcases hor with rfl | ⟨rfl, hd⟩ <;>
  · go_wp2_with fail
    refine (St.ans16 HS1.out).mono ?_
    rintro e w10 ⟨rfl, hs10⟩
    have HS10 := Lib.hid hs10
    clear hs10
    go_wp2_with fail
    go_ret
    exact ⟨rfl, HS10.out.keep⟩
theorem runsForm_walk (w : World) (a : Option Addr) (n c : Nat) (L : List It) (hn : n = L.length) (hnc : n ≤ c) (hc : c ≤ 2932031007402) (hr : RdI w a L) (_ : a = none → L = [] ∧ c = 0) (hx : ∀ x ∈ L, ItOk w x) (bud : Int) (hb : IntKind.i64.min ≤ bud ∧ bud ≤ IntKind.i64.max) (room : Int) (ho : IntKind.i64.min ≤ room ∧ room ≤ IntKind.i64.max)
    (Af : Option Addr) (nf cf : Nat) (zs : List Int) (hz : nf = zs.length) (hcf : nf ≤ cf) (hrf : RdV w Af (zs.map (Value.int .i64))) (hnf : Af = none → zs = [] ∧ cf = 0) (_ : ∀ x ∈ zs, (Lit.int .i64 x).wf = true) (hy : nf * 8 ≤ 140737488351232) :
    Calls Try.prog 8 #[.slice a n c, .int .i64 bud, .int .i64 room, .slice Af nf cf] w fun e w' => e = .returned (.bool true) ∧ Below w.heap.size w w' := by
  subst hn
  have hmm : IntKind.i64.min = -9223372036854775808 ∧ IntKind.i64.max = 9223372036854775807 := ⟨rfl, rfl⟩
  by_cases hs : (L.length ≤ 200 ∧ wsum L ≤ 100000) ∧ nf ≤ 50
  · exact (runsForm_small w a c L bud room Af nf cf zs (by omega) (by omega) hrf hz hcf (fun e => by obtain ⟨h1, h2⟩ := hnf e; exact ⟨by rw [hz, h1]; rfl, h2⟩) hs.2 hr hnc hc hx hs.1.1 hs.1.2).mono fun e w' ⟨h1, h2⟩ => ⟨h1, h2.below (Nat.le_refl _) (fun _ _ h => h)⟩
  · exact (runsForm_big w a c L bud room Af nf cf hr hx (by omega) (by omega) (by
      by_cases h : L.length ≤ 200 ∧ wsum L ≤ 100000
      · exact .inr (by have : ¬ nf ≤ 50 := fun h2 => hs ⟨h, h2⟩; omega)
      · exact .inl h)).mono fun e w' ⟨h1, h2⟩ => ⟨h1, h2.below (Nat.le_refl _) (fun _ _ h => h)⟩
end Go.Proofs.Ytkglkpcpgdeneaa
