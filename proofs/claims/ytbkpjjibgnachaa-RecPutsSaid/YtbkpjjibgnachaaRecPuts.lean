/- RecPuts. Conditions: none. -/
import Derived.Test.YtbkpjjibgnachaaLaw13S
import Derived.Test.YtbkpjjibgnachaaRowIt
import Derived.Test.YtbkpjjibgnachaaSel
import Derived.Test.YtbkpjjibgnachaaGRec
namespace Go.Proofs.Ytbkpjjibgnachaa
open Go.RowKit

theorem ItOk.small {w : World} {x : It} (h : ItOk w x) : ItSmall x := by
  obtain ⟨⟨d, h1⟩, h2, h3⟩ := h
  have := h1.2.1
  unfold ItSmall
  omega
theorem lit1 (u : World) (x : It) (lb : Nat) (h : lb = u.heap.size) : RdI (u.alloc (Obj.cells #[.string x.k, .int .i64 x.s, .slice x.A x.n x.c] 47)) (some ⟨lb, 0, none⟩) [x] := by
  subst h
  exact RdI.of_blk (L := [x]) (Blk.new u 47 (flatI [x]))
theorem St.item {w0 w : World} {l : List Part} {g : Nat} {x : It} (h : St w0 w (blkP g 47 x.cells :: l)) : w.cell? ⟨g, 0, none⟩ = some (.string x.k) ∧ w.cell? ⟨g, 1, none⟩ = some (.int .i64 x.s) ∧ w.cell? ⟨g, 2, none⟩ = some (.slice x.A x.n x.c) :=
  ⟨h.blk.1.cell 0, h.blk.1.cell 1, h.blk.1.cell 2⟩
theorem St.boxI {w0 w : World} {l : List Part} (h : St w0 w l) (x : It) (b : Nat) (hb : b = w.heap.size) : St w0 (w.alloc (Obj.cells #[.string x.k, .int .i64 x.s, .slice x.A x.n x.c] 47)) (blkP b 47 x.cells :: l) := by
  subst hb
  exact h.box x.cells 47
set_option maxRecDepth 100000 in
set_option maxHeartbeats 4000000 in
theorem recputs_any (w : World) (x : It) (d : List UInt8) (hd : DatI w x d) (hx : ItSmall x) (A : Option Addr) (c : Nat) (M : List UInt8) (hM : M.length ≤ 140737488351232) (hr : RdV w A (bys M)) (hA : A = none → M = []) :
    Calls Try.prog 10 #[x.v, .slice A M.length c] w fun e w' => e = .returned (.bool true) ∧ Keep (fun b => w.heap.size ≤ b) w w' := by
  have HD := Lib.hid hd
  have HX := Lib.hid hx
  have HR := Lib.hid hr
  have HA := Lib.hid hA
  have HM := Lib.hid hM
  clear hd hx hr hA hM
  unfold It.v
  go_enter Try.func10, Try.ntmps10
  go_wp2_with fail
  obtain ⟨xb, hxb⟩ : ∃ xb, xb = w.heap.size := ⟨_, rfl⟩
  obtain ⟨lb, hlb⟩ : ∃ lb, lb = w.heap.size + 1 := ⟨_, rfl⟩
  have hs1 := ((St.start w).boxI x xb hxb).alloc (Obj.cells #[.string x.k, .int .i64 x.s, .slice x.A x.n x.c] 47)
  have hli := lit1 (w.alloc (Obj.cells #[.string x.k, .int .i64 x.s, .slice x.A x.n x.c] 47)) x lb (by simp [hlb])
  rw [← hlb, ← hxb]
  clear hlb hxb
  generalize (w.alloc (Obj.cells #[.string x.k, .int .i64 x.s, .slice x.A x.n x.c] 47)).alloc (Obj.cells #[.string x.k, .int .i64 x.s, .slice x.A x.n x.c] 47) = w1 at hs1 hli ⊢
  have HS1 := Lib.hid hs1
  have HLI := Lib.hid hli
  clear hs1 hli
  obtain ⟨lt, hlt⟩ : ∃ lt, decide ([x].length ≤ 200 ∧ wsum [x] ≤ 200000) = lt := ⟨_, rfl⟩
  refine (St.light13 HS1.out (some ⟨lb, 0, none⟩) 1 1 [x] lt rfl HLI.out (by simp) (fun p hp => by obtain rfl := List.mem_singleton.1 hp; exact HX.out) hlt).mono ?_
  rintro e w2 ⟨rfl, hs2⟩
  have HS2 := Lib.hid hs2
  clear hs2 HS1 HLI
  by_cases hgo : lt = true ∧ M.length ≤ 1000
  · obtain ⟨rfl, hm⟩ := hgo
    have HMM := Lib.hid hm
    have d1 : decide ((1000 : Int) < (M.length : Int)) = false := decide_eq_false (by omega)
    clear hlt hm
    obtain ⟨x0, x1, x2⟩ := HS2.out.item
    go_wp2_with fail
    cases hmay : mayI x.k x.s x.n
    · refine (St.rec_put_no HS2.out x hmay).mono ?_
      rintro e w3 ⟨rfl, hs3⟩
      have HS3 := Lib.hid hs3
      have HY := Lib.hid hmay
      clear hs3 HS2 x0 x1 x2 hmay
      obtain ⟨x0, x1, x2⟩ := HS3.out.item
      go_wp2_with fail
      refine (St.may13 HS3.out x false HY.out).mono ?_
      rintro e w4 ⟨rfl, hs4⟩
      have HS4 := Lib.hid hs4
      clear hs4 HS3 x0 x1 x2
      go_wp2_with fail
      refine (St.ans13 HS4.out).mono ?_
      rintro e w5 ⟨rfl, hs5⟩
      have HS5 := Lib.hid hs5
      clear hs5 HS4
      go_wp2_with fail
      go_ret
      exact ⟨rfl, HS5.out.keep⟩
    · have HY := Lib.hid hmay
      have hxn : x.n = d.length := HD.out.1
      have HXN := Lib.hid hxn
      obtain ⟨N, hN⟩ : ∃ N, N = itN x := ⟨_, rfl⟩
      obtain ⟨L, hL⟩ : ∃ L, L = putL x.k x.s d := ⟨_, rfl⟩
      have HN := Lib.hid hN
      have HL := Lib.hid hL
      have HNL : Hid (N = L.length ∧ N ≤ 1048792) := Lib.hid (by
        obtain ⟨m1, _, _, m4⟩ := may_parts hmay
        subst hN hL
        rw [putL_len]
        unfold itN
        omega)
      clear hmay hN hL hxn
      refine (St.rec_put HS2.out x d N L HN.out HL.out (HD.out.st HS2.out) HY.out).mono ?_
      rintro e w3 ⟨A3, c3, rfl, hc3, hs3⟩
      have HS3 := Lib.hid hs3
      clear hs3 HS2 x0 x1 x2 hc3
      obtain ⟨x0, x1, x2⟩ := HS3.out.tail.item
      go_wp2_with fail
      refine (St.may13 HS3.out x true HY.out).mono ?_
      rintro e w4 ⟨rfl, hs4⟩
      have HS4 := Lib.hid hs4
      clear hs4 HS3 x0 x1 x2
      have hn63 : N ≤ maxLen ∧ N * 1 ≤ 140737488355328 ∧ N + M.length ≤ maxLen ∧ (N + M.length) * 1 ≤ 140737488355328 := by have := HNL.out.2; have := HMM.out; unfold maxLen; omega
      have HNN := Lib.hid hn63
      clear hn63
      have hi8 : (Try.prog.info? 5).map (fun i => (i.zero, i.size, i.bytes)) = some (some (.int .u8 0), 1, 1) := infoU8
      have HI8 := Lib.hid hi8
      clear hi8
      go_wp2_with (first
        | (at_builtin
           refine wpL_fresh_st rfl (.tmp 39) (.tmp 40) 28 28 rfl 5 (.int .u8 0) 1 1 Try.underlying28 HI8.out rfl (by decide) _ rfl rfl HS4.out _ N (bys L) rfl (Src.of_rd Try.underlying28 (HS4.out.own_rdv.1.old ((Keep.refl _ _).alloc _)) N c3 (by rw [bys_length, Nat.mul_one]; exact HNL.out.1.symm) (one_bys _) HS4.out.own_rdv.2.2.2) HNN.out.1 HNN.out.2.1 ?_
           intro A5 c5 w5 _ _ hs5 _
           have HS5 := Lib.hid hs5
           clear hs5)
        | (at_builtin
           refine wpL_append_st rfl (.tmp 41) (.tmp 42) 28 28 rfl 5 (.int .u8 0) 1 1 Try.underlying28 HI8.out rfl (by decide) (.slice A5 N c5) N (bys L) rfl HS5.out (.slice A M.length c) M.length (bys M) rfl (Src.of_rd Try.underlying28 (HS5.out.rd HR.out) M.length c (by rw [bys_length, Nat.mul_one]) (one_bys _) (fun e => by rw [HA.out e]; rfl)) HNN.out.2.2.1 HNN.out.2.2.2 ?_
           intro A6 c6 w6 _ _ hs6
           rw [← bys_append] at hs6
           have HS6 := Lib.hid hs6
           clear hs6))
      obtain ⟨hn6, hb6⟩ := slb_of_own HS6.out
      refine (St.rec_get_put HS6.out A6 (N + M.length) c6 (L ++ M) M x d hn6 hb6 (by rw [HL.out]) HXN.out HY.out).mono ?_
      rintro e w7 ⟨A7, c7, rfl, hc7, hs7⟩
      rw [← HN.out]
      have HS7 := Lib.hid hs7
      clear hs7 hn6 hb6 HS6 hc7 HS5 HS4
      go_wp2_with fail
      obtain ⟨yb, hyb⟩ : ∃ yb, yb = w7.heap.size := ⟨_, rfl⟩
      have hs8 := HS7.out.boxI ⟨x.k, x.s, A7, x.n, c7⟩ yb hyb
      rw [← hyb]
      clear hyb
      generalize w7.alloc (Obj.cells #[.string x.k, .int .i64 x.s, .slice A7 x.n c7] 47) = w8 at hs8 ⊢
      have hs8' : St w w8 [blkP yb 47 (It.cells ⟨x.k, x.s, A7, x.n, c7⟩), ownP 5 1 (.slice A7 x.n c7) x.n (bys d), ownP 5 1 (.slice A3 N c3) N (bys L), blkP xb 47 x.cells] :=
        hs8.sel [0, 1, 3, 4] (by decide) (by simp)
      have HS8 : Hid (St w w8.drew [blkP yb 47 (It.cells ⟨x.k, x.s, A7, x.n, c7⟩), ownP 5 1 (.slice A7 x.n c7) x.n (bys d), ownP 5 1 (.slice A3 N c3) N (bys L), blkP xb 47 x.cells]) := Lib.hid hs8'.drew
      clear hs8 hs8' HS7
      obtain ⟨hrb, _, _, hnb⟩ := (HS8.out.sel [2] (by decide) (by simp)).own_rdv
      refine wp_region_G [8] Anew (fun u => St w u [blkP yb 47 (It.cells ⟨x.k, x.s, A7, x.n, c7⟩), ownP 5 1 (.slice A7 x.n c7) x.n (bys d), ownP 5 1 (.slice A3 N c3) N (bys L), blkP xb 47 x.cells]) (by kernel_rfl) (by kernel_rfl) (by kernel_rfl) Anew.refl (fun _ _ h k => St.later h k) HS8.out ?_
      repeat (first
        | (apply wpG_skip
           · rfl
           simp only [Act.put, List.setIfInBounds_toArray, List.set_cons_zero, List.set_cons_succ])
        | (apply wpG_val
           · rfl
           · intro u hu
             obtain ⟨x0, x1, x2⟩ := (St.sel hu [3] (by decide) (by simp)).item
             obtain ⟨y0, y1, y2⟩ := St.item hu
             have cv := conv_own (St.sel hu [2] (by decide) (by simp))
             clear hu
             (go_simp <;> with_reducible rfl)
           simp only [Act.put, List.setIfInBounds_toArray, List.set_cons_zero, List.set_cons_succ])
        | (apply wpG_call
           · rfl
           · intro u
             go_simp
             exact ⟨rfl, rfl⟩
           · intro u hu
             first
               | with_reducible exact answers13 u
           simp only [Act.put, List.setIfInBounds_toArray, List.set_cons_zero, List.set_cons_succ]))
      apply wpG_some (SliceV N L)
      · rfl
      · rfl
      · intro u
        go_simp
        exact ⟨rfl, rfl⟩
      · exact SliceV.stays N L
      · intro u hu
        exact bytes_v x d N L HN.out HL.out (HD.out.st hu) HY.out
      intro bv
      simp only [Act.put, List.setIfInBounds_toArray, List.set_cons_zero, List.set_cons_succ]
      repeat (first
        | (apply wpG_skip
           · rfl
           simp only [Act.put, List.setIfInBounds_toArray, List.set_cons_zero, List.set_cons_succ])
        | (apply wpG_val
           · rfl
           · intro u hu
             obtain ⟨x0, x1, x2⟩ := (St.sel hu.1 [3] (by decide) (by simp)).item
             obtain ⟨y0, y1, y2⟩ := St.item hu.1
             obtain ⟨A9, c9, rfl, h1, _, h3, h4⟩ := hu.2
             have cv := conv_rd (c := c9) h3 h1 h4
             clear hu h1 h3 h4
             (go_simp <;> with_reducible rfl)
           simp only [Act.put, List.setIfInBounds_toArray, List.set_cons_zero, List.set_cons_succ])
        | (apply wpG_call
           · rfl
           · intro u
             go_simp
             exact ⟨rfl, rfl⟩
           · intro u hu
             first
               | with_reducible exact same_g x ⟨x.k, x.s, A7, x.n, c7⟩ d d true (by simp [sameB]) (HD.out.st hu.1) (dat_own hu.1.tail)
           simp only [Act.put, List.setIfInBounds_toArray, List.set_cons_zero, List.set_cons_succ]))
      refine wpG_nil ?_
      intro w11 hs11
      have HS11 := Lib.hid hs11.1
      clear hs11
      go_wp2_with fail
      go_ret
      exact ⟨rfl, HS11.out.keep⟩
  · have hor : lt = false ∨ (lt = true ∧ decide ((1000 : Int) < (M.length : Int)) = true) := by
      cases lt
      · exact .inl rfl
      · exact .inr ⟨rfl, decide_eq_true (by have : ¬ M.length ≤ 1000 := fun h => hgo ⟨rfl, h⟩; omega)⟩
    clear hgo hlt
    rcases hor with rfl | ⟨rfl, d1⟩
    all_goals
      go_wp2_with fail
      refine (St.ans13 HS2.out).mono ?_
      rintro e w3 ⟨rfl, hs3⟩
      have HS3 := Lib.hid hs3
      clear hs3 HS2
      go_wp2_with fail
      go_ret
      exact ⟨rfl, HS3.out.keep⟩
theorem recPuts_walk (w : World) (x : It) (hx : ItOk w x) (A : Option Addr) (n c : Nat) (M : List UInt8) (hn : n = M.length) (_ : n ≤ c) (hr : RdV w A (bys M)) (hA : A = none → M = [] ∧ c = 0) (hy : n ≤ 140737488351232) :
    Calls Try.prog 10 #[x.v, .slice A n c] w fun e w' => e = .returned (.bool true) ∧ Below w.heap.size w w' := by
  subst hn
  obtain ⟨d, hd⟩ := hx.1
  exact (recputs_any w x d hd hx.small A c M hy hr (fun e => (hA e).1)).mono fun _ _ ⟨h1, h2⟩ => ⟨h1, h2.below (Nat.le_refl _) (fun _ _ h => h)⟩
end Go.Proofs.Ytbkpjjibgnachaa
