/- A merger; a sort by runs: what it asks of its store, what comes of it; Sort's own functions. Conditions: none. -/
import Derived.Test.YtkglkpcpgdeneaaHeaps
import Derived.Test.YtkglkpcpgdeneaaLaw16S
import Derived.Test.YtkglkpcpgdeneaaLtTwo
import Derived.OwnWalk
import Derived.Deep.RegionLaw
import Derived.RegionTactic
import Derived.BigRegion
namespace Go.Proofs.Ytkglkpcpgdeneaa
open Go.RowKit
set_option linter.unusedVariables false
set_option linter.unusedSimpArgs false

/-- A cursor of a merger: its block, its run, how far it has come. -/
structure Cu where
  b : Nat
  run : Int
  at_ : Nat
def cuP (sb : Nat) (x : Cu) : Part := blkP x.b 98 (curC (some ⟨sb, 0, none⟩) x.run x.at_)
def cuV (x : Cu) : Value := .pointer (some ⟨x.b, 0, none⟩)
/-- A merger, its cursors, the bytes of all items that were read, the store. -/
def mrgL (mb sb : Nat) (Ac : Option Addr) (cc : Nat) (pk : Int) (E : List En) (C : List Cu) (S : StoreM) (rows : List (Option Addr × Nat × List UInt8)) (l : List Part) : List Part :=
  heapP mb (.slice Ac C.length cc) (.int .i64 pk) E :: ownP 47 1 (.slice Ac C.length cc) C.length (C.map cuV) :: allP (C.map (cuP sb)) :: rdsP rows :: storeP sb S :: l
section
variable {w0 w : World} {l : List Part} {mb sb : Nat} {Ac : Option Addr} {cc : Nat} {pk : Int} {E : List En} {C : List Cu} {S : StoreM} {rows : List (Option Addr × Nat × List UInt8)}
theorem St.heap_tl {cu pv : Value} (h : St w0 w (heapP mb cu pv E :: l)) : w.cell? ⟨mb, 1, none⟩ = some cu ∧ w.cell? ⟨mb, 2, none⟩ = some pv ∧ w.frozen? ⟨mb, 1, none⟩ = false ∧ w.frozen? ⟨mb, 2, none⟩ = false := by
  obtain ⟨F, h1, _⟩ := h.open_
  obtain ⟨A, c, hB, _⟩ := h1.1.head
  exact ⟨hB.cell 1, hB.cell 2, hB.free 1, hB.free 2⟩
theorem heapAt_set1 {F : Nat → Prop} {cu pv : Value} (h : HeapAt w F mb cu pv E) (v : Value) : HeapAt (w.setCell ⟨mb, 1, none⟩ v) F mb v pv E := by
  obtain ⟨h1, v0, hB, h2⟩ := h
  refine ⟨h1, v0, hB.set 1 v, ?_⟩
  rcases h2 with h2 | ⟨g, cap, hv, hg, hr⟩
  · exact .inl h2
  · exact .inr ⟨g, cap, hv, hg, hr.keep ((Keep.refl (fun k => k = mb) w).setCell (p := ⟨mb, 1, none⟩) (.inl rfl) v) (row_ne hr hB)⟩
theorem heapAt_set2 {F : Nat → Prop} {cu pv : Value} (h : HeapAt w F mb cu pv E) (v : Value) : HeapAt (w.setCell ⟨mb, 2, none⟩ v) F mb cu v E := by
  obtain ⟨h1, v0, hB, h2⟩ := h
  refine ⟨h1, v0, hB.set 2 v, ?_⟩
  rcases h2 with h2 | ⟨g, cap, hv, hg, hr⟩
  · exact .inl h2
  · exact .inr ⟨g, cap, hv, hg, hr.keep ((Keep.refl (fun k => k = mb) w).setCell (p := ⟨mb, 2, none⟩) (.inl rfl) v) (row_ne hr hB)⟩
theorem St.heap_set1 {cu pv v : Value} (h : St w0 w (heapP mb cu pv E :: l)) : St w0 (w.setCell ⟨mb, 1, none⟩ v) (heapP mb v pv E :: l) := by
  obtain ⟨F, h1, h2, h3, _⟩ := h.open_
  have e : (w.setCell ⟨mb, 1, none⟩ v).heap.size = w.heap.size := by simp [World.setCell]
  refine h3 _ (heapP mb v pv E) ((Keep.refl F w).setCell (p := ⟨mb, 1, none⟩) (.inl h1.1.1) v) ⟨(heapAt_set1 h1.1 v).mono (fun k _ hk => .inl hk), fun j hj => ?_⟩
  rcases hj with hj | hj
  · rw [e]; exact h1.2 j hj
  · exact hj.2
theorem St.heap_set2 {cu pv v : Value} (h : St w0 w (heapP mb cu pv E :: l)) : St w0 (w.setCell ⟨mb, 2, none⟩ v) (heapP mb cu v E :: l) := by
  obtain ⟨F, h1, h2, h3, _⟩ := h.open_
  have e : (w.setCell ⟨mb, 2, none⟩ v).heap.size = w.heap.size := by simp [World.setCell]
  refine h3 _ (heapP mb cu v E) ((Keep.refl F w).setCell (p := ⟨mb, 2, none⟩) (.inl h1.1.1) v) ⟨(heapAt_set2 h1.1 v).mono (fun k _ hk => .inl hk), fun j hj => ?_⟩
  rcases hj with hj | hj
  · rw [e]; exact h1.2 j hj
  · exact hj.2
/-- One cursor, to be put back. -/
theorem St.mrg_open (h : St w0 w (mrgL mb sb Ac cc pk E C S rows l)) (n : Nat) (hn : n < C.length) :
    St w0 w (blkP C[n].b 98 (curC (some ⟨sb, 0, none⟩) C[n].run C[n].at_) :: storeP sb S :: allP ((C.map (cuP sb)).eraseIdx n) :: heapP mb (.slice Ac C.length cc) (.int .i64 pk) E :: ownP 47 1 (.slice Ac C.length cc) C.length (C.map cuV) :: rdsP rows :: l) := by
  have h1 := (h.nth3).all_open n (by simpa using hn)
  rw [List.getElem_map] at h1
  exact (h1.mv 5 (by simp)).swap
theorem St.mrg_close {n : Nat} (hn : n < C.length) {x : Cu} (hb : cuV x = cuV C[n])
    (h : St w0 w (cuP sb x :: storeP sb S :: allP ((C.map (cuP sb)).eraseIdx n) :: heapP mb (.slice Ac C.length cc) (.int .i64 pk) E :: ownP 47 1 (.slice Ac C.length cc) C.length (C.map cuV) :: rdsP rows :: l)) :
    St w0 w (mrgL mb sb Ac cc pk E (C.set n x) S rows l) := by
  have h1 : St w0 w (cuP sb x :: allP ((C.map (cuP sb)).eraseIdx n) :: storeP sb S :: heapP mb (.slice Ac C.length cc) (.int .i64 pk) E :: ownP 47 1 (.slice Ac C.length cc) C.length (C.map cuV) :: rdsP rows :: l) := h.nth3.swap
  have h2 := St.all_close (by simpa using hn) h1
  unfold mrgL
  rw [List.length_set, List.map_set, List.map_set, hb]
  have e : (C.map cuV).set n (cuV C[n]) = C.map cuV := by
    have h3 : (C.map cuV)[n]'(by simpa using hn) = cuV C[n] := by rw [List.getElem_map]
    rw [← h3, List.set_getElem_self]
  rw [e]
  exact ((((h2.mv 1 (by simp)).mv 4 (by simp)).mv 2 (by simp)).mv 4 (by simp)).mv 4 (by simp)
set_option maxRecDepth 100000 in
set_option maxHeartbeats 3000000 in
theorem pull_yes (h : St w0 w (mrgL mb sb Ac cc pk E C S rows l)) (n : Nat) (hn : n < C.length) {K : List K3i} (hf : S.find C[n].run = some (flatK K)) {i : Nat} (hat : C[n].at_ = offK K i) {x : K3i} (hi : K[i]? = some x) (hm : mayK x = true) (hs : sumK K ≤ 1000000000) (hE : E.length < 1000000) :
    Calls Try.prog 76 #[.pointer (some ⟨mb, 0, none⟩), .int .i64 n] w fun e w' => e = .returned (.tuple #[]) ∧ ∃ A c, x.2.2.length ≤ c ∧ St w0 w' (mrgL mb sb Ac cc (max pk ((E.length + 1 : Nat) : Int)) (pushE E ⟨x.1, x.2.1, A, x.2.2.length, c, n⟩) (C.set n ⟨C[n].b, C[n].run, offK K (i + 1)⟩) S ((A, c, x.2.2) :: rows) l) := by
  obtain ⟨k, s, d⟩ := x
  have t1 := h.heap_tl.1
  obtain ⟨gc, hA, hc, _⟩ := (h.tail).own_at n hn
  subst hA
  obtain ⟨cb, hcb⟩ : ∃ cb, cb = C[n].b := ⟨_, rfl⟩
  obtain ⟨run, hrun⟩ : ∃ run, run = C[n].run := ⟨_, rfl⟩
  have hcv : w.cell? ⟨gc, n, none⟩ = some (.pointer (some ⟨cb, 0, none⟩)) := by rw [hc, hcb]; simp [cuV, hn]
  have q2 : (C.length : Int) ≤ 9223372036854775807 := by have := (h.tail).own_rdv.2.2.1; have := (h.tail).own_rdv.2.1; omega
  have HS := Lib.hid (h.mrg_open n hn)
  have HCL := Lib.hid (fun (u : World) (x : Cu) (pk : Int) (E : List En) (rows : List (Option Addr × Nat × List UInt8)) (hb : cuV x = cuV C[n]) => St.mrg_close (w0 := w0) (w := u) (l := l) (mb := mb) (sb := sb) (Ac := some ⟨gc, 0, none⟩) (cc := cc) (pk := pk) (E := E) (S := S) (rows := rows) hn (x := x) hb)
  rw [← hcb, ← hrun, hat] at HS
  rw [← hcb, ← hrun]
  rw [← hrun] at hf
  have HB : Hid (cuV ⟨cb, run, offK K (i + 1)⟩ = cuV C[n]) := Lib.hid (by unfold cuV; rw [hcb])
  have HK := Lib.hid (And.intro hf (And.intro hi (And.intro hm (And.intro hs hE))))
  generalize hCe : (C.map (cuP sb)).eraseIdx n = CE at HS HCL
  generalize hCv : C.map cuV = CV at HS HCL
  generalize hCs : C.set n ⟨cb, run, offK K (i + 1)⟩ = CS
  have HCS := Lib.hid hCs
  generalize cuV C[n] = cvv at HCL HB
  obtain ⟨N, hN⟩ : ∃ N, N = C.length := ⟨_, rfl⟩
  rw [← hN] at HS t1 q2
  have HN := Lib.hid hN
  have q1 : (n : Int) < (N : Int) := by omega
  clear h hn hf hat hi hm hs hE hc hcb hrun hCe hCv hCs hN
  go_enter Try.func76, Try.ntmps76
  go_wp2_with fail
  refine (St.cur_item HS.out HK.out.1 rfl HK.out.2.1 HK.out.2.2.1 HK.out.2.2.2.1 d.length rfl).mono ?_
  rintro e w1 ⟨A, c, rfl, hdc, hs1⟩
  dsimp only at hs1 ⊢
  have HD := Lib.hid hdc
  have HS1 := Lib.hid hs1
  clear hs1 hdc HS t1 hcv
  go_upto_region 2 with fail
  obtain ⟨ob, hob⟩ : ∃ ob, ob = w1.heap.size := ⟨_, rfl⟩
  have hs2 := HS1.out.boxX ⟨k, s, A, d.length, c⟩ ob hob
  rw [← hob]
  clear hob HS1
  generalize w1.alloc (Obj.cells #[.string k, .int .i64 s, .slice A d.length c] 44) = w2 at hs2 ⊢
  obtain ⟨LL, hLL⟩ : ∃ LL, LL = ownP 5 1 (.slice A d.length c) d.length (bys d) :: blkP cb 98 (curC (some ⟨sb, 0, none⟩) run ((offK K (i + 1) : Nat) : Int)) :: storeP sb S :: allP CE :: heapP mb (.slice (some ⟨gc, 0, none⟩) N cc) (.int .i64 pk) E :: ownP 47 1 (.slice (some ⟨gc, 0, none⟩) N cc) N CV :: rdsP rows :: l := ⟨_, rfl⟩
  rw [← hLL] at hs2
  have HLL := Lib.hid hLL
  clear hLL
  have hs3 : St w0 w2 (blkP ob 44 [.string k, .int .i64 s, .slice A d.length c] :: LL) := hs2
  clear hs2
  refine wp_region_T 6 [] Anew (fun u => St w0 u (blkP ob 44 [.string k, .int .i64 s, .slice A d.length c] :: LL)) (by kernel_rfl) (by kernel_rfl) Anew.refl (St.staysA _ _) hs3.drew ?_
  simp only [List.take_succ_cons, List.take_zero, List.drop_succ_cons, List.drop_zero]
  clear hs3
  repeat (
    (apply wpT_val
     · rfl
     · intro u hu
       have hb := (St.blk hu).1
       have b0 := hb.cell 0
       have b1 := hb.cell 1
       have b2 := hb.cell 2
       simp only [List.getElem?_cons_zero, List.getElem?_cons_succ] at b0 b1 b2
       clear hu hb
       (go_simp <;> with_reducible rfl)
     simp only [Act.put, List.setIfInBounds_toArray, List.set_cons_zero, List.set_cons_succ]))
  refine wpT_nil ?_
  intro w5 hs5
  rw [HLL.out] at hs5
  have HS5 := Lib.hid (hs5.mv 5 (by simp))
  clear hs5
  go_wp2_with fail
  refine (St.heap_push HS5.out ⟨k, s, A, d.length, c, n⟩ HK.out.2.2.2.2).mono ?_
  rintro e w6 ⟨rfl, hs6⟩
  obtain ⟨EE, hEE⟩ : ∃ EE, EE = pushE E ⟨k, s, A, d.length, c, n⟩ := ⟨_, rfl⟩
  have hel : EE.length = E.length + 1 := by rw [hEE, pushE, upE_len]; simp
  have hs7 : St w0 w6 (heapP mb (.slice (some ⟨gc, 0, none⟩) N cc) (.int .i64 pk) EE :: blkP ob 44 [.string k, .int .i64 s, .slice A d.length c] :: ownP 5 1 (.slice A d.length c) d.length (bys d) :: blkP cb 98 (curC (some ⟨sb, 0, none⟩) run ((offK K (i + 1) : Nat) : Int)) :: storeP sb S :: allP CE :: ownP 47 1 (.slice (some ⟨gc, 0, none⟩) N cc) N CV :: rdsP rows :: l) := by
    rw [hEE]; exact hs6
  have HEE := Lib.hid hEE
  clear hs6 hEE
  obtain ⟨L6, hL6⟩ : ∃ L6, L6 = blkP ob 44 [.string k, .int .i64 s, .slice A d.length c] :: ownP 5 1 (.slice A d.length c) d.length (bys d) :: blkP cb 98 (curC (some ⟨sb, 0, none⟩) run ((offK K (i + 1) : Nat) : Int)) :: storeP sb S :: allP CE :: ownP 47 1 (.slice (some ⟨gc, 0, none⟩) N cc) N CV :: rdsP rows :: l := ⟨_, rfl⟩
  rw [← hL6] at hs7
  have HL6 := Lib.hid hL6
  have HEL := Lib.hid hel
  have HS7 := Lib.hid hs7
  clear hL6 hs7 hel HS5 HLL
  go_upto_region 3 with fail
  refine wp_region_T 12 [] Anew (fun u => St w0 u (heapP mb (.slice (some ⟨gc, 0, none⟩) N cc) (.int .i64 pk) EE :: L6)) (by kernel_rfl) (by kernel_rfl) Anew.refl (St.staysA _ _) HS7.out.drew ?_
  simp only [List.take_succ_cons, List.take_zero, List.drop_succ_cons, List.drop_zero]
  clear HS7
  repeat (first
    | (apply wpT_val
       · rfl
       · intro u hu
         have b2 := (St.heap_tl hu).2.1
         clear hu
         (go_simp <;> with_reducible rfl)
       simp only [Act.put, List.setIfInBounds_toArray, List.set_cons_zero, List.set_cons_succ])
    | (apply wpT_call
       · rfl
       · intro u
         go_simp
         exact ⟨rfl, rfl⟩
       · intro u hu
         refine (St.heap_len hu).mono ?_
         rintro e w8 ⟨rfl, rfl⟩
         exact ⟨rfl, Anew.refl _⟩
       simp only [Act.put, List.setIfInBounds_toArray, List.set_cons_zero, List.set_cons_succ]))
  refine wpT_nil ?_
  intro w7 hs8
  obtain ⟨_, b2, _, f2⟩ := hs8.heap_tl
  have hs9 := hs8.heap_set2 (v := .int .i64 (max pk (EE.length : Int)))
  have HS9 := Lib.hid hs9
  clear hs8 hs9
  go_wp2_with fail
  go_end0
  refine ⟨rfl, A, c, HD.out, ?_⟩
  have hs1 := HS9.out
  rw [HEL.out, HL6.out] at hs1
  rw [HEL.out]
  have hs2 := St.rds_put (rows' := (A, c, d) :: rows) (((hs1.swap.tail).mv 1 (by simp)).mv 6 (by simp)).swap (fun r hr => by
    rcases List.mem_cons.1 hr with h | h
    · exact .inr (.inl h)
    · exact .inl h)
  have hs3 := ((((hs2.mv 5 (by simp)).mv 2 (by simp)).mv 5 (by simp)).mv 5 (by simp)).mv 5 (by simp)
  rw [← HCS.out, ← HEE.out]
  exact HCL.out _ ⟨cb, run, offK K (i + 1)⟩ _ EE _ HB.out (by rw [HN.out] at hs3; exact hs3)
set_option maxRecDepth 100000 in
set_option maxHeartbeats 3000000 in
theorem pull_no (h : St w0 w (mrgL mb sb Ac cc pk E C S rows l)) (n : Nat) (hn : n < C.length) {K : List K3i} (hf : S.find C[n].run = some (flatK K)) (hat : C[n].at_ = offK K K.length) (hs : sumK K ≤ 1000000000) :
    Calls Try.prog 76 #[.pointer (some ⟨mb, 0, none⟩), .int .i64 n] w fun e w' => e = .returned (.tuple #[]) ∧ St w0 w' (mrgL mb sb Ac cc pk E C S rows l) := by
  have t1 := h.heap_tl.1
  obtain ⟨gc, hA, hc, _⟩ := (h.tail).own_at n hn
  subst hA
  obtain ⟨cb, hcb⟩ : ∃ cb, cb = C[n].b := ⟨_, rfl⟩
  obtain ⟨run, hrun⟩ : ∃ run, run = C[n].run := ⟨_, rfl⟩
  have hcv : w.cell? ⟨gc, n, none⟩ = some (.pointer (some ⟨cb, 0, none⟩)) := by rw [hc, hcb]; simp [cuV, hn]
  have q2 : (C.length : Int) ≤ 9223372036854775807 := by have := (h.tail).own_rdv.2.2.1; have := (h.tail).own_rdv.2.1; omega
  have HS := Lib.hid (h.mrg_open n hn)
  have HCL := Lib.hid (fun (u : World) (hu : St w0 u (cuP sb ⟨cb, run, offK K K.length⟩ :: storeP sb S :: allP ((C.map (cuP sb)).eraseIdx n) :: heapP mb (.slice (some ⟨gc, 0, none⟩) C.length cc) (.int .i64 pk) E :: ownP 47 1 (.slice (some ⟨gc, 0, none⟩) C.length cc) C.length (C.map cuV) :: rdsP rows :: l)) => (by
    have h1 := St.mrg_close hn (x := ⟨cb, run, offK K K.length⟩) (by unfold cuV; rw [hcb]) hu
    have h2 : C.set n ⟨cb, run, offK K K.length⟩ = C := by
      rw [hcb, hrun, ← hat]
      exact List.set_getElem_self hn
    rw [h2] at h1
    exact h1 : St w0 u (mrgL mb sb (some ⟨gc, 0, none⟩) cc pk E C S rows l)))
  rw [← hcb, ← hrun, hat] at HS
  rw [← hrun] at hf
  have h0 : ∀ bs, S.find run = some bs → bs.length = sumK K := by
    intro bs hb
    rw [hf] at hb
    obtain rfl := Option.some.inj hb
    rw [flatK_len]
  have hle : offK K K.length ≤ sumK K := offK_le K _
  have HK := Lib.hid (And.intro hf (And.intro hs (And.intro h0 hle)))
  obtain ⟨N, hN⟩ : ∃ N, N = C.length := ⟨_, rfl⟩
  rw [← hN] at HS t1 q2 HCL
  have q1 : (n : Int) < (N : Int) := by omega
  clear h hf hat hs h0 hle hc hcb hrun hN
  go_enter Try.func76, Try.ntmps76
  go_wp2_with fail
  refine (St.cur_stop HS.out (atl_end HK.out.1) (fun bs hb => by have := HK.out.2.2.1 bs hb; have := HK.out.2.2.2; omega) (fun bs hb => by have := HK.out.2.2.1 bs hb; have := HK.out.2.1; omega) (by have := HK.out.2.2.2; have := HK.out.2.1; omega)).mono ?_
  rintro e w1 ⟨rfl, hs1⟩
  have HS1 := Lib.hid hs1
  clear hs1 HS t1 hcv
  go_wp2_with fail
  go_end0
  exact ⟨rfl, HCL.out _ (HS1.out.alloc _)⟩
end
end Go.Proofs.Ytkglkpcpgdeneaa
namespace Go.Proofs.Ytkglkpcpgdeneaa
open Go.RowKit
set_option linter.unusedVariables false
set_option linter.unusedSimpArgs false

abbrev K3 := List UInt8 × Int × Int
def lt3 (x y : K3) : Prop := x.1 < y.1 ∨ (x.1 = y.1 ∧ (x.2.1 < y.2.1 ∨ (x.2.1 = y.2.1 ∧ x.2.2 < y.2.2)))
def rk (e : En) : K3 := (e.k.toList, e.s, e.r)
theorem lt3_irr (x : K3) : ¬ lt3 x x := by
  rintro (h | ⟨_, h | ⟨_, h⟩⟩)
  · exact absurd h (List.lt_irrefl _)
  · omega
  · omega
theorem lt3_tri (x y : K3) : lt3 x y ∨ x = y ∨ lt3 y x := by
  obtain ⟨a, b, c⟩ := x
  obtain ⟨a', b', c'⟩ := y
  rcases list_tri a a' with h | h | h
  · exact .inl (.inl h)
  · subst h
    rcases Int.lt_trichotomy b b' with h | h | h
    · exact .inl (.inr ⟨rfl, .inl h⟩)
    · subst h
      rcases Int.lt_trichotomy c c' with h | h | h
      · exact .inl (.inr ⟨rfl, .inr ⟨rfl, h⟩⟩)
      · subst h; exact .inr (.inl rfl)
      · exact .inr (.inr (.inr ⟨rfl, .inr ⟨rfl, h⟩⟩))
    · exact .inr (.inr (.inr ⟨rfl, .inl h⟩))
  · exact .inr (.inr (.inl h))
theorem lt3_trans {x y z : K3} (h : lt3 x y) (g : lt3 y z) : lt3 x z := by
  rcases h with h | ⟨h, h'⟩ <;> rcases g with g | ⟨g, g'⟩
  · exact .inl (List.lt_trans h g)
  · exact .inl (by rw [← g]; exact h)
  · exact .inl (by rw [h]; exact g)
  · refine .inr ⟨h.trans g, ?_⟩
    rcases h' with h' | ⟨h', h''⟩ <;> rcases g' with g' | ⟨g', g''⟩
    · exact .inl (by omega)
    · exact .inl (by omega)
    · exact .inl (by omega)
    · exact .inr ⟨by omega, by omega⟩
theorem ltN_iff (a b : En) : ltN a b = true ↔ lt3 (rk a) (rk b) := by
  unfold ltN ltE lt3 rk
  rw [Bool.or_eq_true, Bool.and_eq_true, Bool.not_eq_true', decide_eq_true_eq, lt2_iff, ← Bool.not_eq_true, lt2_iff]
  constructor
  · rintro ((h | ⟨h1, h2⟩) | ⟨h1, h2⟩)
    · exact .inl h
    · exact .inr ⟨h1, .inl h2⟩
    · rcases list_tri a.k.toList b.k.toList with h | h | h
      · exact .inl h
      · refine .inr ⟨h, ?_⟩
        have h3 : ¬ b.s < a.s := fun h4 => h1 (.inr ⟨h.symm, h4⟩)
        rcases Int.lt_trichotomy a.s b.s with h5 | h5 | h5
        · exact .inl h5
        · exact .inr ⟨h5, h2⟩
        · exact absurd h5 h3
      · exact absurd (.inl h) h1
  · rintro (h | ⟨h, h1 | ⟨h1, h2⟩⟩)
    · exact .inl (.inl h)
    · exact .inl (.inr ⟨h, h1⟩)
    · refine .inr ⟨?_, h2⟩
      rintro (h3 | ⟨_, h3⟩)
      · have h4 : b.k.toList < a.k.toList := h3
        rw [show a.k.toList = b.k.toList from h] at h4
        exact absurd h4 (List.lt_irrefl _)
      · have h4 : b.s < a.s := h3
        have h5 : a.s = b.s := h1
        omega
theorem ltN_irr (a : En) : ltN a a = false := by
  rw [← Bool.not_eq_true, ltN_iff]; exact lt3_irr _
theorem ltN_neg {a b c : En} (h : ltN a b = false) (g : ltN b c = false) : ltN a c = false := by
  rw [← Bool.not_eq_true, ltN_iff] at h g ⊢
  intro k
  rcases lt3_tri (rk a) (rk b) with h1 | h1 | h1
  · exact h h1
  · rw [h1] at k; exact g k
  · exact g (lt3_trans h1 k)
theorem ltN_asymm {a b : En} (h : ltN a b = true) : ltN b a = false := by
  rw [← Bool.not_eq_true, ltN_iff]
  rw [ltN_iff] at h
  exact fun g => lt3_irr _ (lt3_trans h g)
theorem ltN_eq {a b : En} (h : ltN a b = false) (g : ltN b a = false) : rk a = rk b := by
  rw [← Bool.not_eq_true, ltN_iff] at h g
  rcases lt3_tri (rk a) (rk b) with h1 | h1 | h1
  · exact absurd h1 h
  · exact h1
  · exact absurd h1 g
theorem ltN_rk {a b a' b' : En} (h : rk a = rk a') (g : rk b = rk b') : ltN a b = ltN a' b' := by
  rw [Bool.eq_iff_iff, ltN_iff, ltN_iff, h, g]

/-! ### The heap's order -/
theorem gE_swap (L : List En) (x y i : Nat) (hx : x < L.length) (hy : y < L.length) : gE (swapE L x y) i = if i = y then gE L x else if i = x then gE L y else gE L i := by
  unfold gE swapE
  simp only [List.getD_eq_getElem?_getD, List.getElem?_set]
  by_cases h1 : i = y
  · subst h1; simp [hy, gE]
  · by_cases h2 : i = x
    · subst h2; simp [h1, Ne.symm h1, hx, gE]
    · simp [h1, h2, Ne.symm h1, Ne.symm h2]
theorem swap_perm (L : List En) (x y : Nat) (hx : x < L.length) (hy : y < L.length) : (swapE L x y).Perm L := by
  rw [swapE, gE_eq L x hx, gE_eq L y hy]
  exact List.set_set_perm hx hy
/-- In order. -/
def Ord (L : List En) : Prop := ∀ i, 0 < i → i < L.length → ltN (gE L i) (gE L ((i - 1) / 2)) = false
theorem Ord.root {L : List En} (h : Ord L) : ∀ i, i < L.length → ltN (gE L i) (gE L 0) = false := by
  intro i
  induction i using Nat.strongRecOn with
  | _ i ih =>
    intro hi
    by_cases h0 : i = 0
    · subst h0; exact ltN_irr _
    · exact ltN_neg (h i (by omega) hi) (ih ((i - 1) / 2) (by omega) (by omega))
/-- In order but at n, upward. -/
def OrdUp (n : Nat) (L : List En) : Prop := (∀ i, 0 < i → i < L.length → i ≠ n → ltN (gE L i) (gE L ((i - 1) / 2)) = false) ∧
  (∀ i, 0 < i → i < L.length → (i - 1) / 2 = n → 0 < n → ltN (gE L i) (gE L ((n - 1) / 2)) = false)
theorem upE_ord : ∀ (n : Nat) (L : List En), n < L.length → OrdUp n L → Ord (upE n L) := by
  intro n
  induction n using Nat.strongRecOn with
  | _ n ih =>
    intro L hn ⟨h1, h2⟩
    by_cases h0 : n = 0
    · subst h0
      rw [upE_zero]
      exact fun i hi hl => h1 i hi hl (by omega)
    · cases hlt : ltN (gE L n) (gE L ((n - 1) / 2))
      · rw [upE_end n L hlt]
        intro i hi hl
        by_cases hin : i = n
        · subst hin; exact hlt
        · exact h1 i hi hl hin
      · have hp : (n - 1) / 2 < n := by omega
        rw [upE_go n L (by omega) hlt]
        refine ih _ hp _ (by rw [swapE_len]; omega) ⟨?_, ?_⟩
        · intro i hi hl hne
          rw [swapE_len] at hl
          rw [gE_swap L n _ _ hn (by omega), gE_swap L n _ _ hn (by omega)]
          generalize hpp : (n - 1) / 2 = p at *
          by_cases hin : i = n
          · subst hin
            rw [if_neg (by omega), if_pos rfl, hpp, if_pos rfl]
            exact ltN_asymm hlt
          · rw [if_neg hne, if_neg hin]
            by_cases hq : (i - 1) / 2 = p
            · rw [if_pos hq]
              have := h1 i hi hl hin
              rw [hq] at this
              exact ltN_neg this (ltN_asymm hlt)
            · rw [if_neg hq]
              by_cases hr : (i - 1) / 2 = n
              · rw [if_pos hr]
                exact h2 i hi hl hr (by omega)
              · rw [if_neg hr]
                exact h1 i hi hl hin
        · intro i hi hl hq hp0
          rw [swapE_len] at hl
          rw [gE_swap L n _ _ hn (by omega), gE_swap L n _ _ hn (by omega)]
          generalize hpp : (n - 1) / 2 = p at *
          rw [if_neg (show ¬ (p - 1) / 2 = p by omega), if_neg (show ¬ (p - 1) / 2 = n by omega)]
          have hpl : ltN (gE L p) (gE L ((p - 1) / 2)) = false := h1 p hp0 (by omega) (by omega)
          by_cases hin : i = n
          · subst hin
            rw [if_neg (by omega), if_pos rfl]
            exact hpl
          · rw [if_neg (by omega), if_neg hin]
            have := h1 i hi hl hin
            rw [hq] at this
            exact ltN_neg this hpl
theorem push_ord {L : List En} (e : En) (h : Ord L) : Ord (pushE L e) := by
  refine upE_ord _ _ (by simp) ⟨?_, ?_⟩
  · intro i hi hl hne
    have hl' : i < L.length := by simp at hl; omega
    have e1 : ∀ j, j < L.length → gE (L ++ [e]) j = gE L j := fun j hj => by simp [gE, List.getElem?_append_left hj]
    rw [e1 i hl', e1 _ (by omega)]
    exact h i hi hl'
  · intro i hi hl hq _
    simp at hl
    omega
theorem upE_perm : ∀ (n : Nat) (L : List En), n < L.length → (upE n L).Perm L := by
  intro n
  induction n using Nat.strongRecOn with
  | _ n ih =>
    intro L hn
    by_cases h0 : n = 0
    · subst h0; rw [upE_zero]
    · cases hlt : ltN (gE L n) (gE L ((n - 1) / 2))
      · rw [upE_end n L hlt]
      · rw [upE_go n L (by omega) hlt]
        exact (ih _ (by omega) _ (by rw [swapE_len]; omega)).trans (swap_perm L n _ hn (by omega))
theorem push_perm (L : List En) (e : En) : (pushE L e).Perm (e :: L) :=
  (upE_perm _ _ (by simp)).trans (List.perm_append_singleton e L)
theorem push_len (L : List En) (e : En) : (pushE L e).length = L.length + 1 := by rw [pushE, upE_len]; simp

/-- In order but below n. -/
def OrdDown (n : Nat) (L : List En) : Prop := (∀ i, 0 < i → i < L.length → (i - 1) / 2 ≠ n → ltN (gE L i) (gE L ((i - 1) / 2)) = false) ∧
  (∀ i, 0 < i → i < L.length → (i - 1) / 2 = n → 0 < n → ltN (gE L i) (gE L ((n - 1) / 2)) = false)
theorem kidE_par (L : List En) (n : Nat) : (kidE L n - 1) / 2 = n := by unfold kidE; split <;> omega
theorem kidE_least (L : List En) (n i : Nat) (hi : 0 < i) (hl : i < L.length) (hp : (i - 1) / 2 = n) : ltN (gE L i) (gE L (kidE L n)) = false := by
  have h2 : i = 2 * n + 1 ∨ i = 2 * n + 2 := by omega
  unfold kidE
  split
  · rename_i h
    rcases h2 with rfl | rfl
    · exact ltN_asymm h.2
    · exact ltN_irr _
  · rename_i h
    rcases h2 with rfl | rfl
    · exact ltN_irr _
    · cases hq : ltN (gE L (2 * n + 2)) (gE L (2 * n + 1))
      · rfl
      · exact absurd ⟨hl, hq⟩ h
theorem downE_ord : ∀ (f n : Nat) (L : List En), L.length ≤ f + n → OrdDown n L → Ord (downE n L) := by
  intro f
  induction f with
  | zero =>
    intro n L hl ⟨h1, _⟩
    rw [downE_last n L (by omega)]
    exact fun i hi hil => h1 i hi hil (by omega)
  | succ f ih =>
    intro n L hl ⟨h1, h2⟩
    by_cases hk : 2 * n + 1 < L.length
    · have hkl := kidE_lt L n hk
      have hkg := kidE_ge L n
      have hkp := kidE_par L n
      have hleast := kidE_least L n
      cases hlt : ltN (gE L (kidE L n)) (gE L n)
      · rw [downE_end n L hlt]
        intro i hi hil
        by_cases hp : (i - 1) / 2 = n
        · rw [hp]; exact ltN_neg (hleast i hi hil hp) hlt
        · exact h1 i hi hil hp
      · rw [downE_go n L hk hlt]
        generalize kidE L n = k at *
        have hn : n < L.length := by omega
        refine ih _ _ (by rw [swapE_len]; omega) ⟨?_, ?_⟩
        · intro i hi hil hne
          rw [swapE_len] at hil
          rw [gE_swap L n k _ hn hkl, gE_swap L n k _ hn hkl]
          by_cases hik : i = k
          · subst hik
            rw [if_pos rfl, hkp, if_neg (by omega), if_pos rfl]
            exact ltN_asymm hlt
          · rw [if_neg hik, if_neg hne]
            by_cases hin : i = n
            · subst hin
              rw [if_pos rfl, if_neg (by omega)]
              exact h2 k (by omega) hkl hkp hi
            · rw [if_neg hin]
              by_cases hp : (i - 1) / 2 = n
              · rw [if_pos hp]; exact hleast i hi hil hp
              · rw [if_neg hp]; exact h1 i hi hil hp
        · intro i hi hil hp _
          rw [swapE_len] at hil
          rw [gE_swap L n k _ hn hkl, gE_swap L n k _ hn hkl, hkp, if_neg (by omega), if_neg (by omega), if_neg (by omega), if_pos rfl]
          have := h1 i hi hil (by omega)
          rwa [hp] at this
    · rw [downE_last n L (by omega)]
      exact fun i hi hil => h1 i hi hil (by omega)
theorem downE_perm : ∀ (f n : Nat) (L : List En), L.length ≤ f + n → (downE n L).Perm L := by
  intro f
  induction f with
  | zero => intro n L hl; rw [downE_last n L (by omega)]
  | succ f ih =>
    intro n L hl
    by_cases hk : 2 * n + 1 < L.length
    · cases hlt : ltN (gE L (kidE L n)) (gE L n)
      · rw [downE_end n L hlt]
      · have := kidE_ge L n
        rw [downE_go n L hk hlt]
        exact (ih _ _ (by rw [swapE_len]; omega)).trans (swap_perm L n _ (by omega) (kidE_lt L n hk))
    · rw [downE_last n L (by omega)]
theorem gE_take (L : List En) (m i : Nat) (h : i < m) : gE (L.take m) i = gE L i := by
  simp [gE, h]
theorem pop_ord {L : List En} (h : Ord L) (hl : 0 < L.length) : Ord (popE L) := by
  refine downE_ord _ 0 _ (Nat.le_refl _) ⟨?_, fun _ _ _ _ h => absurd h (by omega)⟩
  intro i hi hil hne
  rw [List.length_take, swapE_len] at hil
  rw [gE_take _ _ _ (by omega), gE_take _ _ _ (by omega), gE_swap L 0 _ _ hl (by omega), gE_swap L 0 _ _ hl (by omega), if_neg (by omega), if_neg (by omega), if_neg (by omega), if_neg hne]
  exact h i hi (by omega)
theorem pop_perm (L : List En) (hl : 0 < L.length) : (gE L 0 :: popE L).Perm L := by
  have h1 : (popE L).Perm ((swapE L 0 (L.length - 1)).take (L.length - 1)) := downE_perm _ 0 _ (Nat.le_refl _)
  have h2 : (swapE L 0 (L.length - 1)).take (L.length - 1) ++ [gE L 0] = swapE L 0 (L.length - 1) := by
    have hlt : L.length - 1 < (swapE L 0 (L.length - 1)).length := by rw [swapE_len]; omega
    have h3 : (swapE L 0 (L.length - 1))[L.length - 1] = gE L 0 := by
      rw [← gE_eq _ _ hlt, gE_swap L 0 _ _ hl (by omega), if_pos rfl]
    rw [← h3, ← List.take_succ_eq_append_getElem hlt]
    exact List.take_of_length_le (by rw [swapE_len]; omega)
  have h3 := swap_perm L 0 (L.length - 1) hl (by omega)
  rw [← h2] at h3
  exact ((List.Perm.cons _ h1).trans (List.perm_append_singleton (gE L 0) _).symm).trans h3

/-! ### Merging -/
theorem swoK : SWO ltK where
  asym x y h := swoI.asym ⟨x.1, x.2.1, none, 0, 0⟩ ⟨y.1, y.2.1, none, 0, 0⟩ h
  ntr x y z h g := swoI.ntr ⟨x.1, x.2.1, none, 0, 0⟩ ⟨y.1, y.2.1, none, 0, 0⟩ ⟨z.1, z.2.1, none, 0, 0⟩ h g
section
variable {α : Type} {lt : α → α → Bool}
theorem srt_front (h : SWO lt) {A B : List α} {x : α} (hA : ∀ a ∈ A, lt x a = true) (hB : ∀ b ∈ B, lt b x = false) : srt lt (A ++ x :: B) = x :: srt lt (A ++ B) := by
  symm
  refine srt_is h (srt_iff.2 ?_) ?_
  · refine List.pairwise_cons.2 ⟨fun y hy => ?_, srt_sorted h _⟩
    rcases List.mem_append.1 ((srt_perm (lt := lt) (A ++ B)).mem_iff.1 hy) with hy | hy
    · exact h.asym _ _ (hA y hy)
    · exact hB y hy
  · have hs := srt_stab h (A ++ B)
    refine ⟨by rw [List.length_cons, hs.1]; simp; omega, fun z => ?_⟩
    rw [List.filter_cons, hs.2 z, List.filter_append, List.filter_append, List.filter_cons]
    cases he : eqv lt z x with
    | false => simp
    | true =>
      have hn : A.filter (eqv lt z) = [] := by
        rw [List.filter_eq_nil_iff]
        intro a ha hc
        have h1 := (eqv_iff.1 he).2
        have h2 := (eqv_iff.1 hc).1
        have h3 := h.le_lt (eqv_iff.1 he).2 (hA a ha)
        rw [h2] at h3
        cases h3
      rw [hn]
      simp
theorem srt_nil' : srt lt ([] : List α) = [] := rfl
end
/-- Entries that are the first ones of what is left of runs. -/
structure Heads (rows : List (Option Addr × Nat × List UInt8)) (E : List En) (R : List (List K3i)) : Prop where
  ord : Ord E
  nd : (E.map (·.r)).Nodup
  yes : ∀ e ∈ E, ∃ (j : Nat) (x : K3i) (t : List K3i), e.r = j ∧ R[j]? = some (x :: t) ∧ e.k = x.1 ∧ e.s = x.2.1 ∧ e.n = x.2.2.length ∧ e.n ≤ e.c ∧ (e.A, e.c, x.2.2) ∈ rows
  no : ∀ (j : Nat) (x : K3i) (t : List K3i), R[j]? = some (x :: t) → ∃ e ∈ E, e.r = j
theorem Heads.nil : Heads [] [] [] := ⟨fun i _ h => absurd h (by simp), List.nodup_nil, fun e h => (List.not_mem_nil h).elim, fun j x t h => by simp at h⟩
theorem Heads.grow {rows} {E : List En} {R : List (List K3i)} (h : Heads rows E R) : Heads rows E (R ++ [[]]) := by
  refine ⟨h.ord, h.nd, fun e he => ?_, fun j x t hj => ?_⟩
  · obtain ⟨j, x, t, h1, h2, h3⟩ := h.yes e he
    refine ⟨j, x, t, h1, ?_, h3⟩
    obtain ⟨hl, _⟩ := List.getElem?_eq_some_iff.1 h2
    rw [List.getElem?_append_left hl]
    exact h2
  · rcases Nat.lt_or_ge j R.length with hl | hl
    · rw [List.getElem?_append_left hl] at hj
      exact h.no j x t hj
    · rw [List.getElem?_append_right hl] at hj
      cases e : j - R.length with
      | zero => rw [e] at hj; simp at hj
      | succ k => rw [e] at hj; simp at hj
theorem Heads.empty {rows} {R : List (List K3i)} (h : Heads rows [] R) : ∀ t ∈ R, t = [] := by
  intro t ht
  obtain ⟨j, hj⟩ := List.mem_iff_getElem?.1 ht
  cases t with
  | nil => rfl
  | cons x t =>
    obtain ⟨e, he, _⟩ := h.no j x t hj
    cases he
/-- What the least entry says. -/
theorem Heads.root {rows} {E : List En} {R : List (List K3i)} (h : Heads rows E R) (h0 : 0 < E.length) :
    ∃ (j : Nat) (x : K3i) (t : List K3i), (gE E 0).r = j ∧ R[j]? = some (x :: t) ∧ (gE E 0).k = x.1 ∧ (gE E 0).s = x.2.1 ∧ (gE E 0).n = x.2.2.length ∧ (gE E 0).n ≤ (gE E 0).c ∧ ((gE E 0).A, (gE E 0).c, x.2.2) ∈ rows ∧
      ∀ (i : Nat) (y : K3i) (u : List K3i), R[i]? = some (y :: u) → ltK y x = false ∧ (i < j → ltK x y = true) := by
  have hm : gE E 0 ∈ E := by rw [gE_eq E 0 h0]; exact List.getElem_mem h0
  obtain ⟨j, x, t, h1, h2, h3, h4, h5, h6, h7⟩ := h.yes _ hm
  refine ⟨j, x, t, h1, h2, h3, h4, h5, h6, h7, fun i y u hi => ?_⟩
  obtain ⟨e, he, hr⟩ := h.no i y u hi
  obtain ⟨j', x', t', g1, g2, g3, g4, _⟩ := h.yes e he
  have hij : j' = i := by have : (j' : Int) = (i : Int) := by rw [← g1, hr]
                          omega
  subst hij
  rw [hi] at g2
  obtain ⟨rfl, rfl⟩ : y = x' ∧ u = t' := by injection g2 with g2; injection g2 with a b; exact ⟨a, b⟩
  obtain ⟨n, hn, rfl⟩ := List.getElem_of_mem he
  have hro := h.ord.root n hn
  rw [gE_eq E n hn] at hro
  unfold ltN ltE at hro
  rw [Bool.or_eq_false_iff, Bool.and_eq_false_iff, g3, g4, h3, h4] at hro
  refine ⟨hro.1, fun hlt => ?_⟩
  rcases hro.2 with h8 | h8
  · rw [Bool.not_eq_false'] at h8
    exact h8
  · rw [hr, h1, decide_eq_false_iff_not] at h8
    omega
/-- The least one is taken. -/
theorem Heads.pop {rows} {E : List En} {R : List (List K3i)} (h : Heads rows E R) (h0 : 0 < E.length) {j : Nat} (hj : (gE E 0).r = j) : Heads rows (popE E) (R.set j []) := by
  have hp := pop_perm E h0
  have hnd : (((gE E 0) :: popE E).map (·.r)).Nodup := (hp.map (·.r)).nodup_iff.2 h.nd
  rw [List.map_cons, List.nodup_cons] at hnd
  have hne : ∀ e ∈ popE E, e.r ≠ j := fun e he hc => hnd.1 (by rw [hj, ← hc]; exact List.mem_map_of_mem he)
  refine ⟨pop_ord h.ord h0, hnd.2, fun e he => ?_, fun i x t hi => ?_⟩
  · obtain ⟨i, x, t, h1, h2, h3⟩ := h.yes e (hp.mem_iff.1 (List.mem_cons_of_mem _ he))
    refine ⟨i, x, t, h1, ?_, h3⟩
    rw [List.getElem?_set_ne (fun hc => hne e he (by rw [h1, hc]))]
    exact h2
  · have hij : j ≠ i := by
      rintro rfl
      rw [List.getElem?_set] at hi
      split at hi
      · split at hi <;> simp at hi
      · contradiction
    rw [List.getElem?_set_ne hij] at hi
    obtain ⟨e, he, hr⟩ := h.no i x t hi
    rcases List.mem_cons.1 (hp.mem_iff.2 he) with rfl | he'
    · exact absurd (by have : (j : Int) = (i : Int) := by rw [← hj, hr]
                       omega) hij
    · exact ⟨e, he', hr⟩
/-- A run's next one comes. -/
theorem Heads.push {rows} {E : List En} {R : List (List K3i)} (h : Heads rows E R) {j : Nat} (hj : R[j]? = some []) (x : K3i) (t : List K3i) (A : Option Addr) (c : Nat) (hc : x.2.2.length ≤ c) :
    Heads ((A, c, x.2.2) :: rows) (pushE E ⟨x.1, x.2.1, A, x.2.2.length, c, j⟩) (R.set j (x :: t)) := by
  obtain ⟨hl, hg⟩ := List.getElem?_eq_some_iff.1 hj
  have hp := push_perm E ⟨x.1, x.2.1, A, x.2.2.length, c, j⟩
  have hno : ∀ e ∈ E, e.r ≠ j := by
    intro e he hc
    obtain ⟨i, y, u, h1, h2, _⟩ := h.yes e he
    have : i = j := by have : (i : Int) = (j : Int) := by rw [← h1, hc]
                       omega
    rw [this, hj] at h2
    cases h2
  refine ⟨push_ord _ h.ord, ?_, fun e he => ?_, fun i y u hi => ?_⟩
  · refine (hp.map (·.r)).nodup_iff.2 ?_
    rw [List.map_cons, List.nodup_cons]
    refine ⟨fun hm => ?_, h.nd⟩
    obtain ⟨e, he, hr⟩ := List.mem_map.1 hm
    exact hno e he hr
  · rcases List.mem_cons.1 (hp.mem_iff.1 he) with rfl | he'
    · exact ⟨j, x, t, rfl, by rw [List.getElem?_set_self hl], rfl, rfl, rfl, hc, List.mem_cons_self⟩
    · obtain ⟨i, y, u, h1, h2, h3, h4, h5, h6, h7⟩ := h.yes e he'
      refine ⟨i, y, u, h1, ?_, h3, h4, h5, h6, List.mem_cons_of_mem _ h7⟩
      rw [List.getElem?_set_ne (fun hc => hno e he' (by rw [h1, hc]))]
      exact h2
  · by_cases hij : j = i
    · exact ⟨_, hp.mem_iff.2 List.mem_cons_self, by rw [← hij]⟩
    · rw [List.getElem?_set_ne hij] at hi
      obtain ⟨e, he, hr⟩ := h.no i y u hi
      exact ⟨e, hp.mem_iff.2 (List.mem_cons_of_mem _ he), hr⟩
/-- How many runs have something. -/
def fullN (R : List (List K3i)) : Nat := (R.filter fun t => !t.isEmpty).length
/-- In order, each of them. -/
def AllSrt (R : List (List K3i)) : Prop := ∀ t ∈ R, t.Pairwise fun x y => ltK y x = false
theorem AllSrt.set {R : List (List K3i)} (h : AllSrt R) {j : Nat} {x : K3i} {t : List K3i} (hj : R[j]? = some (x :: t)) : AllSrt (R.set j t) := by
  intro u hu
  rcases List.mem_or_eq_of_mem_set hu with hu | rfl
  · exact h u hu
  · exact (List.pairwise_cons.1 (h _ (List.mem_iff_getElem?.2 ⟨j, hj⟩))).2
/-- The least of all is the first one in order. -/
theorem merge_step {R : List (List K3i)} (h : AllSrt R) {j : Nat} {x : K3i} {t : List K3i} (hj : R[j]? = some (x :: t))
    (hm : ∀ (i : Nat) (y : K3i) (u : List K3i), R[i]? = some (y :: u) → ltK y x = false ∧ (i < j → ltK x y = true)) : srt ltK R.flatten = x :: srt ltK (R.set j t).flatten := by
  obtain ⟨hl, hg⟩ := List.getElem?_eq_some_iff.1 hj
  have e1 : R = R.take j ++ (x :: t) :: R.drop (j + 1) := by
    rw [← hg, ← List.drop_eq_getElem_cons hl, List.take_append_drop]
  have e2 : R.set j t = R.take j ++ t :: R.drop (j + 1) := by rw [List.set_eq_take_append_cons_drop, if_pos hl]
  have hge : ∀ (i : Nat) (u : List K3i), R[i]? = some u → ∀ z ∈ u, ltK z x = false := by
    intro i u hi z hz
    cases u with
    | nil => cases hz
    | cons y u =>
      rcases List.mem_cons.1 hz with rfl | hz
      · exact (hm i z u hi).1
      · have h1 := (List.pairwise_cons.1 (h _ (List.mem_iff_getElem?.2 ⟨i, hi⟩))).1 z hz
        exact swoK.ntr _ _ _ h1 (hm i y u hi).1
  have e3 : srt ltK R.flatten = srt ltK ((R.take j).flatten ++ x :: (t ++ (R.drop (j + 1)).flatten)) := by
    rw [congrArg List.flatten e1]
    simp only [List.flatten_append, List.flatten_cons, List.cons_append]
  have e4 : (R.set j t).flatten = (R.take j).flatten ++ (t ++ (R.drop (j + 1)).flatten) := by
    rw [e2]
    simp only [List.flatten_append, List.flatten_cons]
  rw [e3, e4]
  refine srt_front swoK ?_ ?_
  · intro a ha
    obtain ⟨u, hu, hau⟩ := List.mem_flatten.1 ha
    obtain ⟨i, hi, rfl⟩ := List.getElem_of_mem hu
    have hij : i < j := by simp at hi; omega
    have hiR : R[i]? = some (R.take j)[i] := by rw [List.getElem_take, List.getElem?_eq_getElem]
    generalize (R.take j)[i] = u at hau hiR
    cases u with
    | nil => cases hau
    | cons y u =>
      have h2 := (hm i y u hiR).2 hij
      rcases List.mem_cons.1 hau with rfl | hz
      · exact h2
      · have h1 := (List.pairwise_cons.1 (h _ (List.mem_iff_getElem?.2 ⟨i, hiR⟩))).1 a hz
        exact swoK.lt_le h2 h1
  · intro b hb
    rcases List.mem_append.1 hb with hb | hb
    · exact (List.pairwise_cons.1 (h _ (List.mem_iff_getElem?.2 ⟨j, hj⟩))).1 b hb
    · obtain ⟨u, hu, hbu⟩ := List.mem_flatten.1 hb
      obtain ⟨i, hi⟩ := List.mem_iff_getElem?.1 (List.mem_of_mem_drop hu)
      exact hge i u hi b hbu
theorem flat_nils {R : List (List K3i)} (h : ∀ t ∈ R, t = []) : R.flatten = [] := by
  rw [List.flatten_eq_nil_iff]
  exact h
end Go.Proofs.Ytkglkpcpgdeneaa
namespace Go.Proofs.Ytkglkpcpgdeneaa
open Go.RowKit
set_option linter.unusedVariables false
set_option linter.unusedSimpArgs false

abbrev RowsM := List (Option Addr × Nat × List UInt8)
/-- Where the cursors stand: T is what has yet to be pulled. -/
structure Curs (S : StoreM) (C : List Cu) (T : List (List K3i)) : Prop where
  len : C.length = T.length
  at_ : ∀ (j : Nat) (c : Cu) (t : List K3i), C[j]? = some c → T[j]? = some t → ∃ K P, S.find c.run = some (flatK K) ∧ (∀ x ∈ K, mayK x = true) ∧ sumK K ≤ 1000000000 ∧ K = P ++ t ∧ c.at_ = offK K P.length
theorem Curs.set {S : StoreM} {C : List Cu} {T : List (List K3i)} (h : Curs S C T) {n : Nat} {c : Cu} {t : List K3i} (K P : List K3i) (h1 : S.find c.run = some (flatK K)) (h2 : ∀ x ∈ K, mayK x = true) (h3 : sumK K ≤ 1000000000) (h4 : K = P ++ t) (h5 : c.at_ = offK K P.length) : Curs S (C.set n c) (T.set n t) := by
  refine ⟨by rw [List.length_set, List.length_set, h.len], fun j c' t' hc ht => ?_⟩
  by_cases hj : n = j
  · subst hj
    rw [List.getElem?_set] at hc ht
    simp only [if_true] at hc ht
    split at hc
    · split at ht
      · injection hc with hc
        injection ht with ht
        subst hc ht
        exact ⟨K, P, h1, h2, h3, h4, h5⟩
      · cases ht
    · cases hc
  · rw [List.getElem?_set_ne hj] at hc ht
    exact h.at_ j c' t' hc ht
theorem set_same {α : Type} {L : List α} {n : Nat} {x : α} (h : L[n]? = some x) : L.set n x = L := by
  obtain ⟨hl, rfl⟩ := List.getElem?_eq_some_iff.1 h
  exact List.set_getElem_self hl
section
variable {w0 w : World} {l : List Part} {mb sb : Nat} {Ac : Option Addr} {cc : Nat} {pk : Int} {E : List En} {C : List Cu} {S : StoreM} {rows : RowsM} {R T : List (List K3i)}
/-- One run's next item, if it has one. -/
theorem pull_any (h : St w0 w (mrgL mb sb Ac cc pk E C S rows l)) (hC : Curs S C T) (hH : Heads rows E R) {n : Nat} {t : List K3i} (hT : T[n]? = some t) (hR : R[n]? = some []) (hE : E.length < 1000000) :
    Calls Try.prog 76 #[.pointer (some ⟨mb, 0, none⟩), .int .i64 n] w fun e w' => e = .returned (.tuple #[]) ∧ ∃ E' C' rows', Heads rows' E' (R.set n t) ∧ Curs S C' (T.set n t.tail) ∧ C'.map Cu.run = C.map Cu.run ∧ (∀ r ∈ rows, r ∈ rows') ∧ E'.length = E.length + min 1 t.length ∧ St w0 w' (mrgL mb sb Ac cc (if t = [] then pk else max pk ((E.length + 1 : Nat) : Int)) E' C' S rows' l) := by
  obtain ⟨hnT, _⟩ := List.getElem?_eq_some_iff.1 hT
  have hn : n < C.length := by rw [hC.len]; exact hnT
  obtain ⟨K, P, h1, h2, h3, h4, h5⟩ := hC.at_ n C[n] t (List.getElem?_eq_getElem hn) hT
  cases t with
  | nil =>
    rw [List.append_nil] at h4
    subst h4
    refine (pull_no h n hn h1 h5 h3).mono ?_
    rintro e w' ⟨rfl, hs⟩
    refine ⟨rfl, E, C, rows, ?_, ?_, rfl, fun _ h => h, by simp, hs⟩
    · rw [set_same hR]; exact hH
    · rw [List.tail_nil, set_same hT]; exact hC
  | cons x t =>
    subst h4
    have hi : (P ++ x :: t)[P.length]? = some x := by simp
    refine (pull_yes h n hn h1 h5 hi (h2 x (by simp)) h3 hE).mono ?_
    rintro e w' ⟨rfl, A, c, hc, hs⟩
    refine ⟨rfl, _, C.set n ⟨C[n].b, C[n].run, offK (P ++ x :: t) (P.length + 1)⟩, _, hH.push hR x t A c hc, hC.set (P ++ x :: t) (P ++ [x]) h1 h2 h3 (by simp) (by rw [List.length_append]; rfl), (by rw [List.map_set]; exact set_same (by simp [List.getElem?_eq_getElem hn])), fun _ h => List.mem_cons_of_mem _ h, by rw [push_len]; simp, ?_⟩
    rw [if_neg (by simp)]
    exact hs
/-- A merger as it stands between two calls. -/
structure Mrg (S : StoreM) (E : List En) (C : List Cu) (R : List (List K3i)) (rows : RowsM) (pk : Int) : Prop where
  heads : Heads rows E R
  curs : Curs S C (R.map List.tail)
  le : (E.length : Int) ≤ pk
  few : E.length < 1000000
set_option maxRecDepth 100000 in
set_option maxHeartbeats 3000000 in
theorem next_no (h : St w0 w (mrgL mb sb Ac cc pk E C S rows l)) (h0 : E.length = 0) :
    Calls Try.prog 62 #[.pointer (some ⟨mb, 0, none⟩)] w fun e w' => e = .returned (.tuple #[.agg #[.string ⟨#[]⟩, .int .i64 0, .slice none 0 0], .bool false]) ∧ St w0 w' (mrgL mb sb Ac cc pk E C S rows l) := by
  obtain ⟨xb, hxb⟩ : ∃ xb, xb = w.heap.size := ⟨_, rfl⟩
  have hs1 := h.boxX ⟨⟨#[]⟩, 0, none, 0, 0⟩ xb hxb
  have HS1 : Hid (St w0 (w.alloc (Obj.cells #[.string ⟨#[]⟩, .int .i64 0, .slice none 0 0] 44)) (blkP xb 44 [.string ⟨#[]⟩, .int .i64 0, .slice none 0 0] :: mrgL mb sb Ac cc pk E C S rows l)) := Lib.hid hs1
  have H0 := Lib.hid h0
  clear h hs1 h0
  go_enter Try.func62, Try.ntmps62
  go_upto_region 1 with fail
  rw [← hxb]
  clear hxb
  generalize w.alloc (Obj.cells #[.string ⟨#[]⟩, .int .i64 0, .slice none 0 0] 44) = w1 at HS1 ⊢
  go_wp2_with fail
  refine (St.heap_pop_no HS1.out.swap H0.out).mono ?_
  rintro e w2 ⟨rfl, hs2⟩
  have HS2 := Lib.hid hs2.swap
  clear hs2 HS1
  dsimp only [valE, z0]
  obtain ⟨eb, heb⟩ : ∃ eb, eb = w2.heap.size := ⟨_, rfl⟩
  have hs3 := HS2.out.boxB [.string ⟨#[]⟩, .int .i64 0, .slice none 0 0, .int .i64 0] 128 eb heb
  have HS3 : Hid (St w0 (w2.alloc (Obj.cells #[.string ⟨#[]⟩, .int .i64 0, .slice none 0 0, .int .i64 0] 128)) _) := Lib.hid hs3
  clear hs3 HS2
  go_upto_region 2 with fail
  rw [← heb]
  clear heb
  generalize w2.alloc (Obj.cells #[.string ⟨#[]⟩, .int .i64 0, .slice none 0 0, .int .i64 0] 128) = w3 at HS3 ⊢
  have ho := HS3.out.blk.1
  have hr := HS3.out.tail.blk.1
  have y0 := ho.cell 0
  have y1 := ho.cell 1
  have y2 := ho.cell 2
  have p0 := hr.cell 0
  have p1 := hr.cell 1
  have p2 := hr.cell 2
  have pf0 := hr.free 0
  have pf1 := hr.free 1
  have pf2 := hr.free 2
  simp only [List.getElem_cons_zero, List.getElem_cons_succ, List.getElem?_cons_zero, List.getElem?_cons_succ] at y0 y1 y2 p0 p1 p2
  have hs8 := ((HS3.out.tail.set 0 (.string ⟨#[]⟩)).set 1 (.int .i64 0)).set 2 (.slice none 0 0)
  simp only [List.getElem_cons_zero, List.getElem_cons_succ, List.set_cons_zero, List.set_cons_succ] at hs8
  have HS8 := Lib.hid hs8
  clear ho hr hs8 HS3
  go_wp2_with fail
  refine bodyPost_ret (results_it2 rfl _ xb ⟨⟨#[]⟩, 0, none, 0, 0⟩ _ rfl HS8.out.blk.1) rfl ?_
  exact ⟨rfl, HS8.out.tail⟩
set_option maxRecDepth 100000 in
set_option maxHeartbeats 3000000 in
theorem next_yes (h : St w0 w (mrgL mb sb Ac cc pk E C S rows l)) (hM : Mrg S E C R rows pk) (h0 : 0 < E.length) :
    Calls Try.prog 62 #[.pointer (some ⟨mb, 0, none⟩)] w fun e w' => ∃ (j : Nat) (x : K3i) (t : List K3i) (A : Option Addr) (c : Nat), R[j]? = some (x :: t) ∧ (∀ (i : Nat) (y : K3i) (u : List K3i), R[i]? = some (y :: u) → ltK y x = false ∧ (i < j → ltK x y = true)) ∧ x.2.2.length ≤ c ∧
      e = .returned (.tuple #[.agg #[.string x.1, .int .i64 x.2.1, .slice A x.2.2.length c], .bool true]) ∧ ∃ E' C' rows', Mrg S E' C' (R.set j t) rows' pk ∧ C'.map Cu.run = C.map Cu.run ∧ (A, c, x.2.2) ∈ rows' ∧ (∀ r ∈ rows, r ∈ rows') ∧ St w0 w' (mrgL mb sb Ac cc pk E' C' S rows' l) := by
  obtain ⟨j, x, t, hr, hRj, hk, hs, hn, hnc, hin, hmin⟩ := hM.heads.root h0
  have hpop := hM.heads.pop h0 hr
  have hT : (R.map List.tail)[j]? = some t := by rw [List.getElem?_map, hRj]; rfl
  have hjl : j < R.length := (List.getElem?_eq_some_iff.1 hRj).1
  have hR0 : (R.set j [])[j]? = some [] := List.getElem?_set_self hjl
  have hpl := popE_len E
  obtain ⟨xb, hxb⟩ : ∃ xb, xb = w.heap.size := ⟨_, rfl⟩
  have hs1 := h.boxX ⟨⟨#[]⟩, 0, none, 0, 0⟩ xb hxb
  have HS1 : Hid (St w0 (w.alloc (Obj.cells #[.string ⟨#[]⟩, .int .i64 0, .slice none 0 0] 44)) (blkP xb 44 [.string ⟨#[]⟩, .int .i64 0, .slice none 0 0] :: mrgL mb sb Ac cc pk E C S rows l)) := Lib.hid hs1
  have HM := Lib.hid hM
  have H0 := Lib.hid h0
  have HP := Lib.hid (And.intro hpop (And.intro hT (And.intro hR0 hpl)))
  have HIN := Lib.hid (And.intro hin (And.intro hRj (And.intro hmin hjl)))
  generalize he0 : gE E 0 = e0 at hr hk hs hn hnc HIN
  have HE0 := Lib.hid he0
  clear h hs1 hM h0 he0 hpop hT hR0 hpl hin hRj hmin hjl
  obtain ⟨k, s, A, n, c, r⟩ := e0
  dsimp only at hr hk hs hn hnc HIN
  subst hr hk hs hn
  go_enter Try.func62, Try.ntmps62
  go_upto_region 1 with fail
  rw [← hxb]
  clear hxb
  generalize w.alloc (Obj.cells #[.string ⟨#[]⟩, .int .i64 0, .slice none 0 0] 44) = w1 at HS1 ⊢
  go_wp2_with fail
  refine (St.heap_pop HS1.out.swap H0.out HM.out.few).mono ?_
  rintro e w2 ⟨rfl, hs2⟩
  rw [HE0.out]
  dsimp only [valE]
  have HS2 := Lib.hid hs2.swap
  clear hs2 HS1
  obtain ⟨eb, heb⟩ : ∃ eb, eb = w2.heap.size := ⟨_, rfl⟩
  have hs3 := HS2.out.boxB [.string x.1, .int .i64 x.2.1, .slice A x.2.2.length c, .int .i64 (j : Int)] 128 eb heb
  have HS3 : Hid (St w0 (w2.alloc (Obj.cells #[.string x.1, .int .i64 x.2.1, .slice A x.2.2.length c, .int .i64 (j : Int)] 128)) _) := Lib.hid hs3
  clear hs3 HS2
  go_upto_region 2 with fail
  rw [← heb]
  clear heb
  generalize w2.alloc (Obj.cells #[.string x.1, .int .i64 x.2.1, .slice A x.2.2.length c, .int .i64 (j : Int)] 128) = w3 at HS3 ⊢
  have b3 := HS3.out.blk.1.cell 3
  simp only [List.getElem_cons_zero, List.getElem_cons_succ, List.getElem?_cons_zero, List.getElem?_cons_succ] at b3
  go_wp2_with fail
  have hs4 : St w0 w3 (mrgL mb sb Ac cc pk (popE E) C S rows (blkP eb 128 [.string x.1, .int .i64 x.2.1, .slice A x.2.2.length c, .int .i64 (j : Int)] :: blkP xb 44 [.string ⟨#[]⟩, .int .i64 0, .slice none 0 0] :: l)) :=
    (((((((HS3.out.mv 1 (by simp [mrgL])).mv 1 (by simp)).mv 6 (by simp)).mv 6 (by simp)).mv 6 (by simp)).mv 6 (by simp)).mv 6 (by simp))
  refine (pull_any hs4 HM.out.curs HP.out.1 HP.out.2.1 HP.out.2.2.1 (by have := HP.out.2.2.2; have := HM.out.few; omega)).mono ?_
  rintro e w4 ⟨rfl, E', C', rows', hH', hC', hCl, hsub, hEl, hs5⟩
  have hle := HM.out.le
  have h00 := H0.out
  have hpl := HP.out.2.2.2
  have hpk : (if t = [] then pk else max pk (((popE E).length + 1 : Nat) : Int)) = pk := by split <;> omega
  rw [hpk] at hs5
  have hM' : Mrg S E' C' (R.set j t) rows' pk := by
    refine ⟨?_, ?_, ?_, ?_⟩
    · rw [List.set_set] at hH'; exact hH'
    · rw [List.map_set]; exact hC'
    · omega
    · have := HM.out.few; omega
  have HFIN := Lib.hid (And.intro hM' (And.intro hCl (And.intro (hsub _ HIN.out.1) (And.intro hsub hnc))))
  clear hle h00 hpl hpk hM' hH' hC' hCl hsub hEl hs4 b3 HS3
  have HS5 : Hid (St w0 w4 (blkP eb 128 [.string x.1, .int .i64 x.2.1, .slice A x.2.2.length c, .int .i64 (j : Int)] :: blkP xb 44 [.string ⟨#[]⟩, .int .i64 0, .slice none 0 0] :: mrgL mb sb Ac cc pk E' C' S rows' l)) := Lib.hid ((hs5.mv 6 (by simp [mrgL])).mv 6 (by simp [mrgL]))
  clear hs5 hnc
  have ho := HS5.out.blk.1
  have hr := HS5.out.tail.blk.1
  have y0 := ho.cell 0
  have y1 := ho.cell 1
  have y2 := ho.cell 2
  have p0 := hr.cell 0
  have p1 := hr.cell 1
  have p2 := hr.cell 2
  have pf0 := hr.free 0
  have pf1 := hr.free 1
  have pf2 := hr.free 2
  simp only [List.getElem_cons_zero, List.getElem_cons_succ, List.getElem?_cons_zero, List.getElem?_cons_succ] at y0 y1 y2 p0 p1 p2
  have hs8 := ((HS5.out.tail.set 0 (.string x.1)).set 1 (.int .i64 x.2.1)).set 2 (.slice A x.2.2.length c)
  simp only [List.getElem_cons_zero, List.getElem_cons_succ, List.set_cons_zero, List.set_cons_succ] at hs8
  have HS8 := Lib.hid hs8
  clear ho hr hs8 HS5
  go_wp2_with fail
  refine bodyPost_ret (results_it2 rfl _ xb ⟨x.1, x.2.1, A, x.2.2.length, c⟩ _ rfl HS8.out.blk.1) rfl ?_
  exact ⟨j, x, t, A, c, HIN.out.2.1, HIN.out.2.2.1, HFIN.out.2.2.2.2, rfl, E', C', rows', HFIN.out.1, HFIN.out.2.1, HFIN.out.2.2.1, HFIN.out.2.2.2.1, HS8.out.tail⟩
end
end Go.Proofs.Ytkglkpcpgdeneaa
namespace Go.Proofs.Ytkglkpcpgdeneaa
open Go.RowKit
set_option linter.unusedVariables false
set_option linter.unusedSimpArgs false

theorem infoCur : (Try.prog.info? 47).map (fun i => (i.zero, i.size, i.bytes)) = some (some (.pointer none), 1, 8) := by kernel_rfl
/-- Runs and what they hold. -/
structure HasRuns (S : StoreM) (ids : List Int) (Ks : List (List K3i)) : Prop where
  len : ids.length = Ks.length
  at_ : ∀ (j : Nat) (id : Int) (K : List K3i), ids[j]? = some id → Ks[j]? = some K → S.find id = some (flatK K) ∧ (∀ x ∈ K, mayK x = true) ∧ sumK K ≤ 1000000000
theorem Curs.grow {S : StoreM} {C : List Cu} {T : List (List K3i)} (h : Curs S C T) {c : Cu} {K : List K3i} (h1 : S.find c.run = some (flatK K)) (h2 : ∀ x ∈ K, mayK x = true) (h3 : sumK K ≤ 1000000000) (h4 : c.at_ = 0) : Curs S (C ++ [c]) (T ++ [K]) := by
  refine ⟨by simp [h.len], fun j c' t' hc ht => ?_⟩
  rcases Nat.lt_or_ge j C.length with hl | hl
  · rw [List.getElem?_append_left hl] at hc
    rw [List.getElem?_append_left (by rw [← h.len]; exact hl)] at ht
    exact h.at_ j c' t' hc ht
  · rw [List.getElem?_append_right hl] at hc
    rw [List.getElem?_append_right (by rw [← h.len]; exact hl), ← h.len] at ht
    cases e : j - C.length with
    | zero =>
      rw [e] at hc ht
      simp at hc ht
      subst hc ht
      exact ⟨K, [], h1, h2, h3, rfl, h4⟩
    | succ k => rw [e] at hc; simp at hc
section
variable {w0 w : World} {l : List Part} {sb : Nat} {S : StoreM}
/-- A merger in the making. -/
def MkM (w0 : World) (l : List Part) (mb sb : Nat) (S : StoreM) (ids : List Int) (Ks : List (List K3i)) (i : Nat) (w : World) : Prop :=
  ∃ Ac cc E C rows, Mrg S E C (Ks.take i) rows (fullN (Ks.take i)) ∧ E.length = fullN (Ks.take i) ∧ C.map Cu.run = ids.take i ∧ St w0 w (mrgL mb sb Ac cc (fullN (Ks.take i)) E C S rows l)
theorem fullN_app (R : List (List K3i)) (t : List K3i) : fullN (R ++ [t]) = fullN R + min 1 t.length := by
  unfold fullN
  rw [List.filter_append, List.length_append]
  cases t <;> simp
theorem fullN_le (R : List (List K3i)) : fullN R ≤ R.length := List.length_filter_le _ _
set_option maxRecDepth 100000 in
set_option maxHeartbeats 3000000 in
theorem sort_open (h : St w0 w (storeP sb S :: l)) (A : Option Addr) (n c : Nat) (ids : List Int) (hrd : ∀ u, St w0 u l → RdV u A (ints ids)) (hn : n = ids.length) (Ks : List (List K3i)) (hK : HasRuns S ids Ks) (hl : ids.length ≤ 100000) :
    Calls Try.prog 61 #[.pointer (some ⟨sb, 0, none⟩), .slice A n c] w fun e w' => ∃ mb, e = .returned (.pointer (some ⟨mb, 0, none⟩)) ∧ MkM w0 l mb sb S ids Ks Ks.length w' := by
  subst hn
  obtain ⟨mb, hmb⟩ : ∃ mb, mb = w.heap.size := ⟨_, rfl⟩
  have hs0 : St w0 (w.alloc (Obj.cells #[.slice none 0 0, .slice none 0 0, .int .i64 0] 114)) (heapP mb (.slice none 0 0) (.int .i64 0) [] :: ownP 47 1 (.slice none 0 0) 0 [] :: allP [] :: rdsP [] :: storeP sb S :: l) := by
    rw [hmb]
    exact St.heap_new (((h.rds).all_nil).nil 47 1)
  have hk0 : MkM w0 l mb sb S ids Ks 0 (w.alloc (Obj.cells #[.slice none 0 0, .slice none 0 0, .int .i64 0] 114)) :=
    ⟨none, 0, [], [], [], ⟨Heads.nil, ⟨rfl, fun j c t hc _ => by simp at hc⟩, by simp [fullN], by simp⟩, rfl, rfl, hs0⟩
  have HRD := Lib.hid (And.intro hrd (And.intro hK hl))
  have HK0 := Lib.hid hk0
  have q0 : (ids.length : Int) ≤ 100000 := by omega
  have HW := Lib.hid h
  clear h hs0 hk0 hrd hK hl HW
  go_enter Try.func61, Try.ntmps61
  go_upto_region 2 with fail
  rw [← hmb]
  generalize hw1 : w.alloc (Obj.cells #[.slice none 0 0, .slice none 0 0, .int .i64 0] 114) = w1 at HK0 ⊢
  clear hw1 hmb
  go_wp2_with fail
  go_loopw [12] (fun v12 wr => ∃ i : Nat, i ≤ ids.length ∧ v12 = .int .i64 i ∧ Hid (MkM w0 l mb sb S ids Ks i wr)) (fun v12 _ => ids.length - (intOf v12).toNat)
  case atStart => exact ⟨0, Nat.zero_le _, rfl, HK0⟩
  case round =>
    clear HK0
    obtain ⟨i, hi, rfl, HK⟩ := hrel
    obtain ⟨Ac, cc, E, C, rows, hM, hEl, hCr, hs⟩ := HK.out
    have hCl : C.length = i := by have h1 := congrArg List.length hCr; rw [List.length_map, List.length_take] at h1; omega
    have HCR := Lib.hid hCr
    clear hCr
    by_cases hlt : i < ids.length
    · have q1 : (i : Int) < (ids.length : Int) := by omega
      obtain ⟨run, hrun⟩ : ∃ run, ids[i]? = some run := ⟨_, List.getElem?_eq_getElem hlt⟩
      obtain ⟨a, rfl, hc⟩ := HRD.out.1 wr ((hs.mv 4 (by simp [mrgL])).tail.tail.tail.tail.tail) i (.int .i64 run) (by simp [ints, hrun])
      unfold mrgL at hs
      rw [hCl] at hs
      obtain ⟨LL, hLL⟩ : ∃ LL, LL = allP (C.map (cuP sb)) :: rdsP rows :: storeP sb S :: l := ⟨_, rfl⟩
      obtain ⟨CV, hCV⟩ : ∃ CV, CV = C.map cuV := ⟨_, rfl⟩
      obtain ⟨pk, hpk⟩ : ∃ pk, pk = fullN (Ks.take i) := ⟨_, rfl⟩
      rw [← hLL, ← hCV, ← hpk] at hs
      have HS := Lib.hid hs
      have HX := Lib.hid (And.intro hM (And.intro hEl (And.intro hCl (And.intro hLL (And.intro hCV (And.intro hpk (And.intro hrun hlt)))))))
      have HIC := Lib.hid infoCur
      have HI6 : Hid (i ≤ 100000) := Lib.hid (by have := HRD.out.2.2; omega)
      clear hs hM hEl hCl hLL hCV hpk hrun hlt HK hi
      go_wp2_with fail
      clear hc
      refine wp_region_N default 10 [0, 1, 2, 3, 4, 5, 6, 7, 8, 9] [7, 8, 9] (fun u u' => Hid (u.cell? ⟨mb, 1, none⟩ = some (.slice Ac i cc)) → Hid (u'.cell? ⟨mb, 1, none⟩ = some (.slice Ac i cc))) (fun u => Hid (u.cell? ⟨mb, 1, none⟩ = some (.slice Ac i cc)))
        (fun u => St w0 u (heapP mb (.slice Ac i cc) (.int .i64 pk) E :: ownP 47 1 (.slice Ac i cc) i CV :: LL)) (by kernel_rfl) (by kernel_rfl) (fun _ _ h t => t h) (Lib.hid HS.out.drew.heap_tl.1) HS.out.drew ?_
      simp only [List.map_cons, List.map_nil, List.getD_cons_succ, List.getD_cons_zero]
      repeat (
        (apply wpN_val
         · rfl
         · intro u hu
           have c1 := hu.out
           clear hu
           (go_simp <;> with_reducible rfl)
         simp only [Act.put, List.setIfInBounds_toArray, List.set_cons_zero, List.set_cons_succ]))
      refine wpN_move (fun v u => Hid (∃ cb : Nat, v = .pointer (some ⟨cb, 0, none⟩) ∧ St w0 u (blkP cb 98 (curC (some ⟨sb, 0, none⟩) run 0) :: heapP mb (.slice Ac i cc) (.int .i64 pk) E :: ownP 47 1 (.slice Ac i cc) i CV :: LL))) (by decide) rfl ?_ ?_
      · intro u hD hS
        have HCC := Lib.hid (St.cur_open hS (some ⟨sb, 0, none⟩) run)
        clear hD hS
        unfold gotAt
        go_simp
        unfold gotUpon
        refine HCC.out.mono ?_
        rintro e w6 ⟨cb, rfl, hs6⟩
        exact ⟨_, rfl, fun _ => Lib.hid hs6.tail.heap_tl.1, Lib.hid ⟨cb, rfl, hs6⟩⟩
      intro v7
      simp only [Act.put, List.setIfInBounds_toArray, List.set_cons_zero, List.set_cons_succ]
      refine wpN_move (fun v u => Hid (∃ cb b : Nat, v = .slice (some ⟨b, 0, none⟩) 1 1 ∧ St w0 u (blkP b 47 [.pointer (some ⟨cb, 0, none⟩)] :: blkP cb 98 (curC (some ⟨sb, 0, none⟩) run 0) :: heapP mb (.slice Ac i cc) (.int .i64 pk) E :: ownP 47 1 (.slice Ac i cc) i CV :: LL))) (by decide) rfl ?_ ?_
      · intro u hD hH
        obtain ⟨cb, rfl, hS⟩ := hH.out
        have h1 := hS.boxB [.pointer (some ⟨cb, 0, none⟩)] 47 u.heap.size rfl
        unfold gotAt
        go_simp
        exact ⟨fun _ => Lib.hid h1.tail.tail.heap_tl.1, Lib.hid ⟨cb, _, rfl, h1⟩⟩
      intro v8
      simp only [Act.put, List.setIfInBounds_toArray, List.set_cons_zero, List.set_cons_succ]
      refine wpN_move (fun v u => Hid (∃ (cb : Nat) (A7 : Option Addr) (c7 : Nat), v = .slice A7 (i + 1) c7 ∧ St w0 u (heapP mb (.slice Ac i cc) (.int .i64 pk) E :: ownP 47 1 (.slice A7 (i + 1) c7) (i + 1) (CV ++ [.pointer (some ⟨cb, 0, none⟩)]) :: blkP cb 98 (curC (some ⟨sb, 0, none⟩) run 0) :: LL))) (by decide) rfl ?_ ?_
      · rintro u hD hH
        obtain ⟨cb, b, rfl, hS⟩ := hH.out
        refine got_append_st _ (.tmp 21) (.tmp 25) 112 112 rfl 47 (.pointer none) 1 8 Try.underlying112 HIC.out rfl (by decide) (.slice Ac i cc) i CV rfl (hS.mv 3 (by simp)) (.slice (some ⟨b, 0, none⟩) 1 1) 1 [.pointer (some ⟨cb, 0, none⟩)] rfl (Src.of_rd Try.underlying112 hS.blk_rd 1 1 rfl (by intro v hv; rw [List.mem_singleton.1 hv]; rfl) (fun e => by cases e)) (by have := HI6.out; unfold maxLen; omega) (by have := HI6.out; omega) ?_
        intro A7 c7 w7 hc7 hn7 hs7
        have h2 := ((hs7.mv 1 (by simp)).tail)
        have h3 := ((h2.mv 2 (by simp)))
        exact ⟨fun _ => Lib.hid h3.heap_tl.1, Lib.hid ⟨cb, A7, c7, rfl, h3⟩⟩
      intro v9
      simp only [Act.put, List.setIfInBounds_toArray, List.set_cons_zero, List.set_cons_succ]
      refine wpN_nil ?_
      refine heldN_end (by kernel_rfl) ?_
      rintro u _ hH
      obtain ⟨cb, A7, c7, rfl, hS⟩ := hH.out
      simp only [List.drop_succ_cons, List.drop_zero]
      obtain ⟨c1, _, f1, _⟩ := hS.heap_tl
      have hs9 := hS.heap_set1 (v := .slice A7 (i + 1) c7)
      have HS9 := Lib.hid hs9
      clear hS hs9 hH HS
      go_upto_region 6 with fail
      generalize u.setCell ⟨mb, 1, none⟩ (.slice A7 (i + 1) c7) = w8 at HS9 ⊢
      clear c1 f1
      obtain ⟨hM, hEl, hCl, hLL, hCV, hpk, hrun, hlt⟩ := HX.out
      have hKl : i < Ks.length := by have := HRD.out.2.1.len; omega
      obtain ⟨K, hK⟩ : ∃ K, Ks[i]? = some K := ⟨_, List.getElem?_eq_getElem hKl⟩
      obtain ⟨k1, k2, k3⟩ := HRD.out.2.1.at_ i run K hrun hK
      have htk : Ks.take (i + 1) = Ks.take i ++ [K] := by
        rw [List.take_succ_eq_append_getElem hKl]
        rw [List.getElem?_eq_getElem hKl] at hK
        injection hK with hK
        rw [hK]
      have htl : (Ks.take i).length = i := by rw [List.length_take]; omega
      have hs1 : St w0 w8 (mrgL mb sb A7 c7 pk E (C ++ [⟨cb, run, 0⟩]) S rows l) := by
        have h1 := HS9.out
        rw [hLL, hCV] at h1
        unfold mrgL
        rw [List.length_append, List.length_singleton, hCl, List.map_append, List.map_append]
        exact (((St.all_add (p := cuP sb ⟨cb, run, 0⟩) ((h1.mv 3 (by simp)).mv 3 (by simp))).mv 2 (by simp)).mv 2 (by simp))
      have hgrow : Curs S (C ++ [⟨cb, run, 0⟩]) ((Ks.take i).map List.tail ++ [K]) := hM.curs.grow k1 k2 k3 rfl
      have HP := Lib.hid (pull_any (n := i) (t := K) hs1 hgrow hM.heads.grow (by rw [List.getElem?_append_right (by rw [List.length_map, htl]; exact Nat.le_refl _), List.length_map, htl, Nat.sub_self]; rfl) (by rw [List.getElem?_append_right (by rw [htl]; exact Nat.le_refl _), htl, Nat.sub_self]; rfl) (by rw [hEl]; have := fullN_le (Ks.take i); have := HI6.out; omega))
      have HQR := Lib.hid hrun
      have HQ := Lib.hid (And.intro htk (And.intro htl (And.intro hM (And.intro hEl (And.intro hCl (And.intro hpk hlt))))))
      clear hs1 hgrow k1 k2 k3 hK hM hEl hCl hLL hCV hpk hrun hlt hKl htk htl HS9
      go_wp2_with fail
      refine HP.out.mono ?_
      rintro e w9 ⟨rfl, E', C', rows', hH, hC, hCl', hsub, hEl', hs⟩
      have hmk : MkM w0 l mb sb S ids Ks (i + 1) w9 := by
        obtain ⟨htk, htl, hM, hEl, hCl, hpk, hlt⟩ := HQ.out
        have hf : fullN (Ks.take (i + 1)) = fullN (Ks.take i) + min 1 K.length := by rw [htk, fullN_app]
        have hE2 : E'.length = fullN (Ks.take (i + 1)) := by rw [hEl', hEl, hf]
        have hp2 : (if K = [] then (pk : Int) else max (pk : Int) ((E.length + 1 : Nat) : Int)) = ((fullN (Ks.take (i + 1)) : Nat) : Int) := by
          rw [hf, hpk, hEl]
          cases K with
          | nil => simp
          | cons x K => rw [if_neg (by simp)]; simp only [List.length_cons]; omega
        rw [hp2] at hs
        have e1 : (Ks.take i ++ [[]]).set i K = Ks.take (i + 1) := by rw [htk, List.set_append_right _ _ (by omega), htl]; simp
        have e2 : ((Ks.take i).map List.tail ++ [K]).set i K.tail = (Ks.take (i + 1)).map List.tail := by
          rw [htk, List.set_append_right _ _ (by rw [List.length_map, htl]; exact Nat.le_refl _), List.map_append, List.length_map, htl, Nat.sub_self]; rfl
        rw [e1] at hH
        rw [e2] at hC
        refine ⟨A7, c7, E', C', rows', ⟨hH, hC, by rw [hE2]; exact Int.le_refl _, ?few⟩, hE2, ?_, hs⟩
        rotate_left
        · rw [hCl', List.map_append, HCR.out, List.take_succ_eq_append_getElem hlt]
          have h5 := HQR.out
          rw [List.getElem?_eq_getElem hlt] at h5
          injection h5 with h5
          rw [h5]
          rfl
        have := fullN_le (Ks.take (i + 1))
        have h3 := HI6.out
        rw [hE2]
        simp only [List.length_take] at this
        omega
      have HMK := Lib.hid hmk
      clear hmk hH hC hCl' hsub hEl' hs HP
      go_wp2_with fail
      go_roundw
      case rel => exact ⟨i + 1, HQ.out.2.2.2.2.2.2, by go_num, HMK⟩
      case measure => have := HQ.out.2.2.2.2.2.2; simp [intOf]; omega
    · have q1 : ¬ (i : Int) < (ids.length : Int) := by omega
      have hi2 : i = Ks.length := by have := HRD.out.2.1.len; omega
      have HI := Lib.hid hi2
      clear hlt hi hM hEl hCl hs hi2
      go_wp2_with fail
      go_ret
      exact ⟨mb, rfl, by rw [← HI.out]; exact HK.out⟩
/-- What check tells. -/
def chkE (S : StoreM) (ids : List Int) : Int := if ids.all (fun id => (S.find id).isSome) then 0 else 14
theorem chkE_in {S : StoreM} {ids : List Int} {j : Nat} {id : Int} (hj : ids[j]? = some id) (hf : S.find id = none) : chkE S ids = 14 := by
  unfold chkE
  rw [if_neg]
  intro h
  rw [List.all_eq_true] at h
  have := h id (List.mem_iff_getElem?.2 ⟨j, hj⟩)
  rw [hf] at this
  cases this
theorem chkE_all {S : StoreM} {ids : List Int} (h : ∀ (j : Nat) (id : Int), ids[j]? = some id → S.find id ≠ none) : chkE S ids = 0 := by
  unfold chkE
  rw [if_pos]
  rw [List.all_eq_true]
  intro id hid
  obtain ⟨j, hj⟩ := List.mem_iff_getElem?.1 hid
  exact Option.isSome_iff_ne_none.2 (h j id hj)
set_option maxRecDepth 100000 in
set_option maxHeartbeats 3000000 in
theorem sort_check (h : St w0 w (storeP sb S :: l)) (A : Option Addr) (n c : Nat) (ids : List Int) (hrd : ∀ u, St w0 u l → RdV u A (ints ids)) (hn : n = ids.length) (hl : ids.length ≤ 100000) (hlen : ∀ id bs, S.find id = some bs → bs.length ≤ 1000000000) (E : Int) (hE : chkE S ids = E) :
    Calls Try.prog 60 #[.pointer (some ⟨sb, 0, none⟩), .slice A n c] w fun e w' => e = .returned (.int .i64 E) ∧ St w0 w' (storeP sb S :: l) := by
  subst hn hE
  have q0 : (ids.length : Int) ≤ 100000 := by omega
  have HRD := Lib.hid (And.intro hrd (And.intro hl hlen))
  have HS := Lib.hid h
  clear h hrd hl hlen
  go_enter Try.func60, Try.ntmps60
  go_upto_region 4 with fail
  go_loopw [13] (fun v13 wr => ∃ i : Nat, i ≤ ids.length ∧ v13 = .int .i64 i ∧ Hid (∀ (j : Nat) (id : Int), j < i → ids[j]? = some id → S.find id ≠ none) ∧ Hid (St w0 wr (storeP sb S :: l))) (fun v13 _ => ids.length - (intOf v13).toNat)
  case atStart => exact ⟨0, Nat.zero_le _, rfl, Lib.hid (fun j id h => absurd h (by omega)), HS⟩
  case round =>
    clear HS
    obtain ⟨i, hi, rfl, HF, HS⟩ := hrel
    by_cases hlt : i < ids.length
    · have q1 : (i : Int) < (ids.length : Int) := by omega
      obtain ⟨run, hrun⟩ : ∃ run, ids[i]? = some run := ⟨_, List.getElem?_eq_getElem hlt⟩
      obtain ⟨a, rfl, hc⟩ := HRD.out.1 wr HS.out.tail i (.int .i64 run) (by simp [ints, hrun])
      have HX := Lib.hid (And.intro hrun hlt)
      clear hrun hlt
      go_wp2_with fail
      clear hc
      cases hf : S.find run with
      | none =>
        have HFN := Lib.hid hf
        clear hf
        refine (St.store_read_no HS.out run 0 0 HFN.out).mono ?_
        rintro e w5 ⟨rfl, rfl⟩
        go_wp2_with fail
        go_ret
        exact ⟨by rw [chkE_in HX.out.1 HFN.out]; rfl, HS.out⟩
      | some bs =>
        have HFN := Lib.hid hf
        clear hf
        refine (St.store_read HS.out run 0 0 0 0 0 rfl rfl bs [] HFN.out (Nat.zero_le _) (by decide) (by simp) (by have := HRD.out.2.2 run bs HFN.out; omega) (by simp)).mono ?_
        rintro e w5 ⟨A5, c5, rfl, hc5, hA5, hs5⟩
        have HS5 := Lib.hid hs5.tail
        clear hs5 hc5 hA5 HS
        go_wp2_with fail
        go_roundw
        case rel =>
          refine ⟨i + 1, HX.out.2, by go_num, Lib.hid (fun j id hj hid => ?_), HS5⟩
          rcases Nat.lt_or_ge j i with h1 | h1
          · exact HF.out j id h1 hid
          · have : j = i := by omega
            subst this
            rw [HX.out.1] at hid
            injection hid with hid
            subst hid
            rw [HFN.out]
            exact fun h => by cases h
        case measure => have := HX.out.2; simp [intOf]; omega
    · have q1 : ¬ (i : Int) < (ids.length : Int) := by omega
      have hi2 : i = ids.length := by omega
      have HI := Lib.hid hi2
      clear hlt hi hi2
      go_wp2_with fail
      go_ret
      refine ⟨?_, HS.out⟩
      rw [chkE_all (fun j id hj => HF.out j id (by rw [HI.out]; exact (List.getElem?_eq_some_iff.1 hj).1) hj)]
      rfl
set_option maxRecDepth 100000 in
theorem sort_check_nil (w : World) (A : Option Addr) (n c : Nat) :
    Calls Try.prog 60 #[.pointer none, .slice A n c] w fun e w' => e = .returned (.int .i64 1) ∧ w' = w := by
  go_enter Try.func60, Try.ntmps60
  go_wp2_with fail
  go_ret
  exact ⟨rfl, rfl⟩
end
end Go.Proofs.Ytkglkpcpgdeneaa
namespace Go.Proofs.Ytkglkpcpgdeneaa
open Go.RowKit
set_option linter.unusedVariables false
set_option linter.unusedSimpArgs false

/-- Items whose bytes lie in rows. -/
def OutX (rows : RowsM) (X : List ItX) : Prop := ∀ x ∈ X, x.1.n = x.2.length ∧ x.1.n ≤ x.1.c ∧ (x.1.A, x.1.c, x.2) ∈ rows
theorem OutX.nil (rows : RowsM) : OutX rows [] := fun _ h => (List.not_mem_nil h).elim
theorem OutX.more {rows rows' : RowsM} {X : List ItX} (h : OutX rows X) (hs : ∀ r ∈ rows, r ∈ rows') : OutX rows' X := fun x hx => ⟨(h x hx).1, (h x hx).2.1, hs _ (h x hx).2.2⟩
theorem OutX.snoc {rows : RowsM} {X : List ItX} (h : OutX rows X) {x : ItX} (hx : x.1.n = x.2.length ∧ x.1.n ≤ x.1.c ∧ (x.1.A, x.1.c, x.2) ∈ rows) : OutX rows (X ++ [x]) := by
  intro y hy
  rcases List.mem_append.1 hy with hy | hy
  · exact h y hy
  · rw [List.mem_singleton.1 hy]; exact hx
section
variable {w0 w : World} {l : List Part} {sb : Nat} {S : StoreM}
theorem St.out_dat {rows : RowsM} (h : St w0 w (rdsP rows :: l)) {X : List ItX} (hX : OutX rows X) : ∀ x ∈ X, DatI w x.1 x.2 := by
  intro x hx
  obtain ⟨h1, h2, h3⟩ := hX x hx
  have h4 := h.rds_at _ h3
  exact ⟨h1, h2, h4.1, h4.2⟩
theorem St.mrg_in {p : Part} {w : World} {mb : Nat} {Ac : Option Addr} {cc : Nat} {pk : Int} {E : List En} {C : List Cu} {rows : RowsM} (h : St w0 w (p :: mrgL mb sb Ac cc pk E C S rows l)) : St w0 w (mrgL mb sb Ac cc pk E C S rows (p :: l)) := by
  unfold mrgL at h ⊢
  exact (((((h.mv 5 (by simp)).mv 5 (by simp)).mv 5 (by simp)).mv 5 (by simp)).mv 5 (by simp))
theorem St.mrg_in1 {p q : Part} {w : World} {mb : Nat} {Ac : Option Addr} {cc : Nat} {pk : Int} {E : List En} {C : List Cu} {rows : RowsM} (h : St w0 w (p :: q :: mrgL mb sb Ac cc pk E C S rows l)) : St w0 w (q :: mrgL mb sb Ac cc pk E C S rows (p :: l)) := by
  unfold mrgL at h ⊢
  exact ((((((h.mv 6 (by simp)).mv 6 (by simp)).mv 6 (by simp)).mv 6 (by simp)).mv 6 (by simp)).mv 6 (by simp))
theorem St.mrg_out1 {p q : Part} {w : World} {mb : Nat} {Ac : Option Addr} {cc : Nat} {pk : Int} {E : List En} {C : List Cu} {rows : RowsM} (h : St w0 w (q :: mrgL mb sb Ac cc pk E C S rows (p :: l))) : St w0 w (p :: q :: mrgL mb sb Ac cc pk E C S rows l) :=
  h.mv 6 (by simp [mrgL])
theorem St.mrg_out {p : Part} {w : World} {mb : Nat} {Ac : Option Addr} {cc : Nat} {pk : Int} {E : List En} {C : List Cu} {rows : RowsM} (h : St w0 w (mrgL mb sb Ac cc pk E C S rows (p :: l))) : St w0 w (p :: mrgL mb sb Ac cc pk E C S rows l) :=
  h.mv 5 (by simp [mrgL])
/-- What has come, and what is left. -/
def Bare (w0 : World) (l : List Part) (mb sb : Nat) (S : StoreM) (Ks : List (List K3i)) (Ao : Option Addr) (co : Nat) (X : List ItX) (w : World) : Prop :=
  ∃ (Ac : Option Addr) (cc : Nat) (E : List En) (C : List Cu) (rows : RowsM) (R : List (List K3i)), Mrg S E C R rows (fullN Ks) ∧ AllSrt R ∧ OutX rows X ∧ srt ltK Ks.flatten = X.map keyX ++ srt ltK R.flatten ∧
    St w0 w (ownP 44 3 (.slice Ao X.length co) X.length (flatI (X.map Prod.fst)) :: mrgL mb sb Ac cc (fullN Ks) E C S rows l)
/-- The same, one more being at hand (or none). -/
def Left (w0 : World) (l : List Part) (mb sb : Nat) (S : StoreM) (Ks : List (List K3i)) (Ao : Option Addr) (co : Nat) (X : List ItX) (x : It) (ok : Bool) (w : World) : Prop :=
  ∃ (Ac : Option Addr) (cc : Nat) (E : List En) (C : List Cu) (rows : RowsM) (R : List (List K3i)), Mrg S E C R rows (fullN Ks) ∧ AllSrt R ∧ OutX rows X ∧
    (ok = true → ∃ d, OutX rows [(x, d)] ∧ srt ltK Ks.flatten = X.map keyX ++ keyX (x, d) :: srt ltK R.flatten) ∧ (ok = false → srt ltK Ks.flatten = X.map keyX) ∧
    St w0 w (ownP 44 3 (.slice Ao X.length co) X.length (flatI (X.map Prod.fst)) :: mrgL mb sb Ac cc (fullN Ks) E C S rows l)
theorem Bare.next {mb : Nat} {Ks : List (List K3i)} {Ao : Option Addr} {co : Nat} {X : List ItX} (h : Bare w0 l mb sb S Ks Ao co X w) :
    Calls Try.prog 62 #[.pointer (some ⟨mb, 0, none⟩)] w fun e w' => ∃ (x : It) (ok : Bool), e = .returned (.tuple #[.agg #[.string x.k, .int .i64 x.s, .slice x.A x.n x.c], .bool ok]) ∧ Left w0 l mb sb S Ks Ao co X x ok w' := by
  obtain ⟨Ac, cc, E, C, rows, R, hM, hA, hX, hE, hs⟩ := h
  by_cases h0 : E.length = 0
  · refine (next_no hs.mrg_in h0).mono ?_
    rintro e w' ⟨rfl, hs'⟩
    refine ⟨it0, false, rfl, Ac, cc, E, C, rows, R, hM, hA, hX, (fun h => nomatch h), fun _ => ?_, hs'.mrg_out⟩
    rw [List.eq_nil_of_length_eq_zero h0] at hM
    rw [hE, flat_nils hM.heads.empty, srt_nil', List.append_nil]
  · refine (next_yes hs.mrg_in hM (Nat.pos_of_ne_zero h0)).mono ?_
    rintro e w' ⟨j, x, t, A, c, hj, hmin, hc, rfl, E', C', rows', hM', hl', hin, hsub, hs'⟩
    refine ⟨⟨x.1, x.2.1, A, x.2.2.length, c⟩, true, rfl, Ac, cc, E', C', rows', _, hM', hA.set hj, hX.more hsub, fun _ => ⟨x.2.2, ?_, ?_⟩, (fun h => nomatch h), ?_⟩
    · intro y hy
      rw [List.mem_singleton.1 hy]
      exact ⟨rfl, hc, hin⟩
    · rw [hE, merge_step hA hj hmin]
      rfl
    · have h1 := hs'.mrg_out
      unfold mrgL at h1 ⊢
      exact h1
theorem Left.add {mb : Nat} {Ks : List (List K3i)} {Ao : Option Addr} {co : Nat} {X : List ItX} {x : It} (h : Left w0 l mb sb S Ks Ao co X x true w) : ∃ (d : List UInt8) (Ac : Option Addr) (cc : Nat) (E : List En) (C : List Cu) (rows : RowsM), X.length < Ks.flatten.length ∧ St w0 w (ownP 44 3 (.slice Ao X.length co) X.length (flatI (X.map Prod.fst)) :: mrgL mb sb Ac cc (fullN Ks) E C S rows l) ∧
    ∀ (w' : World) (A' : Option Addr) (c' : Nat) (l' : List Part), St w0 w' (ownP 44 3 (.slice A' (X.length + 1) c') (X.length + 1) (flatI (X.map Prod.fst) ++ x.cells) :: mrgL mb sb Ac cc (fullN Ks) E C S rows l') → Bare w0 l' mb sb S Ks A' c' (X ++ [(x, d)]) w' := by
  obtain ⟨Ac, cc, E, C, rows, R, hM, hA, hX, h1, _, hs⟩ := h
  obtain ⟨d, hd, he⟩ := h1 rfl
  refine ⟨d, Ac, cc, E, C, rows, ?_, hs, fun w' A' c' l' hs' => ⟨Ac, cc, E, C, rows, R, hM, hA, hX.snoc (hd _ List.mem_cons_self), ?_, ?_⟩⟩
  · have := congrArg List.length he
    rw [srtK_len, List.length_append, List.length_map, List.length_cons] at this
    omega
  · rw [he, List.map_append, List.append_assoc]; rfl
  · rw [List.length_append, List.length_singleton, List.map_append, flatI_append, show flatI ([(x, d)].map Prod.fst) = x.cells from flatI_one x]
    exact hs'
def lenV (v : Value) : Nat := match v with | .slice _ n _ => n | _ => 0
/-- What a merge leads to. -/
def MergeS (w0 : World) (l : List Part) (sb : Nat) (S : StoreM) (Ks : List (List K3i)) (e : Ending) (w' : World) : Prop :=
  ∃ (A : Option Addr) (c : Nat) (X : List ItX) (rows : RowsM), e = .returned (.tuple #[.slice A X.length c, .int .i64 (fullN Ks), .int .i64 0]) ∧ X.map keyX = srt ltK Ks.flatten ∧ OutX rows X ∧ St w0 w' (ownP 44 3 (.slice A X.length c) X.length (flatI (X.map Prod.fst)) :: rdsP rows :: storeP sb S :: l)
set_option maxRecDepth 100000 in
set_option maxHeartbeats 3000000 in
theorem merge_runs (h : St w0 w (storeP sb S :: l)) (A : Option Addr) (n c : Nat) (ids : List Int) (hrd : ∀ u, St w0 u l → RdV u A (ints ids)) (hn : n = ids.length) (Ks : List (List K3i)) (hK : HasRuns S ids Ks) (hA : AllSrt Ks) (hl : ids.length ≤ 100000) (hlen : ∀ id bs, S.find id = some bs → bs.length ≤ 1000000000) (hmany : Ks.flatten.length ≤ 1000000) :
    Calls Try.prog 42 #[.pointer (some ⟨sb, 0, none⟩), .slice A n c] w (MergeS w0 l sb S Ks) := by
  subst hn
  have hE : chkE S ids = 0 := chkE_all (fun j id hj => by
    obtain ⟨hjl, _⟩ := List.getElem?_eq_some_iff.1 hj
    have hjK : j < Ks.length := by rw [← hK.len]; exact hjl
    rw [(hK.at_ j id _ hj (List.getElem?_eq_getElem hjK)).1]
    exact fun h => nomatch h)
  have HH := Lib.hid (And.intro hrd (And.intro hK (And.intro hA (And.intro hl (And.intro hlen (And.intro hmany hE))))))
  have HS := Lib.hid h
  clear h hrd hK hA hl hlen hmany hE
  go_enter Try.func42, Try.ntmps42
  go_wp2_with fail
  refine (sort_check HS.out A ids.length c ids HH.out.1 rfl HH.out.2.2.2.1 HH.out.2.2.2.2.1 0 HH.out.2.2.2.2.2.2).mono ?_
  rintro e w1 ⟨rfl, hs1⟩
  have HS1 := Lib.hid hs1
  clear hs1 HS
  go_wp2_with fail
  refine (sort_open HS1.out A ids.length c ids HH.out.1 rfl Ks HH.out.2.1 HH.out.2.2.2.1).mono ?_
  rintro e w2 ⟨mb, rfl, hk⟩
  have hb : Bare w0 l mb sb S Ks none 0 [] w2 := by
    obtain ⟨Ac, cc, E, C, rows, hM, _, _, hs⟩ := hk
    rw [List.take_length] at hM hs
    exact ⟨Ac, cc, E, C, rows, Ks, hM, HH.out.2.2.1, OutX.nil _, rfl, hs.nil 44 3⟩
  have HB := Lib.hid hb
  clear hk hb HS1
  go_wp2_with fail
  refine HB.out.next.mono ?_
  rintro e w3 ⟨x, ok, rfl, hL⟩
  obtain ⟨xb, hxb⟩ : ∃ xb, xb = w3.heap.size := ⟨_, rfl⟩
  have hL2 : Left w0 (blkP xb 44 [.string x.k, .int .i64 x.s, .slice x.A x.n x.c] :: l) mb sb S Ks none 0 [] x ok (w3.alloc (Obj.cells #[.string x.k, .int .i64 x.s, .slice x.A x.n x.c] 44)) := by
    obtain ⟨Ac, cc, E, C, rows, R, h1, h2, h3, h4, h5, hs⟩ := hL
    exact ⟨Ac, cc, E, C, rows, R, h1, h2, h3, h4, h5, St.mrg_in1 (hs.boxX x xb hxb)⟩
  have HL := Lib.hid hL2
  clear hL hL2 HB
  go_upto_region 7 with fail
  rw [← hxb]
  clear hxb
  generalize w3.alloc (Obj.cells #[.string x.k, .int .i64 x.s, .slice x.A x.n x.c] 44) = w4 at HL ⊢
  go_loopw [9, 10, 11] (fun v9 v10 v11 wr => ∃ (Ao : Option Addr) (co : Nat) (X : List ItX) (xb : Nat) (x : It) (ok : Bool), v9 = .slice Ao X.length co ∧ v10 = .pointer (some ⟨xb, 0, none⟩) ∧ v11 = .bool ok ∧ Hid (Left w0 (blkP xb 44 [.string x.k, .int .i64 x.s, .slice x.A x.n x.c] :: l) mb sb S Ks Ao co X x ok wr)) (fun v9 _ _ _ => Ks.flatten.length - lenV v9)
  case atStart => exact ⟨none, 0, [], xb, x, ok, rfl, rfl, rfl, HL⟩
  case round =>
    clear HL
    obtain ⟨Ao, co, X, xb, x, ok, rfl, rfl, rfl, HL⟩ := hrel
    cases ok with
    | false =>
      obtain ⟨Ac, cc, E, C, rows, R, hM, hA, hX, _, hfin, hs⟩ := HL.out
      have HF := Lib.hid (And.intro hX (hfin rfl))
      have HS := Lib.hid hs.tail
      have HS2 := Lib.hid (hs.mrg_out1).tail
      clear hM hA hX hfin hs HL
      have b2 := HS.out.heap_tl.2.1
      go_upto_region 12 with fail
      go_quiet (fail)
      go_wp2_with fail
      go_ret3
      refine ⟨Ao, co, X, rows, rfl, HF.out.2.symm, HF.out.1, ?_⟩
      have h1 := HS2.out.drewN nq
      unfold mrgL at h1
      exact (((h1.swap.tail).swap.tail).swap.tail)
    | true =>
      obtain ⟨d, Ac, cc, E, C, rows, hlt, hs, hadd⟩ := HL.out.add
      have hb := hs.mrg_out1.blk.1
      have y0 := hb.cell 0
      have y1 := hb.cell 1
      have y2 := hb.cell 2
      simp only [List.getElem?_cons_zero, List.getElem?_cons_succ] at y0 y1 y2
      have HS := Lib.hid hs
      have HADD := Lib.hid hadd
      have HLT : Hid (X.length < Ks.flatten.length ∧ X.length ≤ 1000000) := Lib.hid ⟨hlt, by have := HH.out.2.2.2.2.2.1; omega⟩
      clear HL hs hadd hlt hb
      go_wp2_with (
        at_builtin
        refine wpL_push_st rfl (.tmp 32) (.tmp 34) 22 rfl 44 (.agg #[.string ⟨#[]⟩, .int .i64 0, .slice none 0 0]) 3 48 Try.underlying22 infoItg rfl (by decide) (.slice Ao X.length co) X.length (flatI (X.map Prod.fst)) rfl HS.out [.string x.k, .int .i64 x.s, .slice x.A x.n x.c] rfl (by intro u hu; simp at hu; rcases hu with rfl | rfl | rfl <;> rfl) _ rfl rfl (by have := HLT.out.2; unfold maxLen; omega) (by have := HLT.out.2; omega) ?_
        intro A7 c7 w7 _ _ hs7
        have HS7 := Lib.hid hs7
        have hb7 := hs7.mrg_out1.blk.1
        have z0 := hb7.cell 0
        have z1 := hb7.cell 1
        have z2 := hb7.cell 2
        simp only [List.getElem?_cons_zero, List.getElem?_cons_succ] at z0 z1 z2
        clear hs7 y0 y1 y2 HS hb7)
      obtain ⟨xb2, hxb2⟩ : ∃ xb2, xb2 = w7.heap.size := ⟨_, rfl⟩
      have hb2 : Bare w0 (blkP xb2 44 [.string x.k, .int .i64 x.s, .slice x.A x.n x.c] :: l) mb sb S Ks A7 c7 (X ++ [(x, d)]) (w7.alloc (Obj.cells #[.string x.k, .int .i64 x.s, .slice x.A x.n x.c] 44)) :=
        HADD.out _ A7 c7 _ (St.mrg_in1 ((HS7.out.mrg_out1.tail).boxX x xb2 hxb2))
      have HB2 := Lib.hid hb2
      rw [← hxb2]
      clear hb2 hxb2 HS7 HADD z0 z1 z2
      generalize w7.alloc (Obj.cells #[.string x.k, .int .i64 x.s, .slice x.A x.n x.c] 44) = w8 at HB2 ⊢
      have hXL : (X ++ [(x, d)]).length = X.length + 1 := by simp
      generalize X ++ [(x, d)] = X2 at HB2 hXL
      rw [← hXL]
      have HXL := Lib.hid hXL
      clear hXL
      refine HB2.out.next.mono ?_
      rintro e w9 ⟨x2, ok2, rfl, hL2⟩
      have hb2 : Blk w9 xb2 44 [.string x.k, .int .i64 x.s, .slice x.A x.n x.c] := by
        obtain ⟨Ac, cc, E, C, rows, R, _, _, _, _, _, hs⟩ := hL2
        exact hs.mrg_out1.blk.1
      have p0 := hb2.cell 0
      have p1 := hb2.cell 1
      have p2 := hb2.cell 2
      have pf0 := hb2.free 0
      have pf1 := hb2.free 1
      have pf2 := hb2.free 2
      simp only [List.getElem?_cons_zero, List.getElem?_cons_succ] at p0 p1 p2
      have hL3 : Left w0 (blkP xb2 44 [.string x2.k, .int .i64 x2.s, .slice x2.A x2.n x2.c] :: l) mb sb S Ks A7 c7 X2 x2 ok2 (((w9.setCell ⟨xb2, 0, none⟩ (.string x2.k)).setCell ⟨xb2, 1, none⟩ (.int .i64 x2.s)).setCell ⟨xb2, 2, none⟩ (.slice x2.A x2.n x2.c)) := by
        obtain ⟨Ac, cc, E, C, rows, R, h1, h2, h3, h4, h5, hs⟩ := hL2
        refine ⟨Ac, cc, E, C, rows, R, h1, h2, h3, h4, h5, St.mrg_in1 ?_⟩
        have hs8 := ((hs.mrg_out1.set 0 (.string x2.k)).set 1 (.int .i64 x2.s)).set 2 (.slice x2.A x2.n x2.c)
        simp only [List.set_cons_zero, List.set_cons_succ] at hs8
        exact hs8
      have HL3 := Lib.hid hL3
      clear hL2 hL3 hb2 HB2
      go_wp2_with fail
      go_roundw
      case rel => exact ⟨A7, c7, X2, xb2, x2, ok2, rfl, rfl, rfl, HL3⟩
      case measure => have := HLT.out; have := HXL.out; simp only [lenV]; omega
set_option maxRecDepth 100000 in
theorem merge_nil (w : World) (A : Option Addr) (n c : Nat) :
    Calls Try.prog 42 #[.pointer none, .slice A n c] w fun e w' => e = .returned (.tuple #[.slice none 0 0, .int .i64 0, .int .i64 1]) ∧ w' = w := by
  go_enter Try.func42, Try.ntmps42
  go_wp2_with fail
  refine (sort_check_nil w A n c).mono ?_
  rintro e w1 ⟨rfl, rfl⟩
  go_wp2_with fail
  go_ret3
  exact ⟨rfl, rfl⟩
set_option maxRecDepth 100000 in
theorem merge_gone (h : St w0 w (storeP sb S :: l)) (A : Option Addr) (n c : Nat) (ids : List Int) (hrd : ∀ u, St w0 u l → RdV u A (ints ids)) (hn : n = ids.length) (hl : ids.length ≤ 100000) (hlen : ∀ id bs, S.find id = some bs → bs.length ≤ 1000000000) (hE : chkE S ids = 14) :
    Calls Try.prog 42 #[.pointer (some ⟨sb, 0, none⟩), .slice A n c] w fun e w' => e = .returned (.tuple #[.slice none 0 0, .int .i64 0, .int .i64 14]) ∧ St w0 w' (storeP sb S :: l) := by
  subst hn
  have HH := Lib.hid (And.intro hrd (And.intro hl (And.intro hlen hE)))
  have HS := Lib.hid h
  clear h hrd hl hlen hE
  go_enter Try.func42, Try.ntmps42
  go_wp2_with fail
  refine (sort_check HS.out A ids.length c ids HH.out.1 rfl HH.out.2.1 HH.out.2.2.1 14 HH.out.2.2.2).mono ?_
  rintro e w1 ⟨rfl, hs1⟩
  have HS1 := Lib.hid hs1
  clear hs1 HS
  go_wp2_with fail
  go_ret3
  exact ⟨rfl, HS1.out⟩
end
end Go.Proofs.Ytkglkpcpgdeneaa
namespace Go.Proofs.Ytkglkpcpgdeneaa
open Go.RowKit
set_option linter.unusedVariables false
set_option linter.unusedSimpArgs false

/-- What is asked of a store. -/
inductive OpS where
  | create
  | app (id : Int) (b : List UInt8)
  | drop (id : Int)
def stE (S : StoreM) : OpS → Int
  | .create => if S.next < 65536 then 0 else 12
  | .app id b => S.appendE id b
  | .drop _ => 0
def stS (S : StoreM) : OpS → StoreM
  | .create => S.create
  | .app id b => S.append id b
  | .drop id => S.drop id
/-- One after the other, up to the first that fails. -/
def runO : StoreM → List OpS → StoreM × Int
  | S, [] => (S, 0)
  | S, o :: r => if stE S o = 0 then runO (stS S o) r else (stS S o, stE S o)
theorem runO_app : ∀ (a b : List OpS) (S : StoreM), runO S (a ++ b) = if (runO S a).2 = 0 then runO (runO S a).1 b else runO S a
  | [], b, S => rfl
  | o :: a, b, S => by
    simp only [List.cons_append, runO]
    split
    · exact runO_app a b _
    · rename_i h
      simp only [h, if_false]
theorem runO_ok {a b : List OpS} {S T : StoreM} (h : runO S a = (T, 0)) : runO S (a ++ b) = runO T b := by
  rw [runO_app, h, if_pos rfl]
theorem runO_bad {a b : List OpS} {S T : StoreM} {e : Int} (h : runO S a = (T, e)) (he : e ≠ 0) : runO S (a ++ b) = (T, e) := by
  rw [runO_app, h, if_neg he]
theorem creat_full {S : StoreM} (h : ¬ S.next < 65536) : S.create = S := by
  unfold StoreM.create
  rw [if_pos (by omega)]
theorem runO_ok' {S : StoreM} (h : S.Ok) : ∀ (a : List OpS) {S : StoreM}, S.Ok → (runO S a).1.Ok
  | [], _, h => h
  | o :: a, S, h => by
    have h1 : (stS S o).Ok := by
      cases o with
      | create => exact h.create
      | app id b => exact h.append id b
      | drop id => exact h.drop id
    unfold runO
    split
    · exact runO_ok' h a h1
    · exact h1
/-- A run is written. -/
def appsO (id : Int) (c : List K3i) : List OpS := c.map fun x => .app id (encK x)
def runOf (id : Int) (c : List K3i) : List OpS := .create :: appsO id (srt ltK c)
theorem writeL_runO (id : Int) : ∀ (L : List K3i) (S : StoreM), writeL id S L = runO S (appsO id L)
  | [], S => rfl
  | x :: r, S => by
    show _ = (if S.appendE id (encK x) = 0 then runO (S.append id (encK x)) (appsO id r) else (S.append id (encK x), S.appendE id (encK x)))
    unfold writeL
    split
    · exact writeL_runO id r _
    · rfl
theorem wrS_runO (S : StoreM) (L : List K3i) : wrS S L = runO S (runOf S.next L) := by
  unfold wrS runOf runO
  by_cases h : S.next < 65536
  · rw [if_pos h, if_pos (show stE S .create = 0 from if_pos h)]
    exact writeL_runO _ _ _
  · have h1 : stE S .create = 12 := if_neg h
    rw [if_neg h, h1, if_neg (by decide)]
    show (S, 12) = (S.create, 12)
    rw [creat_full h]
/-- Items by runs. -/
def chunks (bud : Int) : List K3i → List K3i → List (List K3i)
  | held, [] => if held = [] then [] else [held]
  | held, x :: r => if ((held.length + 1 : Nat) : Int) < bud then chunks bud (held ++ [x]) r else (held ++ [x]) :: chunks bud [] r
def formO : Int → List (List K3i) → List OpS
  | _, [] => []
  | id, c :: r => runOf id c ++ formO (id + 1) r
theorem formO_app : ∀ (a b : List (List K3i)) (id : Int), formO id (a ++ b) = formO id a ++ formO (id + a.length) b
  | [], b, id => by simp [formO]
  | c :: a, b, id => by
    rw [List.cons_append, formO, formO, formO_app a b (id + 1), List.append_assoc]
    congr 2
    congr 1
    rw [List.length_cons]
    omega
def idsN (n : Int) (k : Nat) : List Int := (List.range k).map fun j : Nat => n + (j : Int)
theorem idsN_succ (n : Int) (k : Nat) : idsN n (k + 1) = idsN n k ++ [n + (k : Int)] := by
  unfold idsN
  rw [List.range_succ, List.map_append]; rfl
theorem idsN_len (n : Int) (k : Nat) : (idsN n k).length = k := by simp [idsN]
theorem wrS_next {S : StoreM} {L : List K3i} (h : (wrS S L).2 = 0) : (wrS S L).1.next = S.next + 1 := by
  unfold wrS at h ⊢
  split
  · rename_i hn
    rw [(writeL_writes _ _ _).2.2]
    exact (create_next hn).1
  · rename_i hn
    rw [if_neg hn] at h
    cases h
/-- How far a former has come. -/
def FRel (S0 : StoreM) (bud : Int) (items : List K3i) (i : Nat) (F : FM) : Prop :=
  F.bad = 0 ∧ F.May ∧ (F.held.length : Int) < max bud 1 ∧ F.held.length ≤ i ∧ ∃ done : List (List K3i), chunks bud [] items = done ++ chunks bud F.held (items.drop i) ∧ runO S0 (formO S0.next done) = (F.S, 0) ∧ F.ids = idsN S0.next done.length ∧ F.S.next = S0.next + done.length
theorem FRel.start (S0 : StoreM) (bud : Int) (items : List K3i) : FRel S0 bud items 0 ⟨S0, [], [], 0⟩ :=
  ⟨rfl, fun _ h => (List.not_mem_nil h).elim, by simp; omega, Nat.le_refl _, [], rfl, rfl, rfl, by simp⟩
/-- What comes of a failing write. -/
theorem flush_rel {S0 : StoreM} {bud : Int} {items : List K3i} {done rest : List (List K3i)} {S : StoreM} {c : List K3i} {e : Int} {T : StoreM} (hd : chunks bud [] items = done ++ c :: rest) (hr : runO S0 (formO S0.next done) = (S, 0)) (hn : S.next = S0.next + done.length) (hw : wrS S c = (T, e)) :
    (e = 0 → runO S0 (formO S0.next (done ++ [c])) = (T, 0)) ∧ (e ≠ 0 → runO S0 (formO S0.next (chunks bud [] items)) = (T, e)) := by
  rw [wrS_runO, hn] at hw
  constructor
  · intro h0
    rw [formO_app, runO_ok hr]
    show runO S (runOf _ c ++ []) = _
    rw [List.append_nil, hw, h0]
  · intro h0
    rw [hd, formO_app, runO_ok hr]
    exact runO_bad hw h0
theorem FRel.step {S0 : StoreM} {bud : Int} {items : List K3i} {i : Nat} {F : FM} (h : FRel S0 bud items i F) {x : K3i} (hx : items[i]? = some x) (hm : mayK x = true) :
    ((F.add bud x).2 = 0 → FRel S0 bud items (i + 1) (F.add bud x).1) ∧ ((F.add bud x).2 ≠ 0 → runO S0 (formO S0.next (chunks bud [] items)) = ((F.add bud x).1.S, (F.add bud x).2)) := by
  obtain ⟨hb, hmay, hlt, hle, done, hd, hr, hi, hn⟩ := h
  obtain ⟨hil, hix⟩ := List.getElem?_eq_some_iff.1 hx
  have hdr : items.drop i = x :: items.drop (i + 1) := by rw [← hix]; exact List.drop_eq_getElem_cons hil
  rw [hdr] at hd
  have hmay2 : ∀ y ∈ F.held ++ [x], mayK y = true := fun y hy => by
    rcases List.mem_append.1 hy with hy | hy
    · exact hmay y hy
    · rw [List.mem_singleton.1 hy]; exact hm
  unfold FM.add
  rw [if_pos hm]
  by_cases hs : ((F.held.length + 1 : Nat) : Int) < bud
  · rw [if_pos hs]
    refine ⟨fun _ => ⟨hb, hmay2, by simp; omega, by simp; omega, done, ?_, hr, hi, hn⟩, fun h0 => absurd rfl h0⟩
    rw [hd]
    show _ ++ chunks bud F.held (x :: items.drop (i + 1)) = _
    rw [chunks, if_pos hs]
  · rw [if_neg hs]
    rw [chunks, if_neg hs] at hd
    unfold FM.flush
    simp only [hb, if_true]
    obtain ⟨g1, g2⟩ := flush_rel (T := (wrS F.S (F.held ++ [x])).1) (e := (wrS F.S (F.held ++ [x])).2) hd hr hn rfl
    by_cases h0 : (wrS F.S (F.held ++ [x])).2 = 0
    · simp only [h0, if_true]
      refine ⟨fun _ => ⟨rfl, fun _ h => (List.not_mem_nil h).elim, by simp; omega, by simp, done ++ [F.held ++ [x]], ?_, g1 h0, ?_, ?_⟩, fun h1 => absurd rfl h1⟩
      · rw [hd]; simp
      · rw [List.length_append, List.length_singleton, idsN_succ, hi, hn]
      · rw [wrS_next h0, hn]; simp; omega
    · simp only [h0, if_false]
      exact ⟨fun h1 => h1.elim, fun _ => g2 h0⟩
theorem FRel.close {S0 : StoreM} {bud : Int} {items : List K3i} {F : FM} (h : FRel S0 bud items items.length F) :
    runO S0 (formO S0.next (chunks bud [] items)) = (F.shut.S, F.shut.bad) ∧ (F.shut.bad = 0 → F.shut.ids = idsN S0.next (chunks bud [] items).length) := by
  obtain ⟨hb, hmay, hlt, hle, done, hd, hr, hi, hn⟩ := h
  rw [List.drop_length, chunks] at hd
  unfold FM.shut
  by_cases he : F.held = []
  · rw [if_neg (by simp [he])]
    rw [if_pos he, List.append_nil] at hd
    exact ⟨by rw [hd, hr, hb], fun _ => by rw [hd, hi]⟩
  · rw [if_pos ⟨hb, he⟩]
    rw [if_neg he] at hd
    unfold FM.flush
    simp only [hb, if_true]
    obtain ⟨g1, g2⟩ := flush_rel (T := (wrS F.S F.held).1) (e := (wrS F.S F.held).2) hd hr hn rfl
    by_cases h0 : (wrS F.S F.held).2 = 0
    · simp only [h0, if_true]
      rw [hd]
      exact ⟨g1 h0, fun _ => by rw [List.length_append, List.length_singleton, idsN_succ, hi, hn]⟩
    · simp only [h0, if_false]
      exact ⟨g2 h0, fun h1 => h1.elim⟩

/-! ### Chunks -/
theorem chunks_flat (bud : Int) : ∀ (r held : List K3i), (chunks bud held r).flatten = held ++ r
  | [], held => by
    rw [chunks]
    split
    · rename_i h; simp [h]
    · simp
  | x :: r, held => by
    rw [chunks]
    split
    · rw [chunks_flat bud r]; simp
    · rw [List.flatten_cons, chunks_flat bud r]; simp
theorem chunks_ne (bud : Int) : ∀ (r held : List K3i), ∀ c ∈ chunks bud held r, c ≠ []
  | [], held => by
    rw [chunks]
    split
    · intro c hc; exact (List.not_mem_nil hc).elim
    · rename_i h
      intro c hc
      rw [List.mem_singleton.1 hc]
      exact h
  | x :: r, held => by
    rw [chunks]
    split
    · exact chunks_ne bud r _
    · intro c hc
      rcases List.mem_cons.1 hc with rfl | hc
      · simp
      · exact chunks_ne bud r _ c hc
theorem len_flat : ∀ (L : List (List K3i)), (∀ c ∈ L, c ≠ []) → L.length ≤ L.flatten.length
  | [], _ => Nat.le_refl _
  | c :: r, h => by
    have h1 := len_flat r (fun d hd => h d (List.mem_cons_of_mem _ hd))
    have h2 : 0 < c.length := List.length_pos_iff.2 (h c List.mem_cons_self)
    rw [List.flatten_cons, List.length_append, List.length_cons]
    omega
theorem chunks_len (bud : Int) (L : List K3i) : (chunks bud [] L).length ≤ L.length := by
  have h1 := len_flat _ (chunks_ne bud L [])
  rw [chunks_flat] at h1
  simpa using h1
/-! ### Folding -/
def foldO (nx : Int) (fan : Nat) (ids : List Int) (Ks : List (List K3i)) : List OpS := runOf nx (Ks.take fan).flatten ++ (ids.take fan).map OpS.drop
def foldK (fan : Nat) (Ks : List (List K3i)) : List (List K3i) := Ks.drop fan ++ [srt ltK (Ks.take fan).flatten]
def foldI (nx : Int) (fan : Nat) (ids : List Int) : List Int := ids.drop fan ++ [nx]
def tailO : Nat → Int → Nat → List Int → List (List K3i) → List OpS
  | 0, _, _, ids, _ => ids.map OpS.drop
  | f + 1, nx, fan, ids, Ks => if fan < ids.length then foldO nx fan ids Ks ++ tailO f (nx + 1) fan (foldI nx fan ids) (foldK fan Ks) else ids.map OpS.drop
def tailK : Nat → Nat → List (List K3i) → List (List K3i) × Nat
  | 0, _, Ks => (Ks, 0)
  | f + 1, fan, Ks => if fan < Ks.length then ((tailK f fan (foldK fan Ks)).1, (tailK f fan (foldK fan Ks)).2 + 1) else (Ks, 0)
def sortO (nx bud : Int) (fan : Nat) (items : List K3i) : List OpS :=
  formO nx (chunks bud [] items) ++ tailO (chunks bud [] items).length (nx + (chunks bud [] items).length) fan (idsN nx (chunks bud [] items).length) ((chunks bud [] items).map (srt ltK))
/-! ### What lies in the store -/
theorem find_last {S : StoreM} {Z : List (Int × List UInt8)} {id : Int} {bs : List UInt8} (h : S.runs = Z ++ [(id, bs)]) (hz : ∀ p ∈ Z, p.1 ≠ id) : S.find id = some bs := by
  unfold StoreM.find
  rw [h, List.find?_append, List.find?_eq_none.2 (fun p hp => by simpa using hz p hp)]
  simp
theorem map_last (id : Int) (b : List UInt8) : ∀ (Z : List (Int × List UInt8)), (∀ p ∈ Z, p.1 ≠ id) → Z.map (fun p => if p.1 == id then (p.1, p.2 ++ b) else p) = Z
  | [], _ => rfl
  | p :: Z, h => by
    have h1 : (p.1 == id) = false := by simpa using h p List.mem_cons_self
    rw [List.map_cons, h1, map_last id b Z (fun q hq => h q (List.mem_cons_of_mem _ hq))]
    rfl
theorem runs_app {S : StoreM} {Z : List (Int × List UInt8)} {id : Int} {bs b : List UInt8} (h : S.runs = Z ++ [(id, bs)]) (hz : ∀ p ∈ Z, p.1 ≠ id) (he : S.appendE id b = 0) : (S.append id b).runs = Z ++ [(id, bs ++ b)] := by
  have hf := find_last h hz
  unfold StoreM.appendE at he
  unfold StoreM.append
  rw [hf] at he ⊢
  simp only at he ⊢
  split at he
  · cases he
  · rename_i h1
    rw [if_neg h1]
    split at he
    · cases he
    · rename_i h2
      rw [if_neg h2]
      show S.runs.map _ = _
      rw [h, List.map_append, map_last id b Z hz]
      simp
theorem runs_apps {id : Int} {Z : List (Int × List UInt8)} (hz : ∀ p ∈ Z, p.1 ≠ id) : ∀ (L : List K3i) {S T : StoreM} {bs : List UInt8}, S.runs = Z ++ [(id, bs)] → runO S (appsO id L) = (T, 0) → T.runs = Z ++ [(id, bs ++ flatK L)] ∧ T.next = S.next
  | [], S, T, bs, h, hr => by
    obtain rfl : S = T := congrArg Prod.fst hr
    exact ⟨by rw [h]; simp [flatK], rfl⟩
  | x :: L, S, T, bs, h, hr => by
    have hr' : (if S.appendE id (encK x) = 0 then runO (S.append id (encK x)) (appsO id L) else (S.append id (encK x), S.appendE id (encK x))) = (T, 0) := hr
    split at hr'
    · rename_i he
      have h1 := runs_app h hz he
      obtain ⟨h2, h3⟩ := runs_apps hz L h1 hr'
      exact ⟨by rw [h2, flatK_cons, List.append_assoc], by rw [h3, append_next]⟩
    · rename_i he
      exact absurd (congrArg Prod.snd hr') he
theorem runs_runOf {S T : StoreM} (hok : S.Ok) {c : List K3i} (hr : runO S (runOf S.next c) = (T, 0)) : T.runs = S.runs ++ [(S.next, flatK (srt ltK c))] ∧ T.next = S.next + 1 := by
  have hr' : (if stE S .create = 0 then runO S.create (appsO S.next (srt ltK c)) else (S.create, stE S .create)) = (T, 0) := hr
  by_cases h : S.next < 65536
  · rw [if_pos (show stE S .create = 0 from if_pos h)] at hr'
    have h1 : S.create.runs = S.runs ++ [(S.next, [])] := by
      unfold StoreM.create
      rw [if_neg (by omega)]
    have h2 := runs_apps (id := S.next) (fun p hp => by have := (hok.below p hp).2; omega) _ h1 hr'
    rw [List.nil_append] at h2
    exact ⟨h2.1, by rw [h2.2, (create_next h).1]⟩
  · have h1 : stE S .create = 12 := if_neg h
    rw [h1] at hr'
    simp at hr'
theorem runs_form : ∀ (Cs : List (List K3i)) {S T : StoreM}, S.Ok → runO S (formO S.next Cs) = (T, 0) → T.runs = S.runs ++ (idsN S.next Cs.length).zip ((Cs.map (srt ltK)).map flatK) ∧ T.next = S.next + Cs.length
  | [], S, T, _, hr => by
    obtain rfl : S = T := congrArg Prod.fst hr
    exact ⟨by simp [idsN], by simp⟩
  | c :: Cs, S, T, hok, hr => by
    rw [formO, runO_app] at hr
    split at hr
    · rename_i h0
      have h1 : runO S (runOf S.next c) = ((runO S (runOf S.next c)).1, 0) := by rw [← h0]
      have hok2 := runO_ok' hok (runOf S.next c) hok
      generalize (runO S (runOf S.next c)).1 = U at h1 hr hok2
      obtain ⟨h2, h3⟩ := runs_runOf hok h1
      rw [← h3] at hr
      obtain ⟨h4, h5⟩ := runs_form Cs hok2 hr
      refine ⟨?_, by rw [h5, h3, List.length_cons]; omega⟩
      rw [h4, h2, h3, List.append_assoc]
      congr 1
      have h6 : idsN S.next (Cs.length + 1) = S.next :: idsN (S.next + 1) Cs.length := by
        unfold idsN
        rw [List.range_succ_eq_map, List.map_cons, List.map_map]
        congr 1
        · simp
        · refine List.map_congr_left (fun j _ => ?_)
          simp only [Function.comp]
          omega
      rw [List.length_cons, h6]
      rfl
    · rename_i h0
      rw [hr] at h0
      exact absurd rfl h0
theorem runs_drop {S : StoreM} {id : Int} {b : List UInt8} {Z : List (Int × List UInt8)} (h : S.runs = (id, b) :: Z) : (S.drop id).runs = Z ∧ (S.drop id).next = S.next := by
  have hf : S.find id = some b := by unfold StoreM.find; rw [h]; simp
  unfold StoreM.drop
  rw [hf]
  exact ⟨by show S.runs.eraseP _ = Z; rw [h]; simp, rfl⟩
theorem runs_drops : ∀ (Y : List (Int × List UInt8)) {S : StoreM} {Z : List (Int × List UInt8)}, S.runs = Y ++ Z → ∃ T, runO S ((Y.map Prod.fst).map OpS.drop) = (T, 0) ∧ T.runs = Z ∧ T.next = S.next
  | [], S, Z, h => ⟨S, rfl, h, rfl⟩
  | p :: Y, S, Z, h => by
    obtain ⟨h1, h2⟩ := runs_drop (S := S) (id := p.1) (b := p.2) (Z := Y ++ Z) h
    obtain ⟨T, h3, h4, h5⟩ := runs_drops Y (S := S.drop p.1) h1
    exact ⟨T, h3, h4, by rw [h5, h2]⟩
end Go.Proofs.Ytkglkpcpgdeneaa
namespace Go.Proofs.Ytkglkpcpgdeneaa
open Go.RowKit
set_option linter.unusedVariables false
set_option linter.unusedSimpArgs false

/-- A sorter's cells: its store, its runs, how many were held at most, how many runs and merges. -/
def soC (sb : Nat) (A : Option Addr) (n c : Nat) (pk rn mg : Int) : List Value := [.pointer (some ⟨sb, 0, none⟩), .slice A n c, .int .i64 pk, .int .i64 rn, .int .i64 mg]
def dropsS (S : StoreM) (ids : List Int) : StoreM := ids.foldl StoreM.drop S
theorem dropsS_runO : ∀ (ids : List Int) (S : StoreM), runO S (ids.map OpS.drop) = (dropsS S ids, 0)
  | [], S => rfl
  | id :: r, S => dropsS_runO r (S.drop id)
section
variable {w0 w : World} {l : List Part} {ob sb : Nat} {S : StoreM} {A : Option Addr} {n c : Nat} {pk rn mg : Int}
set_option maxRecDepth 100000 in
theorem so_saw (h : St w0 w (blkP ob 85 (soC sb A n c pk rn mg) :: l)) (k : Int) :
    Calls Try.prog 67 #[.pointer (some ⟨ob, 0, none⟩), .int .i64 k] w fun e w' => e = .returned (.tuple #[]) ∧ St w0 w' (blkP ob 85 (soC sb A n c (max pk k) rn mg) :: l) := by
  have c2 := h.blk.1.cell 2
  have f2 := h.blk.1.free 2
  simp only [soC, List.getElem?_cons_zero, List.getElem?_cons_succ] at c2
  have hs := h.set 2 (.int .i64 (max pk k))
  simp only [soC, List.set_cons_zero, List.set_cons_succ] at hs
  have HS := Lib.hid hs
  clear h hs
  go_enter Try.func67, Try.ntmps67
  go_wp2_with fail
  go_end0
  exact ⟨rfl, HS.out⟩
set_option maxRecDepth 100000 in
set_option maxHeartbeats 3000000 in
theorem so_drop (h : St w0 w (blkP ob 85 (soC sb A n c pk rn mg) :: storeP sb S :: l)) (B : Option Addr) (m d : Nat) (ids : List Int) (hm : m = ids.length) (hrd : ∀ u, St w0 u l → RdV u B (ints ids)) (hl : ids.length ≤ 100000) :
    Calls Try.prog 68 #[.pointer (some ⟨ob, 0, none⟩), .slice B m d] w fun e w' => e = .returned (.tuple #[]) ∧ St w0 w' (blkP ob 85 (soC sb A n c pk rn mg) :: storeP sb (dropsS S ids) :: l) := by
  subst hm
  have q0 : (ids.length : Int) ≤ 100000 := by omega
  have HRD := Lib.hid (And.intro hrd hl)
  have HS := Lib.hid h
  clear h hrd hl
  go_enter Try.func68, Try.ntmps68
  go_upto_region 1 with fail
  go_loopw [8] (fun v8 wr => ∃ i : Nat, i ≤ ids.length ∧ v8 = .int .i64 i ∧ Hid (St w0 wr (blkP ob 85 (soC sb A n c pk rn mg) :: storeP sb (dropsS S (ids.take i)) :: l))) (fun v8 _ => ids.length - (intOf v8).toNat)
  case atStart => exact ⟨0, Nat.zero_le _, rfl, HS⟩
  case round =>
    clear HS
    obtain ⟨i, hi, rfl, HS⟩ := hrel
    by_cases hlt : i < ids.length
    · have q1 : (i : Int) < (ids.length : Int) := by omega
      obtain ⟨run, hrun⟩ : ∃ run, ids[i]? = some run := ⟨_, List.getElem?_eq_getElem hlt⟩
      obtain ⟨a, rfl, hc⟩ := HRD.out.1 wr HS.out.tail.tail i (.int .i64 run) (by simp [ints, hrun])
      have c0 := HS.out.blk.1.cell 0
      simp only [soC, List.getElem?_cons_zero, List.getElem?_cons_succ] at c0
      have ht : ids.take (i + 1) = ids.take i ++ [run] := by
        rw [List.take_succ_eq_append_getElem hlt]
        rw [List.getElem?_eq_getElem hlt] at hrun
        injection hrun with hrun
        rw [hrun]
      have HX := Lib.hid (And.intro ht hlt)
      clear hrun hlt ht
      go_wp2_with fail
      clear hc c0
      refine (St.store_drop HS.out.swap run).mono ?_
      rintro e w5 ⟨rfl, hs5⟩
      have HS5 := Lib.hid hs5.swap
      clear hs5 HS
      go_wp2_with fail
      go_roundw
      case rel =>
        refine ⟨i + 1, HX.out.2, by go_num, Lib.hid ?_⟩
        rw [HX.out.1]
        have h1 := HS5.out
        unfold dropsS at h1 ⊢
        rw [List.foldl_append]
        exact h1
      case measure => have := HX.out.2; simp [intOf]; omega
    · have q1 : ¬ (i : Int) < (ids.length : Int) := by omega
      have hi2 : i = ids.length := by omega
      have HI := Lib.hid hi2
      clear hlt hi hi2
      go_wp2_with fail
      go_end0
      refine ⟨rfl, ?_⟩
      have h1 := HS.out
      rw [HI.out, List.take_length] at h1
      exact h1
theorem addL_single {bud : Int} {F : FM} (hb : F.bad = 0) (x : K3i) : F.addL bud [x] = F.add bud x := by
  rw [FM.addL_cons, if_pos hb]
  by_cases h0 : (F.add bud x).2 = 0
  · rw [if_pos h0, FM.addL_nil]
    have h1 : (F.add bud x).1.bad = 0 := by
      unfold FM.add at h0 ⊢
      split at h0
      · rename_i hm
        split at h0
        · rename_i hlt
          rw [if_pos hm, if_pos hlt]
          exact hb
        · rename_i hlt
          rw [if_pos hm, if_neg hlt]
          exact h0
      · cases h0
    exact Prod.ext rfl (h1.trans h0.symm)
  · rw [if_neg h0]
/-- How many were held at most. -/
def PkI (bud : Int) (i : Nat) (pk : Int) : Prop := 0 ≤ pk ∧ pk ≤ max bud 1 ∧ pk ≤ i ∧ (0 < i → 1 ≤ pk)
theorem PkI.step {bud : Int} {i : Nat} {pk : Int} (h : PkI bud i pk) {k : Nat} (h1 : (k : Int) < max bud 1) (h2 : k ≤ i) : PkI bud (i + 1) (max pk ((k : Int) + 1)) := by
  obtain ⟨g1, g2, g3, g4⟩ := h
  exact ⟨by omega, by omega, by omega, fun _ => by omega⟩
/-- The sorter in the round that adds the i-th item. -/
def FormI (w0 : World) (l : List Part) (ob fb sb : Nat) (S : StoreM) (bud : Int) (items : List K3i) (i : Nat) (w : World) : Prop :=
  ∃ F pk, FRel S bud items i F ∧ F.Bd S.writes i (sumK (items.take i)) ∧ PkI bud i pk ∧ FSt w0 w (blkP ob 85 (soC sb none 0 0 pk 0 0) :: l) fb sb bud F
/-- What form leads to. -/
def FormS (w0 : World) (l : List Part) (ob sb : Nat) (S : StoreM) (bud : Int) (items : List K3i) (e : Ending) (w' : World) : Prop :=
  ∃ T er, runO S (formO S.next (chunks bud [] items)) = (T, er) ∧ e = .returned (.int .i64 er) ∧
    (er = 0 → ∃ (A : Option Addr) (c : Nat) (pk : Int), PkI bud items.length pk ∧ St w0 w' (blkP ob 85 (soC sb A (chunks bud [] items).length c pk (chunks bud [] items).length 0) :: ownP 3 1 (.slice A (chunks bud [] items).length c) (chunks bud [] items).length (ints (idsN S.next (chunks bud [] items).length)) :: storeP sb T :: l)) ∧
    (er ≠ 0 → St w0 w' (storeP sb T :: l))
set_option maxRecDepth 100000 in
set_option maxHeartbeats 4000000 in
theorem so_form (h : St w0 w (blkP ob 85 (soC sb none 0 0 0 0 0) :: storeP sb S :: l)) (B : Option Addr) (m d : Nat) (X : List ItX) (hm : m = X.length) (hsrc : ∀ u, St w0 u l → RdI u B (X.map Prod.fst) ∧ ∀ x ∈ X, DatI u x.1 x.2) (hmay : ∀ x ∈ X, mayK (keyX x) = true) (bud : Int) (hb : 2 ≤ bud) (hl : X.length ≤ 100000) (hs : sumK (X.map keyX) ≤ 80000000) (hW : S.writes ≤ 1000000000) :
    Calls Try.prog 48 #[.pointer (some ⟨ob, 0, none⟩), .slice B m d, .int .i64 bud] w (FormS w0 l ob sb S bud (X.map keyX)) := by
  subst hm
  have q0 : (X.length : Int) ≤ 100000 := by omega
  have c0 := h.blk.1.cell 0
  simp only [soC, List.getElem?_cons_zero, List.getElem?_cons_succ] at c0
  have HH := Lib.hid (And.intro hsrc (And.intro hmay (And.intro hb (And.intro hl (And.intro hs hW)))))
  have HS := Lib.hid h
  clear h hsrc hmay hb hl hs hW
  go_enter Try.func48, Try.ntmps48
  go_wp2_with fail
  refine (HS.out.runs_new bud (by have := HH.out.2.2.1; omega)).mono ?_
  rintro e w1 ⟨fb, rfl, hs1⟩
  have hi0 : FormI w0 l ob fb sb S bud (X.map keyX) 0 w1 := ⟨⟨S, [], [], 0⟩, 0, FRel.start _ _ _, ⟨by simp, by simp [sumK], by simp⟩, ⟨by omega, by omega, by omega, fun h => absurd h (by omega)⟩, [], rfl, (hs1.mv 2 (by simp)).mv 1 (by simp)⟩
  have HI := Lib.hid hi0
  clear hi0 hs1 HS c0
  go_upto_region 5 with fail
  go_loopw [26] (fun v26 wr => ∃ i : Nat, i ≤ X.length ∧ v26 = .int .i64 i ∧ Hid (FormI w0 l ob fb sb S bud (X.map keyX) i wr)) (fun v26 _ => X.length - (intOf v26).toNat)
  case atStart => exact ⟨0, Nat.zero_le _, rfl, HI⟩
  case round =>
    clear HI
    obtain ⟨i, hi, rfl, HI⟩ := hrel
    obtain ⟨F, pk, hF, hB, hP, hs⟩ := HI.out
    by_cases hlt : i < X.length
    · have q1 : (i : Int) < (X.length : Int) := by omega
      rcases (HH.out.1 wr hs.st.tail).1 with ⟨_, h0⟩ | ⟨ba, o, hA, hc⟩
      · have h1 := congrArg List.length h0
        simp at h1
        rw [h1] at hlt
        simp at hlt
      subst hA
      obtain ⟨x, hx⟩ : ∃ x, X[i]? = some x := ⟨_, List.getElem?_eq_getElem hlt⟩
      have hxm : x ∈ X := List.mem_iff_getElem?.2 ⟨i, hx⟩
      have hgx : (X.map Prod.fst)[i]'(by simpa using hlt) = x.1 := by
        rw [List.getElem_map]
        rw [List.getElem?_eq_getElem hlt] at hx
        injection hx with hx
        rw [hx]
      have d0 := hc i 0 (by simpa using hlt) (by decide)
      have d1 := hc i 1 (by simpa using hlt) (by decide)
      have d2 := hc i 2 (by simpa using hlt) (by decide)
      rw [hgx] at d0 d1 d2
      obtain ⟨⟨k, s, A1, n1, c1⟩, dd⟩ := x
      have d0' : wr.cell? ⟨ba, o + i * 3, none⟩ = some (.string k) := d0
      have d1' : wr.cell? ⟨ba, o + i * 3 + 1, none⟩ = some (.int .i64 s) := d1
      have d2' : wr.cell? ⟨ba, o + i * 3 + 2, none⟩ = some (.slice A1 n1 c1) := d2
      obtain ⟨b2, hb2⟩ : ∃ b2, b2 = wr.heap.size := ⟨_, rfl⟩
      have hs2 : FSt w0 (wr.alloc (Obj.cells #[.string k, .int .i64 s, .slice A1 n1 c1] 44)) (blkP b2 44 [.string k, .int .i64 s, .slice A1 n1 c1] :: blkP ob 85 (soC sb none 0 0 pk 0 0) :: l) fb sb bud F := hs.put (fun q hq => hq.boxX ⟨k, s, A1, n1, c1⟩ b2 hb2)
      have HF := Lib.hid hs2
      have HX := Lib.hid (And.intro hx (And.intro hxm (And.intro hlt (And.intro hF (And.intro hB hP)))))
      clear hs hs2 hx hxm hgx d0 d1 d2 hc hlt hF hB hP HI hi
      go_upto_region 7 with fail
      rw [← hb2]
      clear hb2 d0' d1' d2'
      generalize wr.alloc (Obj.cells #[.string k, .int .i64 s, .slice A1 n1 c1] 44) = w2 at HF ⊢
      obtain ⟨Xh, hXh, hst⟩ := HF.out
      obtain ⟨hn, hhn⟩ : ∃ hn, hn = Xh.length := ⟨_, rfl⟩
      have hhl : hn = F.held.length := by rw [hhn, ← hXh, List.length_map]
      have qh : (hn : Int) ≤ 1000000 := by have := HX.out.2.2.2.1.2.2.2.1; have := HH.out.2.2.2.1; have := HX.out.2.2.1; omega
      have HHL := Lib.hid hhl
      have HST := Lib.hid hst
      have HHN := Lib.hid hhn
      have HXH := Lib.hid hXh
      clear hst hhl hXh hhn
      go_wp2_with fail
      refine (St.runs_held HST.out).mono ?_
      rintro e w3 ⟨rfl, rfl⟩
      rw [← HHN.out]
      go_wp2_with fail
      refine (so_saw (HST.out.mv 3 (by simp)) ((hn : Int) + 1)).mono ?_
      rintro e w3 ⟨rfl, hs3⟩
      obtain ⟨pk2, hpk2⟩ : ∃ pk2, pk2 = max pk ((hn : Int) + 1) := ⟨_, rfl⟩
      rw [← hpk2] at hs3
      have hP2 : PkI bud (i + 1) pk2 := by
        rw [hpk2]
        refine HX.out.2.2.2.2.2.step ?_ ?_
        · rw [HHL.out]; exact HX.out.2.2.2.1.2.2.1
        · rw [HHL.out]; exact HX.out.2.2.2.1.2.2.2.1
      have HP2 := Lib.hid hP2
      have hF3 : FSt w0 w3 (blkP b2 44 [.string k, .int .i64 s, .slice A1 n1 c1] :: blkP ob 85 (soC sb none 0 0 pk2 0 0) :: l) fb sb bud F := by
        exact ⟨Xh, HXH.out, ((hs3.mv 3 (by simp)).mv 3 (by simp)).mv 3 (by simp)⟩
      have hbI := hF3.st.blk.1
      have y0 := hbI.cell 0
      have y1 := hbI.cell 1
      have y2 := hbI.cell 2
      simp only [List.getElem?_cons_zero, List.getElem?_cons_succ] at y0 y1 y2
      obtain ⟨b3, hb3⟩ : ∃ b3, b3 = w3.heap.size := ⟨_, rfl⟩
      have hs4 : FSt w0 (w3.alloc (Obj.cells #[.string k, .int .i64 s, .slice A1 n1 c1] 44)) (blkP b3 44 [.string k, .int .i64 s, .slice A1 n1 c1] :: blkP b2 44 [.string k, .int .i64 s, .slice A1 n1 c1] :: blkP ob 85 (soC sb none 0 0 pk2 0 0) :: l) fb sb bud F := hF3.put (fun q hq => hq.boxX ⟨k, s, A1, n1, c1⟩ b3 hb3)
      have hadd := FSt.addL hs4 (some ⟨b3, 0, none⟩) 1 1 [(⟨k, s, A1, n1, c1⟩, dd)] rfl (fun w' hw' => ⟨RdI.of_blk (by have h1 := hw'.blk.1; exact h1), fun y hy => by
        rw [List.mem_singleton.1 hy]
        exact (HH.out.1 w' hw'.tail.tail.tail).2 _ HX.out.2.1⟩) S.writes i (sumK ((X.map keyX).take i)) HX.out.2.2.2.2.1 HX.out.2.2.2.1.2.1 (by have := HX.out.2.2.1; have := HH.out.2.2.2.1; show i + 1 ≤ _; omega)
        (by
          have h1 := sumK_take (X.map keyX) (i + 1)
          have h2 : (X.map keyX)[i]? = some (keyX (⟨k, s, A1, n1, c1⟩, dd)) := by rw [List.getElem?_map, HX.out.1]; rfl
          have h3 := HH.out.2.2.2.2.1
          have h4 := offK_succ h2
          unfold offK at h4
          simp only [List.map_cons, List.map_nil, sumK_cons, sumK]
          simp only [sumK] at h1 h3 h4 ⊢
          simp at h1 h3 h4 ⊢
          omega) HH.out.2.2.2.2.2
      rw [show [((⟨k, s, A1, n1, c1⟩, dd) : ItX)].map keyX = [(k, s, dd)] from rfl, addL_single HX.out.2.2.2.1.1] at hadd
      obtain ⟨er, her⟩ : ∃ er, er = (F.add bud (k, s, dd)).2 := ⟨_, rfl⟩
      obtain ⟨G, hG⟩ : ∃ G, G = (F.add bud (k, s, dd)).1 := ⟨_, rfl⟩
      rw [← her, ← hG] at hadd
      have HADD := Lib.hid hadd
      have HEG := Lib.hid (And.intro her hG)
      clear hadd her hG hs4 hF3 hs3 HF HST hbI hpk2 hP2 HHL HHN HXH qh
      go_wp2_with fail
      rw [← hb3]
      clear hb3 y0 y1 y2
      generalize w3.alloc (Obj.cells #[.string k, .int .i64 s, .slice A1 n1 c1] 44) = w4 at HADD ⊢
      refine HADD.out.mono ?_
      rintro e w5 ⟨rfl, hG5⟩
      have hit : (X.map keyX)[i]? = some (k, s, dd) := by rw [List.getElem?_map, HX.out.1]; rfl
      have hstep := HX.out.2.2.2.1.step hit (HH.out.2.1 _ HX.out.2.1)
      have hBd := HX.out.2.2.2.2.1.add bud (k, s, dd)
      have hoff := offK_succ hit
      unfold offK at hoff
      rw [← hoff, ← HEG.out.2] at hBd
      rw [← HEG.out.1, ← HEG.out.2] at hstep
      by_cases e0 : er = 0
      · have HNX : Hid (FormI w0 l ob fb sb S bud (X.map keyX) (i + 1) w5) := Lib.hid ⟨G, pk2, hstep.1 e0, hBd, HP2.out, hG5.drop.drop⟩
        clear hit hstep hBd hoff hG5 HADD HEG HP2
        subst e0
        go_wp2_with fail
        go_roundw
        case rel => exact ⟨i + 1, HX.out.2.2.1, by go_num, HNX⟩
        case measure => have := HX.out.2.2.1; simp [intOf]; omega
      · have hz : (er == 0) = false := by simpa using e0
        have HRR := Lib.hid (And.intro (hstep.2 e0) e0)
        have HG5 := Lib.hid hG5
        clear hit hstep hBd hoff hG5 HADD HEG HP2 e0
        go_wp2_with fail
        go_ret
        refine ⟨G.S, er, HRR.out.1, rfl, fun h => absurd h HRR.out.2, fun _ => ?_⟩
        obtain ⟨Y, _, h1⟩ := HG5.out
        exact ((h1.tail.swap.tail).swap.tail).swap.tail
    · have q1 : ¬ (i : Int) < (X.length : Int) := by omega
      have hi2 : i = X.length := by omega
      have hF2 : FRel S bud (X.map keyX) (X.map keyX).length F := by rw [List.length_map, ← hi2]; exact hF
      obtain ⟨hrun, hids⟩ := hF2.close
      have hst := sumK_take (X.map keyX) i
      obtain ⟨hfit, _⟩ := hB.fit hF.2.1 (by have := HH.out.2.2.2.1; omega) (by have := HH.out.2.2.2.2.1; omega) HH.out.2.2.2.2.2
      have hP2 : PkI bud (X.map keyX).length pk := by rw [List.length_map, ← hi2]; exact hP
      have hil : F.shut.ids.length ≤ 1000000 := by
        have h1 : F.shut.ids.length ≤ F.ids.length + 1 := by
          unfold FM.shut FM.flush
          split
          · split
            · simp only
              split
              · simp
              · simp only; omega
            · omega
          · omega
        have h2 := hB.1
        have h3 := HH.out.2.2.2.1
        omega
      have HC := Lib.hid (FSt.close hs hfit hil F.shut rfl)
      obtain ⟨G, hG⟩ : ∃ G, G = F.shut := ⟨_, rfl⟩
      rw [← hG] at HC hrun hids
      have HRR := Lib.hid (And.intro hrun (And.intro hids hP2))
      clear hi2 hF2 hrun hids hst hfit hP2 hil hG hs hF hB hP HI hlt hi
      go_wp2_with fail
      refine HC.out.mono ?_
      rintro e w4 hcl
      unfold CloseS at hcl
      obtain ⟨kk, hkk⟩ : ∃ kk, kk = (chunks bud [] (X.map keyX)).length := ⟨_, rfl⟩
      have HKK := Lib.hid hkk
      by_cases hb0 : G.bad = 0
      · rw [if_pos hb0] at hcl
        obtain ⟨A, c, rfl, hs4⟩ := hcl
        have hids := HRR.out.2.1 hb0
        have hlen : G.ids.length = kk := by rw [hids, idsN_len, hkk]
        rw [hids, idsN_len, ← hkk] at hs4
        rw [hlen]
        obtain ⟨Y, _, hs5⟩ := hs4
        have HS5 : Hid (St w0 w4 (blkP ob 85 (soC sb none 0 0 pk 0 0) :: ownP 3 1 (.slice A kk c) kk (ints (idsN S.next kk)) :: storeP sb G.S :: l)) := Lib.hid (((hs5.tail.mv 1 (by simp)).mv 2 (by simp)))
        have HB0 := Lib.hid hb0
        clear hs5 hids hlen hb0 HC hkk
        have c1 := HS5.out.blk.1.cell 1
        have f1 := HS5.out.blk.1.free 1
        simp only [soC, List.getElem?_cons_zero, List.getElem?_cons_succ] at c1
        have hs6 := HS5.out.set 1 (.slice A kk c)
        simp only [soC, List.set_cons_zero, List.set_cons_succ] at hs6
        have HS6 := Lib.hid hs6
        clear hs6 HS5
        go_upto_region 13 with fail
        clear c1 f1
        generalize w4.setCell ⟨ob, 1, none⟩ (.slice A kk c) = w5 at HS6 ⊢
        have c1 := HS6.out.blk.1.cell 1
        have c3 := HS6.out.blk.1.cell 3
        have f3 := HS6.out.blk.1.free 3
        simp only [List.getElem?_cons_zero, List.getElem?_cons_succ] at c1 c3
        have hs7 := HS6.out.set 3 (.int .i64 kk)
        simp only [List.set_cons_zero, List.set_cons_succ] at hs7
        have HS7 := Lib.hid hs7
        clear hs7 HS6
        go_wp2_with fail
        go_ret
        refine ⟨G.S, 0, ?_, rfl, fun _ => ⟨A, c, pk, HRR.out.2.2, ?_⟩, fun h => absurd rfl h⟩
        · rw [HRR.out.1, HB0.out]
        · rw [← HKK.out]
          exact HS7.out
      · rw [if_neg hb0] at hcl
        obtain ⟨rfl, hs4⟩ := hcl
        obtain ⟨Y, _, hs5⟩ := hs4
        have HS5 : Hid (St w0 w4 (blkP ob 85 (soC sb none 0 0 pk 0 0) :: storeP sb G.S :: l)) := Lib.hid (hs5.tail.swap)
        have HB0 := Lib.hid hb0
        clear hs5 hb0 HC hkk
        have c1 := HS5.out.blk.1.cell 1
        have f1 := HS5.out.blk.1.free 1
        simp only [soC, List.getElem?_cons_zero, List.getElem?_cons_succ] at c1
        have hs6 := HS5.out.set 1 (.slice none 0 0)
        simp only [soC, List.set_cons_zero, List.set_cons_succ] at hs6
        have HS6 := Lib.hid hs6
        clear hs6 HS5
        go_upto_region 13 with fail
        clear c1 f1
        generalize w4.setCell ⟨ob, 1, none⟩ (.slice none 0 0) = w5 at HS6 ⊢
        have c1 := HS6.out.blk.1.cell 1
        have c3 := HS6.out.blk.1.cell 3
        have f3 := HS6.out.blk.1.free 3
        simp only [List.getElem?_cons_zero, List.getElem?_cons_succ] at c1 c3
        have hs7 := HS6.out.set 3 (.int .i64 0)
        simp only [List.set_cons_zero, List.set_cons_succ] at hs7
        have HS7 := Lib.hid hs7
        clear hs7 HS6
        go_wp2_with fail
        go_ret
        exact ⟨G.S, G.bad, HRR.out.1, rfl, fun h => absurd h HB0.out, fun _ => HS7.out.tail⟩
end
end Go.Proofs.Ytkglkpcpgdeneaa
namespace Go.Proofs.Ytkglkpcpgdeneaa
open Go.RowKit
set_option linter.unusedVariables false
set_option linter.unusedSimpArgs false

theorem Mrg.store {S S' : StoreM} {E : List En} {C : List Cu} {R : List (List K3i)} {rows : RowsM} {pk : Int} (h : Mrg S E C R rows pk) (hf : ∀ id ∈ C.map Cu.run, S'.find id = S.find id) : Mrg S' E C R rows pk :=
  ⟨h.heads, ⟨h.curs.len, fun j c t hc ht => by
    obtain ⟨K, P, h1, h2⟩ := h.curs.at_ j c t hc ht
    exact ⟨K, P, by rw [hf c.run (List.mem_map_of_mem (List.mem_iff_getElem?.2 ⟨j, hc⟩))]; exact h1, h2⟩⟩, h.le, h.few⟩
theorem find_ext {S T : StoreM} {nx id : Int} {bs : List UInt8} (h : T.runs = S.runs ++ [(nx, bs)]) (hne : id ≠ nx) : T.find id = S.find id := by
  unfold StoreM.find
  rw [h, List.find?_append]
  have h1 : [(nx, bs)].find? (fun p : Int × List UInt8 => p.1 == id) = none := by
    rw [List.find?_eq_none]
    intro p hp
    rw [List.mem_singleton.1 hp]
    simpa using fun e => hne e.symm
  rw [h1]
  simp
theorem appnd_ok {S : StoreM} {id : Int} {b : List UInt8} (h : S.appendE id b = 0) : (S.append id b).writes = S.writes + 1 := by
  unfold StoreM.appendE at h
  unfold StoreM.append
  cases hf : S.find id with
  | none => rw [hf] at h; cases h
  | some bs =>
    rw [hf] at h
    simp only at h ⊢
    split at h
    · cases h
    · rename_i h1
      rw [if_neg h1]
      split at h
      · cases h
      · rename_i h2
        rw [if_neg h2]
        rfl
theorem apps_writes {id : Int} : ∀ (L : List K3i) {S T : StoreM}, runO S (appsO id L) = (T, 0) → T.writes = S.writes + L.length
  | [], S, T, hr => by
    obtain rfl : S = T := congrArg Prod.fst hr
    simp
  | x :: L, S, T, hr => by
    have hr' : (if S.appendE id (encK x) = 0 then runO (S.append id (encK x)) (appsO id L) else (S.append id (encK x), S.appendE id (encK x))) = (T, 0) := hr
    split at hr'
    · rename_i he
      rw [apps_writes L hr', appnd_ok he, List.length_cons]
      omega
    · rename_i he
      exact absurd (congrArg Prod.snd hr') he
theorem apps_snoc {id : Int} {L : List K3i} {S T : StoreM} (h : runO S (appsO id L) = (T, 0)) (x : K3i) : runO S (appsO id (L ++ [x])) = (T.append id (encK x), T.appendE id (encK x)) := by
  unfold appsO at h ⊢
  rw [List.map_append, runO_ok h]
  show (if T.appendE id (encK x) = 0 then ((T.append id (encK x)), 0) else (T.append id (encK x), T.appendE id (encK x))) = _
  split
  · rename_i h0; rw [h0]
  · rfl
section
variable {w0 w : World} {l : List Part} {ob sb mb : Nat} {S : StoreM} {A : Option Addr} {n c : Nat} {pk rn mg : Int} {Ks : List (List K3i)} {rs : List Int} {pre : List K3i} {rows : RowsM}
/-- How many writes a store has had, as the world has it. -/
def wInt (sb : Nat) (w : World) : Int := match w.cell? ⟨sb, 4, none⟩ with | some (.int _ z) => z | _ => 0
theorem St.store_w4 (h : St w0 w (storeP sb S :: l)) : wInt sb w = S.writes := by
  obtain ⟨F, fv, mb, E, h1⟩ := h.store
  have h2 := h1.self.cell 4
  unfold wInt
  rw [h2]
  rfl
theorem HasRuns.may {ids : List Int} (h : HasRuns S ids Ks) : ∀ x ∈ Ks.flatten, mayK x = true := by
  intro x hx
  obtain ⟨K, hK, hxK⟩ := List.mem_flatten.1 hx
  obtain ⟨j, hj⟩ := List.mem_iff_getElem?.1 hK
  obtain ⟨hjl, _⟩ := List.getElem?_eq_some_iff.1 hj
  exact (h.at_ j _ K (List.getElem?_eq_getElem (by rw [h.len]; exact hjl)) hj).2.1 x hxK
theorem sumK_flat_take (f : Nat) : sumK (Ks.take f).flatten ≤ sumK Ks.flatten := by
  have h1 : Ks.flatten = (Ks.take f).flatten ++ (Ks.drop f).flatten := by rw [← List.flatten_append, List.take_append_drop]
  rw [h1, sumK_app]
  omega
theorem len_sumK : ∀ (L : List K3i), L.length ≤ sumK L
  | [] => Nat.le_refl _
  | x :: r => by
    have h1 := len_sumK r
    rw [sumK_cons, List.length_cons]
    unfold lenK
    omega
/-- What has come of a merger, and what is left. -/
def BareR (w0 : World) (l : List Part) (mb sb : Nat) (S : StoreM) (Ks : List (List K3i)) (rs : List Int) (pre : List K3i) (w : World) : Prop :=
  ∃ (Ac : Option Addr) (cc : Nat) (E : List En) (C : List Cu) (rows : RowsM) (R : List (List K3i)), Mrg S E C R rows (fullN Ks) ∧ AllSrt R ∧ C.map Cu.run = rs ∧ srt ltK Ks.flatten = pre ++ srt ltK R.flatten ∧ St w0 w (mrgL mb sb Ac cc (fullN Ks) E C S rows l)
/-- The same, one more being at hand (or none). -/
def LeftR (w0 : World) (l : List Part) (mb sb : Nat) (S : StoreM) (Ks : List (List K3i)) (rs : List Int) (pre : List K3i) (x : It) (ok : Bool) (w : World) : Prop :=
  ∃ (Ac : Option Addr) (cc : Nat) (E : List En) (C : List Cu) (rows : RowsM) (R : List (List K3i)), Mrg S E C R rows (fullN Ks) ∧ AllSrt R ∧ C.map Cu.run = rs ∧
    (ok = true → ∃ d, OutX rows [(x, d)] ∧ srt ltK Ks.flatten = pre ++ keyX (x, d) :: srt ltK R.flatten) ∧ (ok = false → srt ltK Ks.flatten = pre) ∧
    St w0 w (mrgL mb sb Ac cc (fullN Ks) E C S rows l)
theorem BareR.next (h : BareR w0 l mb sb S Ks rs pre w) :
    Calls Try.prog 62 #[.pointer (some ⟨mb, 0, none⟩)] w fun e w' => ∃ (x : It) (ok : Bool), e = .returned (.tuple #[.agg #[.string x.k, .int .i64 x.s, .slice x.A x.n x.c], .bool ok]) ∧ LeftR w0 l mb sb S Ks rs pre x ok w' := by
  obtain ⟨Ac, cc, E, C, rows, R, hM, hA, hC, hE, hs⟩ := h
  by_cases h0 : E.length = 0
  · refine (next_no hs h0).mono ?_
    rintro e w' ⟨rfl, hs'⟩
    refine ⟨it0, false, rfl, Ac, cc, E, C, rows, R, hM, hA, hC, (fun h => nomatch h), fun _ => ?_, hs'⟩
    rw [List.eq_nil_of_length_eq_zero h0] at hM
    rw [hE, flat_nils hM.heads.empty, srt_nil', List.append_nil]
  · refine (next_yes hs hM (Nat.pos_of_ne_zero h0)).mono ?_
    rintro e w' ⟨j, x, t, A, c, hj, hmin, hc, rfl, E', C', rows', hM', hl', hin, hsub, hs'⟩
    refine ⟨⟨x.1, x.2.1, A, x.2.2.length, c⟩, true, rfl, Ac, cc, E', C', rows', _, hM', hA.set hj, hl'.trans hC, fun _ => ⟨x.2.2, ?_, ?_⟩, (fun h => nomatch h), hs'⟩
    · intro y hy
      rw [List.mem_singleton.1 hy]
      exact ⟨rfl, hc, hin⟩
    · rw [hE, merge_step hA hj hmin]
      rfl
/-- The item at hand: what it is; the rest. -/
theorem LeftR.item {x : It} (h : LeftR w0 l mb sb S Ks rs pre x true w) : ∃ (d : List UInt8) (Ac : Option Addr) (cc : Nat) (E : List En) (C : List Cu) (rows : RowsM) (R : List (List K3i)), Mrg S E C R rows (fullN Ks) ∧ AllSrt R ∧ C.map Cu.run = rs ∧ DatI w x d ∧ srt ltK Ks.flatten = (pre ++ [(x.k, x.s, d)]) ++ srt ltK R.flatten ∧ St w0 w (mrgL mb sb Ac cc (fullN Ks) E C S rows l) := by
  obtain ⟨Ac, cc, E, C, rows, R, hM, hA, hC, h1, _, hs⟩ := h
  obtain ⟨d, hd, he⟩ := h1 rfl
  refine ⟨d, Ac, cc, E, C, rows, R, hM, hA, hC, ?_, by rw [he, List.append_assoc]; rfl, hs⟩
  have h2 := (hs.mv 3 (by simp [mrgL])).out_dat (hd)
  exact h2 _ List.mem_cons_self
theorem LeftR.alloc {x : It} {ok : Bool} (h : LeftR w0 l mb sb S Ks rs pre x ok w) (b : Nat) (hb : b = w.heap.size) (y : It) : LeftR w0 (blkP b 44 [.string y.k, .int .i64 y.s, .slice y.A y.n y.c] :: l) mb sb S Ks rs pre x ok (w.alloc (Obj.cells #[.string y.k, .int .i64 y.s, .slice y.A y.n y.c] 44)) := by
  obtain ⟨Ac, cc, E, C, rows, R, h1, h2, h3, h4, h5, hs⟩ := h
  exact ⟨Ac, cc, E, C, rows, R, h1, h2, h3, h4, h5, St.mrg_in (hs.boxX y b hb)⟩
theorem rdv_drop {g : Nat} {vs : List Value} (h : RdV w (some ⟨g, 0, none⟩) vs) (f : Nat) : RdV w (some ⟨g, f, none⟩) (vs.drop f) := by
  intro j u hj
  rw [List.getElem?_drop] at hj
  obtain ⟨x, hx, hc⟩ := h (f + j) u hj
  injection hx with hx
  subst hx
  refine ⟨_, rfl, ?_⟩
  rw [add_plain] at hc ⊢
  rw [← hc, Nat.zero_add]
/-- What a fold leads to. -/
def FoldS (w0 : World) (l : List Part) (ob sb : Nat) (S : StoreM) (fan : Nat) (ids : List Int) (Ks : List (List K3i)) (pk rn mg : Int) (e : Ending) (w' : World) : Prop :=
  ∃ T er, runO S (runOf S.next (Ks.take fan).flatten) = (T, er) ∧ e = .returned (.int .i64 er) ∧
    (er = 0 → ∃ (A : Option Addr) (c : Nat), St w0 w' (blkP ob 85 (soC sb A (foldI S.next fan ids).length c (max pk (fullN (Ks.take fan))) rn (mg + 1)) :: ownP 3 1 (.slice A (foldI S.next fan ids).length c) (foldI S.next fan ids).length (ints (foldI S.next fan ids)) :: storeP sb (dropsS T (ids.take fan)) :: l)) ∧
    (er ≠ 0 → St w0 w' (storeP sb T :: l))
theorem HasRuns.take {ids : List Int} (h : HasRuns S ids Ks) (f : Nat) : HasRuns S (ids.take f) (Ks.take f) :=
  ⟨by rw [List.length_take, List.length_take, h.len], fun j id K hj hk => by
    rw [List.getElem?_take] at hj hk
    split at hj
    · rename_i hlt
      rw [if_pos hlt] at hk
      exact h.at_ j id K hj hk
    · cases hj⟩
theorem HasRuns.store {S' : StoreM} {ids : List Int} (h : HasRuns S ids Ks) (hf : ∀ id ∈ ids, S'.find id = S.find id) : HasRuns S' ids Ks :=
  ⟨h.len, fun j id K hj hk => by
    rw [hf id (List.mem_iff_getElem?.2 ⟨j, hj⟩)]
    exact h.at_ j id K hj hk⟩
set_option maxRecDepth 100000 in
set_option maxHeartbeats 4000000 in
theorem so_fold {ids : List Int} (h : St w0 w (blkP ob 85 (soC sb A ids.length c pk rn mg) :: ownP 3 1 (.slice A ids.length c) ids.length (ints ids) :: storeP sb S :: l)) (fan : Nat) (hf2 : 2 ≤ fan) (hf : fan < ids.length) (hK : HasRuns S ids Ks) (hA : AllSrt Ks) (hok : S.Ok) (hnx : S.next < 65536) (hl : ids.length ≤ 100000) (hs : sumK Ks.flatten ≤ 80000000) (hW : S.writes ≤ 1000000000) (hmg0 : 0 ≤ mg) (hmg1 : mg ≤ 1000000) :
    Calls Try.prog 49 #[.pointer (some ⟨ob, 0, none⟩), .int .i64 fan] w (FoldS w0 l ob sb S fan ids Ks pk rn mg) := by
  have q0 : (ids.length : Int) ≤ 100000 := by omega
  have q1 : (fan : Int) < (ids.length : Int) := by omega
  have q2 : (2 : Int) ≤ (fan : Int) := by omega
  obtain ⟨nn, hnn⟩ : ∃ nn, nn = ids.length := ⟨_, rfl⟩
  rw [← hnn] at h q0 q1
  have hrdv := (h.tail).own_rdv
  have q3 : (nn : Int) ≤ (c : Int) := by have := hrdv.2.1; omega
  have q5 : mg ≤ 1000000 := hmg1
  have q6 : 0 ≤ mg := hmg0
  clear hmg0 hmg1
  have q4 : (c : Int) ≤ 9223372036854775807 := by have := hrdv.2.2.1; omega
  obtain ⟨g, hg⟩ : ∃ g, A = some ⟨g, 0, none⟩ := by
    rcases (St.own h.tail).2 with ⟨h0, _⟩ | ⟨g, _, _, h0, _⟩
    · injection h0 with _ h1 _; omega
    · injection h0 with h0; exact ⟨g, h0⟩
  subst hg
  have hfne : ∀ id ∈ ids, id ≠ S.next := by
    intro id hid
    obtain ⟨j, hj⟩ := List.mem_iff_getElem?.1 hid
    obtain ⟨hjl, _⟩ := List.getElem?_eq_some_iff.1 hj
    have h1 := (hK.at_ j id _ hj (List.getElem?_eq_getElem (by rw [← hK.len]; exact hjl))).1
    have h2 := hok.below _ (StoreM.find_some h1).1
    have h3 := h2.2
    simp only at h3
    omega
  have c0 := h.blk.1.cell 0
  have c1 := h.blk.1.cell 1
  simp only [soC, List.getElem?_cons_zero, List.getElem?_cons_succ] at c0 c1
  have HH := Lib.hid (And.intro hf2 (And.intro hf (And.intro hK (And.intro hA (And.intro hok (And.intro hnx (And.intro hl (And.intro hs (And.intro hW (And.intro hfne hnn))))))))))
  have HS := Lib.hid h
  clear h hrdv hf2 hf hK hA hok hnx hl hs hW hfne hnn
  go_enter Try.func49, Try.ntmps49
  go_wp2_with fail
  refine (St.store_create (HS.out.mv 2 (by simp)) HH.out.2.2.2.2.2.1).mono ?_
  rintro e w1 ⟨rfl, hs1⟩
  obtain ⟨L2, hL2⟩ : ∃ L2, L2 = blkP ob 85 (soC sb (some ⟨g, 0, none⟩) nn c pk rn mg) :: ownP 3 1 (.slice (some ⟨g, 0, none⟩) nn c) nn (ints ids) :: l := ⟨_, rfl⟩
  have hs2 : St w0 w1 (storeP sb S.create :: L2) := by rw [hL2]; exact hs1
  obtain ⟨nx, hnx⟩ : ∃ nx, nx = S.next := ⟨_, rfl⟩
  have hcr : S.create.runs = S.runs ++ [(nx, [])] := by
    unfold StoreM.create
    rw [if_neg (by have := HH.out.2.2.2.2.2.1; omega), hnx]
  have hrd : ∀ u, St w0 u L2 → RdV u (some ⟨g, 0, none⟩) (ints (ids.take fan)) := by
    intro u hu
    rw [hL2] at hu
    have h1 := hu.tail.own_rdv.1.take fan
    unfold ints at h1 ⊢
    rw [List.map_take]
    exact h1
  have hKt : HasRuns S.create (ids.take fan) (Ks.take fan) := (HH.out.2.2.1.store (fun id hid => find_ext hcr (by rw [hnx]; exact HH.out.2.2.2.2.2.2.2.2.2.1 id hid))).take fan
  have hc0 : w1.cell? ⟨ob, 0, none⟩ = some (.pointer (some ⟨sb, 0, none⟩)) := (hs1.mv 1 (by simp)).blk.1.cell 0
  have HS2 := Lib.hid hs2
  have HC := Lib.hid (And.intro hrd (And.intro hKt (And.intro hcr (And.intro hL2 hnx))))
  rw [← hnx]
  clear hs1 hs2 hL2 hnx hcr hrd hKt HS c0 c1
  go_wp2_with fail
  clear hc0
  refine (sort_open HS2.out (some ⟨g, 0, none⟩) fan c (ids.take fan) HC.out.1 (by rw [List.length_take]; have := HH.out.2.1; omega) (Ks.take fan) HC.out.2.1 (by rw [List.length_take]; have := HH.out.2.2.2.2.2.2.1; omega)).mono ?_
  rintro e w2 ⟨mb, rfl, hk⟩
  have hb : BareR w0 L2 mb sb S.create (Ks.take fan) (ids.take fan) [] w2 := by
    obtain ⟨Ac, cc, E, C, rows, hM, _, hC, hs⟩ := hk
    rw [List.take_length] at hM hs
    rw [List.take_of_length_le (by rw [HC.out.2.1.len]; exact Nat.le_refl _)] at hC
    refine ⟨Ac, cc, E, C, rows, Ks.take fan, hM, ?_, hC, rfl, hs⟩
    intro t ht
    exact HH.out.2.2.2.1 t (List.mem_of_mem_take ht)
  have HB := Lib.hid hb
  clear hk hb HS2
  go_wp2_with fail
  refine HB.out.next.mono ?_
  rintro e w3 ⟨x, ok, rfl, hL⟩
  obtain ⟨xb, hxb⟩ : ∃ xb, xb = w3.heap.size := ⟨_, rfl⟩
  have HL := Lib.hid (hL.alloc xb hxb x)
  clear hL HB
  go_upto_region 7 with fail
  rw [← hxb]
  clear hxb
  generalize w3.alloc (Obj.cells #[.string x.k, .int .i64 x.s, .slice x.A x.n x.c] 44) = w4 at HL ⊢
  have hpre : runO S.create (appsO nx []) = (S.create, 0) := rfl
  have HPRE := Lib.hid hpre
  have HCW : Hid (S.create.writes = S.writes) := Lib.hid (create_next HH.out.2.2.2.2.2.1).2
  clear hpre
  go_loopw [9, 10] (fun v9 v10 wr => ∃ (xb : Nat) (x : It) (ok : Bool) (done : List K3i) (T : StoreM), v9 = .pointer (some ⟨xb, 0, none⟩) ∧ v10 = .bool ok ∧ Hid (runO S.create (appsO nx done) = (T, 0)) ∧ Hid (LeftR w0 (blkP xb 44 [.string x.k, .int .i64 x.s, .slice x.A x.n x.c] :: L2) mb sb T (Ks.take fan) (ids.take fan) done x ok wr)) (fun _ _ wr => (S.writes + ((Ks.take fan).flatten.length : Int) - wInt sb wr).toNat)
  case atStart => exact ⟨xb, x, ok, [], S.create, rfl, rfl, HPRE, HL⟩
  case round =>
    clear HL HPRE
    obtain ⟨xb, x, ok, done, T, rfl, rfl, HR, HL⟩ := hrel
    cases ok with
    | false =>
      obtain ⟨Ac, cc, E, C, rows, R, _, _, _, _, hfin, hs⟩ := HL.out
      have heq := hfin rfl
      have HRUN : Hid (runO S (runOf S.next (Ks.take fan).flatten) = (T, 0)) := Lib.hid (by
        unfold runOf
        show (if stE S .create = 0 then _ else _) = _
        rw [if_pos (show stE S .create = 0 from if_pos HH.out.2.2.2.2.2.1)]
        show runO S.create _ = _
        rw [heq, ← HC.out.2.2.2.2]
        exact HR.out)
      have b2 := hs.heap_tl.2.1
      have hs2 : St w0 wr (blkP ob 85 (soC sb (some ⟨g, 0, none⟩) nn c pk rn mg) :: ownP 3 1 (.slice (some ⟨g, 0, none⟩) nn c) nn (ints ids) :: storeP sb T :: l) := by
        have h1 := hs.mrg_out.tail
        unfold mrgL at h1
        rw [HC.out.2.2.2.1] at h1
        exact (((h1.tail.tail.tail.tail).mv 2 (by simp)).mv 2 (by simp))
      have HS2 := Lib.hid hs2
      clear hs hs2 hfin heq HL HR
      go_wp2_with fail
      refine (so_saw HS2.out _).mono ?_
      rintro e w5 ⟨rfl, hs3⟩
      have HS3 := Lib.hid hs3
      clear hs3 HS2 b2
      go_wp2_with fail
      refine (so_drop ((HS3.out.mv 2 (by simp)).swap) (some ⟨g, 0, none⟩) fan c (ids.take fan) (by rw [List.length_take]; have := HH.out.2.1; omega) (fun u hu => by
        have h1 := hu.own_rdv.1.take fan
        unfold ints at h1 ⊢
        rw [List.map_take]
        exact h1) (by rw [List.length_take]; have := HH.out.2.2.2.2.2.2.1; omega)).mono ?_
      rintro e w6 ⟨rfl, hs4⟩
      have HS4 := Lib.hid hs4
      have c1 := hs4.blk.1.cell 1
      simp only [soC, List.getElem?_cons_zero, List.getElem?_cons_succ] at c1
      clear hs4 HS3
      go_wp2_with fail
      have hrow := HS4.out.tail.tail.own_rdv
      have hdr : RdV w6 (some ⟨g, fan, none⟩) (ints (ids.drop fan)) := by
        have h1 := rdv_drop hrow.1 fan
        unfold ints at h1 ⊢
        rw [List.map_drop]
        exact h1
      refine (cloneI_any (some ⟨g, fan, none⟩) (nn - fan) (c - fan) (ints (ids.drop fan)) w6 hdr (by rw [ints, List.length_map, List.length_drop, ← HH.out.2.2.2.2.2.2.2.2.2.2]) (fun e => by cases e) (by intro u hu; obtain ⟨z, _, rfl⟩ := List.mem_map.1 hu; rfl) (by have := HH.out.2.2.2.2.2.2.1; have := HH.out.2.2.2.2.2.2.2.2.2.2; omega)).mono ?_
      rintro e w7 ⟨v, rfl, hown, hkp⟩
      have hs5 := HS4.out.made hown (hkp.mono (fun _ _ f => f.elim))
      obtain ⟨A7, c7, rfl, _, _, _⟩ := own_rd hown
      have HS5 := Lib.hid hs5
      have HI8 := Lib.hid infoIntF
      have HNN : Hid (nn - fan + 1 ≤ 1000000) := Lib.hid (by have := HH.out.2.2.2.2.2.2.1; have := HH.out.2.2.2.2.2.2.2.2.2.2; omega)
      clear hs5 hown hkp hrow hdr c1 HS4
      go_upto_region 18 with (
        at_builtin
        refine wpL_push_st rfl (.tmp 80) (.tmp 82) 37 rfl 3 (.int .i64 0) 1 8 Try.underlying37 HI8.out rfl (by decide) (.slice A7 (nn - fan) c7) (nn - fan) (ints (ids.drop fan)) rfl HS5.out [.int .i64 nx] rfl (by intro u hu; rw [List.mem_singleton.1 hu]; rfl) _ rfl rfl (by have := HNN.out; unfold maxLen; omega) (by have := HNN.out; omega) ?_
        intro A8 c8 w8 _ _ hs8
        have HS8 := Lib.hid (hs8.mv 1 (by simp))
        have c1 := HS8.out.blk.1.cell 1
        have f1 := HS8.out.blk.1.free 1
        simp only [soC, List.getElem?_cons_zero, List.getElem?_cons_succ] at c1
        clear hs8 HS5)
      have hs9 := HS8.out.set 1 (.slice A8 (nn - fan + 1) c8)
      simp only [soC, List.set_cons_zero, List.set_cons_succ] at hs9
      have HS9 := Lib.hid hs9
      clear hs9 HS8
      go_upto_region 18 with fail
      clear c1 f1
      generalize w8.setCell ⟨ob, 1, none⟩ (.slice A8 (nn - fan + 1) c8) = w9 at HS9 ⊢
      have c4 := HS9.out.blk.1.cell 4
      have f4 := HS9.out.blk.1.free 4
      simp only [List.getElem?_cons_zero, List.getElem?_cons_succ] at c4
      have hs10 := HS9.out.set 4 (.int .i64 (mg + 1))
      simp only [List.set_cons_zero, List.set_cons_succ] at hs10
      have HS10 := Lib.hid hs10
      clear hs10 HS9
      go_wp2_with fail
      go_ret
      refine ⟨T, 0, HRUN.out, rfl, fun _ => ⟨A8, c8, ?_⟩, fun h => absurd rfl h⟩
      have h1 := HS10.out
      have hfl : (foldI nx fan ids).length = nn - fan + 1 := by
        unfold foldI
        rw [List.length_append, List.length_drop, ← HH.out.2.2.2.2.2.2.2.2.2.2]
        rfl
      rw [← HC.out.2.2.2.2, hfl]
      have hfi : ints (foldI nx fan ids) = ints (ids.drop fan) ++ [Value.int .i64 nx] := by
        unfold foldI ints
        rw [List.map_append]
        rfl
      rw [hfi]
      exact (h1.mv 3 (by simp)).tail
    | true =>
      obtain ⟨d, Ac, cc, E, C, rows, R, hM, hAS, hCr, hd, heq, hs⟩ := HL.out.item
      have hb := hs.mrg_out.blk.1
      have y0 := hb.cell 0
      have y1 := hb.cell 1
      have y2 := hb.cell 2
      simp only [List.getElem?_cons_zero, List.getElem?_cons_succ] at y0 y1 y2
      have hxm : (x.k, x.s, d) ∈ (Ks.take fan).flatten := by
        rw [← (srt_perm (lt := ltK) (Ks.take fan).flatten).mem_iff, heq]
        simp
      have hmay : mayI x.k x.s x.n = true := by
        have h1 := HC.out.2.1.may _ hxm
        rw [hd.1]
        exact h1
      have hdl : done.length < (Ks.take fan).flatten.length := by
        have h1 := congrArg List.length heq
        rw [srtK_len] at h1
        simp at h1
        simp
        omega
      have hds : sumK done + lenK (x.k, x.s, d) ≤ sumK Ks.flatten := by
        have h1 := congrArg sumK heq
        rw [srtK_sum, sumK_app, sumK_app] at h1
        have h2 := sumK_flat_take (Ks := Ks) fan
        have h3 : sumK [(x.k, x.s, d)] = lenK (x.k, x.s, d) := by simp [sumK]
        omega
      have htw : T.writes = S.writes + done.length := by rw [apps_writes done HR.out, HCW.out]
      have htr := (runs_apps (id := nx) (Z := S.runs) (fun p hp => by have := (HH.out.2.2.2.2.1.below p hp).2; have := HC.out.2.2.2.2; omega) done HC.out.2.2.1 HR.out).1
      rw [List.nil_append] at htr
      have hwi := (hs.mv 4 (by simp [mrgL])).store_w4
      have HX := Lib.hid (And.intro hM (And.intro hAS (And.intro hCr (And.intro hd (And.intro heq (And.intro hmay (And.intro hdl (And.intro hds (And.intro htw (And.intro htr hwi))))))))))
      have HS := Lib.hid hs
      clear HL hM hAS hCr hd heq hs hb hxm hmay hdl hds htw htr hwi
      go_wp2_with fail
      clear y0 y1 y2
      refine (St.rec_put HS.out x d (itN x) _ rfl rfl HX.out.2.2.2.1 HX.out.2.2.2.2.2.1).mono ?_
      rintro e w5 ⟨A5, c5, rfl, hc5, hs5⟩
      obtain ⟨bb, hbb⟩ : ∃ bb, bb = encK (x.k, x.s, d) := ⟨_, rfl⟩
      have hs5' : St w0 w5 (ownP 5 1 (.slice A5 (itN x) c5) (itN x) (bys bb) :: mrgL mb sb Ac cc (fullN (Ks.take fan)) E C T rows (blkP xb 44 [.string x.k, .int .i64 x.s, .slice x.A x.n x.c] :: L2)) := by rw [hbb]; exact hs5
      have hbl : bb.length = itN x := by rw [hbb, encK_len]; unfold lenK itN; rw [HX.out.2.2.2.1.1]
      have hn5 := hs5'.own_rdv.2.2.2
      have hL2c : w5.cell? ⟨ob, 0, none⟩ = some (.pointer (some ⟨sb, 0, none⟩)) := by
        have h1 := (hs5'.tail.mrg_out).tail
        unfold mrgL at h1
        have h2 := h1.tail.tail.tail.tail.tail
        rw [HC.out.2.2.2.1] at h2
        exact h2.blk.1.cell 0
      have HS5 := Lib.hid hs5'
      have HB := Lib.hid (And.intro hbb (And.intro hbl hn5))
      clear hs5 hs5' hbb hbl hn5 hc5 HS
      go_wp2_with fail
      clear hL2c
      refine (St.store_append2 (HS5.out.mv 5 (by simp [mrgL])) nx A5 (itN x) c5 bb (by
        have h1 := HX.out.2.2.2.2.2.2.2.2.1
        have h2 := HX.out.2.2.2.2.2.2.1
        have h3 := len_sumK (Ks.take fan).flatten
        have h4 := sumK_flat_take (Ks := Ks) fan
        have h5 := HH.out.2.2.2.2.2.2.2.1
        have h6 := HH.out.2.2.2.2.2.2.2.2.1
        omega) HB.out.2.1.symm (fun G hG => own_app hG) HB.out.2.2 (fun bs hbs => by
          have h1 := find_last HX.out.2.2.2.2.2.2.2.2.2.1 (fun p hp => by have := (HH.out.2.2.2.2.1.below p hp).2; have := HC.out.2.2.2.2; omega)
          rw [h1] at hbs
          injection hbs with hbs
          rw [← hbs, flatK_len, HB.out.1, encK_len]
          have h3 := HX.out.2.2.2.2.2.2.2.1
          have h5 := HH.out.2.2.2.2.2.2.2.1
          omega)).mono ?_
      rintro e w6 ⟨rfl, hs6⟩
      obtain ⟨er, her⟩ : ∃ er, er = T.appendE nx bb := ⟨_, rfl⟩
      obtain ⟨T', hT'⟩ : ∃ T', T' = T.append nx bb := ⟨_, rfl⟩
      rw [← hT'] at hs6
      rw [← her]
      have hs7 : St w0 w6 (mrgL mb sb Ac cc (fullN (Ks.take fan)) E C T' rows (blkP xb 44 [.string x.k, .int .i64 x.s, .slice x.A x.n x.c] :: L2)) :=
        ((((hs6.swap.tail).mv 4 (by simp [mrgL])).mv 4 (by simp [mrgL])).mv 4 (by simp [mrgL])).mv 4 (by simp [mrgL])
      have hrn : runO S.create (appsO nx (done ++ [(x.k, x.s, d)])) = (T', er) := by
        rw [apps_snoc HR.out, ← HB.out.1, hT', her]
      have HS7 := Lib.hid hs7
      have HER := Lib.hid (And.intro her (And.intro hT' hrn))
      clear hs6 hs7 her hT' hrn HS5
      by_cases e0 : er = 0
      · subst e0
        have hnx : ∀ p ∈ S.runs, p.1 ≠ nx := fun p hp => by have := (HH.out.2.2.2.2.1.below p hp).2; have := HC.out.2.2.2.2; omega
        have htr' := (runs_apps (id := nx) (Z := S.runs) hnx (done ++ [(x.k, x.s, d)]) HC.out.2.2.1 HER.out.2.2).1
        rw [List.nil_append] at htr'
        have hM' : Mrg T' E C R rows (fullN (Ks.take fan)) := HX.out.1.store (fun id hid => by
          rw [HX.out.2.2.1] at hid
          have hne : id ≠ nx := by rw [HC.out.2.2.2.2]; exact HH.out.2.2.2.2.2.2.2.2.2.1 id (List.mem_of_mem_take hid)
          rw [find_ext htr' hne, find_ext HX.out.2.2.2.2.2.2.2.2.2.1 hne])
        have hb := HS7.out.mrg_out.blk.1
        have y0 := hb.cell 0
        have y1 := hb.cell 1
        have y2 := hb.cell 2
        simp only [List.getElem?_cons_zero, List.getElem?_cons_succ] at y0 y1 y2
        obtain ⟨xb2, hxb2⟩ : ∃ xb2, xb2 = w6.heap.size := ⟨_, rfl⟩
        have hbr : BareR w0 (blkP xb2 44 [.string x.k, .int .i64 x.s, .slice x.A x.n x.c] :: L2) mb sb T' (Ks.take fan) (ids.take fan) (done ++ [(x.k, x.s, d)]) (w6.alloc (Obj.cells #[.string x.k, .int .i64 x.s, .slice x.A x.n x.c] 44)) :=
          ⟨Ac, cc, E, C, rows, R, hM', HX.out.2.1, HX.out.2.2.1, HX.out.2.2.2.2.1, St.mrg_in ((HS7.out.mrg_out.tail).boxX x xb2 hxb2)⟩
        have HBR := Lib.hid hbr
        clear hnx htr' hM' hb hbr
        go_upto_region 8 with fail
        rw [← hxb2]
        clear hxb2 y0 y1 y2
        generalize w6.alloc (Obj.cells #[.string x.k, .int .i64 x.s, .slice x.A x.n x.c] 44) = w8 at HBR ⊢
        go_wp2_with fail
        refine HBR.out.next.mono ?_
        rintro e w9 ⟨x2, ok2, rfl, hL2⟩
        have hb2 : Blk w9 xb2 44 [.string x.k, .int .i64 x.s, .slice x.A x.n x.c] := by
          obtain ⟨Ac, cc, E, C, rows, R, _, _, _, _, _, hs⟩ := hL2
          exact hs.mrg_out.blk.1
        have p0 := hb2.cell 0
        have p1 := hb2.cell 1
        have p2 := hb2.cell 2
        have pf0 := hb2.free 0
        have pf1 := hb2.free 1
        have pf2 := hb2.free 2
        simp only [List.getElem?_cons_zero, List.getElem?_cons_succ] at p0 p1 p2
        have hL3 : LeftR w0 (blkP xb2 44 [.string x2.k, .int .i64 x2.s, .slice x2.A x2.n x2.c] :: L2) mb sb T' (Ks.take fan) (ids.take fan) (done ++ [(x.k, x.s, d)]) x2 ok2 (((w9.setCell ⟨xb2, 0, none⟩ (.string x2.k)).setCell ⟨xb2, 1, none⟩ (.int .i64 x2.s)).setCell ⟨xb2, 2, none⟩ (.slice x2.A x2.n x2.c)) := by
          obtain ⟨Ac, cc, E, C, rows, R, h1, h2, h3, h4, h5, hs⟩ := hL2
          refine ⟨Ac, cc, E, C, rows, R, h1, h2, h3, h4, h5, St.mrg_in ?_⟩
          have hs8 := ((hs.mrg_out.set 0 (.string x2.k)).set 1 (.int .i64 x2.s)).set 2 (.slice x2.A x2.n x2.c)
          simp only [List.set_cons_zero, List.set_cons_succ] at hs8
          exact hs8
        have HL3 := Lib.hid hL3
        have hw3 : wInt sb (((w9.setCell ⟨xb2, 0, none⟩ (.string x2.k)).setCell ⟨xb2, 1, none⟩ (.int .i64 x2.s)).setCell ⟨xb2, 2, none⟩ (.slice x2.A x2.n x2.c)) = T'.writes := by
          obtain ⟨Ac, cc, E, C, rows, R, _, _, _, _, _, hs⟩ := hL3
          exact (hs.mv 4 (by simp [mrgL])).store_w4
        have HW3 := Lib.hid hw3
        have HRUN : Hid (runO S.create (appsO nx (done ++ [(x.k, x.s, d)])) = (T', 0)) := Lib.hid HER.out.2.2
        clear hL2 hL3 hb2 hw3 HBR HS7
        go_wp2_with fail
        go_roundw
        case rel => exact ⟨xb2, x2, ok2, done ++ [(x.k, x.s, d)], T', rfl, rfl, HRUN, HL3⟩
        case measure =>
          have h1 := HX.out.2.2.2.2.2.2.2.2.2.2
          have h2 := HX.out.2.2.2.2.2.2.2.2.1
          have h3 := HX.out.2.2.2.2.2.2.1
          have h4 := apps_writes _ HRUN.out
          rw [HCW.out, List.length_append, List.length_singleton] at h4
          have h5 := HW3.out
          show (_ - wInt sb _).toNat < (_ - wInt sb _).toNat
          rw [h5, h1]
          omega
      · have hz : (er == 0) = false := by simpa using e0
        have HRR : Hid (runO S (runOf S.next (Ks.take fan).flatten) = (T', er) ∧ er ≠ 0) := Lib.hid ⟨by
          unfold runOf
          show (if stE S .create = 0 then _ else _) = _
          rw [if_pos (show stE S .create = 0 from if_pos HH.out.2.2.2.2.2.1)]
          show runO S.create _ = _
          rw [HX.out.2.2.2.2.1, ← HC.out.2.2.2.2]
          unfold appsO
          rw [List.map_append]
          exact runO_bad HER.out.2.2 e0, e0⟩
        clear e0 HER HX HR
        go_wp2_with fail
        go_ret
        refine ⟨T', er, HRR.out.1, rfl, fun h => absurd h HRR.out.2, fun _ => ?_⟩
        have h1 := HS7.out.mrg_out.tail
        unfold mrgL at h1
        rw [HC.out.2.2.2.1] at h1
        exact (((h1.tail.tail.tail.tail).swap.tail).swap.tail)
end
end Go.Proofs.Ytkglkpcpgdeneaa
namespace Go.Proofs.Ytkglkpcpgdeneaa
open Go.RowKit
set_option linter.unusedVariables false
set_option linter.unusedSimpArgs false

section
variable {w0 w : World} {l : List Part} {ob sb mb : Nat} {S : StoreM} {A : Option Addr} {n c : Nat} {pk rn mg : Int} {Ks : List (List K3i)}
/-- What all leads to. -/
def AllS (w0 : World) (l : List Part) (ob sb : Nat) (S : StoreM) (ids : List Int) (Ks : List (List K3i)) (pk rn mg : Int) (e : Ending) (w' : World) : Prop :=
  ∃ (A : Option Addr) (c : Nat) (X : List ItX) (rows : RowsM) (A' : Option Addr) (n' c' : Nat), e = .returned (.tuple #[.slice A X.length c, .int .i64 0]) ∧ X.map keyX = srt ltK Ks.flatten ∧ OutX rows X ∧
    St w0 w' (blkP ob 85 (soC sb A' n' c' (max pk (fullN Ks)) rn mg) :: ownP 44 3 (.slice A X.length c) X.length (flatI (X.map Prod.fst)) :: rdsP rows :: storeP sb (dropsS S ids) :: l)
set_option maxRecDepth 100000 in
set_option maxHeartbeats 4000000 in
theorem so_all {ids : List Int} (h : St w0 w (blkP ob 85 (soC sb A ids.length c pk rn mg) :: ownP 3 1 (.slice A ids.length c) ids.length (ints ids) :: storeP sb S :: l)) (hK : HasRuns S ids Ks) (hA : AllSrt Ks) (hl : ids.length ≤ 100000) (hlen : ∀ id bs, S.find id = some bs → bs.length ≤ 1000000000) (hmany : Ks.flatten.length ≤ 1000000) :
    Calls Try.prog 50 #[.pointer (some ⟨ob, 0, none⟩)] w (AllS w0 l ob sb S ids Ks pk rn mg) := by
  obtain ⟨nn, hnn⟩ : ∃ nn, nn = ids.length := ⟨_, rfl⟩
  rw [← hnn] at h
  obtain ⟨L2, hL2⟩ : ∃ L2, L2 = blkP ob 85 (soC sb A nn c pk rn mg) :: ownP 3 1 (.slice A nn c) nn (ints ids) :: l := ⟨_, rfl⟩
  have hs1 : St w0 w (storeP sb S :: L2) := by rw [hL2]; exact h.mv 2 (by simp)
  have HS := Lib.hid hs1
  have HH := Lib.hid (And.intro hK (And.intro hA (And.intro hl (And.intro hlen (And.intro hmany (And.intro hnn hL2))))))
  clear h hs1 hK hA hl hlen hmany hnn hL2
  go_enter Try.func50, Try.ntmps50
  go_wp2_with fail
  have hb := HS.out.tail
  rw [HH.out.2.2.2.2.2.2] at hb
  have c0 := hb.blk.1.cell 0
  have c1 := hb.blk.1.cell 1
  simp only [soC, List.getElem?_cons_zero, List.getElem?_cons_succ] at c0 c1
  have HSD := Lib.hid HS.out.drew
  clear hb HS
  go_region_with (
    refine (merge_runs HSD.out A nn c ids (fun u hu => by
      rw [HH.out.2.2.2.2.2.2] at hu
      exact hu.tail.own_rdv.1) HH.out.2.2.2.2.2.1 Ks HH.out.1 HH.out.2.1 HH.out.2.2.1 HH.out.2.2.2.1 HH.out.2.2.2.2.1).mono ?_
    rintro e w2 ⟨B, d, X, rows, rfl, hXK, hXO, hs2⟩
    have hs3 : St w0 w2 (blkP ob 85 (soC sb A nn c pk rn mg) :: ownP 3 1 (.slice A nn c) nn (ints ids) :: ownP 44 3 (.slice B X.length d) X.length (flatI (X.map Prod.fst)) :: rdsP rows :: storeP sb S :: l) := by
      rw [HH.out.2.2.2.2.2.2] at hs2
      exact (hs2.mv 4 (by simp)).mv 4 (by simp)
    have HS3 := Lib.hid hs3
    have HX := Lib.hid (And.intro hXK hXO)
    clear hs2 hs3 hXK hXO)
  all_goals clear HSD c0 c1
  all_goals
    simp only [Act.put, List.setIfInBounds_toArray, List.set_cons_zero, List.set_cons_succ]
    go_wp2_with fail
    refine (so_saw HS3.out _).mono ?_
    rintro e w3 ⟨rfl, hs4⟩
    have c1 := hs4.blk.1.cell 1
    simp only [soC, List.getElem?_cons_zero, List.getElem?_cons_succ] at c1
    have HS4 := Lib.hid hs4
    clear hs4 HS3
    go_wp2_with fail
    clear c1
    refine (so_drop (l := ownP 3 1 (.slice A nn c) nn (ints ids) :: ownP 44 3 (.slice B X.length d) X.length (flatI (X.map Prod.fst)) :: rdsP rows :: l) (HS4.out.mv 4 (by simp)).swap A nn c ids HH.out.2.2.2.2.2.1 (fun u hu => hu.own_rdv.1) HH.out.2.2.1).mono ?_
    rintro e w4 ⟨rfl, hs5⟩
    have HS5 := Lib.hid hs5
    clear hs5 HS4
    go_wp2_with fail
    go_ret2
    refine ⟨B, d, X, rows, A, nn, c, rfl, HX.out.1, HX.out.2, ?_⟩
    have h1 := ((HS5.out.mv 2 (by simp)).tail)
    exact ((h1.mv 3 (by simp)).mv 3 (by simp)).mv 2 (by simp)
/-- The closure that asks whether an item may not be. -/
abbrev badF : Value := .func (.func 45) #[] #[]
set_option maxRecDepth 100000 in
theorem bad_no (h : St w0 w l) (x : It) (d : List UInt8) (hd : DatI w x d) (hm : mayI x.k x.s x.n = true) :
    Calls Try.prog 45 #[.agg #[.string x.k, .int .i64 x.s, .slice x.A x.n x.c]] w fun e w' => e = .returned (.bool false) ∧ St w0 w' l := by
  obtain ⟨b, hb⟩ : ∃ b, b = w.heap.size := ⟨_, rfl⟩
  have hs := h.boxX x b hb
  have HS := Lib.hid hs
  have HD : Hid (DatI (w.alloc (Obj.cells #[.string x.k, .int .i64 x.s, .slice x.A x.n x.c] 44)) x d) := Lib.hid (hd.keep ((Keep.refl _ w).alloc _))
  have HM := Lib.hid hm
  clear h hs hd hm
  go_enter Try.func45, Try.ntmps45
  go_upto_region 1 with fail
  rw [← hb]
  clear hb
  generalize w.alloc (Obj.cells #[.string x.k, .int .i64 x.s, .slice x.A x.n x.c] 44) = w1 at HS HD ⊢
  have hB := HS.out.blk.1
  have y0 : w1.cell? ⟨b, 0, none⟩ = some (.string x.k) := hB.cell 0
  have y1 : w1.cell? ⟨b, 1, none⟩ = some (.int .i64 x.s) := hB.cell 1
  have y2 : w1.cell? ⟨b, 2, none⟩ = some (.slice x.A x.n x.c) := hB.cell 2
  clear hB
  go_wp2_with fail
  refine (St.rec_put HS.out x d _ _ rfl rfl HD.out HM.out).mono ?_
  rintro e w2 ⟨A2, c2, rfl, _, hs2⟩
  have HS2 := Lib.hid hs2.tail.tail
  clear hs2 HS y0 y1 y2
  go_wp2_with fail
  go_ret
  exact ⟨rfl, HS2.out⟩
set_option maxRecDepth 100000 in
set_option maxHeartbeats 2000000 in
theorem index_no (h : St w0 w l) (A : Option Addr) (m d : Nat) (X : List ItX) (hm : m = X.length) (hsrc : ∀ u, St w0 u l → RdI u A (X.map Prod.fst) ∧ ∀ x ∈ X, DatI u x.1 x.2) (hmay : ∀ x ∈ X, mayK (keyX x) = true) (hl : X.length ≤ 100000) :
    Calls Try.prog 66 #[.slice A m d, badF] w fun e w' => e = .returned (.int .i64 (-1)) ∧ St w0 w' l := by
  subst hm
  have q0 : (X.length : Int) ≤ 100000 := by omega
  have HH := Lib.hid (And.intro hsrc (And.intro hmay hl))
  have HS := Lib.hid h
  clear h hsrc hmay hl
  go_enter Try.func66, Try.ntmps66
  go_upto_region 2 with fail
  go_loopw [8] (fun v8 wr => ∃ i : Nat, i ≤ X.length ∧ v8 = .int .i64 i ∧ Hid (St w0 wr l)) (fun v8 _ => X.length - (intOf v8).toNat)
  case atStart => exact ⟨0, Nat.zero_le _, rfl, HS⟩
  case round =>
    clear HS
    obtain ⟨i, hi, rfl, HS⟩ := hrel
    by_cases hlt : i < X.length
    · have q1 : (i : Int) < (X.length : Int) := by omega
      rcases (HH.out.1 wr HS.out).1 with ⟨_, h0⟩ | ⟨ba, o, hA, hc⟩
      · have h1 := congrArg List.length h0
        simp at h1
        rw [h1] at hlt
        simp at hlt
      subst hA
      obtain ⟨x, hx⟩ : ∃ x, X[i]? = some x := ⟨_, List.getElem?_eq_getElem hlt⟩
      have hxm : x ∈ X := List.mem_iff_getElem?.2 ⟨i, hx⟩
      have hgx : (X.map Prod.fst)[i]'(by simpa using hlt) = x.1 := by
        rw [List.getElem_map]
        rw [List.getElem?_eq_getElem hlt] at hx
        injection hx with hx
        rw [hx]
      have d0 := hc i 0 (by simpa using hlt) (by decide)
      have d1 := hc i 1 (by simpa using hlt) (by decide)
      have d2 := hc i 2 (by simpa using hlt) (by decide)
      rw [hgx] at d0 d1 d2
      have hdd := (HH.out.1 wr HS.out).2 x hxm
      have hmm := HH.out.2.1 x hxm
      obtain ⟨⟨k, s, A1, n1, c1⟩, dd⟩ := x
      have d0' : wr.cell? ⟨ba, o + i * 3, none⟩ = some (.string k) := d0
      have d1' : wr.cell? ⟨ba, o + i * 3 + 1, none⟩ = some (.int .i64 s) := d1
      have d2' : wr.cell? ⟨ba, o + i * 3 + 2, none⟩ = some (.slice A1 n1 c1) := d2
      have hmm2 : mayI k s n1 = true := by
        have e : n1 = dd.length := hdd.1
        rw [e]
        exact hmm
      have HD := Lib.hid (And.intro hdd (And.intro hmm2 hlt))
      clear hx hxm hgx d0 d1 d2 hc hlt hdd hmm hmm2 hi
      go_wp2_with fail
      clear d0' d1' d2'
      refine (bad_no HS.out ⟨k, s, A1, n1, c1⟩ dd HD.out.1 HD.out.2.1).mono ?_
      rintro e w5 ⟨rfl, hs5⟩
      have HS5 := Lib.hid hs5
      clear hs5 HS
      go_wp2_with fail
      go_roundw
      case rel => exact ⟨i + 1, HD.out.2.2, by go_num, HS5⟩
      case measure => have := HD.out.2.2; simp [intOf]; omega
    · have q1 : ¬ (i : Int) < (X.length : Int) := by omega
      clear hlt hi
      go_wp2_with fail
      go_ret
      exact ⟨rfl, HS.out⟩
set_option maxRecDepth 100000 in
theorem contains_no (h : St w0 w l) (A : Option Addr) (m d : Nat) (X : List ItX) (hm : m = X.length) (hsrc : ∀ u, St w0 u l → RdI u A (X.map Prod.fst) ∧ ∀ x ∈ X, DatI u x.1 x.2) (hmay : ∀ x ∈ X, mayK (keyX x) = true) (hl : X.length ≤ 100000) :
    Calls Try.prog 47 #[.slice A m d, badF] w fun e w' => e = .returned (.bool false) ∧ St w0 w' l := by
  have HH := Lib.hid (And.intro hsrc (And.intro hmay (And.intro hl hm)))
  have HS := Lib.hid h
  clear h hsrc hmay hl hm
  go_enter Try.func47, Try.ntmps47
  go_wp2_with fail
  refine (index_no HS.out A m d X HH.out.2.2.2 HH.out.1 HH.out.2.1 HH.out.2.2.1).mono ?_
  rintro e w5 ⟨rfl, hs5⟩
  have HS5 := Lib.hid hs5
  clear hs5 HS
  go_wp2_with fail
  go_ret
  exact ⟨rfl, HS5.out⟩
end
end Go.Proofs.Ytkglkpcpgdeneaa
namespace Go.Proofs.Ytkglkpcpgdeneaa
open Go.RowKit
set_option linter.unusedVariables false
set_option linter.unusedSimpArgs false

/-- The store has these runs and no others. -/
structure Ex (S : StoreM) (ids : List Int) (Ks : List (List K3i)) : Prop where
  ok : S.Ok
  len : ids.length = Ks.length
  runs : S.runs = ids.zip (Ks.map flatK)
theorem find_zip : ∀ (ids : List Int) (Bs : List (List UInt8)) (j : Nat) (id : Int) (b : List UInt8), (ids.zip Bs).Pairwise (fun p q => p.1 ≠ q.1) → ids[j]? = some id → Bs[j]? = some b → ((ids.zip Bs).find? fun p => p.1 == id).map (·.2) = some b
  | [], _, _, _, _, _, h, _ => by simp at h
  | _ :: _, [], _, _, _, _, _, h => by simp at h
  | i :: ids, B :: Bs, 0, id, b, hp, h1, h2 => by
    simp only [List.getElem?_cons_zero, Option.some.injEq] at h1 h2
    subst h1 h2
    simp
  | i :: ids, B :: Bs, j + 1, id, b, hp, h1, h2 => by
    simp only [List.getElem?_cons_succ] at h1 h2
    rw [List.zip_cons_cons, List.pairwise_cons] at hp
    have hm : (id, b) ∈ ids.zip Bs := by
      refine List.mem_iff_getElem?.2 ⟨j, ?_⟩
      rw [List.getElem?_zip_eq_some]
      exact ⟨h1, h2⟩
    have hne := hp.1 _ hm
    rw [List.zip_cons_cons, List.find?_cons_of_neg (by simpa using hne)]
    exact find_zip ids Bs j id b hp.2 h1 h2
theorem Ex.find {S : StoreM} {ids : List Int} {Ks : List (List K3i)} (h : Ex S ids Ks) {j : Nat} {id : Int} {K : List K3i} (h1 : ids[j]? = some id) (h2 : Ks[j]? = some K) : S.find id = some (flatK K) := by
  unfold StoreM.find
  have hp := h.ok.ids
  rw [h.runs] at hp ⊢
  exact find_zip ids _ j id _ hp h1 (by rw [List.getElem?_map, h2]; rfl)
theorem sumK_mem {Ks : List (List K3i)} {K : List K3i} (h : K ∈ Ks) : sumK K ≤ sumK Ks.flatten := by
  induction Ks with
  | nil => cases h
  | cons L r ih =>
    rw [List.flatten_cons, sumK_app]
    rcases List.mem_cons.1 h with rfl | h
    · omega
    · have := ih h; omega
theorem Ex.has {S : StoreM} {ids : List Int} {Ks : List (List K3i)} (h : Ex S ids Ks) (hm : ∀ x ∈ Ks.flatten, mayK x = true) (hs : sumK Ks.flatten ≤ 1000000000) : HasRuns S ids Ks :=
  ⟨h.len, fun j id K hj hk => ⟨h.find hj hk, fun x hx => hm x (List.mem_flatten.2 ⟨K, List.mem_iff_getElem?.2 ⟨j, hk⟩, hx⟩), Nat.le_trans (sumK_mem (List.mem_iff_getElem?.2 ⟨j, hk⟩)) hs⟩⟩
theorem Ex.short {S : StoreM} {ids : List Int} {Ks : List (List K3i)} (h : Ex S ids Ks) {id : Int} {bs : List UInt8} (hf : S.find id = some bs) : bs.length ≤ sumK Ks.flatten := by
  have hm := (StoreM.find_some hf).1
  rw [h.runs] at hm
  have h2 := (List.of_mem_zip hm).2
  obtain ⟨K, hK, rfl⟩ := List.mem_map.1 h2
  rw [flatK_len]
  exact sumK_mem hK
theorem drop_keep (S : StoreM) (id : Int) : (S.drop id).next = S.next ∧ (S.drop id).writes = S.writes ∧ (S.drop id).room = S.room ∧ (S.drop id).fails = S.fails ∧ (S.drop id).peak = S.peak := by
  unfold StoreM.drop
  split <;> exact ⟨rfl, rfl, rfl, rfl, rfl⟩
theorem dropsS_keep : ∀ (ids : List Int) (S : StoreM), (dropsS S ids).next = S.next ∧ (dropsS S ids).writes = S.writes ∧ (dropsS S ids).room = S.room ∧ (dropsS S ids).fails = S.fails ∧ (dropsS S ids).peak = S.peak
  | [], S => ⟨rfl, rfl, rfl, rfl, rfl⟩
  | id :: r, S => by
    obtain ⟨h1, h2, h3, h4, h5⟩ := dropsS_keep r (S.drop id)
    obtain ⟨g1, g2, g3, g4, g5⟩ := drop_keep S id
    exact ⟨h1.trans g1, h2.trans g2, h3.trans g3, h4.trans g4, h5.trans g5⟩
theorem dropsS_ok : ∀ (ids : List Int) {S : StoreM}, S.Ok → (dropsS S ids).Ok
  | [], _, h => h
  | id :: r, _, h => dropsS_ok r (h.drop id)
theorem dropsS_runs {S : StoreM} {Y Z : List (Int × List UInt8)} (h : S.runs = Y ++ Z) : (dropsS S (Y.map Prod.fst)).runs = Z := by
  obtain ⟨T, h1, h2, _⟩ := runs_drops Y h
  rw [dropsS_runO] at h1
  injection h1 with h1
  rw [h1]
  exact h2
theorem runOf_writes {S T : StoreM} {nx : Int} {c : List K3i} (hn : S.next < 65536) (hr : runO S (runOf nx c) = (T, 0)) : T.writes = S.writes + c.length := by
  have hr' : (if stE S .create = 0 then runO S.create (appsO nx (srt ltK c)) else (S.create, stE S .create)) = (T, 0) := hr
  rw [if_pos (show stE S .create = 0 from if_pos hn)] at hr'
  rw [apps_writes _ hr', (create_next hn).2, srtK_len]
/-- A fold leaves the store so. -/
theorem Ex.fold {S T : StoreM} {ids : List Int} {Ks : List (List K3i)} (h : Ex S ids Ks) {fan : Nat} (hf : fan ≤ ids.length) (hn : S.next < 65536) (hr : runO S (runOf S.next (Ks.take fan).flatten) = (T, 0)) :
    Ex (dropsS T (ids.take fan)) (foldI S.next fan ids) (foldK fan Ks) ∧ (dropsS T (ids.take fan)).next = S.next + 1 ∧ (dropsS T (ids.take fan)).writes = S.writes + (Ks.take fan).flatten.length := by
  obtain ⟨h1, h2⟩ := runs_runOf h.ok hr
  have hokT : T.Ok := by
    have := runO_ok' h.ok (runOf S.next (Ks.take fan).flatten) h.ok
    rw [hr] at this
    exact this
  have hz : ids.zip (Ks.map flatK) = (ids.take fan).zip ((Ks.map flatK).take fan) ++ (ids.drop fan).zip ((Ks.map flatK).drop fan) := by
    have e1 : ids = ids.take fan ++ ids.drop fan := (List.take_append_drop fan ids).symm
    have e2 : Ks.map flatK = (Ks.map flatK).take fan ++ (Ks.map flatK).drop fan := (List.take_append_drop fan _).symm
    rw [← List.zip_append (by rw [List.length_take, List.length_take, List.length_map, h.len]), ← e1, ← e2]
  have hfst : ((ids.take fan).zip ((Ks.map flatK).take fan)).map Prod.fst = ids.take fan := by
    rw [List.map_fst_zip]
    rw [List.length_take, List.length_take, List.length_map, h.len]
    exact Nat.le_refl _
  rw [h.runs, hz, List.append_assoc] at h1
  have h3 := dropsS_runs h1
  rw [hfst] at h3
  obtain ⟨g1, g2, _⟩ := dropsS_keep (ids.take fan) T
  refine ⟨⟨dropsS_ok _ hokT, ?_, ?_⟩, by rw [g1, h2], by rw [g2, runOf_writes hn hr]⟩
  · unfold foldI foldK
    rw [List.length_append, List.length_append, List.length_drop, List.length_drop, h.len]
    rfl
  · rw [h3]
    unfold foldI foldK
    rw [List.map_append, List.map_drop, List.zip_append (by rw [List.length_drop, List.length_drop, List.length_map, h.len])]
    rfl
theorem foldK_perm (fan : Nat) (Ks : List (List K3i)) : (foldK fan Ks).flatten.Perm Ks.flatten := by
  unfold foldK
  rw [List.flatten_append]
  have e : Ks.flatten = (Ks.take fan).flatten ++ (Ks.drop fan).flatten := by rw [← List.flatten_append, List.take_append_drop]
  rw [e]
  refine List.perm_append_comm.trans (List.Perm.append_right _ ?_)
  simp only [List.flatten_cons, List.flatten_nil, List.append_nil]
  exact srt_perm _
theorem foldK_srt {fan : Nat} {Ks : List (List K3i)} (h : AllSrt Ks) : AllSrt (foldK fan Ks) := by
  intro t ht
  unfold foldK at ht
  rcases List.mem_append.1 ht with ht | ht
  · exact h t (List.mem_of_mem_drop ht)
  · rw [List.mem_singleton.1 ht]
    exact srt_sorted swoK _
theorem fullN_flat : ∀ (R : List (List K3i)), fullN R ≤ R.flatten.length
  | [] => Nat.le_refl _
  | t :: R => by
    have h1 := fullN_flat R
    unfold fullN at h1 ⊢
    rw [List.filter_cons, List.flatten_cons, List.length_append]
    cases t with
    | nil => simpa using h1
    | cons x t => simp only [List.isEmpty_cons, Bool.not_false, if_true, List.length_cons]; omega
theorem flat_take_len (Ks : List (List K3i)) (f : Nat) : (Ks.take f).flatten.length ≤ Ks.flatten.length := by
  have e : Ks.flatten = (Ks.take f).flatten ++ (Ks.drop f).flatten := by rw [← List.flatten_append, List.take_append_drop]
  rw [e, List.length_append]
  omega
theorem chunks_srt_perm : ∀ (Cs : List (List K3i)), (Cs.map (srt ltK)).flatten.Perm Cs.flatten
  | [] => List.Perm.refl _
  | c :: Cs => by
    rw [List.map_cons, List.flatten_cons, List.flatten_cons]
    exact (srt_perm c).append (chunks_srt_perm Cs)
theorem chunks_srt (Cs : List (List K3i)) : AllSrt (Cs.map (srt ltK)) := by
  intro t ht
  obtain ⟨c, _, rfl⟩ := List.mem_map.1 ht
  exact srt_sorted swoK _
end Go.Proofs.Ytkglkpcpgdeneaa
namespace Go.Proofs.Ytkglkpcpgdeneaa
open Go.RowKit
set_option linter.unusedVariables false
set_option linter.unusedSimpArgs false

theorem form_writes : ∀ (Cs : List (List K3i)) {S T : StoreM}, S.Ok → S.next + Cs.length ≤ 65536 → runO S (formO S.next Cs) = (T, 0) → T.writes = S.writes + Cs.flatten.length
  | [], S, T, _, _, hr => by
    obtain rfl : S = T := congrArg Prod.fst hr
    simp
  | c :: Cs, S, T, hok, hn, hr => by
    rw [List.length_cons] at hn
    rw [formO, runO_app] at hr
    split at hr
    · rename_i h0
      have h1 : runO S (runOf S.next c) = ((runO S (runOf S.next c)).1, 0) := by rw [← h0]
      have hok2 := runO_ok' hok (runOf S.next c) hok
      generalize (runO S (runOf S.next c)).1 = U at h1 hr hok2
      obtain ⟨h2, h3⟩ := runs_runOf hok h1
      rw [← h3] at hr
      rw [form_writes Cs hok2 (by rw [h3]; omega) hr, runOf_writes (by omega) h1, List.flatten_cons, List.length_append]
      omega
    · rename_i h0
      rw [hr] at h0
      exact absurd rfl h0
theorem results_sort {fn : Func} (h : fn.results = #[.tmp 8, .cell 9 28, .tmp 10]) (tmps : Array Value) (b : Nat) (x y z : Int) (w : World) (ht : tmps.getD 9 undef = .pointer (some ⟨b, 0, none⟩)) (hB : Blk w b 28 [.int .i64 x, .int .i64 y, .int .i64 z]) :
    (results fn tmps).run Try.prog w = .ok (.tuple #[tmps.getD 8 undef, .agg #[.int .i64 x, .int .i64 y, .int .i64 z], tmps.getD 10 undef]) w := by
  have c0 := hB.cell 0
  have c1 := hB.cell 1
  have c2 := hB.cell 2
  simp only [List.getElem?_cons_zero, List.getElem?_cons_succ] at c0 c1 c2
  have ht2 : tmps[9]?.getD undef = .pointer (some ⟨b, 0, none⟩) := by rw [← ht]; simp
  simp [results, h, ht2, go_sem, c0, c1, c2]
/-- How many were held at most. -/
def PkF (bud : Int) (fan N : Nat) (pk : Int) : Prop := 0 ≤ pk ∧ pk ≤ max bud fan ∧ pk ≤ N ∧ (0 < N → 1 ≤ pk)
theorem PkF.more {bud : Int} {fan N : Nat} {pk : Int} (h : PkF bud fan N pk) {k : Nat} (h1 : k ≤ fan) (h2 : k ≤ N) : PkF bud fan N (max pk k) := by
  obtain ⟨g1, g2, g3, g4⟩ := h
  exact ⟨by omega, by omega, by omega, fun h => by have := g4 h; omega⟩
section
variable {w0 w : World} {l : List Part} {ob sb mb : Nat} {S : StoreM}
/-- What Sort leads to. -/
def SortS (w0 : World) (l : List Part) (sb : Nat) (S : StoreM) (bud : Int) (fan : Nat) (items : List K3i) (e : Ending) (w' : World) : Prop :=
  ∃ T er, runO S (sortO S.next bud fan items) = (T, er) ∧
    (er = 0 → ∃ (A : Option Addr) (c : Nat) (X : List ItX) (rows : RowsM) (pk : Int), e = .returned (.tuple #[.slice A X.length c, .agg #[.int .i64 pk, .int .i64 (chunks bud [] items).length, .int .i64 (tailK (chunks bud [] items).length fan ((chunks bud [] items).map (srt ltK))).2], .int .i64 0]) ∧
      X.map keyX = srt ltK (tailK (chunks bud [] items).length fan ((chunks bud [] items).map (srt ltK))).1.flatten ∧ OutX rows X ∧ PkF bud fan items.length pk ∧ St w0 w' (ownP 44 3 (.slice A X.length c) X.length (flatI (X.map Prod.fst)) :: rdsP rows :: storeP sb T :: l)) ∧
    (er ≠ 0 → e = .returned (.tuple #[.slice none 0 0, .agg #[.int .i64 0, .int .i64 0, .int .i64 0], .int .i64 er]) ∧ St w0 w' (storeP sb T :: l))
/-- The sort between two folds. -/
def FoldI (w0 : World) (l : List Part) (ob b9 sb : Nat) (S : StoreM) (bud : Int) (fan : Nat) (items : List K3i) (nn : Nat) (A : Option Addr) (c : Nat) (w : World) : Prop :=
  ∃ (S' : StoreM) (ids : List Int) (Ks : List (List K3i)) (fuel : Nat) (pk : Int) (m : Nat), runO S (sortO S.next bud fan items) = runO S' (tailO fuel S'.next fan ids Ks) ∧ Ex S' ids Ks ∧ AllSrt Ks ∧ Ks.flatten.Perm items ∧ nn = ids.length ∧ nn ≤ fuel ∧
    S'.next + nn ≤ S.next + 2 * (chunks bud [] items).length ∧ m + nn ≤ (chunks bud [] items).length ∧ S'.writes ≤ S.writes + 1000 * (m + 1) ∧
    tailK (chunks bud [] items).length fan ((chunks bud [] items).map (srt ltK)) = ((tailK fuel fan Ks).1, m + (tailK fuel fan Ks).2) ∧ PkF bud fan items.length pk ∧
    St w0 w (blkP ob 85 (soC sb A nn c pk (chunks bud [] items).length m) :: ownP 3 1 (.slice A nn c) nn (ints ids) :: storeP sb S' :: blkP b9 28 [.int .i64 0, .int .i64 0, .int .i64 0] :: l)
def FailI (w0 : World) (l : List Part) (b9 sb : Nat) (S : StoreM) (bud : Int) (fan : Nat) (items : List K3i) (er : Int) (w : World) : Prop :=
  er ≠ 0 ∧ ∃ T, runO S (sortO S.next bud fan items) = (T, er) ∧ St w0 w (storeP sb T :: blkP b9 28 [.int .i64 0, .int .i64 0, .int .i64 0] :: l)
theorem tailO_end {fan : Nat} {ids : List Int} (h : ¬ fan < ids.length) (fuel : Nat) (nx : Int) (Ks : List (List K3i)) : tailO fuel nx fan ids Ks = ids.map OpS.drop := by
  cases fuel with
  | zero => rfl
  | succ f => rw [tailO, if_neg h]
theorem tailK_end {fan : Nat} {Ks : List (List K3i)} (h : ¬ fan < Ks.length) (fuel : Nat) : tailK fuel fan Ks = (Ks, 0) := by
  cases fuel with
  | zero => rfl
  | succ f => rw [tailK, if_neg h]
/-- How many runs the sorter's block tells of. -/
def nRuns (ob : Nat) (w : World) : Nat := match w.cell? ⟨ob, 1, none⟩ with | some (.slice _ n _) => n | _ => 0
theorem St.n_runs {A : Option Addr} {n c : Nat} {pk rn mg : Int} (h : St w0 w (blkP ob 85 (soC sb A n c pk rn mg) :: l)) : nRuns ob w = n := by
  have h1 := h.blk.1.cell 1
  unfold nRuns
  rw [h1]
  rfl
/-- The sort, whatever has come of it so far. -/
def RoundI (w0 : World) (l : List Part) (ob b9 sb : Nat) (S : StoreM) (bud : Int) (fan : Nat) (items : List K3i) (er : Int) (w : World) : Prop :=
  (er = 0 ∧ ∃ nn A c, FoldI w0 l ob b9 sb S bud fan items nn A c w) ∨ FailI w0 l b9 sb S bud fan items er w
theorem form_round {b9 : Nat} {bud : Int} {fan : Nat} {items : List K3i} {e : Ending} (hb : 2 ≤ bud) (hf : 2 ≤ fan) (hl : items.length ≤ 1000) (hok : S.Ok) (hr0 : S.runs = []) (hnx : S.next ≤ 1000) (h : FormS w0 (blkP b9 28 [.int .i64 0, .int .i64 0, .int .i64 0] :: l) ob sb S bud items e w) :
    ∃ er, e = .returned (.int .i64 er) ∧ RoundI w0 l ob b9 sb S bud fan items er w := by
  obtain ⟨T, er, hr, rfl, h0, h1⟩ := h
  refine ⟨er, rfl, ?_⟩
  by_cases e0 : er = 0
  · subst e0
    obtain ⟨A, c, pk, hP, hs⟩ := h0 rfl
    have hcl := chunks_len bud items
    obtain ⟨g1, g2⟩ := runs_form (chunks bud [] items) hok hr
    have hokT : T.Ok := by
      have := runO_ok' hok (formO S.next (chunks bud [] items)) hok
      rw [hr] at this
      exact this
    have hw := form_writes _ hok (by omega) hr
    rw [chunks_flat, List.nil_append] at hw
    rw [hr0, List.nil_append] at g1
    refine .inl ⟨rfl, _, A, c, T, idsN S.next (chunks bud [] items).length, (chunks bud [] items).map (srt ltK), (chunks bud [] items).length, pk, 0, ?_, ⟨hokT, by rw [idsN_len, List.length_map], g1⟩, chunks_srt _, ?_, (idsN_len _ _).symm, Nat.le_refl _, by omega, by omega, by omega, by simp, ?_, hs⟩
    · unfold sortO
      rw [runO_ok hr, g2]
    · refine (chunks_srt_perm _).trans ?_
      rw [chunks_flat]
      exact List.Perm.refl _
    · obtain ⟨p1, p2, p3, p4⟩ := hP
      exact ⟨p1, by omega, p3, p4⟩
  · refine .inr ⟨e0, T, ?_, h1 e0⟩
    unfold sortO
    exact runO_bad hr e0
theorem fold_round {b9 : Nat} {bud : Int} {fan : Nat} {items : List K3i} {e : Ending} {S' : StoreM} {ids : List Int} {Ks : List (List K3i)} {fuel : Nat} {pk : Int} {m : Nat} (hf : 2 ≤ fan) (hgt : fan < ids.length) (hcl : (chunks bud [] items).length ≤ 1000) (hnx : S.next ≤ 1000)
    (h1 : runO S (sortO S.next bud fan items) = runO S' (tailO fuel S'.next fan ids Ks)) (h2 : Ex S' ids Ks) (h3 : AllSrt Ks) (h4 : Ks.flatten.Perm items) (h6 : ids.length ≤ fuel) (h7 : S'.next + ids.length ≤ S.next + 2 * (chunks bud [] items).length) (h8 : m + ids.length ≤ (chunks bud [] items).length) (h9 : S'.writes ≤ S.writes + 1000 * (m + 1))
    (h10 : tailK (chunks bud [] items).length fan ((chunks bud [] items).map (srt ltK)) = ((tailK fuel fan Ks).1, m + (tailK fuel fan Ks).2)) (h11 : PkF bud fan items.length pk) (hcnt : Ks.flatten.length ≤ 1000)
    (h : FoldS w0 (blkP b9 28 [.int .i64 0, .int .i64 0, .int .i64 0] :: l) ob sb S' fan ids Ks pk (chunks bud [] items).length m e w) :
    ∃ er, e = .returned (.int .i64 er) ∧ RoundI w0 l ob b9 sb S bud fan items er w ∧ (er = 0 → nRuns ob w < ids.length) := by
  obtain ⟨T, er, hr, rfl, g0, g1⟩ := h
  refine ⟨er, rfl, ?_⟩
  obtain ⟨f, rfl⟩ : ∃ f, fuel = f + 1 := ⟨fuel - 1, by omega⟩
  have hgK : fan < Ks.length := by rw [← h2.len]; exact hgt
  rw [tailO, if_pos hgt] at h1
  rw [tailK, if_pos hgK] at h10
  by_cases e0 : er = 0
  · subst e0
    obtain ⟨A, c, hs⟩ := g0 rfl
    obtain ⟨x1, x2, x3⟩ := h2.fold (by omega) (by omega) hr
    have hfl : (foldI S'.next fan ids).length = ids.length - fan + 1 := by
      unfold foldI
      rw [List.length_append, List.length_drop]
      rfl
    have hfn := flat_take_len Ks fan
    have hft : fullN (Ks.take fan) ≤ fan := by have := fullN_le (Ks.take fan); rw [List.length_take] at this; omega
    have hft2 : fullN (Ks.take fan) ≤ items.length := by have := fullN_flat (Ks.take fan); have := h4.length_eq; omega
    refine ⟨.inl ⟨rfl, _, A, c, _, _, foldK fan Ks, f, max pk (fullN (Ks.take fan)), m + 1, ?_, x1, foldK_srt h3, (foldK_perm fan Ks).trans h4, rfl, by rw [hfl]; omega, by rw [hfl, x2]; omega, by rw [hfl]; omega, by rw [x3]; omega, by rw [h10]; ext1 <;> simp only <;> omega, h11.more hft hft2, hs⟩, fun _ => ?_⟩
    · rw [h1, x2]
      have hdo : runO S' (foldO S'.next fan ids Ks) = (dropsS T (ids.take fan), 0) := by
        unfold foldO
        rw [runO_ok hr, dropsS_runO]
      rw [runO_ok hdo]
    · rw [hs.n_runs, hfl]
      omega
  · refine ⟨.inr ⟨e0, T, ?_, g1 e0⟩, fun h => absurd h e0⟩
    rw [h1]
    have hdo : runO S' (foldO S'.next fan ids Ks) = (T, er) := by
      unfold foldO
      exact runO_bad hr e0
    exact runO_bad hdo e0
set_option maxRecDepth 100000 in
set_option maxHeartbeats 4000000 in
theorem so_sort (h : St w0 w (storeP sb S :: l)) (B : Option Addr) (n d : Nat) (X : List ItX) (hn : n = X.length) (hsrc : ∀ u, St w0 u l → RdI u B (X.map Prod.fst) ∧ ∀ x ∈ X, DatI u x.1 x.2) (hmay : ∀ x ∈ X, mayK (keyX x) = true) (bud : Int) (hb : 2 ≤ bud) (fan : Nat) (fani : Int) (hfi : fani = fan) (hf : 2 ≤ fan) (hl : X.length ≤ 1000) (hs : sumK (X.map keyX) ≤ 10000000) (hok : S.Ok) (hr0 : S.runs = []) (hnx : S.next ≤ 1000) (hW : S.writes ≤ 1000000) :
    Calls Try.prog 17 #[.pointer (some ⟨sb, 0, none⟩), .slice B n d, .int .i64 bud, .int .i64 fani] w (SortS w0 l sb S bud fan (X.map keyX)) := by
  subst hn hfi
  have q0 : (X.length : Int) ≤ 1000 := by omega
  have q1 : decide (bud < 2) = false := by simp only [decide_eq_false_iff_not]; omega
  have q2 : decide ((fan : Int) < 2) = false := by simp only [decide_eq_false_iff_not]; omega
  obtain ⟨b9, hb9⟩ : ∃ b9, b9 = w.heap.size := ⟨_, rfl⟩
  have hs1 := h.boxB [.int .i64 0, .int .i64 0, .int .i64 0] 28 b9 hb9
  have HH := Lib.hid (And.intro hsrc (And.intro hmay (And.intro hb (And.intro hf (And.intro hl (And.intro hs (And.intro hok (And.intro hr0 (And.intro hnx hW)))))))))
  have HS : Hid (St w0 (w.alloc (Obj.cells #[.int .i64 0, .int .i64 0, .int .i64 0] 28)) (storeP sb S :: blkP b9 28 [.int .i64 0, .int .i64 0, .int .i64 0] :: l)) := Lib.hid hs1.swap
  clear h hs1 hsrc hmay hb hf hl hs hok hr0 hnx hW
  go_enter Try.func17, Try.ntmps17
  go_upto_region 1 with fail
  rw [← hb9]
  clear hb9
  generalize w.alloc (Obj.cells #[.int .i64 0, .int .i64 0, .int .i64 0] 28) = w1 at HS ⊢
  go_wp2_with fail
  refine (contains_no HS.out B X.length d X rfl (fun u hu => HH.out.1 u hu.tail.tail) HH.out.2.1 (by have := HH.out.2.2.2.2.1; omega)).mono ?_
  rintro e w2 ⟨rfl, hs2⟩
  obtain ⟨ob, hob⟩ : ∃ ob, ob = w2.heap.size := ⟨_, rfl⟩
  have HS2 : Hid (St w0 (w2.alloc (Obj.cells #[.pointer (some ⟨sb, 0, none⟩), .slice none 0 0, .int .i64 0, .int .i64 0, .int .i64 0] 85)) (blkP ob 85 (soC sb none 0 0 0 0 0) :: storeP sb S :: blkP b9 28 [.int .i64 0, .int .i64 0, .int .i64 0] :: l)) := Lib.hid (hs2.boxB (soC sb none 0 0 0 0 0) 85 ob hob)
  clear hs2 HS
  go_upto_region 5 with fail
  rw [← hob]
  clear hob
  generalize w2.alloc (Obj.cells #[.pointer (some ⟨sb, 0, none⟩), .slice none 0 0, .int .i64 0, .int .i64 0, .int .i64 0] 85) = w3 at HS2 ⊢
  go_wp2_with fail
  refine (so_form HS2.out B X.length d X rfl (fun u hu => HH.out.1 u hu.tail) HH.out.2.1 bud HH.out.2.2.1 (by have := HH.out.2.2.2.2.1; omega) (by have := HH.out.2.2.2.2.2.1; omega) (by have := HH.out.2.2.2.2.2.2.2.2.2; omega)).mono ?_
  intro e w4 hfo
  obtain ⟨er, rfl, hro⟩ := form_round (fan := fan) HH.out.2.2.1 HH.out.2.2.2.1 (by rw [List.length_map]; exact HH.out.2.2.2.2.1) HH.out.2.2.2.2.2.2.1 HH.out.2.2.2.2.2.2.2.1 HH.out.2.2.2.2.2.2.2.2.1 hfo
  have HRO := Lib.hid hro
  clear hfo hro HS2
  go_upto_region 6 with fail
  go_loopw [13] (fun v13 wr => ∃ er : Int, v13 = .int .i64 er ∧ Hid (RoundI w0 l ob b9 sb S bud fan (X.map keyX) er wr)) (fun v13 wr => if intOf v13 = 0 then nRuns ob wr + 1 else 0)
  case atStart => exact ⟨er, rfl, HRO⟩
  case round =>
    clear HRO
    obtain ⟨er, rfl, HRO⟩ := hrel
    rcases HRO.out with ⟨e0, nn, A, c, S', ids, Ks, fuel, pk, m, h1, h2, h3, h4, h5, h6, h7, h8, h9, h10, h11, hs⟩ | ⟨e0, T, h1, hs⟩
    · subst e0 h5
      have c1 : wr.cell? ⟨ob, 1, none⟩ = some (.slice A ids.length c) := hs.blk.1.cell 1
      have q3 : (ids.length : Int) ≤ 1000 := by
        have h20 := chunks_len bud (X.map keyX)
        rw [List.length_map] at h20
        have := HH.out.2.2.2.2.1
        omega
      have hmayK : ∀ x ∈ Ks.flatten, mayK x = true := fun x hx => by
        obtain ⟨y, hy, rfl⟩ := List.mem_map.1 (h4.mem_iff.1 hx)
        exact HH.out.2.1 y hy
      have hsum : sumK Ks.flatten ≤ 10000000 := by rw [sumK_perm h4]; exact HH.out.2.2.2.2.2.1
      have hcnt : Ks.flatten.length ≤ 1000 := by rw [h4.length_eq, List.length_map]; exact HH.out.2.2.2.2.1
      have hhas := h2.has hmayK (by omega)
      have hcl := chunks_len bud (X.map keyX)
      rw [List.length_map] at hcl
      by_cases hgt : fan < ids.length
      · have q4 : (fan : Int) < (ids.length : Int) := by omega
        have HF := Lib.hid (And.intro h1 (And.intro h2 (And.intro h3 (And.intro h4 (And.intro h6 (And.intro h7 (And.intro h8 (And.intro h9 (And.intro h10 (And.intro h11 (And.intro hhas (And.intro hsum (And.intro hcnt (And.intro hcl hgt))))))))))))))
        have HS := Lib.hid hs
        clear h1 h2 h3 h4 h6 h7 h8 h9 h10 h11 hs hhas hsum hcnt hcl hgt hmayK HRO
        go_wp2_with fail
        refine (so_fold HS.out fan HH.out.2.2.2.1 HF.out.2.2.2.2.2.2.2.2.2.2.2.2.2.2 HF.out.2.2.2.2.2.2.2.2.2.2.1 HF.out.2.2.1 HF.out.2.1.ok (by
          have := HF.out.2.2.2.2.2.1; have := HF.out.2.2.2.2.2.2.2.2.2.2.2.2.2.1; have := HH.out.2.2.2.2.1; have := HH.out.2.2.2.2.2.2.2.2.1; omega) (by omega) (by have := HF.out.2.2.2.2.2.2.2.2.2.2.2.1; omega) (by
          have := HF.out.2.2.2.2.2.2.2.1; have := HF.out.2.2.2.2.2.2.1; have := HF.out.2.2.2.2.2.2.2.2.2.2.2.2.2.1; have := HH.out.2.2.2.2.1; have := HH.out.2.2.2.2.2.2.2.2.2; omega) (by omega) (by
          have := HF.out.2.2.2.2.2.2.1; have := HF.out.2.2.2.2.2.2.2.2.2.2.2.2.2.1; have := HH.out.2.2.2.2.1; omega)).mono ?_
        intro e w5 hfo
        have hfr := fold_round (S := S) (items := X.map keyX) HH.out.2.2.2.1 HF.out.2.2.2.2.2.2.2.2.2.2.2.2.2.2 (by have := HF.out.2.2.2.2.2.2.2.2.2.2.2.2.2.1; have := HH.out.2.2.2.2.1; omega) HH.out.2.2.2.2.2.2.2.2.1 HF.out.1 HF.out.2.1 HF.out.2.2.1 HF.out.2.2.2.1 HF.out.2.2.2.2.1 HF.out.2.2.2.2.2.1 HF.out.2.2.2.2.2.2.1 HF.out.2.2.2.2.2.2.2.1 HF.out.2.2.2.2.2.2.2.2.1 HF.out.2.2.2.2.2.2.2.2.2.1 HF.out.2.2.2.2.2.2.2.2.2.2.2.2.1 hfo
        obtain ⟨er, rfl, hro, hlt⟩ := hfr
        have HRO := Lib.hid hro
        have HLT := Lib.hid hlt
        have HNW : Hid (nRuns ob wr = ids.length) := Lib.hid HS.out.n_runs
        clear hfo hro hlt c1 HS HF
        go_wp2_with fail
        go_roundw
        case rel => exact ⟨er, rfl, HRO⟩
        case measure =>
          have h1 := HNW.out
          have h2 := HLT.out
          show (if er = 0 then nRuns ob w5 + 1 else 0) < (if (0 : Int) = 0 then nRuns ob wr + 1 else 0)
          rw [if_pos (rfl : (0 : Int) = 0), h1]
          split
          · rename_i e0
            have h3 := h2 e0
            omega
          · omega
      · have q4 : ¬ (fan : Int) < (ids.length : Int) := by omega
        have hgK : ¬ fan < Ks.length := by rw [← h2.len]; exact hgt
        have hdo : runO S (sortO S.next bud fan (X.map keyX)) = (dropsS S' ids, 0) := by
          rw [h1, tailO_end hgt, dropsS_runO]
        rw [tailK_end hgK] at h10
        have hft : fullN Ks ≤ fan := by have := fullN_le Ks; omega
        have hft2 : fullN Ks ≤ (X.map keyX).length := by have := fullN_flat Ks; have := h4.length_eq; omega
        have HF := Lib.hid (And.intro hdo (And.intro h10 (h11.more hft hft2)))
        have HM := Lib.hid (And.intro hhas (And.intro h3 (And.intro (fun (id : Int) (bs : List UInt8) (hf : S'.find id = some bs) => Nat.le_trans (h2.short hf) (Nat.le_trans hsum (by decide : 10000000 ≤ 1000000000))) (by omega : Ks.flatten.length ≤ 1000000))))
        have HS := Lib.hid hs
        clear h1 h2 h3 h4 h6 h7 h8 h9 h10 h11 hs hhas hsum hcnt hcl hgt hmayK HRO hgK hdo hft hft2
        go_wp2_with fail
        clear c1
        refine (so_all HS.out HM.out.1 HM.out.2.1 (by omega) HM.out.2.2.1 HM.out.2.2.2).mono ?_
        rintro e w5 ⟨A5, c5, Y, rows, A6, n6, c6, rfl, hY, hO, hs5⟩
        have HS5 := Lib.hid hs5
        have HY := Lib.hid (And.intro hY hO)
        obtain ⟨pk2, hpk2⟩ : ∃ pk2, pk2 = max pk ((fullN Ks : Nat) : Int) := ⟨_, rfl⟩
        have hob := hs5.blk.1
        rw [← hpk2] at hob
        have c2 : w5.cell? ⟨ob, 2, none⟩ = some (.int .i64 pk2) := hob.cell 2
        have c3 : w5.cell? ⟨ob, 3, none⟩ = some (.int .i64 (chunks bud [] (X.map keyX)).length) := hob.cell 3
        have c4 : w5.cell? ⟨ob, 4, none⟩ = some (.int .i64 m) := hob.cell 4
        clear hs5 hY hO HS
        have hb := (HS5.out.mv 4 (by simp)).blk.1
        have p0 : w5.cell? ⟨b9, 0, none⟩ = some (.int .i64 0) := hb.cell 0
        have p1 : w5.cell? ⟨b9, 1, none⟩ = some (.int .i64 0) := hb.cell 1
        have p2 : w5.cell? ⟨b9, 2, none⟩ = some (.int .i64 0) := hb.cell 2
        have pf0 := hb.free 0
        have pf1 := hb.free 1
        have pf2 := hb.free 2
        clear hb hob
        go_upto_region 13 with fail
        have hs8 := (((HS5.out.drew.mv 4 (by simp)).set 0 (.int .i64 pk2)).set 1 (.int .i64 (chunks bud [] (X.map keyX)).length)).set 2 (.int .i64 m)
        simp only [List.set_cons_zero, List.set_cons_succ] at hs8
        have HS8 := Lib.hid hs8
        have HPK := Lib.hid hpk2
        clear hs8 HS5 hpk2
        go_region
        go_wp2_with fail
        refine bodyPost_ret (results_sort rfl _ b9 pk2 (chunks bud [] (X.map keyX)).length m _ rfl HS8.out.blk.1) rfl ?_
        refine ⟨dropsS S' ids, 0, HF.out.1, fun _ => ⟨A5, c5, Y, rows, pk2, ?_, ?_, HY.out.2, by rw [HPK.out]; exact HF.out.2.2, ?_⟩, fun h => absurd rfl h⟩
        · rw [HF.out.2.1]
          rfl
        · rw [HF.out.2.1]
          exact HY.out.1
        · have h20 := HS8.out
          exact h20.tail.tail
    · have hz : (er == 0) = false := by simpa using e0
      have HF := Lib.hid (And.intro e0 h1)
      have HS := Lib.hid hs
      have hb := hs.tail.blk.1
      have p0 : wr.cell? ⟨b9, 0, none⟩ = some (.int .i64 0) := hb.cell 0
      have p1 : wr.cell? ⟨b9, 1, none⟩ = some (.int .i64 0) := hb.cell 1
      have p2 : wr.cell? ⟨b9, 2, none⟩ = some (.int .i64 0) := hb.cell 2
      have pf0 := hb.free 0
      have pf1 := hb.free 1
      have pf2 := hb.free 2
      have hs8 := ((hs.swap.set 0 (.int .i64 0)).set 1 (.int .i64 0)).set 2 (.int .i64 0)
      simp only [List.set_cons_zero, List.set_cons_succ] at hs8
      have HS8 := Lib.hid hs8
      clear e0 h1 hs HRO hb hs8 HS
      go_wp2_with fail
      refine bodyPost_ret (results_sort rfl _ b9 0 0 0 _ rfl HS8.out.blk.1) rfl ?_
      exact ⟨T, er, HF.out.2, fun h => absurd h HF.out.1, fun _ => ⟨rfl, HS8.out.tail⟩⟩
end
end Go.Proofs.Ytkglkpcpgdeneaa
namespace Go.Proofs.Ytkglkpcpgdeneaa
open Go.RowKit
set_option linter.unusedVariables false
set_option linter.unusedSimpArgs false

theorem sum_zip : ∀ (ids : List Int) (Ks : List (List K3i)), ids.length = Ks.length → ((ids.zip (Ks.map flatK)).map fun p => p.2.length).sum = sumK Ks.flatten
  | [], [], _ => rfl
  | [], _ :: _, h => by cases h
  | _ :: _, [], h => by cases h
  | i :: ids, K :: Ks, h => by
    rw [List.map_cons, List.zip_cons_cons, List.map_cons, List.sum_cons, sum_zip ids Ks (by simpa using h), flatK_len, List.flatten_cons, sumK_app]
theorem Ex.used {S : StoreM} {ids : List Int} {Ks : List (List K3i)} (h : Ex S ids Ks) : S.used = sumK Ks.flatten := by
  rw [h.ok.sum, h.runs, sum_zip ids Ks h.len]
/-- No write fails, and there is room. -/
structure Big (S : StoreM) (n : Nat) : Prop where
  ok : S.Ok
  nofail : S.fails = []
  room : S.used + n ≤ S.room
theorem good_apps {id : Int} {Z : List (Int × List UInt8)} (hz : ∀ p ∈ Z, p.1 ≠ id) : ∀ (L : List K3i) {S : StoreM} {bs : List UInt8}, S.runs = Z ++ [(id, bs)] → S.fails = [] → S.used + sumK L ≤ S.room →
    ∃ T, runO S (appsO id L) = (T, 0) ∧ T.fails = [] ∧ T.room = S.room ∧ T.used = S.used + sumK L ∧ S.peak ≤ T.peak ∧ T.peak ≤ max S.peak (S.used + sumK L)
  | [], S, bs, h, hf, hr => ⟨S, rfl, hf, rfl, by simp [sumK], Int.le_refl _, by simp [sumK]; omega⟩
  | x :: L, S, bs, h, hf, hr => by
    rw [sumK_cons] at hr
    have hfi := find_last h hz
    have hlen : ((encK x).length : Int) = lenK x := by rw [encK_len]
    have he : S.appendE id (encK x) = 0 := by
      unfold StoreM.appendE
      rw [hfi]
      simp only
      rw [if_neg (by rw [hf]; exact List.not_mem_nil), if_neg (by omega)]
    have ha : S.append id (encK x) = S.add id (encK x) := by
      unfold StoreM.append
      rw [hfi]
      simp only
      rw [if_neg (by rw [hf]; exact List.not_mem_nil), if_neg (by omega)]
    have h1 := runs_app h hz he
    have hu : (S.append id (encK x)).used = S.used + lenK x := by rw [ha]; show S.used + ((encK x).length : Int) = _; omega
    have hp : (S.append id (encK x)).peak = max S.peak (S.used + lenK x) := by rw [ha]; show max S.peak (S.used + ((encK x).length : Int)) = _; rw [hlen]
    have hrm : (S.append id (encK x)).room = S.room := by rw [ha]; rfl
    obtain ⟨T, g1, g2, g3, g4, g5, g6⟩ := good_apps hz L h1 (by rw [ha]; exact hf) (by rw [hu, hrm]; omega)
    refine ⟨T, ?_, g2, by rw [g3, hrm], by rw [g4, hu, sumK_cons]; omega, by omega, by rw [sumK_cons]; omega⟩
    show (if S.appendE id (encK x) = 0 then runO (S.append id (encK x)) (appsO id L) else _) = _
    rw [if_pos he]
    exact g1
theorem good_runOf {S : StoreM} (hok : S.Ok) (hf : S.fails = []) (hn : S.next < 65536) {c : List K3i} (hr : S.used + sumK c ≤ S.room) :
    ∃ T, runO S (runOf S.next c) = (T, 0) ∧ T.fails = [] ∧ T.room = S.room ∧ T.used = S.used + sumK c ∧ S.peak ≤ T.peak ∧ T.peak ≤ max S.peak (S.used + sumK c) := by
  have h1 : S.create.runs = S.runs ++ [(S.next, [])] := by
    unfold StoreM.create
    rw [if_neg (by omega)]
  have h2 : S.create.fails = S.fails ∧ S.create.used = S.used ∧ S.create.room = S.room ∧ S.create.peak = S.peak := by
    unfold StoreM.create
    rw [if_neg (by omega)]
    exact ⟨rfl, rfl, rfl, rfl⟩
  obtain ⟨e1, e2, e3, e4⟩ := h2
  obtain ⟨T, g1, g2, g3, g4, g5, g6⟩ := good_apps (id := S.next) (fun p hp => by have := (hok.below p hp).2; omega) (srt ltK c) h1 (by rw [e1, hf]) (by rw [e2, e3, srtK_sum]; exact hr)
  rw [srtK_sum] at g4 g6
  refine ⟨T, ?_, g2, by rw [g3, e3], by rw [g4, e2], by omega, by omega⟩
  show (if stE S .create = 0 then runO S.create (appsO S.next (srt ltK c)) else _) = _
  rw [if_pos (show stE S .create = 0 from if_pos hn)]
  exact g1
theorem good_form : ∀ (Cs : List (List K3i)) {S : StoreM}, S.Ok → S.fails = [] → S.next + Cs.length ≤ 65536 → S.used + sumK Cs.flatten ≤ S.room →
    ∃ T, runO S (formO S.next Cs) = (T, 0) ∧ T.fails = [] ∧ T.room = S.room ∧ T.peak ≤ max S.peak (S.used + sumK Cs.flatten)
  | [], S, _, hf, _, _ => ⟨S, rfl, hf, rfl, by omega⟩
  | c :: Cs, S, hok, hf, hn, hr => by
    rw [List.length_cons] at hn
    rw [List.flatten_cons, sumK_app] at hr
    obtain ⟨T, g1, g2, g3, g4, g5, g6⟩ := good_runOf (c := c) hok hf (by omega) (by omega)
    have hokT : T.Ok := by
      have := runO_ok' hok (runOf S.next c) hok
      rw [g1] at this
      exact this
    obtain ⟨h2, h3⟩ := runs_runOf hok g1
    obtain ⟨U, k1, k2, k3, k4⟩ := good_form Cs hokT g2 (by rw [h3]; omega) (by rw [g4, g3]; omega)
    refine ⟨U, ?_, k2, by rw [k3, g3], by rw [List.flatten_cons, sumK_app]; omega⟩
    rw [formO, runO_ok g1, ← h3]
    exact k1
theorem drops_all {S : StoreM} {ids : List Int} {Ks : List (List K3i)} (h : Ex S ids Ks) : (dropsS S ids).used = 0 := by
  have hfst : (ids.zip (Ks.map flatK)).map Prod.fst = ids := by
    rw [List.map_fst_zip]
    rw [List.length_map, h.len]
    exact Nat.le_refl _
  have h1 := dropsS_runs (S := S) (Y := ids.zip (Ks.map flatK)) (Z := []) (by rw [h.runs, List.append_nil])
  rw [hfst] at h1
  have h2 := (dropsS_ok ids h.ok).sum
  rw [h1] at h2
  simpa using h2
theorem good_tail (fan : Nat) (hf2 : 2 ≤ fan) : ∀ (fuel : Nat) {S : StoreM} {ids : List Int} {Ks : List (List K3i)}, Ex S ids Ks → S.fails = [] → S.next + ids.length ≤ 65536 → 2 * sumK Ks.flatten ≤ S.room →
    ∃ T, runO S (tailO fuel S.next fan ids Ks) = (T, 0) ∧ T.used = 0 ∧ T.peak ≤ max S.peak (2 * sumK Ks.flatten)
  | 0, S, ids, Ks, h, hf, hn, hr => ⟨dropsS S ids, dropsS_runO ids S, drops_all h, by rw [(dropsS_keep ids S).2.2.2.2]; omega⟩
  | fuel + 1, S, ids, Ks, h, hf, hn, hr => by
    by_cases hgt : fan < ids.length
    · rw [tailO, if_pos hgt]
      have hs := sumK_flat_take (Ks := Ks) fan
      have hu := h.used
      obtain ⟨T, g1, g2, g3, g4, g5, g6⟩ := good_runOf (c := (Ks.take fan).flatten) h.ok hf (by omega) (by omega)
      obtain ⟨x1, x2, x3⟩ := h.fold (by omega) (by omega) g1
      obtain ⟨d1, d2, d3, d4, d5⟩ := dropsS_keep (ids.take fan) T
      have hsum : sumK (foldK fan Ks).flatten = sumK Ks.flatten := sumK_perm (foldK_perm fan Ks)
      have hfl : (foldI S.next fan ids).length = ids.length - fan + 1 := by
        unfold foldI
        rw [List.length_append, List.length_drop]
        rfl
      obtain ⟨U, k1, k2, k3⟩ := good_tail fan hf2 fuel x1 (by rw [d4, g2]) (by rw [x2, hfl]; omega) (by rw [hsum, d3, g3]; exact hr)
      refine ⟨U, ?_, k2, by rw [hsum, d5] at k3; omega⟩
      have hdo : runO S (foldO S.next fan ids Ks) = (dropsS T (ids.take fan), 0) := by
        unfold foldO
        rw [runO_ok g1, dropsS_runO]
      rw [runO_ok hdo, ← x2]
      exact k1
    · rw [tailO_end hgt]
      exact ⟨dropsS S ids, dropsS_runO ids S, drops_all h, by rw [(dropsS_keep ids S).2.2.2.2]; omega⟩
theorem good_sort {S : StoreM} (hok : S.Ok) (hr0 : S.runs = []) (hf : S.fails = []) (hnx : S.next ≤ 1000) {bud : Int} {fan : Nat} (hf2 : 2 ≤ fan) {items : List K3i} (hl : items.length ≤ 1000) (hr : 2 * sumK items ≤ S.room) :
    ∃ T, runO S (sortO S.next bud fan items) = (T, 0) ∧ T.used = 0 ∧ T.peak ≤ max S.peak (2 * sumK items) := by
  have hcl := chunks_len bud items
  have hu : S.used = 0 := by rw [hok.sum, hr0]; rfl
  have hsum : sumK (chunks bud [] items).flatten = sumK items := by rw [chunks_flat, List.nil_append]
  obtain ⟨T, g1, g2, g3, g4⟩ := good_form (chunks bud [] items) hok hf (by omega) (by rw [hsum]; omega)
  rw [hsum] at g4
  have hokT : T.Ok := by
    have := runO_ok' hok (formO S.next (chunks bud [] items)) hok
    rw [g1] at this
    exact this
  obtain ⟨r1, r2⟩ := runs_form (chunks bud [] items) hok g1
  rw [hr0, List.nil_append] at r1
  have hex : Ex T (idsN S.next (chunks bud [] items).length) ((chunks bud [] items).map (srt ltK)) := ⟨hokT, by rw [idsN_len, List.length_map], r1⟩
  have hsum2 : sumK ((chunks bud [] items).map (srt ltK)).flatten = sumK items := by rw [sumK_perm (chunks_srt_perm _), hsum]
  obtain ⟨U, k1, k2, k3⟩ := good_tail fan hf2 (chunks bud [] items).length hex g2 (by rw [idsN_len, r2]; omega) (by rw [hsum2, g3]; exact hr)
  refine ⟨U, ?_, k2, by rw [hsum2] at k3; omega⟩
  unfold sortO
  rw [runO_ok g1, ← r2]
  exact k1
/-! ### What comes -/
theorem tailK_perm (fan : Nat) : ∀ (fuel : Nat) (Ks : List (List K3i)), (tailK fuel fan Ks).1.flatten.Perm Ks.flatten
  | 0, Ks => List.Perm.refl _
  | f + 1, Ks => by
    rw [tailK]
    split
    · exact (tailK_perm fan f _).trans (foldK_perm fan Ks)
    · exact List.Perm.refl _
theorem sortK_perm (bud : Int) (fan : Nat) (items : List K3i) : (srt ltK (tailK (chunks bud [] items).length fan ((chunks bud [] items).map (srt ltK))).1.flatten).Perm items := by
  refine (srt_perm _).trans ((tailK_perm _ _ _).trans ((chunks_srt_perm _).trans ?_))
  rw [chunks_flat]
  exact List.Perm.refl _
/-- No two have the same key and number. -/
def Unlike (L : List K3i) : Prop := L.Pairwise fun x y => ¬ (ltK x y = false ∧ ltK y x = false)
theorem unlike_filter {L : List K3i} (h : Unlike L) (z : K3i) : (L.filter (eqv ltK z)).length ≤ 1 := by
  have h1 : (L.filter (eqv ltK z)).Pairwise fun x y => ¬ (ltK x y = false ∧ ltK y x = false) := h.filter _
  have h2 : ∀ x ∈ L.filter (eqv ltK z), eqv ltK z x = true := fun x hx => (List.mem_filter.1 hx).2
  generalize L.filter (eqv ltK z) = M at h1 h2
  match M, h1, h2 with
  | [], _, _ => simp
  | [x], _, _ => simp
  | x :: y :: M, h1, h2 =>
    exfalso
    have hx := eqv_iff.1 (h2 x (by simp))
    have hy := eqv_iff.1 (h2 y (by simp))
    exact (List.pairwise_cons.1 h1).1 y (by simp) ⟨swoK.ntr _ _ _ hx.2 hy.1, swoK.ntr _ _ _ hy.2 hx.1⟩
theorem unlike_srt {L M : List K3i} (h : Unlike L) (hp : M.Perm L) (hs : M.Pairwise fun x y => ltK y x = false) : M = srt ltK L := by
  refine srt_is swoK (srt_iff.2 hs) ⟨hp.length_eq, fun z => ?_⟩
  have h1 := hp.filter (eqv ltK z)
  have h2 := unlike_filter h z
  have h3 := h1.length_eq
  match hM : M.filter (eqv ltK z), hL : L.filter (eqv ltK z) with
  | [], [] => rfl
  | [], _ :: _ => rw [hM, hL] at h3; cases h3
  | _ :: _, [] => rw [hM, hL] at h3; cases h3
  | [x], [y] =>
    rw [hM, hL] at h1
    have := h1.mem_iff.1 (List.mem_singleton.2 rfl)
    rw [List.mem_singleton.1 this]
  | _ :: _ :: _, _ => rw [hL] at h2 h3; rw [hM] at h3; simp at h3; omega
  | [_], _ :: _ :: _ => rw [hM, hL] at h3; simp at h3
theorem sortK_unlike {bud : Int} {fan : Nat} {items : List K3i} (h : Unlike items) : srt ltK (tailK (chunks bud [] items).length fan ((chunks bud [] items).map (srt ltK))).1.flatten = srt ltK items :=
  unlike_srt h (sortK_perm bud fan items) (srt_sorted swoK _)
end Go.Proofs.Ytkglkpcpgdeneaa
