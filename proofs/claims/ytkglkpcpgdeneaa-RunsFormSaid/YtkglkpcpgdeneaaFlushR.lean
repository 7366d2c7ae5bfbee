/- Law 16's flush over the reference's store. Conditions: none. -/
import Derived.Test.YtkglkpcpgdeneaaLaw16S
import Derived.Test.YtkglkpcpgdeneaaRefS
namespace Go.Proofs.Ytkglkpcpgdeneaa
open Go.RowKit
set_option linter.unusedVariables false
set_option linter.unusedSimpArgs false

section
variable {w0 w : World} {l : List Part} {rb nf cf : Nat} {Af : Option Addr} {R : RefM}
theorem St.one (h : St w0 w l) : St w0 w [allP l] := St.all_mk (ps := l) (l := []) (by rw [List.append_nil]; exact h)
theorem St.one4 {a b c d : Part} (h : St w0 w (a :: b :: c :: d :: l)) : St w0 w [a, b, c, d, allP l] :=
  (((St.all_mk (ps := l) (l := [a, b, c, d]) (h.perm (List.perm_append_comm (l₁ := [a, b, c, d]) (l₂ := l)))).perm (List.perm_append_comm (l₁ := [allP l]) (l₂ := [a, b, c, d]))))
theorem St.ref_more {x : RefW} (hx : x.rows.map (·.2.2) = R.runs) {A2 A3 : Option Addr} {c2 c3 : Nat}
    (h : St w0 w (ownP 42 1 (.slice A2 (R.runs.length + 1) c2) (R.runs.length + 1) (x.rows.map rowV ++ [.slice none 0 0]) :: ownP 4 1 (.slice A3 (R.runs.length + 1) c3) (R.runs.length + 1) (R.there.map Value.bool ++ [.bool true]) :: blkP rb 64 (x.cells Af nf cf R) :: rdsP x.rows :: l)) :
    w.cell? ⟨rb, 2, none⟩ = some (.slice x.A2 R.runs.length x.c2) ∧ w.frozen? ⟨rb, 2, none⟩ = false ∧
    (w.setCell ⟨rb, 2, none⟩ (.slice A2 (R.runs.length + 1) c2)).cell? ⟨rb, 3, none⟩ = some (.slice x.A3 R.runs.length x.c3) ∧ (w.setCell ⟨rb, 2, none⟩ (.slice A2 (R.runs.length + 1) c2)).frozen? ⟨rb, 3, none⟩ = false ∧
    St w0 ((w.setCell ⟨rb, 2, none⟩ (.slice A2 (R.runs.length + 1) c2)).setCell ⟨rb, 3, none⟩ (.slice A3 (R.runs.length + 1) c3)) (refP rb Af nf cf R.create :: l) := by
  obtain ⟨h1, h2, h3⟩ := St.ref_more1 (v := .slice A2 (R.runs.length + 1) c2) h.nth3
  obtain ⟨h4, h5, h6⟩ := St.ref_more2 hx h3
  exact ⟨h1, h2, h4, h5, h6⟩
theorem St.un1 {p : Part} (h : St w0 w [p, allP l]) : St w0 w (p :: l) := by
  have h1 : St w0 w (l ++ [p]) := h.swap.all
  exact h1.perm (List.perm_append_comm (l₁ := l) (l₂ := [p]))
theorem append_runs (R : RefM) (id : Int) (b : List UInt8) : (R.append id b).runs.length = R.runs.length ∧ (R.append id b).fails = R.fails ∧ (R.append id b).room = R.room := by
  unfold RefM.append
  split
  · split
    · exact ⟨rfl, rfl, rfl⟩
    · split
      · exact ⟨rfl, rfl, rfl⟩
      · exact ⟨by simp [RefM.top, RefM.put, RefM.wrote], rfl, rfl⟩
  · exact ⟨rfl, rfl, rfl⟩
theorem append_used (S : StoreM) (id : Int) (b : List UInt8) : (S.append id b).used ≤ S.used + b.length := by
  unfold StoreM.append
  split
  · omega
  · split
    · simp; omega
    · split
      · simp; omega
      · simp [StoreM.add]
/-- What a flush answers, and what it leaves. -/
def FlPost (w0 : World) (l : List Part) (rb nf cf : Nat) (Af : Option Addr) (R : RefM) (r : StoreM × Int) (e : Ending) (w' : World) : Prop :=
  e = .returned (.int .i64 r.2) ∧ ∃ R' : RefM, Sim r.1 R' ∧ R'.runs.length = R.runs.length + 1 ∧ R'.fails = R.fails ∧ R'.room = R.room ∧ St w0 w' (refP rb Af nf cf R' :: l)
set_option maxRecDepth 100000 in
set_option maxHeartbeats 16000000 in
theorem St.ref_flush (h : St w0 w (refP rb Af nf cf R :: l)) {S : StoreM} (hsim : Sim S R) (hle : R.runs.length ≤ 60000) (hrf : RdV w0 Af (ints R.fails)) (hnf : nf = R.fails.length) (hnl : nf ≤ 4611686018427387904) (A : Option Addr) (n c : Nat) (X : List ItX) (hn : n = X.length)
    (hsrc : ∀ u, St w0 u l → RdI u A (X.map Prod.fst) ∧ ∀ x ∈ X, DatI u x.1 x.2) (hm : ∀ x ∈ X, mayK (keyX x) = true) (hn2 : n ≤ 1000000) (hs : sumK (X.map keyX) ≤ 100000000) (hu : S.used ≤ 1000000000) (hw : S.writes ≤ 1000000000000) (hroom : 0 ≤ R.room) (r : StoreM × Int) (hr : wrS S (X.map keyX) = r) :
    Calls Try.prog 39 #[.pointer (some ⟨rb, 0, none⟩), .slice A n c] w (FlPost w0 l rb nf cf Af R r) := by
  have HIN := Lib.hid (And.intro hsim (And.intro hrf (And.intro hnf (And.intro hnl (And.intro hsrc (And.intro hm (And.intro hs (And.intro hu (And.intro hw (And.intro hroom hr))))))))))
  have HLN := Lib.hid (And.intro hn hn2)
  have q7 : (n : Int) ≤ 1000000 := by omega
  have hnext : S.next = R.runs.length := hsim.next
  have HNX := Lib.hid hnext
  obtain ⟨x, hx, hq0⟩ := h.ref
  have hq := hq0.one4
  have HX := Lib.hid hx
  have HLE : Hid (R.runs.length ≤ 1000000) := Lib.hid (by omega)
  have HLE6 := Lib.hid hle
  have q8 : (R.runs.length : Int) ≤ 1000000 := by omega
  have c2 : w.cell? ⟨rb, 2, none⟩ = some (.slice x.A2 R.runs.length x.c2) := hq.blk.1.cell 2
  have c3 : w.cell? ⟨rb, 3, none⟩ = some (.slice x.A3 R.runs.length x.c3) := hq.blk.1.cell 3
  have HQ := Lib.hid hq
  clear h hq0 hq hx hle hsim hrf hnf hnl hsrc hn hm hn2 hs hu hw hroom hr hnext
  go_enter Try.func39, Try.ntmps39
  go_upto_region 1 with fail
  go_cut [] (fun wx => Hid (St w0 wx (refP rb Af nf cf R.create :: l)))
  case first =>
    have HB1 : Hid (St w0 ((w.alloc (Obj.cells #[.slice none 0 0] 42)).drew) _) := Lib.hid (HQ.out.boxB [.slice none 0 0] 42 w.heap.size rfl).drew
    have HB2 : Hid (St w0 ((w.alloc (Obj.cells #[.bool true] 4)).drew) _) := Lib.hid (HQ.out.boxB [.bool true] 4 w.heap.size rfl).drew
    have HB12 : Hid (St w0 (((w.alloc (Obj.cells #[.slice none 0 0] 42)).alloc (Obj.cells #[.bool true] 4)).drew) _) := Lib.hid ((HQ.out.boxB [.slice none 0 0] 42 w.heap.size rfl).boxB [.bool true] 4 (w.heap.size + 1) (by simp)).drew
    have HB21 : Hid (St w0 (((w.alloc (Obj.cells #[.bool true] 4)).alloc (Obj.cells #[.slice none 0 0] 42)).drew) _) := Lib.hid ((HQ.out.boxB [.bool true] 4 w.heap.size rfl).boxB [.slice none 0 0] 42 (w.heap.size + 1) (by simp)).drew
    have c2p : (w.alloc (Obj.cells #[.slice none 0 0] 42)).cell? ⟨rb, 2, none⟩ = some (.slice x.A2 R.runs.length x.c2) := (St.blk ((HQ.out.boxB [.slice none 0 0] 42 w.heap.size rfl).sel [1] (by decide) (by simp))).1.cell 2
    have c3p : (w.alloc (Obj.cells #[.slice none 0 0] 42)).cell? ⟨rb, 3, none⟩ = some (.slice x.A3 R.runs.length x.c3) := (St.blk ((HQ.out.boxB [.slice none 0 0] 42 w.heap.size rfl).sel [1] (by decide) (by simp))).1.cell 3
    have c2q : (w.alloc (Obj.cells #[.bool true] 4)).cell? ⟨rb, 2, none⟩ = some (.slice x.A2 R.runs.length x.c2) := (St.blk ((HQ.out.boxB [.bool true] 4 w.heap.size rfl).sel [1] (by decide) (by simp))).1.cell 2
    have c3q : (w.alloc (Obj.cells #[.bool true] 4)).cell? ⟨rb, 3, none⟩ = some (.slice x.A3 R.runs.length x.c3) := (St.blk ((HQ.out.boxB [.bool true] 4 w.heap.size rfl).sel [1] (by decide) (by simp))).1.cell 3
    have c2r : ((w.alloc (Obj.cells #[.slice none 0 0] 42)).alloc (Obj.cells #[.bool true] 4)).cell? ⟨rb, 2, none⟩ = some (.slice x.A2 R.runs.length x.c2) := (St.blk (((HQ.out.boxB [.slice none 0 0] 42 w.heap.size rfl).boxB [.bool true] 4 (w.heap.size + 1) (by simp)).sel [2] (by decide) (by simp))).1.cell 2
    have c3r : ((w.alloc (Obj.cells #[.slice none 0 0] 42)).alloc (Obj.cells #[.bool true] 4)).cell? ⟨rb, 3, none⟩ = some (.slice x.A3 R.runs.length x.c3) := (St.blk (((HQ.out.boxB [.slice none 0 0] 42 w.heap.size rfl).boxB [.bool true] 4 (w.heap.size + 1) (by simp)).sel [2] (by decide) (by simp))).1.cell 3
    have c2s : ((w.alloc (Obj.cells #[.bool true] 4)).alloc (Obj.cells #[.slice none 0 0] 42)).cell? ⟨rb, 2, none⟩ = some (.slice x.A2 R.runs.length x.c2) := (St.blk (((HQ.out.boxB [.bool true] 4 w.heap.size rfl).boxB [.slice none 0 0] 42 (w.heap.size + 1) (by simp)).sel [2] (by decide) (by simp))).1.cell 2
    have c3s : ((w.alloc (Obj.cells #[.bool true] 4)).alloc (Obj.cells #[.slice none 0 0] 42)).cell? ⟨rb, 3, none⟩ = some (.slice x.A3 R.runs.length x.c3) := (St.blk (((HQ.out.boxB [.bool true] 4 w.heap.size rfl).boxB [.slice none 0 0] 42 (w.heap.size + 1) (by simp)).sel [2] (by decide) (by simp))).1.cell 3
    clear HQ
    go_region_law (first
      | (refine step_mark rfl (.tmp 19) (.tmp 20) rfl (St.sel (HR1.out.boxB [.bool true] 4 _ rfl) [3,0,1,2,4,5] (by decide) (by simp)) rfl rfl HLE.out ?_
         intro A7 c7 w7 hs6
         have HE := Lib.hid (hs6.sel [2,0,3,4,5] (by decide) (by simp))
         clear hs6
         obtain ⟨c2z, f2, c3z, f3, hF⟩ := St.ref_more HX.out HE.out
         have HF := Lib.hid hF
         clear hF HE)
      | (refine step_mark rfl (.tmp 19) (.tmp 20) rfl (St.sel HR2.out [3,1,0,2,4,5] (by decide) (by simp)) rfl rfl HLE.out ?_
         intro A7 c7 w7 hs6
         have HE := Lib.hid (hs6.sel [2,0,3,4,5] (by decide) (by simp))
         clear hs6
         obtain ⟨c2z, f2, c3z, f3, hF⟩ := St.ref_more HX.out HE.out
         have HF := Lib.hid hF
         clear hF HE)
      | (refine step_row rfl (.tmp 13) (.tmp 14) rfl (St.sel (HM1.out.boxB [.slice none 0 0] 42 _ rfl) [3,0,1,2,4,5] (by decide) (by simp)) rfl rfl HLE.out ?_
         intro A6 c6 w6 hs6
         have HE := Lib.hid (hs6.sel [0,2,3,4,5] (by decide) (by simp))
         clear hs6
         obtain ⟨c2z, f2, c3z, f3, hF⟩ := St.ref_more HX.out HE.out
         have HF := Lib.hid hF
         clear hF HE)
      | (refine step_row rfl (.tmp 13) (.tmp 14) rfl (St.sel HM2.out [3,1,0,2,4,5] (by decide) (by simp)) rfl rfl HLE.out ?_
         intro A6 c6 w6 hs6
         have HE := Lib.hid (hs6.sel [0,2,3,4,5] (by decide) (by simp))
         clear hs6
         obtain ⟨c2z, f2, c3z, f3, hF⟩ := St.ref_more HX.out HE.out
         have HF := Lib.hid hF
         clear hF HE)
      | (refine step_row rfl (.tmp 13) (.tmp 14) rfl (St.sel HB1.out [2,0,1,3,4,5] (by decide) (by simp)) rfl rfl HLE.out ?_
         intro A6 c6 w6 hs6
         have HR1 := Lib.hid (hs6.sel [0,2,3,4,5] (by decide) (by simp))
         clear hs6
         have c3b : w6.cell? ⟨rb, 3, none⟩ = some (.slice x.A3 R.runs.length x.c3) := (St.blk (HR1.out.sel [1] (by decide) (by simp))).1.cell 3
         have c3d : (w6.alloc (Obj.cells #[.bool true] 4)).cell? ⟨rb, 3, none⟩ = some (.slice x.A3 R.runs.length x.c3) := (St.blk ((HR1.out.boxB [.bool true] 4 _ rfl).sel [2] (by decide) (by simp))).1.cell 3)
      | (refine step_row rfl (.tmp 13) (.tmp 14) rfl (St.sel HB12.out [3,1,0,2,4,5,6] (by decide) (by simp)) rfl rfl HLE.out ?_
         intro A6 c6 w6 hs6
         have HR2 := Lib.hid (hs6.sel [0,2,3,4,5,6] (by decide) (by simp))
         clear hs6
         have c3b : w6.cell? ⟨rb, 3, none⟩ = some (.slice x.A3 R.runs.length x.c3) := (St.blk (HR2.out.sel [2] (by decide) (by simp))).1.cell 3)
      | (refine step_row rfl (.tmp 13) (.tmp 14) rfl (St.sel HB21.out [3,0,1,2,4,5,6] (by decide) (by simp)) rfl rfl HLE.out ?_
         intro A6 c6 w6 hs6
         have HR2 := Lib.hid (hs6.sel [0,2,3,4,5,6] (by decide) (by simp))
         clear hs6
         have c3b : w6.cell? ⟨rb, 3, none⟩ = some (.slice x.A3 R.runs.length x.c3) := (St.blk (HR2.out.sel [2] (by decide) (by simp))).1.cell 3)
      | (refine step_mark rfl (.tmp 19) (.tmp 20) rfl (St.sel HB2.out [3,0,1,2,4,5] (by decide) (by simp)) rfl rfl HLE.out ?_
         intro A7 c7 w7 hs6
         have HM1 := Lib.hid (hs6.sel [0,2,3,4,5] (by decide) (by simp))
         clear hs6
         have c2b : w7.cell? ⟨rb, 2, none⟩ = some (.slice x.A2 R.runs.length x.c2) := (St.blk (HM1.out.sel [1] (by decide) (by simp))).1.cell 2
         have c2d : (w7.alloc (Obj.cells #[.slice none 0 0] 42)).cell? ⟨rb, 2, none⟩ = some (.slice x.A2 R.runs.length x.c2) := (St.blk ((HM1.out.boxB [.slice none 0 0] 42 _ rfl).sel [2] (by decide) (by simp))).1.cell 2)
      | (refine step_mark rfl (.tmp 19) (.tmp 20) rfl (St.sel HB12.out [4,0,1,2,3,5,6] (by decide) (by simp)) rfl rfl HLE.out ?_
         intro A7 c7 w7 hs6
         have HM2 := Lib.hid (hs6.sel [0,2,3,4,5,6] (by decide) (by simp))
         clear hs6
         have c2b : w7.cell? ⟨rb, 2, none⟩ = some (.slice x.A2 R.runs.length x.c2) := (St.blk (HM2.out.sel [2] (by decide) (by simp))).1.cell 2)
      | (refine step_mark rfl (.tmp 19) (.tmp 20) rfl (St.sel HB21.out [4,1,0,2,3,5,6] (by decide) (by simp)) rfl rfl HLE.out ?_
         intro A7 c7 w7 hs6
         have HM2 := Lib.hid (hs6.sel [0,2,3,4,5,6] (by decide) (by simp))
         clear hs6
         have c2b : w7.cell? ⟨rb, 2, none⟩ = some (.slice x.A2 R.runs.length x.c2) := (St.blk (HM2.out.sel [2] (by decide) (by simp))).1.cell 2))

    all_goals
      go_wp2_with fail
      go_meet
      exact Lib.hid HF.out.un1

  case rest =>
    clear c2 c3 HQ
    have HS2 := hcut
    clear hcut
    go_wp2_with fail
    have hsc := HIN.out.2.2.2.2.1
    have hall := hsc wc HS2.out.tail
    refine (ref_sorted wc A n c (X.map Prod.fst) (by rw [List.length_map]; exact HLN.out.1.symm) hall.1 HLN.out.2).mono ?_
    rintro e w3 ⟨A3, c3, rfl, hs3⟩
    obtain ⟨Y, hY⟩ : ∃ Y, Y = srt ltX X := ⟨_, rfl⟩
    have hYf : Y.map Prod.fst = srt ltI (X.map Prod.fst) := by rw [hY, srt_items]
    have hYk : Y.map keyX = srt ltK (X.map keyX) := by rw [hY, srt_keys]
    have hYp : Y.Perm X := by rw [hY]; exact srt_perm X
    have hYl : Y.length = n := by rw [hYp.length_eq]; exact HLN.out.1.symm
    rw [← hYf] at hs3
    have hs4 : St w0 w3 (ownP 44 3 (.slice A3 n c3) n (flatI (Y.map Prod.fst)) :: refP rb Af nf cf R.create :: l) := HS2.out.lift hs3
    have HS4 : Hid (St w0 w3 (refP rb Af nf cf R.create :: ownP 44 3 (.slice A3 n c3) n (flatI (Y.map Prod.fst)) :: l)) := Lib.hid hs4.swap
    obtain ⟨id, hid⟩ : ∃ id, id = R.runs.length := ⟨_, rfl⟩
    have hrw : writeL (id : Int) S.create (Y.map keyX) = r := by
      have h1 := HIN.out.2.2.2.2.2.2.2.2.2.2
      unfold wrS at h1
      rw [if_pos (by rw [HNX.out]; have := HLE6.out; omega), HNX.out, ← hid, ← hYk] at h1
      exact h1
    have hsk : sumK (Y.map keyX) ≤ 100000000 := by rw [hYk, srtK_sum]; exact HIN.out.2.2.2.2.2.2.1
    have hcr : S.create.used = S.used ∧ S.create.writes = S.writes := by
      unfold StoreM.create
      split
      · exact ⟨rfl, rfl⟩
      · exact ⟨rfl, rfl⟩
    have HYY := Lib.hid (And.intro hYp (And.intro hYl (And.intro hsk hrw)))
    have HSM : Hid (Sim S.create R.create) := Lib.hid (HIN.out.1.create (by rw [HNX.out]; have := HLE6.out; omega))
    have HCR := Lib.hid hcr
    have HID := Lib.hid hid
    have q9 : (id : Int) ≤ 1000000 := by omega
    clear hsc hall hs3 hs4 hY hYf hYk hYp hYl hrw hsk hcr hid HS2
    go_wp2_with fail
    go_loopw [6] (fun v6 wr => ∃ (i : Nat) (T : StoreM) (Rc : RefM), i ≤ n ∧ v6 = .int .i64 i ∧ Hid (St w0 wr (refP rb Af nf cf Rc :: ownP 44 3 (.slice A3 n c3) n (flatI (Y.map Prod.fst)) :: l)) ∧ Hid (Sim T Rc ∧ Rc.runs.length = id + 1 ∧ Rc.fails = R.fails ∧ Rc.room = R.room) ∧ Hid (writeL (id : Int) T ((Y.map keyX).drop i) = r ∧ T.used + sumK ((Y.map keyX).drop i) ≤ 1100000000 ∧ T.writes ≤ S.writes + i)) (fun v6 _ => n - (intOf v6).toNat)
    case atStart =>
      refine ⟨0, S.create, R.create, Nat.zero_le _, rfl, HS4, Lib.hid ⟨HSM.out, by unfold RefM.create; rw [List.length_append, HID.out]; rfl, rfl, rfl⟩, Lib.hid ⟨by rw [List.drop_zero]; exact HYY.out.2.2.2, ?_, by rw [HCR.out.2]; omega⟩⟩
      rw [List.drop_zero, HCR.out.1]
      have h1 := HYY.out.2.2.1
      have h2 := HIN.out.2.2.2.2.2.2.2.1
      omega
    case round =>
      clear HS4 HSM
      obtain ⟨i, T, Rc, hi, rfl, HS, HSIM, HT⟩ := hrel
      by_cases hlt : i < n
      · obtain ⟨y, hy⟩ : ∃ y, Y[i]? = some y := ⟨_, List.getElem?_eq_getElem (by have := HYY.out.2.1; omega)⟩
        have hyX : y ∈ X := HYY.out.1.mem_iff.1 (List.mem_of_getElem? hy)
        have hdr : (Y.map keyX).drop i = keyX y :: (Y.map keyX).drop (i + 1) := by
          have hl2 : i < (Y.map keyX).length := by rw [List.length_map]; have := HYY.out.2.1; omega
          rw [List.drop_eq_getElem_cons hl2, List.getElem_map]
          congr 2
          exact (List.getElem?_eq_some_iff.1 hy).2
        have hgA : ∃ g, A3 = some ⟨g, 0, none⟩ := by
          rcases own_row (HS.out.swap).own rfl with ⟨_, h2⟩ | ⟨g, h1, h2⟩
          · have h3 := congrArg List.length h2
            have h4 := HYY.out.2.1
            rw [List.length_map, h4] at h3
            simp at h3
            omega
          · exact ⟨g, h1⟩
        obtain ⟨g, rfl⟩ := hgA
        obtain ⟨⟨k, s, A1, n1, c1⟩, d⟩ := y
        obtain ⟨x2, hx2, hq2⟩ := HS.out.ref
        have hcell : ∀ u, St w0 u (blkP rb 64 (x2.cells Af nf cf Rc) :: ownP 42 1 (.slice x2.A2 Rc.runs.length x2.c2) Rc.runs.length (x2.rows.map rowV) :: ownP 4 1 (.slice x2.A3 Rc.runs.length x2.c3) Rc.runs.length (Rc.there.map Value.bool) :: rdsP x2.rows :: ownP 44 3 (.slice (some ⟨g, 0, none⟩) n c3) n (flatI (Y.map Prod.fst)) :: l) →
            u.cell? ⟨g, i * 3, none⟩ = some (.string k) ∧ u.cell? ⟨g, i * 3 + 1, none⟩ = some (.int .i64 s) ∧ u.cell? ⟨g, i * 3 + 2, none⟩ = some (.slice A1 n1 c1) := by
          intro u hu
          rcases own_row (hu.mv 4 (by simp)).own rfl with ⟨h1, _⟩ | ⟨g', h1, h2⟩
          · cases h1
          · cases h1
            have h3 : (Y.map Prod.fst)[i]? = some ⟨k, s, A1, n1, c1⟩ := by rw [List.getElem?_map, hy]; rfl
            obtain ⟨hi', e⟩ := List.getElem?_eq_some_iff.1 h3
            have g0 := h2.cell i 0 hi' (by omega)
            have g1 := h2.cell i 1 hi' (by omega)
            have g2 := h2.cell i 2 hi' (by omega)
            rw [e] at g0 g1 g2
            exact ⟨g0, g1, g2⟩
        have HCELL := Lib.hid hcell
        have HD := Lib.hid (And.intro hyX (And.intro hdr hlt))
        have q10 : (i : Int) < (n : Int) := by omega
        have hRl := HSIM.out.2.1
        have HRL := Lib.hid hRl
        have hmy : mayI k s n1 = true := by
          have h1 := HIN.out.2.2.2.2.2.1 _ hyX
          have h2 := ((HIN.out.2.2.2.2.1 wr (HS.out.tail.tail)).2 _ hyX).1
          unfold mayK keyX at h1
          simp only at h1 h2
          rw [h2]
          exact h1
        have HMY := Lib.hid hmy
        obtain ⟨N, hN⟩ : ∃ N, N = 16 + k.size + n1 := ⟨_, rfl⟩
        have HNN := Lib.hid hN
        have q11 : (N : Int) ≤ 1048792 := by have := may_parts hmy; omega
        clear hyX hdr hlt hcell hy hRl hmy hN
        go_wp2_with fail
        have HX2 := Lib.hid hx2
        have HQ2 : Hid (St w0 wr (blkP rb 64 (x2.cells Af nf cf Rc) :: ownP 42 1 (.slice x2.A2 Rc.runs.length x2.c2) Rc.runs.length (x2.rows.map rowV) :: ownP 4 1 (.slice x2.A3 Rc.runs.length x2.c3) Rc.runs.length (Rc.there.map Value.bool) :: rdsP x2.rows :: ownP 44 3 (.slice (some ⟨g, 0, none⟩) n c3) n (flatI (Y.map Prod.fst)) :: l)) := Lib.hid hq2
        have hrl : Rc.runs.length = id + 1 := HSIM.out.2.1
        have e1 : IntKind.i64.wrap ((Rc.runs.length : Int) - 1) = (id : Int) := by rw [hrl, IntWalk.i64_in _ (by omega)]; omega
        have e2 : (Rc.runs.length : Int) - 1 = (id : Int) := by omega
        have q12 : (Rc.runs.length : Int) ≤ 1000001 := by omega
        refine wp_region_T 12 [11] Anew (fun u => St w0 u (blkP rb 64 (x2.cells Af nf cf Rc) :: ownP 42 1 (.slice x2.A2 Rc.runs.length x2.c2) Rc.runs.length (x2.rows.map rowV) :: ownP 4 1 (.slice x2.A3 Rc.runs.length x2.c3) Rc.runs.length (Rc.there.map Value.bool) :: rdsP x2.rows :: ownP 44 3 (.slice (some ⟨g, 0, none⟩) n c3) n (flatI (Y.map Prod.fst)) :: l)) (by kernel_rfl) (by kernel_rfl) Anew.refl (St.stays _ _) HQ2.out.drew ?_
        simp only [List.take_succ_cons, List.take_zero, List.drop_succ_cons, List.drop_zero]
        clear HS HQ2 hx2 hq2 hrl
        repeat (
          (apply wpT_val
           · rfl
           · intro u hu
             have c2 : u.cell? ⟨rb, 2, none⟩ = some (.slice x2.A2 Rc.runs.length x2.c2) := hu.blk.1.cell 2
             obtain ⟨g0, g1, g2⟩ := HCELL.out u hu
             clear hu
             (go_simp <;> with_reducible rfl)
           simp only [Act.put, List.setIfInBounds_toArray, List.set_cons_zero, List.set_cons_succ]))
        refine wpT_some (fun v u => ∃ A5 c5, v = .slice A5 N c5 ∧ (A5 = none → N = 0) ∧ St w0 u (ownP 5 1 (.slice A5 N c5) N (bys (encK (k, s, d))) :: blkP rb 64 (x2.cells Af nf cf Rc) :: ownP 42 1 (.slice x2.A2 Rc.runs.length x2.c2) Rc.runs.length (x2.rows.map rowV) :: ownP 4 1 (.slice x2.A3 Rc.runs.length x2.c3) Rc.runs.length (Rc.there.map Value.bool) :: rdsP x2.rows :: ownP 44 3 (.slice (some ⟨g, 0, none⟩) n c3) n (flatI (Y.map Prod.fst)) :: l)) (by decide) rfl (fun u => by (go_simp <;> with_reducible exact ⟨rfl, rfl⟩)) (fun v u u' ⟨A5, c5, e, hn, hs⟩ k => ⟨A5, c5, e, hn, hs.later k⟩) ?_ ?_
        · intro u hu
          have hdd := (HIN.out.2.2.2.2.1 u (hu.tail.tail.tail.tail.tail)).2 _ HD.out.1
          obtain ⟨m1, m2, m3, m4⟩ := may_parts HMY.out
          refine (refbytes_any k s A1 n1 c1 d u hdd.1 hdd.2.2.1 hdd.2.2.2 m1 m2 m3 m4).mono ?_
          rintro e w' ⟨A5, c5, he, h1, _, h3, h4⟩
          rw [← HNN.out] at h3 he
          refine ⟨_, he, h4, A5, c5, rfl, ?_, hu.made h3 h4⟩
          exact (hu.made h3 h4).own_rdv.2.2.2
        intro v
        simp only [Act.put, List.setIfInBounds_toArray, List.set_cons_zero, List.set_cons_succ]
        refine wpT_nil ?_
        rintro w5 ⟨_, A5, c5, rfl, hn5, hs5⟩
        have HS5 : Hid (St w0 w5 (refP rb Af nf cf Rc :: ownP 5 1 (.slice A5 N c5) N (bys (encK (k, s, d))) :: ownP 44 3 (.slice (some ⟨g, 0, none⟩) n c3) n (flatI (Y.map Prod.fst)) :: l)) := Lib.hid (St.ref_mk x2 HX2.out ((((hs5.mv 4 (by simp)).mv 4 (by simp)).mv 4 (by simp)).mv 4 (by simp)))
        have hNl : N = (encK (k, s, d)).length := by
          have h1 := (((HIN.out.2.2.2.2.1 w5 (HS5.out.tail.tail.tail)).2 _ HD.out.1)).1
          simp only at h1
          rw [encK_len, HNN.out]
          unfold lenK
          simp only
          rw [h1]
        obtain ⟨b, hb⟩ : ∃ b, b = encK (k, s, d) := ⟨_, rfl⟩
        have hdr : (Y.map keyX).drop i = (k, s, d) :: (Y.map keyX).drop (i + 1) := HD.out.2.1
        have hT := HT.out
        rw [hdr, sumK_cons, ← encK_len] at hT
        rw [← hb] at HS5 hNl hT
        have hT1 := hT.1
        rw [writeL, ← hb] at hT1
        have HTT := Lib.hid (And.intro hT1 hT.2)
        have HNL := Lib.hid hNl
        have hsim := HSIM.out.1
        have hus : Rc.used + b.length ≤ 140737488350000 := by have h1 := hsim.used; have h2 := hT.2.1; omega
        have hwr : 0 ≤ Rc.writes ∧ Rc.writes ≤ 4611686018427387904 := by
          have h1 := hsim.writes; have h2 := hsim.ok.writes0; have h3 := hT.2.2; have h4 := HIN.out.2.2.2.2.2.2.2.2.1; omega
        have hrm : 0 ≤ Rc.room ∧ Rc.room ≤ 9223372036854775807 := by
          have h1 := hsim.room; have h2 := hsim.ok.room1; have h3 := HIN.out.2.2.2.2.2.2.2.2.2.1; have h4 := HSIM.out.2.2.2; omega
        have hap := HS5.out.ref_append_g (by rw [HSIM.out.2.2.1]; exact HIN.out.2.1) (by rw [HSIM.out.2.2.1]; exact HIN.out.2.2.1) HIN.out.2.2.2.1 (id : Int) A5 N c5 b (fun u hu => hu.own_rdv.1) hNl (fun e => List.eq_nil_of_length_eq_zero (by have := hn5 e; omega)) hus hwr hrm
        have HAP := Lib.hid hap
        clear hs5 hn5 hb hdr hT hT1 hNl hsim hus hwr hrm hap HS5
        go_wp2_with fail
        refine HAP.out.mono ?_
        rintro e w6 ⟨rfl, hs6⟩
        have hsE := HSIM.out.1.appendE (id : Int) b
        have hsA := HSIM.out.1.append (id : Int) b
        have haR := append_runs Rc (id : Int) b
        have hau := append_used T (id : Int) b
        have haw := (appendE_writes (S := T) (id := (id : Int)) (b := b)).1
        obtain ⟨er, her⟩ : ∃ er, er = Rc.appendE (id : Int) b := ⟨_, rfl⟩
        rw [← her] at hsE ⊢
        have h1 := HTT.out.1
        rw [hsE] at h1
        have HS6 : Hid (St w0 w6 (refP rb Af nf cf (Rc.append (id : Int) b) :: ownP 44 3 (.slice (some ⟨g, 0, none⟩) n c3) n (flatI (Y.map Prod.fst)) :: l)) := Lib.hid hs6.swap.tail
        have HNX2 := Lib.hid (And.intro h1 (And.intro hsA (And.intro haR (And.intro hau haw))))
        clear her hsE hsA haR hau haw h1 hs6 HAP
        by_cases he : er = 0
        · subst he
          go_wp2_with fail
          go_roundw
          case rel =>
            have h9 := HNX2.out
            have h8 := h9.1
            simp only [if_true] at h8
            have h7 := HTT.out.2
            have h6 := HSIM.out
            refine ⟨i + 1, T.append (id : Int) b, Rc.append (id : Int) b, HD.out.2.2, by go_num, HS6, Lib.hid ⟨h9.2.1, by rw [h9.2.2.1.1]; exact h6.2.1, by rw [h9.2.2.1.2.1]; exact h6.2.2.1, by rw [h9.2.2.1.2.2]; exact h6.2.2.2⟩, Lib.hid ⟨h8, by omega, by omega⟩⟩
          case measure => have := HD.out.2.2; simp [intOf]; omega
        · go_wp2_with fail
          go_ret
          have h9 := HNX2.out
          have h8 := h9.1
          rw [if_neg he] at h8
          have h6 := HSIM.out
          subst h8
          exact ⟨rfl, Rc.append (id : Int) b, h9.2.1, by rw [h9.2.2.1.1, h6.2.1, HID.out], by rw [h9.2.2.1.2.1]; exact h6.2.2.1, by rw [h9.2.2.1.2.2]; exact h6.2.2.2, HS6.out.swap.tail⟩
      · have hin : i = n := by omega
        subst hin
        have h9 := HT.out.1
        rw [List.drop_of_length_le (by rw [List.length_map]; have := HYY.out.2.1; omega)] at h9
        have h8 : r = (T, 0) := h9.symm
        have H8 := Lib.hid h8
        clear h9 h8 hlt hi
        go_wp2_with fail
        go_ret
        unfold FlPost
        rw [H8.out]
        have h7 := HSIM.out
        exact ⟨rfl, Rc, h7.1, by rw [h7.2.1, HID.out], h7.2.2.1, h7.2.2.2, HS.out.swap.tail⟩
end
end Go.Proofs.Ytkglkpcpgdeneaa
