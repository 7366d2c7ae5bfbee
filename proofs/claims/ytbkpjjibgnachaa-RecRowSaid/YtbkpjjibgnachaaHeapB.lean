/- How a heap of entries lies in memory, and what Push makes of it. Conditions: none. -/
import Derived.Test.YtbkpjjibgnachaaHeapA
import Derived.Deep.RegionLaw
import Derived.Deep.DeepCutAuto
import Derived.Deep.AppendLies
namespace Go.Proofs.Ytbkpjjibgnachaa
open Go.RowKit

theorem RowE.own {w : World} {g cap : Nat} {L : List En} (h : RowE w g cap L) : w.ownsRow 0 49 4 (.slice (some ⟨g, 0, none⟩) L.length cap) L.length (flatE L) := by
  obtain ⟨rest, hb, hl, h3, h4⟩ := h
  refine ⟨flatE_len L, .inr ⟨g, cap, (flatE L ++ rest).toArray, rfl, Nat.zero_le _, hb, h3, h4, by simpa using hl, ?_⟩⟩
  rw [List.toList_toArray, ← flatE_len L, List.take_left]
theorem RowE.of_own {w : World} {g cap n b : Nat} {L : List En} (h : w.ownsRow b 49 4 (.slice (some ⟨g, 0, none⟩) n cap) n (flatE L)) : RowE w g cap L := by
  obtain ⟨hl, h⟩ := h
  rcases h with ⟨h, _⟩ | ⟨g', cap', cur, hv, _, hb, hn, hm, hs, ht⟩
  · cases h
  · cases hv
    have hn2 : L.length = n := by have := flatE_len L; omega
    refine ⟨cur.toList.drop (n * 4), ?_, ?_, by omega, hm⟩
    · rw [← ht, List.take_append_drop]
      unfold Blk
      rw [Array.toArray_toList]; exact hb
    · rw [← ht, List.take_append_drop, Array.length_toList, hs]

def z0 : En := ⟨⟨#[]⟩, 0, none, 0, 0, 0⟩
def gE (L : List En) (i : Nat) : En := L.getD i z0
def swapE (L : List En) (x y : Nat) : List En := (L.set x (gE L y)).set y (gE L x)
theorem gE_eq (L : List En) (i : Nat) (h : i < L.length) : gE L i = L[i] := by simp [gE, h]
theorem swapE_eq (L : List En) (x y : Nat) (hx : x < L.length) (hy : y < L.length) : swapM L x y hx hy = swapE L x y := by rw [swapM, swapE, gE_eq L x hx, gE_eq L y hy]
theorem swapE_len (L : List En) (x y : Nat) : (swapE L x y).length = L.length := by simp [swapE]
def ltN (a b : En) : Bool := ltE a.k a.s a.r b.k b.s b.r
/-- The way up. -/
def upE (n : Nat) (L : List En) : List En :=
  if h : n = 0 then L else if ltN (gE L n) (gE L ((n - 1) / 2)) then upE ((n - 1) / 2) (swapE L n ((n - 1) / 2)) else L
termination_by n
decreasing_by omega
theorem upE_zero (L : List En) : upE 0 L = L := by rw [upE]; simp
theorem upE_go (n : Nat) (L : List En) (h : 0 < n) (hl : ltN (gE L n) (gE L ((n - 1) / 2)) = true) : upE n L = upE ((n - 1) / 2) (swapE L n ((n - 1) / 2)) := by
  conv => lhs; rw [upE]
  simp [Nat.ne_of_gt h, hl]
theorem upE_end (n : Nat) (L : List En) (hl : ltN (gE L n) (gE L ((n - 1) / 2)) = false) : upE n L = L := by
  rw [upE]; simp [hl]
theorem upE_len : ∀ (n : Nat) (L : List En), (upE n L).length = L.length := by
  intro n
  induction n using Nat.strongRecOn with
  | _ n ih =>
    intro L
    by_cases h : n = 0
    · subst h; rw [upE_zero]
    · cases hl : ltN (gE L n) (gE L ((n - 1) / 2))
      · rw [upE_end n L hl]
      · rw [upE_go n L (by omega) hl, ih _ (by omega), swapE_len]
def pushE (L : List En) (e : En) : List En := upE L.length (L ++ [e])

/-- A heap: its own block and its row's, both among F. -/
def HeapAt (w : World) (F : Nat → Prop) (hb : Nat) (L : List En) : Prop := F hb ∧ ∃ v, Blk w hb 44 [v] ∧ ((v = .slice none 0 0 ∧ L = []) ∨ ∃ g cap, v = .slice (some ⟨g, 0, none⟩) L.length cap ∧ F g ∧ RowE w g cap L)
theorem HeapAt.mono {w : World} {F G : Nat → Prop} {hb : Nat} {L : List En} (h : HeapAt w F hb L) (hm : ∀ k, k < w.heap.size → F k → G k) : HeapAt w G hb L := by
  obtain ⟨h1, v, hb, h2⟩ := h
  refine ⟨hm _ hb.lt h1, v, hb, ?_⟩
  rcases h2 with h2 | ⟨g, cap, hv, hg, hr⟩
  · exact .inl h2
  · exact .inr ⟨g, cap, hv, hm _ hr.lt hg, hr⟩
theorem HeapAt.keep {w w' : World} {F G : Nat → Prop} {hb : Nat} {L : List En} (h : HeapAt w F hb L) (k : Keep G w w') (hd : ∀ k, F k → ¬ G k) : HeapAt w' F hb L := by
  obtain ⟨h1, v, hbk, h2⟩ := h
  refine ⟨h1, v, hbk.keep k (hd _ h1), ?_⟩
  rcases h2 with h2 | ⟨g, cap, hv, hg, hr⟩
  · exact .inl h2
  · exact .inr ⟨g, cap, hv, hg, hr.keep k (hd _ hg)⟩
theorem row_ne {w : World} {g hb cap : Nat} {L : List En} {v : Value} (h : RowE w g cap L) (hb' : Blk w hb 44 [v]) : g ≠ hb := by
  rintro rfl
  obtain ⟨rest, h1, _⟩ := h
  unfold Blk at h1 hb'
  rw [h1] at hb'
  injection (Option.some.inj hb') with _ h2
  exact absurd h2 (by decide)

theorem infoEn : (Try.prog.info? 49).map (fun i => (i.zero, i.size, i.bytes)) = some (some (.agg #[.string ⟨#[]⟩, .int .i64 0, .slice none 0 0, .int .i64 0]), 4, 56) := by kernel_rfl

def extF (F : Nat → Prop) (w w' : World) : Nat → Prop := fun k => F k ∨ (w.heap.size ≤ k ∧ k < w'.heap.size)
/-- What Push leaves. -/
def PushPost (F : Nat → Prop) (hb : Nat) (L : List En) (w : World) (e : Ending) (w' : World) : Prop := e = .returned (.tuple #[]) ∧ HeapAt w' (extF F w w') hb L ∧ Keep F w w'
set_option maxRecDepth 100000 in
set_option maxHeartbeats 4000000 in
theorem heap_push (F : Nat → Prop) (hb : Nat) (L : List En) (x : En) (w : World) (hh : HeapAt w F hb L) (hl : L.length < 1000000) :
    Calls Try.prog 25 #[.pointer (some ⟨hb, 0, none⟩), .agg #[.string x.k, .int .i64 x.s, .slice x.A x.n x.c, .int .i64 x.r]] w (PushPost F hb (pushE L x) w) := by
  obtain ⟨hF, v, hB, hv⟩ := hh
  have hown : w.ownsRow 0 49 4 v L.length (flatE L) := by
    rcases hv with ⟨rfl, rfl⟩ | ⟨g, cap, rfl, _, hr⟩
    · exact World.ownsRow_nil w 0 _ 4
    · exact hr.own
  have hFv : ∀ k, v.ownBlock = some k → F k ∧ k ≠ hb := by
    rcases hv with ⟨rfl, rfl⟩ | ⟨g, cap, rfl, hg, hr⟩
    · intro k h; cases h
    · intro k h; cases h; exact ⟨hg, row_ne hr hB⟩
  have hvs : ∃ A n c, v = .slice A n c := by
    rcases hv with ⟨rfl, rfl⟩ | ⟨g, cap, rfl, hg, hr⟩
    · exact ⟨_, _, _, rfl⟩
    · exact ⟨_, _, _, rfl⟩
  obtain ⟨vA, vn, vc, rfl⟩ := hvs
  clear hv
  obtain ⟨k, s, A, n, c, r⟩ := x
  go_enter Try.func25, Try.ntmps25
  go_upto_region 2 with fail
  obtain ⟨i0, hi0, hz0, hz1, hz2⟩ := info_parts infoEn
  generalize hW : w.alloc (Obj.cells #[Value.string k, Value.int IntKind.i64 s, Value.slice A n c, Value.int IntKind.i64 r] 49) = W
  have B0 : Blk W w.heap.size 49 [.string k, .int .i64 s, .slice A n c, .int .i64 r] := by rw [← hW]; exact Blk.new w _ _
  have KW : Keep F w W := by rw [← hW]; exact (Keep.refl _ w).alloc _
  have hSW : W.heap.size = w.heap.size + 1 := by rw [← hW]; simp
  have hB' : Blk W hb 44 [.slice vA vn vc] := by rw [← hW]; exact hB.alloc _
  have hown' : W.ownsRow 0 49 4 (.slice vA vn vc) L.length (flatE L) := by rw [← hW]; exact hown.alloc _
  clear hW
  have hb0 : hb < w.heap.size := hB.lt
  clear hB hown
  generalize hbb : w.heap.size = b0 at B0 hSW hb0 ⊢
  have ch := hB'.cell 0
  have fh := hB'.free 0
  have hfa : ∀ o, (W.alloc o).drew.frozen? ⟨hb, 0, none⟩ = false := fun o => (hB'.alloc o).free 0
  have c0 := B0.cell 0
  have c1 := B0.cell 1
  have c2 := B0.cell 2
  have c3 := B0.cell 3
  simp only [List.getElem?_cons_zero, List.getElem?_cons_succ] at ch c0 c1 c2 c3
  have hLN : (L.length + 1) * 56 ≤ 140737488355328 := by omega
  have hLM : L.length + 1 ≤ maxLen := by unfold maxLen; omega
  have hcs : ∀ w1, (W.alloc (Obj.cells #[Value.string k, Value.int IntKind.i64 s, Value.slice A n c, Value.int IntKind.i64 r] 49)).drew.grownBy w1 (Value.ownBlock (.slice vA vn vc)) → w1.cell? ⟨hb, 0, none⟩ = some (.slice vA vn vc) ∧ w1.frozen? ⟨hb, 0, none⟩ = false := by
    intro w1 hg
    have h1 := (show Blk (W.alloc (Obj.cells #[Value.string k, Value.int IntKind.i64 s, Value.slice A n c, Value.int IntKind.i64 r] 49)).drew hb 44 [.slice vA vn vc] from hB'.alloc _).keep (Keep.of_grown hg) (fun e => (hFv _ e.symm).2 rfl)
    exact ⟨h1.cell 0, h1.free 0⟩
  have hmt : ∀ gg cap w1, w1.ownsRow 0 49 4 (.slice (some ⟨gg, 0, none⟩) (L.length + 1) cap) (L.length + 1) (flatE L ++ [.string k, .int .i64 s, .slice A n c, .int .i64 r]) → (W.alloc (Obj.cells #[Value.string k, Value.int IntKind.i64 s, Value.slice A n c, Value.int IntKind.i64 r] 49)).drew.grownBy w1 (Value.ownBlock (.slice vA vn vc)) → (Value.ownBlock (.slice vA vn vc) = some gg ∨ gg = W.heap.size + 1) →
      Blk (w1.setCell ⟨hb, 0, none⟩ (.slice (some ⟨gg, 0, none⟩) (L.length + 1) cap)) hb 44 [.slice (some ⟨gg, 0, none⟩) (L.length + 1) cap] ∧ RowE (w1.setCell ⟨hb, 0, none⟩ (.slice (some ⟨gg, 0, none⟩) (L.length + 1) cap)) gg cap (L ++ [⟨k, s, A, n, c, r⟩]) ∧ Keep F w (w1.setCell ⟨hb, 0, none⟩ (.slice (some ⟨gg, 0, none⟩) (L.length + 1) cap)) ∧ (F gg ∨ w.heap.size ≤ gg) := by
    intro gg cap w1 hown1 hg hat
    have h1 := (show Blk (W.alloc (Obj.cells #[Value.string k, Value.int IntKind.i64 s, Value.slice A n c, Value.int IntKind.i64 r] 49)).drew hb 44 [.slice vA vn vc] from hB'.alloc _).keep (Keep.of_grown hg) (fun e => (hFv _ e.symm).2 rfl)
    have h2 : RowE w1 gg cap (L ++ [⟨k, s, A, n, c, r⟩]) := RowE.of_own (b := 0) (n := L.length + 1) (by rw [flatE_append]; exact hown1)
    refine ⟨h1.set 0 _, h2.keep ((Keep.refl (fun k => k = hb) w1).setCell (p := ⟨hb, 0, none⟩) (.inl rfl) _) (row_ne h2 h1), ?_, ?_⟩
    · exact (((KW.alloc _).drew).trans' (Keep.of_grown hg) (fun j _ e => (hFv j e.symm).1)).setCell (p := ⟨hb, 0, none⟩) (.inl hF) _
    · rcases hat with h | h
      · exact .inl (hFv gg h).1
      · exact .inr (by omega)
  have HFV := Lib.hid hFv
  have HL := Lib.hid hl
  have HB' := Lib.hid hB'
  have KW' := Lib.hid KW
  have HBB := Lib.hid hbb
  clear hFv hl hB' B0 KW hbb
  go_cut [] (fun wx => ∃ gg cap, Hid (Blk wx hb 44 [.slice (some ⟨gg, 0, none⟩) (L.length + 1) cap] ∧ RowE wx gg cap (L ++ [⟨k, s, A, n, c, r⟩]) ∧ Keep F w wx ∧ (F gg ∨ w.heap.size ≤ gg)))
  case first =>
    go_region_law ((refine step_append_lies _ (by rfl) _ _ _ (by rfl) 0 49 i0 _ 4 56 Try.underlying40 hi0 hz0 hz1 hz2 rfl (by omega) (.slice vA vn vc) L.length (flatE L) (by rfl) ((hown'.alloc _).drew) ⟨b0 + 1, 0, none⟩ 1 1 [.string k, .int .i64 s, .slice A n c, .int .i64 r] (by rfl) (by rfl) (World.news_of_block (cs := #[.string k, .int .i64 s, .slice A n c, .int .i64 r]) (t := 49) (fr := (0, 0)) (by rw [← hSW]; exact heap_alloc_new W _)) (by simp [Value.oneCell']) (by omega) hLM hLN (by simp) (W.heap.size + 1) (by simp) ?_; intro gg cap w1 hown1 hgrow hat hlt; have hq1 := (hcs w1 hgrow).1; have hq2 := (hcs w1 hgrow).2))
    all_goals (go_wp2_with fail; go_meet; exact ⟨gg, cap, Lib.hid (hmt gg cap w1 hown1 hgrow hat)⟩)
  case rest =>
    obtain ⟨gg, cap, HC⟩ := hcut
    have HM : Hid (w.heap.size = b0) := HBB
    clear c0 c1 c2 c3 ch fh hfa hcs hmt hown' hSW hi0 hz0 hz1 hz2
    have cq := HC.out.1.cell 0
    simp only [List.getElem?_cons_zero] at cq
    go_wp2_with fail
    clear cq
    go_loopw [4] (fun v4 wr => ∃ (i : Nat) (M : List En), i < L.length + 1 ∧ v4 = .int .i64 i ∧ Hid (M.length = L.length + 1) ∧ Hid (upE i M = pushE L ⟨k, s, A, n, c, r⟩) ∧ Hid (Blk wr hb 44 [.slice (some ⟨gg, 0, none⟩) (L.length + 1) cap]) ∧ Hid (RowE wr gg cap M) ∧ Hid (Keep F w wr)) (fun v4 _ => (intOf v4).toNat)
    case atStart => exact ⟨L.length, L ++ [⟨k, s, A, n, c, r⟩], by omega, by go_num, Lib.hid (by simp), Lib.hid rfl, Lib.hid HC.out.1, Lib.hid HC.out.2.1, Lib.hid HC.out.2.2.1⟩
    case round =>
      obtain ⟨i, M, hi, rfl, HML, HU, HBL, HRO, HKE⟩ := hrel
      have hfin : ∀ w2, Blk w2 hb 44 [.slice (some ⟨gg, 0, none⟩) (L.length + 1) cap] → RowE w2 gg cap (pushE L ⟨k, s, A, n, c, r⟩) → Keep F w w2 → PushPost F hb (pushE L ⟨k, s, A, n, c, r⟩) w (.returned (.tuple #[])) w2 := by
        intro w2 h1 h2 h3
        have hle : (pushE L ⟨k, s, A, n, c, r⟩).length = L.length + 1 := by rw [← HU.out, upE_len]; exact HML.out
        refine ⟨rfl, ⟨.inl hF, _, h1, .inr ⟨gg, cap, by rw [hle], ?_, h2⟩⟩, h3⟩
        rcases HC.out.2.2.2 with h | h
        · exact .inl h
        · exact .inr ⟨h, h2.lt⟩
      have HF := Lib.hid hfin
      clear hfin
      by_cases hi0 : i = 0
      · subst hi0
        have hd : decide ((0 : Int) < 0) = false := rfl
        go_wp2
        go_end0
        exact HF.out _ HBL.out (by have := HU.out; rw [upE_zero] at this; rw [← this]; exact HRO.out) HKE.out
      · have hp : (0 : Int) < (i : Int) := by omega
        obtain ⟨p, hpe⟩ : ∃ p, p = (i - 1) / 2 := ⟨_, rfl⟩
        have HP := Lib.hid hpe
        have hpl : p < i := by omega
        have hq : ((i : Int) - 1).tdiv 2 = (p : Int) := by
          rw [Int.tdiv_eq_ediv_of_nonneg (by omega)]; omega
        have hq2 : ((i : Int) - 1) / 2 = (p : Int) := by omega
        clear hpe
        go_wp2_with fail
        clear hq hq2
        have q1 : (0 : Int) ≤ i := by omega
        have q2 : (i : Int) < (L.length : Int) + 1 := by omega
        have q3 : (0 : Int) ≤ p := by omega
        have q4 : (p : Int) < (L.length : Int) + 1 := by omega
        have hMi : i < M.length := by rw [HML.out]; exact hi
        have hMp : p < M.length := by rw [HML.out]; omega
        have hRD : RowE wr.drew gg cap M := HRO.out.drew
        have hBD : Blk wr.drew hb 44 [.slice (some ⟨gg, 0, none⟩) (L.length + 1) cap] := HBL.out
        have hKD : Keep F w wr.drew := HKE.out.drew
        have cq := hBD.cell 0
        have x0 := hRD.cell i 0 hMi (by omega)
        have x1 := hRD.cell i 1 hMi (by omega)
        have x2 := hRD.cell i 2 hMi (by omega)
        have x3 := hRD.cell i 3 hMi (by omega)
        have y0 := hRD.cell p 0 hMp (by omega)
        have y1 := hRD.cell p 1 hMp (by omega)
        have y2 := hRD.cell p 2 hMp (by omega)
        have y3 := hRD.cell p 3 hMp (by omega)
        rw [← gE_eq M i hMi] at x0 x1 x2 x3
        rw [← gE_eq M p hMp] at y0 y1 y2 y3
        simp only [En.cells, List.getElem?_cons_zero, List.getElem?_cons_succ, Nat.add_zero] at cq x0 x1 x2 x3 y0 y1 y2 y3
        refine wp_region_still_tail 14 (by kernel_rfl) (by kernel_rfl) ?_
        simp only [List.take_succ_cons, List.take_zero, List.drop_succ_cons, List.drop_zero]
        change wpStill _ _ wr.drew (fun a' => wpList _ _ _ _ a' wr.drew) _ _
        have HRO2 := Lib.hid hRD
        have HBL2 := Lib.hid hBD
        have HKE2 := Lib.hid hKD
        clear hRD hBD hKD HRO HBL HKE
        generalize wr.drew = wd at cq x0 x1 x2 x3 y0 y1 y2 y3 HRO2 HBL2 HKE2 ⊢
        still_step
        still_step
        still_step
        still_step
        still_step
        still_step
        still_step
        still_step
        still_step
        still_step
        still_step
        still_step
        still_step
        still_step
        refine wpStill_nil ?_
        go_wp2_with fail
        refine (heap_less (gE M i).k (gE M p).k (gE M i).s (gE M i).r (gE M p).s (gE M p).r (.slice (gE M i).A (gE M i).n (gE M i).c) (.slice (gE M p).A (gE M p).n (gE M p).c) wd).mono ?_
        rintro e w2 ⟨rfl, K2⟩
        have hR2 := HRO2.out.keep K2 (by have := HRO2.out.lt; omega)
        have hB2 := HBL2.out.keep K2 (by have := HBL2.out.lt; omega)
        have hK2 := HKE2.out.trans' K2 (fun j hj h => by have := HKE2.out.size; omega)
        clear cq x0 x1 x2 x3 y0 y1 y2 y3 K2 HRO2 HBL2 HKE2
        have hU := HU.out
        cases hlt : ltE (gE M i).k (gE M i).s (gE M i).r (gE M p).k (gE M p).s (gE M p).r
        · have hpu : upE i M = M := upE_end i M (by rw [← HP.out]; exact hlt)
          rw [hpu] at hU
          have HU2 := Lib.hid hU
          have HR2 := Lib.hid hR2
          have HB2 := Lib.hid hB2
          have HK2 := Lib.hid hK2
          clear hU hpu hR2 hB2 hK2
          go_wp2
          (try simp only [Exit.inBlock, Exit.then])
          refine bodyPost_ret (results_none rfl _ _ _) rfl ?_
          exact HF.out _ HB2.out (by rw [← HU2.out]; exact HR2.out) HK2.out
        · have hpu : upE i M = upE p (swapE M i p) := by rw [HP.out]; exact upE_go i M (by omega) (by rw [← HP.out]; exact hlt)
          rw [hpu] at hU
          have HU2 := Lib.hid hU
          have HR2 := Lib.hid hR2
          have HB2 := Lib.hid hB2
          have HK2 := Lib.hid hK2
          have cq := hB2.cell 0
          simp only [List.getElem?_cons_zero] at cq
          rw [← HML.out] at cq
          clear hU hpu hR2 hB2 hK2
          go_wp2_with (go_at_call 55; refine (heap_swap hb gg cap i p M _ cq HR2.out hMi hMp).mono ?_; rintro e w3 ⟨rfl, hR3, hK3⟩; rw [swapE_eq] at hR3; have HR3 := Lib.hid hR3; have HK3 := Lib.hid hK3; clear hR3 hK3 cq)
          go_roundw
          case rel => exact ⟨p, swapE M i p, by omega, rfl, Lib.hid (by rw [swapE_len]; exact HML.out), Lib.hid HU2.out, Lib.hid (HB2.out.keep HK3.out (fun e => row_ne HR2.out HB2.out e.symm)), Lib.hid HR3.out, Lib.hid (HK2.out.trans' HK3.out (fun j hj e => by subst e; rcases HC.out.2.2.2 with h | h; exact h; omega))⟩
          case measure => simp [intOf]; omega
end Go.Proofs.Ytbkpjjibgnachaa
