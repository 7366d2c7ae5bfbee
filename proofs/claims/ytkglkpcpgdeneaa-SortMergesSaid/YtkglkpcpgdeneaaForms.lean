/- Drawn regions walked along laid orders; formers and cursors of runs as parts of memory, and their methods. Conditions: none. -/
import Derived.Test.YtkglkpcpgdeneaaSrt
import Derived.Test.YtkglkpcpgdeneaaStoS
import Derived.Test.YtkglkpcpgdeneaaStRec
import Derived.Test.YtkglkpcpgdeneaaHeldG
import Derived.StillTail
import Derived.Test.YtkglkpcpgdeneaaJoinP
import Derived.Test.YtkglkpcpgdeneaaSel
namespace Go.Proofs.Ytkglkpcpgdeneaa
open Go.RowKit
set_option linter.unusedVariables false
set_option linter.unusedSimpArgs false

/-- What an item is written as. -/
abbrev K3i := ByteArray × Int × List UInt8
def encK (x : K3i) : List UInt8 := putL x.1 x.2.1 x.2.2
def lenK (x : K3i) : Nat := 16 + x.1.size + x.2.2.length
def mayK (x : K3i) : Bool := mayI x.1 x.2.1 x.2.2.length
theorem encK_len (x : K3i) : (encK x).length = lenK x := putL_len _ _ _
def sumK (L : List K3i) : Nat := (L.map lenK).sum
theorem sumK_app (L M : List K3i) : sumK (L ++ M) = sumK L + sumK M := by simp [sumK]
theorem sumK_cons (x : K3i) (L : List K3i) : sumK (x :: L) = lenK x + sumK L := by simp [sumK]
theorem sumK_perm {L M : List K3i} (h : L.Perm M) : sumK L = sumK M := (h.map lenK).sum_nat
/-- What a write of items leads to. -/
def writeL (id : Int) : StoreM → List K3i → StoreM × Int
  | S, [] => (S, 0)
  | S, x :: r => if S.appendE id (encK x) = 0 then writeL id (S.append id (encK x)) r else (S.append id (encK x), S.appendE id (encK x))
def wrS (S : StoreM) (L : List K3i) : StoreM × Int := if S.next < 65536 then writeL S.next S.create (srt ltK L) else (S, 12)
/-- A former: its store, what it holds, its runs, the error that is kept in mind. -/
structure FM where
  S : StoreM
  held : List K3i
  ids : List Int
  bad : Int
namespace FM
def flush (F : FM) : FM := if F.bad = 0 then (let r := wrS F.S F.held; if r.2 = 0 then ⟨r.1, [], F.ids ++ [F.S.next], 0⟩ else ⟨r.1, F.held, F.ids, r.2⟩) else F
/-- One item: what comes of it, and the answer. -/
def add (bud : Int) (F : FM) (x : K3i) : FM × Int :=
  if mayK x then (if ((F.held.length + 1 : Nat) : Int) < bud then (⟨F.S, F.held ++ [x], F.ids, F.bad⟩, 0) else ((FM.mk F.S (F.held ++ [x]) F.ids F.bad).flush, (FM.mk F.S (F.held ++ [x]) F.ids F.bad).flush.bad)) else (F, 1)
def addL (bud : Int) : FM → List K3i → FM × Int
  | F, [] => (F, F.bad)
  | F, x :: r => if F.bad = 0 then (if (F.add bud x).2 = 0 then addL bud (F.add bud x).1 r else F.add bud x) else (F, F.bad)
def shut (F : FM) : FM := if F.bad = 0 ∧ F.held ≠ [] then F.flush else F
end FM

theorem appendE_writes {S : StoreM} {id : Int} {b : List UInt8} : (S.append id b).writes ≤ S.writes + 1 ∧ S.writes ≤ (S.append id b).writes := by
  unfold StoreM.append
  split
  · exact ⟨by omega, Int.le_refl _⟩
  · split
    · exact ⟨by simp, by simp; omega⟩
    · split
      · exact ⟨by simp, by simp; omega⟩
      · exact ⟨by simp [StoreM.add], by simp [StoreM.add]; omega⟩
theorem append_next {S : StoreM} {id : Int} {b : List UInt8} : (S.append id b).next = S.next := by
  unfold StoreM.append
  split
  · rfl
  · split
    · rfl
    · split
      · rfl
      · rfl
theorem find_create {S : StoreM} (h : S.Ok) (hn : S.next < 65536) : S.create.find S.next = some [] := by
  unfold StoreM.create StoreM.find
  rw [if_neg (by omega)]
  show ((S.runs ++ [(S.next, [])]).find? fun p : Int × List UInt8 => p.1 == S.next).map Prod.snd = some []
  rw [List.find?_append, StoreM.find_next h]
  simp
theorem create_next {S : StoreM} (hn : S.next < 65536) : S.create.next = S.next + 1 ∧ S.create.writes = S.writes := by
  unfold StoreM.create
  rw [if_neg (by omega)]
  exact ⟨rfl, rfl⟩
theorem find_map_add (id : Int) (b : List UInt8) : ∀ l : List (Int × List UInt8), ((l.map fun p => if p.1 == id then (p.1, p.2 ++ b) else p).find? fun p => p.1 == id) = (l.find? fun p => p.1 == id).map fun p => (p.1, p.2 ++ b)
  | [] => rfl
  | p :: r => by
    by_cases h : p.1 = id
    · have h1 : (p.1 == id) = true := by simpa using h
      rw [List.map_cons, if_pos h1, List.find?_cons_of_pos (by simpa using h), List.find?_cons_of_pos (by simpa using h)]
      rfl
    · have h1 : (p.1 == id) = false := by simpa using h
      rw [List.map_cons, h1, if_neg (by simp), List.find?_cons_of_neg (by simpa using h), List.find?_cons_of_neg (by simpa using h)]
      exact find_map_add id b r
theorem find_add_same {S : StoreM} {id : Int} {b bs : List UInt8} (h : S.find id = some bs) : (S.add id b).find id = some (bs ++ b) := by
  unfold StoreM.find at h ⊢
  obtain ⟨p, hp, rfl⟩ := Option.map_eq_some_iff.1 h
  show (((S.runs.map fun p => if p.1 == id then (p.1, p.2 ++ b) else p).find? fun p => p.1 == id)).map Prod.snd = _
  rw [find_map_add, hp]
  rfl
theorem find_append_same {S : StoreM} {id : Int} {b bs : List UInt8} (h : S.find id = some bs) (h0 : S.appendE id b = 0) : (S.append id b).find id = some (bs ++ b) := by
  unfold StoreM.appendE at h0
  unfold StoreM.append
  rw [h] at h0 ⊢
  simp only at h0 ⊢
  split at h0
  · cases h0
  · rename_i h1
    rw [if_neg h1]
    split at h0
    · cases h0
    · rename_i h2
      rw [if_neg h2]
      exact find_add_same h
theorem writeL_writes (id : Int) : ∀ (L : List K3i) (S : StoreM), (writeL id S L).1.writes ≤ S.writes + L.length ∧ S.writes ≤ (writeL id S L).1.writes ∧ (writeL id S L).1.next = S.next
  | [], S => ⟨by simp [writeL], by simp [writeL], by simp [writeL]⟩
  | x :: r, S => by
    have h1 := appendE_writes (S := S) (id := id) (b := encK x)
    have h2 := append_next (S := S) (id := id) (b := encK x)
    unfold writeL
    split
    · have h3 := writeL_writes id r (S.append id (encK x))
      rw [List.length_cons]
      refine ⟨by omega, by omega, by rw [h3.2.2, h2]⟩
    · rw [List.length_cons]
      exact ⟨by simp only; omega, h1.2, h2⟩
theorem srtK_len (L : List K3i) : (srt ltK L).length = L.length := (srt_perm (lt := ltK) L).length_eq
theorem srtK_sum (L : List K3i) : sumK (srt ltK L) = sumK L := sumK_perm (srt_perm L)
theorem wrS_writes (S : StoreM) (L : List K3i) : (wrS S L).1.writes ≤ S.writes + L.length ∧ S.writes ≤ (wrS S L).1.writes := by
  unfold wrS
  split
  · rename_i h
    have h1 := writeL_writes S.next (srt ltK L) S.create
    rw [srtK_len, (create_next h).2] at h1
    exact ⟨h1.1, h1.2.1⟩
  · exact ⟨by simp only; omega, Int.le_refl _⟩
/-- How much there is at most: items that were added, their bytes, writes. -/
def FM.Bd (F : FM) (W : Int) (c m : Nat) : Prop := F.held.length + F.ids.length ≤ c ∧ sumK F.held ≤ m ∧ F.S.writes + (if F.bad = 0 then F.held.length else 0 : Nat) ≤ W + c
theorem FM.Bd.flush {F : FM} {W : Int} {c m : Nat} (h : F.Bd W c m) (h0 : F.held ≠ []) : F.flush.Bd W c m := by
  have hl : 0 < F.held.length := List.length_pos_iff.2 h0
  unfold FM.flush
  split
  · rename_i hb
    obtain ⟨h1, h2, h3⟩ := h
    rw [if_pos hb] at h3
    have hw := wrS_writes F.S F.held
    simp only
    split
    · refine ⟨by simp; omega, by simp [sumK], ?_⟩
      simp only [if_true, List.length_nil]
      omega
    · rename_i he
      refine ⟨h1, h2, ?_⟩
      simp only [he, if_false]
      omega
  · exact h
theorem FM.Bd.add {F : FM} {W : Int} {c m : Nat} (h : F.Bd W c m) (bud : Int) (x : K3i) : (F.add bud x).1.Bd W (c + 1) (m + lenK x) := by
  have hx : (FM.mk F.S (F.held ++ [x]) F.ids F.bad).Bd W (c + 1) (m + lenK x) := by
    obtain ⟨h1, h2, h3⟩ := h
    refine ⟨by simp; omega, by rw [sumK_app]; simp [sumK] at h2 ⊢; omega, ?_⟩
    simp only
    split
    · rename_i hb
      rw [if_pos hb] at h3
      simp; omega
    · rename_i hb
      rw [if_neg hb] at h3
      simp; omega
  unfold FM.add
  split
  · split
    · exact hx
    · exact hx.flush (by simp)
  · obtain ⟨h1, h2, h3⟩ := h
    exact ⟨by simp only; omega, by simp only; omega, by simp only; omega⟩
theorem FM.flush_bad {F : FM} (h : F.bad ≠ 0) : F.flush = F := if_neg h
end Go.Proofs.Ytkglkpcpgdeneaa
namespace Go.Proofs.Ytkglkpcpgdeneaa
open Go.RowKit
set_option linter.unusedVariables false

structure FormW where
  A : Option Addr
  c : Nat
  A2 : Option Addr
  c2 : Nat
def formCells (sb : Nat) (bud : Int) (n m : Nat) (bad : Int) (x : FormW) : List Value := [.pointer (some ⟨sb, 0, none⟩), .int .i64 bud, .slice x.A n x.c, .slice x.A2 m x.c2, .int .i64 bad]
/-- A former: its store, its budget, what it holds, its runs, the error that is kept in mind. -/
def formP (fb sb : Nat) (bud : Int) (X : List ItX) (ids : List Int) (bad : Int) : Part :=
  exP fun x : FormW => andP (blkP fb 102 (formCells sb bud X.length ids.length bad x)) (andP (itsP x.A x.c X) (ownP 3 1 (.slice x.A2 ids.length x.c2) ids.length (ints ids)))
section
variable {w0 w : World} {l : List Part} {fb sb : Nat} {bud bad : Int} {X : List ItX} {ids : List Int}
theorem St.form (h : St w0 w (formP fb sb bud X ids bad :: l)) : ∃ x : FormW, St w0 w (blkP fb 102 (formCells sb bud X.length ids.length bad x) :: itsP x.A x.c X :: ownP 3 1 (.slice x.A2 ids.length x.c2) ids.length (ints ids) :: l) := by
  obtain ⟨x, h1⟩ := St.ex h
  exact ⟨x, (h1.split.swap.split).nth3⟩
theorem St.form_mk (x : FormW) (h : St w0 w (blkP fb 102 (formCells sb bud X.length ids.length bad x) :: itsP x.A x.c X :: ownP 3 1 (.slice x.A2 ids.length x.c2) ids.length (ints ids) :: l)) : St w0 w (formP fb sb bud X ids bad :: l) :=
  St.ex_mk (f := fun x : FormW => andP (blkP fb 102 (formCells sb bud X.length ids.length bad x)) (andP (itsP x.A x.c X) (ownP 3 1 (.slice x.A2 ids.length x.c2) ids.length (ints ids)))) x ((h.nth3.nth3.join).swap.join)
theorem St.form_new (h : St w0 w l) (bud : Int) (b : Nat) (hb : b = w.heap.size) : St w0 (w.alloc (.cells #[.pointer (some ⟨sb, 0, none⟩), .int .i64 bud, .slice none 0 0, .slice none 0 0, .int .i64 0] 102)) (formP b sb bud [] [] 0 :: l) := by
  subst hb
  refine St.form_mk (X := []) (ids := []) ⟨none, 0, none, 0⟩ ?_
  exact ((h.nil 3 1).its_nil).box [.pointer (some ⟨sb, 0, none⟩), .int .i64 bud, .slice none 0 0, .slice none 0 0, .int .i64 0] 102
theorem St.runs_new (h : St w0 w l) (bud : Int) (hb : 1 ≤ bud) :
    Calls Try.prog 35 #[.pointer (some ⟨sb, 0, none⟩), .int .i64 bud] w fun e w' => ∃ fb, e = .returned (.tuple #[.pointer (some ⟨fb, 0, none⟩), .int .i64 0]) ∧ St w0 w' (formP fb sb bud [] [] 0 :: l) := by
  have HS := Lib.hid h
  have q0 : ¬ bud < 1 := by omega
  clear h hb
  go_enter Try.func35, Try.ntmps35
  go_wp2_with fail
  go_ret2
  exact ⟨w.heap.size, rfl, HS.out.form_new bud _ rfl⟩
theorem runs_new_nil (w : World) (bud : Int) :
    Calls Try.prog 35 #[.pointer none, .int .i64 bud] w fun e w' => e = .returned (.tuple #[.pointer none, .int .i64 1]) ∧ w = w' := by
  go_enter Try.func35, Try.ntmps35
  go_wp2_with fail
  go_ret2
  exact ⟨rfl, rfl⟩
theorem runs_new_small (w : World) (sb : Nat) (bud : Int) (hb : bud < 1) :
    Calls Try.prog 35 #[.pointer (some ⟨sb, 0, none⟩), .int .i64 bud] w fun e w' => e = .returned (.tuple #[.pointer none, .int .i64 1]) ∧ w = w' := by
  go_enter Try.func35, Try.ntmps35
  go_wp2_with fail
  go_ret2
  exact ⟨rfl, rfl⟩
theorem St.runs_held (h : St w0 w (formP fb sb bud X ids bad :: l)) :
    Calls Try.prog 37 #[.pointer (some ⟨fb, 0, none⟩)] w fun e w' => e = .returned (.int .i64 X.length) ∧ w = w' := by
  obtain ⟨x, h1⟩ := h.form
  have c2 := h1.blk.1.cell 2
  simp only [formCells, List.getElem?_cons_zero, List.getElem?_cons_succ] at c2
  clear h h1
  go_enter Try.func37, Try.ntmps37
  go_wp2_with fail
  go_ret
  exact ⟨rfl, rfl⟩
end
end Go.Proofs.Ytkglkpcpgdeneaa
namespace Go.Proofs.Ytkglkpcpgdeneaa
open Go.RowKit
set_option linter.unusedVariables false
set_option linter.unusedSimpArgs false

theorem infoIntF : (Try.prog.info? 3).map (fun i => (i.zero, i.size, i.bytes)) = some (some (.int .i64 0), 1, 8) := by kernel_rfl
theorem ints_one (id : Int) : [Value.int .i64 id] = ints [id] := rfl
theorem ints_app (a b : List Int) : ints a ++ ints b = ints (a ++ b) := by simp [ints]
section
variable {w0 w : World} {l : List Part} {fb sb : Nat} {bud bad : Int} {X : List ItX} {ids : List Int} {S : StoreM}
theorem St.mv {ps : List Part} (h : St w0 w ps) (k : Nat) (hk : k < ps.length) : St w0 w (ps[k] :: ps.eraseIdx k) := h.perm (getElem_eraseIdx_perm hk).symm
theorem mayK_dat {x : ItX} (h : mayK (keyX x) = true) : x.2.length ≤ 1048576 ∧ x.1.k.size ≤ 200 := by
  have := may_parts h
  exact ⟨this.2.2.2, this.1⟩
/-- What a write answers, and what it leaves. -/
def WrPost (w0 : World) (l : List Part) (fb sb : Nat) (bud bad : Int) (X : List ItX) (ids : List Int) (id : Int) (r : StoreM × Int) (e : Ending) (w' : World) : Prop :=
  e = .returned (.int .i64 r.2) ∧ ∃ X', X'.map keyX = (if r.2 = 0 then [] else X.map keyX) ∧ St w0 w' (formP fb sb bud X' (if r.2 = 0 then ids ++ [id] else ids) bad :: storeP sb r.1 :: l)
set_option maxRecDepth 100000 in
set_option maxHeartbeats 8000000 in
theorem St.form_write (h : St w0 w (formP fb sb bud X ids bad :: storeP sb S :: l)) (hm : ∀ x ∈ X, mayK (keyX x) = true) (hn : X.length ≤ 1000000) (hs : sumK (X.map keyX) ≤ 100000000) (hw : S.writes ≤ 4611686018427387904) (hi : ids.length ≤ 1000000) (r : StoreM × Int) (hr : wrS S (X.map keyX) = r) :
    Calls Try.prog 73 #[.pointer (some ⟨fb, 0, none⟩)] w (WrPost w0 l fb sb bud bad X ids S.next r) := by
  obtain ⟨x, h1⟩ := h.form
  have HH := Lib.hid h
  have HS := Lib.hid h1
  have HB := Lib.hid (And.intro hm (And.intro hn (And.intro hs (And.intro hw (And.intro hi hr)))))
  have c0 := h1.blk.1.cell 0
  simp only [formCells, List.getElem?_cons_zero, List.getElem?_cons_succ] at c0
  clear h h1 hm hn hs hw hi hr
  by_cases hnx : S.next < 65536
  · have HNX := Lib.hid hnx
    clear hnx
    go_enter Try.func73, Try.ntmps73
    go_wp2_with fail
    refine (St.store_create (HS.out.mv 3 (by simp)) HNX.out).mono ?_
    rintro e w1 ⟨rfl, hs1⟩
    have HS1 : Hid (St w0 w1 (storeP sb S.create :: blkP fb 102 (formCells sb bud X.length ids.length bad x) :: itsP x.A x.c X :: ownP 3 1 (.slice x.A2 ids.length x.c2) ids.length (ints ids) :: l)) := Lib.hid hs1
    clear hs1 c0 HH
    have c2 := (HS1.out.mv 1 (by simp)).blk.1.cell 2
    simp only [formCells, List.getElem?_cons_zero, List.getElem?_cons_succ] at c2
    obtain ⟨id, hid⟩ : ∃ id, id = S.next := ⟨_, rfl⟩
    rw [← hid]
    have HID := Lib.hid hid
    clear hid
    go_wp2_with fail
    have hits : St w0 w1 (itsP x.A x.c X :: _) := HS1.out.mv 2 (by simp)
    refine (rec_sorted w1 x.A X.length x.c X rfl hits.its_rd (fun y hy => ⟨hits.its_dat y hy, by have := (mayK_dat (HB.out.1 y hy)).1; omega⟩) HB.out.2.1).mono ?_
    rintro e w2 ⟨A, c', Y, rfl, hY, hs2⟩
    have HS2 : Hid (St w0 w2 (itsP A c' Y :: storeP sb S.create :: blkP fb 102 (formCells sb bud X.length ids.length bad x) :: itsP x.A x.c X :: ownP 3 1 (.slice x.A2 ids.length x.c2) ids.length (ints ids) :: l)) := Lib.hid (HS1.out.lift hs2)
    have hYm : ∀ y ∈ Y, mayK (keyX y) = true := by
      intro y hy
      have h1 : keyX y ∈ srt ltK (X.map keyX) := by rw [← hY]; exact List.mem_map_of_mem hy
      obtain ⟨z, hz, e⟩ := List.mem_map.1 ((srt_perm (lt := ltK) _).mem_iff.1 h1)
      rw [← e]
      exact HB.out.1 z hz
    have hYl : Y.length = X.length := by have := congrArg List.length hY; rwa [srtK_len, List.length_map, List.length_map] at this
    have hYs : sumK (Y.map keyX) = sumK (X.map keyX) := by rw [hY, srtK_sum]
    have hwr : writeL id S.create (Y.map keyX) = r := by
      have h1 := HB.out.2.2.2.2.2
      unfold wrS at h1
      rw [if_pos HNX.out, ← hY, ← HID.out] at h1
      exact h1
    have hf0 : S.create.find id = some [] := by rw [HID.out]; exact find_create ((HS.out.mv 3 (by simp)).store_ok) HNX.out
    have HY := Lib.hid (And.intro hYm (And.intro hYl (And.intro hYs hwr)))
    have HF0 := Lib.hid hf0
    have HW0 := Lib.hid (create_next HNX.out).2
    clear hs2 hits hY hYm hYl hYs hwr hf0 c2 HS1
    have q0 : (Y.length : Int) ≤ 1000000 := by have h1 := HB.out.2.1; have h2 := HY.out.2.1; omega
    go_wp2_with fail
    go_loopw [27] (fun v27 wr => ∃ (i : Nat) (T : StoreM) (bs : List UInt8), i ≤ Y.length ∧ v27 = .int .i64 i ∧ Hid (St w0 wr (itsP A c' Y :: storeP sb T :: blkP fb 102 (formCells sb bud X.length ids.length bad x) :: itsP x.A x.c X :: ownP 3 1 (.slice x.A2 ids.length x.c2) ids.length (ints ids) :: l)) ∧ Hid (writeL id T ((Y.map keyX).drop i) = r ∧ T.find id = some bs ∧ bs.length + sumK ((Y.map keyX).drop i) ≤ 100000000 ∧ T.writes ≤ S.writes + i)) (fun v27 _ => Y.length - (intOf v27).toNat)
    case atStart => exact ⟨0, S.create, [], Nat.zero_le _, rfl, HS2, Lib.hid ⟨by rw [List.drop_zero]; exact HY.out.2.2.2, HF0.out, by rw [List.drop_zero]; have h1 := HB.out.2.2.1; have h2 := HY.out.2.2.1; simp; omega, by have := HW0.out; omega⟩⟩
    case round =>
      clear HS2 HF0 HW0
      obtain ⟨i, T, bs, hi, rfl, HS3, HT⟩ := hrel
      by_cases hlt : i < Y.length
      · rcases HS3.out.its_rd with ⟨_, h0⟩ | ⟨ba, o, hA, hc⟩
        · have h1 := congrArg List.length h0
          simp at h1
          rw [h1] at hlt
          simp at hlt
        subst hA
        obtain ⟨y, hy⟩ : ∃ y, Y[i]? = some y := ⟨_, List.getElem?_eq_getElem hlt⟩
        obtain ⟨d0, d1, d2⟩ := St.itemAt hc i y.1 (by rw [List.getElem?_map, hy]; rfl)
        have hdr : (Y.map keyX).drop i = keyX y :: (Y.map keyX).drop (i + 1) := by
          have hl2 : i < (Y.map keyX).length := by rw [List.length_map]; exact hlt
          rw [List.drop_eq_getElem_cons hl2, List.getElem_map]
          congr 2
          exact (List.getElem?_eq_some_iff.1 hy).2
        have hymem := List.mem_of_getElem? hy
        have HD := Lib.hid (And.intro (HS3.out.its_dat y hymem) (And.intro (HY.out.1 y hymem) (And.intro hdr hlt)))
        have q1 : (i : Int) < (Y.length : Int) := by omega
        clear hc hy hdr hlt hymem
        obtain ⟨⟨k, s, A1, n1, c1⟩, d⟩ := y
        obtain ⟨ob, hob⟩ : ∃ ob, ob = wr.heap.size := ⟨_, rfl⟩
        have HS4 := Lib.hid (HS3.out.boxX ⟨k, s, A1, n1, c1⟩ ob hob)
        have HDA : Hid (DatI (wr.alloc (Obj.cells #[.string k, .int .i64 s, .slice A1 n1 c1] 44)) ⟨k, s, A1, n1, c1⟩ d) := Lib.hid (HD.out.1.keep ((Keep.refl _ wr).alloc _))
        clear HS3
        have b0 := HS4.out.blk.1.cell 0
        have b1 := HS4.out.blk.1.cell 1
        have b2 := HS4.out.blk.1.cell 2
        simp only [It.cells, List.getElem?_cons_zero, List.getElem?_cons_succ] at b0 b1 b2
        go_upto_region 7 with fail
        rw [← hob]
        clear d0 d1 d2 hob
        generalize wr.alloc (Obj.cells #[.string k, .int .i64 s, .slice A1 n1 c1] 44) = w4 at HS4 HDA b0 b1 b2 ⊢
        go_wp2_with fail
        refine (St.rec_put HS4.out ⟨k, s, A1, n1, c1⟩ d _ (encK (keyX (⟨k, s, A1, n1, c1⟩, d))) rfl rfl HDA.out (by have h1 := HD.out.2.1; have h2 := HDA.out.1; unfold mayK keyX at h1; simp only at h1 h2 ⊢; rw [h2]; exact h1)).mono ?_
        rintro e w5 ⟨A5, c5, rfl, hc5, hs5⟩
        obtain ⟨N, hN⟩ : ∃ N, N = itN ⟨k, s, A1, n1, c1⟩ := ⟨_, rfl⟩
        rw [← hN] at hs5 ⊢
        have HS5 := Lib.hid hs5
        have HN := Lib.hid hN
        clear hs5 hN hc5 b0 b1 b2 HDA
        have c0 := (HS5.out.mv 4 (by simp)).blk.1.cell 0
        simp only [formCells, List.getElem_cons_zero, List.getElem_cons_succ, List.getElem?_cons_zero, List.getElem?_cons_succ] at c0
        have hNl : N = (encK (keyX (⟨k, s, A1, n1, c1⟩, d))).length := by
          have h1 := HD.out.1.1
          rw [encK_len, HN.out]
          unfold itN lenK keyX
          simp only at h1 ⊢
          rw [h1]
        obtain ⟨b, hb⟩ : ∃ b, b = encK (keyX (⟨k, s, A1, n1, c1⟩, d)) := ⟨_, rfl⟩
        rw [← hb] at HS5 hNl
        have hdr := HD.out.2.2.1
        have hT := HT.out
        rw [hdr] at hT
        rw [sumK_cons, ← encK_len] at hT
        have hT1 := hT.1
        unfold writeL at hT1
        rw [← hb] at hT hT1
        have HNL := Lib.hid hNl
        have HTT := Lib.hid (And.intro hT1 hT.2)
        clear hb hNl hdr hT hT1
        go_wp2_with fail
        refine (St.store_append2 (HS5.out.mv 3 (by simp)) id A5 N c5 b (by have h1 := HTT.out.2.2.2; have h2 := HB.out.2.2.2.1; have h3 := HB.out.2.1; have h4 := HY.out.2.1; omega) HNL.out (fun G hG => own_app hG) HS5.out.own_rdv.2.2.2 (fun b2 hb2 => by
          have h1 := HTT.out.2.1
          rw [hb2] at h1
          injection h1 with h1
          subst h1
          have h2 := HTT.out.2.2.1
          omega)).mono ?_
        rintro e w6 ⟨rfl, hs6⟩
        obtain ⟨er, her⟩ : ∃ er, er = T.appendE id b := ⟨_, rfl⟩
        have hfa := find_append_same (b := b) HTT.out.2.1
        have hwa := (appendE_writes (S := T) (id := id) (b := b)).1
        obtain ⟨T', hT'⟩ : ∃ T', T' = T.append id b := ⟨_, rfl⟩
        have HT3 := HTT.out
        rw [← her, ← hT'] at HT3
        rw [← her, ← hT'] at hfa
        rw [← hT'] at hs6 hwa
        rw [← her]
        have HS6 : Hid (St w0 w6 (itsP (some ⟨ba, o, none⟩) c' Y :: storeP sb T' :: blkP fb 102 (formCells sb bud X.length ids.length bad x) :: itsP x.A x.c X :: ownP 3 1 (.slice x.A2 ids.length x.c2) ids.length (ints ids) :: l)) :=
          Lib.hid ((((hs6.mv 1 (by simp)).tail).mv 1 (by simp)).tail.swap)
        have HT4 := Lib.hid (And.intro HT3 (And.intro hfa hwa))
        clear her hT' HT3 hfa hwa hs6 HS5 c0
        by_cases he : er = 0
        · subst he
          go_wp2_with fail
          go_roundw
          case rel =>
            have h9 := HT4.out
            have h8 := h9.1.1
            simp only [if_true] at h8
            refine ⟨i + 1, T', bs ++ b, HD.out.2.2.2, by go_num, HS6, Lib.hid ⟨h8, h9.2.1 (by simp), ?_, ?_⟩⟩
            · rw [List.length_append]; omega
            · omega
          case measure => have := HD.out.2.2.2; simp [intOf]; omega
        · go_wp2_with fail
          go_ret
          have h9 := HT4.out.1.1
          rw [if_neg he] at h9
          subst h9
          refine ⟨rfl, X, by simp [he], ?_⟩
          simp only [he, if_false]
          have h8 := (HS6.out.tail.mv 3 (by simp))
          exact St.form_mk x ((h8.mv 3 (by simp)).mv 3 (by simp))
      · have hil : i = Y.length := by omega
        subst hil
        have hT := HT.out
        rw [List.drop_of_length_le (by rw [List.length_map]; exact Nat.le_refl _)] at hT
        have hrT : r = (T, 0) := by rw [← hT.1]; rfl
        subst hrT
        have HS7 : Hid (St w0 wr (ownP 3 1 (.slice x.A2 ids.length x.c2) ids.length (ints ids) :: storeP sb T :: blkP fb 102 (formCells sb bud X.length ids.length bad x) :: itsP x.A x.c X :: l)) := Lib.hid (HS3.out.tail.mv 3 (by simp))
        have hb7 := (HS7.out.mv 2 (by simp)).blk.1
        have c3 := hb7.cell 3
        simp only [formCells, List.getElem?_cons_zero, List.getElem?_cons_succ] at c3
        clear hT HS3 HT hlt hi q0 hb7
        go_upto_region 12 with fail
        go_wp2_with (
          at_builtin
          refine wpL_push_st rfl (.tmp 52) (.tmp 54) 37 rfl 3 (.int .i64 0) 1 8 Try.underlying37 infoIntF rfl (by decide) (.slice x.A2 ids.length x.c2) ids.length (ints ids) rfl HS7.out [.int .i64 id] rfl (by intro u hu; simp at hu; subst hu; rfl) _ rfl rfl (by have := HB.out.2.2.2.2.1; unfold maxLen; omega) (by have := HB.out.2.2.2.2.1; omega) ?_
          intro A7 c7 w7 hc7 hn7 hs7
          have hs7b : St w0 w7 (blkP fb 102 (formCells sb bud X.length ids.length bad x) :: ownP 3 1 (.slice A7 (ids.length + 1) c7) (ids.length + 1) (ints ids ++ [.int .i64 id]) :: storeP sb T :: itsP x.A x.c X :: l) := hs7.mv 2 (by simp)
          have f2 := hs7b.blk.1.free 2
          have c2 := hs7b.blk.1.cell 2
          have hs8 := hs7b.set 2 (.slice none 0 0)
          have f3 := hs8.blk.1.free 3
          have c3 := hs8.blk.1.cell 3
          have hs9 := hs8.set 3 (.slice A7 (ids.length + 1) c7)
          simp only [formCells, List.set_cons_zero, List.set_cons_succ, List.getElem?_cons_zero, List.getElem?_cons_succ] at c2 c3 hs9
          have HS9 := Lib.hid hs9
          clear hs7 hs7b hs8 hs9 hc7 hn7)
        go_ret
        refine ⟨rfl, [], rfl, ?_⟩
        have h1 := ((HS9.out.mv 3 (by simp)).tail.its_nil).swap
        have e : (ids ++ [id]).length = ids.length + 1 := by simp
        rw [← HID.out]
        simp only [if_true]
        refine St.form_mk (X := []) (ids := ids ++ [id]) ⟨none, 0, A7, c7⟩ ?_
        rw [e, ← ints_app]
        exact h1
  · have HNX := Lib.hid hnx
    clear hnx
    go_enter Try.func73, Try.ntmps73
    go_wp2_with fail
    refine (St.store_create_full HH.out.swap (by have := HNX.out; omega)).mono ?_
    rintro e w' ⟨rfl, rfl⟩
    go_wp2_with fail
    go_ret
    unfold WrPost
    have h2 := HB.out.2.2.2.2.2
    unfold wrS at h2
    rw [if_neg (by have := HNX.out; omega)] at h2
    subst h2
    exact ⟨rfl, X, by simp, HH.out⟩
end
end Go.Proofs.Ytkglkpcpgdeneaa
namespace Go.Proofs.Ytkglkpcpgdeneaa
open Go.RowKit
section
variable {P : Program} {ops : Array Oper} {md : Region.Mode} {T : World → World → Prop}

/-- The walk along a list of places; at those of N an operation may yield whatever V says. -/
def wpO (P : Program) (ops : Array Oper) (T : World → World → Prop) (Q : Exit → Act → World → Prop) (N : List Nat) : (World → Prop) → List (Nat × Oper) → Act → Prop
  | S, [], a => ∀ w, S w → Q .normal a w
  | S, (k, o) :: rest, a => (∃ u, givesG P ops T S o a u ∧ wpO P ops T Q N S rest (a.put o.dst u)) ∨
    (N.contains k = true ∧ Region.wanted o (yielded ops a.tmps) = true ∧ ∃ V : Value → World → Prop, (∀ v, Stays T (V v)) ∧ (∀ w, S w → gotAt P T o a w V) ∧ ∀ v, wpO P ops T Q N (fun w => S w ∧ V v w) rest (a.put o.dst v))
def lexO (md : Region.Mode) (ops : Array Oper) (N : List Nat) : List Nat → Array Bool → Bool
  | [], listed => (Region.ready md ops listed).isEmpty
  | k :: r, listed => (Region.ready md ops listed).contains k && Region.free md ops listed k && (!N.contains k || decide (Region.ready md ops listed = [k])) && lexO md ops N r (listed.setIfInBounds k true)
theorem heldG_order {Q : Exit → Act → World → Prop} {N : List Nat} (hsel : Region.noSelect ops = true) :
    ∀ (ro : List (Nat × Oper)) (S : World → Prop) (listed : Array Bool) (a : Act), (∀ p ∈ ro, ops[p.1]? = some p.2) →
    lexO md ops N (ro.map (·.1)) listed = true → wpO P ops T Q N S ro a → heldG P md ops T Q ro.length S listed a
  | [], S, listed, a, _, hB, h => ⟨by simpa [lexO] using hB, h⟩
  | (k, o) :: r, S, listed, a, hl, hB, h => by
    have h0 : ops[k]? = some o := hl (k, o) (List.mem_cons_self ..)
    simp only [List.map_cons, lexO, Bool.and_eq_true] at hB
    obtain ⟨⟨⟨hr, hf⟩, hN⟩, hB'⟩ := hB
    have hr' : k ∈ Region.ready md ops listed := by simpa using hr
    have go : ∀ S' v, wpO P ops T Q N S' r (a.put o.dst v) → heldG P md ops T Q r.length S' (listed.setIfInBounds k true) (a.put o.dst v) := fun S' v hw =>
      heldG_order hsel r S' _ _ (fun p hp => hl p (List.mem_cons_of_mem _ hp)) hB' hw
    rcases h with ⟨u, hy, hK⟩ | ⟨hc', hw, V, h2, h3, h4⟩
    · exact heldG_first h0 (Region.noSelect_spec hsel) r.length S listed a (Region.free_spec h0 hf) hr' hy (go S u hK)
    · rw [hc'] at hN
      have hN' : Region.ready md ops listed = [k] := by simpa using hN
      refine ⟨fun hh => (by rw [hh] at hr'; cases hr'), fun j hj => ?_⟩
      obtain rfl : j = k := by rw [hN'] at hj; simpa using hj
      exact ⟨o, h0, .inr ⟨hw, V, h2, h3, fun v => go _ v (h4 v)⟩⟩
theorem wp_region_O {id : Nat} {Q : Exit → Act → World → Prop} {a : Act} {w : World} {l : List Oper} (z : Oper) (order N : List Nat) (T : World → World → Prop) (S : World → Prop) (hm : P.follows .mixedOrders = true) (hs : Region.noSelect l.toArray = true)
    (hB : (lexO .any l.toArray N order (Array.replicate l.toArray.size false) && (order.all (fun i => Nat.blt i l.length)) && Nat.beq order.length l.length) = true) (hR : ∀ w, T w w) (hT : Stays T S) (hS : S w.drew)
    (h : wpO P l.toArray T Q N S (order.map fun i => (i, l.getD i z)) a) : (Code.region id l.toArray true).wp P Q a w := by
  simp only [Bool.and_eq_true] at hB
  obtain ⟨⟨hB, hb⟩, hn⟩ := hB
  refine wp_region_any hm (wpAny_of_G _ S _ _ _ hT hS hR ?_)
  have hn' : order.length = l.length := Nat.eq_of_beq_eq_true hn
  have := heldG_order (P := P) (md := .any) (T := T) (Q := Q) (N := N) hs (order.map fun i => (i, l.getD i z)) S (Array.replicate l.toArray.size false) a (fun p hp => by
    obtain ⟨i, hi, rfl⟩ := List.mem_map.1 hp
    have h1 : i < l.length := Nat.le_of_ble_eq_true (List.all_eq_true.1 hb i hi)
    simp [List.getD, h1]) (by
    rw [List.map_map, show ((fun p : Nat × Oper => p.1) ∘ fun i => (i, l.getD i z)) = (_root_.id : Nat → Nat) from rfl, List.map_id]
    exact hB) h
  rw [List.length_map, hn'] at this
  simpa using this
end
section
variable {P : Program} {ops : Array Oper} {Q : Exit → Act → World → Prop} {N : List Nat} {k : Nat} {S : World → Prop} {o : Oper} {rest : List (Nat × Oper)} {a : Act}
theorem wpO_nil {T : World → World → Prop} (h : ∀ w, S w → Q .normal a w) : wpO P ops T Q N S [] a := h
theorem wpO_skip {T : World → World → Prop} (hw : Region.wanted o (yielded ops a.tmps) = false) (hn : wpO P ops T Q N S rest (a.put o.dst undef)) : wpO P ops T Q N S ((k, o) :: rest) a :=
  .inl ⟨undef, .inl ⟨hw, rfl⟩, hn⟩
theorem wpO_val {v : Value} (hw : Region.wanted o (yielded ops a.tmps) = true) (h : ∀ w, S w → (execOp a.eval o).run P w = .ok (.value v) w) (hn : wpO P ops Anew Q N S rest (a.put o.dst v)) : wpO P ops Anew Q N S ((k, o) :: rest) a :=
  .inl ⟨v, .inr ⟨hw, fun w hS => by unfold gotAt; rw [h w hS]; exact ⟨Anew.refl w, rfl⟩⟩, hn⟩
theorem wpO_call {v : Value} {f : FuncId} {args : Array Value} (hw : Region.wanted o (yielded ops a.tmps) = true) (h : ∀ w, (execOp a.eval o).run P w = .ok (.enter f args) w) (hc : ∀ w, S w → Calls P f args w (fun e w'' => e = .returned v ∧ Anew w w''))
    (hn : wpO P ops Anew Q N S rest (a.put o.dst v)) : wpO P ops Anew Q N S ((k, o) :: rest) a :=
  .inl ⟨v, .inr ⟨hw, fun w hS => by unfold gotAt; rw [h w]; exact (hc w hS).mono fun e w' ⟨h1, h2⟩ => ⟨v, h1, h2, rfl⟩⟩, hn⟩
/-- A call that answers whatever V says. -/
theorem wpO_some {f : FuncId} {args : Array Value} (V : Value → World → Prop) (hN : N.contains k = true) (hw : Region.wanted o (yielded ops a.tmps) = true) (h : ∀ w, (execOp a.eval o).run P w = .ok (.enter f args) w) (hV : ∀ v, Stays Anew (V v))
    (hc : ∀ w, S w → Calls P f args w (fun e w'' => ∃ v, e = .returned v ∧ Anew w w'' ∧ V v w''))
    (hn : ∀ v, wpO P ops Anew Q N (fun w => S w ∧ V v w) rest (a.put o.dst v)) : wpO P ops Anew Q N S ((k, o) :: rest) a :=
  .inr ⟨hN, hw, V, hV, fun w hS => by unfold gotAt; rw [h w]; exact hc w hS, hn⟩
end
end Go.Proofs.Ytkglkpcpgdeneaa
namespace Go.Proofs.Ytkglkpcpgdeneaa
open Go.RowKit
section
variable {P : Program} {ops : Array Oper} {md : Region.Mode} {T : World → World → Prop} {D : World → Prop}

def givesM (P : Program) (ops : Array Oper) (D : World → Prop) (o : Oper) (a : Act) (u : Value) : Prop :=
  (Region.wanted o (yielded ops a.tmps) = false ∧ u = undef) ∨
  (Region.wanted o (yielded ops a.tmps) = true ∧ ∀ w, D w → (execOp a.eval o).run P w = .ok (.value u) w)
def stepM (P : Program) (ops : Array Oper) (T : World → World → Prop) (D S : World → Prop) (o : Oper) (a : Act) (K : (World → Prop) → Act → Prop) : Prop :=
  (∃ u, givesM P ops D o a u ∧ K S (a.put o.dst u)) ∨
  (Region.wanted o (yielded ops a.tmps) = true ∧ ∃ V : Value → World → Prop, (∀ w, D w → S w → gotAt P T o a w V) ∧ ∀ v, K (V v) (a.put o.dst v))
theorem givesM.of_same {o : Oper} {u : Value} {a a' : Act} (hy : givesM P ops D o a u) (he : execOp a'.eval o = execOp a.eval o)
    (hw : Region.wanted o (yielded ops a'.tmps) = Region.wanted o (yielded ops a.tmps)) : givesM P ops D o a' u := by
  unfold givesM at *
  rw [he, hw]
  exact hy
theorem stepM_of_same {S : World → Prop} {o : Oper} {a a' : Act} {K : (World → Prop) → Act → Prop} (he : execOp a'.eval o = execOp a.eval o)
    (hw : Region.wanted o (yielded ops a'.tmps) = Region.wanted o (yielded ops a.tmps)) (hs : stepM P ops T D S o a K) {K' : (World → Prop) → Act → Prop} (hk : ∀ S' u, K S' (a.put o.dst u) → K' S' (a'.put o.dst u)) : stepM P ops T D S o a' K' := by
  rcases hs with ⟨u, h1, h2⟩ | ⟨h1, V, h3, h4⟩
  · exact .inl ⟨u, h1.of_same he hw, hk _ _ h2⟩
  · refine .inr ⟨by rw [hw]; exact h1, V, ?_, fun v => hk _ _ (h4 v)⟩
    unfold gotAt at *
    rw [he]
    exact h3
def heldM (P : Program) (md : Region.Mode) (ops : Array Oper) (T : World → World → Prop) (D : World → Prop) (Q : Exit → Act → World → Prop) : Nat → (World → Prop) → Array Bool → Act → Prop
  | 0, S, listed, a => Region.ready md ops listed = [] ∧ ∀ w, D w → S w → Q .normal a w
  | fuel + 1, S, listed, a => (Region.ready md ops listed = [] → ∀ w, D w → S w → Q .normal a w) ∧
    ∀ i ∈ Region.ready md ops listed, ∃ o, ops[i]? = some o ∧ stepM P ops T D S o a fun S' a' => heldM P md ops T D Q fuel S' (listed.setIfInBounds i true) a'
theorem wpAny_of_M {Q : Exit → Act → World → Prop} (hT : Stays T D) : ∀ (fuel : Nat) (S : World → Prop) (listed : Array Bool) (a : Act) (w : World), D w → S w → heldM P md ops T D Q fuel S listed a → wpAny P md ops Q fuel listed a w
  | 0, _, _, _, _, hD, hS, h => ⟨h.1, h.2 _ hD hS⟩
  | fuel + 1, S, listed, a, w, hD, hS, h => ⟨fun h0 => h.1 h0 _ hD hS, fun i hi => by
      obtain ⟨o, ho, hst⟩ := h.2 i hi
      unfold Go.wpOp
      simp only [ho]
      rcases hst with ⟨u, ⟨h1, rfl⟩ | ⟨h1, h2⟩, h3⟩ | ⟨h1, V, h3, h4⟩
      · simp only [h1, Bool.false_eq_true, if_false]
        exact wpAny_of_M hT fuel _ _ _ w hD hS h3
      · simp only [h1, if_true]
        have hg : gotAt P (fun w w' => w' = w) o a w (fun v _ => v = u) := by unfold gotAt; rw [h2 w hD]; exact ⟨rfl, rfl⟩
        refine .inl (got_wp hg fun v w' ht hv => ?_)
        subst hv ht
        exact wpAny_of_M hT fuel _ _ _ _ hD hS h3
      · simp only [h1, if_true]
        refine .inl (got_wp (h3 w hD hS) fun v w' ht hv => ?_)
        exact wpAny_of_M hT fuel _ _ _ w' (hT w w' hD ht) hv (h4 v)⟩
theorem heldM_first {Q : Exit → Act → World → Prop} {i : Nat} {oi : Oper} {u : Value} (hi : ops[i]? = some oi) (hsel : ∀ (j : Nat) (o : Oper) cs b, ops[j]? = some o → o.op ≠ .select cs b) :
    ∀ (fuel : Nat) (S : World → Prop) (listed : Array Bool) (a : Act),
      (∀ j oj, ops[j]? = some oj → j ≠ i → listed.getD j true = false → (∀ e ∈ oj.after, Region.binds md e = true → e.on ≠ i) → oi.apart ops oj = true) →
      i ∈ Region.ready md ops listed → givesM P ops D oi a u →
      heldM P md ops T D Q fuel S (listed.setIfInBounds i true) (a.put oi.dst u) → heldM P md ops T D Q (fuel + 1) S listed a := by
  intro fuel
  induction fuel with
  | zero =>
    intro S listed a _ hr hy H
    refine ⟨fun h => (by rw [h] at hr; cases hr), fun j hj => ?_⟩
    by_cases hji : j = i
    · subst hji; exact ⟨oi, hi, .inl ⟨u, hy, H⟩⟩
    · have := ready_mono hj hji
      rw [H.1] at this
      cases this
  | succ fuel ih =>
    intro S listed a hfree hr hy H
    refine ⟨fun h => (by rw [h] at hr; cases hr), fun j hj => ?_⟩
    by_cases hji : j = i
    · subst hji; exact ⟨oi, hi, .inl ⟨u, hy, H⟩⟩
    · obtain ⟨oj, hoj, hst⟩ := H.2 j (ready_mono hj hji)
      obtain ⟨hjun, oj', hoj', hall⟩ := mem_ready.1 hj
      obtain rfl : oj' = oj := Option.some.inj (hoj'.symm.trans hoj)
      have hnot : ∀ e ∈ oj'.after, Region.binds md e = true → e.on ≠ i := fun e he hb heq => by
        have h1 := hall e he hb
        rw [heq, getD_both (mem_ready.1 hr).1] at h1
        cases h1
      have hap := hfree j oj' hoj hji hjun hnot
      obtain ⟨h1, h2, h3⟩ := Oper.apart_spec hap
      have hsi : ∀ cs b, oi.op ≠ .select cs b := fun cs b => hsel i oi cs b hi
      have hsj : ∀ cs b, oj'.op ≠ .select cs b := fun cs b => hsel j oj' cs b hoj
      have hfree' : ∀ k ok, ops[k]? = some ok → k ≠ i → (listed.setIfInBounds j true).getD k true = false →
          (∀ e ∈ ok.after, Region.binds md e = true → e.on ≠ i) → oi.apart ops ok = true := fun k ok hk hki hun hno => by
        refine hfree k ok hk hki ?_ hno
        by_cases hjk : j = k
        · subst hjk; exact hjun
        · rw [getD_set_ne true hjk] at hun; exact hun
      refine ⟨oj', hoj, stepM_of_same (execOp_put oj' hsj a oi.dst u h1).symm (wanted_put oj' a oi.dst u h1).symm hst fun S' v hK => ?_⟩
      refine ih S' (listed.setIfInBounds j true) (a.put oj'.dst v) hfree' (ready_mono hr (Ne.symm hji)) (hy.of_same (execOp_put oi hsi a oj'.dst v h3) (wanted_put oi a oj'.dst v h3)) ?_
      rw [Array.setIfInBounds_comm _ _ hji, ← Act.put_comm a u v h2]
      exact hK
/-- The walk along a list of places. -/
def wpM (P : Program) (ops : Array Oper) (T : World → World → Prop) (D : World → Prop) (Q : Exit → Act → World → Prop) (N : List Nat) : (World → Prop) → List (Nat × Oper) → Act → Prop
  | S, [], a => ∀ w, D w → S w → Q .normal a w
  | S, (k, o) :: rest, a => (∃ u, givesM P ops D o a u ∧ wpM P ops T D Q N S rest (a.put o.dst u)) ∨
    (N.contains k = true ∧ Region.wanted o (yielded ops a.tmps) = true ∧ ∃ V : Value → World → Prop, (∀ w, D w → S w → gotAt P T o a w V) ∧ ∀ v, wpM P ops T D Q N (V v) rest (a.put o.dst v))
theorem heldM_order {Q : Exit → Act → World → Prop} {N : List Nat} (hsel : Region.noSelect ops = true) :
    ∀ (ro : List (Nat × Oper)) (S : World → Prop) (listed : Array Bool) (a : Act), (∀ p ∈ ro, ops[p.1]? = some p.2) →
    lexO md ops N (ro.map (·.1)) listed = true → wpM P ops T D Q N S ro a → heldM P md ops T D Q ro.length S listed a
  | [], S, listed, a, _, hB, h => ⟨by simpa [lexO] using hB, h⟩
  | (k, o) :: r, S, listed, a, hl, hB, h => by
    have h0 : ops[k]? = some o := hl (k, o) (List.mem_cons_self ..)
    simp only [List.map_cons, lexO, Bool.and_eq_true] at hB
    obtain ⟨⟨⟨hr, hf⟩, hN⟩, hB'⟩ := hB
    have hr' : k ∈ Region.ready md ops listed := by simpa using hr
    have go : ∀ S' v, wpM P ops T D Q N S' r (a.put o.dst v) → heldM P md ops T D Q r.length S' (listed.setIfInBounds k true) (a.put o.dst v) := fun S' v hw =>
      heldM_order hsel r S' _ _ (fun p hp => hl p (List.mem_cons_of_mem _ hp)) hB' hw
    rcases h with ⟨u, hy, hK⟩ | ⟨hc', hw, V, h3, h4⟩
    · exact heldM_first h0 (Region.noSelect_spec hsel) r.length S listed a (Region.free_spec h0 hf) hr' hy (go S u hK)
    · rw [hc'] at hN
      have hN' : Region.ready md ops listed = [k] := by simpa using hN
      refine ⟨fun hh => (by rw [hh] at hr'; cases hr'), fun j hj => ?_⟩
      obtain rfl : j = k := by rw [hN'] at hj; simpa using hj
      exact ⟨o, h0, .inr ⟨hw, V, h3, fun v => go _ v (h4 v)⟩⟩
theorem wp_region_M {id : Nat} {Q : Exit → Act → World → Prop} {a : Act} {w : World} {l : List Oper} (z : Oper) (order N : List Nat) (T : World → World → Prop) (D S : World → Prop) (hm : P.follows .mixedOrders = true) (hs : Region.noSelect l.toArray = true)
    (hB : (lexO .any l.toArray N order (Array.replicate l.toArray.size false) && (order.all (fun i => Nat.blt i l.length)) && Nat.beq order.length l.length) = true) (hT : Stays T D) (hD : D w.drew) (hS : S w.drew)
    (h : wpM P l.toArray T D Q N S (order.map fun i => (i, l.getD i z)) a) : (Code.region id l.toArray true).wp P Q a w := by
  simp only [Bool.and_eq_true] at hB
  obtain ⟨⟨hB, hb⟩, hn⟩ := hB
  refine wp_region_any hm (wpAny_of_M hT _ S _ _ _ hD hS ?_)
  have hn' : order.length = l.length := Nat.eq_of_beq_eq_true hn
  have := heldM_order (P := P) (md := .any) (T := T) (D := D) (Q := Q) (N := N) hs (order.map fun i => (i, l.getD i z)) S (Array.replicate l.toArray.size false) a (fun p hp => by
    obtain ⟨i, hi, rfl⟩ := List.mem_map.1 hp
    have h1 : i < l.length := Nat.le_of_ble_eq_true (List.all_eq_true.1 hb i hi)
    simp [List.getD, h1]) (by
    rw [List.map_map, show ((fun p : Nat × Oper => p.1) ∘ fun i => (i, l.getD i z)) = (_root_.id : Nat → Nat) from rfl, List.map_id]
    exact hB) h
  rw [List.length_map, hn'] at this
  simpa using this
end
section
variable {P : Program} {ops : Array Oper} {Q : Exit → Act → World → Prop} {T : World → World → Prop} {D : World → Prop} {N : List Nat} {k : Nat} {S : World → Prop} {o : Oper} {rest : List (Nat × Oper)} {a : Act}
theorem wpM_nil (h : ∀ w, D w → S w → Q .normal a w) : wpM P ops T D Q N S [] a := h
theorem wpM_skip (hw : Region.wanted o (yielded ops a.tmps) = false) (hn : wpM P ops T D Q N S rest (a.put o.dst undef)) : wpM P ops T D Q N S ((k, o) :: rest) a :=
  .inl ⟨undef, .inl ⟨hw, rfl⟩, hn⟩
theorem wpM_val {v : Value} (hw : Region.wanted o (yielded ops a.tmps) = true) (h : ∀ w, D w → (execOp a.eval o).run P w = .ok (.value v) w) (hn : wpM P ops T D Q N S rest (a.put o.dst v)) : wpM P ops T D Q N S ((k, o) :: rest) a :=
  .inl ⟨v, .inr ⟨hw, h⟩, hn⟩
/-- Any operation: V is what it leads to. -/
theorem wpM_move (V : Value → World → Prop) (hN : N.contains k = true) (hw : Region.wanted o (yielded ops a.tmps) = true) (hc : ∀ w, D w → S w → gotAt P T o a w V)
    (hn : ∀ v, wpM P ops T D Q N (V v) rest (a.put o.dst v)) : wpM P ops T D Q N S ((k, o) :: rest) a :=
  .inr ⟨hN, hw, V, hc, hn⟩
end
end Go.Proofs.Ytkglkpcpgdeneaa
namespace Go.Proofs.Ytkglkpcpgdeneaa
open Go.RowKit
section
variable {P : Program} {ops : Array Oper} {md : Region.Mode} {T : World → World → Prop}

def heldT (P : Program) (md : Region.Mode) (ops : Array Oper) (T : World → World → Prop) (n : Nat) (L : Array Bool → Prop) (Lq : Act → World → Prop) : Nat → (World → Prop) → Array Bool → Act → Prop
  | 0, S, listed, a => L listed ∧ ∀ w, S w → Lq a w
  | fuel + 1, S, listed, a => Region.ready md ops listed ≠ [] ∧
    ∀ i ∈ Region.ready md ops listed, i < n ∧ ∃ o, ops[i]? = some o ∧ stepG P ops T S o a fun S' a' => heldT P md ops T n L Lq fuel S' (listed.setIfInBounds i true) a'
theorem wpAny_of_T {n g : Nat} {L : Array Bool → Prop} {Lq : Act → World → Prop} {Q : Exit → Act → World → Prop} (hL : ∀ listed a w, L listed → Lq a w → wpAny P md ops Q g listed a w) :
    ∀ (fuel : Nat) (S : World → Prop) (listed : Array Bool) (a : Act) (w : World), Stays T S → S w → (∀ w, T w w) → heldT P md ops T n L Lq fuel S listed a → wpAny P md ops Q (fuel + g) listed a w
  | 0, _, _, _, _, _, hS, _, h => by rw [Nat.zero_add]; exact hL _ _ _ h.1 (h.2 _ hS)
  | fuel + 1, S, listed, a, w, hT, hS, hR, h => by
    rw [show fuel + 1 + g = (fuel + g) + 1 by omega]
    exact ⟨fun h0 => absurd h0 h.1, fun i hi => by
      obtain ⟨_, o, ho, hst⟩ := h.2 i hi
      unfold Go.wpOp
      simp only [ho]
      rcases hst with ⟨u, ⟨h1, rfl⟩ | ⟨h1, h2⟩, h3⟩ | ⟨h1, V, h2, h3, h4⟩
      · simp only [h1, Bool.false_eq_true, if_false]
        exact wpAny_of_T hL fuel _ _ _ w hT hS hR h3
      · simp only [h1, if_true]
        refine .inl (got_wp (h2 w hS) fun v w' ht hv => ?_)
        subst hv
        exact wpAny_of_T hL fuel _ _ _ w' hT (hT w w' hS ht) hR h3
      · simp only [h1, if_true]
        refine .inl (got_wp (h3 w hS) fun v w' ht hv => ?_)
        exact wpAny_of_T hL fuel _ _ _ w' (fun w w' hw ht => ⟨hT w w' hw.1 ht, h2 v w w' hw.2 ht⟩) ⟨hT w w' hS ht, hv⟩ hR (h4 v)⟩
theorem heldT_first {n : Nat} {L : Array Bool → Prop} {Lq : Act → World → Prop} {i : Nat} {oi : Oper} {u : Value} (hi : ops[i]? = some oi) (hsel : ∀ (j : Nat) (o : Oper) cs b, ops[j]? = some o → o.op ≠ .select cs b)
    (hs : Region.sinkB md ops n = true) (hc : Region.chainB md ops n = true) (hn : n < ops.size) (hin : i < n) (hdone : ∀ listed, L listed → ∀ j ∈ Region.ready md ops listed, n ≤ j) :
    ∀ (fuel : Nat) (S : World → Prop) (listed : Array Bool) (a : Act), HeadInv md ops n listed →
      (∀ j oj, ops[j]? = some oj → j ≠ i → listed.getD j true = false → (∀ e ∈ oj.after, Region.binds md e = true → e.on ≠ i) → oi.apart ops oj = true) →
      i ∈ Region.ready md ops listed → givesG P ops T S oi a u →
      heldT P md ops T n L Lq fuel S (listed.setIfInBounds i true) (a.put oi.dst u) → heldT P md ops T n L Lq (fuel + 1) S listed a := by
  intro fuel
  induction fuel with
  | zero =>
    intro S listed a inv _ hr hy H
    have hun := (mem_ready.1 hr).1
    refine ⟨fun h => (by rw [h] at hr; cases hr), fun j hj => ?_⟩
    have hjn : j < n := by
      rcases Nat.lt_or_ge j n with h | h
      · exact h
      · exact absurd hj (tail_waits hs hc hn inv _ i rfl hin hun j h)
    refine ⟨hjn, ?_⟩
    by_cases hji : j = i
    · subst hji; exact ⟨oi, hi, .inl ⟨u, hy, H⟩⟩
    · have := hdone _ H.1 j (ready_mono hj hji)
      omega
  | succ fuel ih =>
    intro S listed a inv hfree hr hy H
    have hun := (mem_ready.1 hr).1
    refine ⟨fun h => (by rw [h] at hr; cases hr), fun j hj => ?_⟩
    have hjn : j < n := by
      rcases Nat.lt_or_ge j n with h | h
      · exact h
      · exact absurd hj (tail_waits hs hc hn inv _ i rfl hin hun j h)
    refine ⟨hjn, ?_⟩
    by_cases hji : j = i
    · subst hji; exact ⟨oi, hi, .inl ⟨u, hy, H⟩⟩
    · obtain ⟨_, oj, hoj, hst⟩ := H.2 j (ready_mono hj hji)
      obtain ⟨hjun, oj', hoj', hall⟩ := mem_ready.1 hj
      obtain rfl : oj' = oj := Option.some.inj (hoj'.symm.trans hoj)
      have hnot : ∀ e ∈ oj'.after, Region.binds md e = true → e.on ≠ i := fun e he hb heq => by
        have h1 := hall e he hb
        rw [heq, getD_both hun] at h1
        cases h1
      have hap := hfree j oj' hoj hji hjun hnot
      obtain ⟨h1, h2, h3⟩ := Oper.apart_spec hap
      have hsi : ∀ cs b, oi.op ≠ .select cs b := fun cs b => hsel i oi cs b hi
      have hsj : ∀ cs b, oj'.op ≠ .select cs b := fun cs b => hsel j oj' cs b hoj
      have hfree' : ∀ k ok, ops[k]? = some ok → k ≠ i → (listed.setIfInBounds j true).getD k true = false →
          (∀ e ∈ ok.after, Region.binds md e = true → e.on ≠ i) → oi.apart ops ok = true := fun k ok hk hki hun hno => by
        refine hfree k ok hk hki ?_ hno
        by_cases hjk : j = k
        · subst hjk; exact hjun
        · rw [getD_set_ne true hjk] at hun; exact hun
      refine ⟨oj', hoj, stepG_of_same (execOp_put oj' hsj a oi.dst u h1).symm (wanted_put oj' a oi.dst u h1).symm hst fun S' v hS' hK => ?_⟩
      refine ih S' (listed.setIfInBounds j true) (a.put oj'.dst v) (inv.set hj hjn) hfree' (ready_mono hr (Ne.symm hji)) ((hy.mono hS').of_same (execOp_put oi hsi a oj'.dst v h3) (wanted_put oi a oj'.dst v h3)) ?_
      rw [Array.setIfInBounds_comm _ _ hji, ← Act.put_comm a u v h2]
      exact hK

/-- The walk of the head in the text's order; then Lq. -/
def wpT (P : Program) (ops : Array Oper) (T : World → World → Prop) (Lq : Act → World → Prop) (N : List Nat) : Nat → (World → Prop) → List Oper → Act → Prop
  | _, S, [], a => ∀ w, S w → Lq a w
  | k, S, o :: rest, a => (∃ u, givesG P ops T S o a u ∧ wpT P ops T Lq N (k + 1) S rest (a.put o.dst u)) ∨
    (N.contains k = true ∧ Region.wanted o (yielded ops a.tmps) = true ∧ ∃ V : Value → World → Prop, (∀ v, Stays T (V v)) ∧ (∀ w, S w → gotAt P T o a w V) ∧ ∀ v, wpT P ops T Lq N (k + 1) (fun w => S w ∧ V v w) rest (a.put o.dst v))
/-- f operations from k on can be walked in the text's order; at the places of N nothing else is ready. -/
def lexT (md : Region.Mode) (ops : Array Oper) (N : List Nat) (g : Nat) : Nat → Nat → Array Bool → Bool
  | 0, k, listed => Region.seqB md ops g k listed
  | f + 1, k, listed => (Region.ready md ops listed).contains k && Region.free md ops listed k && (!N.contains k || decide (Region.ready md ops listed = [k])) && lexT md ops N g f (k + 1) (listed.setIfInBounds k true)
def lexTB (md : Region.Mode) (ops : Array Oper) (N : List Nat) (n : Nat) : Bool :=
  Region.noSelect ops && decide (n < ops.size) && Region.sinkB md ops n && Region.chainB md ops n && lexT md ops N (ops.size - n) n 0 (Array.replicate ops.size false)

theorem heldT_lex {n g : Nat} {Lq : Act → World → Prop} {N : List Nat} (hsel : Region.noSelect ops = true) (hs : Region.sinkB md ops n = true) (hc : Region.chainB md ops n = true) (hn : n < ops.size) :
    ∀ (l : List Oper) (k : Nat) (S : World → Prop) (listed : Array Bool) (a : Act), (∀ j, j < l.length → l[j]? = ops[k + j]?) → k + l.length = n → HeadInv md ops n listed →
    lexT md ops N g l.length k listed = true → wpT P ops T Lq N k S l a → heldT P md ops T n (fun listed' => Region.seqB md ops g n listed' = true) Lq l.length S listed a
  | [], k, S, listed, a, _, hk, _, hB, h => by
    have : k = n := by simpa using hk
    subst this
    exact ⟨by simpa [lexT] using hB, h⟩
  | o :: l, k, S, listed, a, hl, hk, inv, hB, h => by
    have h0 : ops[k]? = some o := by simpa using (hl 0 (by simp)).symm
    simp only [List.length_cons, lexT, Bool.and_eq_true] at hB
    obtain ⟨⟨⟨hr, hf⟩, hN⟩, hB'⟩ := hB
    have hkn : k < n := by simp only [List.length_cons] at hk; omega
    have hr' : k ∈ Region.ready md ops listed := by simpa using hr
    have go : ∀ S' v, wpT P ops T Lq N (k + 1) S' l (a.put o.dst v) → heldT P md ops T n (fun listed' => Region.seqB md ops g n listed' = true) Lq l.length S' (listed.setIfInBounds k true) (a.put o.dst v) := fun S' v hw =>
      heldT_lex hsel hs hc hn l (k + 1) S' _ _ (fun j hj => by have := hl (j + 1) (by simp; omega); simpa [Nat.add_assoc, Nat.add_comm 1 j] using this) (by simp only [List.length_cons] at hk; omega) (inv.set hr' hkn) hB' hw
    rcases h with ⟨u, hy, hK⟩ | ⟨hc', hw, V, h2, h3, h4⟩
    · exact heldT_first h0 (Region.noSelect_spec hsel) hs hc hn hkn (fun listed' hL => seqB_ready hL) l.length S listed a inv (Region.free_spec h0 hf) hr' hy (go S u hK)
    · rw [hc'] at hN
      have hN' : Region.ready md ops listed = [k] := by simpa using hN
      refine ⟨fun hh => (by rw [hh] at hr'; cases hr'), fun j hj => ?_⟩
      obtain rfl : j = k := by rw [hN'] at hj; simpa using hj
      exact ⟨hkn, o, h0, .inr ⟨hw, V, h2, h3, fun v => go _ v (h4 v)⟩⟩
theorem wp_region_T {id : Nat} {Q : Exit → Act → World → Prop} {a : Act} {w : World} {l : List Oper} (n : Nat) (N : List Nat) (T : World → World → Prop) (S : World → Prop) (hm : P.follows .mixedOrders = true) (hB : lexTB .any l.toArray N n = true)
    (hR : ∀ w, T w w) (hT : Stays T S) (hS : S w.drew) (h : wpT P l.toArray T (fun a' w' => wpList P l.toArray Q (l.drop n) a' w') N 0 S (l.take n) a) : (Code.region id l.toArray true).wp P Q a w := by
  simp only [lexTB, Bool.and_eq_true, decide_eq_true_eq] at hB
  obtain ⟨⟨⟨⟨hsel, hn⟩, hs⟩, hc⟩, hlex⟩ := hB
  have hn' : n < l.length := by simpa using hn
  have htl : (l.take n).length = n := by simp; omega
  have hdl : (l.drop n).length = l.toArray.size - n := by simp
  have inv0 : HeadInv .any l.toArray n (Array.replicate l.toArray.size false) :=
    ⟨by simp, fun j oj _ hl => (by rw [getD_replicate_false] at hl; cases hl), fun t _ ht => getD_in (by simpa using ht) (getD_replicate_false _ _)⟩
  have H := heldT_lex (md := .any) (g := l.toArray.size - n) hsel hs hc hn (l.take n) 0 S _ a (fun j hj => by
    have hj' : j < n := by rw [htl] at hj; exact hj
    simp [hj']) (by simpa using htl) inv0 (by rw [htl]; exact hlex) h
  refine wp_region_any hm ?_
  have := wpAny_of_T (Q := Q) (g := l.toArray.size - n) (fun listed a' w' hL hq => by
    have := wpAny_of_seq (md := .any) (Q' := Q) (l.drop n) n listed a' w' (fun j => by simp [List.getElem?_drop]) (by rw [hdl]; exact hL) hq
    rwa [hdl] at this) _ _ _ _ _ hT hS hR H
  rw [htl, show n + (l.toArray.size - n) = l.toArray.size by omega] at this
  exact this
end
section
variable {P : Program} {ops : Array Oper} {Lq : Act → World → Prop} {N : List Nat} {k : Nat} {S : World → Prop} {o : Oper} {rest : List Oper} {a : Act}
theorem wpT_nil {T : World → World → Prop} (h : ∀ w, S w → Lq a w) : wpT P ops T Lq N k S [] a := h
theorem wpT_skip {T : World → World → Prop} (hw : Region.wanted o (yielded ops a.tmps) = false) (hn : wpT P ops T Lq N (k + 1) S rest (a.put o.dst undef)) : wpT P ops T Lq N k S (o :: rest) a :=
  .inl ⟨undef, .inl ⟨hw, rfl⟩, hn⟩
theorem wpT_val {v : Value} (hw : Region.wanted o (yielded ops a.tmps) = true) (h : ∀ w, S w → (execOp a.eval o).run P w = .ok (.value v) w) (hn : wpT P ops Anew Lq N (k + 1) S rest (a.put o.dst v)) : wpT P ops Anew Lq N k S (o :: rest) a :=
  .inl ⟨v, .inr ⟨hw, fun w hS => by unfold gotAt; rw [h w hS]; exact ⟨Anew.refl w, rfl⟩⟩, hn⟩
theorem wpT_call {v : Value} {f : FuncId} {args : Array Value} (hw : Region.wanted o (yielded ops a.tmps) = true) (h : ∀ w, (execOp a.eval o).run P w = .ok (.enter f args) w) (hc : ∀ w, S w → Calls P f args w (fun e w'' => e = .returned v ∧ Anew w w''))
    (hn : wpT P ops Anew Lq N (k + 1) S rest (a.put o.dst v)) : wpT P ops Anew Lq N k S (o :: rest) a :=
  .inl ⟨v, .inr ⟨hw, fun w hS => by unfold gotAt; rw [h w]; exact (hc w hS).mono fun e w' ⟨h1, h2⟩ => ⟨v, h1, h2, rfl⟩⟩, hn⟩
/-- A call that answers whatever V says. -/
theorem wpT_some {f : FuncId} {args : Array Value} (V : Value → World → Prop) (hN : N.contains k = true) (hw : Region.wanted o (yielded ops a.tmps) = true) (h : ∀ w, (execOp a.eval o).run P w = .ok (.enter f args) w) (hV : ∀ v, Stays Anew (V v))
    (hc : ∀ w, S w → Calls P f args w (fun e w'' => ∃ v, e = .returned v ∧ Anew w w'' ∧ V v w''))
    (hn : ∀ v, wpT P ops Anew Lq N (k + 1) (fun w => S w ∧ V v w) rest (a.put o.dst v)) : wpT P ops Anew Lq N k S (o :: rest) a :=
  .inr ⟨hN, hw, V, hV, fun w hS => by unfold gotAt; rw [h w]; exact hc w hS, hn⟩
/-- An operation that makes something new. -/
theorem wpT_make (V : Value → World → Prop) (hN : N.contains k = true) (hw : Region.wanted o (yielded ops a.tmps) = true) (hV : ∀ v, Stays Anew (V v)) (hc : ∀ w, S w → ∃ v w', (execOp a.eval o).run P w = .ok (.value v) w' ∧ Anew w w' ∧ V v w')
    (hn : ∀ v, wpT P ops Anew Lq N (k + 1) (fun w => S w ∧ V v w) rest (a.put o.dst v)) : wpT P ops Anew Lq N k S (o :: rest) a :=
  .inr ⟨hN, hw, V, hV, fun w hS => by obtain ⟨v, w', h1, h2, h3⟩ := hc w hS; unfold gotAt; rw [h1]; exact ⟨h2, h3⟩, hn⟩
end
end Go.Proofs.Ytkglkpcpgdeneaa
namespace Go.Proofs.Ytkglkpcpgdeneaa
open Go.RowKit
section
variable {P : Program} {ops : Array Oper} {md : Region.Mode} {T : World → World → Prop} {D : World → Prop}

def heldN (P : Program) (md : Region.Mode) (ops : Array Oper) (T : World → World → Prop) (D : World → Prop) (n : Nat) (L : Array Bool → Prop) (Lq : Act → World → Prop) : Nat → (World → Prop) → Array Bool → Act → Prop
  | 0, S, listed, a => L listed ∧ ∀ w, D w → S w → Lq a w
  | fuel + 1, S, listed, a => Region.ready md ops listed ≠ [] ∧
    ∀ i ∈ Region.ready md ops listed, i < n ∧ ∃ o, ops[i]? = some o ∧ stepM P ops T D S o a fun S' a' => heldN P md ops T D n L Lq fuel S' (listed.setIfInBounds i true) a'
theorem wpAny_of_N {n g : Nat} {L : Array Bool → Prop} {Lq : Act → World → Prop} {Q : Exit → Act → World → Prop} (hT : Stays T D) (hL : ∀ listed a w, L listed → Lq a w → wpAny P md ops Q g listed a w) :
    ∀ (fuel : Nat) (S : World → Prop) (listed : Array Bool) (a : Act) (w : World), D w → S w → heldN P md ops T D n L Lq fuel S listed a → wpAny P md ops Q (fuel + g) listed a w
  | 0, _, _, _, _, hD, hS, h => by rw [Nat.zero_add]; exact hL _ _ _ h.1 (h.2 _ hD hS)
  | fuel + 1, S, listed, a, w, hD, hS, h => by
    rw [show fuel + 1 + g = (fuel + g) + 1 by omega]
    exact ⟨fun h0 => absurd h0 h.1, fun i hi => by
      obtain ⟨_, o, ho, hst⟩ := h.2 i hi
      unfold Go.wpOp
      simp only [ho]
      rcases hst with ⟨u, ⟨h1, rfl⟩ | ⟨h1, h2⟩, h3⟩ | ⟨h1, V, h3, h4⟩
      · simp only [h1, Bool.false_eq_true, if_false]
        exact wpAny_of_N hT hL fuel _ _ _ w hD hS h3
      · simp only [h1, if_true]
        have hg : gotAt P (fun w w' => w' = w) o a w (fun v _ => v = u) := by unfold gotAt; rw [h2 w hD]; exact ⟨rfl, rfl⟩
        refine .inl (got_wp hg fun v w' ht hv => ?_)
        subst hv ht
        exact wpAny_of_N hT hL fuel _ _ _ _ hD hS h3
      · simp only [h1, if_true]
        refine .inl (got_wp (h3 w hD hS) fun v w' ht hv => ?_)
        exact wpAny_of_N hT hL fuel _ _ _ w' (hT w w' hD ht) hv (h4 v)⟩
theorem heldN_first {n : Nat} {L : Array Bool → Prop} {Lq : Act → World → Prop} {i : Nat} {oi : Oper} {u : Value} (hi : ops[i]? = some oi) (hsel : ∀ (j : Nat) (o : Oper) cs b, ops[j]? = some o → o.op ≠ .select cs b)
    (hs : Region.sinkB md ops n = true) (hc : Region.chainB md ops n = true) (hn : n < ops.size) (hin : i < n) (hdone : ∀ listed, L listed → ∀ j ∈ Region.ready md ops listed, n ≤ j) :
    ∀ (fuel : Nat) (S : World → Prop) (listed : Array Bool) (a : Act), HeadInv md ops n listed →
      (∀ j oj, ops[j]? = some oj → j ≠ i → listed.getD j true = false → (∀ e ∈ oj.after, Region.binds md e = true → e.on ≠ i) → oi.apart ops oj = true) →
      i ∈ Region.ready md ops listed → givesM P ops D oi a u →
      heldN P md ops T D n L Lq fuel S (listed.setIfInBounds i true) (a.put oi.dst u) → heldN P md ops T D n L Lq (fuel + 1) S listed a := by
  intro fuel
  induction fuel with
  | zero =>
    intro S listed a inv _ hr hy H
    have hun := (mem_ready.1 hr).1
    refine ⟨fun h => (by rw [h] at hr; cases hr), fun j hj => ?_⟩
    have hjn : j < n := by
      rcases Nat.lt_or_ge j n with h | h
      · exact h
      · exact absurd hj (tail_waits hs hc hn inv _ i rfl hin hun j h)
    refine ⟨hjn, ?_⟩
    by_cases hji : j = i
    · subst hji; exact ⟨oi, hi, .inl ⟨u, hy, H⟩⟩
    · have := hdone _ H.1 j (ready_mono hj hji)
      omega
  | succ fuel ih =>
    intro S listed a inv hfree hr hy H
    have hun := (mem_ready.1 hr).1
    refine ⟨fun h => (by rw [h] at hr; cases hr), fun j hj => ?_⟩
    have hjn : j < n := by
      rcases Nat.lt_or_ge j n with h | h
      · exact h
      · exact absurd hj (tail_waits hs hc hn inv _ i rfl hin hun j h)
    refine ⟨hjn, ?_⟩
    by_cases hji : j = i
    · subst hji; exact ⟨oi, hi, .inl ⟨u, hy, H⟩⟩
    · obtain ⟨_, oj, hoj, hst⟩ := H.2 j (ready_mono hj hji)
      obtain ⟨hjun, oj', hoj', hall⟩ := mem_ready.1 hj
      obtain rfl : oj' = oj := Option.some.inj (hoj'.symm.trans hoj)
      have hnot : ∀ e ∈ oj'.after, Region.binds md e = true → e.on ≠ i := fun e he hb heq => by
        have h1 := hall e he hb
        rw [heq, getD_both hun] at h1
        cases h1
      have hap := hfree j oj' hoj hji hjun hnot
      obtain ⟨h1, h2, h3⟩ := Oper.apart_spec hap
      have hsi : ∀ cs b, oi.op ≠ .select cs b := fun cs b => hsel i oi cs b hi
      have hsj : ∀ cs b, oj'.op ≠ .select cs b := fun cs b => hsel j oj' cs b hoj
      have hfree' : ∀ k ok, ops[k]? = some ok → k ≠ i → (listed.setIfInBounds j true).getD k true = false →
          (∀ e ∈ ok.after, Region.binds md e = true → e.on ≠ i) → oi.apart ops ok = true := fun k ok hk hki hun hno => by
        refine hfree k ok hk hki ?_ hno
        by_cases hjk : j = k
        · subst hjk; exact hjun
        · rw [getD_set_ne true hjk] at hun; exact hun
      refine ⟨oj', hoj, stepM_of_same (execOp_put oj' hsj a oi.dst u h1).symm (wanted_put oj' a oi.dst u h1).symm hst fun S' v hK => ?_⟩
      refine ih S' (listed.setIfInBounds j true) (a.put oj'.dst v) (inv.set hj hjn) hfree' (ready_mono hr (Ne.symm hji)) (hy.of_same (execOp_put oi hsi a oj'.dst v h3) (wanted_put oi a oj'.dst v h3)) ?_
      rw [Array.setIfInBounds_comm _ _ hji, ← Act.put_comm a u v h2]
      exact hK
/-- The walk along a list of places, then K. -/
def wpN (P : Program) (ops : Array Oper) (T : World → World → Prop) (D : World → Prop) (N : List Nat) (K : (World → Prop) → Act → Prop) : (World → Prop) → List (Nat × Oper) → Act → Prop
  | S, [], a => K S a
  | S, (k, o) :: rest, a => (∃ u, givesM P ops D o a u ∧ wpN P ops T D N K S rest (a.put o.dst u)) ∨
    (N.contains k = true ∧ Region.wanted o (yielded ops a.tmps) = true ∧ ∃ V : Value → World → Prop, (∀ w, D w → S w → gotAt P T o a w V) ∧ ∀ v, wpN P ops T D N K (V v) rest (a.put o.dst v))
def listedBy (order : List Nat) (listed : Array Bool) : Array Bool := order.foldl (fun l k => l.setIfInBounds k true) listed
def lexN (md : Region.Mode) (ops : Array Oper) (N : List Nat) (n : Nat) : List Nat → Array Bool → Bool
  | [], _ => true
  | k :: r, listed => Nat.blt k n && (Region.ready md ops listed).contains k && Region.free md ops listed k && (!N.contains k || decide (Region.ready md ops listed = [k])) && lexN md ops N n r (listed.setIfInBounds k true)
theorem heldN_order {n g : Nat} {Lq : Act → World → Prop} {N : List Nat} {L : Array Bool → Prop} (hsel : Region.noSelect ops = true) (hs : Region.sinkB md ops n = true) (hc : Region.chainB md ops n = true) (hn : n < ops.size) (hdone : ∀ listed, L listed → ∀ j ∈ Region.ready md ops listed, n ≤ j) :
    ∀ (ro : List (Nat × Oper)) (S : World → Prop) (listed : Array Bool) (a : Act), (∀ p ∈ ro, ops[p.1]? = some p.2) → HeadInv md ops n listed →
    lexN md ops N n (ro.map (·.1)) listed = true → wpN P ops T D N (fun S' a' => heldN P md ops T D n L Lq g S' (listedBy (ro.map (·.1)) listed) a') S ro a → heldN P md ops T D n L Lq (ro.length + g) S listed a
  | [], S, listed, a, _, _, _, h => by simpa [wpN, listedBy] using h
  | (k, o) :: r, S, listed, a, hl, inv, hB, h => by
    have h0 : ops[k]? = some o := hl (k, o) (List.mem_cons_self ..)
    simp only [List.map_cons, lexN, Bool.and_eq_true] at hB
    obtain ⟨⟨⟨⟨hk, hr⟩, hf⟩, hN⟩, hB'⟩ := hB
    have hkn : k < n := Nat.le_of_ble_eq_true hk
    have hr' : k ∈ Region.ready md ops listed := by simpa using hr
    have go : ∀ S' v, wpN P ops T D N (fun S' a' => heldN P md ops T D n L Lq g S' (listedBy (r.map (·.1)) (listed.setIfInBounds k true)) a') S' r (a.put o.dst v) → heldN P md ops T D n L Lq (r.length + g) S' (listed.setIfInBounds k true) (a.put o.dst v) := fun S' v hw =>
      heldN_order hsel hs hc hn hdone r S' _ _ (fun p hp => hl p (List.mem_cons_of_mem _ hp)) (inv.set hr' hkn) hB' hw
    rw [show ((k, o) :: r).length + g = (r.length + g) + 1 by simp only [List.length_cons]; omega]
    rcases h with ⟨u, hy, hK⟩ | ⟨hc', hw, V, h3, h4⟩
    · exact heldN_first h0 (Region.noSelect_spec hsel) hs hc hn hkn hdone (r.length + g) S listed a inv (Region.free_spec h0 hf) hr' hy (go S u hK)
    · rw [hc'] at hN
      have hN' : Region.ready md ops listed = [k] := by simpa using hN
      refine ⟨fun hh => (by rw [hh] at hr'; cases hr'), fun j hj => ?_⟩
      obtain rfl : j = k := by rw [hN'] at hj; simpa using hj
      exact ⟨hkn, o, h0, .inr ⟨hw, V, h3, fun v => go _ v (h4 v)⟩⟩
theorem wp_region_N {id : Nat} {Q : Exit → Act → World → Prop} {a : Act} {w : World} {l : List Oper} (z : Oper) (n : Nat) (order N : List Nat) (T : World → World → Prop) (D S : World → Prop) (hm : P.follows .mixedOrders = true)
    (hB : (Region.noSelect l.toArray && Nat.blt n l.length && Region.sinkB .any l.toArray n && Region.chainB .any l.toArray n && lexN .any l.toArray N n order (Array.replicate l.length false) && Nat.ble order.length n && order.all (fun i => Nat.blt i l.length)) = true) (hT : Stays T D) (hD : D w.drew) (hS : S w.drew)
    (h : wpN P l.toArray T D N (fun S' a' => heldN P .any l.toArray T D n (fun listed' => Region.seqB .any l.toArray (l.length - n) n listed' = true) (fun a'' w'' => wpList P l.toArray Q (l.drop n) a'' w'') (n - order.length) S' (listedBy order (Array.replicate l.length false)) a') S (order.map fun i => (i, l.getD i z)) a) : (Code.region id l.toArray true).wp P Q a w := by
  simp only [Bool.and_eq_true] at hB
  obtain ⟨⟨⟨⟨⟨⟨hsel, hn⟩, hs⟩, hc⟩, hlex⟩, hlen⟩, hb⟩ := hB
  have hn' : n < l.length := Nat.le_of_ble_eq_true hn
  have hlen' : order.length ≤ n := Nat.le_of_ble_eq_true hlen
  have hdl : (l.drop n).length = l.length - n := by simp
  have inv0 : HeadInv .any l.toArray n (Array.replicate l.length false) :=
    ⟨by simp, fun j oj _ hl => (by rw [getD_replicate_false] at hl; cases hl), fun t _ ht => getD_in (by simpa using ht) (getD_replicate_false _ _)⟩
  have hid : (order.map fun i => (i, l.getD i z)).map (·.1) = order := by
    rw [List.map_map, show ((fun p : Nat × Oper => p.1) ∘ fun i => (i, l.getD i z)) = (_root_.id : Nat → Nat) from rfl, List.map_id]
  have H := heldN_order (P := P) (md := .any) (T := T) (D := D) (g := n - order.length) (L := fun listed' => Region.seqB .any l.toArray (l.length - n) n listed' = true) (Lq := fun a'' w'' => wpList P l.toArray Q (l.drop n) a'' w'') hsel hs hc (by simpa using hn') (fun listed hL => seqB_ready hL)
    (order.map fun i => (i, l.getD i z)) S (Array.replicate l.length false) a (fun p hp => by
      obtain ⟨i, hi, rfl⟩ := List.mem_map.1 hp
      have h1 : i < l.length := Nat.le_of_ble_eq_true (List.all_eq_true.1 hb i hi)
      simp [List.getD, h1]) inv0 (by rw [hid]; exact hlex) (by rw [hid]; exact h)
  rw [List.length_map, show order.length + (n - order.length) = n by omega] at H
  refine wp_region_any hm ?_
  have := wpAny_of_N (Q := Q) (g := l.length - n) hT (fun listed a' w' hL hq => by
    have := wpAny_of_seq (md := .any) (Q' := Q) (l.drop n) n listed a' w' (fun j => by simp [List.getElem?_drop]) (by rw [hdl]; exact hL) hq
    rwa [hdl] at this) _ _ _ _ _ hD hS H
  rw [show n + (l.length - n) = l.length by omega] at this
  simpa using this
end
section
variable {P : Program} {ops : Array Oper} {md : Region.Mode} {T : World → World → Prop} {D : World → Prop} {N : List Nat} {k n : Nat} {S : World → Prop} {o : Oper} {rest : List (Nat × Oper)} {a : Act} {K : (World → Prop) → Act → Prop} {L : Array Bool → Prop} {Lq : Act → World → Prop} {listed : Array Bool} {fuel : Nat}
theorem wpN_nil (h : K S a) : wpN P ops T D N K S [] a := h
theorem wpN_val {v : Value} (hw : Region.wanted o (yielded ops a.tmps) = true) (h : ∀ w, D w → (execOp a.eval o).run P w = .ok (.value v) w) (hn : wpN P ops T D N K S rest (a.put o.dst v)) : wpN P ops T D N K S ((k, o) :: rest) a :=
  .inl ⟨v, .inr ⟨hw, h⟩, hn⟩
theorem wpN_skip (hw : Region.wanted o (yielded ops a.tmps) = false) (hn : wpN P ops T D N K S rest (a.put o.dst undef)) : wpN P ops T D N K S ((k, o) :: rest) a :=
  .inl ⟨undef, .inl ⟨hw, rfl⟩, hn⟩
theorem wpN_move (V : Value → World → Prop) (hN : N.contains k = true) (hw : Region.wanted o (yielded ops a.tmps) = true) (hc : ∀ w, D w → S w → gotAt P T o a w V)
    (hn : ∀ v, wpN P ops T D N K (V v) rest (a.put o.dst v)) : wpN P ops T D N K S ((k, o) :: rest) a :=
  .inr ⟨hN, hw, V, hc, hn⟩
theorem got_val {w w' : World} {v : Value} {V : Value → World → Prop} (hr : (execOp a.eval o).run P w = .ok (.value v) w') (h : T w w' ∧ V v w') : gotAt P T o a w V := by
  unfold gotAt
  rw [hr]
  exact h
/-- The head is done. -/
theorem heldN_end (hL : L listed) (h : ∀ w, D w → S w → Lq a w) : heldN P md ops T D n L Lq 0 S listed a := ⟨hL, h⟩
/-- Any of these may be next. -/
theorem heldN_by (is : List Nat) (hr : Region.ready md ops listed = is) (h0 : is ≠ []) (h : ∀ i ∈ is, i < n ∧ ∃ o, ops[i]? = some o ∧ stepM P ops T D S o a fun S' a' => heldN P md ops T D n L Lq fuel S' (listed.setIfInBounds i true) a') : heldN P md ops T D n L Lq (fuel + 1) S listed a :=
  ⟨by rw [hr]; exact h0, fun i hi => h i (by rw [← hr]; exact hi)⟩
theorem stepM_move {K' : (World → Prop) → Act → Prop} (V : Value → World → Prop) (hw : Region.wanted o (yielded ops a.tmps) = true) (hc : ∀ w, D w → S w → gotAt P T o a w V) (hn : ∀ v, K' (V v) (a.put o.dst v)) : stepM P ops T D S o a K' :=
  .inr ⟨hw, V, hc, hn⟩
end
end Go.Proofs.Ytkglkpcpgdeneaa
namespace Go.Proofs.Ytkglkpcpgdeneaa
open Go.RowKit
theorem got_append_st {P : Program} {w0 w : World} {l : List Part} {o : Oper} {a : Act} {T : World → World → Prop} (V : Value → World → Prop) (s x : Operand) (t tx : TypeId)
    (ho : o.op = .call { callee := .builtin .append, args := #[s, x], argTypes := #[t, tx] })
    (e : TypeId) (z : Value) (size bytes : Nat) (ht : P.underlying t = some (.slice e)) (hinfo : (P.info? e).map (fun i => (i.zero, i.size, i.bytes)) = some (some z, size, bytes)) (hzs : z.cells.size = size) (hsz : 0 < size)
    (v : Value) (n : Nat) (xs : List Value) (hs : a.eval s = v) (HS : St w0 w (ownP e size v n xs :: l))
    (xv : Value) (m : Nat) (news : List Value) (hx : a.eval x = xv) (hsrc : Src P size tx xv m news w)
    (h63 : n + m ≤ maxLen) (hbytes : (n + m) * bytes ≤ 140737488355328)
    (h : ∀ A c w', n + m ≤ c → (A = none → n + m = 0) → St w0 w' (ownP e size (.slice A (n + m) c) (n + m) (xs ++ news) :: l) → T w w' ∧ V (.slice A (n + m) c) w') : gotAt P T o a w V := by
  obtain ⟨i0, hi, hzz⟩ := Option.map_eq_some_iff.1 hinfo
  simp only [Prod.mk.injEq] at hzz
  obtain ⟨hz0, hz1, hz2⟩ := hzz
  obtain ⟨v', w', hr, h1, h2, h3⟩ := run_append_own_src (P := P) w w0.heap.size t tx o.type e i0 z size bytes ht hi hz0 hz1 hz2 hzs hsz v n xs (hs ▸ HS.own) xv m news hsrc h63 hbytes HS.size
  have hg := HS.grown h1 ((Keep.of_grown h2).mono (fun k _ hk => .inl hk)) (by
    rcases h3 with h3 | h3
    · exact .inl h3
    · exact .inr ⟨_, h3, Nat.le_refl _⟩)
  obtain ⟨A, c, rfl, hc, _, hn⟩ := own_rd h1
  unfold gotAt execOp
  simp only [ho, resolve, invoke, builtin, Sem.run_bind, Sem.run_pure, Result.andThen_ok, List.map_toArray, List.map_cons, List.map_nil, hs, hx, hr]
  exact h A c w' hc hn hg
end Go.Proofs.Ytkglkpcpgdeneaa
namespace Go.Proofs.Ytkglkpcpgdeneaa
open Go.RowKit
set_option linter.unusedVariables false
set_option linter.unusedSimpArgs false

section
variable {w0 w : World} {l : List Part} {fb sb : Nat} {bud bad : Int} {X : List ItX} {ids : List Int} {S : StoreM}
/-- A former beside its store, as the model has both. -/
def FSt (w0 w : World) (l : List Part) (fb sb : Nat) (bud : Int) (F : FM) : Prop := ∃ X : List ItX, X.map keyX = F.held ∧ St w0 w (formP fb sb bud X F.ids F.bad :: storeP sb F.S :: l)
/-- What may be asked of it. -/
def FM.Fit (F : FM) : Prop := (∀ x ∈ F.held, mayK x = true) ∧ F.held.length ≤ 1000000 ∧ sumK F.held ≤ 100000000 ∧ F.S.writes ≤ 4611686018427387904 ∧ F.ids.length ≤ 1000000
set_option maxRecDepth 100000 in
set_option maxHeartbeats 8000000 in
theorem FSt.flush {F : FM} (h : FSt w0 w l fb sb bud F) (hf : F.Fit) :
    Calls Try.prog 56 #[.pointer (some ⟨fb, 0, none⟩)] w fun e w' => e = .returned (.int .i64 F.flush.bad) ∧ FSt w0 w' l fb sb bud F.flush := by
  obtain ⟨X, hX, hS⟩ := h
  obtain ⟨S, K, ids, bad⟩ := F
  simp only at hX hS
  subst hX
  obtain ⟨x, h1⟩ := hS.form
  have HS := Lib.hid hS
  have HF := Lib.hid hf
  have c4 := h1.blk.1.cell 4
  simp only [formCells, List.getElem?_cons_zero, List.getElem?_cons_succ] at c4
  clear hS h1 hf
  by_cases hb : bad = 0
  · subst hb
    obtain ⟨r, hr⟩ : ∃ r, r = wrS S (X.map keyX) := ⟨_, rfl⟩
    have HR := Lib.hid hr
    clear hr
    go_enter Try.func56, Try.ntmps56
    go_wp2_with fail
    have h9 := HF.out
    refine (HS.out.form_write (fun y hy => h9.1 _ (List.mem_map_of_mem hy)) (by have := h9.2.1; simpa using this) h9.2.2.1 h9.2.2.2.1 h9.2.2.2.2 r HR.out.symm).mono ?_
    rintro e w1 ⟨rfl, X', hX', hs1⟩
    obtain ⟨x', hs2⟩ := hs1.form
    have hs3 := hs2.set 4 (.int .i64 r.2)
    have f4 := hs2.blk.1.free 4
    have c4' := hs2.blk.1.cell 4
    have c5 := hs3.blk.1.cell 4
    simp only [formCells, List.set_cons_zero, List.set_cons_succ, List.getElem?_cons_zero, List.getElem?_cons_succ] at c4' c5 hs3
    have HS3 := Lib.hid hs3
    have HX := Lib.hid hX'
    clear c4 h9 hs1 hs2 hs3 hX'
    go_wp2_with fail
    go_ret
    have hfl : (FM.mk S (X.map keyX) ids 0).flush = ⟨r.1, if r.2 = 0 then [] else X.map keyX, if r.2 = 0 then ids ++ [S.next] else ids, r.2⟩ := by
      unfold FM.flush
      rw [if_pos rfl, ← HR.out]
      by_cases h0 : r.2 = 0
      · simp [h0]
      · simp [h0]
    rw [hfl]
    exact ⟨rfl, X', HX.out, St.form_mk x' HS3.out⟩
  · have HBD := Lib.hid hb
    go_enter Try.func56, Try.ntmps56
    go_wp2_with fail
    go_ret
    rw [FM.flush_bad (show (FM.mk S (X.map keyX) ids bad).bad ≠ 0 from HBD.out)]
    exact ⟨rfl, X, rfl, HS.out⟩
theorem infoItF : (Try.prog.info? 44).map (fun i => (i.zero, i.size, i.bytes)) = some (some (.agg #[.string ⟨#[]⟩, .int .i64 0, .slice none 0 0]), 3, 48) := by kernel_rfl
theorem srt_one (x : K3i) : srt ltK [x] = [x] := rfl
set_option maxRecDepth 100000 in
set_option maxHeartbeats 16000000 in
theorem FSt.add {F : FM} (h : FSt w0 w l fb sb bud F) (hf : F.Fit) (hf2 : F.held.length + 1 ≤ 1000000 ∧ sumK F.held + 2000000 ≤ 100000000) (x : It) (d : List UInt8) (hd : ∀ w', St w0 w' l → DatI w' x d) :
    Calls Try.prog 57 #[.pointer (some ⟨fb, 0, none⟩), .agg #[.string x.k, .int .i64 x.s, .slice x.A x.n x.c]] w fun e w' => e = .returned (.int .i64 (F.add bud (x.k, x.s, d)).2) ∧ FSt w0 w' l fb sb bud (F.add bud (x.k, x.s, d)).1 := by
  obtain ⟨X, hX, hS⟩ := h
  obtain ⟨S, K, ids, bad⟩ := F
  simp only at hX hS
  subst hX
  obtain ⟨k, s, A, n, c⟩ := x
  obtain ⟨ob, hob⟩ : ∃ ob, ob = w.heap.size := ⟨_, rfl⟩
  have hs1 := hS.boxX ⟨k, s, A, n, c⟩ ob hob
  have HS := Lib.hid hS
  have HS1 := Lib.hid hs1
  have HF := Lib.hid (And.intro hf hf2)
  have HD := Lib.hid hd
  have hdn : n = d.length := (hd w hS.tail.tail).1
  have b0 := hs1.blk.1.cell 0
  have b1 := hs1.blk.1.cell 1
  have b2 := hs1.blk.1.cell 2
  simp only [It.cells, List.getElem?_cons_zero, List.getElem?_cons_succ] at b0 b1 b2
  have HDN := Lib.hid hdn
  clear hS hs1 hf hf2 hd hdn
  go_enter Try.func57, Try.ntmps57
  go_upto_region 1 with fail
  rw [← hob]
  clear hob
  generalize w.alloc (Obj.cells #[.string k, .int .i64 s, .slice A n c] 44) = w1 at HS1 b0 b1 b2 ⊢
  go_wp2_with fail
  by_cases hm : mayI k s n = true
  · have HM := Lib.hid hm
    clear hm
    refine (St.rec_put HS1.out ⟨k, s, A, n, c⟩ d _ (encK (k, s, d)) rfl rfl (HD.out _ HS1.out.tail.tail.tail) HM.out).mono ?_
    rintro e w2 ⟨A2, c2, rfl, hc2, hs2⟩
    have HS2 := Lib.hid hs2.tail
    clear hs2 hc2 b0 b1 b2 HS1
    obtain ⟨x0, hs3⟩ := HS2.out.swap.form
    have HS3 : Hid (St w0 w2 (blkP fb 102 (formCells sb bud X.length ids.length bad x0) :: itsP x0.A x0.c X :: ownP 3 1 (.slice x0.A2 ids.length x0.c2) ids.length (ints ids) :: blkP ob 44 [.string k, .int .i64 s, .slice A n c] :: storeP sb S :: l)) := Lib.hid hs3
    have HIT := Lib.hid infoItF
    have HXL : Hid (X.length + 1 ≤ 1000000) := Lib.hid (by have := HF.out.2.1; simpa using this)
    clear hs3 HS2
    go_wp2_with fail
    refine wp_region_N default 9 [0, 1, 2, 3, 4, 5, 6, 7, 8] [6, 7, 8] (fun u u' => Hid (Blk u fb 102 (formCells sb bud X.length ids.length bad x0) ∧ Blk u ob 44 [.string k, .int .i64 s, .slice A n c]) → Hid (Blk u' fb 102 (formCells sb bud X.length ids.length bad x0) ∧ Blk u' ob 44 [.string k, .int .i64 s, .slice A n c])) (fun u => Hid (Blk u fb 102 (formCells sb bud X.length ids.length bad x0) ∧ Blk u ob 44 [.string k, .int .i64 s, .slice A n c]))
      (fun u => St w0 u (blkP fb 102 (formCells sb bud X.length ids.length bad x0) :: itsP x0.A x0.c X :: ownP 3 1 (.slice x0.A2 ids.length x0.c2) ids.length (ints ids) :: blkP ob 44 [.string k, .int .i64 s, .slice A n c] :: storeP sb S :: l)) (by kernel_rfl) (by kernel_rfl) (fun _ _ h t => t h) (Lib.hid ⟨HS3.out.drew.blk.1, (HS3.out.drew.mv 3 (by simp)).blk.1⟩) HS3.out.drew ?_
    simp only [List.map_cons, List.map_nil, List.getD_cons_succ, List.getD_cons_zero]
    repeat (
      (apply wpN_val
       · rfl
       · intro u hu
         have f2 := hu.out.1.cell 2
         have b0 := hu.out.2.cell 0
         have b1 := hu.out.2.cell 1
         have b2 := hu.out.2.cell 2
         simp only [formCells, List.getElem?_cons_zero, List.getElem?_cons_succ] at f2 b0 b1 b2
         clear hu
         (go_simp <;> with_reducible rfl)
       simp only [Act.put, List.setIfInBounds_toArray, List.set_cons_zero, List.set_cons_succ]))
    refine wpN_move (fun v u => Hid (∃ b : Nat, v = .slice (some ⟨b, 0, none⟩) 1 1 ∧ St w0 u (blkP b 44 [.string k, .int .i64 s, .slice A n c] :: blkP fb 102 (formCells sb bud X.length ids.length bad x0) :: itsP x0.A x0.c X :: ownP 3 1 (.slice x0.A2 ids.length x0.c2) ids.length (ints ids) :: blkP ob 44 [.string k, .int .i64 s, .slice A n c] :: storeP sb S :: l))) (by decide) rfl ?_ ?_
    · intro u hD hS
      have h1 := hS.boxX ⟨k, s, A, n, c⟩ u.heap.size rfl
      unfold gotAt
      go_simp
      exact ⟨fun _ => Lib.hid ⟨h1.tail.blk.1, (h1.mv 4 (by simp)).blk.1⟩, Lib.hid ⟨_, rfl, h1⟩⟩
    intro v
    simp only [Act.put, List.setIfInBounds_toArray, List.set_cons_zero, List.set_cons_succ]
    refine wpN_move (fun v u => Hid (∃ (A5 : Option Addr) (c5 : Nat) (y : ItX), v = .slice A5 1 c5 ∧ keyX y = (k, s, d) ∧ St w0 u (itsP A5 c5 [y] :: blkP fb 102 (formCells sb bud X.length ids.length bad x0) :: itsP x0.A x0.c X :: ownP 3 1 (.slice x0.A2 ids.length x0.c2) ids.length (ints ids) :: blkP ob 44 [.string k, .int .i64 s, .slice A n c] :: storeP sb S :: l))) (by decide) rfl ?_ ?_
    · rintro u hD hH
      obtain ⟨b, rfl, hS⟩ := hH.out
      have hdd := HD.out u (hS.tail.tail.tail.tail.tail.tail)
      have hc := rec_sorted u (some ⟨b, 0, none⟩) 1 1 [(⟨k, s, A, n, c⟩, d)] rfl (RdI.of_blk (by have := hS.blk.1; exact this)) (fun z hz => by
        rw [List.mem_singleton.1 hz]
        refine ⟨hdd, ?_⟩
        have h1 := (may_parts HM.out).2.2.2
        have h2 := HDN.out
        show d.length ≤ _
        omega) (by omega)
      have HCC := Lib.hid hc
      have HSS := Lib.hid hS.tail
      clear hc hD hS hdd
      unfold gotAt
      go_simp
      unfold gotUpon
      refine HCC.out.mono ?_
      rintro e w6 ⟨A6, c6, Y, rfl, hY, hs6⟩
      obtain ⟨y, rfl⟩ : ∃ y, Y = [y] := by
        have h1 := congrArg List.length hY
        rw [List.length_map, srtK_len] at h1
        rcases Y with _ | ⟨y, _ | ⟨z, Y⟩⟩
        · simp at h1
        · exact ⟨y, rfl⟩
        · simp at h1
      have hY2 : keyX y = (k, s, d) := by
        have h1 : [keyX y] = [(k, s, d)] := hY
        exact (List.cons.inj h1).1
      have hs7 := HSS.out.lift hs6
      exact ⟨_, rfl, fun _ => Lib.hid ⟨(hs7.mv 1 (by simp)).blk.1, (hs7.mv 4 (by simp)).blk.1⟩, Lib.hid ⟨A6, c6, rfl, y.1, y.2, hY2, hs7⟩⟩
    intro v5
    simp only [Act.put, List.setIfInBounds_toArray, List.set_cons_zero, List.set_cons_succ]
    refine wpN_move (fun v u => Hid (∃ (A7 : Option Addr) (c7 : Nat) (y : ItX), v = .slice A7 (X.length + 1) c7 ∧ keyX y = (k, s, d) ∧ St w0 u (blkP fb 102 (formCells sb bud X.length ids.length bad x0) :: itsP A7 c7 (X ++ [y]) :: ownP 3 1 (.slice x0.A2 ids.length x0.c2) ids.length (ints ids) :: storeP sb S :: l))) (by decide) rfl ?_ ?_
    · rintro u hD hH
      obtain ⟨A5, c5, y, rfl, hy, hS⟩ := hH.out
      have h1 := (hS.its)
      have h2 : St w0 u (itsP x0.A x0.c X :: _) := h1.mv 3 (by simp)
      have h3 := h2.its
      have hrow : RdV u A5 (flatI [y.1]) := (St.its_rd hS).src
      have hA5 : A5 = none → False := fun e => by
        have := (St.its_len hS).2.2 e
        cases this
      refine got_append_st _ (.tmp 18) (.tmp 21) 22 22 rfl 44 (.agg #[.string ⟨#[]⟩, .int .i64 0, .slice none 0 0]) 3 48 Try.underlying22 HIT.out rfl (by decide) (.slice x0.A X.length x0.c) X.length (flatI (X.map Prod.fst)) rfl h3 (.slice A5 1 c5) 1 (flatI [y.1]) rfl (Src.of_rd Try.underlying22 hrow 1 c5 (by rw [flatI_len]; rfl) (one_It [y.1]) (fun e => (hA5 e).elim)) (by have := HXL.out; unfold maxLen; omega) (by have := HXL.out; omega) ?_
      intro A7 c7 w7 hc7 hn7 hs7
      have h4 : St w0 w7 (datP y :: _) := (hs7.mv 3 (by simp)).all
      have h5 := h4.swap
      rw [flatI_one] at h5
      have h6 := St.its_add h5
      exact ⟨fun _ => Lib.hid ⟨(h6.mv 2 (by simp)).blk.1, (h6.mv 4 (by simp)).blk.1⟩, Lib.hid ⟨A7, c7, y, rfl, hy, (((h6.mv 1 (by simp)).tail.mv 3 (by simp)).tail).swap⟩⟩
    intro v7
    simp only [Act.put, List.setIfInBounds_toArray, List.set_cons_zero, List.set_cons_succ]
    refine wpN_nil ?_
    refine heldN_end (by kernel_rfl) ?_
    rintro u _ hH
    obtain ⟨A7, c7, y, rfl, hy, hS⟩ := hH.out
    simp only [List.drop_succ_cons, List.drop_zero]
    have f2 := hS.blk.1.free 2
    have c2' := hS.blk.1.cell 2
    have hs9 := hS.set 2 (.slice A7 (X.length + 1) c7)
    simp only [formCells, List.set_cons_zero, List.set_cons_succ, List.getElem?_cons_zero, List.getElem?_cons_succ] at c2' hs9
    have HS9 := Lib.hid hs9
    clear hS hs9
    go_upto_region 5 with fail
    generalize u.setCell ⟨fb, 2, none⟩ (.slice A7 (X.length + 1) c7) = w8 at HS9 ⊢
    clear f2 c2'
    have c1 := HS9.out.blk.1.cell 1
    have c2 := HS9.out.blk.1.cell 2
    simp only [List.getElem?_cons_zero, List.getElem?_cons_succ] at c1 c2
    go_quiet (fail)
    have HFS : Hid (FSt w0 (w8.drewN nq) l fb sb bud ⟨S, X.map keyX ++ [(k, s, d)], ids, bad⟩) := Lib.hid ⟨X ++ [y], by rw [List.map_append, ← hy]; rfl, St.form_mk ⟨A7, c7, x0.A2, x0.c2⟩ (by
      have h1 := HS9.out.drewN nq
      rw [List.length_append, List.length_singleton]
      exact h1)⟩
    have hmk : mayK (k, s, d) = true := by show mayI k s d.length = true; rw [← HDN.out]; exact HM.out
    have hln : (X.map keyX).length = X.length := List.length_map _
    clear c1 c2 HS9 hy
    by_cases hlt : ((X.length + 1 : Nat) : Int) < bud
    · have hadd : (FM.mk S (X.map keyX) ids bad).add bud (k, s, d) = (⟨S, X.map keyX ++ [(k, s, d)], ids, bad⟩, 0) := by
        unfold FM.add
        rw [if_pos hmk, if_pos (by rw [hln]; exact hlt)]
      have HADD := Lib.hid hadd
      have q5 : (X.length : Int) + 1 < bud := by omega
      clear hadd hlt hmk hln
      go_wp2_with fail
      go_ret
      rw [HADD.out]
      exact ⟨rfl, HFS.out⟩
    · have hadd : (FM.mk S (X.map keyX) ids bad).add bud (k, s, d) = ((FM.mk S (X.map keyX ++ [(k, s, d)]) ids bad).flush, (FM.mk S (X.map keyX ++ [(k, s, d)]) ids bad).flush.bad) := by
        unfold FM.add
        rw [if_pos hmk, if_neg (by rw [hln]; exact hlt)]
      have HADD := Lib.hid hadd
      have q5 : ¬ (X.length : Int) + 1 < bud := by omega
      have hfit : (FM.mk S (X.map keyX ++ [(k, s, d)]) ids bad).Fit := by
        obtain ⟨⟨g1, g2, g3, g4, g5⟩, g6, g7⟩ := HF.out
        refine ⟨fun z hz => ?_, by simp at g6 ⊢; omega, ?_, g4, g5⟩
        · rcases List.mem_append.1 hz with h | h
          · exact g1 z h
          · rw [List.mem_singleton.1 h]; exact hmk
        · show sumK (X.map keyX ++ [(k, s, d)]) ≤ _
          have h1 := (may_parts HM.out)
          have h2 := HDN.out
          rw [sumK_app]
          simp only [sumK, List.map_cons, List.map_nil, List.sum_cons, List.sum_nil, lenK] at g7 ⊢
          omega
      have HFIT := Lib.hid hfit
      clear hadd hlt hmk hln hfit
      go_wp2_with fail
      refine (FSt.flush HFS.out HFIT.out).mono ?_
      rintro e w9 ⟨rfl, h9⟩
      have H9 := Lib.hid h9
      clear h9
      go_wp2_with fail
      go_ret
      rw [HADD.out]
      exact ⟨rfl, H9.out⟩
  · have HM := Lib.hid hm
    clear hm
    refine (St.rec_put_no HS1.out ⟨k, s, A, n, c⟩ (by have := HM.out; simpa using this)).mono ?_
    rintro e w2 ⟨rfl, hs2⟩
    have HS2 := Lib.hid hs2.tail
    clear hs2 b0 b1 b2 HS1
    go_wp2_with fail
    go_ret
    have h1 : (FM.mk S (X.map keyX) ids bad).add bud (k, s, d) = (FM.mk S (X.map keyX) ids bad, 1) := by
      unfold FM.add
      rw [if_neg (by show ¬ mayI k s d.length = true; rw [← HDN.out]; exact HM.out)]
    rw [h1]
    exact ⟨rfl, X, rfl, HS2.out⟩
end
end Go.Proofs.Ytkglkpcpgdeneaa
namespace Go.Proofs.Ytkglkpcpgdeneaa
open Go.RowKit
set_option linter.unusedVariables false
set_option linter.unusedSimpArgs false

def FM.May (F : FM) : Prop := ∀ x ∈ F.held, mayK x = true
theorem FM.May.flush {F : FM} (h : F.May) : F.flush.May := by
  unfold FM.flush
  split
  · simp only
    split
    · intro x hx; cases hx
    · exact h
  · exact h
theorem FM.May.add {F : FM} (h : F.May) (bud : Int) (x : K3i) : (F.add bud x).1.May := by
  unfold FM.add
  split
  · rename_i hm
    have hx : (FM.mk F.S (F.held ++ [x]) F.ids F.bad).May := by
      intro y hy
      rcases List.mem_append.1 hy with h1 | h1
      · exact h y h1
      · rw [List.mem_singleton.1 h1]; exact hm
    split
    · exact hx
    · exact hx.flush
  · exact h
theorem FM.Bd.fit {F : FM} {W : Int} {c m : Nat} (h : F.Bd W c m) (hm : F.May) (hc : c ≤ 900000) (hs : m ≤ 90000000) (hW : W ≤ 1000000000) : F.Fit ∧ F.held.length + 1 ≤ 1000000 ∧ sumK F.held + 2000000 ≤ 100000000 := by
  obtain ⟨h1, h2, h3⟩ := h
  refine ⟨⟨hm, by omega, by omega, ?_, by omega⟩, by omega, by omega⟩
  have : (0 : Int) ≤ ((if F.bad = 0 then F.held.length else 0 : Nat) : Int) := by omega
  omega
section
variable {w0 w : World} {l : List Part} {fb sb : Nat} {bud : Int}
theorem FSt.bad {F : FM} (h : FSt w0 w l fb sb bud F) : w.cell? ⟨fb, 4, none⟩ = some (.int .i64 F.bad) := by
  obtain ⟨X, hX, hS⟩ := h
  obtain ⟨x, h1⟩ := hS.form
  have c4 := h1.blk.1.cell 4
  simpa only [formCells, List.getElem?_cons_zero, List.getElem?_cons_succ] using c4
theorem FSt.drop {F : FM} {p : Part} (h : FSt w0 w (p :: l) fb sb bud F) : FSt w0 w l fb sb bud F := by
  obtain ⟨X, hX, hS⟩ := h
  exact ⟨X, hX, (hS.nth3).tail⟩
theorem FSt.put {F : FM} {p : Part} {w' : World} (h : FSt w0 w l fb sb bud F) (hp : ∀ q, St w0 w q → St w0 w' (p :: q)) : FSt w0 w' (p :: l) fb sb bud F := by
  obtain ⟨X, hX, hS⟩ := h
  exact ⟨X, hX, (hp _ hS).nth3.nth3⟩
theorem FSt.st {F : FM} (h : FSt w0 w l fb sb bud F) : St w0 w l := by
  obtain ⟨X, hX, hS⟩ := h
  exact hS.tail.tail
theorem FSt.alloc {F : FM} (h : FSt w0 w l fb sb bud F) (o : Obj) : FSt w0 (w.alloc o) l fb sb bud F := by
  obtain ⟨X, hX, hS⟩ := h
  exact ⟨X, hX, hS.alloc o⟩
theorem FSt.drewN {F : FM} (h : FSt w0 w l fb sb bud F) (n : Nat) : FSt w0 (w.drewN n) l fb sb bud F := by
  obtain ⟨X, hX, hS⟩ := h
  exact ⟨X, hX, hS.drewN n⟩
theorem FM.addL_cons (bud : Int) (F : FM) (x : K3i) (r : List K3i) : F.addL bud (x :: r) = if F.bad = 0 then (if (F.add bud x).2 = 0 then (F.add bud x).1.addL bud r else F.add bud x) else (F, F.bad) := rfl
theorem FM.addL_nil (bud : Int) (F : FM) : F.addL bud [] = (F, F.bad) := rfl
theorem sumK_take (L : List K3i) (i : Nat) : sumK (L.take i) ≤ sumK L := by
  have := sumK_app (L.take i) (L.drop i)
  rw [List.take_append_drop] at this
  omega
set_option maxRecDepth 100000 in
set_option maxHeartbeats 8000000 in
theorem FSt.addL {F : FM} (h : FSt w0 w l fb sb bud F) (A : Option Addr) (n c : Nat) (L : List ItX) (hn : n = L.length) (hsrc : ∀ w', St w0 w' l → RdI w' A (L.map Prod.fst) ∧ ∀ x ∈ L, DatI w' x.1 x.2) (W : Int) (c0 m0 : Nat) (hB : F.Bd W c0 m0) (hm : F.May) (hc : c0 + L.length ≤ 900000) (hs : m0 + sumK (L.map keyX) ≤ 90000000) (hW : W ≤ 1000000000) :
    Calls Try.prog 36 #[.pointer (some ⟨fb, 0, none⟩), .slice A n c] w fun e w' => e = .returned (.int .i64 (F.addL bud (L.map keyX)).2) ∧ FSt w0 w' l fb sb bud (F.addL bud (L.map keyX)).1 := by
  subst hn
  have HS := Lib.hid h
  have HR := Lib.hid hsrc
  have HB := Lib.hid (And.intro hB (And.intro hm (And.intro hc (And.intro hs hW))))
  have q0 : (L.length : Int) ≤ 900000 := by omega
  clear h hsrc hB hm hc hs hW
  go_enter Try.func36, Try.ntmps36
  go_wp2_with fail
  go_loopw [12] (fun v12 wr => ∃ (i : Nat) (G : FM), i ≤ L.length ∧ v12 = .int .i64 i ∧ Hid (FSt w0 wr l fb sb bud G) ∧ Hid (G.Bd W (c0 + i) (m0 + sumK ((L.map keyX).take i)) ∧ G.May ∧ G.addL bud ((L.map keyX).drop i) = F.addL bud (L.map keyX))) (fun v12 _ => L.length - (intOf v12).toNat)
  case atStart => exact ⟨0, F, Nat.zero_le _, rfl, HS, Lib.hid ⟨by simpa [sumK] using HB.out.1, HB.out.2.1, by rw [List.drop_zero]⟩⟩
  case round =>
    clear HS
    obtain ⟨i, G, hi, rfl, HG, HX⟩ := hrel
    have g4 := HG.out.bad
    by_cases hlt : i < L.length
    · rcases (HR.out _ HG.out.st).1 with ⟨_, h0⟩ | ⟨ba, o, hA, hc⟩
      · have h1 := congrArg List.length h0
        simp at h1
        rw [h1] at hlt
        simp at hlt
      subst hA
      obtain ⟨y, hy⟩ : ∃ y, L[i]? = some y := ⟨_, List.getElem?_eq_getElem hlt⟩
      obtain ⟨d0, d1, d2⟩ := St.itemAt hc i y.1 (by rw [List.getElem?_map, hy]; rfl)
      have hdr : (L.map keyX).drop i = keyX y :: (L.map keyX).drop (i + 1) := by
        have hl2 : i < (L.map keyX).length := by rw [List.length_map]; exact hlt
        rw [List.drop_eq_getElem_cons hl2, List.getElem_map]
        congr 2
        exact (List.getElem?_eq_some_iff.1 hy).2
      have htk : (L.map keyX).take (i + 1) = (L.map keyX).take i ++ [keyX y] := by
        have hl2 : i < (L.map keyX).length := by rw [List.length_map]; exact hlt
        rw [List.take_succ_eq_append_getElem hl2, List.getElem_map]
        congr 3
        exact (List.getElem?_eq_some_iff.1 hy).2
      have hymem := List.mem_of_getElem? hy
      have HD := Lib.hid (And.intro hdr (And.intro htk (And.intro hlt hymem)))
      have q1 : (i : Int) < (L.length : Int) := by omega
      clear hc hy hdr htk hlt hymem
      obtain ⟨⟨k, s, A1, n1, c1⟩, d⟩ := y
      obtain ⟨ob, hob⟩ : ∃ ob, ob = wr.heap.size := ⟨_, rfl⟩
      have HS4 : Hid (FSt w0 (wr.alloc (Obj.cells #[.string k, .int .i64 s, .slice A1 n1 c1] 44)) (blkP ob 44 [.string k, .int .i64 s, .slice A1 n1 c1] :: l) fb sb bud G) := Lib.hid (HG.out.put (fun q hq => hq.boxX ⟨k, s, A1, n1, c1⟩ ob hob))
      clear HG
      go_upto_region 6 with fail
      rw [← hob]
      clear d0 d1 d2 hob g4
      generalize wr.alloc (Obj.cells #[.string k, .int .i64 s, .slice A1 n1 c1] 44) = w4 at HS4 ⊢
      have hb := HS4.out.st.blk.1
      have b0 := hb.cell 0
      have b1 := hb.cell 1
      have b2 := hb.cell 2
      simp only [List.getElem?_cons_zero, List.getElem?_cons_succ] at b0 b1 b2
      have g4 := HS4.out.bad
      clear hb
      by_cases hbad : G.bad = 0
      · have HBD := Lib.hid hbad
        rw [hbad] at g4
        clear hbad
        go_wp2_with fail
        have hfit := HX.out.1.fit HX.out.2.1 (by have h1 := HB.out.2.2.1; have h2 := HD.out.2.2.1; omega) (by have h1 := HB.out.2.2.2.1; have h2 := sumK_take (L.map keyX) i; omega) HB.out.2.2.2.2
        refine (FSt.add HS4.out.drop hfit.1 hfit.2 ⟨k, s, A1, n1, c1⟩ d (fun w' h => (HR.out w' h).2 _ HD.out.2.2.2)).mono ?_
        rintro e w5 ⟨rfl, hs5⟩
        obtain ⟨p, hp⟩ : ∃ p, p = G.add bud (k, s, d) := ⟨_, rfl⟩
        have hpb := HX.out.1.add bud (k, s, d)
        have hpm := HX.out.2.1.add bud (k, s, d)
        have hpe : (if p.2 = 0 then p.1.addL bud ((L.map keyX).drop (i + 1)) else p) = F.addL bud (L.map keyX) := by
          have h1 := HX.out.2.2
          rw [HD.out.1] at h1
          rw [FM.addL_cons, if_pos HBD.out] at h1
          rw [hp]
          exact h1
        rw [← hp] at hs5 hpb hpm ⊢
        have HS5 := Lib.hid hs5
        have HP := Lib.hid (And.intro hpb (And.intro hpm hpe))
        clear hp hs5 hpb hpm hpe hfit b0 b1 b2 g4 HS4
        obtain ⟨G2, er⟩ := p
        dsimp only at HS5 HP ⊢
        by_cases he : er = 0
        · subst he
          go_wp2_with fail
          go_roundw
          case rel =>
            have h9 := HP.out
            simp only [if_true] at h9
            refine ⟨i + 1, G2, HD.out.2.2.1, by go_num, HS5, Lib.hid ⟨?_, h9.2.1, h9.2.2⟩⟩
            rw [HD.out.2.1, sumK_app]
            have e1 : sumK [keyX (⟨k, s, A1, n1, c1⟩, d)] = lenK (k, s, d) := by simp [sumK, keyX]
            rw [e1, ← Nat.add_assoc, ← Nat.add_assoc]
            exact h9.1
          case measure => have := HD.out.2.2.1; simp [intOf]; omega
        · go_wp2_with fail
          go_ret
          have h9 := HP.out.2.2
          rw [if_neg he] at h9
          rw [← h9]
          exact ⟨rfl, HS5.out⟩
      · have HBD := Lib.hid hbad
        have h9 : F.addL bud (L.map keyX) = (G, G.bad) := by
          have h1 := HX.out.2.2
          rw [HD.out.1] at h1
          rw [FM.addL_cons, if_neg hbad] at h1
          exact h1.symm
        have H9 := Lib.hid h9
        clear h9
        go_wp2_with fail
        go_ret
        rw [H9.out]
        exact ⟨rfl, HS4.out.drop⟩
    · have hil : i = L.length := by omega
      subst hil
      have h9 : F.addL bud (L.map keyX) = (G, G.bad) := by
        have h1 := HX.out.2.2
        rw [List.drop_of_length_le (by rw [List.length_map]; exact Nat.le_refl _), FM.addL_nil] at h1
        exact h1.symm
      have H9 := Lib.hid h9
      clear h9 hlt hi
      go_wp2_with fail
      go_ret
      rw [H9.out]
      exact ⟨rfl, HG.out⟩
/-- What Close answers. -/
def CloseS (w0 : World) (l : List Part) (fb sb : Nat) (bud : Int) (G : FM) (e : Ending) (w' : World) : Prop :=
  if G.bad = 0 then ∃ A c, e = .returned (.tuple #[.slice A G.ids.length c, .int .i64 0]) ∧ FSt w0 w' (ownP 3 1 (.slice A G.ids.length c) G.ids.length (ints G.ids) :: l) fb sb bud G
  else e = .returned (.tuple #[.slice none 0 0, .int .i64 G.bad]) ∧ FSt w0 w' l fb sb bud G
set_option maxRecDepth 100000 in
set_option maxHeartbeats 8000000 in
theorem FSt.close {F : FM} (h : FSt w0 w l fb sb bud F) (hf : F.Fit) (hi : F.shut.ids.length ≤ 1000000) (G : FM) (hG : G = F.shut) :
    Calls Try.prog 34 #[.pointer (some ⟨fb, 0, none⟩)] w (CloseS w0 l fb sb bud G) := by
  have HS := Lib.hid h
  have HF := Lib.hid (And.intro hf hi)
  have HG := Lib.hid hG
  have g4 := h.bad
  have g2 : ∃ A c, w.cell? ⟨fb, 2, none⟩ = some (.slice A F.held.length c) := by
    obtain ⟨X, hX, hS⟩ := h
    obtain ⟨x, h1⟩ := hS.form
    have c2 := h1.blk.1.cell 2
    simp only [formCells, List.getElem?_cons_zero, List.getElem?_cons_succ] at c2
    exact ⟨x.A, x.c, by rw [c2, ← hX, List.length_map]⟩
  obtain ⟨hA, hc, g2⟩ := g2
  clear h hf hi hG
  have HI : Hid (G.ids.length ≤ 1000000) := Lib.hid (by rw [HG.out]; exact HF.out.2)
  by_cases hb : F.bad = 0
  · rw [hb] at g4
    by_cases hh : F.held = []
    · have e0 : F.held.length = 0 := by rw [hh]; rfl
      rw [e0] at g2
      have hs : F.shut = F := by unfold FM.shut; rw [if_neg (fun h => h.2 hh)]
      have hgf : G = F := by rw [HG.out, hs]
      subst hgf
      have HGB := Lib.hid hb
      clear e0 hs hh hb
      go_enter Try.func34, Try.ntmps34
      obtain ⟨X, hX, hS⟩ := HS.out
      obtain ⟨x, h1⟩ := hS.form
      have c3 := h1.blk.1.cell 3
      have c3' := (h1.alloc (Obj.cells #[] 3)).blk.1.cell 3
      have hrd := ((h1.alloc (Obj.cells #[] 3)).mv 2 (by simp)).own_rdv
      simp only [formCells, List.getElem?_cons_zero, List.getElem?_cons_succ] at c3 c3'
      have HH := Lib.hid (And.intro hX (And.intro h1 (And.intro hrd.1 hrd.2.2.2)))
      clear hX hS h1 hrd
      go_wp2_with (
        at_builtin
        refine wpL_fresh_st rfl (.tmp 30) (.tmp 34) 37 37 rfl 3 (.int .i64 0) 1 8 Try.underlying37 infoIntF rfl (by decide) _ rfl rfl HH.out.2.1 (.slice x.A2 G.ids.length x.c2) G.ids.length (ints G.ids) rfl (Src.of_rd Try.underlying37 HH.out.2.2.1 G.ids.length x.c2 (by simp [ints]) (one_ints _ _) (fun e => HH.out.2.2.2 e)) (by have := HI.out; unfold maxLen; omega) (by have := HI.out; omega) ?_
        intro A7 c7 w7 hc7 hn7 hs7 hk7
        have HS7 := Lib.hid hs7
        clear hs7 hc7 hn7 hk7)
      go_ret2
      unfold CloseS
      rw [if_pos HGB.out]
      exact ⟨A7, c7, rfl, X, HH.out.1, St.form_mk x ((((HS7.out.mv 4 (by simp)).mv 4 (by simp)).mv 4 (by simp)).mv 4 (by simp))⟩
    · have e0 : 0 < F.held.length := List.length_pos_iff.2 hh
      have q0 : (0 : Int) < (F.held.length : Int) := by omega
      have hs : F.shut = F.flush := by unfold FM.shut; rw [if_pos ⟨hb, hh⟩]
      have hgf : G = F.flush := by rw [HG.out, hs]
      have HGF := Lib.hid hgf
      clear e0 hs hh hb hgf
      go_enter Try.func34, Try.ntmps34
      go_wp2_with fail
      refine (FSt.flush HS.out HF.out.1).mono ?_
      rintro e w5 ⟨rfl, h5⟩
      rw [← HGF.out] at h5 ⊢
      have g5 := h5.bad
      have HG5 := Lib.hid h5
      clear h5 g4 g2 q0
      by_cases hgb : G.bad = 0
      · rw [hgb] at g5 ⊢
        have HGB := Lib.hid hgb
        clear hgb
        obtain ⟨X, hX, hS⟩ := HG5.out
        obtain ⟨x, h1⟩ := hS.form
        have c3 := h1.blk.1.cell 3
        have c3' := (h1.alloc (Obj.cells #[] 3)).blk.1.cell 3
        have hrd := ((h1.alloc (Obj.cells #[] 3)).mv 2 (by simp)).own_rdv
        simp only [formCells, List.getElem?_cons_zero, List.getElem?_cons_succ] at c3 c3'
        have HH := Lib.hid (And.intro hX (And.intro h1 (And.intro hrd.1 hrd.2.2.2)))
        clear hX hS h1 hrd
        go_wp2_with (
          at_builtin
          refine wpL_fresh_st rfl (.tmp 30) (.tmp 34) 37 37 rfl 3 (.int .i64 0) 1 8 Try.underlying37 infoIntF rfl (by decide) _ rfl rfl HH.out.2.1 (.slice x.A2 G.ids.length x.c2) G.ids.length (ints G.ids) rfl (Src.of_rd Try.underlying37 HH.out.2.2.1 G.ids.length x.c2 (by simp [ints]) (one_ints _ _) (fun e => HH.out.2.2.2 e)) (by have := HI.out; unfold maxLen; omega) (by have := HI.out; omega) ?_
          intro A7 c7 w7 hc7 hn7 hs7 hk7
          have HS7 := Lib.hid hs7
          clear hs7 hc7 hn7 hk7)
        go_ret2
        unfold CloseS
        rw [if_pos HGB.out]
        exact ⟨A7, c7, rfl, X, HH.out.1, St.form_mk x ((((HS7.out.mv 4 (by simp)).mv 4 (by simp)).mv 4 (by simp)).mv 4 (by simp))⟩
      · have HGB := Lib.hid hgb
        go_wp2_with fail
        go_quiet (fail)
        go_wp2_with fail
        go_ret2
        unfold CloseS
        rw [if_neg HGB.out]
        exact ⟨rfl, HG5.out.drewN _⟩
  · have hs : F.shut = F := by unfold FM.shut; rw [if_neg (fun h => hb h.1)]
    have hgf : G = F := by rw [HG.out, hs]
    subst hgf
    have HGB := Lib.hid hb
    have HG5 := HS
    clear hs g2
    go_enter Try.func34, Try.ntmps34
    go_wp2_with fail
    go_quiet (fail)
    go_wp2_with fail
    go_ret2
    unfold CloseS
    rw [if_neg HGB.out]
    exact ⟨rfl, HG5.out.drewN _⟩
end
end Go.Proofs.Ytkglkpcpgdeneaa
namespace Go.Proofs.Ytkglkpcpgdeneaa
open Go.RowKit

/-- A slice that reads so. -/
def SliceV (n : Nat) (L : List UInt8) (v : Value) (w : World) : Prop := ∃ A c, v = .slice A n c ∧ n = L.length ∧ n ≤ c ∧ RdV w A (bys L) ∧ (A = none → n = 0)
theorem SliceV.stays (n : Nat) (L : List UInt8) (v : Value) : Stays Anew (SliceV n L v) := fun _ _ ⟨A, c, h1, h2, h3, h4, h5⟩ k => ⟨A, c, h1, h2, h3, h4.old k, h5⟩
theorem St.stays (w0 : World) (l : List Part) : Stays Anew (fun u => St w0 u l) := fun _ _ h k => St.later h k
theorem St.stays2 (w0 : World) (l : List Part) (V : World → Prop) (hV : Stays Anew V) : Stays Anew (fun u => St w0 u l ∧ V u) := fun _ _ h k => ⟨St.later h.1 k, hV _ _ h.2 k⟩
theorem bytes_v {w : World} (x : It) (d : List UInt8) (N : Nat) (L : List UInt8) (hN : N = itN x) (hL : L = putL x.k x.s d) (hd : DatI w x d) (hm : mayI x.k x.s x.n = true) :
    Calls Try.prog 30 #[.agg #[.string x.k, .int .i64 x.s, .slice x.A x.n x.c]] w fun e w' => ∃ v, e = .returned v ∧ Anew w w' ∧ SliceV N L v w' := by
  subst hN hL
  obtain ⟨m1, m2, m3, m4⟩ := may_parts hm
  refine (refbytes_any x.k x.s x.A x.n x.c d w hd.1 hd.2.2.1 hd.2.2.2 m1 m2 m3 m4).mono ?_
  rintro e w' ⟨A, c, he, h1, _, h3, h4⟩
  obtain ⟨A', c', e1, _, hr, hn⟩ := own_rd h3
  injection e1 with e2 _ e4
  subst e2 e4
  exact ⟨_, he, h4, A, c, rfl, by have := h3.1; rw [bys_length] at this; unfold itN at *; omega, h1, hr, hn⟩
theorem same_g {w : World} (p q : It) (d d' : List UInt8) (b : Bool) (hb : sameB p q d d' = b) (h1 : DatI w p d) (h2 : DatI w q d') :
    Calls Try.prog 33 #[.agg #[.string p.k, .int .i64 p.s, .slice p.A p.n p.c], .agg #[.string q.k, .int .i64 q.s, .slice q.A q.n q.c]] w fun e w' => e = .returned (.bool b) ∧ Anew w w' := by
  have h := St.ref_same (St.start w) p q d d' b hb h1 h2
  exact h.mono fun _ _ ⟨g1, g2⟩ => ⟨g1, g2.keep⟩
end Go.Proofs.Ytkglkpcpgdeneaa
namespace Go.Proofs.Ytkglkpcpgdeneaa
open Go.RowKit
set_option linter.unusedVariables false
set_option linter.unusedSimpArgs false

def curC (p : Option Addr) (run at_ : Int) : List Value := [.pointer p, .int .i64 run, .int .i64 at_]
theorem results_it2 {fn : Func} (h : fn.results = #[.cell 2 44, .tmp 3]) (tmps : Array Value) (b : Nat) (x : It) (w : World) (ht : tmps.getD 2 undef = .pointer (some ⟨b, 0, none⟩)) (hB : Blk w b 44 [.string x.k, .int .i64 x.s, .slice x.A x.n x.c]) :
    (results fn tmps).run Try.prog w = .ok (.tuple #[.agg #[.string x.k, .int .i64 x.s, .slice x.A x.n x.c], tmps.getD 3 undef]) w := by
  have c0 := hB.cell 0
  have c1 := hB.cell 1
  have c2 := hB.cell 2
  simp only [List.getElem?_cons_zero, List.getElem?_cons_succ] at c0 c1 c2
  have ht2 : tmps[2]?.getD undef = .pointer (some ⟨b, 0, none⟩) := by rw [← ht]; simp
  simp [results, h, ht2, go_sem, c0, c1, c2]
/-- The empty item. -/
def it0 : It := ⟨⟨#[]⟩, 0, none, 0, 0⟩
section
variable {w0 w : World} {l : List Part} {cb sb : Nat} {S : StoreM} {run : Int}
theorem St.cur_open (h : St w0 w l) (p : Option Addr) (run : Int) :
    Calls Try.prog 31 #[.pointer p, .int .i64 run] w fun e w' => ∃ cb, e = .returned (.pointer (some ⟨cb, 0, none⟩)) ∧ St w0 w' (blkP cb 98 (curC p run 0) :: l) := by
  have HS := Lib.hid h
  clear h
  go_enter Try.func31, Try.ntmps31
  go_wp2_with fail
  go_ret
  exact ⟨w.heap.size, rfl, HS.out.box (curC p run 0) 98⟩
set_option maxRecDepth 100000 in
theorem St.cur_nil (h : St w0 w l) :
    Calls Try.prog 32 #[.pointer none] w fun e w' => e = .returned (.tuple #[.agg #[.string ⟨#[]⟩, .int .i64 0, .slice none 0 0], .bool false]) ∧ St w0 w' l := by
  have HS := Lib.hid h
  clear h
  go_enter Try.func32, Try.ntmps32
  go_wp2_with fail
  exact bodyPost_ret (results_it2 rfl _ _ it0 _ rfl (Blk.new w _ _)) rfl ⟨rfl, HS.out.alloc _⟩
/-- What is read from there on. -/
def StoreM.atl (S : StoreM) (run : Int) (a : Nat) : List UInt8 := (((S.find run).getD []).drop a).take 1048792
def NextG (w0 : World) (r : List Part) (cb : Nat) (p : Option Addr) (run : Int) (a : Nat) (cs : List UInt8) (e : Ending) (w' : World) : Prop := match begS cs with
  | none => e = .returned (.tuple #[.agg #[.string ⟨#[]⟩, .int .i64 0, .slice none 0 0], .bool false]) ∧ St w0 w' (blkP cb 98 (curC p run a) :: r)
  | some (k, s, d, t) => ∃ A c, e = .returned (.tuple #[.agg #[.string (str k), .int .i64 (s : Nat), .slice A d.length c], .bool true]) ∧ d.length ≤ c ∧ St w0 w' (ownP 5 1 (.slice A d.length c) d.length (bys d) :: blkP cb 98 (curC p run ((a + t : Nat) : Int)) :: r)
abbrev NextS (w0 : World) (l : List Part) (cb sb : Nat) (run : Int) (a : Nat) (S : StoreM) : Ending → World → Prop := NextG w0 (storeP sb S :: l) cb (some ⟨sb, 0, none⟩) run a (S.atl run a)
def ReadV (u : World) (cs : List UInt8) (e : Ending) (w'' : World) : Prop := ∃ v, e = .returned v ∧ Anew u w'' ∧ ∃ A c er, v = .tuple #[.slice A cs.length c, .int .i64 er] ∧ w''.ownsRow u.heap.size 5 1 (.slice A cs.length c) cs.length (bys cs)
theorem read_g (w : World) (F : Nat → Prop) (hS : IsStore w F sb S) (a : Nat) (ha : ∀ bs, S.find run = some bs → a ≤ bs.length) (hl : ∀ bs, S.find run = some bs → bs.length ≤ 1000000000) (cs : List UInt8) (hcs : cs = S.atl run a) :
    Calls Try.prog 41 #[.pointer (some ⟨sb, 0, none⟩), .int .i64 run, .int .i64 a, .int .i64 1048792] w fun e w'' => ∃ v, e = .returned v ∧ Anew w w'' ∧ ∃ A c er, v = .tuple #[.slice A cs.length c, .int .i64 er] ∧ w''.ownsRow w.heap.size 5 1 (.slice A cs.length c) cs.length (bys cs) := by
  subst hcs
  unfold StoreM.atl
  cases hf : S.find run with
  | none =>
    refine (read_no w F sb S hS run a 1048792 hf).mono ?_
    rintro e w' ⟨rfl, rfl⟩
    refine ⟨_, rfl, Anew.refl w, none, 0, 14, by simp, ?_⟩
    simp only [Option.getD_none, List.drop_nil, List.take_nil, List.length_nil]
    exact World.ownsRow_nil w _ _ 1
  | some bs =>
    have hk : ((bs.drop a).take 1048792).length = min 1048792 (bs.length - a) := by rw [List.length_take, List.length_drop]
    refine (read_ok w F sb S hS run a 1048792 _ bs hf (ha bs hf) (by omega) hk (by have := hl bs hf; omega)).mono ?_
    rintro e w' ⟨v, he, ho, hk2⟩
    obtain ⟨A, c, rfl, hc, _, hn⟩ := own_rd ho
    have e1 : (bs.drop a).take ((bs.drop a).take 1048792).length = (bs.drop a).take 1048792 := by
      rw [hk, ← List.length_drop, List.take_eq_take_iff]
      omega
    rw [e1] at ho
    exact ⟨_, he, hk2.mono (fun _ _ f => f.elim), A, c, 0, rfl, ho⟩
theorem begS_le {L k d : List UInt8} {s t : Nat} (h : begS L = some (k, s, d, t)) : t ≤ L.length := by
  unfold begS at h
  simp only at h
  split at h
  · cases h
  · split at h
    · cases h
    · split at h
      · cases h
      · split at h
        · cases h
        · simp only [Option.some.injEq, Prod.mk.injEq] at h
          omega
set_option maxRecDepth 100000 in
set_option maxHeartbeats 8000000 in
theorem St.cur_next_gen {a : Nat} {p : Option Addr} {r : List Part} (cs : List UInt8) (h : St w0 w (blkP cb 98 (curC p run a) :: r)) (hrd : ∀ u, St w0 u (blkP cb 98 (curC p run a) :: r) → Calls Try.prog 41 #[.pointer p, .int .i64 run, .int .i64 a, .int .i64 1048792] u (ReadV u cs)) (hcl : cs.length ≤ 1048792) (ha2 : a ≤ 1000000000) :
    Calls Try.prog 32 #[.pointer (some ⟨cb, 0, none⟩)] w (NextG w0 r cb p run a cs) := by
  obtain ⟨rb, hrb⟩ : ∃ rb, rb = w.heap.size := ⟨_, rfl⟩
  have h1 : St w0 (w.alloc (Obj.cells #[.string ⟨#[]⟩, .int .i64 0, .slice none 0 0] 44)) (blkP rb 44 [.string ⟨#[]⟩, .int .i64 0, .slice none 0 0] :: blkP cb 98 (curC p run a) :: r) := (h.boxX it0 rb hrb)
  have HS1 := Lib.hid h1
  have HA := Lib.hid (And.intro hrd (And.intro hcl ha2))
  clear h h1 hrd hcl ha2
  go_enter Try.func32, Try.ntmps32
  go_upto_region 3 with fail
  rw [← hrb]
  clear hrb
  generalize w.alloc (Obj.cells #[.string ⟨#[]⟩, .int .i64 0, .slice none 0 0] 44) = w1 at HS1 ⊢
  refine wp_region_G [12] Anew (fun u => St w0 u (blkP rb 44 [.string ⟨#[]⟩, .int .i64 0, .slice none 0 0] :: blkP cb 98 (curC p run a) :: r)) (by kernel_rfl) (by kernel_rfl) (by kernel_rfl) Anew.refl (St.stays _ _) HS1.out.drew ?_
  clear HS1
  repeat (
    (apply wpG_val
     · rfl
     · intro u hu
       have hb := hu.tail.blk.1
       have c0 := hb.cell 0
       have c1 := hb.cell 1
       have c2 := hb.cell 2
       simp only [curC, List.getElem?_cons_zero, List.getElem?_cons_succ] at c0 c1 c2
       clear hu hb
       (go_simp <;> with_reducible rfl)
     simp only [Act.put, List.setIfInBounds_toArray, List.set_cons_zero, List.set_cons_succ]))
  refine wpG_some (fun v u => ∃ A c er, v = .tuple #[.slice A cs.length c, .int .i64 er] ∧ St w0 u (ownP 5 1 (.slice A cs.length c) cs.length (bys cs) :: blkP rb 44 [.string ⟨#[]⟩, .int .i64 0, .slice none 0 0] :: blkP cb 98 (curC p run a) :: r)) (by decide) rfl (fun u => by (go_simp <;> with_reducible exact ⟨rfl, rfl⟩)) (fun v u u' ⟨A, c, er, e, hr⟩ k => ⟨A, c, er, e, hr.later k⟩) ?_ ?_
  · intro u hu
    refine (HA.out.1 u hu.tail).mono ?_
    rintro e w' ⟨v, rfl, hk, A, c, er, rfl, ho⟩
    exact ⟨_, rfl, hk, A, c, er, rfl, hu.made ho hk⟩
  intro v
  simp only [Act.put, List.setIfInBounds_toArray, List.set_cons_zero, List.set_cons_succ]
  by_cases hv : ∃ (A : Option Addr) (c : Nat) (er : Int), v = .tuple #[.slice A cs.length c, .int .i64 er]
  · obtain ⟨A, c, er, rfl⟩ := hv
    repeat (
      (apply wpG_val
       · rfl
       · intro u hu
         clear hu
         (go_simp <;> with_reducible rfl)
       simp only [Act.put, List.setIfInBounds_toArray, List.set_cons_zero, List.set_cons_succ]))
    refine wpG_nil ?_
    rintro u ⟨_, A', c', er', hv', hS⟩
    obtain ⟨rfl, rfl⟩ : A = A' ∧ c = c' := by
      injection hv' with hv'
      have h1 := congrArg (fun q : Array Value => q[0]?) hv'
      simp at h1
      exact h1
    have HS := Lib.hid hS
    clear hv' hS
    go_wp2_with fail
    refine (HS.out.tail.rec_get A cs.length c cs rfl (slb_of_own HS.out).2).mono ?_
    intro e w5 hg
    unfold GetS at hg
    unfold NextG
    have HA2 := Lib.hid (And.intro HA.out.2.2 HA.out.2.1)
    clear HS HA
    have hall : ∃ (x : It) (t : Nat) (ok : Bool) (l' : List Part), e = .returned (.tuple #[.agg #[.string x.k, .int .i64 x.s, .slice x.A x.n x.c], .int .i64 (t : Nat), .bool ok]) ∧ t ≤ 1048792 ∧ St w0 w5 (blkP rb 44 [.string ⟨#[]⟩, .int .i64 0, .slice none 0 0] :: blkP cb 98 (curC p run a) :: l') ∧
        ∀ w', St w0 w' (blkP cb 98 (curC p run ((a + t : Nat) : Int)) :: l') → (match begS cs with
          | none => Ending.returned (.tuple #[.agg #[.string x.k, .int .i64 x.s, .slice x.A x.n x.c], .bool ok]) = .returned (.tuple #[.agg #[.string ⟨#[]⟩, .int .i64 0, .slice none 0 0], .bool false]) ∧ St w0 w' (blkP cb 98 (curC p run a) :: r)
          | some (k, s, d, t) => ∃ A c, Ending.returned (.tuple #[.agg #[.string x.k, .int .i64 x.s, .slice x.A x.n x.c], .bool ok]) = .returned (.tuple #[.agg #[.string (str k), .int .i64 (s : Nat), .slice A d.length c], .bool true]) ∧ d.length ≤ c ∧ St w0 w' (ownP 5 1 (.slice A d.length c) d.length (bys d) :: blkP cb 98 (curC p run ((a + t : Nat) : Int)) :: r)) := by
      rcases hbg : begS cs with _ | ⟨k, s, d, t⟩
      · rw [hbg] at hg
        obtain ⟨rfl, hs5⟩ := hg
        exact ⟨it0, 0, false, r, rfl, by omega, hs5, fun w' h => ⟨rfl, h⟩⟩
      · rw [hbg] at hg
        obtain ⟨A5, c5, rfl, hc5, hs5⟩ := hg
        have ht : t ≤ cs.length := begS_le hbg
        have hcl := HA2.out.2
        exact ⟨⟨str k, s, A5, d.length, c5⟩, t, true, ownP 5 1 (.slice A5 d.length c5) d.length (bys d) :: r, rfl, by omega, hs5.nth3.nth3, fun w' h => ⟨A5, c5, rfl, hc5, h.swap⟩⟩
    obtain ⟨x, t, ok, l', rfl, ht, hs5, hfin⟩ := hall
    obtain ⟨k, s, A6, n6, c6⟩ := x
    dsimp only at hfin ⊢
    obtain ⟨ob, hob⟩ : ∃ ob, ob = w5.heap.size := ⟨_, rfl⟩
    have hs6 := hs5.boxX ⟨k, s, A6, n6, c6⟩ ob hob
    have HS6 := Lib.hid hs6
    have HFIN := Lib.hid hfin
    have HT := Lib.hid ht
    clear hg hs5 hs6 hfin ht
    have a2 := (HS6.out.mv 2 (by simp)).blk.1.cell 2
    have f2 := (HS6.out.mv 2 (by simp)).blk.1.free 2
    simp only [curC, List.getElem_cons_zero, List.getElem_cons_succ, List.getElem?_cons_zero, List.getElem?_cons_succ] at a2
    have e1 : IntKind.i64.wrap ((a : Int) + (t : Int)) = ((a + t : Nat) : Int) := by rw [IntWalk.i64_in _ (by have := HT.out; have := HA2.out.1; omega)]; omega
    have HS6' : Hid (St w0 (w5.alloc (Obj.cells #[.string k, .int .i64 s, .slice A6 n6 c6] 44)) (blkP ob 44 [.string k, .int .i64 s, .slice A6 n6 c6] :: blkP rb 44 [.string ⟨#[]⟩, .int .i64 0, .slice none 0 0] :: blkP cb 98 (curC p run a) :: l')) := HS6
    clear HS6
    go_upto_region 5 with fail
    rw [← hob]
    clear hob
    generalize w5.alloc (Obj.cells #[.string k, .int .i64 s, .slice A6 n6 c6] 44) = w6 at HS6' a2 f2 ⊢
    have hs7 := (HS6'.out.mv 2 (by simp)).set 2 (.int .i64 ((a : Int) + (t : Int)))
    simp only [curC, List.getElem_cons_zero, List.getElem_cons_succ, List.set_cons_zero, List.set_cons_succ] at hs7
    have HS7 := Lib.hid hs7
    clear hs7 HS6'
    go_upto_region 6 with fail
    clear a2 f2 e1
    generalize w6.setCell ⟨cb, 2, none⟩ (.int .i64 ((a : Int) + (t : Int))) = w7 at HS7 ⊢
    have ho := (HS7.out.mv 1 (by simp)).blk.1
    have hr := (HS7.out.mv 2 (by simp)).blk.1
    have y0 := ho.cell 0
    have y1 := ho.cell 1
    have y2 := ho.cell 2
    have p0 := hr.cell 0
    have p1 := hr.cell 1
    have p2 := hr.cell 2
    have pf0 := hr.free 0
    have pf1 := hr.free 1
    have pf2 := hr.free 2
    simp only [List.getElem_cons_zero, List.getElem_cons_succ, List.getElem?_cons_zero, List.getElem?_cons_succ] at y0 y1 y2 p0 p1 p2
    have hs8 := (((HS7.out.mv 2 (by simp)).set 0 (.string k)).set 1 (.int .i64 s)).set 2 (.slice A6 n6 c6)
    simp only [List.getElem_cons_zero, List.getElem_cons_succ, List.set_cons_zero, List.set_cons_succ] at hs8
    have HS8 := Lib.hid hs8
    clear ho hr hs8
    go_wp2_with fail
    refine bodyPost_ret (results_it2 rfl _ rb ⟨k, s, A6, n6, c6⟩ _ rfl HS8.out.blk.1) rfl ?_
    have h9 := (HS8.out.tail.mv 1 (by simp)).tail
    have e9 : (a : Int) + (t : Int) = ((a + t : Nat) : Int) := by omega
    rw [e9] at h9
    exact HFIN.out _ h9
  · have hno : ∀ u, ¬ (St w0 u (blkP rb 44 [.string ⟨#[]⟩, .int .i64 0, .slice none 0 0] :: blkP cb 98 (curC p run a) :: r) ∧ ∃ A c er, v = .tuple #[.slice A cs.length c, .int .i64 er] ∧ St w0 u (ownP 5 1 (.slice A cs.length c) cs.length (bys cs) :: blkP rb 44 [.string ⟨#[]⟩, .int .i64 0, .slice none 0 0] :: blkP cb 98 (curC p run a) :: r)) := by
      rintro u ⟨_, A, c, er, e, _⟩
      exact hv ⟨A, c, er, e⟩
    repeat (
      (apply wpG_val (v := undef)
       · rfl
       · intro u hu
         exact (hno u hu).elim
       simp only [Act.put, List.setIfInBounds_toArray, List.set_cons_zero, List.set_cons_succ]))
    refine wpG_nil ?_
    intro u hu
    exact (hno u hu).elim
theorem St.cur_next {a : Nat} (h : St w0 w (blkP cb 98 (curC (some ⟨sb, 0, none⟩) run a) :: storeP sb S :: l)) (ha : ∀ bs, S.find run = some bs → a ≤ bs.length) (hl : ∀ bs, S.find run = some bs → bs.length ≤ 1000000000) (ha2 : a ≤ 1000000000) :
    Calls Try.prog 32 #[.pointer (some ⟨cb, 0, none⟩)] w (NextS w0 l cb sb run a S) := by
  refine h.cur_next_gen (S.atl run a) (fun u hu => ?_) (by unfold StoreM.atl; rw [List.length_take]; omega) ha2
  obtain ⟨F, hF⟩ := hu.tail.store
  exact read_g u F hF a ha hl _ rfl
theorem St.cur_next_nil (h : St w0 w (blkP cb 98 (curC none run 0) :: l)) :
    Calls Try.prog 32 #[.pointer (some ⟨cb, 0, none⟩)] w fun e w' => e = .returned (.tuple #[.agg #[.string ⟨#[]⟩, .int .i64 0, .slice none 0 0], .bool false]) ∧ St w0 w' l := by
  refine (St.cur_next_gen (a := 0) [] h (fun u hu => ?_) (by simp) (by omega)).mono ?_
  · refine (read_nil u run 0 1048792).mono ?_
    rintro e w' ⟨rfl, rfl⟩
    exact ⟨_, rfl, Anew.refl _, none, 0, 1, rfl, World.ownsRow_nil _ _ _ 1⟩
  · intro e w' hn
    have h1 : begS [] = none := rfl
    unfold NextG at hn
    rw [h1] at hn
    exact ⟨hn.1, hn.2.tail⟩
end
end Go.Proofs.Ytkglkpcpgdeneaa
