/- answers of law 16. Conditions: none. -/
import Derived.Test.YtkglkpcpgdeneaaForms
namespace Go.Proofs.Ytkglkpcpgdeneaa
open Go.RowKit
set_option linter.unusedVariables false
set_option linter.unusedSimpArgs false

def kA : K3i := (⟨#[97]⟩, 0, [])
def kB : K3i := (⟨#[98]⟩, 0, [])
theorem ltK_ab : ltK kA kB = true ∧ ltK kB kA = false := by decide +kernel
theorem srt_ba : srt ltK [kB, kA] = [kA, kB] := by
  show ins ltK kA [kB] = _
  unfold ins
  rw [ltK_ab.1]
  rfl
def S16 : StoreM := ⟨1000, 1, 34, 34, 2, [], [(0, encK kA ++ encK kB)]⟩
theorem wr16 : wrS (StoreM.made 1000 []) [kB, kA] = (S16, 0) := by
  unfold wrS
  rw [srt_ba]
  rfl
theorem add16 : (FM.mk (StoreM.made 1000 []) [] [] 0).addL 2 [kB, kA] = (⟨S16, [], [0], 0⟩, 0) := by
  have hm : mayK kB = true ∧ mayK kA = true := by decide +kernel
  have h1 : (FM.mk (StoreM.made 1000 []) [] [] 0).add 2 kB = (⟨StoreM.made 1000 [], [kB], [], 0⟩, 0) := by
    unfold FM.add
    rw [if_pos hm.1]
    rfl
  have hf : (FM.mk (StoreM.made 1000 []) [kB, kA] [] 0).flush = ⟨S16, [], [0], 0⟩ := by
    unfold FM.flush
    simp only [if_true]
    rw [wr16]
    rfl
  have h2 : (FM.mk (StoreM.made 1000 []) [kB] [] 0).add 2 kA = (⟨S16, [], [0], 0⟩, 0) := by
    unfold FM.add
    rw [if_pos hm.2]
    show (if ((2 : Nat) : Int) < 2 then _ else _) = _
    rw [if_neg (by omega)]
    show ((FM.mk (StoreM.made 1000 []) [kB, kA] [] 0).flush, (FM.mk (StoreM.made 1000 []) [kB, kA] [] 0).flush.bad) = _
    rw [hf]
  rw [FM.addL_cons, h1]
  simp only [if_true]
  rw [FM.addL_cons, h2]
  simp only [if_true]
  rw [FM.addL_nil]
theorem FSt.heldC {w0 w : World} {l : List Part} {fb sb : Nat} {bud : Int} {F : FM} (h : FSt w0 w l fb sb bud F) :
    Calls Try.prog 37 #[.pointer (some ⟨fb, 0, none⟩)] w fun e w' => e = .returned (.int .i64 F.held.length) ∧ w = w' := by
  obtain ⟨X, hX, hS⟩ := h
  have h1 := hS.runs_held
  rw [← hX, List.length_map]
  exact h1
def L16 : List ItX := [(⟨⟨#[98]⟩, 0, none, 0, 0⟩, []), (⟨⟨#[97]⟩, 0, none, 0, 0⟩, [])]
theorem dat16 (w : World) (x : ItX) (hx : x ∈ L16) : DatI w x.1 x.2 := by
  simp only [L16, List.mem_cons, List.mem_nil_iff, or_false] at hx
  rcases hx with rfl | rfl
  · exact ⟨rfl, Nat.le_refl _, RdV.nil _ _, fun _ => rfl⟩
  · exact ⟨rfl, Nat.le_refl _, RdV.nil _ _, fun _ => rfl⟩
theorem next16 : begS (S16.atl 0 0) = some ([97], 0, [], 17) := by
  have h := begS_put (⟨#[97]⟩ : ByteArray) 0 [] (encK kB) (by decide) (by decide) (by decide) (by decide)
  have e : S16.atl 0 0 = putL (⟨#[97]⟩ : ByteArray) 0 [] ++ encK kB := by rfl
  rw [e, h]
  rfl
set_option maxRecDepth 100000 in
set_option maxHeartbeats 8000000 in
theorem answers16 (w : World) : Calls Try.prog 26 #[] w fun e w' => e = .returned (.bool true) ∧ Keep (fun j => w.heap.size ≤ j) w w' := by
  go_enter Try.func26, Try.ntmps26
  go_wp2_with fail
  refine (St.store_new (St.start w) 1000 none 0 0 [] (by omega) (RdV.nil _ _) rfl (fun _ => ⟨rfl, rfl⟩) (by omega)).mono ?_
  rintro e w1 ⟨sb, rfl, hs1⟩
  have HS1 := Lib.hid hs1
  clear hs1
  go_wp2_with fail
  refine (HS1.out.runs_new 2 (by omega)).mono ?_
  rintro e w2 ⟨fb, rfl, hs2⟩
  have HF2 : Hid (FSt w w2 [] fb sb 2 ⟨StoreM.made 1000 [], [], [], 0⟩) := Lib.hid ⟨[], rfl, hs2⟩
  clear hs2 HS1
  go_wp2_with fail
  obtain ⟨lb, hlb⟩ : ∃ lb, lb = w2.heap.size := ⟨_, rfl⟩
  have hf3 : FSt w (w2.alloc (Obj.cells #[.string ⟨#[98]⟩, .int .i64 0, .slice none 0 0, .string ⟨#[97]⟩, .int .i64 0, .slice none 0 0] 44)) [blkP lb 44 (flatI (L16.map Prod.fst))] fb sb 2 ⟨StoreM.made 1000 [], [], [], 0⟩ := by
    refine HF2.out.put (fun q hq => ?_)
    rw [hlb]
    exact hq.box [.string ⟨#[98]⟩, .int .i64 0, .slice none 0 0, .string ⟨#[97]⟩, .int .i64 0, .slice none 0 0] 44
  have HF3 := Lib.hid hf3
  rw [← hlb]
  clear hf3 hlb HF2
  generalize w2.alloc (Obj.cells #[.string ⟨#[98]⟩, .int .i64 0, .slice none 0 0, .string ⟨#[97]⟩, .int .i64 0, .slice none 0 0] 44) = w3 at HF3 ⊢
  have hadd := FSt.addL HF3.out (some ⟨lb, 0, none⟩) 2 2 L16 rfl (fun w' h => ⟨RdI.of_blk h.blk.1, fun x hx => dat16 w' x hx⟩) 0 0 0 ⟨by simp, by simp [sumK], by simp [StoreM.made]⟩ (fun x hx => by cases hx) (by simp [L16]) (by decide +kernel) (by omega)
  rw [show L16.map keyX = [kB, kA] from rfl, add16] at hadd
  refine hadd.mono ?_
  rintro e w4 ⟨rfl, hf4⟩
  have HF4 := Lib.hid hf4
  clear hadd hf4 HF3
  go_wp2_with fail
  refine (FSt.close HF4.out ⟨(fun x hx => by cases hx), by simp, by simp [sumK], by simp [S16], by simp⟩ (by simp [FM.shut]) ⟨S16, [], [0], 0⟩ rfl).mono ?_
  intro e w5 hc
  unfold CloseS at hc
  simp only [if_true] at hc
  obtain ⟨A, c, rfl, hf5⟩ := hc
  have HF5 := Lib.hid hf5
  clear hf5 HF4
  have hown : St w w5 (ownP 3 1 (.slice A 1 c) 1 (ints [0]) :: _) := HF5.out.st
  obtain ⟨g, rfl, a0, _⟩ := hown.own_at 0 (by omega)
  have HA0 : Hid (w5.cell? ⟨g, 0, none⟩ = some (.int .i64 0)) := Lib.hid a0
  clear hown a0
  go_wp2_with fail
  refine HF5.out.heldC.mono ?_
  rintro e w6 ⟨rfl, rfl⟩
  have a0 := HA0.out
  go_wp2_with fail
  obtain ⟨X5, hX5, hS5⟩ := HF5.out
  have HS5 : Hid (St w w5 (storeP sb S16 :: [])) := Lib.hid (by
    have h1 := hS5.tail
    exact (h1.swap.tail.swap.tail))
  clear HF5 hS5 hX5
  refine (HS5.out.cur_open (some ⟨sb, 0, none⟩) 0).mono ?_
  rintro e w6 ⟨cb, rfl, hs6⟩
  have HS6 := Lib.hid hs6
  clear hs6 HS5 a0
  go_wp2_with fail
  refine (St.cur_next (a := 0) HS6.out (fun bs h => Nat.zero_le _) (fun bs h => ?_) (by omega)).mono ?_
  · have h1 : S16.find 0 = some (encK kA ++ encK kB) := rfl
    rw [h1] at h
    obtain rfl := Option.some.inj h
    decide +kernel
  intro e w7 hn
  unfold NextS NextG at hn
  rw [next16] at hn
  obtain ⟨A7, c7, rfl, _, hs7⟩ := hn
  have HK7 := Lib.hid hs7.keep
  have hob : Blk (w7.alloc (Obj.cells #[.string (str [97]), .int .i64 0, .slice A7 0 c7] 44)) w7.heap.size 44 [.string (str [97]), .int .i64 0, .slice A7 0 c7] := Blk.new w7 44 [.string (str [97]), .int .i64 0, .slice A7 0 c7]
  have o0 := hob.cell 0
  simp only [List.getElem?_cons_zero] at o0
  have hs : ((str [97]).toList == [97]) = true := by rw [beq_iff_eq]; exact ByteArray.toList_mk [97]
  generalize str [97] = sx at o0 hs ⊢
  clear hob hs7 HS6
  go_wp2_with fail
  go_ret
  exact ⟨rfl, HK7.out.alloc _⟩
end Go.Proofs.Ytkglkpcpgdeneaa
