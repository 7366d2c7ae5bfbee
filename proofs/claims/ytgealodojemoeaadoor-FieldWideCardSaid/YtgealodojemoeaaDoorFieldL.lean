/- answers of law 02. (alias Tryd) Conditions: none. -/
import Derived.Test.YtgealodojemoeaaDoorFieldK
import Derived.Test.YtgealodojemoeaaDoorFieldD
namespace Go.Proofs.YtgealodojemoeaaDoor
open Go.RowKit
set_option linter.unusedVariables false
set_option linter.unusedSimpArgs false

/-- All that was there is as it was. -/
abbrev Kp (w w' : World) : Prop := Keep (fun j => w.heap.size ≤ j) w w'
theorem Kp.trans {a b c : World} (h : Kp a b) (g : Kp b c) : Kp a c := Keep.trans' h g (fun j _ hj => by have := h.size; omega)
theorem Kp.blk {w w' : World} {g : Nat} {T : TypeId} {cs : List Value} (h : Blk w g T cs) (k : Kp w w') : Blk w' g T cs := h.keep k (by have := h.lt; omega)
theorem blk_rd {w : World} {g : Nat} {T : TypeId} {L : List UInt8} (h : Blk w g T (bys L)) : RdV w (some ⟨g, 0, none⟩) (bys L) := by
  have h1 := RdV.of_blk h 0 (bys L).length
  rwa [List.drop_zero, List.take_length] at h1
/-- Parse of a block's bytes. -/
theorem parse_blk (w : World) (g n : Nat) (L : List UInt8) (hn : n = L.length) (h : Blk w g 5 (bys L)) (hl : n ≤ 140737488355328) (p : Nat × Bool) (hp : parseF L = p) :
    Calls Tryd.prog 9 #[.slice (some ⟨g, 0, none⟩) n n] w fun e w' => e = .returned (.tuple #[.int .i64 p.1, .bool p.2]) ∧ Kp w w' := by
  subst hp
  exact field_parse w _ n n L hn (blk_rd h) (fun x hx => ⟨_, _, (Option.some.inj hx).symm⟩) (fun hx => by cases hx) (Nat.le_refl _) (by omega) hl
/-- Put, where there is a field. -/
theorem put_some (w : World) (n wide : Nat) (ni wi : Int) (hni : ni = n) (hwi : wi = wide) (hn : n ≤ 4611686018427387904) (h2 : 2 ≤ wide) (h3 : wide ≤ 100) (L : List UInt8) (hp : putF n wide = some L) :
    Calls Tryd.prog 11 #[.int .i64 ni, .int .i64 wi] w fun e w' => e = .returned (.tuple #[.slice (some ⟨w.heap.size, 0, none⟩) wide wide, .bool true]) ∧ Blk w' w.heap.size 5 (bys L) ∧ Kp w w' := by
  subst hni hwi
  refine (field_put w n wide hn h2 h3).mono ?_
  intro e w' h
  unfold PutA at h
  rw [hp] at h
  exact h
theorem put_none (w : World) (n wide : Nat) (ni wi : Int) (hni : ni = n) (hwi : wi = wide) (hn : n ≤ 4611686018427387904) (h2 : 2 ≤ wide) (h3 : wide ≤ 100) (hp : putF n wide = none) :
    Calls Tryd.prog 11 #[.int .i64 ni, .int .i64 wi] w fun e w' => e = .returned (.tuple #[.slice none 0 0, .bool false]) ∧ Kp w w' := by
  subst hni hwi
  refine (field_put w n wide hn h2 h3).mono ?_
  intro e w' h
  unfold PutA at h
  rw [hp] at h
  exact h
theorem putF_512 : putF 512 4 = some [128, 0, 2, 0] := by decide
theorem parse_512 : parseF [128, 0, 2, 0] = (512, true) := by decide
theorem parse_15 : parseF [32, 49, 55, 32, 0] = (15, true) := by decide
set_option maxRecDepth 100000 in
set_option maxHeartbeats 4000000 in
theorem answers2 (w : World) : Calls Tryd.prog 8 #[] w fun e w' => e = .returned (.bool true) ∧ Kp w w' := by
  have kc := fun (w : World) (C : Array Value) (n c : Nat) => Lib.run_convert_bytes_const (P := Tryd.prog) w 22 5 C n c Tryd.underlying22 Tryd.underlying5
  go_enter Tryd.func8, Tryd.ntmps8
  go_wp2_with fail
  refine (put_some w 512 4 512 4 rfl rfl (by omega) (by omega) (by omega) _ putF_512).mono ?_
  rintro e w1 ⟨rfl, hb, hk⟩
  obtain ⟨g, hg⟩ : ∃ g, g = w.heap.size := ⟨_, rfl⟩
  rw [← hg] at hb ⊢
  have HB := Lib.hid hb
  have HK := Lib.hid hk
  have HG := Lib.hid hg
  clear hb hk hg
  go_wp2_with fail
  refine (parse_blk w1 g 4 [128, 0, 2, 0] rfl HB.out (by omega) _ parse_512).mono ?_
  rintro e w2 ⟨rfl, hk⟩
  have HK2 := Lib.hid (Kp.trans HK.out hk)
  have HB2 := Lib.hid (Kp.blk HB.out hk)
  clear hk
  have hr3 : RdV (w2.alloc (Obj.cells #[Value.int IntKind.u8 32, Value.int IntKind.u8 49, Value.int IntKind.u8 55, Value.int IntKind.u8 32, Value.int IntKind.u8 0] 5 (5, 6))) (some ⟨w2.heap.size, 0, none⟩) (bys [32, 49, 55, 32, 0]) := RdV.newm w2 5 (bys [32, 49, 55, 32, 0]) (5, 6) _ rfl
  have HR3 := Lib.hid hr3
  have HK3 : Hid (Kp w _) := Lib.hid (HK2.out.alloc (Obj.cells #[Value.int IntKind.u8 32, Value.int IntKind.u8 49, Value.int IntKind.u8 55, Value.int IntKind.u8 32, Value.int IntKind.u8 0] 5 (5, 6)))
  have HB3 := Lib.hid (HB2.out.alloc (Obj.cells #[Value.int IntKind.u8 32, Value.int IntKind.u8 49, Value.int IntKind.u8 55, Value.int IntKind.u8 32, Value.int IntKind.u8 0] 5 (5, 6)))
  clear hr3
  go_wp2_with fail
  obtain ⟨k, hkk⟩ : ∃ k, k = w2.heap.size := ⟨_, rfl⟩
  rw [← hkk] at HR3 ⊢
  clear hkk
  generalize w2.alloc (Obj.cells #[Value.int IntKind.u8 32, Value.int IntKind.u8 49, Value.int IntKind.u8 55, Value.int IntKind.u8 32, Value.int IntKind.u8 0] 5 (5, 6)) = w3 at HR3 HK3 HB3 ⊢
  clear kc HK HB HK2 HB2
  have key := field_parse w3 (some ⟨k, 0, none⟩) 5 5 [32, 49, 55, 32, 0] rfl HR3.out (fun x hx => ⟨_, _, (Option.some.inj hx).symm⟩) (fun hx => by cases hx) (Nat.le_refl _) (by omega) (by omega)
  rw [parse_15] at key
  refine key.mono ?_
  rintro e w4 ⟨rfl, hk⟩
  have HK4 := Lib.hid (Kp.trans HK3.out hk)
  have HB4 := Lib.hid (Kp.blk HB3.out hk)
  clear hk key
  have kc : True → (convert 22 9 (.slice (some ⟨g, 0, none⟩) 4 4)).run Tryd.prog w4 = .ok (.string (str [128, 0, 2, 0])) w4 := fun _ => conv_rd (blk_rd HB4.out) rfl (fun h => by cases h) trivial
  have hs : ((str [128, 0, 2, 0]).toList == [128, 0, 2, 0]) = true := by rw [beq_iff_eq]; exact ByteArray.toList_mk [128, 0, 2, 0]
  generalize str [128, 0, 2, 0] = s at kc hs
  go_wp2_with fail
  go_ret
  exact ⟨rfl, HK4.out⟩
end Go.Proofs.YtgealodojemoeaaDoor
