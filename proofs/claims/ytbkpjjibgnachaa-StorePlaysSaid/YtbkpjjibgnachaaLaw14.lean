/- The store's own trial call (answers) of chapter 14's laws. Conditions: none. -/
import Derived.Test.YtbkpjjibgnachaaStoreG
import Derived.Test.YtbkpjjibgnachaaStr

namespace Go.Proofs.Ytbkpjjibgnachaa
open Go.RowKit

/-- All since w0 is new memory, and F lies in it. -/
structure Own (w0 w : World) (F : Nat → Prop) : Prop where
  keep : Keep (fun k => w0.heap.size ≤ k) w0 w
  foot : ∀ k, F k → w0.heap.size ≤ k
theorem Own.step {w0 w w' : World} {F : Nat → Prop} (h : Own w0 w F) (k : Keep F w w') : Own w0 w' (ext F w w') :=
  ⟨h.keep.trans' k (fun j _ hf => h.foot j hf), fun j hj => by
    rcases hj with hj | hj
    · exact h.foot j hj
    · have := h.keep.size; omega⟩
theorem Own.same {w0 w w' : World} {F : Nat → Prop} (h : Own w0 w F) (k : Keep F w w') : Own w0 w' F :=
  ⟨h.keep.trans' k (fun j _ hf => h.foot j hf), h.foot⟩
theorem Own.keeps {w0 w w' : World} {F G : Nat → Prop} (h : Own w0 w F) (k : Keep G w w') (hg : ∀ j, j < w0.heap.size → ¬ G j) : Own w0 w' F :=
  ⟨h.keep.trans' k (fun j hj hf => (hg j hj hf).elim), h.foot⟩
theorem Own.alloc {w0 w : World} {F : Nat → Prop} (h : Own w0 w F) (o : Obj) : Own w0 (w.alloc o) F := ⟨h.keep.alloc o, h.foot⟩
theorem Own.below {w0 w : World} {F : Nat → Prop} (h : Own w0 w F) : Below w0.heap.size w0 w := h.keep.below (Nat.le_refl _) (fun _ _ h => h)
theorem Own.start (w : World) : Own w w (fun _ => False) := ⟨Keep.refl _ w, fun _ h => h.elim⟩
theorem IsStore.alloc {w : World} {F : Nat → Prop} {sb : Nat} {S : StoreM} (h : IsStore w F sb S) (o : Obj) : IsStore (w.alloc o) F sb S := h.keep ((Keep.refl (fun _ => False) w).alloc o) (fun _ _ h => h)
theorem IsStore.ok {w : World} {F : Nat → Prop} {sb : Nat} {S : StoreM} (h : IsStore w F sb S) : S.Ok := by
  obtain ⟨_, _, _, h⟩ := h
  exact h.ok
theorem IsStore.lt {w : World} {F : Nat → Prop} {sb : Nat} {S : StoreM} (h : IsStore w F sb S) : ∀ k, F k → k < w.heap.size := by
  obtain ⟨_, _, _, h⟩ := h
  exact h.lt

theorem create_c (w : World) (F : Nat → Prop) (sb : Nat) (S S' : StoreM) (n : Int) (hS : IsStore w F sb S) (hn : S.next = n) (hlt : n < 65536) (hs : S.create = S') :
    Calls Try.prog 16 #[.pointer (some ⟨sb, 0, none⟩)] w fun e w' => e = .returned (.tuple #[.int .i64 n, .int .i64 0]) ∧ IsStore w' (ext F w w') sb S' ∧ Keep F w w' := by
  subst hn hs
  exact create_yes w F sb S hS hlt
theorem append_okc (w : World) (F : Nat → Prop) (sb : Nat) (S S' : StoreM) (hS : IsStore w F sb S) (n : Int) (A : Option Addr) (m c : Nat) (b : List UInt8) (hw : S.writes ≤ 9223372036854775806) (bs : List UInt8) (hf : S.find n = some bs) (hio : S.writes ∉ S.fails)
    (hm : m = b.length) (hr : RdV w A (bys b)) (hA : A = none → m = 0) (hFA : b ≠ [] → ∀ y, A = some y → ¬ F y.block) (hroom : (b.length : Int) ≤ S.room - S.used) (hlen : bs.length + b.length ≤ 140737488355328) (hs : S.add n b = S') :
    Calls Try.prog 18 #[.pointer (some ⟨sb, 0, none⟩), .int .i64 n, .slice A m c] w fun e w' => e = .returned (.int .i64 0) ∧ IsStore w' (ext F w w') sb S' ∧ Keep F w w' := by
  subst hs
  exact append_ok w F sb S hS n A m c b hw bs hf hio hm hr hA hFA hroom hlen
theorem read_c (w : World) (F : Nat → Prop) (sb : Nat) (S : StoreM) (hS : IsStore w F sb S) (n : Int) (a m k : Nat) (ai mi : Int) (hai : ai = a) (hmi : mi = m) (bs cs : List UInt8) (hf : S.find n = some bs) (ha : a ≤ bs.length) (hm : (m : Int) ≤ 9223372036854775807) (hk : k = min m (bs.length - a)) (hlen : bs.length ≤ 140737488355328) (hcs : (bs.drop a).take k = cs) :
    Calls Try.prog 19 #[.pointer (some ⟨sb, 0, none⟩), .int .i64 n, .int .i64 ai, .int .i64 mi] w (Read w cs k) := by
  subst hai hmi hcs
  exact read_ok w F sb S hS n a m k bs hf ha hm hk hlen
theorem answers14 (w : World) : Calls Try.prog 17 #[] w fun e w' => e = .returned (.bool true) ∧ Below w.heap.size w w' := by
  have kc := fun (w : World) (C : Array Value) (n c : Nat) => Lib.run_convert_bytes_const (P := Try.prog) w 28 5 C n c Try.underlying28 Try.underlying5
  go_enter Try.func17, Try.ntmps17
  go_wp2_with fail
  refine (new_any 3 _ _ _ [1] _ (by omega) (RdV.new w 3 [.int .i64 1] _ rfl) (by rfl) (fun e => by cases e) (by omega)).mono ?_
  rintro e w1 ⟨sb, rfl, hs, hk⟩
  have HS := Lib.hid hs
  have HO := Lib.hid (((Own.start w).alloc (.cells #[.int .i64 1] 3)).step hk)
  clear hs hk
  go_wp2_with fail
  refine (create_c _ _ sb _ ⟨3, 1, 0, 0, 0, [1], [(0, [])]⟩ 0 HS.out rfl (by decide) rfl).mono ?_
  rintro e w2 ⟨rfl, hs, hk⟩
  have HS2 := Lib.hid hs
  have HO2 := Lib.hid (HO.out.step hk)
  clear hs hk HS HO
  go_wp2_with fail
  refine (append_okc _ _ sb _ ⟨3, 1, 2, 2, 1, [1], [(0, [97, 98])]⟩ (HS2.out.alloc _) 0 _ _ _ [97, 98] (by decide) [] rfl (by decide) rfl (RdV.newm w2 5 [.int .u8 97, .int .u8 98] _ _ rfl) (fun e => by cases e) (fun _ y hy hf => by cases hy; have := HS2.out.lt _ hf; simp at this) (by decide) (by decide) rfl).mono ?_
  rintro e w3 ⟨rfl, hs, hk⟩
  have HS3 := Lib.hid hs
  have HO3 := Lib.hid ((HO2.out.alloc _).step hk)
  clear hs hk HS2 HO2
  go_wp2_with fail
  refine (append_io _ _ sb _ (HS3.out.alloc _) 0 _ _ _ (by decide) [97, 98] rfl (by decide)).mono ?_
  rintro e w4 ⟨rfl, hs, hk⟩
  have HS4 := Lib.hid hs
  have HO4 := Lib.hid ((HO3.out.alloc _).same hk)
  clear hs hk HS3 HO3
  go_wp2_with fail
  refine (append_full _ _ sb _ (HS4.out.alloc _) 0 _ _ _ (by decide) [97, 98] rfl (by decide) (by decide)).mono ?_
  rintro e w5 ⟨rfl, hs, hk⟩
  have HS5 := Lib.hid hs
  have HO5 := Lib.hid ((HO4.out.alloc _).same hk)
  clear hs hk HS4 HO4
  go_wp2_with fail
  refine (read_ok _ _ sb _ HS5.out 0 1 9 1 [97, 98] rfl (by decide) (by decide) (by decide) (by decide)).mono ?_
  rintro e w6 ⟨v, rfl, hown, hk⟩
  have HO6 := Lib.hid (HO5.out.keeps hk (fun _ _ h => h))
  have HS6 := Lib.hid (HS5.out.keep hk (fun _ _ h => h))
  obtain ⟨A, c, rfl, hc, hr, hA⟩ := own_rd hown
  have kb := run_bytes_str (P := Try.prog) 28 9 5 Try.underlying28 Try.underlying5 Try.underlying9 1 c (l := [98]) hr rfl (fun e => by have := hA e; simp at this)
  clear hown hk hc hr hA HS5 HO5
  have ks : str [98] = ⟨#[98]⟩ := rfl
  rw [ks] at kb
  go_wp2_with fail
  refine (writes_any _ _ sb _ HS6.out).mono ?_
  rintro e w7 ⟨rfl, rfl⟩
  go_wp2_with fail
  refine (used_any _ _ sb _ HS6.out).mono ?_
  rintro e w7 ⟨rfl, rfl⟩
  go_wp2_with fail
  go_ret
  exact ⟨rfl, HO6.out.below⟩
end Go.Proofs.Ytbkpjjibgnachaa
