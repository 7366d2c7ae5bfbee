/- Sort, as laws 17 call it: by a store that has room. Conditions: none. -/
import Derived.Test.YtkglkpcpgdeneaaLaws17
namespace Go.Proofs.Ytkglkpcpgdeneaa
open Go.RowKit
set_option linter.unusedVariables false
set_option linter.unusedSimpArgs false

/-- What a sort by a store that has room leads to. -/
def Sort17 (w : World) (l : List Part) (sb : Nat) (bud : Int) (fan : Nat) (items : List K3i) (e : Ending) (w' : World) : Prop :=
  ∃ (T : StoreM) (A : Option Addr) (c : Nat) (Y : List ItX) (rows : RowsM) (pk rn mg : Int), runO (StoreM.made 16777216 []) (sortO 0 bud fan items) = (T, 0) ∧ T.used = 0 ∧ T.peak ≤ 2 * sumK items ∧ rn = (chunks bud [] items).length ∧ mg = (tailK (chunks bud [] items).length fan ((chunks bud [] items).map (srt ltK))).2 ∧
    e = .returned (.tuple #[.slice A Y.length c, .agg #[.int .i64 pk, .int .i64 rn, .int .i64 mg], .int .i64 0]) ∧ Y.map keyX = srt ltK (tailK (chunks bud [] items).length fan ((chunks bud [] items).map (srt ltK))).1.flatten ∧ OutX rows Y ∧ PkF bud fan items.length pk ∧
    St w w' (ownP 44 3 (.slice A Y.length c) Y.length (flatI (Y.map Prod.fst)) :: rdsP rows :: storeP sb T :: l)
theorem St.sort17 {w u : World} {l : List Part} {sb : Nat} {X : List ItX} (h : St w u (storeP sb (StoreM.made 16777216 []) :: l)) (a : Option Addr) (n c : Nat) (hsrc : ∀ v, St w v l → RdI v a (X.map Prod.fst) ∧ ∀ x ∈ X, DatI v x.1 x.2) (hn : n = X.length) (hl : X.length ≤ 200) (hs : sumK (X.map keyX) ≤ 103200) (hmay : ∀ x ∈ X, mayK (keyX x) = true) (bud : Int) (hb : 2 ≤ bud) (fan : Nat) (fani : Int) (hfi : fani = fan) (hf : 2 ≤ fan) :
    Calls Try.prog 17 #[.pointer (some ⟨sb, 0, none⟩), .slice a n c, .int .i64 bud, .int .i64 fani] u (Sort17 w l sb bud fan (X.map keyX)) := by
  refine (so_sort h a n c X hn hsrc hmay bud hb fan fani hfi hf (by omega) (by omega) (StoreM.ok_made 16777216 [] (by omega)) rfl (by decide) (by decide)).mono ?_
  intro e w4 hso
  obtain ⟨T, A, c4, Y, rows, pk, h1, h2, h3, rfl, h5, h6, h7, h8⟩ := sort_good (StoreM.ok_made 16777216 [] (by omega)) rfl rfl (by decide) hf (by rw [List.length_map]; omega) (by show _ ≤ (16777216 : Int); omega) hso
  refine ⟨T, A, c4, Y, rows, pk, _, _, h1, h2, ?_, rfl, rfl, rfl, h5, h6, h7, h8⟩
  have h9 : (StoreM.made 16777216 []).peak = 0 := rfl
  rw [h9] at h3
  omega
theorem out_rd {w w' : World} {l : List Part} {A : Option Addr} {n c : Nat} {Y : List ItX} {rows : RowsM} (h : St w w' (ownP 44 3 (.slice A n c) n (flatI (Y.map Prod.fst)) :: rdsP rows :: l)) (hO : OutX rows Y) : RdI w' A (Y.map Prod.fst) ∧ ∀ x ∈ Y, DatI w' x.1 x.2 :=
  ⟨h.own_it, h.tail.out_dat hO⟩
end Go.Proofs.Ytkglkpcpgdeneaa
