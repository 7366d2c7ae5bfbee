/- StorePlays, whatever is handed in. Conditions: none. -/
import Derived.Test.YtbkpjjibgnachaaStorePlays
namespace Go.Proofs.Ytbkpjjibgnachaa
open Go.RowKit
theorem storePlays_walk (w : World) (room : Int) (hroom : IntKind.i64.min ≤ room ∧ room ≤ IntKind.i64.max) (Af : Option Addr) (nf cf : Nat) (zs : List Int) (hz : nf = zs.length) (_ : nf ≤ cf) (hrf : RdV w Af (zs.map (Value.int .i64))) (hnf : Af = none → zs = []) (_ : ∀ x ∈ zs, (Lit.int .i64 x).wf = true) (_ : nf * 8 ≤ 140737488351232)
    (A : Option Addr) (n c : Nat) (L : List OpI) (hn : n = L.length) (_ : n ≤ c) (_ : c ≤ 9223372036854775807) (hr : RdO w A L) (hok : ∀ x ∈ L, OpOk w x) :
    Calls Try.prog 8 #[.int .i64 room, .slice Af nf cf, .slice A n c] w fun e w' => e = .returned (.bool true) ∧ Below w.heap.size w w' := by
  by_cases hb : 100 < nf ∨ 100 < n
  · refine (plays_big w room Af nf cf A n c hb).mono ?_
    rintro e w' ⟨h1, h2⟩
    exact ⟨h1, h2.below (Nat.le_refl _) (fun _ _ h => h)⟩
  · subst hz hn
    have h2 : room ≤ 9223372036854775807 := hroom.2
    refine (plays_small w room h2 Af cf zs hrf (by omega) hnf A c L hr hok (by omega)).mono ?_
    rintro e w' ⟨h1, h2⟩
    exact ⟨h1, h2.below (Nat.le_refl _) (fun _ _ h => h)⟩
end Go.Proofs.Ytbkpjjibgnachaa
