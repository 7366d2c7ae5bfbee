/- Law 13's own functions over parts of memory. Conditions: none. -/
import Derived.Test.YtbkpjjibgnachaaStRec
import Derived.Test.YtbkpjjibgnachaaLaw13
import Derived.Test.YtbkpjjibgnachaaLight13
namespace Go.Proofs.Ytbkpjjibgnachaa
open Go.RowKit

def ItSmall (x : It) : Prop := x.k.size + x.n ≤ 281474976710656
section
variable {w0 w : World} {l : List Part}
theorem St.ans13 (h : St w0 w l) : Calls Try.prog 37 #[] w fun e w' => e = .returned (.bool true) ∧ St w0 w' l :=
  (answers13 w).mono fun _ _ ⟨h1, h2⟩ => ⟨h1, h.later h2⟩
theorem St.light13 (h : St w0 w l) (a : Option Addr) (n c : Nat) (L : List It) (b : Bool) (hn : n = L.length) (hr : RdI w a L) (hl : L.length ≤ 4611686018427387904) (hs : ∀ x ∈ L, ItSmall x) (hb : decide (L.length ≤ 200 ∧ wsum L ≤ 200000) = b) :
    Calls Try.prog 36 #[.slice a n c] w fun e w' => e = .returned (.bool b) ∧ St w0 w' l := by
  subst hb hn
  exact (Go.Proofs.Ytbkpjjibgnachaa.light13 a c L w hr hl hs).mono fun _ _ ⟨h1, h2⟩ => ⟨h1, h.later h2⟩
end
end Go.Proofs.Ytbkpjjibgnachaa
