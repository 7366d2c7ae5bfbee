/- Strings of slices. Conditions: none. -/
import Derived.Test.YtkglkpcpgdeneaaStApp
import Derived.Test.YtkglkpcpgdeneaaStr
import Derived.Test.YtkglkpcpgdeneaaRows
namespace Go.Proofs.Ytkglkpcpgdeneaa
open Go.RowKit

section
variable {w0 w : World} {l : List Part}
/-- The string of a slice that reads so. -/
theorem conv_rd {A : Option Addr} {n c : Nat} {L : List UInt8} (hr : RdV w A (bys L)) (hn : n = L.length) (hA : A = none → n = 0) (_ : True) : (convert 42 9 (.slice A n c)).run Try.prog w = .ok (.string (str L)) w :=
  run_bytes_str (P := Try.prog) 42 9 5 Try.underlying42 Try.underlying5 Try.underlying9 n c hr hn (fun e => List.eq_nil_of_length_eq_zero (by have := hA e; omega))
theorem conv_own {A : Option Addr} {n c : Nat} {L : List UInt8} (h : St w0 w (ownP 5 1 (.slice A n c) n (bys L) :: l)) (_ : True) : (convert 42 9 (.slice A n c)).run Try.prog w = .ok (.string (str L)) w :=
  conv_rd h.own_rdv.1 (by have := h.own_len; rw [bys_length] at this; omega) h.own_rdv.2.2.2 trivial
end
end Go.Proofs.Ytkglkpcpgdeneaa
