/- What walks of drawn regions need of the record's functions. Conditions: none. -/
import Derived.Test.YtbkpjjibgnachaaStRec
import Derived.Test.YtbkpjjibgnachaaHeldG
import Derived.Test.YtbkpjjibgnachaaSel
namespace Go.Proofs.Ytbkpjjibgnachaa
open Go.RowKit

/-- A slice that reads so. -/
def SliceV (n : Nat) (L : List UInt8) (v : Value) (w : World) : Prop := ∃ A c, v = .slice A n c ∧ n = L.length ∧ n ≤ c ∧ RdV w A (bys L) ∧ (A = none → n = 0)
theorem SliceV.stays (n : Nat) (L : List UInt8) (v : Value) : Stays Anew (SliceV n L v) := fun _ _ ⟨A, c, h1, h2, h3, h4, h5⟩ k => ⟨A, c, h1, h2, h3, h4.old k, h5⟩
theorem St.stays (w0 : World) (l : List Part) : Stays Anew (fun u => St w0 u l) := fun _ _ h k => St.later h k
theorem St.stays2 (w0 : World) (l : List Part) (V : World → Prop) (hV : Stays Anew V) : Stays Anew (fun u => St w0 u l ∧ V u) := fun _ _ h k => ⟨St.later h.1 k, hV _ _ h.2 k⟩
theorem bytes_v {w : World} (x : It) (d : List UInt8) (N : Nat) (L : List UInt8) (hN : N = itN x) (hL : L = putL x.k x.s d) (hd : DatI w x d) (hm : mayI x.k x.s x.n = true) :
    Calls Try.prog 41 #[.agg #[.string x.k, .int .i64 x.s, .slice x.A x.n x.c]] w fun e w' => ∃ v, e = .returned v ∧ Anew w w' ∧ SliceV N L v w' := by
  subst hN hL
  obtain ⟨m1, m2, m3, m4⟩ := may_parts hm
  refine (refbytes_any x.k x.s x.A x.n x.c d w hd.1 hd.2.2.1 hd.2.2.2 m1 m2 m3 m4).mono ?_
  rintro e w' ⟨A, c, he, h1, _, h3, h4⟩
  obtain ⟨A', c', e1, _, hr, hn⟩ := own_rd h3
  injection e1 with e2 _ e4
  subst e2 e4
  exact ⟨_, he, h4, A, c, rfl, by have := h3.1; rw [bys_length] at this; unfold itN at *; omega, h1, hr, hn⟩
theorem same_g {w : World} (p q : It) (d d' : List UInt8) (b : Bool) (hb : sameB p q d d' = b) (h1 : DatI w p d) (h2 : DatI w q d') :
    Calls Try.prog 30 #[.agg #[.string p.k, .int .i64 p.s, .slice p.A p.n p.c], .agg #[.string q.k, .int .i64 q.s, .slice q.A q.n q.c]] w fun e w' => e = .returned (.bool b) ∧ Anew w w' := by
  have h := St.ref_same (St.start w) p q d d' b hb h1 h2
  exact h.mono fun _ _ ⟨g1, g2⟩ => ⟨g1, g2.keep⟩
end Go.Proofs.Ytbkpjjibgnachaa
