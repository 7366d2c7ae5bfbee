/- Some of the parts of memory, in whatever order. No program in sight. Conditions: none. -/
import Derived.Test.YtkglkpcpgdeneaaSt
namespace Go.Proofs.Ytkglkpcpgdeneaa
open Go.RowKit

theorem range_get {α : Type} : ∀ (l : List α), (List.range l.length).filterMap (fun i => l[i]?) = l
  | [] => rfl
  | a :: l => by
    rw [List.length_cons, List.range_succ_eq_map, List.filterMap_cons, List.filterMap_map]
    have := range_get l
    simp only [List.getElem?_cons_zero]
    congr 1
theorem perm_pick {n : Nat} {is : List Nat} (hn : is.Nodup) (hb : ∀ i ∈ is, i < n) : (is ++ (List.range n).filter (fun i => !is.contains i)).Perm (List.range n) := by
  refine List.Perm.trans ?_ (List.filter_append_perm (fun i => is.contains i) (List.range n))
  refine List.Perm.append_right _ ?_
  refine (List.perm_ext_iff_of_nodup hn (List.nodup_range.filter _)).2 fun i => ?_
  simp
  exact fun h => hb i h
theorem St.app {w0 w : World} {b : List Part} : ∀ {a : List Part}, St w0 w (b ++ a) → St w0 w a := by
  induction b with
  | nil => exact fun h => h
  | cons p b ih => exact fun h => ih h.tail
/-- Some of the parts, in this order. -/
theorem St.sel {w0 w : World} {l : List Part} (h : St w0 w l) (is : List Nat) (hn : is.Nodup) (hb : ∀ i ∈ is, i < l.length) : St w0 w (is.filterMap fun i => l[i]?) := by
  have hp := (perm_pick hn hb).symm.filterMap (fun i => l[i]?)
  rw [range_get, List.filterMap_append] at hp
  exact (h.perm (hp.trans List.perm_append_comm)).app
end Go.Proofs.Ytkglkpcpgdeneaa
