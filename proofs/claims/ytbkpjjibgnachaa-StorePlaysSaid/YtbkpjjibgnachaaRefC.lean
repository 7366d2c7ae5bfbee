/- Appends of one to rows and to marks, in a region that draws its order. Conditions: none. -/
import Derived.Test.YtbkpjjibgnachaaRefA
namespace Go.Proofs.Ytbkpjjibgnachaa
open Go.RowKit
theorem infoRow : (Try.prog.info? 28).map (fun i => (i.zero, i.size, i.bytes)) = some (some (.slice none 0 0), 1, 24) := by kernel_rfl
theorem infoMark : (Try.prog.info? 4).map (fun i => (i.zero, i.size, i.bytes)) = some (some (.bool false), 1, 1) := by kernel_rfl
section
variable {w0 w : World} {l : List Part}
theorem St.boxB (h : St w0 w l) (cs : List Value) (T : TypeId) (b : Nat) (hb : b = w.heap.size) : St w0 (w.alloc (.cells cs.toArray T)) (blkP b T cs :: l) := by
  subst hb; exact h.box cs T
theorem St.blk_rd {g : Nat} {T : TypeId} {cs : List Value} (h : St w0 w (blkP g T cs :: l)) : RdV w (some ⟨g, 0, none⟩) cs := by
  have := RdV.of_blk h.blk.1 0 cs.length
  rwa [List.drop_zero, List.take_length] at this
/-- One more row, and it is none. -/
theorem step_row {ops : Array Oper} {o : Oper} {a : Act} {K : Act → World → Prop} {Q : Exit → Act → World → Prop} {E : Prop} (hgd : o.guard = none) (s x : Operand)
    (ho : o.op = .call { callee := .builtin .append, args := #[s, x], argTypes := #[22, 22] })
    {A : Option Addr} {n c g : Nat} {T : TypeId} {xs : List Value} (HS : St w0 w (ownP 28 1 (.slice A n c) n xs :: blkP g T [.slice none 0 0] :: l)) (hs : a.eval s = .slice A n c) (hx : a.eval x = .slice (some ⟨g, 0, none⟩) 1 1) (hn : n ≤ 1000000)
    (h : ∀ A c w', St w0 w' (ownP 28 1 (.slice A (n + 1) c) (n + 1) (xs ++ [.slice none 0 0]) :: blkP g T [.slice none 0 0] :: l) → K (a.put o.dst (.slice A (n + 1) c)) w') :
    if Region.wanted o (yielded ops a.tmps) = true then Oper.wp Try.prog o a w K Q else E := by
  refine step_append_st hgd s x 22 22 ho 28 (.slice none 0 0) 1 24 Try.underlying22 infoRow rfl (by decide) (.slice A n c) n xs hs HS (.slice (some ⟨g, 0, none⟩) 1 1) 1 [.slice none 0 0] hx
    (Src.of_rd Try.underlying22 HS.tail.blk_rd 1 1 rfl (by intro u hu; simp at hu; subst hu; rfl) (fun e => by cases e)) (by unfold maxLen; omega) (by omega) ?_
  intro A' c' w' _ _ h1
  exact h A' c' w' h1
/-- One more mark. -/
theorem step_mark {ops : Array Oper} {o : Oper} {a : Act} {K : Act → World → Prop} {Q : Exit → Act → World → Prop} {E : Prop} (hgd : o.guard = none) (s x : Operand)
    (ho : o.op = .call { callee := .builtin .append, args := #[s, x], argTypes := #[41, 41] })
    {A : Option Addr} {n c g : Nat} {T : TypeId} {xs : List Value} {b : Bool} (HS : St w0 w (ownP 4 1 (.slice A n c) n xs :: blkP g T [.bool b] :: l)) (hs : a.eval s = .slice A n c) (hx : a.eval x = .slice (some ⟨g, 0, none⟩) 1 1) (hn : n ≤ 1000000)
    (h : ∀ A c w', St w0 w' (ownP 4 1 (.slice A (n + 1) c) (n + 1) (xs ++ [.bool b]) :: blkP g T [.bool b] :: l) → K (a.put o.dst (.slice A (n + 1) c)) w') :
    if Region.wanted o (yielded ops a.tmps) = true then Oper.wp Try.prog o a w K Q else E := by
  refine step_append_st hgd s x 41 41 ho 4 (.bool false) 1 1 Try.underlying41 infoMark rfl (by decide) (.slice A n c) n xs hs HS (.slice (some ⟨g, 0, none⟩) 1 1) 1 [.bool b] hx
    (Src.of_rd Try.underlying41 HS.tail.blk_rd 1 1 rfl (by intro u hu; simp at hu; subst hu; rfl) (fun e => by cases e)) (by unfold maxLen; omega) (by omega) ?_
  intro A' c' w' _ _ h1
  exact h A' c' w' h1
/-- The reference's store, one row more: the rows' place. -/
theorem St.ref_more1 {rb nf cf : Nat} {Af : Option Addr} {R : RefM} {x : RefW} {p q : Part} {v : Value}
    (h : St w0 w (blkP rb 61 (x.cells Af nf cf R) :: p :: q :: l)) :
    w.cell? ⟨rb, 2, none⟩ = some (.slice x.A2 R.runs.length x.c2) ∧ w.frozen? ⟨rb, 2, none⟩ = false ∧ St w0 (w.setCell ⟨rb, 2, none⟩ v) (blkP rb 61 ((x.cells Af nf cf R).set 2 v) :: p :: q :: l) :=
  ⟨h.blk.1.cell 2, h.blk.1.free 2, h.set 2 v⟩
/-- One row more: the marks' place. -/
theorem St.ref_more2 {rb nf cf : Nat} {Af : Option Addr} {R : RefM} {x : RefW} (hx : x.rows.map (·.2.2) = R.runs) {A2 A3 : Option Addr} {c2 c3 : Nat}
    (h : St w0 w (blkP rb 61 ((x.cells Af nf cf R).set 2 (.slice A2 (R.runs.length + 1) c2)) :: ownP 28 1 (.slice A2 (R.runs.length + 1) c2) (R.runs.length + 1) (x.rows.map rowV ++ [.slice none 0 0]) :: ownP 4 1 (.slice A3 (R.runs.length + 1) c3) (R.runs.length + 1) (R.there.map Value.bool ++ [.bool true]) :: rdsP x.rows :: l)) :
    w.cell? ⟨rb, 3, none⟩ = some (.slice x.A3 R.runs.length x.c3) ∧ w.frozen? ⟨rb, 3, none⟩ = false ∧
    St w0 (w.setCell ⟨rb, 3, none⟩ (.slice A3 (R.runs.length + 1) c3)) (refP rb Af nf cf R.create :: l) := by
  have h3 := h.set 3 (.slice A3 (R.runs.length + 1) c3)
  refine ⟨h.blk.1.cell 3, h.blk.1.free 3, ?_⟩
  have h4 := St.rds_sub (rows' := x.rows ++ [(none, 0, [])]) h3.nth4 (fun r hr => by
    rcases List.mem_append.1 hr with h | h
    · exact .inl h
    · exact .inr (by simpa using h))
  have e : R.create.runs.length = R.runs.length + 1 := by unfold RefM.create; rw [List.length_append]; rfl
  refine St.ref_mk (R := R.create) ⟨A2, c2, A3, c3, x.rows ++ [(none, 0, [])]⟩ ?_ ?_
  · show (x.rows ++ [(none, 0, [])]).map _ = R.runs ++ [[]]
    rw [List.map_append, hx]; rfl
  · unfold RefW.cells
    rw [e, List.map_append, show R.create.there = R.there ++ [true] from rfl, List.map_append]
    exact h4.nth4.nth4.nth4
end
end Go.Proofs.Ytbkpjjibgnachaa
