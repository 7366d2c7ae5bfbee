/- An append as a move of HeldM. No program in sight. Conditions: none. -/
import Derived.Test.YtbkpjjibgnachaaHeldM
import Derived.Test.YtbkpjjibgnachaaJoinP
namespace Go.Proofs.Ytbkpjjibgnachaa
open Go.RowKit
theorem got_append_st {P : Program} {w0 w : World} {l : List Part} {o : Oper} {a : Act} {T : World → World → Prop} (V : Value → World → Prop) (s x : Operand) (t tx : TypeId)
    (ho : o.op = .call { callee := .builtin .append, args := #[s, x], argTypes := #[t, tx] })
    (e : TypeId) (z : Value) (size bytes : Nat) (ht : P.underlying t = some (.slice e)) (hinfo : (P.info? e).map (fun i => (i.zero, i.size, i.bytes)) = some (some z, size, bytes)) (hzs : z.cells.size = size) (hsz : 0 < size)
    (v : Value) (n : Nat) (xs : List Value) (hs : a.eval s = v) (HS : St w0 w (ownP e size v n xs :: l))
    (xv : Value) (m : Nat) (news : List Value) (hx : a.eval x = xv) (hsrc : Src P size tx xv m news w)
    (h63 : n + m ≤ maxLen) (hbytes : (n + m) * bytes ≤ 140737488355328)
    (h : ∀ A c w', n + m ≤ c → (A = none → n + m = 0) → St w0 w' (ownP e size (.slice A (n + m) c) (n + m) (xs ++ news) :: l) → T w w' ∧ V (.slice A (n + m) c) w') : gotAt P T o a w V := by
  obtain ⟨i0, hi, hzz⟩ := Option.map_eq_some_iff.1 hinfo
  simp only [Prod.mk.injEq] at hzz
  obtain ⟨hz0, hz1, hz2⟩ := hzz
  obtain ⟨v', w', hr, h1, h2, h3⟩ := run_append_own_src (P := P) w w0.heap.size t tx o.type e i0 z size bytes ht hi hz0 hz1 hz2 hzs hsz v n xs (hs ▸ HS.own) xv m news hsrc h63 hbytes HS.size
  have hg := HS.grown h1 ((Keep.of_grown h2).mono (fun k _ hk => .inl hk)) (by
    rcases h3 with h3 | h3
    · exact .inl h3
    · exact .inr ⟨_, h3, Nat.le_refl _⟩)
  obtain ⟨A, c, rfl, hc, _, hn⟩ := own_rd h1
  unfold gotAt execOp
  simp only [ho, resolve, invoke, builtin, Sem.run_bind, Sem.run_pure, Result.andThen_ok, List.map_toArray, List.map_cons, List.map_nil, hs, hx, hr]
  exact h A c w' hc hn hg
end Go.Proofs.Ytbkpjjibgnachaa
