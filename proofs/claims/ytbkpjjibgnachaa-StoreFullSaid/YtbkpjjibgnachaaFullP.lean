/- StoreFull's plain law: the store beside the list of what has room. No program in sight. Conditions: none. -/
import Derived.Test.YtbkpjjibgnachaaStoreN
namespace Go.Proofs.Ytbkpjjibgnachaa
/-- The runs that have bytes, and how many. -/
structure FullOk (room : Int) (S : StoreM) (i : Nat) (ids : List Int) (sizes : List Nat) : Prop where
  ok : S.Ok
  room : S.room = room
  fails : S.fails = []
  next : S.next = i
  writes : S.writes = i
  len : ids.length = sizes.length
  has : ∀ (k : Nat) (id : Int) (n : Nat), ids[k]? = some id → sizes[k]? = some n → ∃ b, S.find id = some b ∧ b.length = n
  apart : ids.Nodup
  below : ∀ id ∈ ids, id < i
theorem full_start (room : Int) (h : room ≤ 9223372036854775807) (h0 : 0 ≤ room) : FullOk room (StoreM.made room []) 0 [] [] :=
  ⟨StoreM.ok_made room [] h, by simp [StoreM.made]; omega, rfl, rfl, rfl, rfl, fun k id n h => by simp at h, List.nodup_nil, fun id h => by cases h⟩
section
variable {room : Int} {S : StoreM} {i : Nat} {ids : List Int} {sizes : List Nat}
theorem nodup_below : ∀ (i : Nat) (l : List Int), l.Nodup → (∀ x ∈ l, 0 ≤ x ∧ x < i) → l.length ≤ i
  | 0, l, _, hb => by
    cases l with
    | nil => simp
    | cons x r => have := hb x List.mem_cons_self; omega
  | i + 1, l, hn, hb => by
    have h1 := nodup_below i (l.filter fun (x : Int) => x != (i : Int)) (hn.filter _) (fun x hx => by
      rw [List.mem_filter] at hx
      have := hb x hx.1
      have h2 : x ≠ i := by simpa using hx.2
      omega)
    have h2 : l.length ≤ (l.filter fun (x : Int) => x != (i : Int)).length + 1 := by
      clear h1 hb
      induction l with
      | nil => simp
      | cons x r ih =>
        rw [List.nodup_cons] at hn
        by_cases c : x = i
        · rw [List.filter_cons_of_neg (by simpa using c)]
          have : r.filter (fun (y : Int) => y != (i : Int)) = r := List.filter_eq_self.2 (fun y hy => by simp; exact fun e => hn.1 (by rw [c, ← e]; exact hy))
          rw [this]; simp
        · rw [List.filter_cons_of_pos (by simpa using c)]
          have := ih hn.2
          simp; omega
    omega
theorem FullOk.small (h : FullOk room S i ids sizes) (hi : i ≤ 200) : ids.length ≤ 200 ∧ sizes.length ≤ 200 := by
  have h1 := nodup_below i ids h.apart (fun x hx => by
    obtain ⟨k, hk, rfl⟩ := List.getElem_of_mem hx
    have hk2 : k < sizes.length := by rw [← h.len]; exact hk
    obtain ⟨b, hb, _⟩ := h.has k _ _ (List.getElem?_eq_getElem hk) (List.getElem?_eq_getElem hk2)
    exact ⟨(h.ok.below _ (StoreM.find_some hb).1).1, h.below _ hx⟩)
  have := h.len
  omega
/-- Behind Create. -/
theorem FullOk.made (h : FullOk room S i ids sizes) (hi : i < 65536) : S.create.Ok ∧ S.create.room = room ∧ S.create.fails = [] ∧ S.create.next = i + 1 ∧ S.create.writes = i ∧ S.create.used = S.used ∧ S.create.find i = some [] ∧
    (∀ (k : Nat) (id : Int) (n : Nat), ids[k]? = some id → sizes[k]? = some n → ∃ b, S.create.find id = some b ∧ b.length = n) := by
  have hn : S.next < 65536 := by rw [h.next]; omega
  obtain ⟨e1, e2, e3, e4, e5, _⟩ := StoreM.create_ok hn
  refine ⟨h.ok.create, by rw [e3, h.room], by rw [e5, h.fails], by rw [e1, h.next], by rw [e4, h.writes], e2, by rw [StoreM.find_create h.ok hn, h.next, if_pos rfl], fun k id n h1 h2 => ?_⟩
  obtain ⟨b, hb, hl⟩ := h.has k id n h1 h2
  have := h.below id (List.mem_of_getElem? h1)
  exact ⟨b, by rw [StoreM.find_create h.ok hn, h.next, if_neg (by omega)]; exact hb, hl⟩
theorem FullOk.appE (h : FullOk room S i ids sizes) (hi : i < 65536) (b : List UInt8) : S.create.appendE i b = if S.used + b.length ≤ room then 0 else 12 := by
  obtain ⟨_, e2, e3, _, _, e6, e7, _⟩ := h.made hi
  unfold StoreM.appendE
  rw [e7]
  simp only [e3, List.not_mem_nil, if_false]
  rw [e2, e6]
  by_cases c : S.used + b.length ≤ room
  · rw [if_neg (by omega), if_pos c]
  · rw [if_pos (by omega), if_neg c]
/-- There was room. -/
theorem FullOk.put (h : FullOk room S i ids sizes) (hi : i < 65536) (b : List UInt8) (hr : S.used + b.length ≤ room) : FullOk room (S.create.append i b) (i + 1) (ids ++ [(i : Int)]) (sizes ++ [b.length]) ∧ (S.create.append i b).used = S.used + b.length := by
  obtain ⟨e1, e2, e3, e4, e5, e6, e7, e8⟩ := h.made hi
  have ea : S.create.append i b = S.create.add i b := by
    unfold StoreM.append
    rw [e7]
    simp only [e3, List.not_mem_nil, if_false]
    rw [if_neg (by omega)]
  rw [ea]
  refine ⟨⟨?_, e2, e3, ?_, ?_, by simp [h.len], fun k id n h1 h2 => ?_, ?_, fun id hid => ?_⟩, ?_⟩
  · have := e1.append i b
    rwa [ea] at this
  · show S.create.next = _; rw [e4]; rfl
  · show S.create.writes + 1 = _; rw [e5]; rfl
  · rw [StoreM.find_add]
    have hk : k < ids.length ∨ k = ids.length := by
      have := (List.getElem?_eq_some_iff.1 h1).1
      simp at this; omega
    rcases hk with hk | rfl
    · rw [List.getElem?_append_left hk] at h1
      rw [List.getElem?_append_left (by rw [← h.len]; exact hk)] at h2
      obtain ⟨c, hc, hl⟩ := e8 k id n h1 h2
      have := h.below id (List.mem_of_getElem? h1)
      exact ⟨c, by rw [hc, Option.map_some, if_neg (by omega)], hl⟩
    · rw [List.getElem?_append_right (Nat.le_refl _)] at h1
      rw [List.getElem?_append_right (by rw [h.len]; exact Nat.le_refl _), h.len] at h2
      simp at h1 h2
      subst h1
      exact ⟨[] ++ b, by rw [e7]; simp, by simpa using h2⟩
  · rw [List.nodup_append]
    exact ⟨h.apart, by simp, fun a ha b hb => by rw [List.mem_singleton.1 hb]; have := h.below a ha; omega⟩
  · rcases List.mem_append.1 hid with hid | hid
    · have := h.below id hid; omega
    · rw [List.mem_singleton.1 hid]; omega
  · show S.create.used + _ = _; rw [e6]
/-- There was none. -/
theorem FullOk.none (h : FullOk room S i ids sizes) (hi : i < 65536) (b : List UInt8) (hr : ¬ S.used + b.length ≤ room) : FullOk room (S.create.append i b) (i + 1) ids sizes ∧ (S.create.append i b).used = S.used := by
  obtain ⟨e1, e2, e3, e4, e5, e6, e7, e8⟩ := h.made hi
  have ea : S.create.append i b = { S.create with writes := S.create.writes + 1 } := by
    unfold StoreM.append
    rw [e7]
    simp only [e3, List.not_mem_nil, if_false]
    rw [if_pos (by omega)]
  rw [ea]
  refine ⟨⟨e1.wrote, e2, e3, ?_, ?_, h.len, e8, h.apart, fun id hid => by have := h.below id hid; omega⟩, e6⟩
  · show S.create.next = _; rw [e4]; rfl
  · show S.create.writes + 1 = _; rw [e5]; rfl
/-- The first one is dropped. -/
theorem FullOk.drop {id : Int} {n : Nat} (h : FullOk room S i (id :: ids) (n :: sizes)) : S.dropE' id = 0 ∧ FullOk room (S.drop id) i ids sizes ∧ (S.drop id).used = S.used - n := by
  obtain ⟨b, hb, hl⟩ := h.has 0 id n rfl rfl
  have ed : S.drop id = { S with used := S.used - b.length, runs := S.runs.eraseP fun p => p.1 == id } := by unfold StoreM.drop; rw [hb]
  have hap := h.apart
  rw [List.nodup_cons] at hap
  refine ⟨by unfold StoreM.dropE'; rw [hb]; rfl, ⟨h.ok.drop id, by rw [ed]; exact h.room, by rw [ed]; exact h.fails, by rw [ed]; exact h.next, by rw [ed]; exact h.writes, by have := h.len; simpa using this, fun k id' n' h1 h2 => ?_, hap.2, fun x hx => h.below x (List.mem_cons_of_mem _ hx)⟩, by rw [ed, hl]⟩
  obtain ⟨c, hc, hl'⟩ := h.has (k + 1) id' n' (by simpa using h1) (by simpa using h2)
  exact ⟨c, by rw [StoreM.find_drop h.ok, if_neg (fun e => hap.1 (by rw [← e]; exact List.mem_of_getElem? h1))]; exact hc, hl'⟩
end
end Go.Proofs.Ytbkpjjibgnachaa
