/- The scratch store as plain data: room, counters, the writes that fail, and the runs with their bytes. Conditions: none. -/
import Derived.Test.YtkglkpcpgdeneaaMaps
namespace Go.Proofs.Ytkglkpcpgdeneaa
open Go.RowKit

def bys (l : List UInt8) : List Value := l.map fun b => Value.int .u8 (b.toNat : Int)
theorem bys_length (l : List UInt8) : (bys l).length = l.length := by simp [bys]
theorem bys_append (l m : List UInt8) : bys (l ++ m) = bys l ++ bys m := by simp [bys]
theorem one_bys (l : List UInt8) : ∀ u ∈ bys l, u.oneCell' = true := by
  intro u hu
  obtain ⟨_, _, rfl⟩ := List.mem_map.1 hu
  rfl

structure StoreM where
  room : Int
  next : Int
  used : Int
  peak : Int
  writes : Int
  fails : List Int
  runs : List (Int × List UInt8)

namespace StoreM
def find (S : StoreM) (n : Int) : Option (List UInt8) := (S.runs.find? fun p => p.1 == n).map (·.2)
def made (room : Int) (fails : List Int) : StoreM := ⟨max room 0, 0, 0, 0, 0, fails, []⟩
def create (S : StoreM) : StoreM := if S.next ≥ 65536 then S else { S with next := S.next + 1, runs := S.runs ++ [(S.next, [])] }
def add (S : StoreM) (n : Int) (b : List UInt8) : StoreM := { S with writes := S.writes + 1, used := S.used + b.length, peak := max S.peak (S.used + b.length), runs := S.runs.map fun p => if p.1 == n then (p.1, p.2 ++ b) else p }
def appendE (S : StoreM) (n : Int) (b : List UInt8) : Int :=
  match S.find n with
  | none => 14
  | some _ => if S.writes ∈ S.fails then 13 else if (b.length : Int) > S.room - S.used then 12 else 0
def append (S : StoreM) (n : Int) (b : List UInt8) : StoreM :=
  match S.find n with
  | none => S
  | some _ => if S.writes ∈ S.fails then { S with writes := S.writes + 1 } else if (b.length : Int) > S.room - S.used then { S with writes := S.writes + 1 } else S.add n b
def drop (S : StoreM) (n : Int) : StoreM :=
  match S.find n with
  | none => S
  | some b => { S with used := S.used - b.length, runs := S.runs.eraseP fun p => p.1 == n }
/-- What holds of every store that was made. -/
structure Ok (S : StoreM) : Prop where
  next0 : 0 ≤ S.next
  next1 : S.next ≤ 65536
  used0 : 0 ≤ S.used
  used1 : S.used ≤ S.room
  room1 : S.room ≤ 9223372036854775807
  peak0 : 0 ≤ S.peak
  peak1 : S.peak ≤ S.room
  writes0 : 0 ≤ S.writes
  sum : S.used = ((S.runs.map fun p => p.2.length).sum : Nat)
  ids : S.runs.Pairwise fun p q => p.1 ≠ q.1
  below : ∀ p ∈ S.runs, 0 ≤ p.1 ∧ p.1 < S.next

theorem ok_made (room : Int) (fails : List Int) (h : room ≤ 9223372036854775807) : (made room fails).Ok :=
  ⟨by simp [made], by simp [made], by simp [made], by simp [made]; omega, by simp [made]; omega, by simp [made], by simp [made]; omega, by simp [made], by simp [made], by simp [made], by simp [made]⟩
theorem find_next {S : StoreM} (h : S.Ok) : S.runs.find? (fun p => p.1 == S.next) = none := by
  rw [List.find?_eq_none]
  intro p hp
  have := (h.below p hp).2
  simp; omega
theorem Ok.create {S : StoreM} (h : S.Ok) : S.create.Ok := by
  unfold StoreM.create
  split
  · exact h
  · rename_i hlt
    refine ⟨by have := h.next0; simp; omega, by simp; omega, h.used0, h.used1, h.room1, h.peak0, h.peak1, h.writes0, by simp [h.sum], ?_, ?_⟩
    · refine List.pairwise_append.2 ⟨h.ids, by simp, fun p hp q hq => ?_⟩
      simp at hq
      subst hq
      have := (h.below p hp).2
      simp; omega
    · intro p hp
      have h0 := h.next0
      simp only [List.mem_append, List.mem_singleton] at hp
      rcases hp with hp | rfl
      · have := h.below p hp
        exact ⟨this.1, by simp; omega⟩
      · exact ⟨h0, by simp; omega⟩
theorem find_some {S : StoreM} {n : Int} {bs : List UInt8} (h : S.find n = some bs) : (n, bs) ∈ S.runs ∧ S.runs.find? (fun p => p.1 == n) = some (n, bs) := by
  unfold find at h
  rw [Option.map_eq_some_iff] at h
  obtain ⟨p, hp, rfl⟩ := h
  have h1 := List.find?_some hp
  have h2 := List.mem_of_find?_eq_some hp
  simp at h1
  subst h1
  exact ⟨h2, hp⟩
theorem sum_len_map (n : Int) (b : List UInt8) : ∀ (l : List (Int × List UInt8)), l.Pairwise (fun p q => p.1 ≠ q.1) → (l.find? fun p => p.1 == n).isSome = true →
    ((l.map fun p => if p.1 == n then (p.1, p.2 ++ b) else p).map fun p => p.2.length).sum = (l.map fun p => p.2.length).sum + b.length
  | [], _, h => by simp at h
  | p :: r, hp, h => by
    obtain ⟨h1, h2⟩ := List.pairwise_cons.1 hp
    by_cases e : p.1 = n
    · have hr : (r.map fun p => if p.1 == n then (p.1, p.2 ++ b) else p) = r := by
        rw [List.map_congr_left (g := id)]
        · simp
        · intro q hq
          have := h1 q hq
          have hne : (q.1 == n) = false := by simp; rw [← e]; exact fun x => this x.symm
          simp [hne]
      simp only [List.map_cons, hr, List.sum_cons, e, beq_self_eq_true, if_true, List.length_append]
      omega
    · have hne : (p.1 == n) = false := by simpa using e
      rw [List.find?_cons_of_neg (by simpa using e)] at h
      have := sum_len_map n b r h2 h
      simp only [List.map_cons, hne, List.sum_cons, Bool.false_eq_true, if_false]
      omega
theorem sum_len_erase (n : Int) : ∀ (l : List (Int × List UInt8)) (b : List UInt8), l.find? (fun p => p.1 == n) = some (n, b) → (l.map fun p => p.2.length).sum = ((l.eraseP fun p => p.1 == n).map fun p => p.2.length).sum + b.length
  | [], _, h => by simp at h
  | p :: r, b, h => by
    by_cases e : p.1 = n
    · rw [List.find?_cons_of_pos (by simpa using e)] at h
      injection h with h
      rw [List.eraseP_cons_of_pos (by simpa using e)]
      simp [h, Nat.add_comm]
    · rw [List.find?_cons_of_neg (by simpa using e)] at h
      rw [List.eraseP_cons_of_neg (by simpa using e)]
      have := sum_len_erase n r b h
      simp only [List.map_cons, List.sum_cons]
      omega
theorem Ok.add {S : StoreM} (h : S.Ok) (n : Int) (b : List UInt8) (hf : S.find n ≠ none) (hl : (b.length : Int) ≤ S.room - S.used) : (S.add n b).Ok := by
  have h1 := h.used0
  have h2 := h.peak0
  have h3 := h.peak1
  have hs : (S.runs.find? fun p => p.1 == n).isSome = true := by
    unfold find at hf
    cases e : S.runs.find? (fun p => p.1 == n)
    · rw [e] at hf; exact absurd rfl hf
    · rfl
  refine ⟨h.next0, h.next1, by simp only [StoreM.add]; omega, by simp only [StoreM.add]; omega, h.room1, by simp only [StoreM.add]; omega, by simp only [StoreM.add]; omega, by have := h.writes0; simp only [StoreM.add]; omega, ?_, ?_, ?_⟩
  · simp only [StoreM.add]
    rw [sum_len_map n b S.runs h.ids hs, h.sum]
    simp
  · simp only [StoreM.add]
    rw [List.pairwise_map]
    refine h.ids.imp fun {p q} hpq => ?_
    split <;> split <;> exact hpq
  · intro p hp
    simp only [StoreM.add, List.mem_map] at hp
    obtain ⟨q, hq, rfl⟩ := hp
    have := h.below q hq
    split <;> exact this
theorem Ok.wrote {S : StoreM} (h : S.Ok) : ({ S with writes := S.writes + 1 } : StoreM).Ok :=
  ⟨h.next0, h.next1, h.used0, h.used1, h.room1, h.peak0, h.peak1, by have := h.writes0; simp; omega, h.sum, h.ids, h.below⟩
theorem Ok.append {S : StoreM} (h : S.Ok) (n : Int) (b : List UInt8) : (S.append n b).Ok := by
  unfold StoreM.append
  split
  · exact h
  · rename_i e
    split
    · exact h.wrote
    · split
      · exact h.wrote
      · exact h.add n b (by rw [e]; simp) (by omega)
theorem Ok.drop {S : StoreM} (h : S.Ok) (n : Int) : (S.drop n).Ok := by
  unfold StoreM.drop
  split
  · exact h
  · rename_i b e
    have hb := (find_some e).2
    have hs := sum_len_erase n S.runs b hb
    have h1 := h.sum
    have h2 := h.used1
    refine ⟨h.next0, h.next1, by simp; omega, by simp; omega, h.room1, h.peak0, h.peak1, h.writes0, by simp; omega, h.ids.sublist List.eraseP_sublist, fun p hp => h.below p (List.mem_of_mem_eraseP hp)⟩
theorem find_le {S : StoreM} (h : S.Ok) {n : Int} {b : List UInt8} (hf : S.find n = some b) : (b.length : Int) ≤ S.used := by
  have := sum_len_erase n S.runs b (find_some hf).2
  have := h.sum
  omega
end StoreM
end Go.Proofs.Ytkglkpcpgdeneaa
