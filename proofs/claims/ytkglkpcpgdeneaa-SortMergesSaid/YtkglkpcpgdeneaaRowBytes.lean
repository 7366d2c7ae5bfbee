/- What slices of bytes, and slices of them, that came in hold. Conditions: none. -/
import Derived.Test.YtkglkpcpgdeneaaRowWords
import Derived.Test.YtkglkpcpgdeneaaStr
import Derived.Deep.Slices
import Derived.DataShut
namespace Go.Proofs.Ytkglkpcpgdeneaa
open Go.RowKit Go.ChangeShapes Go.WideShapes Go.Deep

variable {H : Type} {enc : TypeId × Value → H} {P : Program} {W : World} {base : Nat} {spare : Nat → Bool} {held : Bool}

def u8s (zs : List Int) : List UInt8 := zs.map fun n => UInt8.ofNat n.toNat
theorem bys_u8s (zs : List Int) (h : ∀ n ∈ zs, (Lit.int .u8 n).wf = true) : bys (u8s zs) = zs.map (Value.int .u8) := by
  unfold bys u8s
  rw [List.map_map]
  refine List.map_congr_left fun n hn => ?_
  have hw : 0 ≤ n ∧ n ≤ 255 := (Lit.wf_int_iff .u8 n).1 (h n hn)
  have : n.toNat % 256 = n.toNat := Nat.mod_eq_of_lt (by omega)
  simp [this]
  omega

theorem open_bytes_cells {t e : TypeId} {fuel : Nat} {a : Option Addr} {len cap : Nat} {x : DataW H × List MemPlace} (hu : P.underlying t = some (.slice e)) (he : P.underlying e = some (.int .u8)) (hc : P.cellsOf e = 1)
    (hf : DataW.trod enc P W base spare held fuel t [.slice a len cap] = some x) : ∃ l : List UInt8, len = l.length ∧ len ≤ cap ∧ cap ≤ 9223372036854775807 ∧ RdV W a (bys l) ∧ (a = none → l = [] ∧ cap = 0) := by
  rcases open_ints hu he hc hf with ⟨hcs, _⟩ | ⟨x, l, c, zs, hcs, _, hl, hm, hz, _, hcell, hwz⟩
  · simp at hcs
    obtain ⟨rfl, rfl, rfl⟩ := hcs
    exact ⟨[], rfl, Nat.le_refl _, by omega, RdV.nil _ _, fun _ => ⟨rfl, rfl⟩⟩
  · simp at hcs
    obtain ⟨rfl, rfl, rfl⟩ := hcs
    have hz' : len ≤ zs.length := by rw [hz]; split <;> omega
    refine ⟨u8s (zs.take len), by simp [u8s]; omega, hl, by unfold maxLen at hm; omega, ?_, fun e => by cases e⟩
    rw [bys_u8s _ (fun n hn => hwz n (List.mem_of_mem_take hn))]
    exact rdv_ints hcell len
theorem open_bytes {t e : TypeId} {a : Option Addr} {len cap : Nat} {d : DataW H} {ps : List MemPlace} (hu : P.underlying t = some (.slice e)) (he : P.underlying e = some (.int .u8)) (hc : P.cellsOf e = 1)
    (h : DataW.Trod enc P W base spare held t (.slice a len cap) d ps) : ∃ l : List UInt8, len = l.length ∧ len ≤ cap ∧ cap ≤ 9223372036854775807 ∧ RdV W a (bys l) ∧ (a = none → l = [] ∧ cap = 0) := by
  obtain ⟨fuel, hf⟩ := h
  exact open_bytes_cells hu he hc (by simpa [Value.cells] using hf)

theorem open_byte_rows {t e q : TypeId} {a : Option Addr} {len cap : Nat} {d : DataW H} {ps : List MemPlace} (hu : P.underlying t = some (.slice e)) (he : P.underlying e = some (.slice q)) (hq : P.underlying q = some (.int .u8)) (hc : P.cellsOf e = 1) (hc2 : P.cellsOf q = 1)
    (h : DataW.Trod enc P W base spare held t (.slice a len cap) d ps) : ∃ L : List (List UInt8), len = L.length ∧ len ≤ cap ∧ cap ≤ 9223372036854775807 ∧ RdRows W a L ∧ (a = none → L = [] ∧ cap = 0) := by
  obtain ⟨fuel, hf⟩ := h
  rcases open_slice1 hu hc (by simpa [Value.cells] using hf) with ⟨hcs, _⟩ | ⟨x, l, c, m, n, V, D, Pl, hcs, _, hl, hm, hmm, _, hx⟩
  · simp at hcs
    obtain ⟨rfl, rfl, rfl⟩ := hcs
    exact ⟨[], rfl, Nat.le_refl _, by omega, fun i hi => absurd hi (by simp), fun _ => ⟨rfl, rfl⟩⟩
  · simp at hcs
    obtain ⟨rfl, rfl, rfl⟩ := hcs
    have hml : len ≤ m := by rw [hmm]; split <;> omega
    have each : ∀ i, i < len → ∃ y : List UInt8, ∃ a' c', V i = .slice a' y.length c' ∧ RdV W a' (bys y) ∧ (a' = none → y = []) := by
      intro i hi
      obtain ⟨_, htr⟩ := hx i (by omega)
      obtain ⟨a', l', c', hvv⟩ : ∃ a' l' c', V i = .slice a' l' c' := by
        rcases DataW.trod_slice he htr with ⟨h0, _⟩ | ⟨a', l', c', _, _, _, _, h0, _⟩
        · exact ⟨none, 0, 0, by simpa using h0⟩
        · exact ⟨some a', l', c', by simpa using h0⟩
      rw [hvv] at htr
      obtain ⟨y, rfl, _, _, hr, hn⟩ := open_bytes_cells he hq hc2 htr
      exact ⟨y, a', c', hvv, hr, fun e => (hn e).1⟩
    obtain ⟨Y, hY⟩ := choose_lt (α := List UInt8) each
    refine ⟨(List.range len).map Y, by simp, hl, by unfold maxLen at hm; omega, fun i hi => ?_, fun e => by cases e⟩
    have hi' : i < len := by simpa using hi
    obtain ⟨a', c', hv', hr, hn⟩ := hY i hi'
    refine ⟨x, a', c', rfl, ?_, ?_, ?_⟩
    · rw [(hx i (by omega)).1, hv']; simp
    · simpa using hr
    · simpa using hn
end Go.Proofs.Ytkglkpcpgdeneaa
