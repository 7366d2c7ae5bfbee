/- Strings made of the bytes of a slice. Conditions: none. -/
import Derived.Test.YtkglkpcpgdeneaaStoreM
import Derived.Laws.BytesArg
import Derived.Lib.SlBytesConst
namespace Go.Proofs.Ytkglkpcpgdeneaa
open Go.RowKit

/-- The string of these bytes. -/
def str (l : List UInt8) : ByteArray := ⟨l.toArray⟩
theorem str_append (a b : List UInt8) : str a ++ str b = str (a ++ b) := by
  apply ByteArray.ext
  simp [str]
theorem str_size (l : List UInt8) : (str l).size = l.length := by simp [str, ByteArray.size]
theorem str_inj {a b : List UInt8} (h : str a = str b) : a = b := by
  have := congrArg (fun s => s.data.toList) h
  simpa [str] using this
theorem str_beq (a b : List UInt8) : (str a == str b) = decide (a = b) := by
  by_cases h : a = b
  · rw [h, decide_eq_true rfl]
    exact (MapKept.bytes_beq _ _).2 rfl
  · rw [decide_eq_false h]
    exact Bool.eq_false_iff.2 fun e => h (str_inj ((MapKept.bytes_beq _ _).1 e))
theorem str_data (l : List UInt8) : (str l).data.toList = l := rfl

def strLen : Value → Nat | .string s => s.size | _ => 0
/-- 'string(b)'. -/
theorem run_bytes_str {P : Program} {w : World} (src dst e : TypeId) (hs : P.underlying src = some (.slice e)) (he : P.underlying e = some (.int .u8)) (hd : P.underlying dst = some .string) {A : Option Addr} {l : List UInt8} (n c : Nat)
    (hr : RdV w A (bys l)) (hn : n = l.length) (hA : A = none → l = []) : (convert src dst (.slice A n c)).run P w = .ok (.string (str l)) w := by
  subst hn
  cases A with
  | none =>
    rw [hA rfl]
    exact run_convert_bytes_nil w src e hs he _ c dst hd
  | some x =>
    have hl : (loadCells x l.length).run P w = .ok ((l.map fun b => (b.toNat : Int)).map (Value.int .u8)).toArray w := by
      have := run_loadCells_list (P := P) w x (bys l) (fun j v hj => by
        obtain ⟨y, hy, hc⟩ := hr j v hj
        cases hy
        exact hc)
      rw [bys_length] at this
      rw [this]
      simp [bys]
    rw [run_convert_bytes_string w src dst e _ _ c hs he hd, run_bytesToString w _ _ c _ hl, foldl_push_bytes]
    have e1 : ((l.map fun b => (b.toNat : Int)).map fun n => UInt8.ofNat n.toNat) = l := by
      rw [List.map_map]
      conv => rhs; rw [← List.map_id l]
      refine List.map_congr_left fun b _ => ?_
      simp
    rw [e1]
    simp [str, ByteArray.empty, ByteArray.emptyWithCapacity]
    rfl
/-- A slice of slices of bytes that came in. -/
def RdRows (w : World) (A : Option Addr) (L : List (List UInt8)) : Prop :=
  ∀ i (h : i < L.length), ∃ x A' c, A = some x ∧ w.cell? (x.add i) = some (.slice A' L[i].length c) ∧ RdV w A' (bys L[i]) ∧ (A' = none → L[i] = [])
theorem RdRows.later {w w' : World} {A : Option Addr} {L : List (List UInt8)} (h : RdRows w A L) (k : Keep (fun j => w.heap.size ≤ j) w w') : RdRows w' A L := by
  intro i hi
  obtain ⟨x, A', c, hx, hc, hr, hn⟩ := h i hi
  have hb := block_lt hc
  rw [add_block] at hb
  exact ⟨x, A', c, hx, (World.cell?_of_block (by rw [add_block]; exact k.block _ hb (by omega))).trans hc, hr.keep k (fun _ _ h1 h2 => by omega), hn⟩
/-- A new row, whatever mark it bears. -/
theorem RdV.newm (w : World) (T : TypeId) (cs : List Value) (fr : Nat × Nat) (b : Nat) (hb : b = w.heap.size) : RdV (w.alloc (.cells cs.toArray T fr)) (some ⟨b, 0, none⟩) cs := by
  subst hb
  intro j u hj
  refine ⟨_, rfl, ?_⟩
  rw [add_plain, Nat.zero_add]
  have h := heap_alloc_eq w (.cells cs.toArray T fr)
  simp only [World.cell?, h]
  simpa using hj
end Go.Proofs.Ytkglkpcpgdeneaa
