/- The scratch store as a part of memory: its methods' contracts in one form each. Conditions: none. -/
import Derived.Test.YtbkpjjibgnachaaStoreG
import Derived.Test.YtbkpjjibgnachaaSt
import Derived.Test.YtbkpjjibgnachaaStoreN
namespace Go.Proofs.Ytbkpjjibgnachaa
open Go.RowKit

def storeP (sb : Nat) (S : StoreM) : Part where
  at_ w F := IsStore w F sb S
  keep h k hd := h.keep k hd
  lt h := by obtain ⟨_, _, _, h⟩ := h; exact h.lt
section
variable {w0 w : World} {l : List Part} {sb : Nat} {S : StoreM}
theorem St.store (h : St w0 w (storeP sb S :: l)) : ∃ F, IsStore w F sb S := by
  obtain ⟨F, h1, _⟩ := h.open_
  exact ⟨F, h1⟩
theorem St.store_ok (h : St w0 w (storeP sb S :: l)) : S.Ok := by
  obtain ⟨F, _, _, _, h⟩ := h.store
  exact h.ok
theorem St.store_new (h : St w0 w l) (room : Int) (A : Option Addr) (n c : Nat) (fl : List Int) (hroom : room ≤ 9223372036854775807) (hr : RdV w A (ints fl)) (hl : n = fl.length) (hA : A = none → n = 0 ∧ c = 0) (hb : n * 8 ≤ 140737488355328) :
    Calls Try.prog 15 #[.int .i64 room, .slice A n c] w fun e w' => ∃ sb, e = .returned (.pointer (some ⟨sb, 0, none⟩)) ∧ St w0 w' (storeP sb (StoreM.made room fl) :: l) := by
  refine (new_any room A n c fl w hroom hr hl hA hb).mono ?_
  rintro e w' ⟨sb, he, hs, hk⟩
  exact ⟨sb, he, h.new (q := storeP sb _) (hk.mono (fun _ _ f => f.elim)) hs (fun j hj => by rcases hj with hj | hj; exact hj.elim; exact hj.1)⟩
theorem St.store_create (h : St w0 w (storeP sb S :: l)) (hn : S.next < 65536) :
    Calls Try.prog 16 #[.pointer (some ⟨sb, 0, none⟩)] w fun e w' => e = .returned (.tuple #[.int .i64 S.next, .int .i64 0]) ∧ St w0 w' (storeP sb S.create :: l) := by
  obtain ⟨F, h1, h2, h3, _⟩ := h.open_
  refine (create_yes w F sb S h1 hn).mono ?_
  rintro e w' ⟨he, hs, hk⟩
  exact ⟨he, h3 w' (storeP sb _) hk hs⟩
theorem St.store_create_full (h : St w0 w (storeP sb S :: l)) (hn : ¬ S.next < 65536) :
    Calls Try.prog 16 #[.pointer (some ⟨sb, 0, none⟩)] w fun e w' => e = .returned (.tuple #[.int .i64 0, .int .i64 12]) ∧ w = w' := by
  obtain ⟨F, h1⟩ := h.store
  exact create_full w F sb S h1 hn
theorem store_append_F (w : World) (F : Nat → Prop) (hS : IsStore w F sb S) (n : Int) (A : Option Addr) (m c : Nat) (b : List UInt8) (hw : S.writes ≤ 9223372036854775806)
    (hm : m = b.length) (hr : RdV w A (bys b)) (hA : A = none → m = 0) (hFA : b ≠ [] → ∀ y, A = some y → ¬ F y.block) (hlen : ∀ bs, S.find n = some bs → bs.length + b.length ≤ 140737488355328) :
    Calls Try.prog 18 #[.pointer (some ⟨sb, 0, none⟩), .int .i64 n, .slice A m c] w fun e w' => e = .returned (.int .i64 (S.appendE n b)) ∧ IsStore w' (ext F w w') sb (S.append n b) ∧ Keep F w w' := by
  have hF : ∀ w' S', IsStore w' F sb S' → Keep F w w' → IsStore w' (ext F w w') sb S' := fun w' S' h k => by
    obtain ⟨fv, mb, E, h⟩ := h
    refine ⟨fv, mb, E, h.widen (fun k hk => .inl hk) (fun j hj => ?_)⟩
    rcases hj with hj | hj
    · exact h.lt j hj
    · exact hj.2
  unfold StoreM.appendE StoreM.append
  cases hf : S.find n with
  | none =>
    refine (append_no w F sb S hS n A m c hf).mono ?_
    rintro e w' ⟨he, rfl⟩
    exact ⟨he, hF _ _ hS (Keep.refl F w), Keep.refl F w⟩
  | some bs =>
    by_cases hio : S.writes ∈ S.fails
    · simp only [hio, if_true]
      refine (append_io w F sb S hS n A m c hw bs hf hio).mono ?_
      rintro e w' ⟨he, hs, hk⟩
      exact ⟨he, hF _ _ hs hk, hk⟩
    · simp only [hio, if_false]
      by_cases hfull : (b.length : Int) > S.room - S.used
      · simp only [hfull, if_true]
        refine (append_full w F sb S hS n A m c hw bs hf hio (by rw [hm]; exact hfull)).mono ?_
        rintro e w' ⟨he, hs, hk⟩
        exact ⟨he, hF _ _ hs hk, hk⟩
      · simp only [hfull, if_false]
        exact append_ok w F sb S hS n A m c b hw bs hf hio hm hr hA hFA (by omega) (hlen bs hf)
/-- What is appended lies in old memory. -/
theorem St.store_append (h : St w0 w (storeP sb S :: l)) (n : Int) (A : Option Addr) (m c : Nat) (b : List UInt8) (hw : S.writes ≤ 9223372036854775806)
    (hm : m = b.length) (hr : RdV w A (bys b)) (hA : A = none → m = 0) (hlow : b ≠ [] → ∀ y, A = some y → y.block < w0.heap.size) (hlen : ∀ bs, S.find n = some bs → bs.length + b.length ≤ 140737488355328) :
    Calls Try.prog 18 #[.pointer (some ⟨sb, 0, none⟩), .int .i64 n, .slice A m c] w fun e w' => e = .returned (.int .i64 (S.appendE n b)) ∧ St w0 w' (storeP sb (S.append n b) :: l) := by
  obtain ⟨F, h1, h2, h3, _⟩ := h.open_
  refine (store_append_F w F h1 n A m c b hw hm hr hA (fun hb y hy hf => by have := hlow hb y hy; have := (h2 _ hf).1; omega) hlen).mono ?_
  rintro e w' ⟨he, hs, hk⟩
  exact ⟨he, h3 w' (storeP sb _) hk hs⟩
/-- What is appended lies in the part beside. -/
theorem St.store_append2 {q : Part} (h : St w0 w (storeP sb S :: q :: l)) (n : Int) (A : Option Addr) (m c : Nat) (b : List UInt8) (hw : S.writes ≤ 9223372036854775806)
    (hm : m = b.length) (hq : ∀ G, q.at_ w G → RdV w A (bys b) ∧ (b ≠ [] → ∀ y, A = some y → G y.block)) (hA : A = none → m = 0) (hlen : ∀ bs, S.find n = some bs → bs.length + b.length ≤ 140737488355328) :
    Calls Try.prog 18 #[.pointer (some ⟨sb, 0, none⟩), .int .i64 n, .slice A m c] w fun e w' => e = .returned (.int .i64 (S.appendE n b)) ∧ St w0 w' (storeP sb (S.append n b) :: q :: l) := by
  obtain ⟨h0, U, F, V, h1, h2, ⟨G, V2, g1, g2⟩, h4, h5⟩ := h
  have hd : ∀ k, F k → ¬ G k := fun k hk hg => h4 k hk ((g2.2.2.2 k).2 (.inl hg))
  have h : St w0 w (storeP sb S :: q :: l) := ⟨h0, U, F, V, h1, h2, ⟨G, V2, g1, g2⟩, h4, h5⟩
  refine (store_append_F w F h1 n A m c b hw hm (hq G g1).1 hA (fun hb y hy hf => hd _ hf ((hq G g1).2 hb y hy)) hlen).mono ?_
  rintro e w' ⟨he, hs, hk⟩
  refine ⟨he, ?_⟩
  -- the same footprint F serves
  have hsz := h0.size
  have h3 : Parts w w0.heap.size (q :: l) V := ⟨G, V2, g1, g2⟩
  have hV := h3.bd
  refine ⟨h0.trans' hk (fun j _ hf => h2 j hf), fun j => ext F w w' j ∨ V j, ext F w w', V, hs, fun j hj => ?_, h3.keep hk (fun j hj hf => h4 j hf hj), fun j hj hv => ?_, fun _ => Iff.rfl⟩
  · rcases hj with hj | hj
    · exact h2 j hj
    · omega
  · rcases hj with hj | hj
    · exact h4 j hj hv
    · have := (hV j hv).2; omega
theorem own_app {w : World} {G : Nat → Prop} {A : Option Addr} {m c : Nat} {b : List UInt8} (h : (ownP 5 1 (.slice A m c) m (bys b)).at_ w G) : RdV w A (bys b) ∧ (b ≠ [] → ∀ y, A = some y → G y.block) := by
  obtain ⟨A', c', e1, _, hr, _⟩ := own_rd h.1
  injection e1 with e1 _ _
  subst e1
  refine ⟨hr, fun _ y hy => (h.2 _).2 ?_⟩
  subst hy
  rcases h.1.2 with ⟨e, _⟩ | ⟨g, cap, cur, e, _⟩
  · cases e
  · injection e with e _ _
    cases e
    rfl
theorem blk_app {w : World} {G : Nat → Prop} {g : Nat} {T : TypeId} {b : List UInt8} (h : (blkP g T (bys b)).at_ w G) : RdV w (some ⟨g, 0, none⟩) (bys b) ∧ (b ≠ [] → ∀ y, some (⟨g, 0, none⟩ : Addr) = some y → G y.block) := by
  have := RdV.of_blk h.1 0 (bys b).length
  rw [List.drop_zero, List.take_length] at this
  exact ⟨this, fun _ y hy => by cases hy; exact (h.2 g).2 rfl⟩
theorem St.store_read (h : St w0 w (storeP sb S :: l)) (n : Int) (a m k : Nat) (ai mi : Int) (hai : ai = a) (hmi : mi = m) (bs cs : List UInt8) (hf : S.find n = some bs) (ha : a ≤ bs.length) (hm : (m : Int) ≤ 9223372036854775807) (hk : k = min m (bs.length - a)) (hlen : bs.length ≤ 140737488355328) (hcs : (bs.drop a).take k = cs) :
    Calls Try.prog 19 #[.pointer (some ⟨sb, 0, none⟩), .int .i64 n, .int .i64 ai, .int .i64 mi] w fun e w' => ∃ A c, e = .returned (.tuple #[.slice A k c, .int .i64 0]) ∧ k ≤ c ∧ (A = none → k = 0) ∧ St w0 w' (ownP 5 1 (.slice A k c) k (bys cs) :: storeP sb S :: l) := by
  subst hai hmi hcs
  obtain ⟨F, h1⟩ := h.store
  refine (read_ok w F sb S h1 n a m k bs hf ha hm hk hlen).mono ?_
  rintro e w' ⟨v, he, ho, hk⟩
  have h3 := h.made ho (hk.mono (fun _ _ f => f.elim))
  obtain ⟨A, c, rfl, hc, _, hn⟩ := own_rd ho
  exact ⟨A, c, he, hc, hn, h3⟩
theorem St.store_read_no (h : St w0 w (storeP sb S :: l)) (n at_ many : Int) (hf : S.find n = none) :
    Calls Try.prog 19 #[.pointer (some ⟨sb, 0, none⟩), .int .i64 n, .int .i64 at_, .int .i64 many] w fun e w' => e = .returned (.tuple #[.slice none 0 0, .int .i64 14]) ∧ w = w' := by
  obtain ⟨F, h1⟩ := h.store
  exact read_no w F sb S h1 n at_ many hf
theorem St.store_read_bad (h : St w0 w (storeP sb S :: l)) (n at_ many : Int) (bs : List UInt8) (hf : S.find n = some bs) (hbad : at_ < 0 ∨ many < 0 ∨ at_ > bs.length) :
    Calls Try.prog 19 #[.pointer (some ⟨sb, 0, none⟩), .int .i64 n, .int .i64 at_, .int .i64 many] w fun e w' => e = .returned (.tuple #[.slice none 0 0, .int .i64 1]) ∧ w = w' := by
  obtain ⟨F, h1⟩ := h.store
  exact read_bad w F sb S h1 n at_ many bs hf hbad
def StoreM.sizeN (S : StoreM) (n : Int) : Nat := ((S.find n).getD []).length
theorem St.store_size (h : St w0 w (storeP sb S :: l)) (n : Int) :
    Calls Try.prog 20 #[.pointer (some ⟨sb, 0, none⟩), .int .i64 n] w fun e w' => e = .returned (.int .i64 (S.sizeN n)) ∧ w = w' := by
  obtain ⟨F, h1⟩ := h.store
  unfold StoreM.sizeN
  cases hf : S.find n with
  | none => exact size_no w F sb S h1 n hf
  | some bs => exact size_yes w F sb S h1 n bs hf
theorem St.store_used (h : St w0 w (storeP sb S :: l)) : Calls Try.prog 21 #[.pointer (some ⟨sb, 0, none⟩)] w fun e w' => e = .returned (.int .i64 S.used) ∧ w = w' := by
  obtain ⟨F, h1⟩ := h.store
  exact used_any w F sb S h1
theorem St.store_peak (h : St w0 w (storeP sb S :: l)) : Calls Try.prog 23 #[.pointer (some ⟨sb, 0, none⟩)] w fun e w' => e = .returned (.int .i64 S.peak) ∧ w = w' := by
  obtain ⟨F, h1⟩ := h.store
  exact peak_any w F sb S h1
theorem St.store_writes (h : St w0 w (storeP sb S :: l)) : Calls Try.prog 35 #[.pointer (some ⟨sb, 0, none⟩)] w fun e w' => e = .returned (.int .i64 S.writes) ∧ w = w' := by
  obtain ⟨F, h1⟩ := h.store
  exact writes_any w F sb S h1
def StoreM.dropE (S : StoreM) (n : Int) : Int := S.dropE' n
theorem St.store_drop (h : St w0 w (storeP sb S :: l)) (n : Int) :
    Calls Try.prog 22 #[.pointer (some ⟨sb, 0, none⟩), .int .i64 n] w fun e w' => e = .returned (.int .i64 (S.dropE n)) ∧ St w0 w' (storeP sb (S.drop n) :: l) := by
  obtain ⟨F, h1, h2, h3, _⟩ := h.open_
  unfold StoreM.dropE StoreM.dropE'
  cases hf : S.find n with
  | none =>
    refine (drop_no w F sb S h1 n hf).mono ?_
    rintro e w' ⟨he, rfl⟩
    refine ⟨he, ?_⟩
    have : S.drop n = S := by unfold StoreM.drop; rw [hf]
    rw [this]; exact h
  | some bs =>
    refine (drop_yes w F sb S h1 n bs hf).mono ?_
    rintro e w' ⟨he, hs, hk⟩
    refine ⟨he, h3 w' (storeP sb _) hk ?_⟩
    obtain ⟨fv, mb, E, hh⟩ := hs
    exact ⟨fv, mb, E, hh.widen (fun k hk => .inl hk) (fun j hj => by
      rcases hj with hj | hj
      · exact hh.lt j hj
      · exact hj.2)⟩
end
end Go.Proofs.Ytbkpjjibgnachaa
