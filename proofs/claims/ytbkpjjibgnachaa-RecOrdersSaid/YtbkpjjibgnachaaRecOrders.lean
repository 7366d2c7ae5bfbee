/- RecOrders. Conditions: none. -/
import Derived.Test.YtbkpjjibgnachaaLaw13
import Derived.Test.YtbkpjjibgnachaaHeldS
import Derived.Test.YtbkpjjibgnachaaLight13
import Derived.Test.YtbkpjjibgnachaaSame13
import Derived.Test.YtbkpjjibgnachaaRowIt
namespace Go.Proofs.Ytbkpjjibgnachaa
open Go.RowKit

/-- Three items in boxes. -/
def Box3 (w : World) (xb yb zb : Nat) (x y z : It) (u : World) : Prop := St w u [blkP xb 47 x.cells, blkP yb 47 y.cells, blkP zb 47 z.cells]
theorem Box3.all {w u : World} {xb yb zb : Nat} {x y z : It} (h : Box3 w xb yb zb x y z u) :
    (u.cell? ⟨xb, 0, none⟩ = some (.string x.k) ∧ u.cell? ⟨xb, 1, none⟩ = some (.int .i64 x.s) ∧ u.cell? ⟨xb, 2, none⟩ = some (.slice x.A x.n x.c)) ∧
    (u.cell? ⟨yb, 0, none⟩ = some (.string y.k) ∧ u.cell? ⟨yb, 1, none⟩ = some (.int .i64 y.s) ∧ u.cell? ⟨yb, 2, none⟩ = some (.slice y.A y.n y.c)) ∧
    (u.cell? ⟨zb, 0, none⟩ = some (.string z.k) ∧ u.cell? ⟨zb, 1, none⟩ = some (.int .i64 z.s) ∧ u.cell? ⟨zb, 2, none⟩ = some (.slice z.A z.n z.c)) := by
  have h0 := h.blk.1
  have h1 := h.swap.blk.1
  have h2 := (St.nth3 h).blk.1
  exact ⟨⟨h0.cell 0, h0.cell 1, h0.cell 2⟩, ⟨h1.cell 0, h1.cell 1, h1.cell 2⟩, ⟨h2.cell 0, h2.cell 1, h2.cell 2⟩⟩
theorem Box3.x {w u : World} {xb yb zb : Nat} {x y z : It} (h : Box3 w xb yb zb x y z u) : u.cell? ⟨xb, 0, none⟩ = some (.string x.k) ∧ u.cell? ⟨xb, 1, none⟩ = some (.int .i64 x.s) ∧ u.cell? ⟨xb, 2, none⟩ = some (.slice x.A x.n x.c) := h.all.1
theorem Box3.y {w u : World} {xb yb zb : Nat} {x y z : It} (h : Box3 w xb yb zb x y z u) : u.cell? ⟨yb, 0, none⟩ = some (.string y.k) ∧ u.cell? ⟨yb, 1, none⟩ = some (.int .i64 y.s) ∧ u.cell? ⟨yb, 2, none⟩ = some (.slice y.A y.n y.c) := h.all.2.1
theorem Box3.z {w u : World} {xb yb zb : Nat} {x y z : It} (h : Box3 w xb yb zb x y z u) : u.cell? ⟨zb, 0, none⟩ = some (.string z.k) ∧ u.cell? ⟨zb, 1, none⟩ = some (.int .i64 z.s) ∧ u.cell? ⟨zb, 2, none⟩ = some (.slice z.A z.n z.c) := h.all.2.2
theorem Box3.later {w u u' : World} {xb yb zb : Nat} {x y z : It} (h : Box3 w xb yb zb x y z u) (k : Keep (fun j => u.heap.size ≤ j) u u') : Box3 w xb yb zb x y z u' := St.later h k
theorem ans_b {w u : World} {xb yb zb : Nat} {x y z : It} (h : Box3 w xb yb zb x y z u) : Calls Try.prog 37 #[] u fun e w' => e = .returned (.bool true) ∧ Box3 w xb yb zb x y z w' :=
  (answers13 u).mono fun _ _ ⟨h1, h2⟩ => ⟨h1, h.later h2⟩
theorem less_b {w u : World} {xb yb zb : Nat} {x y z : It} (p q : It) (b : Bool) (hb : lt2 p.k p.s q.k q.s = b) (h : Box3 w xb yb zb x y z u) :
    Calls Try.prog 43 #[.agg #[.string p.k, .int .i64 p.s, .slice p.A p.n p.c], .agg #[.string q.k, .int .i64 q.s, .slice q.A q.n q.c]] u fun e w' => e = .returned (.bool b) ∧ Box3 w xb yb zb x y z w' := by
  subst hb
  exact (rec_less p.k q.k p.s q.s _ _ u).mono fun _ _ ⟨h1, h2⟩ => ⟨h1, h.later h2⟩
theorem less_r {w u : World} {xb yb zb : Nat} {x y z : It} (p q : It) (b : Bool) (hb : lt2 p.k p.s q.k q.s = b) (h : Box3 w xb yb zb x y z u) :
    Calls Try.prog 44 #[.agg #[.string p.k, .int .i64 p.s, .slice p.A p.n p.c], .agg #[.string q.k, .int .i64 q.s, .slice q.A q.n q.c]] u fun e w' => e = .returned (.bool b) ∧ Box3 w xb yb zb x y z w' := by
  subst hb
  exact (less13 p.k q.k p.s q.s _ _ u).mono fun _ _ ⟨h1, h2⟩ => ⟨h1, h.later h2⟩
/-- Are two items the same? -/
def SameB (w : World) (p q : It) (b : Bool) : Prop := ∃ d d', DatI w p d ∧ DatI w q d' ∧ ((p.k.toList == q.k.toList) && (p.s == q.s) && decide (d = d')) = b
theorem same_b {w u : World} {xb yb zb : Nat} {x y z : It} (p q : It) (b : Bool) (hb : SameB w p q b) (h : Box3 w xb yb zb x y z u) :
    Calls Try.prog 45 #[.agg #[.string p.k, .int .i64 p.s, .slice p.A p.n p.c], .agg #[.string q.k, .int .i64 q.s, .slice q.A q.n q.c]] u fun e w' => e = .returned (.bool b) ∧ Box3 w xb yb zb x y z w' := by
  obtain ⟨d, d', h1, h2, hb⟩ := hb
  have h1 := h1.keep (St.keep h)
  have h2 := h2.keep (St.keep h)
  subst hb
  exact (rec_same p.k q.k p.s q.s p.A q.A p.n q.n p.c q.c d d' u h1.1 h2.1 h1.2.2.1 h2.2.2.1 h1.2.2.2 h2.2.2.2).mono fun _ _ ⟨g1, g2⟩ => ⟨g1, h.later g2⟩
theorem same_r {w u : World} {xb yb zb : Nat} {x y z : It} (p q : It) (b : Bool) (hb : SameB w p q b) (h : Box3 w xb yb zb x y z u) :
    Calls Try.prog 30 #[.agg #[.string p.k, .int .i64 p.s, .slice p.A p.n p.c], .agg #[.string q.k, .int .i64 q.s, .slice q.A q.n q.c]] u fun e w' => e = .returned (.bool b) ∧ Box3 w xb yb zb x y z w' := by
  obtain ⟨d, d', h1, h2, hb⟩ := hb
  have h1 := h1.keep (St.keep h)
  have h2 := h2.keep (St.keep h)
  subst hb
  refine (same13 p.k q.k p.s q.s p.A q.A p.n q.n p.c q.c d d' u h1.1 h2.1 h1.2.2.1 h2.2.2.1 h1.2.2.2 h2.2.2.2).mono fun _ _ ⟨g1, g2⟩ => ⟨?_, h.later g2⟩
  have e : ((str d).toList == (str d').toList) = decide (d = d') := by
    rw [Lib.toList_data, Lib.toList_data, str_data, str_data]
    by_cases h : d = d' <;> simp [h]
  rw [g1, e]
/-- Of any three: which are less. -/
def Ord3 (x y z : It) (a b c d : Bool) : Prop := lt2 x.k x.s y.k y.s = a ∧ lt2 y.k y.s x.k x.s = b ∧ lt2 y.k y.s z.k z.s = c ∧ lt2 x.k x.s z.k z.s = d
theorem ord3 (x y z : It) : Ord3 x y z true false true true ∨ (∃ d, Ord3 x y z true false false d) ∨ (∃ c d, Ord3 x y z false true c d) ∨ ((∃ c d, Ord3 x y z false false c d) ∧ x.k.toList = y.k.toList ∧ x.s = y.s) := by
  unfold Ord3
  cases h1 : lt2 x.k x.s y.k y.s
  · cases h2 : lt2 y.k y.s x.k x.s
    · refine .inr (.inr (.inr ⟨⟨_, _, rfl, rfl, rfl, rfl⟩, ?_⟩))
      rw [← Bool.not_eq_true, lt2_iff] at h1 h2
      rcases list_tri x.k.toList y.k.toList with h | h | h
      · exact absurd (.inl h) h1
      · have g1 : ¬ x.s < y.s := fun g => h1 (.inr ⟨h, g⟩)
        have g2 : ¬ y.s < x.s := fun g => h2 (.inr ⟨h.symm, g⟩)
        exact ⟨h, by omega⟩
      · exact absurd (.inl h) h2
    · exact .inr (.inr (.inl ⟨_, _, rfl, rfl, rfl, rfl⟩))
  · have h2 : lt2 y.k y.s x.k x.s = false := by
      rw [← Bool.not_eq_true, lt2_iff]
      rw [lt2_iff] at h1
      rintro (g | ⟨g, g'⟩) <;> rcases h1 with h | ⟨h, h'⟩
      · exact List.lt_irrefl _ (List.lt_trans h g)
      · rw [h] at g; exact List.lt_irrefl _ g
      · rw [g] at h; exact List.lt_irrefl _ h
      · omega
    cases h3 : lt2 y.k y.s z.k z.s
    · exact .inr (.inl ⟨_, rfl, h2, rfl, rfl⟩)
    · refine .inl ⟨rfl, h2, rfl, ?_⟩
      rw [lt2_iff] at h1 h3 ⊢
      rcases h1 with h | ⟨h, h'⟩ <;> rcases h3 with g | ⟨g, g'⟩
      · exact .inl (List.lt_trans h g)
      · rw [← g]; exact .inl h
      · rw [h]; exact .inl g
      · exact .inr ⟨h.trans g, by omega⟩
theorem Box3.start (w : World) (x y z : It) (xb yb zb : Nat) (h1 : xb = w.heap.size) (h2 : yb = w.heap.size + 1) (h3 : zb = w.heap.size + 1 + 1) (o : Obj) :
    Box3 w xb yb zb x y z ((((w.alloc (Obj.cells #[.string x.k, .int .i64 x.s, .slice x.A x.n x.c] 47)).alloc (Obj.cells #[.string y.k, .int .i64 y.s, .slice y.A y.n y.c] 47)).alloc (Obj.cells #[.string z.k, .int .i64 z.s, .slice z.A z.n z.c] 47)).alloc o) := by
  have h := ((((St.start w).box x.cells 47).box y.cells 47).box z.cells 47).alloc o
  have e1 : (w.alloc (Obj.cells x.cells.toArray 47)).heap.size = yb := by simp [h2]
  have e2 : ((w.alloc (Obj.cells x.cells.toArray 47)).alloc (Obj.cells y.cells.toArray 47)).heap.size = zb := by simp [h3]
  rw [e1, e2, ← h1] at h
  exact h.nth3.perm ((List.Perm.swap _ _ _).cons _)
theorem lit3 (u : World) (x y z : It) (lb : Nat) (h : lb = u.heap.size) : RdI (u.alloc (Obj.cells #[.string x.k, .int .i64 x.s, .slice x.A x.n x.c, .string y.k, .int .i64 y.s, .slice y.A y.n y.c, .string z.k, .int .i64 z.s, .slice z.A z.n z.c] 47)) (some ⟨lb, 0, none⟩) [x, y, z] := by
  subst h
  exact RdI.of_blk (L := [x, y, z]) (Blk.new u 47 (flatI [x, y, z]))
theorem light_b {w u : World} {xb yb zb : Nat} {x y z : It} (lb c : Nat) (b : Bool) (h : Box3 w xb yb zb x y z u) (hr : RdI u (some ⟨lb, 0, none⟩) [x, y, z]) (hx : ItOk w x) (hy : ItOk w y) (hz : ItOk w z) (hb : decide (wsum [x, y, z] ≤ 200000) = b) :
    Calls Try.prog 36 #[.slice (some ⟨lb, 0, none⟩) 3 c] u fun e w' => e = .returned (.bool b) ∧ Box3 w xb yb zb x y z w' := by
  subst hb
  have g : ∀ p : It, ItOk w p → p.k.size + p.n ≤ 281474976710656 := fun p ⟨⟨d, h1⟩, h2, h3⟩ => by have := h1.2.1; omega
  refine (light13 (some ⟨lb, 0, none⟩) c [x, y, z] u hr (by simp) (fun p hp => ?_)).mono fun _ _ ⟨h1, h2⟩ => ⟨?_, h.later h2⟩
  · simp at hp
    rcases hp with rfl | rfl | rfl
    · exact g _ hx
    · exact g _ hy
    · exact g _ hz
  · rw [h1]; simp
set_option maxRecDepth 100000 in
set_option maxHeartbeats 4000000 in
theorem recorders_small (x y z : It) (w : World) (hx : ItOk w x) (hy : ItOk w y) (hz : ItOk w z) (hl : wsum [x, y, z] ≤ 200000) :
    Calls Try.prog 12 #[x.v, y.v, z.v] w fun e w' => e = .returned (.bool true) ∧ Keep (fun b => w.heap.size ≤ b) w w' := by
  have HX := Lib.hid hx
  have HY := Lib.hid hy
  have HZ := Lib.hid hz
  have HL := Lib.hid hl
  have HO := Lib.hid (ord3 x y z)
  obtain ⟨sm, hsm⟩ : ∃ sm, SameB w x y sm := by
    obtain ⟨⟨d, hd⟩, _⟩ := hx
    obtain ⟨⟨d', hd'⟩, _⟩ := hy
    exact ⟨_, d, d', hd, hd', rfl⟩
  have HSM := Lib.hid hsm
  clear hx hy hz hl hsm
  unfold It.v
  go_enter Try.func12, Try.ntmps12
  go_wp2_with fail
  obtain ⟨xb, hxb⟩ : ∃ xb, xb = w.heap.size := ⟨_, rfl⟩
  obtain ⟨yb, hyb⟩ : ∃ yb, yb = w.heap.size + 1 := ⟨_, rfl⟩
  obtain ⟨zb, hzb⟩ : ∃ zb, zb = w.heap.size + 1 + 1 := ⟨_, rfl⟩
  obtain ⟨lb, hlb⟩ : ∃ lb, lb = w.heap.size + 1 + 1 + 1 := ⟨_, rfl⟩
  have hbx := Box3.start w x y z xb yb zb hxb hyb hzb (Obj.cells #[.string x.k, .int .i64 x.s, .slice x.A x.n x.c, .string y.k, .int .i64 y.s, .slice y.A y.n y.c, .string z.k, .int .i64 z.s, .slice z.A z.n z.c] 47)
  have hli := lit3 (((w.alloc (Obj.cells #[.string x.k, .int .i64 x.s, .slice x.A x.n x.c] 47)).alloc (Obj.cells #[.string y.k, .int .i64 y.s, .slice y.A y.n y.c] 47)).alloc (Obj.cells #[.string z.k, .int .i64 z.s, .slice z.A z.n z.c] 47)) x y z lb (by simp [hlb])
  rw [← hlb, ← hzb, ← hyb, ← hxb]
  clear hxb hyb hzb hlb
  generalize (((w.alloc (Obj.cells #[.string x.k, .int .i64 x.s, .slice x.A x.n x.c] 47)).alloc (Obj.cells #[.string y.k, .int .i64 y.s, .slice y.A y.n y.c] 47)).alloc (Obj.cells #[.string z.k, .int .i64 z.s, .slice z.A z.n z.c] 47)).alloc (Obj.cells #[.string x.k, .int .i64 x.s, .slice x.A x.n x.c, .string y.k, .int .i64 y.s, .slice y.A y.n y.c, .string z.k, .int .i64 z.s, .slice z.A z.n z.c] 47) = w1 at hbx hli ⊢
  have HB1 := Lib.hid hbx
  have HLI := Lib.hid hli
  clear hbx hli
  refine (light_b lb 3 true HB1.out HLI.out HX.out HY.out HZ.out (decide_eq_true HL.out)).mono ?_
  rintro e w2 ⟨rfl, hb2⟩
  have HB2 := Lib.hid hb2
  clear hb2 HB1 HLI
  go_wp2_with fail
  have hsm2 : (sm == sm) = true := by simp
  rcases HO.out with h | ⟨d, h⟩ | ⟨c, d, h⟩ | ⟨⟨c, d, h⟩, hk, hs⟩
  all_goals
    obtain ⟨g1, g2, g3, g4⟩ := h
    have HG1 := Lib.hid g1
    have HG2 := Lib.hid g2
    have HG3 := Lib.hid g3
    have HG4 := Lib.hid g4
    clear g1 g2 g3 g4
    try (have hkk : (x.k.toList == y.k.toList) = true := by rw [hk]; simp)
    try (have hss : (x.s == y.s) = true := by rw [hs]; simp)
    try clear hk hs
    refine wp_region_heldS (Box3 w xb yb zb x y z) (by kernel_rfl) (by kernel_rfl) (by kernel_rfl) (HB2.out.later (Keep.refl _ _).drew) ?_
    repeat (first
      | (apply wpHeldS_skip
         · rfl
         simp only [Act.put, List.setIfInBounds_toArray, List.set_cons_zero, List.set_cons_succ])
      | (apply wpHeldS_val
         · rfl
         · intro u hu
           obtain ⟨x0, x1, x2⟩ := hu.x
           obtain ⟨y0, y1, y2⟩ := hu.y
           obtain ⟨z0, z1, z2⟩ := hu.z
           clear hu
           (go_simp <;> with_reducible rfl)
         simp only [Act.put, List.setIfInBounds_toArray, List.set_cons_zero, List.set_cons_succ])
      | (apply wpHeldS_call
         · rfl
         · intro u
           go_simp
           exact ⟨rfl, rfl⟩
         · intro u hu
           first
             | with_reducible exact ans_b hu
             | with_reducible exact less_b x y _ HG1.out hu
             | with_reducible exact less_r x y _ HG1.out hu
             | with_reducible exact less_b y x _ HG2.out hu
             | with_reducible exact less_b y z _ HG3.out hu
             | with_reducible exact less_b x z _ HG4.out hu
             | with_reducible exact same_b x y _ HSM.out hu
             | with_reducible exact same_r x y _ HSM.out hu
         simp only [Act.put, List.setIfInBounds_toArray, List.set_cons_zero, List.set_cons_succ]))
    refine wpHeldS_nil ?_
    intro w3 h3
    have HB3 := Lib.hid h3
    clear h3
    go_wp2_with fail
    go_ret
    exact ⟨rfl, St.keep HB3.out⟩
set_option maxRecDepth 100000 in
set_option maxHeartbeats 4000000 in
theorem recorders_big (x y z : It) (w : World) (hx : ItOk w x) (hy : ItOk w y) (hz : ItOk w z) (hl : ¬ wsum [x, y, z] ≤ 200000) :
    Calls Try.prog 12 #[x.v, y.v, z.v] w fun e w' => e = .returned (.bool true) ∧ Keep (fun b => w.heap.size ≤ b) w w' := by
  have HX := Lib.hid hx
  have HY := Lib.hid hy
  have HZ := Lib.hid hz
  have HL := Lib.hid hl
  clear hx hy hz hl
  unfold It.v
  go_enter Try.func12, Try.ntmps12
  go_wp2_with fail
  obtain ⟨xb, hxb⟩ : ∃ xb, xb = w.heap.size := ⟨_, rfl⟩
  obtain ⟨yb, hyb⟩ : ∃ yb, yb = w.heap.size + 1 := ⟨_, rfl⟩
  obtain ⟨zb, hzb⟩ : ∃ zb, zb = w.heap.size + 1 + 1 := ⟨_, rfl⟩
  obtain ⟨lb, hlb⟩ : ∃ lb, lb = w.heap.size + 1 + 1 + 1 := ⟨_, rfl⟩
  have hbx := Box3.start w x y z xb yb zb hxb hyb hzb (Obj.cells #[.string x.k, .int .i64 x.s, .slice x.A x.n x.c, .string y.k, .int .i64 y.s, .slice y.A y.n y.c, .string z.k, .int .i64 z.s, .slice z.A z.n z.c] 47)
  have hli := lit3 (((w.alloc (Obj.cells #[.string x.k, .int .i64 x.s, .slice x.A x.n x.c] 47)).alloc (Obj.cells #[.string y.k, .int .i64 y.s, .slice y.A y.n y.c] 47)).alloc (Obj.cells #[.string z.k, .int .i64 z.s, .slice z.A z.n z.c] 47)) x y z lb (by simp [hlb])
  rw [← hlb, ← hzb, ← hyb, ← hxb]
  clear hxb hyb hzb hlb
  generalize (((w.alloc (Obj.cells #[.string x.k, .int .i64 x.s, .slice x.A x.n x.c] 47)).alloc (Obj.cells #[.string y.k, .int .i64 y.s, .slice y.A y.n y.c] 47)).alloc (Obj.cells #[.string z.k, .int .i64 z.s, .slice z.A z.n z.c] 47)).alloc (Obj.cells #[.string x.k, .int .i64 x.s, .slice x.A x.n x.c, .string y.k, .int .i64 y.s, .slice y.A y.n y.c, .string z.k, .int .i64 z.s, .slice z.A z.n z.c] 47) = w1 at hbx hli ⊢
  have HB1 := Lib.hid hbx
  have HLI := Lib.hid hli
  clear hbx hli
  refine (light_b lb 3 false HB1.out HLI.out HX.out HY.out HZ.out (decide_eq_false HL.out)).mono ?_
  rintro e w2 ⟨rfl, hb2⟩
  have HB2 := Lib.hid hb2
  clear hb2 HB1 HLI
  go_wp2_with fail
  refine (ans_b HB2.out).mono ?_
  rintro e w3 ⟨rfl, hb3⟩
  have HB3 := Lib.hid hb3
  clear hb3 HB2
  go_wp2_with fail
  go_ret
  exact ⟨rfl, St.keep HB3.out⟩
theorem recOrders_walk (w : World) (x : It) (hx : ItOk w x) (y : It) (hy : ItOk w y) (z : It) (hz : ItOk w z) :
    Calls Try.prog 12 #[x.v, y.v, z.v] w fun e w' => e = .returned (.bool true) ∧ Below w.heap.size w w' := by
  by_cases hl : wsum [x, y, z] ≤ 200000
  · exact (recorders_small x y z w hx hy hz hl).mono fun _ _ ⟨h1, h2⟩ => ⟨h1, h2.below (Nat.le_refl _) (fun _ _ h => h)⟩
  · exact (recorders_big x y z w hx hy hz hl).mono fun _ _ ⟨h1, h2⟩ => ⟨h1, h2.below (Nat.le_refl _) (fun _ _ h => h)⟩
end Go.Proofs.Ytbkpjjibgnachaa
