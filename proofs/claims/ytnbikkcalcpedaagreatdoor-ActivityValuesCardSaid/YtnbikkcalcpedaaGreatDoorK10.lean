/-
  Texts of this claim, put together: PolyL, Edge, IterX, Lit, TreeS, Has, OwnSet, CloneI, LawG, ConnB.
-/
import Derived.Test.YtnbikkcalcpedaaGreatDoorK07
import Derived.Test.YtnbikkcalcpedaaGreatDoorK04
import Derived.Deep.QuietTactic
import Derived.BigQuiet
import Derived.Test.YtnbikkcalcpedaaGreatDoorK05
import Derived.Test.YtnbikkcalcpedaaGreatDoorK09
import Derived.BigRegion
import Derived.Test.YtnbikkcalcpedaaGreatDoorK03
import Derived.Deep.Slices
import Derived.Test.YtnbikkcalcpedaaGreatDoorK02
/-! Sums over the terms of a polynomial that are linear in the coefficients. No program is in sight. -/
namespace Go.Proofs.YtnbikkcalcpedaaGreatDoor
section
variable {p q : List Tm} {a : Tm} {φ : Nat × Nat → Int}
/-- A sum over the terms, each power with a number. -/
def linP (φ : Nat × Nat → Int) (p : List Tm) : Int := (p.map fun a => a.2 * φ a.1).sum
theorem linP_nil : linP φ [] = 0 := rfl
theorem linP_cons : linP φ (a :: p) = a.2 * φ a.1 + linP φ p := by simp [linP]
theorem linP_plus : ∀ (p q : List Tm), linP φ (plusP p q) = linP φ p + linP φ q
  | [], q => by rw [plusP, linP_nil, Int.zero_add]
  | a :: p, [] => by rw [plusP, linP_nil, Int.add_zero]
  | a :: p, b :: q => by
    rw [plusP]
    split
    · rw [linP_cons, linP_plus p (b :: q), linP_cons (p := p)]; omega
    · split
      · rw [linP_cons, linP_plus (a :: p) q, linP_cons (p := q)]; omega
      · rename_i h1 h2
        have hab : a.1 = b.1 := abv_an (by simpa using h1) (by simpa using h2)
        split
        · rename_i h3
          rw [linP_plus p q, linP_cons, linP_cons, hab]
          have h4 : a.2 * φ b.1 + b.2 * φ b.1 = 0 := by rw [← Int.add_mul, h3, Int.zero_mul]
          omega
        · rw [linP_cons, linP_plus p q, linP_cons, linP_cons, hab, Int.add_mul]; omega
termination_by p q => p.length + q.length
theorem linP_mono (k : Nat × Nat) : linP φ [(k, 1)] = φ k := by rw [linP_cons, linP_nil, Int.one_mul, Int.add_zero]
/-- A sum of powers: each counts once. -/
theorem linP_sum (ks : List (Nat × Nat)) : linP φ (sumP ks) = (ks.map φ).sum := by
  obtain ⟨l, rfl⟩ : ∃ l : List (Nat × Nat), ks = l.reverse := ⟨ks.reverse, by simp⟩
  induction l with
  | nil => rfl
  | cons a l ih => rw [List.reverse_cons, sumP_snoc, linP_plus, linP_mono, ih, List.map_append, List.sum_append]; simp
end
end Go.Proofs.YtnbikkcalcpedaaGreatDoor

/-! Graphs: slices of edges (three cells each) and of pairs (two cells each); the reference's equality of graphs. -/
namespace Go.Proofs.YtnbikkcalcpedaaGreatDoor
open Go.RowKit

/-- An edge: its ends, and how often. -/
abbrev E3 := Int × Int × Int
def edgeCells : List E3 → List Value
  | [] => []
  | e :: es => .int .i64 e.1 :: .int .i64 e.2.1 :: .int .i64 e.2.2 :: edgeCells es
theorem edgeCells_length (es : List E3) : (edgeCells es).length = es.length * 3 := by
  induction es with
  | nil => rfl
  | cons e es ih => simp [edgeCells, ih]; omega
theorem edgeCells_append (es fs : List E3) : edgeCells (es ++ fs) = edgeCells es ++ edgeCells fs := by
  induction es with
  | nil => rfl
  | cons e es ih => simp [edgeCells, ih]
theorem edgeCells_at {es : List E3} {k : Nat} {e : E3} (h : es[k]? = some e) :
    (edgeCells es)[k * 3]? = some (.int .i64 e.1) ∧ (edgeCells es)[k * 3 + 1]? = some (.int .i64 e.2.1) ∧ (edgeCells es)[k * 3 + 2]? = some (.int .i64 e.2.2) := by
  induction es generalizing k with
  | nil => simp at h
  | cons f es ih =>
    rcases k with _ | k
    · simp at h; subst h; simp [edgeCells]
    · have := ih (k := k) (by simpa using h)
      rw [show (k + 1) * 3 = k * 3 + 1 + 1 + 1 from by omega, show k * 3 + 1 + 1 + 1 + 1 = (k * 3 + 1) + 1 + 1 + 1 from by omega, show k * 3 + 1 + 1 + 1 + 2 = (k * 3 + 2) + 1 + 1 + 1 from by omega]
      simpa [edgeCells] using this
theorem edgeCells_one {es : List E3} : ∀ u ∈ edgeCells es, u.oneCell' = true := by
  induction es with
  | nil => simp [edgeCells]
  | cons e es ih =>
    intro u hu
    simp only [edgeCells, List.mem_cons] at hu
    rcases hu with rfl | rfl | rfl | hu
    · rfl
    · rfl
    · rfl
    · exact ih u hu
theorem Reads.edge {w : World} {B n : Nat} {A : Option Addr} {es : List E3} {k : Nat} {e : E3} (h : Reads w B 3 A n (edgeCells es)) (he : es[k]? = some e) :
    ∃ b off, A = some ⟨b, off, none⟩ ∧ b < B ∧ w.cell? ⟨b, off + k * 3, none⟩ = some (.int .i64 e.1) ∧ w.cell? ⟨b, off + k * 3 + 1, none⟩ = some (.int .i64 e.2.1) ∧ w.cell? ⟨b, off + k * 3 + 1 + 1, none⟩ = some (.int .i64 e.2.2) := by
  have hk : k < es.length := (List.getElem?_eq_some_iff.1 he).1
  have hl := h.1
  rw [edgeCells_length] at hl
  obtain ⟨b, off, hA, hb, hc⟩ := h.2 (by omega)
  obtain ⟨h1, h2, h3⟩ := edgeCells_at he
  exact ⟨b, off, hA, hb, hc _ _ h1, by have := hc _ _ h2; rwa [show off + (k * 3 + 1) = off + k * 3 + 1 from by omega] at this, by have := hc _ _ h3; rwa [show off + (k * 3 + 2) = off + k * 3 + 1 + 1 from by omega] at this⟩

theorem info_edge : (Tryz.prog.info? 107).map (fun i => (i.zero, i.size, i.bytes)) = some (some (.agg #[.int .i64 0, .int .i64 0, .int .i64 0]), 3, 24) := by kernel_rfl

/-- The slice value is the call's own row of edges. -/
def OwnE (w : World) (base : Nat) (A : Option Addr) (c : Nat) (es : List E3) : Prop := w.ownsRow base 107 3 (.slice A es.length c) es.length (edgeCells es)
section
variable {w w' : World} {base : Nat} {A : Option Addr} {c : Nat} {es : List E3}
theorem OwnE.nil_ (w : World) (base : Nat) : OwnE w base none 0 [] := World.ownsRow_nil _ _ _ _
theorem OwnE.reads (h : OwnE w base A c es) : Reads w w.heap.size 3 A es.length (edgeCells es) := Reads.of_own h
theorem OwnE.alloc (h : OwnE w base A c es) (o : Obj) : OwnE (w.alloc o) base A c es := World.ownsRow.alloc h o
theorem OwnE.drewN (h : OwnE w base A c es) (n : Nat) : OwnE (w.drewN n) base A c es := h
theorem OwnE.lt (h : OwnE w base A c es) : ∀ k, blockOf A k → base ≤ k ∧ k < w.heap.size := fun k hk => World.ownsRow.lt h k (blockOf_own.2 hk)
theorem OwnE.kept (h : OwnE w base A c es) (hk : ∀ k, blockOf A k → w'.heap[k]? = w.heap[k]?) : OwnE w' base A c es := by
  obtain ⟨h1, h2⟩ := h
  refine ⟨h1, ?_⟩
  rcases h2 with h2 | ⟨g, cap, cur, hv, hg, hh, r⟩
  · exact .inl h2
  · have hgb : (Value.slice A es.length c).ownBlock = some g := by rw [hv]; rfl
    exact .inr ⟨g, cap, cur, hv, hg, (hk g (blockOf_own.1 hgb)).trans hh, r⟩
theorem OwnE.next (h : OwnE w base A c es) (hb : Below w.heap.size w w') : OwnE w' base A c es := h.kept fun k hk => hb.block k (h.lt k hk).2
theorem OwnE.mono {base' : Nat} (h : OwnE w base A c es) (hb : base' ≤ base) : OwnE w base' A c es := by
  obtain ⟨h1, h2⟩ := h
  refine ⟨h1, ?_⟩
  rcases h2 with h2 | ⟨g, cap, cur, hv, hg, r⟩
  · exact .inl h2
  · exact .inr ⟨g, cap, cur, hv, by omega, r⟩
theorem OwnE.set_blk {g : Nat} {t : TypeId} {cs : Array Value} (h : OwnE w base A c es) (hg : Blk w g t cs) (ht : 107 ≠ t) (o : Nat) (u : Value) : OwnE (w.setCell ⟨g, o, none⟩ u) base A c es := by
  have hne := own_blk_ne h hg ht
  refine h.kept fun k hk => Below.heap_setCell w ⟨g, o, none⟩ u k ?_
  rintro rfl
  exact hne (blockOf_own.2 hk).symm
end
end Go.Proofs.YtnbikkcalcpedaaGreatDoor

/-! What stays of slices through the steps of an iterator; the ends of functions that hold ranges over functions. -/
namespace Go.Proofs.YtnbikkcalcpedaaGreatDoor
open Go.RowKit Go.Shelf

/-- The marks of the loops that a function has gone through. -/
def MarksAt : List Deferred → World → Prop
  | [], _ => True
  | d :: ds, w => ∃ D, d = { target := .collected D, args := #[] } ∧ w.heap[D]? = some (.deferred (some [])) ∧ (∀ d' ∈ ds, d' ≠ d) ∧ MarksAt ds w
theorem MarksAt.keep {ds : List Deferred} {w w' : World} (h : MarksAt ds w) (hk : ∀ D, ({ target := .collected D, args := #[] } : Deferred) ∈ ds → w'.heap[D]? = w.heap[D]?) : MarksAt ds w' := by
  induction ds with
  | nil => trivial
  | cons d ds ih =>
    obtain ⟨D, hd, hD, hne, hr⟩ := h
    refine ⟨D, hd, (hk D (by rw [hd]; simp)).trans hD, hne, ih hr fun D' h' => hk D' (by simp [h'])⟩
theorem end_marks {P : Program} {n : Nat} {fn : Func} {R : Ending → World → Prop} {tmps : Array Value} : ∀ (ds : List Deferred) (w : World), MarksAt ds w →
    (∀ w', Only (fun k => ({ target := .collected k, args := #[] } : Deferred) ∈ ds) w w' → ∃ v, (results fn tmps).run P w' = .ok v w' ∧ R (.returned v) w') → LeavesInM Fence.wide n P fn tmps R ds .returning w := by
  intro ds
  induction ds with
  | nil => intro w _ h; exact h w (Only.refl _ _)
  | cons d ds ih =>
    rintro w ⟨D, hd, hD, hne, hr⟩ h
    refine ⟨by simp, .inl ⟨D, _, by rw [hd], run_takeDeferred hD, ih _ (hr.keep fun D' h' => World.putObj_heap_other fun e => hne _ h' (by rw [hd, e])) ?_⟩⟩
    intro w' ho
    refine h w' (Only.trans ((Only.put_one w D _).mono fun k _ hk => by subst hk; rw [hd]; simp) (ho.mono fun k _ hk => by simp [hk]))

theorem end_none {P : Program} {F : Fence} {n : Nat} {fn : Func} {R : Ending → World → Prop} {tmps : Array Value} {w : World} {v : Value} (hv : (results fn tmps).run P w = .ok v w) (hR : R (.returned v) w) :
    bodyPostM F n P fn R .ret { tmps := tmps, defers := [] } w := ⟨v, hv, hR⟩

theorem OwnI.stays {B : Nat} {M C : Nat → Prop} {w w' : World} {base c : Nat} {A : Option Addr} {xs : List Int} (h : OwnI w base A c xs) (hst : Stays B M C w w') (hC : ∀ k, blockOf A k → C k ∨ (k < B ∧ ¬ M k)) : OwnI w' base A c xs := by
  have hlt := h.lt
  obtain ⟨h1, h2⟩ := h
  refine ⟨h1, ?_⟩
  rcases h2 with h2 | ⟨g, cap, cur, hv, hg, hh, r⟩
  · exact .inl h2
  · have hgb : (Value.slice A xs.length c).ownBlock = some g := by rw [hv]; rfl
    exact .inr ⟨g, cap, cur, hv, hg, (hst.block g (hlt g hgb).2 (hC g (blockOf_own.1 hgb))).trans hh, r⟩
theorem OwnI.only {C : Nat → Prop} {w w' : World} {base c : Nat} {A : Option Addr} {xs : List Int} (h : OwnI w base A c xs) (ho : Only C w w') (hC : ∀ k, blockOf A k → ¬ C k) : OwnI w' base A c xs := by
  have hlt := h.lt
  obtain ⟨h1, h2⟩ := h
  refine ⟨h1, ?_⟩
  rcases h2 with h2 | ⟨g, cap, cur, hv, hg, hh, r⟩
  · exact .inl h2
  · have hgb : (Value.slice A xs.length c).ownBlock = some g := by rw [hv]; rfl
    exact .inr ⟨g, cap, cur, hv, hg, (ho.block g (hlt g hgb).2 (hC g (blockOf_own.1 hgb))).trans hh, r⟩
theorem reads_only {C : Nat → Prop} {w w' : World} {B n : Nat} {A : Option Addr} {xs : List Value} (h : Reads w B 1 A n xs) (ho : Only C w w') (hB : B ≤ w.heap.size) (hC : ∀ k, blockOf A k → ¬ C k) : Reads w' B 1 A n xs :=
  ⟨h.1, fun hn => by
    obtain ⟨b, off, rfl, hb, hc⟩ := h.2 hn
    exact ⟨b, off, rfl, hb, fun j u hu => (World.cell?_of_block (w := w) (ho.block b (by omega) (hC b ⟨_, rfl, rfl⟩))).trans (hc j u hu)⟩⟩

end Go.Proofs.YtnbikkcalcpedaaGreatDoor

/-! Slices of ints that are known whole. -/
namespace Go.Proofs.YtnbikkcalcpedaaGreatDoor
open Go.RowKit

def intCells (l : List Int) : Array Value := (ints l).toArray
theorem intCells_get {l : List Int} {k : Nat} {x : Int} (h : l[k]? = some x) : (intCells l)[k]? = some (.int .i64 x) := by simp [intCells, ints, h]
theorem intCells_set (l : List Int) (k : Nat) (x : Int) : (intCells l).setIfInBounds k (.int .i64 x) = intCells (l.set k x) := by simp [intCells, ints, List.map_set]
theorem OwnI.of_blk {w : World} {base g : Nat} {l : List Int} (h : Blk w g 3 (intCells l)) (hb : base ≤ g) (hl : l.length ≤ maxLen) : OwnI w base (some ⟨g, 0, none⟩) l.length l :=
  ⟨by simp [ints], .inr ⟨g, l.length, intCells l, rfl, hb, h, Nat.le_refl _, hl, by simp [intCells, ints], by rw [Nat.mul_one]; show (ints l).take l.length = ints l; rw [← ints_length, List.take_length]⟩⟩
end Go.Proofs.YtnbikkcalcpedaaGreatDoor

/-! Plain laws of paths in spanning trees: the parents found by rounds, a search in depth, and the cycle of a single edge. No program is in sight. -/
namespace Go.Proofs.YtnbikkcalcpedaaGreatDoor

section
variable {E : List (Nat × Nat)} {t : List Nat} {n e f a b v w r : Nat}

/-! The parents, by rounds. -/
/-! The search in depth: behind 'from' (a single edge, or none). -/
def lessO (t : List Nat) : Option Nat → List Nat
  | none => t
  | some f => lessL t f
/-- What 'from' is: none, or a single edge of the tree at this vertex. -/
def FromOk (E : List (Nat × Nat)) (t : List Nat) (v : Nat) (o : Option Nat) : Prop := ∀ f, o = some f → f ∈ t ∧ Inc E f v
theorem far_cn (hT : FoE n E t) {o : Option Nat} (ho : FromOk E t v o) (he : e ∈ t) (hi : Inc E e v) (hne : o ≠ some e) {y : Nat} (h : Cn (pk E (lessL t e)) (oth (E.getD e (0, 0)) v) y) : Cn (pk E (lessO t o)) v y := by
  cases o with
  | none => exact (inc_cn he hi).trans (cn_less h)
  | some f =>
    obtain ⟨hf, hj⟩ := ho f rfl
    have hfe : f ≠ e := fun h => hne (by rw [h])
    have hef : e ∈ lessL t f := mem_less.2 ⟨he, fun h => hfe h.symm⟩
    refine (inc_cn hef hi).trans ?_
    rcases (cn_split' (mem_less.2 ⟨hf, hfe⟩) hj).1 h with k | ⟨k, _⟩ | ⟨k, k2⟩
    · rw [less_comm] at k; exact cn_less k
    · exact absurd (cn_less k).symm (hT.bridge' he hi)
    · -- w joined with the other end of f, v with y: v with w again
      exfalso
      have h2 : Cn (pk E (lessL t e)) (oth (E.getD e (0, 0)) v) v := (cn_less k).trans (inc_cn (mem_less.2 ⟨hf, hfe⟩) hj).symm
      exact hT.bridge' he hi h2.symm
theorem dfs_yes (hT : FoE n E t) {o : Option Nat} (ho : FromOk E t v o) (he : e ∈ t) (hi : Inc E e v) (hne : o ≠ some e) (h : Cn (pk E (lessL t e)) (oth (E.getD e (0, 0)) v) b) : Cn (pk E (lessO t o)) v b ∧ pathL E t v b = e :: pathL E t (oth (E.getD e (0, 0)) v) b := by
  refine ⟨far_cn hT ho he hi hne h, ?_⟩
  have hs : Sep E t v b e := fun hc => hT.bridge' he hi (hc.trans h.symm)
  exact pathL_step hT ((inc_cn he hi).trans (cn_less h)) he hi hs
theorem dfs_no (hT : FoE n E t) {o : Option Nat} (hvb : v ≠ b) (h : ∀ e ∈ t, Inc E e v → o ≠ some e → ¬ Cn (pk E (lessL t e)) (oth (E.getD e (0, 0)) v) b) : ¬ Cn (pk E (lessO t o)) v b := by
  intro hc
  have hT' : FoE n E (lessO t o) := by
    cases o with
    | none => exact hT
    | some f => exact hT.less f
  obtain ⟨e, he, hi, hs⟩ := par_ex hT' hc hvb
  have h1 := sep_oth hc he hi hs
  have het : e ∈ t := by
    cases o with
    | none => exact he
    | some f => exact (mem_less.1 he).1
  refine h e het hi ?_ ?_
  · rintro rfl; exact (mem_less.1 he).2 rfl
  · refine cn_sub (fun x hx => ?_) h1
    obtain ⟨k1, k2⟩ := mem_less.1 hx
    refine mem_less.2 ⟨?_, k2⟩
    cases o with
    | none => exact k1
    | some f => exact (mem_less.1 k1).1
/-- How many single edges may still be visited. -/
def cmpN (E : List (Nat × Nat)) (t : List Nat) (v : Nat) (o : Option Nat) : Nat := ((lessO t o).filter fun x => decide (Cn (pk E (lessO t o)) v (E.getD x (0, 0)).1)).length
theorem cmp_less (hT : FoE n E t) {o : Option Nat} (ho : FromOk E t v o) (he : e ∈ t) (hi : Inc E e v) (hne : o ≠ some e) : cmpN E t (oth (E.getD e (0, 0)) v) (some e) < cmpN E t v o := by
  have hn : ((lessL t e).filter fun x => decide (Cn (pk E (lessL t e)) (oth (E.getD e (0, 0)) v) (E.getD x (0, 0)).1)).Nodup := (less_nodup hT.nodup).sublist List.filter_sublist
  have heo : e ∈ lessO t o := by
    cases o with
    | none => exact he
    | some f => exact mem_less.2 ⟨he, fun h => hne (by rw [h])⟩
  have h2 : (e :: ((lessL t e).filter fun x => decide (Cn (pk E (lessL t e)) (oth (E.getD e (0, 0)) v) (E.getD x (0, 0)).1))).length ≤ ((lessO t o).filter fun x => decide (Cn (pk E (lessO t o)) v (E.getD x (0, 0)).1)).length := by
    refine nodup_sub_le (List.nodup_cons.2 ⟨fun h => (mem_less.1 (List.mem_filter.1 h).1).2 rfl, hn⟩) fun x hx => ?_
    rw [List.mem_filter, decide_eq_true_eq]
    rcases List.mem_cons.1 hx with rfl | hx
    · refine ⟨heo, ?_⟩
      have h3 := inc_cn heo hi
      rcases inc_cases hi with ⟨k1, k2⟩ | ⟨k1, k2⟩
      · rw [k1]; exact .refl
      · rw [k2]; exact h3
    · rw [List.mem_filter, decide_eq_true_eq] at hx
      obtain ⟨k1, k2⟩ := hx
      refine ⟨?_, far_cn hT ho he hi hne k2⟩
      cases o with
      | none => exact (mem_less.1 k1).1
      | some f =>
        refine mem_less.2 ⟨(mem_less.1 k1).1, ?_⟩
        rintro rfl
        obtain ⟨hf, hj⟩ := ho x rfl
        have h5 := inc_cn k1 hj
        have h6 : Cn (pk E (lessL t e)) (oth (E.getD e (0, 0)) v) v := by
          rcases inc_cases hj with ⟨j1, j2⟩ | ⟨j1, j2⟩
          · rw [j1] at k2; exact k2
          · rw [j2] at k2; exact k2.trans h5.symm
        exact hT.bridge' he hi h6.symm
  unfold cmpN
  simp only [List.length_cons] at h2
  exact h2

/-! The cycle of a single edge. -/
end
end Go.Proofs.YtnbikkcalcpedaaGreatDoor

/-! slices.Index and Contains on ints (from XLegal, for programs without firing). -/
namespace Go.Proofs.YtnbikkcalcpedaaGreatDoor
open Go.RowKit

set_option maxHeartbeats 1000000 in
theorem index_any (A : Option Addr) (c : Nat) (xs : List Int) (hn : xs.length ≤ 1048576) (v : Int) (w : World) (h : Reads w w.heap.size 1 A xs.length (ints xs)) :
    Calls Tryz.prog 75 #[.slice A xs.length c, .int .i64 v] w fun e w' => ∃ r : Int, e = .returned (.int .i64 r) ∧ Hid (0 ≤ r ↔ v ∈ xs) ∧ w = w' := by
  go_enter Tryz.func75, Tryz.ntmps75
  go_wp2
  go_loop [8] (fun i => ∃ k : Nat, k ≤ xs.length ∧ i = .int .i64 k ∧ Hid (v ∉ xs.take k)) (fun i => xs.length - (intOf i).toNat)
  case atStart => exact ⟨0, by omega, rfl, by simp [Hid]⟩
  case round =>
    obtain ⟨k, hk, rfl, HS⟩ := hrel
    by_cases hlt : k < xs.length
    · obtain ⟨x, hx⟩ := get_of_lt hlt
      obtain ⟨b, off, rfl, hb, hcell⟩ := h.at_ (ints_at hx)
      have hi : (k : Int) < (xs.length : Int) := by omega
      have htk := take_snoc hx
      by_cases hv : v = x
      · have e : (v == x) = true := by simpa using hv
        have HT : Hid (v ∈ xs) := by rw [hv]; exact List.mem_of_getElem? hx
        clear hx htk hv
        go_wp2
        go_ret
        exact ⟨k, rfl, ⟨fun _ => HT.out, fun _ => by omega⟩, rfl⟩
      · have e : (v == x) = false := by simpa using hv
        have HN : Hid (v ∉ xs.take (k + 1)) := by
          rw [htk, Hid, List.mem_append]
          rintro (hc | hc)
          · exact HS.out hc
          · exact hv (List.mem_singleton.1 hc)
        clear hx htk hv
        go_wp2
        go_round
        case rel => exact ⟨k + 1, by omega, by go_num, HN⟩
        case measure => simp [intOf]; omega
    · obtain rfl : k = xs.length := by omega
      rw [List.take_length] at HS
      go_wp2
      go_ret
      exact ⟨-1, rfl, ⟨fun h => absurd h (by decide), fun h => absurd h HS.out⟩, rfl⟩
set_option maxHeartbeats 1000000 in
theorem contains_any (A : Option Addr) (c : Nat) (xs : List Int) (hn : xs.length ≤ 1048576) (v : Int) (w : World) (h : Reads w w.heap.size 1 A xs.length (ints xs)) :
    Calls Tryz.prog 25 #[.slice A xs.length c, .int .i64 v] w fun e w' => e = .returned (.bool (decide (v ∈ xs))) ∧ w = w' := by
  have IC := Lib.hid (index_any A c xs hn v w h)
  go_enter Tryz.func25, Tryz.ntmps25
  go_wp2_with fail
  refine (IC.out).mono ?_
  rintro e w1 ⟨r, rfl, HR, rfl⟩
  go_wp2
  go_ret
  exact ⟨ret_bool (by rw [Bool.eq_iff_iff]; simp [HR.out]), rfl⟩

end Go.Proofs.YtnbikkcalcpedaaGreatDoor

/-! A slice of ints of the call's own: its block, and a store into it. -/
namespace Go.Proofs.YtnbikkcalcpedaaGreatDoor
open Go.RowKit

theorem OwnI.block {w : World} {base : Nat} {A : Option Addr} {c : Nat} {xs : List Int} (h : OwnI w base A c xs) (hn : 0 < xs.length) : ∃ g, A = some ⟨g, 0, none⟩ ∧ base ≤ g ∧ (∀ i, w.frozen? ⟨g, i, none⟩ = false) ∧ ∀ (k : Nat) (x : Int), xs[k]? = some x → w.cell? ⟨g, k, none⟩ = some (.int .i64 x) := by
  obtain ⟨h1, h2⟩ := h
  rcases h2 with ⟨h2, h3⟩ | ⟨g, cap, cur, hv, hg, hh, r1, r2, r3, r4⟩
  · simp at h2; omega
  · injection hv with hv1 hv2 hv3
    have hb : Blk w g 3 cur := hh
    refine ⟨g, hv1, hg, hb.frozen, fun k x hk => ?_⟩
    rw [hb.cell k]
    have hk' : k < xs.length := (List.getElem?_eq_some_iff.1 hk).1
    have e1 : (cur.toList.take (xs.length * 1))[k]? = some (.int .i64 x) := by rw [r4, ints_at hk]
    rw [Nat.mul_one, List.getElem?_take_of_lt hk', Array.getElem?_toList] at e1
    exact e1
theorem OwnI.set {w : World} {base : Nat} {A : Option Addr} {c g : Nat} {xs : List Int} (h : OwnI w base A c xs) (hA : A = some ⟨g, 0, none⟩) (k : Nat) (x : Int) : OwnI (w.setCell ⟨g, k, none⟩ (.int .i64 x)) base A c (xs.set k x) := by
  obtain ⟨h1, h2⟩ := h
  rcases h2 with ⟨h2, h3⟩ | ⟨g', cap, cur, hv, hg, hh, r1, r2, r3, r4⟩
  · simp at h2; rw [hA] at h2; simp at h2
  · have hv1 : A = some ⟨g', 0, none⟩ := by injection hv
    rw [hA] at hv1
    have hgg : g = g' := by injection hv1 with hv1; injection hv1
    subst hgg
    refine ⟨by rw [ints_length]; simp, .inr ⟨g, cap, cur.setIfInBounds k (.int .i64 x), by rw [List.length_set]; exact hv, hg, (Blk.set_ (show Blk w g 3 cur from hh) k _), by rw [List.length_set]; exact r1, r2, by simpa using r3, ?_⟩⟩
    rw [Array.toList_setIfInBounds, List.take_set, List.length_set, r4]
    simp [ints, List.map_set]
theorem OwnI.at_ {w : World} {base c g : Nat} {xs : List Int} (h : OwnI w base (some ⟨g, 0, none⟩) c xs) (hn : 0 < xs.length) : base ≤ g ∧ g < w.heap.size ∧ (∀ i, w.frozen? ⟨g, i, none⟩ = false) ∧ ∀ (k : Nat) (x : Int), xs[k]? = some x → w.cell? ⟨g, k, none⟩ = some (.int .i64 x) := by
  obtain ⟨g', e, h1, h2, h3⟩ := h.block hn
  injection e with e
  injection e with e
  subst e
  exact ⟨h1, (own_lt h ⟨_, rfl, rfl⟩).2, h2, h3⟩
theorem OwnI.put {w : World} {base c g : Nat} {xs : List Int} (h : OwnI w base (some ⟨g, 0, none⟩) c xs) (k : Nat) (x : Int) : OwnI (w.setCell ⟨g, k, none⟩ (.int .i64 x)) base (some ⟨g, 0, none⟩) c (xs.set k x) := h.set rfl k x
theorem OwnI.other {w : World} {base c g : Nat} {xs : List Int} (h : OwnI w base (some ⟨g, 0, none⟩) c xs) {p : Addr} (hp : p.block ≠ g) (u : Value) : OwnI (w.setCell p u) base (some ⟨g, 0, none⟩) c xs :=
  own_kept h fun k hk => by
    obtain ⟨a, ha, hk⟩ := hk
    injection ha with ha
    subst ha
    exact Below.heap_setCell w p u k (fun e => hp (by rw [← e, ← hk]))
theorem OwnI.kept {w w' : World} {base c g : Nat} {xs : List Int} (h : OwnI w base (some ⟨g, 0, none⟩) c xs) (hp : w'.heap[g]? = w.heap[g]?) : OwnI w' base (some ⟨g, 0, none⟩) c xs :=
  own_kept h fun k hk => by
    obtain ⟨a, ha, hk⟩ := hk
    injection ha with ha
    subst ha
    subst hk
    exact hp
end Go.Proofs.YtnbikkcalcpedaaGreatDoor

/-! slices.Clone on ints. -/
namespace Go.Proofs.YtnbikkcalcpedaaGreatDoor
open Go.RowKit

set_option maxHeartbeats 400000 in
/-- slices.Clone on ints. -/
theorem clone_any (A : Option Addr) (c : Nat) (xs : List Int) (hn : xs.length ≤ 1048000) (w : World) (h : Reads w w.heap.size 1 A xs.length (ints xs)) :
    Calls Tryz.prog 92 #[.slice A xs.length c] w fun e w' =>
      ∃ A' c', e = .returned (.slice A' xs.length c') ∧ OwnI w' w.heap.size A' c' xs ∧ Below w.heap.size w w' := by
  have q22 : ∀ (w : World) (a : Option Addr) (n c n' c' : Nat), (binOp .eql 25 (.slice a n c) (.slice none n' c')).run Tryz.prog w = .ok (.bool a.isNone) w := fun w a n c n' c' => Lib.run_eql_slice_nil w _ _ a n c n' c' Tryz.underlying25
  rcases A with _ | ad
  · have hx : xs = [] := by
      rcases xs with _ | ⟨x, xs⟩
      · rfl
      · obtain ⟨_, _, h, _⟩ := h.2 (by simp)
        cases h
    subst hx
    go_enter Tryz.func92, Tryz.ntmps92
    go_wp2
    go_ret
    exact ⟨none, 0, rfl, OwnI.nil_ _ _, Below.refl _ _⟩
  · go_enter Tryz.func92, Tryz.ntmps92
    have hown0 : (w.alloc (.cells #[] 3)).ownsRow w.heap.size 3 1 (.slice (some ⟨w.heap.size, 0, none⟩) 0 0) 0 [] := World.ownsRow_made w #[] 0 (Nat.le_refl _) (by simp [maxLen]) (by simp)
    have hr := h.alloc (Nat.le_refl _) (.cells #[] 3)
    go_wp2_with (at_builtin; refine append_go rfl (.tmp 5) (.tmp 6) _ rfl w.heap.size 3 Tryz.underlying25 info_int rfl (by omega) (some ⟨w.heap.size, 0, none⟩) 0 0 [] rfl hown0 w.heap.size (ints xs) rfl hr (by simp [ints, Value.oneCell']) (by omega) (by simp) ?_; intro A' c' w' hown' _ hb' _)
    go_ret
    refine ⟨A', c', rfl, ?_, ((Below.refl _ _).alloc (Nat.le_refl _) _).trans hb'⟩
    rw [Nat.zero_add, List.nil_append] at hown'
    exact hown'

end Go.Proofs.YtnbikkcalcpedaaGreatDoor

/-! What the frames of the graph laws share: a graph that came in, a list of ints of whatever name. -/
namespace Go.Proofs.YtnbikkcalcpedaaGreatDoor
open Go.ChangeShapes Go.WideShapes Go.ChangeAt Go.RowKit Go.Deep

section
variable {H : Type} {enc : TypeId × Value → H} {W : World}

set_option maxRecDepth 100000 in
/-- A graph. -/
theorem open_graph {fuel : Nat} {cs : List Value} {x : DataW H × List MemPlace} (h : DataW.trod enc Tryz.prog W 0 (fun _ => true) true fuel 24 cs = some x) :
    ∃ (n : Int) (a : Option Addr) (cap : Nat) (es : List E3), cs = [.int .i64 n, .slice a es.length cap] ∧ es.length ≤ maxLen ∧ Reads W W.heap.size 3 a es.length (edgeCells es) ∧ (Lit.int .i64 n).wf = true := by
  obtain ⟨ys, m, rfl, _, hlen, hys, hf⟩ := DataW.trod_struct Tryz.underlying24 h
  rw [show Tryz.prog.cellsOf 24 = 2 from by kernel_rfl] at hlen
  match cs, hlen with
  | [u0, u1], _ =>
    have f0 := hf 0 _ rfl
    have f1 := hf 1 _ rfl
    have hsz : ys.length = 2 := hys
    obtain ⟨y0, hy0⟩ : ∃ y, ys[0]? = some y := ⟨_, List.getElem?_eq_getElem (by omega)⟩
    obtain ⟨y1, hy1⟩ : ∃ y, ys[1]? = some y := ⟨_, List.getElem?_eq_getElem (by omega)⟩
    rw [hy0] at f0
    rw [hy1] at f1
    have ci : Tryz.prog.cellsOf 3 = 1 := by kernel_rfl
    have cl : Tryz.prog.cellsOf 22 = 1 := by kernel_rfl
    simp [ci, cl] at f0 f1
    obtain ⟨n, hn, _, hw⟩ := DataW.trod_int Tryz.underlying3 f0
    injection hn with hn
    subst hn
    rcases open_slice Tryz.underlying22 f1 with ⟨hcs, _⟩ | ⟨a, len, cap, k, fu, D, Pl, hcs, hb, hl, hm, hk, _, hx⟩
    · injection hcs with hcs
      subst hcs
      exact ⟨n, none, 0, [], rfl, by simp, Reads.nil_, hw⟩
    · injection hcs with hcs
      subst hcs
      have hk : k = cap := by simpa using hk
      have ce : Tryz.prog.cellsOf 107 = 3 := by kernel_rfl
      have each : ∀ i, i < len → ∃ e : E3, W.cell? (a.add (i * 3)) = some (.int .i64 e.1) ∧ W.cell? (a.add (i * 3 + 1)) = some (.int .i64 e.2.1) ∧ W.cell? (a.add (i * 3 + 2)) = some (.int .i64 e.2.2) := by
        intro i hi
        obtain ⟨cs', h1, h2⟩ := hx i (by omega)
        rw [ce] at h1
        obtain ⟨_, hlen, hcell⟩ := World.cells?_some h1
        obtain ⟨xs, k, _, _, _, hxl, hf⟩ := DataW.trod_struct Tryz.underlying107 h2
        match xs, hxl, cs', hlen with
        | [y0, y1, y2], _, [v0, v1, v2], _ =>
          have g0 := hf 0 _ rfl
          have g1 := hf 1 _ rfl
          have g2 := hf 2 _ rfl
          simp [ci] at g0 g1 g2
          have e0 := hcell 0 (by omega)
          have e1 := hcell 1 (by omega)
          have e2 := hcell 2 (by omega)
          rw [add_add] at e0 e1 e2
          obtain ⟨n0, q0, _, _⟩ := DataW.trod_int Tryz.underlying3 g0
          obtain ⟨n1, q1, _, _⟩ := DataW.trod_int Tryz.underlying3 g1
          obtain ⟨n2, q2, _, _⟩ := DataW.trod_int Tryz.underlying3 g2
          injection q0 with q0
          injection q1 with q1
          injection q2 with q2
          subst q0 q1 q2
          exact ⟨(n0, n1, n2), by simpa using e0, by simpa using e1, by simpa using e2⟩
      obtain ⟨F, hF⟩ := choose_lt each
      have hlen : ((List.range len).map F).length = len := by simp
      have hspot : 0 < len → ∃ b off, a = ⟨b, off, none⟩ ∧ b < W.heap.size := by
        intro h0
        have hc := (hF 0 h0).1
        obtain ⟨b, off, spot⟩ := a
        obtain rfl : spot = none := by simpa [Addr.add] using World.cell?_spot hc
        have := World.block_lt_of_cell? W _ hc
        exact ⟨b, off, rfl, by simpa [Addr.add] using this⟩
      refine ⟨n, some a, cap, (List.range len).map F, by rw [hlen], by rw [hlen]; omega, ⟨edgeCells_length _, fun hn => ?_⟩, hw⟩
      rw [hlen] at hn
      obtain ⟨b, off, rfl, hb2⟩ := hspot hn
      refine ⟨b, off, rfl, hb2, fun j u hu => ?_⟩
      have hj : j < (edgeCells ((List.range len).map F)).length := (List.getElem?_eq_some_iff.1 hu).1
      rw [edgeCells_length, hlen] at hj
      have hi : j / 3 < len := by omega
      have hget : ((List.range len).map F)[j / 3]? = some (F (j / 3)) := by rw [List.getElem?_map, List.getElem?_range hi]; rfl
      obtain ⟨k0, k1, k2⟩ := edgeCells_at hget
      obtain ⟨m0, m1, m2⟩ := hF _ hi
      rw [add_plain] at m0 m1 m2
      have h3 : j = j / 3 * 3 ∨ j = j / 3 * 3 + 1 ∨ j = j / 3 * 3 + 2 := by omega
      rcases h3 with h3 | h3 | h3
      · rw [h3, k0] at hu; injection hu with hu; rw [show off + j = off + (j / 3 * 3) from by omega, ← hu]; exact m0
      · rw [h3, k1] at hu; injection hu with hu; rw [show off + j = off + (j / 3 * 3 + 1) from by omega, ← hu]; exact m1
      · rw [h3, k2] at hu; injection hu with hu; rw [show off + j = off + (j / 3 * 3 + 2) from by omega, ← hu]; exact m2
end
end Go.Proofs.YtnbikkcalcpedaaGreatDoor

/-! Connectedness, as a bool. -/
namespace Go.Proofs.YtnbikkcalcpedaaGreatDoor
open Go.RowKit

/-- Is a right graph connected? -/
def connB (n : Nat) (es : List E3) : Bool := decide ((partsTo es n n).1 = 1)
theorem connB_iff {n : Nat} {es : List E3} (hG : RightG n es) : connB n es = true ↔ AllConn n es := by
  rw [← partsTo_connected hG]; simp [connB]
theorem connB_joins {n : Nat} {es : List E3} {f : List Nat} (hG : RightG n es) (h : Joins es f) : connB n es = decide (rootsTo f n = 1) := by
  rw [Bool.eq_iff_iff, connB_iff hG, ← joins_connected h hG]; simp

end Go.Proofs.YtnbikkcalcpedaaGreatDoor

