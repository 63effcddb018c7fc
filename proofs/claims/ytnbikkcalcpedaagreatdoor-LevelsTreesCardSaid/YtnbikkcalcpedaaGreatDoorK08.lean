/-
 Texts of this claim, put together: Edge, IterX, Lit, TreeS, Has, OwnSet, CloneI, LeastP, RowsD, BelP, LawG, ConnB, DelF, Sort.
-/
import Derived.Test.YtnbikkcalcpedaaGreatDoorK02
import Derived.Test.YtnbikkcalcpedaaGreatDoorK04
import Derived.Deep.QuietTactic
import Derived.BigQuiet
import Derived.Test.YtnbikkcalcpedaaGreatDoorK03
import Derived.Test.YtnbikkcalcpedaaGreatDoorK05
import Derived.BigRegion
import Derived.Test.YtnbikkcalcpedaaGreatDoorK07
import Derived.Deep.Slices
import Derived.Test.YtnbikkcalcpedaaGreatDoorK01
import Derived.Lib.SliceRun
import Derived.WalkKit
set_option maxRecDepth 100000
set_option maxHeartbeats 400000
namespace Go.Proofs.YtnbikkcalcpedaaGreatDoor
open Go.RowKit
abbrev E3 := Int × Int × Int
def edgeCells : List E3 → List Value
 | [] => []
 | e :: es => .int .i64 e.1 :: .int .i64 e.2.1 :: .int .i64 e.2.2 :: edgeCells es
theorem edgeCells_length (es : List E3) : (edgeCells es).length = es.length * 3 := by
 induction es with
 | nil => rfl
 | cons e es ih => simp [edgeCells, ih]; omega
theorem edgeCells_append (es fs : List E3) : edgeCells (es ++ fs) = edgeCells es ++ edgeCells fs := by
 induction es with
 | nil => rfl
 | cons e es ih => simp [edgeCells, ih]
theorem edgeCells_at {es : List E3} {k : Nat} {e : E3} (h : es[k]? = some e) :
  (edgeCells es)[k * 3]? = some (.int .i64 e.1) ∧ (edgeCells es)[k * 3 + 1]? = some (.int .i64 e.2.1) ∧ (edgeCells es)[k * 3 + 2]? = some (.int .i64 e.2.2) := by
 induction es generalizing k with
 | nil => simp at h
 | cons f es ih =>
   rcases k with _ | k
   ·simp at h; subst h; simp [edgeCells]
   ·have := ih (k := k) (by simpa using h)
    rw [show (k + 1) * 3 = k * 3 + 1 + 1 + 1 from by omega, show k * 3 + 1 + 1 + 1 + 1 = (k * 3 + 1) + 1 + 1 + 1 from by omega, show k * 3 + 1 + 1 + 1 + 2 = (k * 3 + 2) + 1 + 1 + 1 from by omega]
    simpa [edgeCells] using this
theorem edgeCells_one {es : List E3} : ∀ u ∈ edgeCells es, u.oneCell' = true := by
 induction es with
 | nil => simp [edgeCells]
 | cons e es ih =>
   intro u hu
   simp only [edgeCells, List.mem_cons] at hu
   rcases hu with rfl | rfl | rfl | hu
   ·rfl
   ·rfl
   ·rfl
   ·exact ih u hu
theorem Reads.edge {w : World} {B n : Nat} {A : Option Addr} {es : List E3} {k : Nat} {e : E3} (h : Reads w B 3 A n (edgeCells es)) (he : es[k]? = some e) :
  ∃ b off, A = some ⟨b, off, none⟩ ∧ b < B ∧ w.cell? ⟨b, off + k * 3, none⟩ = some (.int .i64 e.1) ∧ w.cell? ⟨b, off + k * 3 + 1, none⟩ = some (.int .i64 e.2.1) ∧ w.cell? ⟨b, off + k * 3 + 1 + 1, none⟩ = some (.int .i64 e.2.2) := by
 have hk : k < es.length := (List.getElem?_eq_some_iff.1 he).1
 have hl := h.1
 rw [edgeCells_length] at hl
 obtain ⟨b, off, hA, hb, hc⟩ := h.2 (by omega)
 obtain ⟨h1, h2, h3⟩ := edgeCells_at he
 exact ⟨b, off, hA, hb, hc _ _ h1, by have := hc _ _ h2; rwa [show off + (k * 3 + 1) = off + k * 3 + 1 from by omega] at this, by have := hc _ _ h3; rwa [show off + (k * 3 + 2) = off + k * 3 + 1 + 1 from by omega] at this⟩
theorem info_edge : (Tryz.prog.info? 107).map (fun i => (i.zero, i.size, i.bytes)) = some (some (.agg #[.int .i64 0, .int .i64 0, .int .i64 0]), 3, 24) := by kernel_rfl
def OwnE (w : World) (base : Nat) (A : Option Addr) (c : Nat) (es : List E3) : Prop := w.ownsRow base 107 3 (.slice A es.length c) es.length (edgeCells es)
section
variable {w w' : World} {base : Nat} {A : Option Addr} {c : Nat} {es : List E3}
theorem OwnE.nil_ (w : World) (base : Nat) : OwnE w base none 0 [] := World.ownsRow_nil _ _ _ _
theorem OwnE.reads (h : OwnE w base A c es) : Reads w w.heap.size 3 A es.length (edgeCells es) := Reads.of_own h
theorem OwnE.alloc (h : OwnE w base A c es) (o : Obj) : OwnE (w.alloc o) base A c es := World.ownsRow.alloc h o
theorem OwnE.drewN (h : OwnE w base A c es) (n : Nat) : OwnE (w.drewN n) base A c es := h
theorem OwnE.lt (h : OwnE w base A c es) : ∀ k, blockOf A k → base ≤ k ∧ k < w.heap.size := fun k hk => World.ownsRow.lt h k (blockOf_own.2 hk)
theorem OwnE.kept (h : OwnE w base A c es) (hk : ∀ k, blockOf A k → w'.heap[k]? = w.heap[k]?) : OwnE w' base A c es := by
 obtain ⟨h1, h2⟩ := h
 refine ⟨h1, ?_⟩
 rcases h2 with h2 | ⟨g, cap, cur, hv, hg, hh, r⟩
 ·exact .inl h2
 ·have hgb : (Value.slice A es.length c).ownBlock = some g := by rw [hv]; rfl
  exact .inr ⟨g, cap, cur, hv, hg, (hk g (blockOf_own.1 hgb)).trans hh, r⟩
theorem OwnE.next (h : OwnE w base A c es) (hb : Below w.heap.size w w') : OwnE w' base A c es := h.kept fun k hk => hb.block k (h.lt k hk).2
theorem OwnE.mono {base' : Nat} (h : OwnE w base A c es) (hb : base' ≤ base) : OwnE w base' A c es := by
 obtain ⟨h1, h2⟩ := h
 refine ⟨h1, ?_⟩
 rcases h2 with h2 | ⟨g, cap, cur, hv, hg, r⟩
 ·exact .inl h2
 ·exact .inr ⟨g, cap, cur, hv, by omega, r⟩
theorem OwnE.set_blk {g : Nat} {t : TypeId} {cs : Array Value} (h : OwnE w base A c es) (hg : Blk w g t cs) (ht : 107 ≠ t) (o : Nat) (u : Value) : OwnE (w.setCell ⟨g, o, none⟩ u) base A c es := by
 have hne := own_blk_ne h hg ht
 refine h.kept fun k hk => Below.heap_setCell w ⟨g, o, none⟩ u k ?_
 rintro rfl
 exact hne (blockOf_own.2 hk).symm
end
theorem push_edge {ops : Array Oper} {rest : List Oper} {o : Oper} {a : Act} {Q : Exit → Act → World → Prop} {w : World} (hgd : o.guard = none) (s x : Operand) (t : TypeId)
  (ho : o.op = .call { callee := .builtin .append, args := #[s, x], argTypes := #[t, t] }) (ht : Tryz.prog.underlying t = some (.slice 107))
  (base : Nat) (A : Option Addr) (c : Nat) (es : List E3) (e1 e2 e3 : Int) (hs : a.eval s = .slice A es.length c) (hown : OwnE w base A c es)
  {g : Nat} (hx : a.eval x = .slice (some ⟨g, 0, none⟩) 1 1) (hgw : g = w.heap.size) (hn : es.length ≤ 1048000) (hbase : base ≤ w.heap.size)
  (h : ∀ A' c' w', OwnE w' base A' c' (es ++ [(e1, e2, e3)]) → (w.alloc (.cells #[.int .i64 e1, .int .i64 e2, .int .i64 e3] 107)).grownBy w' (Value.slice A es.length c).ownBlock → Below base w w' →
   wpList Tryz.prog ops Q rest (a.put o.dst (.slice A' (es.length + 1) c')) w') :
  wpList Tryz.prog ops Q (o :: rest) a (w.alloc (.cells #[.int .i64 e1, .int .i64 e2, .int .i64 e3] 107)) := by
 subst hgw
 refine append_go hgd s x t ho base 107 ht info_edge rfl (by omega) A c es.length (edgeCells es) hs (OwnE.alloc hown _) _ (edgeCells [(e1, e2, e3)]) hx (Reads.boxN w #[.int .i64 e1, .int .i64 e2, .int .i64 e3] 107) edgeCells_one (by omega) (by simp; omega) ?_
 intro A' c' w' hown' hg hB _
 exact h A' c' w' (by unfold OwnE; rw [List.length_append, edgeCells_append]; exact hown') hg (((Below.refl base w).alloc hbase _).trans hB)
end Go.Proofs.YtnbikkcalcpedaaGreatDoor
namespace Go.Proofs.YtnbikkcalcpedaaGreatDoor
open Go.RowKit Go.Shelf
def MarksAt : List Deferred → World → Prop
 | [], _ => True
 | d :: ds, w => ∃ D, d = { target := .collected D, args := #[] } ∧ w.heap[D]? = some (.deferred (some [])) ∧ (∀ d' ∈ ds, d' ≠ d) ∧ MarksAt ds w
theorem MarksAt.keep {ds : List Deferred} {w w' : World} (h : MarksAt ds w) (hk : ∀ D, ({ target := .collected D, args := #[] } : Deferred) ∈ ds → w'.heap[D]? = w.heap[D]?) : MarksAt ds w' := by
 induction ds with
 | nil => trivial
 | cons d ds ih =>
   obtain ⟨D, hd, hD, hne, hr⟩ := h
   refine ⟨D, hd, (hk D (by rw [hd]; simp)).trans hD, hne, ih hr fun D' h' => hk D' (by simp [h'])⟩
theorem end_marks {P : Program} {n : Nat} {fn : Func} {R : Ending → World → Prop} {tmps : Array Value} : ∀ (ds : List Deferred) (w : World), MarksAt ds w →
  (∀ w', Only (fun k => ({ target := .collected k, args := #[] } : Deferred) ∈ ds) w w' → ∃ v, (results fn tmps).run P w' = .ok v w' ∧ R (.returned v) w') → LeavesInM Fence.wide n P fn tmps R ds .returning w := by
 intro ds
 induction ds with
 | nil => intro w _ h; exact h w (Only.refl _ _)
 | cons d ds ih =>
   rintro w ⟨D, hd, hD, hne, hr⟩ h
   refine ⟨by simp, .inl ⟨D, _, by rw [hd], run_takeDeferred hD, ih _ (hr.keep fun D' h' => World.putObj_heap_other fun e => hne _ h' (by rw [hd, e])) ?_⟩⟩
   intro w' ho
   refine h w' (Only.trans ((Only.put_one w D _).mono fun k _ hk => by subst hk; rw [hd]; simp) (ho.mono fun k _ hk => by simp [hk]))
theorem end_none {P : Program} {F : Fence} {n : Nat} {fn : Func} {R : Ending → World → Prop} {tmps : Array Value} {w : World} {v : Value} (hv : (results fn tmps).run P w = .ok v w) (hR : R (.returned v) w) :
  bodyPostM F n P fn R .ret { tmps := tmps, defers := [] } w := ⟨v, hv, hR⟩
theorem OwnI.stays {B : Nat} {M C : Nat → Prop} {w w' : World} {base c : Nat} {A : Option Addr} {xs : List Int} (h : OwnI w base A c xs) (hst : Stays B M C w w') (hC : ∀ k, blockOf A k → C k ∨ (k < B ∧ ¬ M k)) : OwnI w' base A c xs := by
 have hlt := h.lt
 obtain ⟨h1, h2⟩ := h
 refine ⟨h1, ?_⟩
 rcases h2 with h2 | ⟨g, cap, cur, hv, hg, hh, r⟩
 ·exact .inl h2
 ·have hgb : (Value.slice A xs.length c).ownBlock = some g := by rw [hv]; rfl
  exact .inr ⟨g, cap, cur, hv, hg, (hst.block g (hlt g hgb).2 (hC g (blockOf_own.1 hgb))).trans hh, r⟩
theorem OwnI.only {C : Nat → Prop} {w w' : World} {base c : Nat} {A : Option Addr} {xs : List Int} (h : OwnI w base A c xs) (ho : Only C w w') (hC : ∀ k, blockOf A k → ¬ C k) : OwnI w' base A c xs := by
 have hlt := h.lt
 obtain ⟨h1, h2⟩ := h
 refine ⟨h1, ?_⟩
 rcases h2 with h2 | ⟨g, cap, cur, hv, hg, hh, r⟩
 ·exact .inl h2
 ·have hgb : (Value.slice A xs.length c).ownBlock = some g := by rw [hv]; rfl
  exact .inr ⟨g, cap, cur, hv, hg, (ho.block g (hlt g hgb).2 (hC g (blockOf_own.1 hgb))).trans hh, r⟩
theorem reads_only {C : Nat → Prop} {w w' : World} {B n : Nat} {A : Option Addr} {xs : List Value} (h : Reads w B 1 A n xs) (ho : Only C w w') (hB : B ≤ w.heap.size) (hC : ∀ k, blockOf A k → ¬ C k) : Reads w' B 1 A n xs :=
 ⟨h.1, fun hn => by
  obtain ⟨b, off, rfl, hb, hc⟩ := h.2 hn
  exact ⟨b, off, rfl, hb, fun j u hu => (World.cell?_of_block (w := w) (ho.block b (by omega) (hC b ⟨_, rfl, rfl⟩))).trans (hc j u hu)⟩⟩
def NoPanic (Q : Exit → Act → World → Prop) : Exit → Act → World → Prop
 | .panic _, _, _ => False
 | .outgrown, _, _ => False
 | e, a, w => Q e a w
theorem wpIn_nopanic {F : Fence} {n : Nat} {P : Program} {c : Code} {Q : Exit → Act → World → Prop} {a : Act} {w : World} (h : c.wpIn F n P (NoPanic Q) a w) : c.wpIn F n P Q a w :=
 wpIn_mono h fun e a w hq => by cases e <;> first | exact hq | exact hq.elim
theorem nopanic_normal {Q : Exit → Act → World → Prop} {a : Act} {w : World} (h : Q .normal a w) : NoPanic Q .normal a w := h
end Go.Proofs.YtnbikkcalcpedaaGreatDoor
namespace Go.Proofs.YtnbikkcalcpedaaGreatDoor
open Go.RowKit
def intCells (l : List Int) : Array Value := (ints l).toArray
theorem intCells_get {l : List Int} {k : Nat} {x : Int} (h : l[k]? = some x) : (intCells l)[k]? = some (.int .i64 x) := by simp [intCells, ints, h]
theorem intCells_set (l : List Int) (k : Nat) (x : Int) : (intCells l).setIfInBounds k (.int .i64 x) = intCells (l.set k x) := by simp [intCells, ints, List.map_set]
theorem OwnI.of_blk {w : World} {base g : Nat} {l : List Int} (h : Blk w g 3 (intCells l)) (hb : base ≤ g) (hl : l.length ≤ maxLen) : OwnI w base (some ⟨g, 0, none⟩) l.length l :=
 ⟨by simp [ints], .inr ⟨g, l.length, intCells l, rfl, hb, h, Nat.le_refl _, hl, by simp [intCells, ints], by rw [Nat.mul_one]; show (ints l).take l.length = ints l; rw [← ints_length, List.take_length]⟩⟩
end Go.Proofs.YtnbikkcalcpedaaGreatDoor
namespace Go.Proofs.YtnbikkcalcpedaaGreatDoor
section
variable {E : List (Nat × Nat)} {t : List Nat} {n e f a b v w r : Nat}
end
end Go.Proofs.YtnbikkcalcpedaaGreatDoor
namespace Go.Proofs.YtnbikkcalcpedaaGreatDoor
open Go.RowKit
theorem OwnI.block {w : World} {base : Nat} {A : Option Addr} {c : Nat} {xs : List Int} (h : OwnI w base A c xs) (hn : 0 < xs.length) : ∃ g, A = some ⟨g, 0, none⟩ ∧ base ≤ g ∧ (∀ i, w.frozen? ⟨g, i, none⟩ = false) ∧ ∀ (k : Nat) (x : Int), xs[k]? = some x → w.cell? ⟨g, k, none⟩ = some (.int .i64 x) := by
 obtain ⟨h1, h2⟩ := h
 rcases h2 with ⟨h2, h3⟩ | ⟨g, cap, cur, hv, hg, hh, r1, r2, r3, r4⟩
 ·simp at h2; omega
 ·injection hv with hv1 hv2 hv3
  have hb : Blk w g 3 cur := hh
  refine ⟨g, hv1, hg, hb.frozen, fun k x hk => ?_⟩
  rw [hb.cell k]
  have hk' : k < xs.length := (List.getElem?_eq_some_iff.1 hk).1
  have e1 : (cur.toList.take (xs.length * 1))[k]? = some (.int .i64 x) := by rw [r4, ints_at hk]
  rw [Nat.mul_one, List.getElem?_take_of_lt hk', Array.getElem?_toList] at e1
  exact e1
theorem OwnI.set {w : World} {base : Nat} {A : Option Addr} {c g : Nat} {xs : List Int} (h : OwnI w base A c xs) (hA : A = some ⟨g, 0, none⟩) (k : Nat) (x : Int) : OwnI (w.setCell ⟨g, k, none⟩ (.int .i64 x)) base A c (xs.set k x) := by
 obtain ⟨h1, h2⟩ := h
 rcases h2 with ⟨h2, h3⟩ | ⟨g', cap, cur, hv, hg, hh, r1, r2, r3, r4⟩
 ·simp at h2; rw [hA] at h2; simp at h2
 ·have hv1 : A = some ⟨g', 0, none⟩ := by injection hv
  rw [hA] at hv1
  have hgg : g = g' := by injection hv1 with hv1; injection hv1
  subst hgg
  refine ⟨by rw [ints_length]; simp, .inr ⟨g, cap, cur.setIfInBounds k (.int .i64 x), by rw [List.length_set]; exact hv, hg, (Blk.set_ (show Blk w g 3 cur from hh) k _), by rw [List.length_set]; exact r1, r2, by simpa using r3, ?_⟩⟩
  rw [Array.toList_setIfInBounds, List.take_set, List.length_set, r4]
  simp [ints, List.map_set]
theorem OwnI.at_ {w : World} {base c g : Nat} {xs : List Int} (h : OwnI w base (some ⟨g, 0, none⟩) c xs) (hn : 0 < xs.length) : base ≤ g ∧ g < w.heap.size ∧ (∀ i, w.frozen? ⟨g, i, none⟩ = false) ∧ ∀ (k : Nat) (x : Int), xs[k]? = some x → w.cell? ⟨g, k, none⟩ = some (.int .i64 x) := by
 obtain ⟨g', e, h1, h2, h3⟩ := h.block hn
 injection e with e
 injection e with e
 subst e
 exact ⟨h1, (own_lt h ⟨_, rfl, rfl⟩).2, h2, h3⟩
theorem OwnI.put {w : World} {base c g : Nat} {xs : List Int} (h : OwnI w base (some ⟨g, 0, none⟩) c xs) (k : Nat) (x : Int) : OwnI (w.setCell ⟨g, k, none⟩ (.int .i64 x)) base (some ⟨g, 0, none⟩) c (xs.set k x) := h.set rfl k x
theorem OwnI.other {w : World} {base c g : Nat} {xs : List Int} (h : OwnI w base (some ⟨g, 0, none⟩) c xs) {p : Addr} (hp : p.block ≠ g) (u : Value) : OwnI (w.setCell p u) base (some ⟨g, 0, none⟩) c xs :=
 own_kept h fun k hk => by
  obtain ⟨a, ha, hk⟩ := hk
  injection ha with ha
  subst ha
  exact Below.heap_setCell w p u k (fun e => hp (by rw [← e, ← hk]))
theorem OwnI.kept {w w' : World} {base c g : Nat} {xs : List Int} (h : OwnI w base (some ⟨g, 0, none⟩) c xs) (hp : w'.heap[g]? = w.heap[g]?) : OwnI w' base (some ⟨g, 0, none⟩) c xs :=
 own_kept h fun k hk => by
  obtain ⟨a, ha, hk⟩ := hk
  injection ha with ha
  subst ha
  subst hk
  exact hp
theorem clone_any (A : Option Addr) (c : Nat) (xs : List Int) (hn : xs.length ≤ 1048000) (w : World) (h : Reads w w.heap.size 1 A xs.length (ints xs)) :
  Calls Tryz.prog 92 #[.slice A xs.length c] w fun e w' =>
   ∃ A' c', e = .returned (.slice A' xs.length c') ∧ OwnI w' w.heap.size A' c' xs ∧ Below w.heap.size w w' := by
 have q22 : ∀ (w : World) (a : Option Addr) (n c n' c' : Nat), (binOp .eql 25 (.slice a n c) (.slice none n' c')).run Tryz.prog w = .ok (.bool a.isNone) w := fun w a n c n' c' => Lib.run_eql_slice_nil w _ _ a n c n' c' Tryz.underlying25
 rcases A with _ | ad
 ·have hx : xs = [] := by
   rcases xs with _ | ⟨x, xs⟩
   ·rfl
   ·obtain ⟨_, _, h, _⟩ := h.2 (by simp)
    cases h
  subst hx
  go_enter Tryz.func92, Tryz.ntmps92
  go_wp2
  go_ret
  exact ⟨none, 0, rfl, OwnI.nil_ _ _, Below.refl _ _⟩
 ·go_enter Tryz.func92, Tryz.ntmps92
  have hown0 : (w.alloc (.cells #[] 3)).ownsRow w.heap.size 3 1 (.slice (some ⟨w.heap.size, 0, none⟩) 0 0) 0 [] := World.ownsRow_made w #[] 0 (Nat.le_refl _) (by simp [maxLen]) (by simp)
  have hr := h.alloc (Nat.le_refl _) (.cells #[] 3)
  go_wp2_with (at_builtin; refine append_go rfl (.tmp 5) (.tmp 6) _ rfl w.heap.size 3 Tryz.underlying25 info_int rfl (by omega) (some ⟨w.heap.size, 0, none⟩) 0 0 [] rfl hown0 w.heap.size (ints xs) rfl hr (by simp [ints, Value.oneCell']) (by omega) (by simp) ?_; intro A' c' w' hown' _ hb' _)
  go_ret
  refine ⟨A', c', rfl, ?_, ((Below.refl _ _).alloc (Nat.le_refl _) _).trans hb'⟩
  rw [Nat.zero_add, List.nil_append] at hown'
  exact hown'
end Go.Proofs.YtnbikkcalcpedaaGreatDoor
namespace Go.Proofs.YtnbikkcalcpedaaGreatDoor
def valS (es : List (Int × Int × Int)) (n v : Nat) : Int := sumTo (fun w => tt es v w) n
def fireD (es : List (Int × Int × Int)) (n : Nat) (d : List Int) (v : Nat) (k : Int) : List Int := (List.range n).map fun u => d.getD u 0 + k * tt es v u - if u = v then k * valS es n v else 0
def runD (es : List (Int × Int × Int)) (n : Nat) (d : List Int) (l : List Nat) : List Int := l.foldl (fun d v => fireD es n d v 1) d
def CalmD (es : List (Int × Int × Int)) (n q : Nat) (d : List Int) : Prop := ∀ v, v < n → v ≠ q → d.getD v 0 < valS es n v
inductive Leg (es : List (Int × Int × Int)) (n q : Nat) (d : List Int) : List Nat → Prop
 | nil : Leg es n q d []
 | snoc {l : List Nat} {v : Nat} : Leg es n q d l → v < n → v ≠ q → valS es n v ≤ (runD es n d l).getD v 0 → Leg es n q d (l ++ [v])
theorem sumTo_at (g : Nat → Int) (v : Nat) : ∀ n, sumTo (fun i => if i = v then g i else 0) n = if v < n then g v else 0
 | 0 => by simp [sumTo]
 | n + 1 => by
   rw [sumTo, sumTo_at g v n]
   by_cases h : n = v
   ·subst h; simp
   ·rw [if_neg h]
    by_cases h2 : v < n
    ·rw [if_pos h2, if_pos (by omega)]; omega
    ·rw [if_neg h2, if_neg (by omega)]; rfl
section
variable {es : List (Int × Int × Int)} {n q : Nat} {d : List Int} {l : List Nat} {v u : Nat} {k : Int}
theorem fireD_length : (fireD es n d v k).length = n := by simp [fireD]
theorem fireD_get (hu : u < n) : (fireD es n d v k).getD u 0 = d.getD u 0 + k * tt es v u - if u = v then k * valS es n v else 0 := by
 rw [List.getD_eq_getElem?_getD]; simp [fireD, hu]
theorem runD_snoc : runD es n d (l ++ [v]) = fireD es n (runD es n d l) v 1 := by simp [runD, List.foldl_append]
theorem runD_length (hd : d.length = n) : (runD es n d l).length = n := by
 induction l using snocRec with
 | h0 => exact hd
 | h1 l x ih => rw [runD_snoc, fireD_length]
theorem count_snoc (l : List Nat) (x w : Nat) : ((l ++ [x]).count w : Int) = l.count w + if w = x then 1 else 0 := by
 rw [List.count_append]
 by_cases h : w = x
 ·subst h; simp
 ·rw [if_neg h, List.count_eq_zero_of_not_mem (l := [x]) (by simpa using h)]; simp
theorem runD_get (hl : ∀ x ∈ l, x < n) (hu : u < n) : (runD es n d l).getD u 0 = d.getD u 0 + sumTo (fun w => (l.count w : Int) * tt es w u) n - l.count u * valS es n u := by
 induction l using snocRec with
 | h0 => simp [runD, sumTo_zero]
 | h1 l x ih =>
   have hx : x < n := hl x (by simp)
   rw [runD_snoc, fireD_get hu, ih fun y hy => hl y (by simp [hy])]
   have e1 : sumTo (fun w => ((l ++ [x]).count w : Int) * tt es w u) n = sumTo (fun w => (l.count w : Int) * tt es w u) n + tt es x u := by
    rw [sumTo_congr (g := fun w => (l.count w : Int) * tt es w u + if w = x then tt es w u else 0) fun w _ => ?_, sumTo_add, sumTo_at (fun w => tt es w u) x n, if_pos hx]
    rw [count_snoc, Int.add_mul]
    congr 1
    split <;> simp
   rw [e1, count_snoc]
   by_cases h : u = x
   ·subst h; rw [if_pos rfl, if_pos rfl, Int.add_mul]; simp; omega
   ·rw [if_neg h, if_neg h]; simp; omega
theorem Leg.lt (h : Leg es n q d l) : ∀ x ∈ l, x < n ∧ x ≠ q := by
 induction h with
 | nil => intro x hx; simp at hx
 | snoc h1 h2 h3 h4 ih =>
   intro x hx
   rcases List.mem_append.1 hx with hx | hx
   ·exact ih x hx
   ·rw [List.mem_singleton.1 hx]; exact ⟨h2, h3⟩
theorem Leg.least (he : ∀ a b, 0 ≤ tt es a b) (h : Leg es n q d l) {m : List Nat} (hm : ∀ x ∈ m, x < n) (hc : CalmD es n q (runD es n d m)) : ∀ v, l.count v ≤ m.count v := by
 induction h with
 | nil => intro v; simp
 | @snoc l v h1 h2 h3 h4 ih =>
   intro u
   have hs := count_snoc l v u
   by_cases huv : u = v
   ·subst huv
    rw [if_pos rfl] at hs
    have h5 := hc u h2 h3
    rw [runD_get hm h2] at h5
    rw [runD_get (fun x hx => (h1.lt x hx).1) h2] at h4
    have h6 : sumTo (fun w => (l.count w : Int) * tt es w u) n ≤ sumTo (fun w => (m.count w : Int) * tt es w u) n := sumTo_le fun w _ => Int.mul_le_mul_of_nonneg_right (by have := ih w; omega) (he w u)
    have h7 := ih u
    by_cases h8 : l.count u = m.count u
    ·rw [h8] at h4; omega
    ·omega
   ·rw [if_neg huv] at hs
    have := ih u
    omega
theorem fireD_add (j : Int) : fireD es n (fireD es n d v k) v j = fireD es n d v (k + j) := by
 unfold fireD
 apply List.map_congr_left
 intro u hu
 have hu := List.mem_range.1 hu
 have := fireD_get (es := es) (d := d) (v := v) (k := k) hu
 unfold fireD at this
 rw [this, Int.add_mul, Int.add_mul]
 split <;> omega
theorem Leg.times (he : ∀ a, tt es a a = 0) (hd : d.length = n) (h : Leg es n q d l) (hv : v < n) (hq : v ≠ q) (hp : 0 ≤ valS es n v) : ∀ t : Nat, (t : Int) * valS es n v ≤ (runD es n d l).getD v 0 → Leg es n q d (l ++ List.replicate t v) ∧ runD es n d (l ++ List.replicate t v) = fireD es n (runD es n d l) v t
 | 0, _ => by
   refine ⟨by simpa using h, ?_⟩
   rw [List.replicate_zero, List.append_nil]
   apply List.ext_getElem (by rw [runD_length hd, fireD_length])
   intro i h1 h2
   rw [runD_length hd] at h1
   have e2 := fireD_get (es := es) (d := runD es n d l) (v := v) (k := 0) h1
   simp only [Int.zero_mul, ite_self, Int.sub_zero, Int.add_zero] at e2
   rw [List.getD_eq_getElem?_getD, List.getD_eq_getElem?_getD, List.getElem?_eq_getElem (by rw [fireD_length]; exact h1), List.getElem?_eq_getElem (by rw [runD_length hd]; exact h1)] at e2
   simpa using e2.symm
 | t + 1, ht => by
   have e : ((t + 1 : Nat) : Int) * valS es n v = t * valS es n v + valS es n v := by rw [Int.natCast_add, Int.add_mul]; simp
   rw [e] at ht
   obtain ⟨h1, h2⟩ := Leg.times he hd h hv hq hp t (by omega)
   have h3 : l ++ List.replicate (t + 1) v = (l ++ List.replicate t v) ++ [v] := by rw [List.replicate_succ', List.append_assoc]
   rw [h3]
   refine ⟨.snoc h1 hv hq ?_, ?_⟩
   ·rw [h2, fireD_get hv, if_pos rfl, he v]; omega
   ·rw [runD_snoc, h2, fireD_add 1]; rfl
theorem Leg.sink (he : ∀ a b, 0 ≤ tt es a b) (h : Leg es n q d l) (hq : q < n) : d.getD q 0 ≤ (runD es n d l).getD q 0 := by
 induction h with
 | nil => exact Int.le_refl _
 | @snoc l v h1 h2 h3 h4 ih =>
   rw [runD_snoc, fireD_get hq, if_neg (fun e => h3 e.symm)]
   have := he v q
   omega
end
end Go.Proofs.YtnbikkcalcpedaaGreatDoor
namespace Go.Proofs.YtnbikkcalcpedaaGreatDoor
open Go.RowKit
theorem info_divs : (Tryz.prog.info? 53).map (fun i => (i.zero, i.size, i.bytes)) = some (some (.slice none 0 0), 1, 24) := by kernel_rfl
def OwnDivs (w : World) (base : Nat) (A : Option Addr) (c : Nat) (vs : List Value) (xss : List (List Int)) : Prop :=
 w.ownsRow base 53 1 (.slice A xss.length c) xss.length vs ∧ (∀ u ∈ vs, u.oneCell' = true) ∧
 ∀ (i : Nat) (xs : List Int), xss[i]? = some xs → ∃ A' c', vs[i]? = some (.slice A' xs.length c') ∧ OwnI w base A' c' xs
section
variable {w w' : World} {base : Nat} {A : Option Addr} {c : Nat} {vs : List Value} {xss : List (List Int)}
theorem OwnDivs.nil_ (w : World) (base : Nat) : OwnDivs w base none 0 [] [] := ⟨World.ownsRow_nil _ _ _ _, by simp, by simp⟩
theorem OwnDivs.len (h : OwnDivs w base A c vs xss) : vs.length = xss.length := by have := h.1.1; omega
theorem OwnDivs.kept (h : OwnDivs w base A c vs xss) (hk : ∀ k, rowBlock A vs k → w'.heap[k]? = w.heap[k]?) : OwnDivs w' base A c vs xss := by
 refine ⟨own_kept h.1 fun k hb => hk k (.inl hb), h.2.1, fun i xs hi => ?_⟩
 obtain ⟨A', c', hv, ho⟩ := h.2.2 i xs hi
 exact ⟨A', c', hv, own_kept ho fun k hb => hk k (.inr ⟨_, List.mem_of_getElem? hv, blockOf_own.2 hb⟩)⟩
theorem OwnDivs.lt (h : OwnDivs w base A c vs xss) {k : Nat} (hk : rowBlock A vs k) : base ≤ k ∧ k < w.heap.size := by
 rcases hk with hk | ⟨v, hv, hk⟩
 ·exact own_lt h.1 hk
 ·obtain ⟨i, hi⟩ := List.getElem?_of_mem hv
  have hil : i < xss.length := by
   have := (List.getElem?_eq_some_iff.1 hi).1
   rw [h.len] at this; exact this
  obtain ⟨xs, hxs⟩ := get_of_lt hil
  obtain ⟨A', c', hv', ho⟩ := h.2.2 i xs hxs
  rw [hi] at hv'
  injection hv' with hv'
  subst hv'
  exact own_lt ho (blockOf_own.1 hk)
theorem OwnDivs.next (h : OwnDivs w base A c vs xss) (hb : Below w.heap.size w w') : OwnDivs w' base A c vs xss := h.kept fun k hk => hb.block k (h.lt hk).2
theorem OwnDivs.mono {base' : Nat} (h : OwnDivs w base A c vs xss) (hb : base' ≤ base) : OwnDivs w base' A c vs xss := by
 refine ⟨own_rebase h.1 fun k hk => Nat.le_trans hb (own_lt h.1 hk).1, h.2.1, fun i xs hi => ?_⟩
 obtain ⟨A', c', hv, ho⟩ := h.2.2 i xs hi
 exact ⟨A', c', hv, ho.mono hb⟩
end
theorem OwnDivs.ne_blk {w : World} {base : Nat} {A : Option Addr} {c : Nat} {vs : List Value} {xss : List (List Int)} (h : OwnDivs w base A c vs xss) {g : Nat} {t : TypeId} {cs : Array Value} (hg : Blk w g t cs) (h1 : 53 ≠ t) (h2 : 3 ≠ t) {k : Nat} (hk : rowBlock A vs k) : k ≠ g := by
 rcases hk with hk | ⟨v, hv, hk⟩
 ·exact own_blk h.1 hg h1 hk
 ·obtain ⟨i, hi⟩ := List.getElem?_of_mem hv
  have hil : i < xss.length := by
   have := (List.getElem?_eq_some_iff.1 hi).1
   rw [h.len] at this; exact this
  obtain ⟨xs, hxs⟩ := get_of_lt hil
  obtain ⟨A', c', hv', ho⟩ := h.2.2 i xs hxs
  rw [hi] at hv'
  injection hv' with hv'
  subst hv'
  exact own_blk ho hg h2 (blockOf_own.1 hk)
theorem OwnDivs.set_blk {w : World} {base : Nat} {A : Option Addr} {c : Nat} {vs : List Value} {xss : List (List Int)} (h : OwnDivs w base A c vs xss) {g : Nat} {t : TypeId} {cs : Array Value} (hg : Blk w g t cs) (h1 : 53 ≠ t) (h2 : 3 ≠ t) (o : Nat) (u : Value) : OwnDivs (w.setCell ⟨g, o, none⟩ u) base A c vs xss :=
 h.kept fun _ hk => Below.heap_setCell w ⟨g, o, none⟩ u _ (h.ne_blk hg h1 h2 hk)
theorem OwnDivs.push {w w' : World} {base : Nat} {A A' A8 : Option Addr} {c c' c8 : Nat} {vs : List Value} {xss : List (List Int)} {x : List Int} (h : OwnDivs w base A c vs xss) (h8 : OwnI w base A8 c8 x)
  (hown : w'.ownsRow base 53 1 (.slice A' (xss.length + 1) c') (xss.length + 1) (vs ++ [.slice A8 x.length c8])) (hg : w.grownBy w' (Value.slice A xss.length c).ownBlock) : OwnDivs w' base A' c' (vs ++ [.slice A8 x.length c8]) (xss ++ [x]) := by
 have keep : ∀ {A1 : Option Addr} {c1 : Nat} {y : List Int}, OwnI w base A1 c1 y → OwnI w' base A1 c1 y := fun {A1 c1 y} ho => own_kept ho fun k hk => hg.block k (own_lt ho hk).2 fun e => by
  exact own_ne ho h.1 (by decide) hk (blockOf_own.1 e.symm) rfl
 refine ⟨by rw [List.length_append]; exact hown, ?_, fun i xs hi => ?_⟩
 ·intro u hu
  rcases List.mem_append.1 hu with hu | hu
  ·exact h.2.1 u hu
  ·rw [List.mem_singleton.1 hu]; rfl
 ·have hl := h.len
  rcases Nat.lt_trichotomy i xss.length with hlt | rfl | hgt
  ·rw [List.getElem?_append_left hlt] at hi
   obtain ⟨A1, c1, hv, ho⟩ := h.2.2 i xs hi
   exact ⟨A1, c1, by rw [List.getElem?_append_left (by omega)]; exact hv, keep ho⟩
  ·have : xs = x := by simpa using hi.symm
   subst this
   exact ⟨A8, c8, by rw [← hl]; simp, keep h8⟩
  ·rw [List.getElem?_eq_none (by simp; omega)] at hi; cases hi
theorem OwnDivs.reads {w : World} {base : Nat} {A : Option Addr} {c : Nat} {vs : List Value} {xss : List (List Int)} (h : OwnDivs w base A c vs xss) : RowsR w w.heap.size A xss :=
 ⟨vs, Reads.of_own h.1, fun i xs hi => by
  obtain ⟨A', c', hv, ho⟩ := h.2.2 i xs hi
  exact ⟨A', c', hv, ho.reads⟩⟩
def ArgD (xs : List Int) (args : Array Value) (O : Nat → Prop) (W : World) : Prop := ∃ A c, args = #[.slice A xs.length c] ∧ OwnI W 0 A c xs ∧ ∀ k, blockOf A k → O k
end Go.Proofs.YtnbikkcalcpedaaGreatDoor
namespace Go.Proofs.YtnbikkcalcpedaaGreatDoor
end Go.Proofs.YtnbikkcalcpedaaGreatDoor
namespace Go.Proofs.YtnbikkcalcpedaaGreatDoor
open Go.ChangeShapes Go.WideShapes Go.ChangeAt Go.RowKit Go.Deep
section
variable {H : Type} {enc : TypeId × Value → H} {W : World}
theorem open_graph {fuel : Nat} {cs : List Value} {x : DataW H × List MemPlace} (h : DataW.trod enc Tryz.prog W 0 (fun _ => true) true fuel 24 cs = some x) :
  ∃ (n : Int) (a : Option Addr) (cap : Nat) (es : List E3), cs = [.int .i64 n, .slice a es.length cap] ∧ es.length ≤ maxLen ∧ Reads W W.heap.size 3 a es.length (edgeCells es) ∧ (Lit.int .i64 n).wf = true := by
 obtain ⟨ys, m, rfl, _, hlen, hys, hf⟩ := DataW.trod_struct Tryz.underlying24 h
 rw [show Tryz.prog.cellsOf 24 = 2 from by kernel_rfl] at hlen
 match cs, hlen with
 | [u0, u1], _ =>
   have f0 := hf 0 _ rfl
   have f1 := hf 1 _ rfl
   have hsz : ys.length = 2 := hys
   obtain ⟨y0, hy0⟩ : ∃ y, ys[0]? = some y := ⟨_, List.getElem?_eq_getElem (by omega)⟩
   obtain ⟨y1, hy1⟩ : ∃ y, ys[1]? = some y := ⟨_, List.getElem?_eq_getElem (by omega)⟩
   rw [hy0] at f0
   rw [hy1] at f1
   have ci : Tryz.prog.cellsOf 3 = 1 := by kernel_rfl
   have cl : Tryz.prog.cellsOf 22 = 1 := by kernel_rfl
   simp [ci, cl] at f0 f1
   obtain ⟨n, hn, _, hw⟩ := DataW.trod_int Tryz.underlying3 f0
   injection hn with hn
   subst hn
   rcases open_slice Tryz.underlying22 f1 with ⟨hcs, _⟩ | ⟨a, len, cap, k, fu, D, Pl, hcs, hb, hl, hm, hk, _, hx⟩
   ·injection hcs with hcs
    subst hcs
    exact ⟨n, none, 0, [], rfl, by simp, Reads.nil_, hw⟩
   ·injection hcs with hcs
    subst hcs
    have hk : k = cap := by simpa using hk
    have ce : Tryz.prog.cellsOf 107 = 3 := by kernel_rfl
    have each : ∀ i, i < len → ∃ e : E3, W.cell? (a.add (i * 3)) = some (.int .i64 e.1) ∧ W.cell? (a.add (i * 3 + 1)) = some (.int .i64 e.2.1) ∧ W.cell? (a.add (i * 3 + 2)) = some (.int .i64 e.2.2) := by
     intro i hi
     obtain ⟨cs', h1, h2⟩ := hx i (by omega)
     rw [ce] at h1
     obtain ⟨_, hlen, hcell⟩ := World.cells?_some h1
     obtain ⟨xs, k, _, _, _, hxl, hf⟩ := DataW.trod_struct Tryz.underlying107 h2
     match xs, hxl, cs', hlen with
     | [y0, y1, y2], _, [v0, v1, v2], _ =>
       have g0 := hf 0 _ rfl
       have g1 := hf 1 _ rfl
       have g2 := hf 2 _ rfl
       simp [ci] at g0 g1 g2
       have e0 := hcell 0 (by omega)
       have e1 := hcell 1 (by omega)
       have e2 := hcell 2 (by omega)
       rw [add_add] at e0 e1 e2
       obtain ⟨n0, q0, _, _⟩ := DataW.trod_int Tryz.underlying3 g0
       obtain ⟨n1, q1, _, _⟩ := DataW.trod_int Tryz.underlying3 g1
       obtain ⟨n2, q2, _, _⟩ := DataW.trod_int Tryz.underlying3 g2
       injection q0 with q0
       injection q1 with q1
       injection q2 with q2
       subst q0 q1 q2
       exact ⟨(n0, n1, n2), by simpa using e0, by simpa using e1, by simpa using e2⟩
    obtain ⟨F, hF⟩ := choose_lt each
    have hlen : ((List.range len).map F).length = len := by simp
    have hspot : 0 < len → ∃ b off, a = ⟨b, off, none⟩ ∧ b < W.heap.size := by
     intro h0
     have hc := (hF 0 h0).1
     obtain ⟨b, off, spot⟩ := a
     obtain rfl : spot = none := by simpa [Addr.add] using World.cell?_spot hc
     have := World.block_lt_of_cell? W _ hc
     exact ⟨b, off, rfl, by simpa [Addr.add] using this⟩
    refine ⟨n, some a, cap, (List.range len).map F, by rw [hlen], by rw [hlen]; omega, ⟨edgeCells_length _, fun hn => ?_⟩, hw⟩
    rw [hlen] at hn
    obtain ⟨b, off, rfl, hb2⟩ := hspot hn
    refine ⟨b, off, rfl, hb2, fun j u hu => ?_⟩
    have hj : j < (edgeCells ((List.range len).map F)).length := (List.getElem?_eq_some_iff.1 hu).1
    rw [edgeCells_length, hlen] at hj
    have hi : j / 3 < len := by omega
    have hget : ((List.range len).map F)[j / 3]? = some (F (j / 3)) := by rw [List.getElem?_map, List.getElem?_range hi]; rfl
    obtain ⟨k0, k1, k2⟩ := edgeCells_at hget
    obtain ⟨m0, m1, m2⟩ := hF _ hi
    rw [add_plain] at m0 m1 m2
    have h3 : j = j / 3 * 3 ∨ j = j / 3 * 3 + 1 ∨ j = j / 3 * 3 + 2 := by omega
    rcases h3 with h3 | h3 | h3
    ·rw [h3, k0] at hu; injection hu with hu; rw [show off + j = off + (j / 3 * 3) from by omega, ← hu]; exact m0
    ·rw [h3, k1] at hu; injection hu with hu; rw [show off + j = off + (j / 3 * 3 + 1) from by omega, ← hu]; exact m1
    ·rw [h3, k2] at hu; injection hu with hu; rw [show off + j = off + (j / 3 * 3 + 2) from by omega, ← hu]; exact m2
end
end Go.Proofs.YtnbikkcalcpedaaGreatDoor
namespace Go.Proofs.YtnbikkcalcpedaaGreatDoor
open Go.RowKit
def connB (n : Nat) (es : List E3) : Bool := decide ((partsTo es n n).1 = 1)
theorem connB_iff {n : Nat} {es : List E3} (hG : RightG n es) : connB n es = true ↔ AllConn n es := by
 rw [← partsTo_connected hG]; simp [connB]
theorem connB_joins {n : Nat} {es : List E3} {f : List Nat} (hG : RightG n es) (h : Joins es f) : connB n es = decide (rootsTo f n = 1) := by
 rw [Bool.eq_iff_iff, connB_iff hG, ← joins_connected h hG]; simp
theorem OwnI.cut {w : World} {base c g : Nat} {xs : List Int} (h : OwnI w base (some ⟨g, 0, none⟩) c xs) (k : Nat) (hk : k ≤ xs.length) : OwnI w base (some ⟨g, 0, none⟩) c (xs.take k) := by
 obtain ⟨h1, h2⟩ := h
 have e : (xs.take k).length = k := by simp; omega
 rcases h2 with ⟨h2, h3⟩ | ⟨g', cap, cur, hv, hg, hh, r1, r2, r3, r4⟩
 ·simp at h2
 ·injection hv with hv1 hv2 hv3
  refine ⟨by rw [ints_length]; simp, .inr ⟨g', cap, cur, by rw [hv1, hv3], hg, hh, by omega, r2, r3, ?_⟩⟩
  rw [e, Nat.mul_one]
  rw [Nat.mul_one] at r4
  have : (cur.toList.take xs.length).take k = (ints xs).take k := by rw [r4]
  rw [List.take_take, Nat.min_eq_left hk] at this
  rw [this]; simp [ints, List.map_take]
theorem OwnI.zero {base c g : Nat} {xs : List Int} : ∀ (n o : Nat) {w : World}, OwnI w base (some ⟨g, 0, none⟩) c xs → xs.length ≤ o → OwnI (w.setCells g o (List.replicate n (.int .i64 0))) base (some ⟨g, 0, none⟩) c xs
 | 0, _, _, h, _ => h
 | n + 1, o, w, h, ho => by
   rw [List.replicate_succ]
   refine OwnI.zero n (o + 1) (w := w.setCell ⟨g, o, none⟩ (.int .i64 0)) ?_ (by omega)
   have := h.put o 0
   rw [List.set_eq_of_length_le ho] at this
   exact this
theorem OwnI.cap {w : World} {base c g : Nat} {xs : List Int} (h : OwnI w base (some ⟨g, 0, none⟩) c xs) : xs.length ≤ c := by
 obtain ⟨h1, h2⟩ := h
 rcases h2 with ⟨h2, h3⟩ | ⟨g', cap, cur, hv, hg, hh, r1, r2, r3, r4⟩
 ·simp at h2
 ·injection hv with hv1 hv2 hv3
  omega
def Kept (p : Int → Bool) (xs ks : List Int) (i j : Nat) : Prop := ks.length = xs.length ∧ i < j ∧ j ≤ xs.length ∧ ks.take i = (xs.take j).filter (fun x => !p x) ∧ ∀ q, j ≤ q → ks[q]? = xs[q]?
theorem Kept.start {p : Int → Bool} {xs : List Int} {k : Nat} {x : Int} (h1 : xs[k]? = some x) (h2 : p x = true) (h3 : ∀ x ∈ xs.take k, p x = false) : Kept p xs xs k (k + 1) := by
 obtain ⟨hk, e⟩ := List.getElem?_eq_some_iff.1 h1
 refine ⟨rfl, by omega, by omega, ?_, fun _ _ => rfl⟩
 rw [take_snoc h1, List.filter_append]
 have : (xs.take k).filter (fun x => !p x) = xs.take k := List.filter_eq_self.2 fun x hx => by simp [h3 x hx]
 rw [this]; simp [h2]
theorem Kept.keep {p : Int → Bool} {xs ks : List Int} {i j : Nat} {x : Int} (h : Kept p xs ks i j) (h1 : xs[j]? = some x) (h2 : p x = false) : Kept p xs (ks.set i x) (i + 1) (j + 1) := by
 obtain ⟨hk, e⟩ := List.getElem?_eq_some_iff.1 h1
 obtain ⟨a, b, c, d, f⟩ := h
 refine ⟨by simpa using a, by omega, by omega, ?_, fun q hq => ?_⟩
 ·have hs : (ks.set i x)[i]? = some x := by rw [List.getElem?_set_self (by omega)]
  rw [take_snoc hs, List.take_set_of_le (Nat.le_refl _), d, take_snoc h1, List.filter_append]; simp [h2]
 ·rw [List.getElem?_set_ne (by omega)]; exact f q (by omega)
theorem Kept.done {p : Int → Bool} {xs ks : List Int} {i : Nat} (h : Kept p xs ks i xs.length) : ks.take i = xs.filter (fun x => !p x) := by
 obtain ⟨a, b, c, d, f⟩ := h
 rw [d, List.take_length]
theorem less_any (x y : Int) (w : World) : Calls Tryz.prog 249 #[.int .i64 x, .int .i64 y] w fun e w' => e = .returned (.bool (decide (x < y))) ∧ w = w' := by
 by_cases h : x < y
 ·have hd : decide (x < y) = true := decide_eq_true h
  rw [hd]
  go_enter Tryz.func249, Tryz.ntmps249
  go_wp2
  go_ret
  exact ⟨ret_bool (by simp), rfl⟩
 ·have hd : decide (x < y) = false := decide_eq_false h
  rw [hd]
  go_enter Tryz.func249, Tryz.ntmps249
  go_wp2
  go_ret
  exact ⟨ret_bool (by simp), rfl⟩
theorem lessq_any (x y : Int) (w : World) : Calls Tryz.prog 249 #[.int .i64 x, .int .i64 y] w fun e w' => e = .returned (.bool (decide (x < y))) ∧ ∃ m, w' = w.drewN m :=
 (less_any x y w).mono fun _ _ ⟨he, hw⟩ => ⟨he, 0, hw.symm⟩
def Srt (L : List Int) (i j : Nat) : Prop := ∀ p q, p < q → q ≤ i → q ≠ j → ∀ x y, L[p]? = some x → L[q]? = some y → x ≤ y
def swapL (L : List Int) (m : Nat) (a b : Int) : List Int := (L.set (m + 1) a).set m b
theorem swapL_perm {L : List Int} {m : Nat} {a b : Int} (ha : L[m]? = some a) (hb : L[m + 1]? = some b) : (swapL L m a b).Perm L := by
 obtain ⟨l1, e1⟩ := List.getElem?_eq_some_iff.1 ha
 obtain ⟨l2, e2⟩ := List.getElem?_eq_some_iff.1 hb
 have h : ((L.set (m + 1) L[m]).set m L[m + 1]).Perm L := List.set_set_perm l2 l1
 rw [e1, e2] at h
 exact h
theorem swapL_get {L : List Int} {m : Nat} {a b : Int} (h : m + 1 < L.length) (q : Nat) : (swapL L m a b)[q]? = if q = m then some b else if q = m + 1 then some a else L[q]? := by
 unfold swapL
 by_cases h1 : q = m
 ·subst h1; rw [if_pos rfl, List.getElem?_set_self (by rw [List.length_set]; omega)]
 ·rw [if_neg h1, List.getElem?_set_ne (fun e => h1 e.symm)]
  by_cases h2 : q = m + 1
  ·subst h2; rw [if_pos rfl, List.getElem?_set_self h]
  ·rw [if_neg h2, List.getElem?_set_ne (fun e => h2 e.symm)]
theorem Srt.swap {L : List Int} {i m : Nat} {a b : Int} (hs : Srt L i (m + 1)) (ha : L[m]? = some a) (hb : L[m + 1]? = some b) (hab : b < a) : Srt (swapL L m a b) i m := by
 have hl : m + 1 < L.length := (List.getElem?_eq_some_iff.1 hb).1
 intro p q hpq hq hqm x y hx hy
 rw [swapL_get hl] at hx hy
 rw [if_neg hqm] at hy
 by_cases h2 : q = m + 1
 ·rw [if_pos h2] at hy
  injection hy with hy
  subst hy
  by_cases h3 : p = m
  ·rw [if_pos h3] at hx; injection hx with hx; omega
  ·rw [if_neg h3, if_neg (by omega)] at hx
   exact hs p m (by omega) (by omega) (by omega) x a hx ha
 ·rw [if_neg h2] at hy
  by_cases h3 : p = m
  ·rw [if_pos h3] at hx; injection hx with hx; subst hx
   exact hs (m + 1) q (by omega) hq h2 b y hb hy
  ·rw [if_neg h3] at hx
   by_cases h4 : p = m + 1
   ·rw [if_pos h4] at hx; injection hx with hx; subst hx
    exact hs m q (by omega) hq h2 a y ha hy
   ·rw [if_neg h4] at hx
    exact hs p q hpq hq h2 x y hx hy
theorem Srt.done {L : List Int} {i m : Nat} {a b : Int} (hs : Srt L i (m + 1)) (_hi : m + 1 ≤ i) (ha : L[m]? = some a) (hb : L[m + 1]? = some b) (hab : a ≤ b) : Srt L i (i + 1) := by
 intro p q hpq hq _ x y hx hy
 by_cases h2 : q = m + 1
 ·subst h2
  rw [hb] at hy; injection hy with hy; subst hy
  by_cases h3 : p = m
  ·subst h3; rw [ha] at hx; injection hx with hx; omega
  ·have := hs p m (by omega) (by omega) (by omega) x a hx ha; omega
 ·exact hs p q hpq hq h2 x y hx hy
theorem Srt.zero {L : List Int} {i : Nat} (hs : Srt L i 0) : Srt L i (i + 1) := fun p q hpq hq _ x y hx hy => hs p q hpq hq (by omega) x y hx hy
theorem Srt.next {L : List Int} {i : Nat} (hs : Srt L i (i + 1)) : Srt L (i + 1) (i + 1) := fun p q hpq hq hne x y hx hy => hs p q hpq (by omega) hne x y hx hy
theorem bitsLen_any (n : Nat) (hn : n ≤ 12) (w : World) : Calls Tryz.prog 118 #[.int .u64 n] w fun e w' => (∃ v : Int, e = .returned (.int .i64 v)) ∧ w = w' := by
 have hc : n = 0 ∨ n = 1 ∨ n = 2 ∨ n = 3 ∨ n = 4 ∨ n = 5 ∨ n = 6 ∨ n = 7 ∨ n = 8 ∨ n = 9 ∨ n = 10 ∨ n = 11 ∨ n = 12 := by omega
 rcases hc with rfl | rfl | rfl | rfl | rfl | rfl | rfl | rfl | rfl | rfl | rfl | rfl | rfl
 all_goals (
  go_enter Tryz.func118, Tryz.ntmps118
  go_wp2
  go_ret
  exact ⟨⟨_, rfl⟩, rfl⟩)
end Go.Proofs.YtnbikkcalcpedaaGreatDoor
