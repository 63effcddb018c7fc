/-
  Texts of this claim, put together: PushP, REnumP, Edge, IterX, Lit, TreeS, Has, OwnSet, CloneI.
-/
import Derived.Test.YtnbikkcalcpedaaGreatDoorK06
import Derived.Test.YtnbikkcalcpedaaGreatDoorK02
import Derived.Test.YtnbikkcalcpedaaGreatDoorK04
import Derived.Test.YtnbikkcalcpedaaGreatDoorK07
import Derived.Deep.QuietTactic
import Derived.BigQuiet
import Derived.Test.YtnbikkcalcpedaaGreatDoorK05
import Derived.Test.YtnbikkcalcpedaaGreatDoorK09
import Derived.BigRegion
/-! Plain laws of pushing: what one round does to the chips, as the program and as the reference count it. No program is in sight. -/
namespace Go.Proofs.YtnbikkcalcpedaaGreatDoor

/-- More at a place of a list. -/
def addAt (xs : List Int) (i : Nat) (d : Int) : List Int := xs.set i (xs.getD i 0 + d)
theorem addAt_length (xs : List Int) (i : Nat) (d : Int) : (addAt xs i d).length = xs.length := by simp [addAt]
/-- All numbers of a list are from -M to M. -/
def Bd (M : Int) (xs : List Int) : Prop := ∀ x ∈ xs, -M ≤ x ∧ x ≤ M
theorem Bd.at_ {M : Int} {xs : List Int} (h : Bd M xs) {i : Nat} {x : Int} (hi : xs[i]? = some x) : -M ≤ x ∧ x ≤ M := h x (List.mem_of_getElem? hi)
theorem Bd.getD_ {M : Int} {xs : List Int} (h : Bd M xs) (hM : 0 ≤ M) (i : Nat) : -M ≤ xs.getD i 0 ∧ xs.getD i 0 ≤ M := by
  rw [List.getD_eq_getElem?_getD]
  cases he : xs[i]? with
  | none => simp; omega
  | some x => exact h.at_ he
theorem Bd.mono {M M' : Int} {xs : List Int} (h : Bd M xs) (hm : M ≤ M') : Bd M' xs := fun x hx => by have := h x hx; omega
theorem Bd.set_ {M : Int} {xs : List Int} (h : Bd M xs) (i : Nat) {y : Int} (hy : -M ≤ y ∧ y ≤ M) : Bd M (xs.set i y) := by
  intro x hx
  rcases List.mem_or_eq_of_mem_set hx with h1 | h1
  · exact h x h1
  · subst h1; exact hy
theorem Bd.addAt_ {M D : Int} {xs : List Int} (h : Bd M xs) (hM : 0 ≤ M) (i : Nat) {d : Int} (hd : -D ≤ d ∧ d ≤ D) (hD : 0 ≤ D) : Bd (M + D) (addAt xs i d) := by
  unfold addAt
  have := h.getD_ hM i
  exact (h.mono (by omega)).set_ i ⟨by omega, by omega⟩

/-- What a vertex gives to the burnt ones below k. -/
def giveTo (es : List (Int × Int × Int)) (b : List Nat) (v : Nat) (xs : List Int) : Nat → List Int
  | 0 => xs
  | k + 1 => if k ∈ b then addAt (giveTo es b v xs k) k (tt es v k) else giveTo es b v xs k
def fireV (es : List (Int × Int × Int)) (b : List Nat) (n : Nat) (xs : List Int) (v : Nat) : List Int := giveTo es b v (addAt xs v (-(flmTo es b v n))) n
def fireL (es : List (Int × Int × Int)) (b : List Nat) (n : Nat) (xs : List Int) (l : List Nat) : List Int := l.foldl (fireV es b n) xs
def bumpL (xs : List Int) (l : List Nat) : List Int := l.foldl (fun s v => addAt s v 1) xs
section
variable {es : List (Int × Int × Int)} {b : List Nat} {n v : Nat} {xs : List Int} {N : Int}
theorem giveTo_length (k : Nat) : (giveTo es b v xs k).length = xs.length := by
  induction k with
  | zero => rfl
  | succ k ih => rw [giveTo]; split <;> simp [addAt_length, ih]
theorem giveTo_bd (hok : ∀ e ∈ es, okE N e) {M : Int} (hM : 0 ≤ M) (h : Bd M xs) (k : Nat) : Bd (M + 50 * k) (giveTo es b v xs k) := by
  induction k with
  | zero => simpa [giveTo] using h
  | succ k ih =>
    have ht := tt_bd hok v k
    rw [giveTo]
    split
    · exact (ih.addAt_ (by omega) k (D := 50) ⟨by omega, by omega⟩ (by omega)).mono (by push_cast; omega)
    · exact ih.mono (by push_cast; omega)
theorem fireV_length : (fireV es b n xs v).length = xs.length := by unfold fireV; rw [giveTo_length, addAt_length]
theorem fireV_bd (hok : ∀ e ∈ es, okE N e) (hn : n ≤ 12) {M : Int} (hM : 0 ≤ M) (h : Bd M xs) : Bd (M + 1200) (fireV es b n xs v) := by
  unfold fireV
  have hf := flmTo_bd hok b v n
  exact (giveTo_bd hok (M := M + 600) (by omega) (h.addAt_ hM v (D := 600) ⟨by omega, by omega⟩ (by omega)) n).mono (by omega)
theorem fireL_snoc (l : List Nat) (v : Nat) : fireL es b n xs (l ++ [v]) = fireV es b n (fireL es b n xs l) v := by simp [fireL, List.foldl_append]
theorem fireL_length (l : List Nat) : (fireL es b n xs l).length = xs.length := by
  induction l using snocRec with
  | h0 => rfl
  | h1 l x ih => rw [fireL_snoc, fireV_length, ih]
theorem fireL_bd (hok : ∀ e ∈ es, okE N e) (hn : n ≤ 12) {M : Int} (hM : 0 ≤ M) (h : Bd M xs) (l : List Nat) : Bd (M + 1200 * l.length) (fireL es b n xs l) := by
  induction l using snocRec with
  | h0 => simpa [fireL] using h
  | h1 l x ih =>
    rw [fireL_snoc]
    exact (fireV_bd hok hn (M := M + 1200 * l.length) (by omega) ih).mono (by simp; omega)
theorem bumpL_snoc (l : List Nat) (v : Nat) : bumpL xs (l ++ [v]) = addAt (bumpL xs l) v 1 := by simp [bumpL, List.foldl_append]
theorem bumpL_length (l : List Nat) : (bumpL xs l).length = xs.length := by
  induction l using snocRec with
  | h0 => rfl
  | h1 l x ih => rw [bumpL_snoc, addAt_length, ih]
theorem bumpL_bd {M : Int} (hM : 0 ≤ M) (h : Bd M xs) (l : List Nat) : Bd (M + l.length) (bumpL xs l) := by
  induction l using snocRec with
  | h0 => simpa [bumpL] using h
  | h1 l x ih =>
    rw [bumpL_snoc]
    exact (Bd.addAt_ (M := M + l.length) ih (by omega) x (D := 1) (d := 1) ⟨by omega, by omega⟩ (by omega)).mono (by simp; omega)
end

/-- What one round makes of the chips. -/
def stepC (es : List (Int × Int × Int)) (n q : Nat) (c : List Int) : List Int := (fireL es (burntL es c n q) n c (restL n (burntL es c n q))).set q 0
def leftC (es : List (Int × Int × Int)) (n q : Nat) (c : List Int) : List Nat := restL n (burntL es c n q)
theorem stepC_length (es : List (Int × Int × Int)) (n q : Nat) (c : List Int) : (stepC es n q c).length = c.length := by
  unfold stepC; rw [List.length_set, fireL_length]
theorem leftC_len (es : List (Int × Int × Int)) (n q : Nat) (c : List Int) : (leftC es n q c).length ≤ n := by
  unfold leftC restL; exact Nat.le_trans (List.length_filter_le _ _) (by simp)
theorem stepC_bd {es : List (Int × Int × Int)} {N : Int} (hok : ∀ e ∈ es, okE N e) {n q : Nat} (hn : n ≤ 12) {c : List Int} {M : Int} (hM : 0 ≤ M) (h : Bd M c) : Bd (M + 14400) (stepC es n q c) := by
  unfold stepC
  have hl := leftC_len es n q c
  unfold leftC at hl
  exact ((fireL_bd hok hn hM h _).mono (by omega)).set_ q ⟨by omega, by omega⟩

/-- All rounds: none if there are too many. -/
inductive PushR (es : List (Int × Int × Int)) (n q : Nat) : List Int → List Int → Nat → Option (List Int × List Int) → Prop
  | done {c s m} : leftC es n q c = [] → PushR es n q c s m (some (c, s))
  | over {c s m} : leftC es n q c ≠ [] → 1048576 < m + (leftC es n q c).length → PushR es n q c s m none
  | step {c s m r} : leftC es n q c ≠ [] → m + (leftC es n q c).length ≤ 1048576 → PushR es n q (stepC es n q c) (bumpL s (leftC es n q c)) (m + (leftC es n q c).length) r → PushR es n q c s m r
theorem PushR.over_inv {es : List (Int × Int × Int)} {n q : Nat} {c s : List Int} {m : Nat} {r} (h : PushR es n q c s m r) (h1 : leftC es n q c ≠ []) (h2 : 1048576 < m + (leftC es n q c).length) : r = none := by
  cases h with
  | done h3 => exact absurd h3 h1
  | over _ _ => rfl
  | step _ h3 _ => omega
theorem PushR.step_inv {es : List (Int × Int × Int)} {n q : Nat} {c s : List Int} {m : Nat} {r} (h : PushR es n q c s m r) (h1 : leftC es n q c ≠ []) (h2 : m + (leftC es n q c).length ≤ 1048576) : PushR es n q (stepC es n q c) (bumpL s (leftC es n q c)) (m + (leftC es n q c).length) r := by
  cases h with
  | done h3 => exact absurd h3 h1
  | over _ h3 => omega
  | step _ _ h3 => exact h3

def sumTo (f : Nat → Int) : Nat → Int
  | 0 => 0
  | k + 1 => sumTo f k + f k
theorem sumTo_congr {f g : Nat → Int} : ∀ {k : Nat}, (∀ i, i < k → f i = g i) → sumTo f k = sumTo g k
  | 0, _ => rfl
  | k + 1, h => by rw [sumTo, sumTo, sumTo_congr (k := k) fun i hi => h i (by omega), h k (by omega)]
section
variable {es : List (Int × Int × Int)} {s : List Int} {n v : Nat} {xs : List Int} {N : Int}
end
end Go.Proofs.YtnbikkcalcpedaaGreatDoor

/-! Plain laws of pushing: what a script has moved; there is one superstable configuration at most that a script leads to. No program is in sight. -/
namespace Go.Proofs.YtnbikkcalcpedaaGreatDoor

theorem sumTo_add (f g : Nat → Int) : ∀ k, sumTo (fun i => f i + g i) k = sumTo f k + sumTo g k
  | 0 => rfl
  | k + 1 => by rw [sumTo, sumTo, sumTo, sumTo_add f g k]; omega
theorem sumTo_zero {f : Nat → Int} {k : Nat} (h : ∀ i, i < k → f i = 0) : sumTo f k = 0 := by
  induction k with
  | zero => rfl
  | succ k ih => rw [sumTo, ih fun i hi => h i (by omega), h k (by omega)]; rfl
theorem sumTo_le {f g : Nat → Int} {k : Nat} (h : ∀ i, i < k → f i ≤ g i) : sumTo f k ≤ sumTo g k := by
  induction k with
  | zero => exact Int.le_refl _
  | succ k ih => rw [sumTo, sumTo]; have := ih fun i hi => h i (by omega); have := h k (by omega); omega
end Go.Proofs.YtnbikkcalcpedaaGreatDoor

/-! Plain laws of pushing: how often vertices fire. No program is in sight. -/
namespace Go.Proofs.YtnbikkcalcpedaaGreatDoor

section
variable {es : List (Int × Int × Int)} {n q : Nat} {c d s : List Int} {T : Int}
end
end Go.Proofs.YtnbikkcalcpedaaGreatDoor

/-! Plain: lists below a list, in lexicographic order; those with a property that what is more has too. No program is in sight. -/
namespace Go.Proofs.YtnbikkcalcpedaaGreatDoor

section
variable {rec : List Int → Bool} {top : List Int} {n f v k : Nat} {c : List Int}
end
end Go.Proofs.YtnbikkcalcpedaaGreatDoor

/-! Graphs: slices of edges (three cells each) and of pairs (two cells each); the reference's equality of graphs. -/
namespace Go.Proofs.YtnbikkcalcpedaaGreatDoor
open Go.RowKit

/-- An edge: its ends, and how often. -/
abbrev E3 := Int × Int × Int
def edgeCells : List E3 → List Value
  | [] => []
  | e :: es => .int .i64 e.1 :: .int .i64 e.2.1 :: .int .i64 e.2.2 :: edgeCells es
theorem edgeCells_length (es : List E3) : (edgeCells es).length = es.length * 3 := by
  induction es with
  | nil => rfl
  | cons e es ih => simp [edgeCells, ih]; omega
theorem edgeCells_append (es fs : List E3) : edgeCells (es ++ fs) = edgeCells es ++ edgeCells fs := by
  induction es with
  | nil => rfl
  | cons e es ih => simp [edgeCells, ih]
theorem edgeCells_at {es : List E3} {k : Nat} {e : E3} (h : es[k]? = some e) :
    (edgeCells es)[k * 3]? = some (.int .i64 e.1) ∧ (edgeCells es)[k * 3 + 1]? = some (.int .i64 e.2.1) ∧ (edgeCells es)[k * 3 + 2]? = some (.int .i64 e.2.2) := by
  induction es generalizing k with
  | nil => simp at h
  | cons f es ih =>
    rcases k with _ | k
    · simp at h; subst h; simp [edgeCells]
    · have := ih (k := k) (by simpa using h)
      rw [show (k + 1) * 3 = k * 3 + 1 + 1 + 1 from by omega, show k * 3 + 1 + 1 + 1 + 1 = (k * 3 + 1) + 1 + 1 + 1 from by omega, show k * 3 + 1 + 1 + 1 + 2 = (k * 3 + 2) + 1 + 1 + 1 from by omega]
      simpa [edgeCells] using this
theorem edgeCells_one {es : List E3} : ∀ u ∈ edgeCells es, u.oneCell' = true := by
  induction es with
  | nil => simp [edgeCells]
  | cons e es ih =>
    intro u hu
    simp only [edgeCells, List.mem_cons] at hu
    rcases hu with rfl | rfl | rfl | hu
    · rfl
    · rfl
    · rfl
    · exact ih u hu
theorem Reads.edge {w : World} {B n : Nat} {A : Option Addr} {es : List E3} {k : Nat} {e : E3} (h : Reads w B 3 A n (edgeCells es)) (he : es[k]? = some e) :
    ∃ b off, A = some ⟨b, off, none⟩ ∧ b < B ∧ w.cell? ⟨b, off + k * 3, none⟩ = some (.int .i64 e.1) ∧ w.cell? ⟨b, off + k * 3 + 1, none⟩ = some (.int .i64 e.2.1) ∧ w.cell? ⟨b, off + k * 3 + 1 + 1, none⟩ = some (.int .i64 e.2.2) := by
  have hk : k < es.length := (List.getElem?_eq_some_iff.1 he).1
  have hl := h.1
  rw [edgeCells_length] at hl
  obtain ⟨b, off, hA, hb, hc⟩ := h.2 (by omega)
  obtain ⟨h1, h2, h3⟩ := edgeCells_at he
  exact ⟨b, off, hA, hb, hc _ _ h1, by have := hc _ _ h2; rwa [show off + (k * 3 + 1) = off + k * 3 + 1 from by omega] at this, by have := hc _ _ h3; rwa [show off + (k * 3 + 2) = off + k * 3 + 1 + 1 from by omega] at this⟩

theorem info_edge : (Tryz.prog.info? 107).map (fun i => (i.zero, i.size, i.bytes)) = some (some (.agg #[.int .i64 0, .int .i64 0, .int .i64 0]), 3, 24) := by kernel_rfl

/-- The slice value is the call's own row of edges. -/
def OwnE (w : World) (base : Nat) (A : Option Addr) (c : Nat) (es : List E3) : Prop := w.ownsRow base 107 3 (.slice A es.length c) es.length (edgeCells es)
section
variable {w w' : World} {base : Nat} {A : Option Addr} {c : Nat} {es : List E3}
theorem OwnE.nil_ (w : World) (base : Nat) : OwnE w base none 0 [] := World.ownsRow_nil _ _ _ _
theorem OwnE.reads (h : OwnE w base A c es) : Reads w w.heap.size 3 A es.length (edgeCells es) := Reads.of_own h
theorem OwnE.alloc (h : OwnE w base A c es) (o : Obj) : OwnE (w.alloc o) base A c es := World.ownsRow.alloc h o
theorem OwnE.drewN (h : OwnE w base A c es) (n : Nat) : OwnE (w.drewN n) base A c es := h
theorem OwnE.lt (h : OwnE w base A c es) : ∀ k, blockOf A k → base ≤ k ∧ k < w.heap.size := fun k hk => World.ownsRow.lt h k (blockOf_own.2 hk)
theorem OwnE.kept (h : OwnE w base A c es) (hk : ∀ k, blockOf A k → w'.heap[k]? = w.heap[k]?) : OwnE w' base A c es := by
  obtain ⟨h1, h2⟩ := h
  refine ⟨h1, ?_⟩
  rcases h2 with h2 | ⟨g, cap, cur, hv, hg, hh, r⟩
  · exact .inl h2
  · have hgb : (Value.slice A es.length c).ownBlock = some g := by rw [hv]; rfl
    exact .inr ⟨g, cap, cur, hv, hg, (hk g (blockOf_own.1 hgb)).trans hh, r⟩
theorem OwnE.next (h : OwnE w base A c es) (hb : Below w.heap.size w w') : OwnE w' base A c es := h.kept fun k hk => hb.block k (h.lt k hk).2
theorem OwnE.mono {base' : Nat} (h : OwnE w base A c es) (hb : base' ≤ base) : OwnE w base' A c es := by
  obtain ⟨h1, h2⟩ := h
  refine ⟨h1, ?_⟩
  rcases h2 with h2 | ⟨g, cap, cur, hv, hg, r⟩
  · exact .inl h2
  · exact .inr ⟨g, cap, cur, hv, by omega, r⟩
theorem OwnE.set_blk {g : Nat} {t : TypeId} {cs : Array Value} (h : OwnE w base A c es) (hg : Blk w g t cs) (ht : 107 ≠ t) (o : Nat) (u : Value) : OwnE (w.setCell ⟨g, o, none⟩ u) base A c es := by
  have hne := own_blk_ne h hg ht
  refine h.kept fun k hk => Below.heap_setCell w ⟨g, o, none⟩ u k ?_
  rintro rfl
  exact hne (blockOf_own.2 hk).symm
end
/-- 'append(es, e)': behind the box of the one new edge. -/
theorem push_edge {ops : Array Oper} {rest : List Oper} {o : Oper} {a : Act} {Q : Exit → Act → World → Prop} {w : World} (hgd : o.guard = none) (s x : Operand) (t : TypeId)
    (ho : o.op = .call { callee := .builtin .append, args := #[s, x], argTypes := #[t, t] }) (ht : Tryz.prog.underlying t = some (.slice 107))
    (base : Nat) (A : Option Addr) (c : Nat) (es : List E3) (e1 e2 e3 : Int) (hs : a.eval s = .slice A es.length c) (hown : OwnE w base A c es)
    {g : Nat} (hx : a.eval x = .slice (some ⟨g, 0, none⟩) 1 1) (hgw : g = w.heap.size) (hn : es.length ≤ 1048000) (hbase : base ≤ w.heap.size)
    (h : ∀ A' c' w', OwnE w' base A' c' (es ++ [(e1, e2, e3)]) → (w.alloc (.cells #[.int .i64 e1, .int .i64 e2, .int .i64 e3] 107)).grownBy w' (Value.slice A es.length c).ownBlock → Below base w w' →
      wpList Tryz.prog ops Q rest (a.put o.dst (.slice A' (es.length + 1) c')) w') :
    wpList Tryz.prog ops Q (o :: rest) a (w.alloc (.cells #[.int .i64 e1, .int .i64 e2, .int .i64 e3] 107)) := by
  subst hgw
  refine append_go hgd s x t ho base 107 ht info_edge rfl (by omega) A c es.length (edgeCells es) hs (OwnE.alloc hown _) _ (edgeCells [(e1, e2, e3)]) hx (Reads.boxN w #[.int .i64 e1, .int .i64 e2, .int .i64 e3] 107) edgeCells_one (by omega) (by simp; omega) ?_
  intro A' c' w' hown' hg hB _
  exact h A' c' w' (by unfold OwnE; rw [List.length_append, edgeCells_append]; exact hown') hg (((Below.refl base w).alloc hbase _).trans hB)

end Go.Proofs.YtnbikkcalcpedaaGreatDoor

/-! What stays of slices through the steps of an iterator; the ends of functions that hold ranges over functions. -/
namespace Go.Proofs.YtnbikkcalcpedaaGreatDoor
open Go.RowKit Go.Shelf

/-- The marks of the loops that a function has gone through. -/
def MarksAt : List Deferred → World → Prop
  | [], _ => True
  | d :: ds, w => ∃ D, d = { target := .collected D, args := #[] } ∧ w.heap[D]? = some (.deferred (some [])) ∧ (∀ d' ∈ ds, d' ≠ d) ∧ MarksAt ds w
theorem MarksAt.keep {ds : List Deferred} {w w' : World} (h : MarksAt ds w) (hk : ∀ D, ({ target := .collected D, args := #[] } : Deferred) ∈ ds → w'.heap[D]? = w.heap[D]?) : MarksAt ds w' := by
  induction ds with
  | nil => trivial
  | cons d ds ih =>
    obtain ⟨D, hd, hD, hne, hr⟩ := h
    refine ⟨D, hd, (hk D (by rw [hd]; simp)).trans hD, hne, ih hr fun D' h' => hk D' (by simp [h'])⟩
theorem end_marks {P : Program} {n : Nat} {fn : Func} {R : Ending → World → Prop} {tmps : Array Value} : ∀ (ds : List Deferred) (w : World), MarksAt ds w →
    (∀ w', Only (fun k => ({ target := .collected k, args := #[] } : Deferred) ∈ ds) w w' → ∃ v, (results fn tmps).run P w' = .ok v w' ∧ R (.returned v) w') → LeavesInM Fence.wide n P fn tmps R ds .returning w := by
  intro ds
  induction ds with
  | nil => intro w _ h; exact h w (Only.refl _ _)
  | cons d ds ih =>
    rintro w ⟨D, hd, hD, hne, hr⟩ h
    refine ⟨by simp, .inl ⟨D, _, by rw [hd], run_takeDeferred hD, ih _ (hr.keep fun D' h' => World.putObj_heap_other fun e => hne _ h' (by rw [hd, e])) ?_⟩⟩
    intro w' ho
    refine h w' (Only.trans ((Only.put_one w D _).mono fun k _ hk => by subst hk; rw [hd]; simp) (ho.mono fun k _ hk => by simp [hk]))

theorem end_none {P : Program} {F : Fence} {n : Nat} {fn : Func} {R : Ending → World → Prop} {tmps : Array Value} {w : World} {v : Value} (hv : (results fn tmps).run P w = .ok v w) (hR : R (.returned v) w) :
    bodyPostM F n P fn R .ret { tmps := tmps, defers := [] } w := ⟨v, hv, hR⟩

theorem OwnI.stays {B : Nat} {M C : Nat → Prop} {w w' : World} {base c : Nat} {A : Option Addr} {xs : List Int} (h : OwnI w base A c xs) (hst : Stays B M C w w') (hC : ∀ k, blockOf A k → C k ∨ (k < B ∧ ¬ M k)) : OwnI w' base A c xs := by
  have hlt := h.lt
  obtain ⟨h1, h2⟩ := h
  refine ⟨h1, ?_⟩
  rcases h2 with h2 | ⟨g, cap, cur, hv, hg, hh, r⟩
  · exact .inl h2
  · have hgb : (Value.slice A xs.length c).ownBlock = some g := by rw [hv]; rfl
    exact .inr ⟨g, cap, cur, hv, hg, (hst.block g (hlt g hgb).2 (hC g (blockOf_own.1 hgb))).trans hh, r⟩
theorem OwnI.only {C : Nat → Prop} {w w' : World} {base c : Nat} {A : Option Addr} {xs : List Int} (h : OwnI w base A c xs) (ho : Only C w w') (hC : ∀ k, blockOf A k → ¬ C k) : OwnI w' base A c xs := by
  have hlt := h.lt
  obtain ⟨h1, h2⟩ := h
  refine ⟨h1, ?_⟩
  rcases h2 with h2 | ⟨g, cap, cur, hv, hg, hh, r⟩
  · exact .inl h2
  · have hgb : (Value.slice A xs.length c).ownBlock = some g := by rw [hv]; rfl
    exact .inr ⟨g, cap, cur, hv, hg, (ho.block g (hlt g hgb).2 (hC g (blockOf_own.1 hgb))).trans hh, r⟩
end Go.Proofs.YtnbikkcalcpedaaGreatDoor

/-! Slices of ints that are known whole. -/
namespace Go.Proofs.YtnbikkcalcpedaaGreatDoor
open Go.RowKit

def intCells (l : List Int) : Array Value := (ints l).toArray
theorem intCells_set (l : List Int) (k : Nat) (x : Int) : (intCells l).setIfInBounds k (.int .i64 x) = intCells (l.set k x) := by simp [intCells, ints, List.map_set]
theorem OwnI.of_blk {w : World} {base g : Nat} {l : List Int} (h : Blk w g 3 (intCells l)) (hb : base ≤ g) (hl : l.length ≤ maxLen) : OwnI w base (some ⟨g, 0, none⟩) l.length l :=
  ⟨by simp [ints], .inr ⟨g, l.length, intCells l, rfl, hb, h, Nat.le_refl _, hl, by simp [intCells, ints], by rw [Nat.mul_one]; show (ints l).take l.length = ints l; rw [← ints_length, List.take_length]⟩⟩
end Go.Proofs.YtnbikkcalcpedaaGreatDoor

/-! Plain laws of paths in spanning trees: the parents found by rounds, a search in depth, and the cycle of a single edge. No program is in sight. -/
namespace Go.Proofs.YtnbikkcalcpedaaGreatDoor

section
variable {E : List (Nat × Nat)} {t : List Nat} {n e f a b v w r : Nat}

/-! The parents, by rounds. -/
/-! The search in depth: behind 'from' (a single edge, or none). -/
def lessO (t : List Nat) : Option Nat → List Nat
  | none => t
  | some f => lessL t f
/-- What 'from' is: none, or a single edge of the tree at this vertex. -/
def FromOk (E : List (Nat × Nat)) (t : List Nat) (v : Nat) (o : Option Nat) : Prop := ∀ f, o = some f → f ∈ t ∧ Inc E f v
theorem far_cn (hT : FoE n E t) {o : Option Nat} (ho : FromOk E t v o) (he : e ∈ t) (hi : Inc E e v) (hne : o ≠ some e) {y : Nat} (h : Cn (pk E (lessL t e)) (oth (E.getD e (0, 0)) v) y) : Cn (pk E (lessO t o)) v y := by
  cases o with
  | none => exact (inc_cn he hi).trans (cn_less h)
  | some f =>
    obtain ⟨hf, hj⟩ := ho f rfl
    have hfe : f ≠ e := fun h => hne (by rw [h])
    have hef : e ∈ lessL t f := mem_less.2 ⟨he, fun h => hfe h.symm⟩
    refine (inc_cn hef hi).trans ?_
    rcases (cn_split' (mem_less.2 ⟨hf, hfe⟩) hj).1 h with k | ⟨k, _⟩ | ⟨k, k2⟩
    · rw [less_comm] at k; exact cn_less k
    · exact absurd (cn_less k).symm (hT.bridge' he hi)
    · -- w joined with the other end of f, v with y: v with w again
      exfalso
      have h2 : Cn (pk E (lessL t e)) (oth (E.getD e (0, 0)) v) v := (cn_less k).trans (inc_cn (mem_less.2 ⟨hf, hfe⟩) hj).symm
      exact hT.bridge' he hi h2.symm
theorem dfs_yes (hT : FoE n E t) {o : Option Nat} (ho : FromOk E t v o) (he : e ∈ t) (hi : Inc E e v) (hne : o ≠ some e) (h : Cn (pk E (lessL t e)) (oth (E.getD e (0, 0)) v) b) : Cn (pk E (lessO t o)) v b ∧ pathL E t v b = e :: pathL E t (oth (E.getD e (0, 0)) v) b := by
  refine ⟨far_cn hT ho he hi hne h, ?_⟩
  have hs : Sep E t v b e := fun hc => hT.bridge' he hi (hc.trans h.symm)
  exact pathL_step hT ((inc_cn he hi).trans (cn_less h)) he hi hs
theorem dfs_no (hT : FoE n E t) {o : Option Nat} (hvb : v ≠ b) (h : ∀ e ∈ t, Inc E e v → o ≠ some e → ¬ Cn (pk E (lessL t e)) (oth (E.getD e (0, 0)) v) b) : ¬ Cn (pk E (lessO t o)) v b := by
  intro hc
  have hT' : FoE n E (lessO t o) := by
    cases o with
    | none => exact hT
    | some f => exact hT.less f
  obtain ⟨e, he, hi, hs⟩ := par_ex hT' hc hvb
  have h1 := sep_oth hc he hi hs
  have het : e ∈ t := by
    cases o with
    | none => exact he
    | some f => exact (mem_less.1 he).1
  refine h e het hi ?_ ?_
  · rintro rfl; exact (mem_less.1 he).2 rfl
  · refine cn_sub (fun x hx => ?_) h1
    obtain ⟨k1, k2⟩ := mem_less.1 hx
    refine mem_less.2 ⟨?_, k2⟩
    cases o with
    | none => exact k1
    | some f => exact (mem_less.1 k1).1
/-- How many single edges may still be visited. -/
def cmpN (E : List (Nat × Nat)) (t : List Nat) (v : Nat) (o : Option Nat) : Nat := ((lessO t o).filter fun x => decide (Cn (pk E (lessO t o)) v (E.getD x (0, 0)).1)).length
theorem cmp_less (hT : FoE n E t) {o : Option Nat} (ho : FromOk E t v o) (he : e ∈ t) (hi : Inc E e v) (hne : o ≠ some e) : cmpN E t (oth (E.getD e (0, 0)) v) (some e) < cmpN E t v o := by
  have hn : ((lessL t e).filter fun x => decide (Cn (pk E (lessL t e)) (oth (E.getD e (0, 0)) v) (E.getD x (0, 0)).1)).Nodup := (less_nodup hT.nodup).sublist List.filter_sublist
  have heo : e ∈ lessO t o := by
    cases o with
    | none => exact he
    | some f => exact mem_less.2 ⟨he, fun h => hne (by rw [h])⟩
  have h2 : (e :: ((lessL t e).filter fun x => decide (Cn (pk E (lessL t e)) (oth (E.getD e (0, 0)) v) (E.getD x (0, 0)).1))).length ≤ ((lessO t o).filter fun x => decide (Cn (pk E (lessO t o)) v (E.getD x (0, 0)).1)).length := by
    refine nodup_sub_le (List.nodup_cons.2 ⟨fun h => (mem_less.1 (List.mem_filter.1 h).1).2 rfl, hn⟩) fun x hx => ?_
    rw [List.mem_filter, decide_eq_true_eq]
    rcases List.mem_cons.1 hx with rfl | hx
    · refine ⟨heo, ?_⟩
      have h3 := inc_cn heo hi
      rcases inc_cases hi with ⟨k1, k2⟩ | ⟨k1, k2⟩
      · rw [k1]; exact .refl
      · rw [k2]; exact h3
    · rw [List.mem_filter, decide_eq_true_eq] at hx
      obtain ⟨k1, k2⟩ := hx
      refine ⟨?_, far_cn hT ho he hi hne k2⟩
      cases o with
      | none => exact (mem_less.1 k1).1
      | some f =>
        refine mem_less.2 ⟨(mem_less.1 k1).1, ?_⟩
        rintro rfl
        obtain ⟨hf, hj⟩ := ho x rfl
        have h5 := inc_cn k1 hj
        have h6 : Cn (pk E (lessL t e)) (oth (E.getD e (0, 0)) v) v := by
          rcases inc_cases hj with ⟨j1, j2⟩ | ⟨j1, j2⟩
          · rw [j1] at k2; exact k2
          · rw [j2] at k2; exact k2.trans h5.symm
        exact hT.bridge' he hi h6.symm
  unfold cmpN
  simp only [List.length_cons] at h2
  exact h2

/-! The cycle of a single edge. -/
end
end Go.Proofs.YtnbikkcalcpedaaGreatDoor

/-! slices.Index and Contains on ints (from XLegal, for programs without firing). -/
namespace Go.Proofs.YtnbikkcalcpedaaGreatDoor
open Go.RowKit

set_option maxHeartbeats 1000000 in
theorem index_any (A : Option Addr) (c : Nat) (xs : List Int) (hn : xs.length ≤ 1048576) (v : Int) (w : World) (h : Reads w w.heap.size 1 A xs.length (ints xs)) :
    Calls Tryz.prog 75 #[.slice A xs.length c, .int .i64 v] w fun e w' => ∃ r : Int, e = .returned (.int .i64 r) ∧ Hid (0 ≤ r ↔ v ∈ xs) ∧ w = w' := by
  go_enter Tryz.func75, Tryz.ntmps75
  go_wp2
  go_loop [8] (fun i => ∃ k : Nat, k ≤ xs.length ∧ i = .int .i64 k ∧ Hid (v ∉ xs.take k)) (fun i => xs.length - (intOf i).toNat)
  case atStart => exact ⟨0, by omega, rfl, by simp [Hid]⟩
  case round =>
    obtain ⟨k, hk, rfl, HS⟩ := hrel
    by_cases hlt : k < xs.length
    · obtain ⟨x, hx⟩ := get_of_lt hlt
      obtain ⟨b, off, rfl, hb, hcell⟩ := h.at_ (ints_at hx)
      have hi : (k : Int) < (xs.length : Int) := by omega
      have htk := take_snoc hx
      by_cases hv : v = x
      · have e : (v == x) = true := by simpa using hv
        have HT : Hid (v ∈ xs) := by rw [hv]; exact List.mem_of_getElem? hx
        clear hx htk hv
        go_wp2
        go_ret
        exact ⟨k, rfl, ⟨fun _ => HT.out, fun _ => by omega⟩, rfl⟩
      · have e : (v == x) = false := by simpa using hv
        have HN : Hid (v ∉ xs.take (k + 1)) := by
          rw [htk, Hid, List.mem_append]
          rintro (hc | hc)
          · exact HS.out hc
          · exact hv (List.mem_singleton.1 hc)
        clear hx htk hv
        go_wp2
        go_round
        case rel => exact ⟨k + 1, by omega, by go_num, HN⟩
        case measure => simp [intOf]; omega
    · obtain rfl : k = xs.length := by omega
      rw [List.take_length] at HS
      go_wp2
      go_ret
      exact ⟨-1, rfl, ⟨fun h => absurd h (by decide), fun h => absurd h HS.out⟩, rfl⟩
set_option maxHeartbeats 1000000 in
theorem contains_any (A : Option Addr) (c : Nat) (xs : List Int) (hn : xs.length ≤ 1048576) (v : Int) (w : World) (h : Reads w w.heap.size 1 A xs.length (ints xs)) :
    Calls Tryz.prog 25 #[.slice A xs.length c, .int .i64 v] w fun e w' => e = .returned (.bool (decide (v ∈ xs))) ∧ w = w' := by
  have IC := Lib.hid (index_any A c xs hn v w h)
  go_enter Tryz.func25, Tryz.ntmps25
  go_wp2_with fail
  refine (IC.out).mono ?_
  rintro e w1 ⟨r, rfl, HR, rfl⟩
  go_wp2
  go_ret
  exact ⟨ret_bool (by rw [Bool.eq_iff_iff]; simp [HR.out]), rfl⟩

end Go.Proofs.YtnbikkcalcpedaaGreatDoor

/-! A slice of ints of the call's own: its block, and a store into it. -/
namespace Go.Proofs.YtnbikkcalcpedaaGreatDoor
open Go.RowKit

theorem OwnI.block {w : World} {base : Nat} {A : Option Addr} {c : Nat} {xs : List Int} (h : OwnI w base A c xs) (hn : 0 < xs.length) : ∃ g, A = some ⟨g, 0, none⟩ ∧ base ≤ g ∧ (∀ i, w.frozen? ⟨g, i, none⟩ = false) ∧ ∀ (k : Nat) (x : Int), xs[k]? = some x → w.cell? ⟨g, k, none⟩ = some (.int .i64 x) := by
  obtain ⟨h1, h2⟩ := h
  rcases h2 with ⟨h2, h3⟩ | ⟨g, cap, cur, hv, hg, hh, r1, r2, r3, r4⟩
  · simp at h2; omega
  · injection hv with hv1 hv2 hv3
    have hb : Blk w g 3 cur := hh
    refine ⟨g, hv1, hg, hb.frozen, fun k x hk => ?_⟩
    rw [hb.cell k]
    have hk' : k < xs.length := (List.getElem?_eq_some_iff.1 hk).1
    have e1 : (cur.toList.take (xs.length * 1))[k]? = some (.int .i64 x) := by rw [r4, ints_at hk]
    rw [Nat.mul_one, List.getElem?_take_of_lt hk', Array.getElem?_toList] at e1
    exact e1
theorem OwnI.set {w : World} {base : Nat} {A : Option Addr} {c g : Nat} {xs : List Int} (h : OwnI w base A c xs) (hA : A = some ⟨g, 0, none⟩) (k : Nat) (x : Int) : OwnI (w.setCell ⟨g, k, none⟩ (.int .i64 x)) base A c (xs.set k x) := by
  obtain ⟨h1, h2⟩ := h
  rcases h2 with ⟨h2, h3⟩ | ⟨g', cap, cur, hv, hg, hh, r1, r2, r3, r4⟩
  · simp at h2; rw [hA] at h2; simp at h2
  · have hv1 : A = some ⟨g', 0, none⟩ := by injection hv
    rw [hA] at hv1
    have hgg : g = g' := by injection hv1 with hv1; injection hv1
    subst hgg
    refine ⟨by rw [ints_length]; simp, .inr ⟨g, cap, cur.setIfInBounds k (.int .i64 x), by rw [List.length_set]; exact hv, hg, (Blk.set_ (show Blk w g 3 cur from hh) k _), by rw [List.length_set]; exact r1, r2, by simpa using r3, ?_⟩⟩
    rw [Array.toList_setIfInBounds, List.take_set, List.length_set, r4]
    simp [ints, List.map_set]
theorem OwnI.at_ {w : World} {base c g : Nat} {xs : List Int} (h : OwnI w base (some ⟨g, 0, none⟩) c xs) (hn : 0 < xs.length) : base ≤ g ∧ g < w.heap.size ∧ (∀ i, w.frozen? ⟨g, i, none⟩ = false) ∧ ∀ (k : Nat) (x : Int), xs[k]? = some x → w.cell? ⟨g, k, none⟩ = some (.int .i64 x) := by
  obtain ⟨g', e, h1, h2, h3⟩ := h.block hn
  injection e with e
  injection e with e
  subst e
  exact ⟨h1, (own_lt h ⟨_, rfl, rfl⟩).2, h2, h3⟩
theorem OwnI.put {w : World} {base c g : Nat} {xs : List Int} (h : OwnI w base (some ⟨g, 0, none⟩) c xs) (k : Nat) (x : Int) : OwnI (w.setCell ⟨g, k, none⟩ (.int .i64 x)) base (some ⟨g, 0, none⟩) c (xs.set k x) := h.set rfl k x
theorem OwnI.other {w : World} {base c g : Nat} {xs : List Int} (h : OwnI w base (some ⟨g, 0, none⟩) c xs) {p : Addr} (hp : p.block ≠ g) (u : Value) : OwnI (w.setCell p u) base (some ⟨g, 0, none⟩) c xs :=
  own_kept h fun k hk => by
    obtain ⟨a, ha, hk⟩ := hk
    injection ha with ha
    subst ha
    exact Below.heap_setCell w p u k (fun e => hp (by rw [← e, ← hk]))
theorem OwnI.kept {w w' : World} {base c g : Nat} {xs : List Int} (h : OwnI w base (some ⟨g, 0, none⟩) c xs) (hp : w'.heap[g]? = w.heap[g]?) : OwnI w' base (some ⟨g, 0, none⟩) c xs :=
  own_kept h fun k hk => by
    obtain ⟨a, ha, hk⟩ := hk
    injection ha with ha
    subst ha
    subst hk
    exact hp
end Go.Proofs.YtnbikkcalcpedaaGreatDoor

/-! slices.Clone on ints. -/
namespace Go.Proofs.YtnbikkcalcpedaaGreatDoor
open Go.RowKit

set_option maxHeartbeats 400000 in
/-- slices.Clone on ints. -/
theorem clone_any (A : Option Addr) (c : Nat) (xs : List Int) (hn : xs.length ≤ 1048000) (w : World) (h : Reads w w.heap.size 1 A xs.length (ints xs)) :
    Calls Tryz.prog 92 #[.slice A xs.length c] w fun e w' =>
      ∃ A' c', e = .returned (.slice A' xs.length c') ∧ OwnI w' w.heap.size A' c' xs ∧ Below w.heap.size w w' := by
  have q22 : ∀ (w : World) (a : Option Addr) (n c n' c' : Nat), (binOp .eql 25 (.slice a n c) (.slice none n' c')).run Tryz.prog w = .ok (.bool a.isNone) w := fun w a n c n' c' => Lib.run_eql_slice_nil w _ _ a n c n' c' Tryz.underlying25
  rcases A with _ | ad
  · have hx : xs = [] := by
      rcases xs with _ | ⟨x, xs⟩
      · rfl
      · obtain ⟨_, _, h, _⟩ := h.2 (by simp)
        cases h
    subst hx
    go_enter Tryz.func92, Tryz.ntmps92
    go_wp2
    go_ret
    exact ⟨none, 0, rfl, OwnI.nil_ _ _, Below.refl _ _⟩
  · go_enter Tryz.func92, Tryz.ntmps92
    have hown0 : (w.alloc (.cells #[] 3)).ownsRow w.heap.size 3 1 (.slice (some ⟨w.heap.size, 0, none⟩) 0 0) 0 [] := World.ownsRow_made w #[] 0 (Nat.le_refl _) (by simp [maxLen]) (by simp)
    have hr := h.alloc (Nat.le_refl _) (.cells #[] 3)
    go_wp2_with (at_builtin; refine append_go rfl (.tmp 5) (.tmp 6) _ rfl w.heap.size 3 Tryz.underlying25 info_int rfl (by omega) (some ⟨w.heap.size, 0, none⟩) 0 0 [] rfl hown0 w.heap.size (ints xs) rfl hr (by simp [ints, Value.oneCell']) (by omega) (by simp) ?_; intro A' c' w' hown' _ hb' _)
    go_ret
    refine ⟨A', c', rfl, ?_, ((Below.refl _ _).alloc (Nat.le_refl _) _).trans hb'⟩
    rw [Nat.zero_add, List.nil_append] at hown'
    exact hown'

end Go.Proofs.YtnbikkcalcpedaaGreatDoor

