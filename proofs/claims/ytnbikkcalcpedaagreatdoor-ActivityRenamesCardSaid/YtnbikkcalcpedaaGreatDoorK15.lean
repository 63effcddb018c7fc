/-
  Texts of this claim, put together: CrapoP, ROrd, PushF, HeapX, BurnI, Graph2.
-/
import Derived.Test.YtnbikkcalcpedaaGreatDoorK09
import Derived.Test.YtnbikkcalcpedaaGreatDoorK13
import Derived.Test.YtnbikkcalcpedaaGreatDoorK12
import Derived.Test.YtnbikkcalcpedaaGreatDoorK07
import Derived.Test.YtnbikkcalcpedaaGreatDoorK04
import Derived.Deep.DeepAppendRoom
import Derived.Test.YtnbikkcalcpedaaGreatDoorK14
/-! Activity of the single edges of trees: each set of single edges lies in the interval of just one tree. No program is in sight. -/
namespace Go.Proofs.YtnbikkcalcpedaaGreatDoor
section
variable {n : Nat} {E : List (Nat × Nat)} {t u S : List Nat} {e f : Nat}
/-- A single edge of a tree is the least one of its cutset. -/
def IAct (E : List (Nat × Nat)) (t : List Nat) (f : Nat) : Prop := ∀ i, i < E.length → Sep E t (E.getD i (0, 0)).1 (E.getD i (0, 0)).2 f → f ≤ i
/-- A single edge outside is the least one of its cycle. -/
def EAct (E : List (Nat × Nat)) (t : List Nat) (e : Nat) : Prop := ∀ f ∈ t, Sep E t (E.getD e (0, 0)).1 (E.getD e (0, 0)).2 f → e ≤ f
/-- A set is in the interval of a tree. -/
def InIv (E : List (Nat × Nat)) (S t : List Nat) : Prop := (∀ f ∈ t, f ∉ S → IAct E t f) ∧ ∀ e, e < E.length → e ∈ S → e ∉ t → EAct E t e
instance : Decidable (IAct E t f) := decidable_of_iff (∀ i ∈ List.range E.length, Sep E t (E.getD i (0, 0)).1 (E.getD i (0, 0)).2 f → f ≤ i) ⟨fun h i hi => h i (List.mem_range.2 hi), fun h i hi => h i (List.mem_range.1 hi)⟩
instance : Decidable (EAct E t e) := by unfold EAct; infer_instance
instance : Decidable (InIv E S t) := decidable_of_iff ((∀ f ∈ t, f ∉ S → IAct E t f) ∧ ∀ e ∈ List.range E.length, e ∈ S → e ∉ t → EAct E t e) ⟨fun h => ⟨h.1, fun e he => h.2 e (List.mem_range.2 he)⟩, fun h => ⟨h.1, fun e he => h.2 e (List.mem_range.1 he)⟩⟩
theorem sep_self (h : FoE n E t) (hf : f ∈ t) : Sep E t (E.getD f (0, 0)).1 (E.getD f (0, 0)).2 f := h.bridge hf
theorem sep_tree (he : e ∈ t) (hne : e ≠ f) : ¬ Sep E t (E.getD e (0, 0)).1 (E.getD e (0, 0)).2 f := fun h => h (by
  exact (inc_cn (mem_less.2 ⟨he, hne⟩) (.inl rfl)).trans (by
    have : oth (E.getD e (0, 0)) (E.getD e (0, 0)).1 = (E.getD e (0, 0)).2 := by unfold oth; rw [if_pos rfl]
    rw [this]; exact .refl))
/-- For each single edge of a tree that another tree does not have, whose intervals both have a set, the latter has a greater one that the former does not have. -/
theorem iv_up (hb : BdP n E) (ht : IsTr n E t) (hu : IsTr n E u) (h1 : InIv E S t) (h2 : InIv E S u) (he : e ∈ t) (hn : e ∉ u) : ∃ f ∈ u, f ∉ t ∧ e < f := by
  have hel := ht.set.2 e he
  obtain ⟨ha, hb2⟩ := getD_bd hb hel
  obtain ⟨f, hf, hs, hc⟩ := exch (hu.foe hb) (hu.cn hb ha hb2) ((ht.foe hb).bridge he)
  have hfe : f ≠ e := fun h => hn (h ▸ hf)
  have hft : f ∉ t := fun h => sep_tree h hfe hc
  refine ⟨f, hf, hft, ?_⟩
  have hle : e ≤ f := by
    by_cases hS : e ∈ S
    · exact h2.2 e hel hS hn f hf hs
    · exact h1.1 e he hS f (hu.set.2 f hf) hc
  omega
theorem iv_sub (hb : BdP n E) (ht : IsTr n E t) (hu : IsTr n E u) (h1 : InIv E S t) (h2 : InIv E S u) : ∀ (k e : Nat), E.length - e ≤ k → ¬ ((e ∈ t ∧ e ∉ u) ∨ (e ∈ u ∧ e ∉ t)) := by
  intro k
  induction k with
  | zero =>
    rintro e hk (⟨h3, _⟩ | ⟨h3, _⟩)
    · have := ht.set.2 e h3; omega
    · have := hu.set.2 e h3; omega
  | succ k ih =>
    rintro e hk (⟨h3, h4⟩ | ⟨h3, h4⟩)
    · obtain ⟨f, hf, hft, hlt⟩ := iv_up hb ht hu h1 h2 h3 h4
      have := ht.set.2 e h3
      exact ih f (by omega) (.inr ⟨hf, hft⟩)
    · obtain ⟨f, hf, hft, hlt⟩ := iv_up hb hu ht h2 h1 h3 h4
      have := hu.set.2 e h3
      exact ih f (by omega) (.inl ⟨hf, hft⟩)
/-- No set is in the intervals of two trees. -/
theorem iv_uni (hb : BdP n E) (ht : IsTr n E t) (hu : IsTr n E u) (h1 : InIv E S t) (h2 : InIv E S u) : t = u := by
  have h := fun e => iv_sub hb ht hu h1 h2 (E.length - e) e (Nat.le_refl _)
  refine setN_ext ht.set hu.set fun x => ⟨fun hx => ?_, fun hx => ?_⟩
  · exact Classical.byContradiction fun hn => h x (.inl ⟨hx, hn⟩)
  · exact Classical.byContradiction fun hn => h x (.inr ⟨hx, hn⟩)
/-- A swap along a cycle gives a tree. -/
theorem swap_tr (hb : BdP n E) (ht : IsTr n E t) (hf : f ∈ t) (he : e < E.length) (hn : e ∉ t) (hs : Sep E t (E.getD e (0, 0)).1 (E.getD e (0, 0)).2 f) : IsTr n E (ascN E.length (e :: lessL t f)) ∧ (ascN E.length (e :: lessL t f)).Perm (e :: lessL t f) := by
  have hnl : e ∉ lessL t f := fun h => hn (mem_less.1 h).1
  have h1 := ((ht.foe hb).less f).add he hnl hs
  have hp := asc_perm h1.nodup h1.lt
  refine ⟨⟨asc_set _ _, ?_, (h1.perm hp.symm).fo⟩, hp⟩
  rw [hp.length_eq, List.length_cons, less_length (ht.set.nodup) hf]
  exact ht.len
/-- The weight of a single edge: those of the set first, the last one before the others; then the rest, in order. -/
def wgt (m : Nat) (S : List Nat) (e : Nat) : Nat := if e ∈ S then m - e else m + 1 + e
theorem best_tr (W : List Nat → Nat) (h : ∃ t, IsTr n E t) : ∃ t, IsTr n E t ∧ ∀ u, IsTr n E u → W t ≤ W u := by
  obtain ⟨t0, h0⟩ := h
  have key : ∀ (k : Nat) (t : List Nat), IsTr n E t → W t ≤ k → ∃ t, IsTr n E t ∧ ∀ u, IsTr n E u → W t ≤ W u := by
    intro k
    induction k with
    | zero => exact fun t ht hk => ⟨t, ht, fun u _ => by omega⟩
    | succ k ih =>
      intro t ht hk
      by_cases hx : ∃ u, IsTr n E u ∧ W u < W t
      · obtain ⟨u, hu, hlt⟩ := hx
        exact ih u hu (by omega)
      · exact ⟨t, ht, fun u hu => Classical.byContradiction fun hc => hx ⟨u, hu, by omega⟩⟩
  exact key _ t0 h0 (Nat.le_refl _)
/-- Each set is in the interval of a tree. -/
theorem iv_ex (hb : BdP n E) (hx : ∃ t, IsTr n E t) (S : List Nat) : ∃ t, IsTr n E t ∧ InIv E S t := by
  obtain ⟨t, ht, hmin⟩ := best_tr (fun t => (t.map (wgt E.length S)).sum) hx
  have hT := ht.foe hb
  have hsw : ∀ f e, f ∈ t → e < E.length → e ∉ t → Sep E t (E.getD e (0, 0)).1 (E.getD e (0, 0)).2 f → wgt E.length S f ≤ wgt E.length S e := by
    intro f e hf he hn hs
    obtain ⟨h1, h2⟩ := swap_tr hb ht hf he hn hs
    have h3 := hmin _ h1
    have h4 := (h2.map (wgt E.length S)).sum_nat
    have h5 := ((less_perm ht.set.nodup hf).map (wgt E.length S)).sum_nat
    rw [List.map_cons, List.sum_cons] at h4 h5
    omega
  refine ⟨t, ht, fun f hf hfS i hi hs => ?_, fun e he heS hn f hf hs => ?_⟩
  · by_cases hit : i ∈ t
    · by_cases hif : i = f
      · omega
      · exact absurd hs (sep_tree hit hif)
    · have h1 := hsw f i hf hi hit hs
      unfold wgt at h1
      rw [if_neg hfS] at h1
      by_cases hiS : i ∈ S
      · rw [if_pos hiS] at h1; omega
      · rw [if_neg hiS] at h1; omega
  · have h1 := hsw f e hf he hn hs
    have h2 := ht.set.2 f hf
    unfold wgt at h1
    rw [if_pos heS] at h1
    by_cases hfS : f ∈ S
    · rw [if_pos hfS] at h1; omega
    · rw [if_neg hfS] at h1; omega

/-! Counting. -/
/-- All sets of numbers below m. -/
def subsN : Nat → List (List Nat)
  | 0 => [[]]
  | m + 1 => subsN m ++ (subsN m).map fun s => s ++ [m]
theorem subsN_lt : ∀ m, ∀ s ∈ subsN m, ∀ x ∈ s, x < m
  | 0, s, hs, x, hx => by rw [subsN, List.mem_singleton] at hs; subst hs; cases hx
  | m + 1, s, hs, x, hx => by
    rw [subsN, List.mem_append, List.mem_map] at hs
    rcases hs with hs | ⟨s', hs, rfl⟩
    · have := subsN_lt m s hs x hx; omega
    · rcases List.mem_append.1 hx with hx | hx
      · have := subsN_lt m s' hs x hx; omega
      · rw [List.mem_singleton] at hx; omega
/-- The single edges that a set in the interval may have or not; the others are forced. -/
def ivC (E : List (Nat × Nat)) (t : List Nat) (e : Nat) (b : Bool) : Bool := if b then decide (e ∈ t) || decide (EAct E t e) else !decide (e ∈ t) || decide (IAct E t e)
/-- How many of both truths a test lets by. -/
def ways (c : Nat → Bool → Bool) (e : Nat) : Nat := (if c e true = true then 1 else 0) + if c e false = true then 1 else 0
def prodN (f : Nat → Nat) : Nat → Nat
  | 0 => 1
  | m + 1 => prodN f m * f m
theorem iv_iff (ht : ∀ f ∈ t, f < E.length) : InIv E S t ↔ ((List.range E.length).all fun e => ivC E t e (decide (e ∈ S))) = true := by
  rw [List.all_eq_true]
  constructor
  · intro h e he
    have hel := List.mem_range.1 he
    unfold ivC
    by_cases hS : e ∈ S
    · rw [decide_eq_true hS, if_pos rfl]
      by_cases het : e ∈ t
      · simp [het]
      · simp [het, h.2 e hel hS het]
    · rw [decide_eq_false hS, if_neg (by simp)]
      by_cases het : e ∈ t
      · simp [het, h.1 e het hS]
      · simp [het]
  · intro h
    refine ⟨fun f hf hfS => ?_, fun e he heS het => ?_⟩
    · have := h f (List.mem_range.2 (ht f hf))
      unfold ivC at this
      rw [decide_eq_false hfS, if_neg (by simp)] at this
      simpa [hf] using this
    · have := h e (List.mem_range.2 he)
      unfold ivC at this
      rw [decide_eq_true heS, if_pos rfl] at this
      simpa [het] using this
/-- The active single edges inside, and those outside. -/
def insA (E : List (Nat × Nat)) (t : List Nat) : List Nat := t.filter fun f => decide (IAct E t f)
def outA (E : List (Nat × Nat)) (t : List Nat) : List Nat := (List.range E.length).filter fun e => !decide (e ∈ t) && decide (EAct E t e)
theorem ins_range (ht : SetN E.length t) : (insA E t).length = ((List.range E.length).filter fun e => decide (e ∈ t) && decide (IAct E t e)).length := by
  refine (List.Perm.length_eq (perm_of_mem (ht.nodup.sublist List.filter_sublist) (List.nodup_range.sublist List.filter_sublist) fun x => ?_))
  unfold insA
  rw [List.mem_filter, List.mem_filter, List.mem_range]
  simp only [decide_eq_true_eq, Bool.and_eq_true]
  exact ⟨fun h => ⟨ht.2 x h.1, h⟩, fun h => h.2⟩
end
end Go.Proofs.YtnbikkcalcpedaaGreatDoor

/-! ref13.Ordered: lists sorted by insertion. -/
namespace Go.Proofs.YtnbikkcalcpedaaGreatDoor
open Go.RowKit

end Go.Proofs.YtnbikkcalcpedaaGreatDoor

/-! append of one element, told by its two ways: in place, or in a new block, where the old one stays as it is. -/
namespace Go.Proofs.YtnbikkcalcpedaaGreatDoor
open Go.RowKit

theorem run_push_fork {P : Program} (w : World) (base : Nat) (t ty e : TypeId) {z : Value} {bytes : Nat} (ht : P.underlying t = some (.slice e)) (hinfo : (P.info? e).map (fun i => (i.zero, i.size, i.bytes)) = some (some z, 1, bytes)) (hzs : z.cells.size = 1) (hby : bytes ≤ 64)
    (A0 : Option Addr) (c0 n : Nat) (xs : List Value) (hown : w.ownsRow base e 1 (.slice A0 n c0) n xs)
    (a : Addr) (cc : Nat) (y : Value) (hy : w.cell? a = some y) (h1 : y.oneCell' = true) (hn : n + 1 ≤ 1048576) (hbase : base ≤ w.heap.size) :
    ∃ A' c' w', (Builtin.append_ #[t, t] ty #[.slice A0 n c0, .slice (some a) 1 cc]).run P w = .ok (.slice A' (n + 1) c') w' ∧ w'.ownsRow base e 1 (.slice A' (n + 1) c') (n + 1) (xs ++ [y]) ∧ w.grownBy w' (Value.slice A0 n c0).ownBlock ∧ Below base w w' ∧
      ((A' = A0 ∧ c' = c0 ∧ n + 1 ≤ c0) ∨ ((Value.slice A' (n + 1) c').ownBlock = some w.heap.size ∧ Below w.heap.size w w')) := by
  obtain ⟨i, hi, hz, hz1, hz2⟩ := info_parts hinfo
  have hnews : ∀ j u, [y][j]? = some u → w.cell? (a.add j) = some u := by
    intro j u hu
    rcases Nat.eq_zero_or_pos j with rfl | hj
    · rw [← show y = u by simpa using hu]; simpa [Addr.add] using hy
    · rw [List.getElem?_eq_none (by simp; omega)] at hu; cases hu
  have h1s : ∀ u ∈ [y], u.oneCell' = true := by simpa using h1
  have hlen : (xs ++ [y]).length = (n + 1) * i.size := by rw [List.length_append, hown.1, hz1]; simp
  have hsmall : n + 1 ≤ maxLen := by simp only [maxLen]; omega
  have hB : ∀ (w' : World), w.grownBy w' (Value.slice A0 n c0).ownBlock → Below base w w' := fun w' h3 => (Below.refl base w).grown h3 hbase (fun k hk => (hown.lt k hk).1)
  have grown : ∀ (old : Nat), old < n + 1 → ∀ (row : Option Nat),
      (w.drew.alloc (.cells (xs.toArray ++ [y].toArray ++ Builtin.zeroCells z.cells (grownCap w (n + 1) old e - (n + 1))) e)).ownsRow base e 1
        (.slice (some ⟨w.heap.size, 0, none⟩) (n + 1) (grownCap w (n + 1) old e)) (n + 1) (xs ++ [y]) ∧
      w.grownBy (w.drew.alloc (.cells (xs.toArray ++ [y].toArray ++ Builtin.zeroCells z.cells (grownCap w (n + 1) old e - (n + 1))) e)) row := by
    intro old ho row
    have hge := grownCap_ge w (n + 1) old e
    have hcm : grownCap w (n + 1) old e ≤ maxLen := grownCap_le_maxLen w (n + 1) old e hsmall
    refine ⟨⟨by rw [hlen, hz1], .inr ⟨w.heap.size, _, _, rfl, hbase, heap_alloc_new w.drew _, hge, hcm, ?_, ?_⟩⟩, ⟨rfl, rfl, rfl, by simp, fun k hk _ => heap_alloc_old w.drew _ hk⟩⟩
    · simp only [Array.size_append, List.size_toArray, size_zeroCells, hzs, hown.1, List.length_singleton]
      omega
    · simp only [Array.toList_append, List.append_assoc]
      rw [← List.append_assoc, show (n + 1) * 1 = (xs ++ [y]).length from by rw [hlen, hz1]]
      exact List.take_left
  have far : ∀ o, Below w.heap.size w (w.drew.alloc o) := fun o => ((Below.refl w.heap.size w).drew).alloc (Nat.le_refl _) o
  rcases hown.2 with ⟨hv, h0⟩ | ⟨g, cap, cur, hv, hbg, hg, hnc, hcm, hcs, htake⟩
  · injection hv with e1 e2 e3
    subst e1; subst e3; subst h0
    have hx : xs = [] := List.eq_nil_of_length_eq_zero (by simpa using hown.1)
    subst hx
    have hr := Go.run_append_nil (P := P) w t ty e i z ht hi hz a 1 cc [y] (by simp [hz1]) hnews (by omega) (by omega) (by rw [hz2]; omega)
    have hgr := grown 0 (by omega) (Value.ownBlock (.slice none 0 0))
    simp only [Nat.zero_add, List.nil_append, Array.empty_append] at hgr hr ⊢
    exact ⟨_, _, _, hr, hgr.1, hgr.2, hB _ hgr.2, .inr ⟨rfl, far _⟩⟩
  · injection hv with e1 e2 e3
    subst e1; subst e3
    by_cases hroom : n + 1 ≤ c0
    · obtain ⟨w', hr, h2, h3⟩ := run_append_own_spare (P := P) w base t ty e i 1 ht hi hz1 g n c0 xs hown a 1 cc [y] rfl hnews h1s hroom
      exact ⟨_, _, _, hr, h2, h3, hB _ h3, .inl ⟨rfl, rfl, hroom⟩⟩
    · have holds : ∀ j u, xs[j]? = some u → w.cell? ((⟨g, 0, none⟩ : Addr).add j) = some u := hown.cells (g := g) rfl
      have hr := run_append_grow (P := P) w t ty e i z ht hi hz ⟨g, 0, none⟩ n c0 xs (by rw [hown.1, hz1]) holds a 1 cc [y] (by simp [hz1]) hnews (by omega) (by simp only [maxLen] at hsmall; omega) (growslice_fits (by omega) (by rw [hz2]; exact Nat.le_trans (Nat.mul_le_mul hn hby) (by omega)))
      have hgr := grown c0 (by omega) (Value.ownBlock (.slice (some ⟨g, 0, none⟩) n c0))
      exact ⟨_, _, _, hr, hgr.1, hgr.2, hB _ hgr.2, .inr ⟨rfl, far _⟩⟩

/-- The same as a step of a region. -/
theorem push_fork_step {ops : Array Oper} {o : Oper} {a : Act} {K : Act → World → Prop} {Q : Exit → Act → World → Prop} {E : Prop} {w : World} (s x : Operand) (t : TypeId)
    (hw : Region.wanted o (yielded ops a.tmps) = true)
    (ho : o.op = .call { callee := .builtin .append, args := #[s, x], argTypes := #[t, t] }) (ht : Tryz.prog.underlying t = some (.slice 3))
    (base : Nat) (A : Option Addr) (c n : Nat) (xs : List Int) (hxn : xs.length = n) (y : Int) (hs : a.eval s = .slice A n c) (hown : OwnI w base A c xs)
    (ad : Addr) (hx : a.eval x = .slice (some ad) 1 1) (hy : w.cell? ad = some (.int .i64 y)) (hn : n ≤ 1048000) (hbase : base ≤ w.heap.size)
    (h : ∀ A' c' w', OwnI w' base A' c' (xs ++ [y]) → w.grownBy w' (Value.slice A n c).ownBlock → Below base w w' →
      ((A' = A ∧ c' = c) ∨ ((∀ k, blockOf A' k → k = w.heap.size) ∧ Below w.heap.size w w')) → K (a.put o.dst (.slice A' (n + 1) c')) w') :
    if Region.wanted o (yielded ops a.tmps) = true then Oper.wp Tryz.prog o a w K Q else E := by
  rw [if_pos hw]
  subst hxn
  obtain ⟨A', c', w', hrun, h2, h3, h4, h5⟩ := run_push_fork (P := Tryz.prog) w base t o.type 3 ht info_int rfl (by omega) A c xs.length (ints xs) hown ad 1 (.int .i64 y) hy rfl (by omega) hbase
  have g1 : OwnI w' base A' c' (xs ++ [y]) := by unfold OwnI; rw [List.length_append, ints_snoc]; exact h2
  have g5 : (A' = A ∧ c' = c) ∨ ((∀ k, blockOf A' k → k = w.heap.size) ∧ Below w.heap.size w w') := by
    rcases h5 with ⟨e1, e2, _⟩ | ⟨e1, e2⟩
    · exact .inl ⟨e1, e2⟩
    · refine .inr ⟨fun k hk => ?_, e2⟩
      have hb := (blockOf_own (A := A') (n := xs.length + 1) (c := c') (k := k)).2 hk
      exact Option.some.inj (hb.symm.trans e1)
  have g := h A' c' w' g1 h3 h4 g5
  clear g1 g5 h h2 h3 h4 h5
  unfold Oper.wp execOp
  simp only [ho, resolve, invoke, builtin, Sem.run_bind, Sem.run_pure, Result.andThen_ok, List.map_toArray, List.map_cons, List.map_nil, hs, hx, hrun]
  exact g
end Go.Proofs.YtnbikkcalcpedaaGreatDoor

/-! container/heap: Push and Pop over treebijection.queue. -/
namespace Go.Proofs.YtnbikkcalcpedaaGreatDoor
open Go.RowKit

theorem UpI.push {H : List Int} {x : Int} {n : Nat} (hl : H.length = n) (h : HeapN H n) : UpI (H ++ [x]) (n + 1) n := by subst hl; exact UpI.start h

end Go.Proofs.YtnbikkcalcpedaaGreatDoor

/-! The fire and its waiting heap together, plain laws. No program is in sight. -/
namespace Go.Proofs.YtnbikkcalcpedaaGreatDoor
/-- What holds while the fire burns. -/
structure BurnI (E : List (Nat × Nat)) (lit : Nat → Nat → Int → Bool) (n q : Nat) (s : FireS) (H : List Int) : Prop where
  wait : ∃ L, H.Perm (nI L) ∧ Wait E s L
  heap : HeapN H H.length
  run : ∃ k, k ≤ E.length ∧ s = runF E lit k (fire1 n q)
  nodup : s.order.Nodup
  lt : ∀ v ∈ s.order, v < n

section
variable {E : List (Nat × Nat)} {lit : Nat → Nat → Int → Bool} {n q e v : Nat} {s : FireS} {H H6 : List Int} {L : List Nat}
theorem BurnI.fi (h : BurnI E lit n q s H) (hb : BdP n E) (hq : q < n) : FI E n q s := by
  obtain ⟨k, _, rfl⟩ := h.run
  exact run_inv (fun _ _ h hn => h.one hb hn) _ _ (.start hq)
/-- The least one that waits is next. -/
theorem BurnI.next (hw : Wait E s L) (hp : H.Perm (nI L)) (he : e ∈ L) (hm : ∀ y ∈ H, (e : Int) ≤ y) (hc : candB E s e = true) : nextF E s = some e := by
  rcases hw.least he (fun f hf => by have := hm f (hp.mem_iff.2 (List.mem_map.2 ⟨f, hf, rfl⟩)); omega) with ⟨_, _, h⟩ | h
  · rw [h] at hc; cases hc
  · exact h
theorem BurnI.run1 (h : BurnI E lit n q s H) (hb : BdP n E) (hq : q < n) (hn : nextF E s = some e) : ∃ k, k ≤ E.length ∧ burnOne lit s e (leadV E s e) = runF E lit k (fire1 n q) := by
  obtain ⟨k, hk, rfl⟩ := h.run
  refine ⟨k + 1, ?_, by rw [runF_succ, run_next hn]⟩
  rcases Nat.lt_or_ge k E.length with h1 | h1
  · exact h1
  · obtain rfl : k = E.length := by omega
    rw [(FI.run (lit := lit) hb hq).2] at hn; cases hn
theorem BurnI.one (h : BurnI E lit n q s H) (hb : BdP n E) (hq : q < n) (hn : nextF E s = some e) (hw : ∃ L, H6.Perm (nI L) ∧ Wait E (burnOne lit s e (leadV E s e)) L) (hh : HeapN H6 H6.length) : BurnI E lit n q (burnOne lit s e (leadV E s e)) H6 := by
  have hf := (h.fi hb hq).one (lit := lit) hb hn
  exact ⟨hw, hh, h.run1 hb hq hn, hf.ond, hf.olt⟩
/-- Nothing waits: all has burnt. -/
theorem BurnI.done (h : BurnI E lit n q s []) : runF E lit E.length (fire1 n q) = s := by
  obtain ⟨L, hp, hw⟩ := h.wait
  have hL : L = [] := by
    have := hp.length_eq
    rw [nI, List.length_map] at this
    exact List.eq_nil_of_length_eq_zero this.symm
  subst hL
  obtain ⟨k, hk, hs⟩ := h.run
  exact run_all hs hk hw.end_
end
end Go.Proofs.YtnbikkcalcpedaaGreatDoor

/-! The error of a graph, as the reference finds it: ref08.Check. -/
namespace Go.Proofs.YtnbikkcalcpedaaGreatDoor
open Go.RowKit

set_option maxHeartbeats 400000 in
theorem rvertex_any (n v : Int) (A : Option Addr) (k c : Nat) (w : World) :
    Calls Tryz.prog 151 #[.agg #[.int .i64 n, .slice A k c], .int .i64 v] w fun e w' => e = .returned (.bool (vertB n v)) ∧ w.alloc (.cells #[.int .i64 n, .slice A k c] 24) = w' := by
  go_enter Tryz.func151, Tryz.ntmps151
  go_wp2
  all_goals (go_ret; exact ⟨by simp only [vertB]; simp [*]; try omega, rfl⟩)

/-- The cases of an edge's error, as the reference asks. -/
theorem redge_cases (n : Int) (p : Option E3) (e : E3) :
    (vertB n e.1 = false ∧ edgeErr n p e = 2) ∨ (vertB n e.1 = true ∧ vertB n e.2.1 = false ∧ edgeErr n p e = 2) ∨
    (vertB n e.1 = true ∧ vertB n e.2.1 = true ∧ e.2.2 < 1 ∧ edgeErr n p e = 2) ∨ (vertB n e.1 = true ∧ vertB n e.2.1 = true ∧ 50 < e.2.2 ∧ ¬ e.2.2 < 1 ∧ edgeErr n p e = 2) ∨
    (vertB n e.1 = true ∧ vertB n e.2.1 = true ∧ ¬ e.2.2 < 1 ∧ ¬ 50 < e.2.2 ∧ e.2.1 < e.1 ∧ edgeErr n p e = 9) ∨
    (vertB n e.1 = true ∧ vertB n e.2.1 = true ∧ ¬ e.2.2 < 1 ∧ ¬ 50 < e.2.2 ∧ ¬ e.2.1 < e.1 ∧ edgeErr n p e = match p with | none => 0 | some y => if e.1 < y.1 ∨ (e.1 = y.1 ∧ e.2.1 ≤ y.2.1) then 9 else 0) := by
  have v1 := vertB_true (n := n) (v := e.1)
  have v2 := vertB_true (n := n) (v := e.2.1)
  cases g1 : vertB n e.1
  · refine .inl ⟨rfl, ?_⟩
    rw [vertB_false] at g1
    unfold edgeErr; rw [if_pos (by omega)]
  rw [g1] at v1
  have v1 := v1.1 rfl
  cases g2 : vertB n e.2.1
  · refine .inr (.inl ⟨rfl, rfl, ?_⟩)
    rw [vertB_false] at g2
    unfold edgeErr; rw [if_pos (by omega)]
  rw [g2] at v2
  have v2 := v2.1 rfl
  by_cases h1 : e.2.2 < 1
  · refine .inr (.inr (.inl ⟨rfl, rfl, h1, ?_⟩))
    unfold edgeErr; rw [if_pos (by omega)]
  by_cases h2 : 50 < e.2.2
  · refine .inr (.inr (.inr (.inl ⟨rfl, rfl, h2, h1, ?_⟩)))
    unfold edgeErr; rw [if_pos (by omega)]
  by_cases h4 : e.2.1 < e.1
  · refine .inr (.inr (.inr (.inr (.inl ⟨rfl, rfl, h1, h2, h4, ?_⟩))))
    unfold edgeErr; rw [if_neg (by omega), if_pos h4]
  · refine .inr (.inr (.inr (.inr (.inr ⟨rfl, rfl, h1, h2, h4, ?_⟩))))
    unfold edgeErr; rw [if_neg (by omega), if_neg h4]; cases p <;> rfl

set_option maxRecDepth 100000 in
set_option maxHeartbeats 4000000 in
/-- ref08.edge -/
theorem redge_any (n : Int) (A : Option Addr) (c : Nat) (es : List E3) (hn : es.length ≤ 1048576) (k : Nat) (e : E3) (hx : es[k]? = some e) (w : World) (h : Reads w w.heap.size 3 A es.length (edgeCells es)) :
    Calls Tryz.prog 162 #[.agg #[.int .i64 n, .slice A es.length c], .int .i64 k] w fun e' w' => e' = .returned (.int .i64 (edgeErr n (prevOf es k) e)) ∧ Below w.heap.size w w' := by
  have hcs := redge_cases n (prevOf es k) e
  have hlt := (List.getElem?_eq_some_iff.1 hx).1
  obtain ⟨r, hr⟩ : ∃ r, edgeErr n (prevOf es k) e = r := ⟨_, rfl⟩
  rw [hr] at hcs ⊢
  have HR := Lib.hid hr
  clear hr
  obtain ⟨a, b, m⟩ := e
  obtain ⟨bb, off, rfl, hb, q1, q2, q3⟩ := h.edge hx
  have HX := Lib.hid hx
  have H := Lib.hid h
  have hi : (k : Int) < (es.length : Int) := by omega
  dsimp only at hcs q1 q2 q3
  clear hx h
  rcases hcs with ⟨v1, rfl⟩ | ⟨v1, v2, rfl⟩ | ⟨v1, v2, h3, rfl⟩ | ⟨v1, v2, h3, h4, rfl⟩ | ⟨v1, v2, h3, h4, h5, rfl⟩ | ⟨v1, v2, h3, h4, h5, hE⟩
  · go_enter Tryz.func162, Tryz.ntmps162
    go_wp2_with (go_at_call 151; refine (rvertex_any _ _ _ _ _ _).mono ?_; rintro e w' ⟨rfl, rfl⟩)
    go_ret
    refine ⟨rfl, ?_⟩
    repeat first | exact Below.refl _ _ | refine Below.alloc ?_ (by first | exact Nat.le_refl _ | (simp; done) | (simp; omega)) _
  · go_enter Tryz.func162, Tryz.ntmps162
    go_wp2_with (go_at_call 151; refine (rvertex_any _ _ _ _ _ _).mono ?_; rintro e w' ⟨rfl, rfl⟩)
    go_ret
    refine ⟨rfl, ?_⟩
    repeat first | exact Below.refl _ _ | refine Below.alloc ?_ (by first | exact Nat.le_refl _ | (simp; done) | (simp; omega)) _
  · go_enter Tryz.func162, Tryz.ntmps162
    go_wp2_with (go_at_call 151; refine (rvertex_any _ _ _ _ _ _).mono ?_; rintro e w' ⟨rfl, rfl⟩)
    go_ret
    refine ⟨rfl, ?_⟩
    repeat first | exact Below.refl _ _ | refine Below.alloc ?_ (by first | exact Nat.le_refl _ | (simp; done) | (simp; omega)) _
  · go_enter Tryz.func162, Tryz.ntmps162
    go_wp2_with (go_at_call 151; refine (rvertex_any _ _ _ _ _ _).mono ?_; rintro e w' ⟨rfl, rfl⟩)
    go_ret
    refine ⟨rfl, ?_⟩
    repeat first | exact Below.refl _ _ | refine Below.alloc ?_ (by first | exact Nat.le_refl _ | (simp; done) | (simp; omega)) _
  · go_enter Tryz.func162, Tryz.ntmps162
    go_wp2_with (go_at_call 151; refine (rvertex_any _ _ _ _ _ _).mono ?_; rintro e w' ⟨rfl, rfl⟩)
    go_ret
    refine ⟨rfl, ?_⟩
    repeat first | exact Below.refl _ _ | refine Below.alloc ?_ (by first | exact Nat.le_refl _ | (simp; done) | (simp; omega)) _
  · rcases k with _ | k
    · have hE' : r = 0 := by rw [hE]; simp [prevOf]
      subst hE'
      clear hE
      rw [show ((0 : Nat) : Int) = 0 from rfl] at hi ⊢
      simp only [Nat.zero_mul, Nat.add_zero] at q1 q2 q3
      go_enter Tryz.func162, Tryz.ntmps162
      go_wp2_with (go_at_call 151; refine (rvertex_any _ _ _ _ _ _).mono ?_; rintro e w' ⟨rfl, rfl⟩)
      go_ret
      refine ⟨rfl, ?_⟩
      repeat first | exact Below.refl _ _ | refine Below.alloc ?_ (by first | exact Nat.le_refl _ | (simp; done) | (simp; omega)) _
    · obtain ⟨⟨a1, b1, m1⟩, hy⟩ := get_of_lt (xs := es) (k := k) (by omega)
      obtain ⟨bb', off', hA', hb', p1, p2, p3⟩ := H.out.edge hy
      injection hA' with hA'; injection hA' with e1 e2; subst e1 e2
      have hE' : r = if a < a1 ∨ (a = a1 ∧ b ≤ b1) then 9 else 0 := by rw [hE, prevOf_succ, hy]
      rw [show ((k + 1 : Nat) : Int) = (k : Int) + 1 from by omega] at hi ⊢
      have hk1 : ((k : Int) + 1 - 1) = (k : Int) := by omega
      have hk2 : 0 < (k : Int) + 1 := by omega
      have hk3 : (k : Int) < (es.length : Int) := by omega
      have h6 : (a = a1 ↔ a = a1) := Iff.rfl
      clear hE hy H h6
      dsimp only at p1 p2 p3
      have hb4 : Below w.heap.size w ((((w.alloc (.cells #[.int .i64 n, .slice (some ⟨bb, off, none⟩) es.length c] 24)).alloc (.cells #[.int .i64 a, .int .i64 b, .int .i64 m] 107)).alloc (.cells #[.int .i64 n, .slice (some ⟨bb, off, none⟩) es.length c] 24)).alloc (.cells #[.int .i64 n, .slice (some ⟨bb, off, none⟩) es.length c] 24)) :=
        ((((Below.refl _ _).alloc (Nat.le_refl _) _).alloc (by simp) _).alloc (by simp; omega) _).alloc (by simp; omega) _
      have P1 := (hb4.cell (p := ⟨bb, off + k * 3, none⟩) hb').trans p1
      have P2 := (hb4.cell (p := ⟨bb, off + k * 3 + 1, none⟩) hb').trans p2
      have P3 := (hb4.cell (p := ⟨bb, off + k * 3 + 1 + 1, none⟩) hb').trans p3
      clear hb4
      by_cases g1 : a < a1
      · rw [if_pos (.inl g1)] at hE'
        subst hE'
        have hd1 : decide (a < a1) = true := decide_eq_true g1
        go_enter Tryz.func162, Tryz.ntmps162
        go_wp2_with (go_at_call 151; refine (rvertex_any _ _ _ _ _ _).mono ?_; rintro e w' ⟨rfl, rfl⟩)
        go_ret
        refine ⟨rfl, ?_⟩
        repeat first | exact Below.refl _ _ | refine Below.alloc ?_ (by first | exact Nat.le_refl _ | (simp; done) | (simp; omega)) _
      · have hd1 : decide (a < a1) = false := decide_eq_false g1
        by_cases g2 : a = a1
        · subst g2
          have hd2 : (a == a) = true := by simp
          by_cases g3 : b ≤ b1
          · rw [if_pos (.inr ⟨rfl, g3⟩)] at hE'
            subst hE'
            have hd3 : decide (b ≤ b1) = true := decide_eq_true g3
            go_enter Tryz.func162, Tryz.ntmps162
            go_wp2_with (go_at_call 151; refine (rvertex_any _ _ _ _ _ _).mono ?_; rintro e w' ⟨rfl, rfl⟩)
            go_ret
            refine ⟨rfl, ?_⟩
            repeat first | exact Below.refl _ _ | refine Below.alloc ?_ (by first | exact Nat.le_refl _ | (simp; done) | (simp; omega)) _
          · rw [if_neg (by omega)] at hE'
            subst hE'
            have hd3 : decide (b ≤ b1) = false := decide_eq_false g3
            go_enter Tryz.func162, Tryz.ntmps162
            go_wp2_with (go_at_call 151; refine (rvertex_any _ _ _ _ _ _).mono ?_; rintro e w' ⟨rfl, rfl⟩)
            go_ret
            refine ⟨rfl, ?_⟩
            repeat first | exact Below.refl _ _ | refine Below.alloc ?_ (by first | exact Nat.le_refl _ | (simp; done) | (simp; omega)) _
        · have hd2 : (a == a1) = false := by simpa using g2
          rw [if_neg (by omega)] at hE'
          subst hE'
          clear g2
          go_enter Tryz.func162, Tryz.ntmps162
          go_wp2_with (go_at_call 151; refine (rvertex_any _ _ _ _ _ _).mono ?_; rintro e w' ⟨rfl, rfl⟩)
          go_ret
          refine ⟨rfl, ?_⟩
          repeat first | exact Below.refl _ _ | refine Below.alloc ?_ (by first | exact Nat.le_refl _ | (simp; done) | (simp; omega)) _

set_option maxRecDepth 100000 in
set_option maxHeartbeats 2000000 in
/-- ref08.Check -/
theorem rgcheck_any (n : Int) (A : Option Addr) (c : Nat) (es : List E3) (hn : es.length ≤ 1048576) (w : World) (h : Reads w w.heap.size 3 A es.length (edgeCells es)) :
    Calls Tryz.prog 107 #[.agg #[.int .i64 n, .slice A es.length c]] w fun e w' => e = .returned (.int .i64 (checkG n es)) ∧ Below w.heap.size w w' := by
  by_cases h1 : n < 1
  · have hd : checkG n es = 2 := by unfold checkG; rw [if_pos (.inl h1)]
    rw [hd]
    go_enter Tryz.func107, Tryz.ntmps107
    go_wp2
    go_ret
    exact ⟨rfl, (Below.refl _ _).alloc (Nat.le_refl _) _⟩
  by_cases h2 : 12 < n
  · have hd : checkG n es = 2 := by unfold checkG; rw [if_pos (.inr h2)]
    rw [hd]
    go_enter Tryz.func107, Tryz.ntmps107
    go_wp2
    go_ret
    exact ⟨rfl, (Below.refl _ _).alloc (Nat.le_refl _) _⟩
  have hd : checkG n es = edgesErr n none es := by unfold checkG; rw [if_neg (by omega)]
  rw [hd]
  obtain ⟨r, hr⟩ : ∃ r, edgesErr n none es = r := ⟨_, rfl⟩
  rw [hr]
  have HR := Lib.hid hr
  clear hr hd
  go_enter Tryz.func107, Tryz.ntmps107
  go_wp2
  go_loopw [3] (fun i wr => ∃ k : Nat, k ≤ es.length ∧ i = .int .i64 k ∧ Below w.heap.size w wr ∧ Blk wr w.heap.size 24 #[.int .i64 n, .slice A es.length c] ∧ Hid (edgesErr n none es = edgesErr n (prevOf es k) (es.drop k))) (fun i _ => es.length - (intOf i).toNat)
  case atStart => exact ⟨0, by omega, rfl, (Below.refl _ _).alloc (Nat.le_refl _) _, Blk.new _ _ _, by simp [Hid, prevOf]⟩
  case round =>
    obtain ⟨k, hk, rfl, hbel, g1, HS⟩ := hrel
    have c0 := g1.cell 0
    have c1 := g1.cell 1
    have hsz := hbel.size
    by_cases hlt : k < es.length
    · obtain ⟨e, hx⟩ := get_of_lt hlt
      have hi : (k : Int) < (es.length : Int) := by omega
      have HE := Lib.hid (redge_any n A c es hn k e hx wr ((h.below hbel).more hsz))
      have HX := Lib.hid hx
      have HB := Lib.hid hbel
      clear hx h hbel
      by_cases h0 : edgeErr n (prevOf es k) e = 0
      · have HN := Lib.hid (edgesErr_go HX.out h0 HS.out)
        rw [h0] at HE
        clear h0
        go_wp2_with (go_at_call 162; refine (HE.out).mono ?_; rintro e' w' ⟨rfl, hb'⟩)
        go_roundw
        case rel => exact ⟨k + 1, by omega, by go_num, HB.out.trans (hb'.mono hsz), g1.next hb', HN.out⟩
        case measure => simp [intOf]; omega
      · have HN := Lib.hid (edgesErr_stop HX.out rfl h0 HS.out)
        obtain ⟨q, hq⟩ : ∃ q, edgeErr n (prevOf es k) e = q := ⟨_, rfl⟩
        rw [hq] at HE HN h0
        have hb0 : (q != 0) = true := by simpa using h0
        clear hq h0
        go_wp2_with (go_at_call 162; refine (HE.out).mono ?_; rintro e' w' ⟨rfl, hb'⟩)
        go_ret
        exact ⟨ret_int (by rw [← HR.out, HN.out]), HB.out.trans (hb'.mono hsz)⟩
    · go_wp2
      go_ret
      refine ⟨ret_int ?_, hbel⟩
      have e : edgesErr n none es = 0 := by rw [HS.out, List.drop_eq_nil_of_le (by omega)]; rfl
      rw [← HR.out, e]
end Go.Proofs.YtnbikkcalcpedaaGreatDoor

