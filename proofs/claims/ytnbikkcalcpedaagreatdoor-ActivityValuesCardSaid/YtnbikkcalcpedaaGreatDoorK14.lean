/-
  Texts of this claim, put together: CrapoP, ROrd, PushF.
-/
import Derived.Test.YtnbikkcalcpedaaGreatDoorK09
import Derived.Test.YtnbikkcalcpedaaGreatDoorK12
import Derived.Test.YtnbikkcalcpedaaGreatDoorK11
import Derived.Test.YtnbikkcalcpedaaGreatDoorK07
import Derived.Test.YtnbikkcalcpedaaGreatDoorK04
import Derived.Deep.DeepAppendRoom
/-! Activity of the single edges of trees: each set of single edges lies in the interval of just one tree. No program is in sight. -/
namespace Go.Proofs.YtnbikkcalcpedaaGreatDoor
section
variable {n : Nat} {E : List (Nat × Nat)} {t u S : List Nat} {e f : Nat}
/-- A single edge of a tree is the least one of its cutset. -/
def IAct (E : List (Nat × Nat)) (t : List Nat) (f : Nat) : Prop := ∀ i, i < E.length → Sep E t (E.getD i (0, 0)).1 (E.getD i (0, 0)).2 f → f ≤ i
/-- A single edge outside is the least one of its cycle. -/
def EAct (E : List (Nat × Nat)) (t : List Nat) (e : Nat) : Prop := ∀ f ∈ t, Sep E t (E.getD e (0, 0)).1 (E.getD e (0, 0)).2 f → e ≤ f
/-- A set is in the interval of a tree. -/
def InIv (E : List (Nat × Nat)) (S t : List Nat) : Prop := (∀ f ∈ t, f ∉ S → IAct E t f) ∧ ∀ e, e < E.length → e ∈ S → e ∉ t → EAct E t e
instance : Decidable (IAct E t f) := decidable_of_iff (∀ i ∈ List.range E.length, Sep E t (E.getD i (0, 0)).1 (E.getD i (0, 0)).2 f → f ≤ i) ⟨fun h i hi => h i (List.mem_range.2 hi), fun h i hi => h i (List.mem_range.1 hi)⟩
instance : Decidable (EAct E t e) := by unfold EAct; infer_instance
instance : Decidable (InIv E S t) := decidable_of_iff ((∀ f ∈ t, f ∉ S → IAct E t f) ∧ ∀ e ∈ List.range E.length, e ∈ S → e ∉ t → EAct E t e) ⟨fun h => ⟨h.1, fun e he => h.2 e (List.mem_range.2 he)⟩, fun h => ⟨h.1, fun e he => h.2 e (List.mem_range.1 he)⟩⟩
theorem sep_self (h : FoE n E t) (hf : f ∈ t) : Sep E t (E.getD f (0, 0)).1 (E.getD f (0, 0)).2 f := h.bridge hf
theorem sep_tree (he : e ∈ t) (hne : e ≠ f) : ¬ Sep E t (E.getD e (0, 0)).1 (E.getD e (0, 0)).2 f := fun h => h (by
  exact (inc_cn (mem_less.2 ⟨he, hne⟩) (.inl rfl)).trans (by
    have : oth (E.getD e (0, 0)) (E.getD e (0, 0)).1 = (E.getD e (0, 0)).2 := by unfold oth; rw [if_pos rfl]
    rw [this]; exact .refl))
/-- For each single edge of a tree that another tree does not have, whose intervals both have a set, the latter has a greater one that the former does not have. -/
theorem iv_up (hb : BdP n E) (ht : IsTr n E t) (hu : IsTr n E u) (h1 : InIv E S t) (h2 : InIv E S u) (he : e ∈ t) (hn : e ∉ u) : ∃ f ∈ u, f ∉ t ∧ e < f := by
  have hel := ht.set.2 e he
  obtain ⟨ha, hb2⟩ := getD_bd hb hel
  obtain ⟨f, hf, hs, hc⟩ := exch (hu.foe hb) (hu.cn hb ha hb2) ((ht.foe hb).bridge he)
  have hfe : f ≠ e := fun h => hn (h ▸ hf)
  have hft : f ∉ t := fun h => sep_tree h hfe hc
  refine ⟨f, hf, hft, ?_⟩
  have hle : e ≤ f := by
    by_cases hS : e ∈ S
    · exact h2.2 e hel hS hn f hf hs
    · exact h1.1 e he hS f (hu.set.2 f hf) hc
  omega
theorem iv_sub (hb : BdP n E) (ht : IsTr n E t) (hu : IsTr n E u) (h1 : InIv E S t) (h2 : InIv E S u) : ∀ (k e : Nat), E.length - e ≤ k → ¬ ((e ∈ t ∧ e ∉ u) ∨ (e ∈ u ∧ e ∉ t)) := by
  intro k
  induction k with
  | zero =>
    rintro e hk (⟨h3, _⟩ | ⟨h3, _⟩)
    · have := ht.set.2 e h3; omega
    · have := hu.set.2 e h3; omega
  | succ k ih =>
    rintro e hk (⟨h3, h4⟩ | ⟨h3, h4⟩)
    · obtain ⟨f, hf, hft, hlt⟩ := iv_up hb ht hu h1 h2 h3 h4
      have := ht.set.2 e h3
      exact ih f (by omega) (.inr ⟨hf, hft⟩)
    · obtain ⟨f, hf, hft, hlt⟩ := iv_up hb hu ht h2 h1 h3 h4
      have := hu.set.2 e h3
      exact ih f (by omega) (.inl ⟨hf, hft⟩)
/-- No set is in the intervals of two trees. -/
theorem iv_uni (hb : BdP n E) (ht : IsTr n E t) (hu : IsTr n E u) (h1 : InIv E S t) (h2 : InIv E S u) : t = u := by
  have h := fun e => iv_sub hb ht hu h1 h2 (E.length - e) e (Nat.le_refl _)
  refine setN_ext ht.set hu.set fun x => ⟨fun hx => ?_, fun hx => ?_⟩
  · exact Classical.byContradiction fun hn => h x (.inl ⟨hx, hn⟩)
  · exact Classical.byContradiction fun hn => h x (.inr ⟨hx, hn⟩)
/-- A swap along a cycle gives a tree. -/
theorem swap_tr (hb : BdP n E) (ht : IsTr n E t) (hf : f ∈ t) (he : e < E.length) (hn : e ∉ t) (hs : Sep E t (E.getD e (0, 0)).1 (E.getD e (0, 0)).2 f) : IsTr n E (ascN E.length (e :: lessL t f)) ∧ (ascN E.length (e :: lessL t f)).Perm (e :: lessL t f) := by
  have hnl : e ∉ lessL t f := fun h => hn (mem_less.1 h).1
  have h1 := ((ht.foe hb).less f).add he hnl hs
  have hp := asc_perm h1.nodup h1.lt
  refine ⟨⟨asc_set _ _, ?_, (h1.perm hp.symm).fo⟩, hp⟩
  rw [hp.length_eq, List.length_cons, less_length (ht.set.nodup) hf]
  exact ht.len
/-- The weight of a single edge: those of the set first, the last one before the others; then the rest, in order. -/
def wgt (m : Nat) (S : List Nat) (e : Nat) : Nat := if e ∈ S then m - e else m + 1 + e
theorem best_tr (W : List Nat → Nat) (h : ∃ t, IsTr n E t) : ∃ t, IsTr n E t ∧ ∀ u, IsTr n E u → W t ≤ W u := by
  obtain ⟨t0, h0⟩ := h
  have key : ∀ (k : Nat) (t : List Nat), IsTr n E t → W t ≤ k → ∃ t, IsTr n E t ∧ ∀ u, IsTr n E u → W t ≤ W u := by
    intro k
    induction k with
    | zero => exact fun t ht hk => ⟨t, ht, fun u _ => by omega⟩
    | succ k ih =>
      intro t ht hk
      by_cases hx : ∃ u, IsTr n E u ∧ W u < W t
      · obtain ⟨u, hu, hlt⟩ := hx
        exact ih u hu (by omega)
      · exact ⟨t, ht, fun u hu => Classical.byContradiction fun hc => hx ⟨u, hu, by omega⟩⟩
  exact key _ t0 h0 (Nat.le_refl _)
/-- Each set is in the interval of a tree. -/
theorem iv_ex (hb : BdP n E) (hx : ∃ t, IsTr n E t) (S : List Nat) : ∃ t, IsTr n E t ∧ InIv E S t := by
  obtain ⟨t, ht, hmin⟩ := best_tr (fun t => (t.map (wgt E.length S)).sum) hx
  have hT := ht.foe hb
  have hsw : ∀ f e, f ∈ t → e < E.length → e ∉ t → Sep E t (E.getD e (0, 0)).1 (E.getD e (0, 0)).2 f → wgt E.length S f ≤ wgt E.length S e := by
    intro f e hf he hn hs
    obtain ⟨h1, h2⟩ := swap_tr hb ht hf he hn hs
    have h3 := hmin _ h1
    have h4 := (h2.map (wgt E.length S)).sum_nat
    have h5 := ((less_perm ht.set.nodup hf).map (wgt E.length S)).sum_nat
    rw [List.map_cons, List.sum_cons] at h4 h5
    omega
  refine ⟨t, ht, fun f hf hfS i hi hs => ?_, fun e he heS hn f hf hs => ?_⟩
  · by_cases hit : i ∈ t
    · by_cases hif : i = f
      · omega
      · exact absurd hs (sep_tree hit hif)
    · have h1 := hsw f i hf hi hit hs
      unfold wgt at h1
      rw [if_neg hfS] at h1
      by_cases hiS : i ∈ S
      · rw [if_pos hiS] at h1; omega
      · rw [if_neg hiS] at h1; omega
  · have h1 := hsw f e hf he hn hs
    have h2 := ht.set.2 f hf
    unfold wgt at h1
    rw [if_pos heS] at h1
    by_cases hfS : f ∈ S
    · rw [if_pos hfS] at h1; omega
    · rw [if_neg hfS] at h1; omega

/-! Counting. -/
/-- All sets of numbers below m. -/
def subsN : Nat → List (List Nat)
  | 0 => [[]]
  | m + 1 => subsN m ++ (subsN m).map fun s => s ++ [m]
theorem subsN_length : ∀ m, (subsN m).length = 2 ^ m
  | 0 => rfl
  | m + 1 => by rw [subsN, List.length_append, List.length_map, subsN_length m, Nat.pow_succ]; omega
theorem subsN_lt : ∀ m, ∀ s ∈ subsN m, ∀ x ∈ s, x < m
  | 0, s, hs, x, hx => by rw [subsN, List.mem_singleton] at hs; subst hs; cases hx
  | m + 1, s, hs, x, hx => by
    rw [subsN, List.mem_append, List.mem_map] at hs
    rcases hs with hs | ⟨s', hs, rfl⟩
    · have := subsN_lt m s hs x hx; omega
    · rcases List.mem_append.1 hx with hx | hx
      · have := subsN_lt m s' hs x hx; omega
      · rw [List.mem_singleton] at hx; omega
/-- The single edges that a set in the interval may have or not; the others are forced. -/
def ivC (E : List (Nat × Nat)) (t : List Nat) (e : Nat) (b : Bool) : Bool := if b then decide (e ∈ t) || decide (EAct E t e) else !decide (e ∈ t) || decide (IAct E t e)
/-- How many of both truths a test lets by. -/
def ways (c : Nat → Bool → Bool) (e : Nat) : Nat := (if c e true = true then 1 else 0) + if c e false = true then 1 else 0
def prodN (f : Nat → Nat) : Nat → Nat
  | 0 => 1
  | m + 1 => prodN f m * f m
theorem subs_count (c : Nat → Bool → Bool) : ∀ m, ((subsN m).filter fun s => (List.range m).all fun e => c e (decide (e ∈ s))).length = prodN (ways c) m
  | 0 => by simp [subsN, prodN]
  | m + 1 => by
    rw [subsN, List.filter_append, List.length_append, prodN, ← subs_count c m]
    have e1 : ∀ s ∈ subsN m, ((List.range (m + 1)).all fun e => c e (decide (e ∈ s))) = (((List.range m).all fun e => c e (decide (e ∈ s))) && c m false) := by
      intro s hs
      rw [List.range_succ, List.all_append]
      have : m ∉ s := fun h => by have := subsN_lt m s hs m h; omega
      simp [this]
    have e2 : ∀ s ∈ subsN m, ((List.range (m + 1)).all fun e => c e (decide (e ∈ s ++ [m]))) = (((List.range m).all fun e => c e (decide (e ∈ s))) && c m true) := by
      intro s hs
      rw [List.range_succ, List.all_append]
      congr 1
      · rw [Bool.eq_iff_iff, List.all_eq_true, List.all_eq_true]
        have : ∀ e ∈ List.range m, c e (decide (e ∈ s ++ [m])) = c e (decide (e ∈ s)) := by
          intro e he
          have := List.mem_range.1 he
          congr 1
          rw [decide_eq_decide, List.mem_append, List.mem_singleton]
          exact ⟨fun h => h.resolve_right (by omega), .inl⟩
        exact ⟨fun h e he => (this e he) ▸ h e he, fun h e he => (this e he).symm ▸ h e he⟩
      · simp
    have g1 : ((subsN m).filter fun s => (List.range (m + 1)).all fun e => c e (decide (e ∈ s))).length = ((subsN m).filter fun s => (List.range m).all fun e => c e (decide (e ∈ s))).length * if c m false = true then 1 else 0 := by
      rw [List.filter_congr e1]
      cases c m false <;> simp
    have g2 : (((subsN m).map fun s => s ++ [m]).filter fun s => (List.range (m + 1)).all fun e => c e (decide (e ∈ s))).length = ((subsN m).filter fun s => (List.range m).all fun e => c e (decide (e ∈ s))).length * if c m true = true then 1 else 0 := by
      rw [List.filter_map, List.length_map]
      have : ((fun s : List Nat => (List.range (m + 1)).all fun e => c e (decide (e ∈ s))) ∘ fun s => s ++ [m]) = fun s => (List.range (m + 1)).all fun e => c e (decide (e ∈ s ++ [m])) := rfl
      rw [this, List.filter_congr e2]
      cases c m true <;> simp
    rw [g1, g2]
    unfold ways
    rw [Nat.mul_add]
    omega
theorem count_swap {α β : Type} (R : α → β → Bool) (l : List α) (k : List β) : (l.map fun a => (k.filter (R a)).length).sum = (k.map fun b => (l.filter fun a => R a b).length).sum := by
  induction l with
  | nil =>
    simp only [List.map_nil, List.sum_nil, List.filter_nil, List.length_nil]
    induction k with
    | nil => rfl
    | cons b k ih => rw [List.map_cons, List.sum_cons, ← ih]; rfl
  | cons a l ih =>
    rw [List.map_cons, List.sum_cons, ih]
    clear ih
    induction k with
    | nil => rfl
    | cons b k ih =>
      rw [List.map_cons, List.sum_cons, List.map_cons, List.sum_cons]
      by_cases h : R a b = true
      · rw [List.filter_cons_of_pos h, List.filter_cons_of_pos (by exact h), List.length_cons, List.length_cons]; omega
      · rw [List.filter_cons_of_neg h, List.filter_cons_of_neg (by exact h)]; omega
theorem iv_iff (ht : ∀ f ∈ t, f < E.length) : InIv E S t ↔ ((List.range E.length).all fun e => ivC E t e (decide (e ∈ S))) = true := by
  rw [List.all_eq_true]
  constructor
  · intro h e he
    have hel := List.mem_range.1 he
    unfold ivC
    by_cases hS : e ∈ S
    · rw [decide_eq_true hS, if_pos rfl]
      by_cases het : e ∈ t
      · simp [het]
      · simp [het, h.2 e hel hS het]
    · rw [decide_eq_false hS, if_neg (by simp)]
      by_cases het : e ∈ t
      · simp [het, h.1 e het hS]
      · simp [het]
  · intro h
    refine ⟨fun f hf hfS => ?_, fun e he heS het => ?_⟩
    · have := h f (List.mem_range.2 (ht f hf))
      unfold ivC at this
      rw [decide_eq_false hfS, if_neg (by simp)] at this
      simpa [hf] using this
    · have := h e (List.mem_range.2 he)
      unfold ivC at this
      rw [decide_eq_true heS, if_pos rfl] at this
      simpa [het] using this
/-- The active single edges inside, and those outside. -/
def insA (E : List (Nat × Nat)) (t : List Nat) : List Nat := t.filter fun f => decide (IAct E t f)
def outA (E : List (Nat × Nat)) (t : List Nat) : List Nat := (List.range E.length).filter fun e => !decide (e ∈ t) && decide (EAct E t e)
theorem ways_iv (e : Nat) : ways (ivC E t) e = if (e ∈ t ∧ IAct E t e) ∨ (e ∉ t ∧ EAct E t e) then 2 else 1 := by
  unfold ways ivC
  by_cases het : e ∈ t
  · by_cases hi : IAct E t e <;> simp [het, hi]
  · by_cases hi : EAct E t e <;> simp [het, hi]
theorem prodN_ways (p : Nat → Bool) (f : Nat → Nat) (hf : ∀ e, f e = if p e = true then 2 else 1) : ∀ m, prodN f m = 2 ^ ((List.range m).filter p).length
  | 0 => rfl
  | m + 1 => by
    rw [prodN, prodN_ways p f hf m, List.range_succ, List.filter_append, List.length_append, hf m, Nat.pow_add]
    cases hp : p m <;> simp [hp]
theorem ins_range (ht : SetN E.length t) : (insA E t).length = ((List.range E.length).filter fun e => decide (e ∈ t) && decide (IAct E t e)).length := by
  refine (List.Perm.length_eq (perm_of_mem (ht.nodup.sublist List.filter_sublist) (List.nodup_range.sublist List.filter_sublist) fun x => ?_))
  unfold insA
  rw [List.mem_filter, List.mem_filter, List.mem_range]
  simp only [decide_eq_true_eq, Bool.and_eq_true]
  exact ⟨fun h => ⟨ht.2 x h.1, h⟩, fun h => h.2⟩
theorem filter_or (p q : Nat → Bool) (h : ∀ e, ¬ (p e = true ∧ q e = true)) (l : List Nat) : (l.filter fun e => p e || q e).length = (l.filter p).length + (l.filter q).length := by
  induction l with
  | nil => rfl
  | cons x l ih =>
    have := h x
    cases hp : p x <;> cases hq : q x <;> simp_all <;> omega
/-- How many sets the interval of a tree has. -/
theorem iv_count (ht : SetN E.length t) : ((subsN E.length).filter fun S => decide (InIv E S t)).length = 2 ^ ((insA E t).length + (outA E t).length) := by
  have h1 := subs_count (ivC E t) E.length
  have h2 : ((subsN E.length).filter fun S => decide (InIv E S t)) = (subsN E.length).filter fun s => (List.range E.length).all fun e => ivC E t e (decide (e ∈ s)) := by
    refine List.filter_congr fun S _ => ?_
    rw [Bool.eq_iff_iff, decide_eq_true_eq]
    exact iv_iff ht.2
  rw [h2, h1, prodN_ways (fun e => (decide (e ∈ t) && decide (IAct E t e)) || (!decide (e ∈ t) && decide (EAct E t e))) _ (fun e => by rw [ways_iv]; simp), filter_or, ins_range ht]
  · rfl
  · intro e ⟨h3, h4⟩
    simp at h3 h4
    exact h4.1 h3.1
theorem one_of {α : Type} [DecidableEq α] {p : α → Bool} {l : List α} (hn : l.Nodup) {a : α} (ha : a ∈ l) (hp : p a = true) (hu : ∀ b ∈ l, p b = true → b = a) : (l.filter p).length = 1 := by
  have : (l.filter p).Perm [a] := perm_of_mem (hn.sublist List.filter_sublist) (by simp) fun x => by
    rw [List.mem_filter, List.mem_singleton]
    exact ⟨fun h => hu x h.1 h.2, fun h => h ▸ ⟨ha, hp⟩⟩
  rw [this.length_eq]; rfl
/-- The intervals of all trees have all sets. -/
theorem iv_sum (hb : BdP n E) (hn : 0 < n) (hx : ∃ t, IsTr n E t) : ((treesT n E).map fun t => 2 ^ ((insA E t).length + (outA E t).length)).sum = 2 ^ E.length := by
  obtain ⟨s1, s2⟩ := treesT_spec hb hn
  have h1 : ((treesT n E).map fun t => 2 ^ ((insA E t).length + (outA E t).length)) = (treesT n E).map fun t => ((subsN E.length).filter fun S => decide (InIv E S t)).length :=
    List.map_congr_left fun t ht => (iv_count ((s1 t).1 ht).set).symm
  rw [h1, count_swap (fun t S => decide (InIv E S t)) (treesT n E) (subsN E.length)]
  have h2 : ((subsN E.length).map fun S => ((treesT n E).filter fun t => decide (InIv E S t)).length) = (subsN E.length).map fun _ => 1 := by
    refine List.map_congr_left fun S _ => ?_
    obtain ⟨t, ht, hi⟩ := iv_ex hb hx S
    exact one_of (treesT_nodup hb hn) ((s1 t).2 ht) (decide_eq_true hi) fun u hu hd => iv_uni hb ((s1 u).1 hu) ht (of_decide_eq_true hd) hi
  rw [h2]
  have : ∀ l : List (List Nat), (l.map fun _ => 1).sum = l.length := fun l => by
    induction l with
    | nil => rfl
    | cons a l ih => rw [List.map_cons, List.sum_cons, ih, List.length_cons]; omega
  rw [this, subsN_length]
end
end Go.Proofs.YtnbikkcalcpedaaGreatDoor

/-! ref13.Ordered: lists sorted by insertion. -/
namespace Go.Proofs.YtnbikkcalcpedaaGreatDoor
open Go.RowKit

end Go.Proofs.YtnbikkcalcpedaaGreatDoor

/-! append of one element, told by its two ways: in place, or in a new block, where the old one stays as it is. -/
namespace Go.Proofs.YtnbikkcalcpedaaGreatDoor
open Go.RowKit

theorem run_push_fork {P : Program} (w : World) (base : Nat) (t ty e : TypeId) {z : Value} {bytes : Nat} (ht : P.underlying t = some (.slice e)) (hinfo : (P.info? e).map (fun i => (i.zero, i.size, i.bytes)) = some (some z, 1, bytes)) (hzs : z.cells.size = 1) (hby : bytes ≤ 64)
    (A0 : Option Addr) (c0 n : Nat) (xs : List Value) (hown : w.ownsRow base e 1 (.slice A0 n c0) n xs)
    (a : Addr) (cc : Nat) (y : Value) (hy : w.cell? a = some y) (h1 : y.oneCell' = true) (hn : n + 1 ≤ 1048576) (hbase : base ≤ w.heap.size) :
    ∃ A' c' w', (Builtin.append_ #[t, t] ty #[.slice A0 n c0, .slice (some a) 1 cc]).run P w = .ok (.slice A' (n + 1) c') w' ∧ w'.ownsRow base e 1 (.slice A' (n + 1) c') (n + 1) (xs ++ [y]) ∧ w.grownBy w' (Value.slice A0 n c0).ownBlock ∧ Below base w w' ∧
      ((A' = A0 ∧ c' = c0 ∧ n + 1 ≤ c0) ∨ ((Value.slice A' (n + 1) c').ownBlock = some w.heap.size ∧ Below w.heap.size w w')) := by
  obtain ⟨i, hi, hz, hz1, hz2⟩ := info_parts hinfo
  have hnews : ∀ j u, [y][j]? = some u → w.cell? (a.add j) = some u := by
    intro j u hu
    rcases Nat.eq_zero_or_pos j with rfl | hj
    · rw [← show y = u by simpa using hu]; simpa [Addr.add] using hy
    · rw [List.getElem?_eq_none (by simp; omega)] at hu; cases hu
  have h1s : ∀ u ∈ [y], u.oneCell' = true := by simpa using h1
  have hlen : (xs ++ [y]).length = (n + 1) * i.size := by rw [List.length_append, hown.1, hz1]; simp
  have hsmall : n + 1 ≤ maxLen := by simp only [maxLen]; omega
  have hB : ∀ (w' : World), w.grownBy w' (Value.slice A0 n c0).ownBlock → Below base w w' := fun w' h3 => (Below.refl base w).grown h3 hbase (fun k hk => (hown.lt k hk).1)
  have grown : ∀ (old : Nat), old < n + 1 → ∀ (row : Option Nat),
      (w.drew.alloc (.cells (xs.toArray ++ [y].toArray ++ Builtin.zeroCells z.cells (grownCap w (n + 1) old e - (n + 1))) e)).ownsRow base e 1
        (.slice (some ⟨w.heap.size, 0, none⟩) (n + 1) (grownCap w (n + 1) old e)) (n + 1) (xs ++ [y]) ∧
      w.grownBy (w.drew.alloc (.cells (xs.toArray ++ [y].toArray ++ Builtin.zeroCells z.cells (grownCap w (n + 1) old e - (n + 1))) e)) row := by
    intro old ho row
    have hge := grownCap_ge w (n + 1) old e
    have hcm : grownCap w (n + 1) old e ≤ maxLen := grownCap_le_maxLen w (n + 1) old e hsmall
    refine ⟨⟨by rw [hlen, hz1], .inr ⟨w.heap.size, _, _, rfl, hbase, heap_alloc_new w.drew _, hge, hcm, ?_, ?_⟩⟩, ⟨rfl, rfl, rfl, by simp, fun k hk _ => heap_alloc_old w.drew _ hk⟩⟩
    · simp only [Array.size_append, List.size_toArray, size_zeroCells, hzs, hown.1, List.length_singleton]
      omega
    · simp only [Array.toList_append, List.append_assoc]
      rw [← List.append_assoc, show (n + 1) * 1 = (xs ++ [y]).length from by rw [hlen, hz1]]
      exact List.take_left
  have far : ∀ o, Below w.heap.size w (w.drew.alloc o) := fun o => ((Below.refl w.heap.size w).drew).alloc (Nat.le_refl _) o
  rcases hown.2 with ⟨hv, h0⟩ | ⟨g, cap, cur, hv, hbg, hg, hnc, hcm, hcs, htake⟩
  · injection hv with e1 e2 e3
    subst e1; subst e3; subst h0
    have hx : xs = [] := List.eq_nil_of_length_eq_zero (by simpa using hown.1)
    subst hx
    have hr := Go.run_append_nil (P := P) w t ty e i z ht hi hz a 1 cc [y] (by simp [hz1]) hnews (by omega) (by omega) (by rw [hz2]; omega)
    have hgr := grown 0 (by omega) (Value.ownBlock (.slice none 0 0))
    simp only [Nat.zero_add, List.nil_append, Array.empty_append] at hgr hr ⊢
    exact ⟨_, _, _, hr, hgr.1, hgr.2, hB _ hgr.2, .inr ⟨rfl, far _⟩⟩
  · injection hv with e1 e2 e3
    subst e1; subst e3
    by_cases hroom : n + 1 ≤ c0
    · obtain ⟨w', hr, h2, h3⟩ := run_append_own_spare (P := P) w base t ty e i 1 ht hi hz1 g n c0 xs hown a 1 cc [y] rfl hnews h1s hroom
      exact ⟨_, _, _, hr, h2, h3, hB _ h3, .inl ⟨rfl, rfl, hroom⟩⟩
    · have holds : ∀ j u, xs[j]? = some u → w.cell? ((⟨g, 0, none⟩ : Addr).add j) = some u := hown.cells (g := g) rfl
      have hr := run_append_grow (P := P) w t ty e i z ht hi hz ⟨g, 0, none⟩ n c0 xs (by rw [hown.1, hz1]) holds a 1 cc [y] (by simp [hz1]) hnews (by omega) (by simp only [maxLen] at hsmall; omega) (growslice_fits (by omega) (by rw [hz2]; exact Nat.le_trans (Nat.mul_le_mul hn hby) (by omega)))
      have hgr := grown c0 (by omega) (Value.ownBlock (.slice (some ⟨g, 0, none⟩) n c0))
      exact ⟨_, _, _, hr, hgr.1, hgr.2, hB _ hgr.2, .inr ⟨rfl, far _⟩⟩

/-- The same as a step of a region. -/
theorem push_fork_step {ops : Array Oper} {o : Oper} {a : Act} {K : Act → World → Prop} {Q : Exit → Act → World → Prop} {E : Prop} {w : World} (s x : Operand) (t : TypeId)
    (hw : Region.wanted o (yielded ops a.tmps) = true)
    (ho : o.op = .call { callee := .builtin .append, args := #[s, x], argTypes := #[t, t] }) (ht : Tryz.prog.underlying t = some (.slice 3))
    (base : Nat) (A : Option Addr) (c n : Nat) (xs : List Int) (hxn : xs.length = n) (y : Int) (hs : a.eval s = .slice A n c) (hown : OwnI w base A c xs)
    (ad : Addr) (hx : a.eval x = .slice (some ad) 1 1) (hy : w.cell? ad = some (.int .i64 y)) (hn : n ≤ 1048000) (hbase : base ≤ w.heap.size)
    (h : ∀ A' c' w', OwnI w' base A' c' (xs ++ [y]) → w.grownBy w' (Value.slice A n c).ownBlock → Below base w w' →
      ((A' = A ∧ c' = c) ∨ ((∀ k, blockOf A' k → k = w.heap.size) ∧ Below w.heap.size w w')) → K (a.put o.dst (.slice A' (n + 1) c')) w') :
    if Region.wanted o (yielded ops a.tmps) = true then Oper.wp Tryz.prog o a w K Q else E := by
  rw [if_pos hw]
  subst hxn
  obtain ⟨A', c', w', hrun, h2, h3, h4, h5⟩ := run_push_fork (P := Tryz.prog) w base t o.type 3 ht info_int rfl (by omega) A c xs.length (ints xs) hown ad 1 (.int .i64 y) hy rfl (by omega) hbase
  have g1 : OwnI w' base A' c' (xs ++ [y]) := by unfold OwnI; rw [List.length_append, ints_snoc]; exact h2
  have g5 : (A' = A ∧ c' = c) ∨ ((∀ k, blockOf A' k → k = w.heap.size) ∧ Below w.heap.size w w') := by
    rcases h5 with ⟨e1, e2, _⟩ | ⟨e1, e2⟩
    · exact .inl ⟨e1, e2⟩
    · refine .inr ⟨fun k hk => ?_, e2⟩
      have hb := (blockOf_own (A := A') (n := xs.length + 1) (c := c') (k := k)).2 hk
      exact Option.some.inj (hb.symm.trans e1)
  have g := h A' c' w' g1 h3 h4 g5
  clear g1 g5 h h2 h3 h4 h5
  unfold Oper.wp execOp
  simp only [ho, resolve, invoke, builtin, Sem.run_bind, Sem.run_pure, Result.andThen_ok, List.map_toArray, List.map_cons, List.map_nil, hs, hx, hrun]
  exact g
end Go.Proofs.YtnbikkcalcpedaaGreatDoor

