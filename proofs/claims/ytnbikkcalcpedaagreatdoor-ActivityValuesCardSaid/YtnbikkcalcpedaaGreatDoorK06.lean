/-
  Texts of this claim, put together: ForP, TreeQ, Results, BurnP, HeapP.
-/
import Derived.Test.YtnbikkcalcpedaaGreatDoorK03
import Derived.Test.YtnbikkcalcpedaaGreatDoorRows
import Derived.Test.YtnbikkcalcpedaaGreatDoorK01
import Derived.Laws.Rows
import Derived.Laws.ResultCell
import Derived.Test.YtnbikkcalcpedaaGreatDoorK02
/-! Plain laws of a forest of joined vertices in which each vertex has any other one of its part: the roots. No program is in sight. -/
namespace Go.Proofs.YtnbikkcalcpedaaGreatDoor

/-- What an array of 12 vertices says of some pairs: r v is the root of v, h v its height. -/
structure Rp (ps : List (Nat × Nat)) (f : List Nat) (r h : Nat → Nat) : Prop where
  len : f.length = 12
  lt : ∀ v, v < 12 → f.getD v 0 < 12
  fix : ∀ v, v < 12 → f.getD v 0 = v → r v = v
  step : ∀ v, v < 12 → f.getD v 0 ≠ v → h (f.getD v 0) < h v ∧ r (f.getD v 0) = r v
  root : ∀ v, v < 12 → r v < 12 ∧ f.getD (r v) 0 = r v
  same : ∀ u v, u < 12 → v < 12 → (r u = r v ↔ Cn ps u v)
  cnt : ∀ n, n ≤ 12 → BdP n ps → ((List.range n).filter fun v => decide (r v = v)).length = partsP n ps
def FR (ps : List (Nat × Nat)) (f : List Nat) : Prop := ∃ r h, Rp ps f r h
theorem getD_setN (f : List Nat) (i v x : Nat) : (f.set i x).getD v 0 = if v = i ∧ i < f.length then x else f.getD v 0 := by
  simp only [List.getD_eq_getElem?_getD, List.getElem?_set]
  by_cases h : i = v
  · subst h
    by_cases hl : i < f.length
    · simp [hl]
    · simp [hl]
  · simp [h, Ne.symm h]
theorem FR.mem {ps qs : List (Nat × Nat)} {f : List Nat} (h : FR ps f) (hm : ∀ p, p ∈ ps ↔ p ∈ qs) : FR qs f := by
  obtain ⟨r, hh, k⟩ := h
  refine ⟨r, hh, k.len, k.lt, k.fix, k.step, k.root, fun u v hu hv => (k.same u v hu hv).trans (cn_same hm), fun n hn hb => ?_⟩
  rw [k.cnt n hn (fun p hp => hb p ((hm p).1 hp))]
  exact partsP_congr fun _ _ => cn_same hm
theorem range12_get {v : Nat} (hv : v < 12) : (List.range 12).getD v 0 = v := by
  rw [List.getD_eq_getElem?_getD, List.getElem?_range hv]; rfl
theorem fr_nil : FR [] (List.range 12) := by
  refine ⟨id, fun _ => 0, by simp, fun v hv => by rw [range12_get hv]; exact hv, fun v _ _ => rfl, fun v hv h => absurd (range12_get hv) h, fun v hv => ⟨hv, range12_get hv⟩, fun u v _ _ => ⟨fun h => ?_, fun h => cn_nil h⟩, fun n _ _ => ?_⟩
  · have h : u = v := h
    subst h; exact .refl
  · rw [partsP_nil, List.filter_eq_self.2]
    · simp
    · intro v _; simp
theorem Rp.join {ps : List (Nat × Nat)} {f : List Nat} {r h : Nat → Nat} (k : Rp ps f r h) {a b : Nat} (ha : a < 12) (hb : b < 12) : FR ((a, b) :: ps) (f.set (r a) (r b)) := by
  have hra := k.root a ha
  have hrb := k.root b hb
  have hlen := k.len
  by_cases he : r a = r b
  · have hf : f.set (r a) (r b) = f := by
      apply List.ext_getElem?
      intro i
      by_cases hi : r a = i
      · subst hi
        rw [List.getElem?_set_self (by omega), ← he]
        have := hra.2
        rw [List.getD_eq_getElem?_getD, List.getElem?_eq_getElem (by omega)] at this
        rw [List.getElem?_eq_getElem (by omega)]
        simp only [Option.getD_some] at this
        rw [this]
      · rw [List.getElem?_set_ne hi]
    rw [hf]
    have hc : Cn ps a b := (k.same a b ha hb).1 he
    refine ⟨r, h, k.len, k.lt, k.fix, k.step, k.root, fun u v hu hv => (k.same u v hu hv).trans (cn_cons_of (p := (a, b)) hc).symm, fun n hn hbd => ?_⟩
    rw [k.cnt n hn hbd.cons.2, partsP_in (p := (a, b)) hc]
  · have hnc : ¬ Cn ps a b := fun hc => he ((k.same a b ha hb).2 hc)
    have hrr : ∀ v, v < 12 → r (r v) = r v := fun v hv => k.fix _ (k.root v hv).1 (k.root v hv).2
    have hg : ∀ v, (f.set (r a) (r b)).getD v 0 = if v = r a then r b else f.getD v 0 := fun v => by
      rw [getD_setN]
      by_cases hv : v = r a
      · rw [if_pos ⟨hv, by omega⟩, if_pos hv]
      · rw [if_neg (fun hc => hv hc.1), if_neg hv]
    have hrv : ∀ u v, u < 12 → v < 12 → (((if r u = r a then r b else r u) = (if r v = r a then r b else r v)) ↔ Cn ((a, b) :: ps) u v) := by
      intro u v hu hv
      rw [cn_cons]
      rw [← k.same u v hu hv, ← k.same u a hu ha, ← k.same b v hb hv, ← k.same u b hu hb, ← k.same a v ha hv]
      split <;> split <;> omega
    refine ⟨fun v => if r v = r a then r b else r v, fun v => if r v = r a then h v + h (r b) + 1 else h v, by simpa using hlen, ?_, ?_, ?_, ?_, hrv, ?_⟩
    · intro v hv
      rw [hg]
      split
      · exact hrb.1
      · exact k.lt v hv
    · intro v hv hfv
      rw [hg] at hfv
      split at hfv
      · omega
      · have := k.fix v hv hfv
        rw [if_neg (by omega)]; exact this
    · intro v hv hfv
      rw [hg] at hfv ⊢
      have e1 := hrr a ha
      have e2 := hrr b hb
      by_cases hva : v = r a
      · have hn : ¬ r b = r a := fun e => he e.symm
        rw [if_pos hva, hva]
        simp only [e1, e2, if_true, hn, if_false]
        exact ⟨by omega, trivial⟩
      · rw [if_neg hva] at hfv ⊢
        obtain ⟨s1, s2⟩ := k.step v hv hfv
        rw [s2]
        refine ⟨?_, rfl⟩
        split <;> omega
    · intro v hv
      have := k.root v hv
      by_cases hva : r v = r a
      · rw [if_pos hva, hg, if_neg (fun e => he e.symm)]; exact hrb
      · rw [if_neg hva, hg, if_neg hva]; exact this
    · intro n hn hbd
      obtain ⟨⟨h1, h2⟩, hbd'⟩ := hbd.cons
      dsimp only at h1 h2
      have hp := partsP_out (p := (a, b)) (n := n) h1 h2 hnc
      rw [← k.cnt n hn hbd'] at hp
      have hran : r a < n := ((k.same a (r a) ha hra.1).1 (hrr a ha).symm).lt hbd' h1
      have := filter_less (l := List.range n) List.nodup_range (x := r a) (by rw [List.mem_range]; exact hran) (P := fun v => decide (r v = v)) (Q := fun v => decide ((if r v = r a then r b else r v) = v)) (by rw [decide_eq_true_eq]; exact hrr a ha) (fun v hv => ?_)
      · omega
      · rw [List.mem_range] at hv
        have e1 := hrr a ha
        have e2 := hrr b hb
        have e3 := hrr v (by omega)
        rw [Bool.eq_iff_iff, Bool.and_eq_true, Bool.not_eq_true', decide_eq_true_eq, decide_eq_true_eq, decide_eq_false_iff_not]
        constructor
        · intro hh
          split at hh
          · rename_i hva
            rw [← hh, e2] at hva; omega
          · exact ⟨hh, by omega⟩
        · rintro ⟨h3, h4⟩
          rw [if_neg (by omega)]; exact h3
/-- The next pair. -/
theorem Rp.snoc {ps : List (Nat × Nat)} {f : List Nat} {r h : Nat → Nat} (k : Rp ps f r h) {a b : Nat} (ha : a < 12) (hb : b < 12) : FR (ps ++ [(a, b)]) (f.set (r a) (r b)) :=
  (k.join ha hb).mem fun p => by simp [or_comm]
end Go.Proofs.YtnbikkcalcpedaaGreatDoor

/-! Plain laws of spanning trees as sets of single edges: what a single edge separates, paths, exchanges. No program is in sight. -/
namespace Go.Proofs.YtnbikkcalcpedaaGreatDoor

/-- The ends of some single edges. -/
def pk (E : List (Nat × Nat)) (t : List Nat) : List (Nat × Nat) := t.map fun e => E.getD e (0, 0)
/-- A list without a number. -/
def lessL (t : List Nat) (e : Nat) : List Nat := t.filter fun x => !decide (x = e)
/-- A set of numbers below m, ascending. -/
def SetN (m : Nat) (t : List Nat) : Prop := t.Pairwise (· < ·) ∧ ∀ e ∈ t, e < m
/-- Single edges without a cycle, each once. -/
structure FoE (n : Nat) (E : List (Nat × Nat)) (t : List Nat) : Prop where
  bd : BdP n E
  nodup : t.Nodup
  lt : ∀ e ∈ t, e < E.length
  fo : Fo (pk E t)

section
variable {E : List (Nat × Nat)} {t u : List Nat} {n e f a b : Nat}
theorem SetN.nodup {m : Nat} (h : SetN m t) : t.Nodup := h.1.imp fun h => by omega
theorem mem_pk {p : Nat × Nat} : p ∈ pk E t ↔ ∃ e ∈ t, E.getD e (0, 0) = p := by simp [pk]
theorem pk_cons : pk E (e :: t) = E.getD e (0, 0) :: pk E t := rfl
theorem pk_length : (pk E t).length = t.length := by simp [pk]
theorem getD_bd (hb : BdP n E) (he : e < E.length) : (E.getD e (0, 0)).1 < n ∧ (E.getD e (0, 0)).2 < n := by
  have : E.getD e (0, 0) ∈ E := by
    rw [List.getD_eq_getElem?_getD, List.getElem?_eq_getElem he]; exact List.getElem_mem he
  exact hb _ this
theorem bd_pk (hb : BdP n E) (h : ∀ e ∈ t, e < E.length) : BdP n (pk E t) := by
  intro p hp
  obtain ⟨e, he, rfl⟩ := mem_pk.1 hp
  exact getD_bd hb (h e he)
theorem mem_less {x : Nat} : x ∈ lessL t e ↔ x ∈ t ∧ x ≠ e := by simp [lessL]
theorem less_sub : (lessL t e).Sublist t := List.filter_sublist
theorem less_nodup (h : t.Nodup) : (lessL t e).Nodup := h.sublist less_sub
theorem less_not (h : e ∉ t) : lessL t e = t := by
  unfold lessL
  rw [List.filter_eq_self.2]
  intro x hx
  have : x ≠ e := fun h' => h (h' ▸ hx)
  simp [this]
theorem less_perm : ∀ {t : List Nat}, t.Nodup → e ∈ t → t.Perm (e :: lessL t e)
  | [], _, h => by simp at h
  | x :: t, hn, h => by
    rw [List.nodup_cons] at hn
    by_cases hx : x = e
    · subst hx
      have : lessL (x :: t) x = t := by
        have : lessL (x :: t) x = lessL t x := by simp [lessL]
        rw [this, less_not hn.1]
      rw [this]
    · have hl : lessL (x :: t) e = x :: lessL t e := by simp [lessL, hx]
      rw [hl]
      have he : e ∈ t := (List.mem_cons.1 h).elim (fun h => absurd h.symm hx) id
      exact ((less_perm hn.2 he).cons x).trans (List.Perm.swap e x _)
theorem less_length (hn : t.Nodup) (h : e ∈ t) : (lessL t e).length + 1 = t.length := by
  have := (less_perm hn h).length_eq; simp at this; omega
theorem less_comm : lessL (lessL t e) f = lessL (lessL t f) e := by
  simp only [lessL, List.filter_filter]
  exact List.filter_congr fun x _ => Bool.and_comm _ _
theorem pk_perm (h : t.Perm u) : (pk E t).Perm (pk E u) := h.map _
theorem pk_sub (h : t.Sublist u) : (pk E t).Sublist (pk E u) := h.map _
theorem cn_sub (h : ∀ x ∈ t, x ∈ u) (hc : Cn (pk E t) a b) : Cn (pk E u) a b := hc.mono fun p hp => by
  obtain ⟨e, he, rfl⟩ := mem_pk.1 hp
  exact mem_pk.2 ⟨e, h e he, rfl⟩
theorem cn_less (h : Cn (pk E (lessL t e)) a b) : Cn (pk E t) a b := cn_sub (fun _ hx => (mem_less.1 hx).1) h
/-- What a single edge adds. -/
theorem cn_split (he : e ∈ t) : Cn (pk E t) a b ↔ Cn (pk E (lessL t e)) a b ∨ (Cn (pk E (lessL t e)) a (E.getD e (0, 0)).1 ∧ Cn (pk E (lessL t e)) (E.getD e (0, 0)).2 b) ∨ (Cn (pk E (lessL t e)) a (E.getD e (0, 0)).2 ∧ Cn (pk E (lessL t e)) (E.getD e (0, 0)).1 b) := by
  rw [← cn_cons, ← pk_cons]
  refine cn_same fun p => ?_
  rw [mem_pk, mem_pk]
  constructor
  · rintro ⟨x, hx, rfl⟩
    by_cases hxe : x = e
    · exact ⟨e, by simp, by rw [hxe]⟩
    · exact ⟨x, by simp [mem_less, hx, hxe], rfl⟩
  · rintro ⟨x, hx, rfl⟩
    rcases List.mem_cons.1 hx with rfl | hx
    · exact ⟨x, he, rfl⟩
    · exact ⟨x, (mem_less.1 hx).1, rfl⟩
theorem FoE.less (h : FoE n E t) (e : Nat) : FoE n E (lessL t e) := ⟨h.bd, less_nodup h.nodup, fun x hx => h.lt x (mem_less.1 hx).1, h.fo.sub (pk_sub less_sub)⟩
/-- A single edge of a tree is a bridge. -/
theorem FoE.bridge (h : FoE n E t) (he : e ∈ t) : ¬ Cn (pk E (lessL t e)) (E.getD e (0, 0)).1 (E.getD e (0, 0)).2 := by
  have h1 := (fo_perm (bd_pk h.bd h.lt) (pk_perm (E := E) (less_perm h.nodup he))).1 h.fo
  exact h1.2
theorem FoE.add (h : FoE n E t) (he : e < E.length) (hn : e ∉ t) (hc : ¬ Cn (pk E t) (E.getD e (0, 0)).1 (E.getD e (0, 0)).2) : FoE n E (e :: t) :=
  ⟨h.bd, List.nodup_cons.2 ⟨hn, h.nodup⟩, fun x hx => (List.mem_cons.1 hx).elim (fun h => h ▸ he) (h.lt x), ⟨h.fo, hc⟩⟩
theorem FoE.perm (h : FoE n E t) (hp : t.Perm u) : FoE n E u := ⟨h.bd, hp.nodup_iff.1 h.nodup, fun x hx => h.lt x (hp.mem_iff.2 hx), (fo_perm (bd_pk h.bd h.lt) (pk_perm hp)).1 h.fo⟩
/-- The other end of a single edge. -/
def oth (p : Nat × Nat) (v : Nat) : Nat := if p.1 = v then p.2 else p.1
/-- A single edge touches a vertex. -/
def Inc (E : List (Nat × Nat)) (e v : Nat) : Prop := (E.getD e (0, 0)).1 = v ∨ (E.getD e (0, 0)).2 = v
instance inc_dec (E : List (Nat × Nat)) (e v : Nat) : Decidable (Inc E e v) := inferInstanceAs (Decidable (_ ∨ _))
theorem inc_cases {v : Nat} (h : Inc E e v) : ((E.getD e (0, 0)).1 = v ∧ (E.getD e (0, 0)).2 = oth (E.getD e (0, 0)) v) ∨ ((E.getD e (0, 0)).2 = v ∧ (E.getD e (0, 0)).1 = oth (E.getD e (0, 0)) v) := by
  unfold oth
  by_cases h1 : (E.getD e (0, 0)).1 = v
  · exact .inl ⟨h1, by rw [if_pos h1]⟩
  · rcases h with h | h
    · exact absurd h h1
    · exact .inr ⟨h, by rw [if_neg h1]⟩
theorem inc_oth {v : Nat} (h : Inc E e v) : Inc E e (oth (E.getD e (0, 0)) v) ∧ oth (E.getD e (0, 0)) (oth (E.getD e (0, 0)) v) = v := by
  rcases inc_cases h with ⟨h1, h2⟩ | ⟨h1, h2⟩
  · refine ⟨.inr h2, ?_⟩
    rw [← h2]; unfold oth
    split
    · rename_i h3; omega
    · exact h1
  · refine ⟨.inl h2, ?_⟩
    rw [← h2]; unfold oth; rw [if_pos rfl]; exact h1
theorem inc_sum {v : Nat} (h : Inc E e v) : (E.getD e (0, 0)).1 + (E.getD e (0, 0)).2 = v + oth (E.getD e (0, 0)) v := by
  rcases inc_cases h with ⟨h1, h2⟩ | ⟨h1, h2⟩ <;> omega
/-- Where a single edge is present, its ends are connected. -/
theorem inc_cn {v : Nat} (he : e ∈ t) (h : Inc E e v) : Cn (pk E t) v (oth (E.getD e (0, 0)) v) := by
  have hp : Cn (pk E t) (E.getD e (0, 0)).1 (E.getD e (0, 0)).2 := Cn.pair (mem_pk.2 ⟨e, he, rfl⟩)
  rcases inc_cases h with ⟨h1, h2⟩ | ⟨h1, h2⟩
  · rw [h1, h2] at hp; exact hp
  · rw [h1, h2] at hp; exact hp.symm
theorem FoE.bridge' {v : Nat} (h : FoE n E t) (he : e ∈ t) (hi : Inc E e v) : ¬ Cn (pk E (lessL t e)) v (oth (E.getD e (0, 0)) v) := by
  have hb := h.bridge he
  rcases inc_cases hi with ⟨h1, h2⟩ | ⟨h1, h2⟩
  · rw [h1, h2] at hb; exact hb
  · rw [h1, h2] at hb; exact fun hc => hb hc.symm
theorem cn_split' {v : Nat} (he : e ∈ t) (hi : Inc E e v) : Cn (pk E t) a b ↔ Cn (pk E (lessL t e)) a b ∨ (Cn (pk E (lessL t e)) a v ∧ Cn (pk E (lessL t e)) (oth (E.getD e (0, 0)) v) b) ∨ (Cn (pk E (lessL t e)) a (oth (E.getD e (0, 0)) v) ∧ Cn (pk E (lessL t e)) v b) := by
  rw [cn_split he]
  rcases inc_cases hi with ⟨h1, h2⟩ | ⟨h1, h2⟩
  · rw [h1, h2]
  · rw [h1, h2]
    constructor
    · rintro (h | h | h)
      · exact .inl h
      · exact .inr (.inr h)
      · exact .inr (.inl h)
    · rintro (h | h | h)
      · exact .inl h
      · exact .inr (.inr h)
      · exact .inr (.inl h)

/-- A single edge that separates two vertices in a tree. -/
def Sep (E : List (Nat × Nat)) (t : List Nat) (a b e : Nat) : Prop := ¬ Cn (pk E (lessL t e)) a b
instance sep_dec (E : List (Nat × Nat)) (t : List Nat) (a b e : Nat) : Decidable (Sep E t a b e) := inferInstanceAs (Decidable (¬ _))
def sepL (E : List (Nat × Nat)) (t : List Nat) (a b : Nat) : List Nat := t.filter fun e => decide (Sep E t a b e)
theorem mem_sep : e ∈ sepL E t a b ↔ e ∈ t ∧ Sep E t a b e := by simp [sepL]
theorem Sep.symm (h : Sep E t a b e) : Sep E t b a e := fun hc => h hc.symm
/-- The single edges that separate two vertices connect them. -/
theorem sep_cn (h : FoE n E t) (hc : Cn (pk E t) a b) : Cn (pk E (sepL E t a b)) a b := by
  suffices H : ∀ (k : Nat) (s : List Nat), s.length ≤ k → s.Sublist t → Cn (pk E s) a b → Cn (pk E (sepL E t a b)) a b from H t.length t (Nat.le_refl _) (List.Sublist.refl _) hc
  intro k
  induction k with
  | zero =>
    intro s hs _ hc
    have : s = [] := List.eq_nil_of_length_eq_zero (by omega)
    subst this
    exact hc.mono (by simp [pk])
  | succ k ih =>
    intro s hs hst hc
    by_cases hall : ∀ e ∈ s, Sep E s a b e
    · refine cn_sub (fun e he => mem_sep.2 ⟨hst.subset he, fun hct => ?_⟩) hc
      have h1 := hall e he
      have hsn : s.Nodup := h.nodup.sublist hst
      have hls : ∀ x ∈ lessL s e, x ∈ lessL t e := fun x hx => mem_less.2 ⟨hst.subset (mem_less.1 hx).1, (mem_less.1 hx).2⟩
      have hb := h.bridge (hst.subset he)
      rcases (cn_split he).1 hc with h2 | ⟨h2, h3⟩ | ⟨h2, h3⟩
      · exact h1 h2
      · exact hb (((cn_sub hls h2).symm.trans hct).trans (cn_sub hls h3).symm)
      · exact hb (((cn_sub hls h3).trans hct.symm).trans (cn_sub hls h2))
    · have ⟨e, he⟩ : ∃ e, ¬ (e ∈ s → Sep E s a b e) := Classical.not_forall.1 hall
      have he1 : e ∈ s := Classical.byContradiction fun hx => he fun h => absurd h hx
      have he2 : Cn (pk E (lessL s e)) a b := Classical.byContradiction fun hx => he fun _ => hx
      have hl := less_length (h.nodup.sublist hst) he1
      exact ih (lessL s e) (by omega) (less_sub.trans hst) he2
theorem cn_first (h : Cn (pk E t) a b) (hne : a ≠ b) : ∃ e ∈ t, Inc E e a := by
  have h' := h.symm
  cases h' with
  | refl => exact absurd rfl hne
  | step _ hs =>
    rcases hs with hs | hs
    · obtain ⟨e, he, hp⟩ := mem_pk.1 hs
      exact ⟨e, he, .inr (by rw [hp])⟩
    · obtain ⟨e, he, hp⟩ := mem_pk.1 hs
      exact ⟨e, he, .inl (by rw [hp])⟩
/-- The single edge that leads from a vertex to a root. -/
theorem par_ex (h : FoE n E t) (hc : Cn (pk E t) a b) (hne : a ≠ b) : ∃ e ∈ t, Inc E e a ∧ Sep E t a b e := by
  obtain ⟨e, he, hi⟩ := cn_first (sep_cn h hc) hne
  obtain ⟨h1, h2⟩ := mem_sep.1 he
  exact ⟨e, h1, hi, h2⟩
theorem sep_oth (hc : Cn (pk E t) a b) (he : e ∈ t) (hi : Inc E e a) (hs : Sep E t a b e) : Cn (pk E (lessL t e)) (oth (E.getD e (0, 0)) a) b := by
  rcases (cn_split' he hi).1 hc with h1 | ⟨_, h1⟩ | ⟨_, h1⟩
  · exact absurd h1 hs
  · exact h1
  · exact absurd h1 hs
theorem par_uni (h : FoE n E t) (hc : Cn (pk E t) a b) (he : e ∈ t) (hi : Inc E e a) (hs : Sep E t a b e) (hf : f ∈ t) (hj : Inc E f a) (hs' : Sep E t a b f) : e = f := by
  refine Classical.byContradiction fun hne => ?_
  have h1 := sep_oth hc he hi hs
  have hf' : f ∈ lessL t e := mem_less.2 ⟨hf, fun h => hne h.symm⟩
  have he' : e ∈ lessL t f := mem_less.2 ⟨he, hne⟩
  rcases (cn_split' hf' hj).1 h1 with h2 | ⟨h2, _⟩ | ⟨_, h2⟩
  · rw [less_comm] at h2
    exact hs' ((inc_cn he' hi).trans (cn_less h2))
  · exact h.bridge' he hi (cn_less h2).symm
  · exact hs (cn_less h2)
theorem sep_step (hc : Cn (pk E t) a b) (he : e ∈ t) (hi : Inc E e a) (hs : Sep E t a b e) : Sep E t (oth (E.getD e (0, 0)) a) b f ↔ (Sep E t a b f ∧ f ≠ e) := by
  constructor
  · intro h1
    have hne : f ≠ e := by rintro rfl; exact h1 (sep_oth hc he hi hs)
    refine ⟨fun h2 => h1 ?_, hne⟩
    exact (inc_cn (mem_less.2 ⟨he, fun h => hne h.symm⟩) hi).symm.trans h2
  · rintro ⟨h1, hne⟩ h2
    exact h1 ((inc_cn (mem_less.2 ⟨he, fun h => hne h.symm⟩) hi).trans h2)
theorem sepL_step (h : FoE n E t) (hc : Cn (pk E t) a b) (he : e ∈ t) (hi : Inc E e a) (hs : Sep E t a b e) : (sepL E t (oth (E.getD e (0, 0)) a) b).length + 1 = (sepL E t a b).length := by
  unfold sepL
  refine filter_less h.nodup he (by rw [decide_eq_true_eq]; exact hs) ?_
  intro v _
  rw [Bool.eq_iff_iff, Bool.and_eq_true, Bool.not_eq_true', decide_eq_true_eq, decide_eq_true_eq, decide_eq_false_iff_not]
  exact sep_step hc he hi hs
/-- The first single edge on the way from a vertex to a root. -/
def parE (E : List (Nat × Nat)) (t : List Nat) (b a : Nat) : Option Nat := t.find? fun e => decide (Inc E e a) && decide (Sep E t a b e)
/-- The path, with a bound of its length. -/
def walkL (E : List (Nat × Nat)) (t : List Nat) (b : Nat) : Nat → Nat → List Nat
  | 0, _ => []
  | k + 1, a => if a = b then [] else match parE E t b a with
    | none => []
    | some e => e :: walkL E t b k (oth (E.getD e (0, 0)) a)
def pathL (E : List (Nat × Nat)) (t : List Nat) (a b : Nat) : List Nat := walkL E t b t.length a
theorem parE_eq (h : FoE n E t) (hc : Cn (pk E t) a b) (he : e ∈ t) (hi : Inc E e a) (hs : Sep E t a b e) : parE E t b a = some e := by
  unfold parE
  rcases hf : t.find? (fun e => decide (Inc E e a) && decide (Sep E t a b e)) with _ | f
  · rw [List.find?_eq_none] at hf
    have := hf e he
    simp [hi, hs] at this
  · have h1 := List.find?_some hf
    have h2 := List.mem_of_find?_eq_some hf
    simp only [Bool.and_eq_true, decide_eq_true_eq] at h1
    rw [par_uni h hc he hi hs h2 h1.1 h1.2]
theorem parE_some (h : FoE n E t) (hc : Cn (pk E t) a b) (hne : a ≠ b) : ∃ e, parE E t b a = some e ∧ e ∈ t ∧ Inc E e a ∧ Sep E t a b e := by
  obtain ⟨e, h1, h2, h3⟩ := par_ex h hc hne
  exact ⟨e, parE_eq h hc h1 h2 h3, h1, h2, h3⟩
theorem walkL_fuel (h : FoE n E t) : ∀ (k : Nat) (a : Nat) (j : Nat), Cn (pk E t) a b → (sepL E t a b).length ≤ k → (sepL E t a b).length ≤ j → walkL E t b k a = walkL E t b j a := by
  have h0 : ∀ (k a : Nat), Cn (pk E t) a b → (sepL E t a b).length ≤ 0 → walkL E t b k a = [] := by
    intro k a hc h1
    have : a = b := by
      refine Classical.byContradiction fun hne => ?_
      obtain ⟨e, he, _⟩ := cn_first (sep_cn h hc) hne
      have := List.length_pos_of_mem he; omega
    subst this
    cases k with
    | zero => rfl
    | succ k => rw [walkL, if_pos rfl]
  intro k
  induction k with
  | zero => intro a j hc h1 _; rw [h0 j a hc h1]; rfl
  | succ k ih =>
    intro a j hc h1 h2
    cases j with
    | zero => rw [h0 _ a hc h2]; rfl
    | succ j =>
      rw [walkL, walkL]
      by_cases hne : a = b
      · rw [if_pos hne, if_pos hne]
      · obtain ⟨e, he, h3, h4, h5⟩ := parE_some h hc hne
        have hl := sepL_step h hc h3 h4 h5
        rw [if_neg hne, if_neg hne, he]
        simp only
        rw [ih _ j ((inc_cn h3 h4).symm.trans hc) (by omega) (by omega)]
theorem pathL_self (b : Nat) : pathL E t b b = [] := by
  unfold pathL
  cases t.length with
  | zero => rfl
  | succ k => rw [walkL, if_pos rfl]
theorem pathL_step (h : FoE n E t) (hc : Cn (pk E t) a b) (he : e ∈ t) (hi : Inc E e a) (hs : Sep E t a b e) : pathL E t a b = e :: pathL E t (oth (E.getD e (0, 0)) a) b := by
  have hne : a ≠ b := by rintro rfl; exact hs .refl
  have hl := sepL_step h hc he hi hs
  have hle : (sepL E t a b).length ≤ t.length := List.length_filter_le _ _
  unfold pathL
  obtain ⟨m, hm⟩ : ∃ m, t.length = m + 1 := ⟨t.length - 1, by omega⟩
  rw [hm] at hle ⊢
  conv => lhs; rw [walkL]
  rw [if_neg hne, parE_eq h hc he hi hs]
  simp only
  rw [walkL_fuel h m _ (m + 1) ((inc_cn he hi).symm.trans hc) (by omega) (by omega)]
/-- Induction over the path. -/
theorem path_ind (h : FoE n E t) {P : Nat → Prop} (h0 : P b) (h1 : ∀ a e, Cn (pk E t) a b → e ∈ t → Inc E e a → Sep E t a b e → P (oth (E.getD e (0, 0)) a) → P a) : ∀ a, Cn (pk E t) a b → P a := by
  suffices H : ∀ (k : Nat) (a : Nat), Cn (pk E t) a b → (sepL E t a b).length ≤ k → P a from fun a hc => H _ a hc (Nat.le_refl _)
  intro k
  induction k with
  | zero =>
    intro a hc hk
    by_cases hne : a = b
    · rw [hne]; exact h0
    · obtain ⟨e, h2, h3, h4⟩ := par_ex h hc hne
      have := sepL_step h hc h2 h3 h4; omega
  | succ k ih =>
    intro a hc hk
    by_cases hne : a = b
    · rw [hne]; exact h0
    · obtain ⟨e, h2, h3, h4⟩ := par_ex h hc hne
      have := sepL_step h hc h2 h3 h4
      exact h1 a e hc h2 h3 h4 (ih _ ((inc_cn h2 h3).symm.trans hc) (by omega))
theorem path_mem (h : FoE n E t) (hc : Cn (pk E t) a b) : ∀ f, f ∈ pathL E t a b ↔ f ∈ t ∧ Sep E t a b f := by
  refine path_ind (b := b) h (P := fun a => ∀ f, f ∈ pathL E t a b ↔ f ∈ t ∧ Sep E t a b f) ?_ ?_ a hc
  · intro f
    rw [pathL_self]
    simp only [List.not_mem_nil, false_iff]
    exact fun h => h.2 .refl
  · intro a e hc he hi hs ih f
    rw [pathL_step h hc he hi hs, List.mem_cons, ih f, sep_step hc he hi hs]
    constructor
    · rintro (rfl | ⟨h1, h2, _⟩)
      · exact ⟨he, hs⟩
      · exact ⟨h1, h2⟩
    · rintro ⟨h1, h2⟩
      by_cases hfe : f = e
      · exact .inl hfe
      · exact .inr ⟨h1, h2, hfe⟩
theorem path_nodup (h : FoE n E t) (hc : Cn (pk E t) a b) : (pathL E t a b).Nodup := by
  refine path_ind (b := b) h (P := fun a => (pathL E t a b).Nodup) ?_ ?_ a hc
  · rw [pathL_self]; exact .nil
  · intro a e hc he hi hs ih
    rw [pathL_step h hc he hi hs, List.nodup_cons]
    refine ⟨?_, ih⟩
    rw [path_mem h ((inc_cn he hi).symm.trans hc), sep_step hc he hi hs]
    exact fun h => h.2.2 rfl
theorem path_len (h : FoE n E t) (hc : Cn (pk E t) a b) : (pathL E t a b).length ≤ t.length := nodup_sub_le (path_nodup h hc) fun x hx => ((path_mem h hc x).1 hx).1

/-- Exchange: for a single edge of one tree there is one of the other on its path that separates it. -/
theorem exch (h : FoE n E u) (hu : Cn (pk E u) a b) (ht : ¬ Cn (pk E t) a b) : ∃ f ∈ u, Sep E u a b f ∧ ¬ Cn (pk E t) (E.getD f (0, 0)).1 (E.getD f (0, 0)).2 := by
  refine Classical.byContradiction fun hno => ht ?_
  have hall : ∀ f ∈ sepL E u a b, Cn (pk E t) (E.getD f (0, 0)).1 (E.getD f (0, 0)).2 := fun f hf => Classical.byContradiction fun hc => hno ⟨f, (mem_sep.1 hf).1, (mem_sep.1 hf).2, hc⟩
  have := sep_cn h hu
  suffices H : ∀ c, Cn (pk E (sepL E u a b)) a c → Cn (pk E t) a c from H b this
  intro c hc
  induction hc with
  | refl => exact .refl
  | step _ hs ih =>
    rcases hs with hs | hs
    · obtain ⟨f, hf, hp⟩ := mem_pk.1 hs
      have := hall f hf
      rw [hp] at this
      exact ih.trans this
    · obtain ⟨f, hf, hp⟩ := mem_pk.1 hs
      have := hall f hf
      rw [hp] at this
      exact ih.trans this.symm
end
end Go.Proofs.YtnbikkcalcpedaaGreatDoor

/-! A struct that a function hands back: read out of its box. -/
namespace Go.Proofs.YtnbikkcalcpedaaGreatDoor
open Go.RowKit
section
variable {fn : Func} {p u v : Tmp} {tmps : Array Value} {w : World} {g : Nat} {cs : Array Value}
theorem info_graph : (Tryz.prog.info? 24).map (·.size) = some 2 := by kernel_rfl
theorem results_g (h : fn.results = #[.cell p 24]) (hp : tmps.getD p undef = .pointer (some ⟨g, 0, none⟩)) (hg : Blk w g 24 cs) (hs : cs.size = 2) :
    (results fn tmps).run Tryz.prog w = .ok (.agg cs) w := by
  exact results_cell_row h tmps w g _ cs _ _ hp hg Tryz.underlying24 rfl (by rw [info_graph, hs])
theorem results_g1 (h : fn.results = #[.cell p 24, .tmp u]) (hp : tmps.getD p undef = .pointer (some ⟨g, 0, none⟩)) (hg : Blk w g 24 cs) (hs : cs.size = 2) :
    (results fn tmps).run Tryz.prog w = .ok (.tuple #[.agg cs, tmps.getD u undef]) w := by
  have hi : (Tryz.prog.info? 24).map (·.size) = some cs.size := by rw [info_graph, hs]
  have hp' : tmps[p]?.getD undef = .pointer (some ⟨g, 0, none⟩) := by simpa using hp
  simp [results, h, hp', asAddr, run_loadVar_row w g _ _ cs _ _ hg Tryz.underlying24 rfl hi]
end
end Go.Proofs.YtnbikkcalcpedaaGreatDoor

/-! Plain laws of burning: the fire, whatever burns first, and the sets that block. No program is in sight. -/
namespace Go.Proofs.YtnbikkcalcpedaaGreatDoor

section
variable {es : List (Int × Int × Int)} {c : List Int} {n : Nat} {l : List Nat} {v : Nat}
end
end Go.Proofs.YtnbikkcalcpedaaGreatDoor

/-! Plain laws of burning, more: what comes of the fire, and how much is left. No program is in sight. -/
namespace Go.Proofs.YtnbikkcalcpedaaGreatDoor
section
variable {es : List (Int × Int × Int)} {c : List Int} {n : Nat} {l : List Nat} {v : Nat}
end
end Go.Proofs.YtnbikkcalcpedaaGreatDoor

/-! Heaps of ints in a list, as container/heap keeps them: sifting up and down. No program is in sight. -/
namespace Go.Proofs.YtnbikkcalcpedaaGreatDoor

def hp (H : List Int) (k : Nat) : Int := H.getD k 0
def swp (H : List Int) (i j : Nat) : List Int := (H.set i (hp H j)).set j (hp H i)
theorem hp_set {H : List Int} {i : Nat} (h : i < H.length) (x : Int) (k : Nat) : hp (H.set i x) k = if k = i then x else hp H k := by
  unfold hp
  rw [List.getD_eq_getElem?_getD, List.getElem?_set]
  by_cases hk : k = i
  · subst hk; rw [if_pos rfl, if_pos rfl, if_pos h]; rfl
  · rw [if_neg (fun e => hk e.symm), if_neg hk, List.getD_eq_getElem?_getD]
theorem swp_length (H : List Int) (i j : Nat) : (swp H i j).length = H.length := by simp [swp]
theorem hp_swp {H : List Int} {i j : Nat} (hi : i < H.length) (hj : j < H.length) (k : Nat) : hp (swp H i j) k = if k = j then hp H i else if k = i then hp H j else hp H k := by
  unfold swp
  rw [hp_set (by simpa using hj), hp_set hi]
/-- The first n are a heap. -/
def HeapN (H : List Int) (n : Nat) : Prop := ∀ k, 0 < k → k < n → hp H ((k - 1) / 2) ≤ hp H k
/-- A heap but for one that may be too small. -/
structure UpI (H : List Int) (n j : Nat) : Prop where
  lt : j < n
  le : n ≤ H.length
  rest : ∀ k, 0 < k → k < n → k ≠ j → hp H ((k - 1) / 2) ≤ hp H k
  kids : ∀ k, 0 < k → k < n → (k - 1) / 2 = j → 0 < j → hp H ((j - 1) / 2) ≤ hp H k
theorem UpI.step {H : List Int} {n j : Nat} (h : UpI H n j) (hj : 0 < j) (hlt : hp H j < hp H ((j - 1) / 2)) : UpI (swp H ((j - 1) / 2) j) n ((j - 1) / 2) := by
  obtain ⟨h1, h2, h3, h4⟩ := h
  obtain ⟨i, hi⟩ : ∃ i, (j - 1) / 2 = i := ⟨_, rfl⟩
  have hs := hp_swp (H := H) (i := i) (j := j) (by omega) (by omega)
  rw [hi] at hlt h4 ⊢
  refine ⟨by omega, by rw [swp_length]; exact h2, fun k k0 k1 k2 => ?_, fun k k0 k1 k2 k3 => ?_⟩
  · rw [hs, hs]
    by_cases e1 : k = j
    · subst e1
      rw [if_pos rfl, hi, if_neg (by omega), if_pos rfl]; omega
    · rw [if_neg e1, if_neg k2]
      have h5 := h3 k k0 k1 e1
      by_cases e2 : (k - 1) / 2 = j
      · rw [if_pos e2]; exact h4 k k0 k1 e2 hj
      · rw [if_neg e2]
        by_cases e3 : (k - 1) / 2 = i
        · rw [if_pos e3]; rw [e3] at h5; omega
        · rw [if_neg e3]; exact h5
  · rw [hs, hs]
    have h6 := h3 i k3 (by omega) (by omega)
    rw [if_neg (by omega), if_neg (by omega)]
    by_cases e1 : k = j
    · rw [if_pos e1]; exact h6
    · rw [if_neg e1, if_neg (by omega)]
      have h5 := h3 k k0 k1 e1
      rw [k2] at h5; omega
theorem UpI.done {H : List Int} {n j : Nat} (h : UpI H n j) (hd : j = 0 ∨ hp H ((j - 1) / 2) ≤ hp H j) : HeapN H n := by
  intro k k0 k1
  by_cases e : k = j
  · subst e
    rcases hd with hd | hd
    · omega
    · exact hd
  · exact h.rest k k0 k1 e
theorem UpI.start {H : List Int} {x : Int} (h : HeapN H H.length) : UpI (H ++ [x]) (H.length + 1) H.length := by
  have hl : ∀ k, k < H.length → hp (H ++ [x]) k = hp H k := fun k hk => by
    unfold hp; rw [List.getD_eq_getElem?_getD, List.getD_eq_getElem?_getD, List.getElem?_append_left hk]
  refine ⟨by omega, by simp, fun k k0 k1 k2 => ?_, fun k k0 k1 k2 k3 => by omega⟩
  rw [hl _ (by omega), hl _ (by omega)]
  exact h k k0 (by omega)
/-- A heap but for one that may be too great. -/
structure DnI (H : List Int) (n i : Nat) : Prop where
  le : n ≤ H.length
  rest : ∀ k, 0 < k → k < n → (k - 1) / 2 ≠ i → hp H ((k - 1) / 2) ≤ hp H k
  kids : ∀ k, 0 < k → k < n → (k - 1) / 2 = i → 0 < i → hp H ((i - 1) / 2) ≤ hp H k
theorem DnI.step {H : List Int} {n i j : Nat} (h : DnI H n i) (hj : j < n) (hp1 : j = 2 * i + 1 ∨ j = 2 * i + 2) (hm : ∀ k, k < n → (k = 2 * i + 1 ∨ k = 2 * i + 2) → hp H j ≤ hp H k) (hlt : hp H j < hp H i) : DnI (swp H i j) n j := by
  obtain ⟨h2, h3, h4⟩ := h
  have hs := hp_swp (H := H) (i := i) (j := j) (by omega) (by omega)
  have hpj : (j - 1) / 2 = i := by omega
  refine ⟨by rw [swp_length]; exact h2, fun k k0 k1 k2 => ?_, fun k k0 k1 k2 k3 => ?_⟩
  · rw [hs, hs, if_neg k2]
    by_cases e1 : k = j
    · subst e1
      rw [if_pos rfl, if_pos hpj]; omega
    · rw [if_neg e1]
      by_cases e2 : k = i
      · subst e2
        rw [if_pos rfl, if_neg (by omega)]
        exact h4 j (by omega) hj hpj k0
      · rw [if_neg e2]
        by_cases e3 : (k - 1) / 2 = i
        · rw [if_pos e3]; exact hm k k1 (by omega)
        · rw [if_neg e3]; exact h3 k k0 k1 e3
  · rw [hs, hs, hpj, if_neg (by omega), if_pos rfl, if_neg (by omega), if_neg (by omega)]
    have := h3 k k0 k1 (by omega)
    rw [k2] at this; exact this
theorem DnI.done {H : List Int} {n i : Nat} (h : DnI H n i) (hd : ∀ k, k < n → (k = 2 * i + 1 ∨ k = 2 * i + 2) → hp H i ≤ hp H k) : HeapN H n := by
  intro k k0 k1
  by_cases e : (k - 1) / 2 = i
  · rw [e]; exact hd k k1 (by omega)
  · exact h.rest k k0 k1 e
/-- The last one comes to the top: the rest but for the top is a heap. -/
theorem DnI.start {H : List Int} {n : Nat} (h : HeapN H (n + 1)) (hl : H.length = n + 1) : DnI (swp H 0 n) n 0 := by
  have hs := hp_swp (H := H) (i := 0) (j := n) (by omega) (by omega)
  refine ⟨by rw [swp_length]; omega, fun k k0 k1 k2 => ?_, fun k k0 k1 k2 k3 => by omega⟩
  rw [hs, hs, if_neg (by omega), if_neg k2, if_neg (by omega), if_neg (by omega)]
  exact h k k0 (by omega)
end Go.Proofs.YtnbikkcalcpedaaGreatDoor

