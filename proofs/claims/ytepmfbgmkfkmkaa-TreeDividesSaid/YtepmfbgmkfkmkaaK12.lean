/-
  Texts of this claim, put together: TreeS.
-/
import Derived.Test.YtepmfbgmkfkmkaaK10
/-! Plain laws of paths in spanning trees: the parents found by rounds, a search in depth, and the cycle of a single edge. No program is in sight. -/
namespace Go.Proofs.Ytepmfbgmkfkmkaa

section
variable {E : List (Nat × Nat)} {t : List Nat} {n e f a b v w r : Nat}

/-! The parents, by rounds. -/
def parS (E : List (Nat × Nat)) (out : List Int) (e : Nat) : List Int :=
  if out.getD (E.getD e (0, 0)).1 0 ≠ -2 ∧ out.getD (E.getD e (0, 0)).2 0 = -2 then out.set (E.getD e (0, 0)).2 e
  else if out.getD (E.getD e (0, 0)).2 0 ≠ -2 ∧ out.getD (E.getD e (0, 0)).1 0 = -2 then out.set (E.getD e (0, 0)).1 e else out
def parRd (E : List (Nat × Nat)) (t : List Nat) (out : List Int) : List Int := t.foldl (parS E) out
def parRs (E : List (Nat × Nat)) (t : List Nat) (out : List Int) (k : Nat) : List Int := (List.range k).foldl (fun o _ => parRd E t o) out
def par0 (n r : Nat) : List Int := (List.replicate n (-2)).set r (-1)
/-- The parents of all vertices. -/
def parentsL (n : Nat) (E : List (Nat × Nat)) (t : List Nat) (r : Nat) : List Int := (List.range n).map fun v : Nat => if v = r then -1 else match parE E t r v with
  | some e => (e : Int)
  | none => -2
/-- What is known of the parents on the way. -/
structure ParG (n : Nat) (E : List (Nat × Nat)) (t : List Nat) (r : Nat) (out : List Int) : Prop where
  len : out.length = n
  root : out.getD r 0 = -1
  other : ∀ v, v < n → v ≠ r → out.getD v 0 = -2 ∨ ∃ e : Nat, parE E t r v = some e ∧ out.getD v 0 = e ∧ out.getD (oth (E.getD e (0, 0)) v) 0 ≠ -2
theorem getD_setI (xs : List Int) (i v : Nat) (x : Int) : (xs.set i x).getD v 0 = if v = i ∧ i < xs.length then x else xs.getD v 0 := by
  simp only [List.getD_eq_getElem?_getD, List.getElem?_set]
  by_cases h : i = v
  · subst h
    by_cases hl : i < xs.length
    · simp [hl]
    · simp [hl]
  · simp [h, Ne.symm h]
theorem parS_length (out : List Int) (e : Nat) : (parS E out e).length = out.length := by
  unfold parS; split
  · simp
  · split <;> simp
theorem parRd_length (out : List Int) : (parRd E t out).length = out.length := by
  unfold parRd
  induction t generalizing out with
  | nil => rfl
  | cons e t ih => rw [List.foldl_cons, ih, parS_length]
theorem parS_keep {out : List Int} (h : out.getD v 0 ≠ -2) : (parS E out e).getD v 0 = out.getD v 0 := by
  unfold parS
  split
  · rename_i h1
    rw [getD_setI, if_neg]
    rintro ⟨rfl, _⟩; exact h h1.2
  · split
    · rename_i h1
      rw [getD_setI, if_neg]
      rintro ⟨rfl, _⟩; exact h h1.2
    · rfl
theorem parRd_keep {out : List Int} (h : out.getD v 0 ≠ -2) : (parRd E t out).getD v 0 = out.getD v 0 := by
  unfold parRd
  induction t generalizing out with
  | nil => rfl
  | cons e t ih =>
    have h1 := parS_keep (E := E) (e := e) h
    rw [List.foldl_cons, ih (by rw [h1]; exact h), h1]
/-- One step: the vertex that is found has this parent. -/
theorem parS_new (hT : FoE n E t) (hcn : ∀ x y, x < n → y < n → Cn (pk E t) x y) (hr : r < n) {out : List Int} (hg : ParG n E t r out) (he : e ∈ t) {x y : Nat} (hx : x < n) (hy : y < n) (hi : Inc E e y) (ho : oth (E.getD e (0, 0)) y = x)
    (h1 : out.getD x 0 ≠ -2) (h2 : out.getD y 0 = -2) : ParG n E t r (out.set y e) := by
  have hyr : y ≠ r := by rintro rfl; rw [hg.root] at h2; omega
  have hxy : x ≠ y := by rintro rfl; exact h1 h2
  obtain ⟨i1, i2⟩ := inc_oth hi
  rw [ho] at i1 i2
  -- the single edge separates y from the root
  have hcx : Cn (pk E (lessL t e)) x r := by
    by_cases hxr : x = r
    · rw [hxr]; exact .refl
    · refine Classical.byContradiction fun hsep => ?_
      have hp := parE_eq hT (hcn x r hx hr) he i1 hsep
      rcases hg.other x hx hxr with h | ⟨e', h3, h4, h5⟩
      · exact h1 h
      · rw [hp] at h3
        injection h3 with h3
        subst h3
        rw [i2] at h5
        exact h5 h2
  have hsep : Sep E t y r e := by
    intro hc
    have := hT.bridge' he hi
    rw [ho] at this
    exact this (hc.trans hcx.symm)
  have hp := parE_eq hT (hcn y r hy hr) he hi hsep
  have hle := hg.len
  refine ⟨by simpa using hle, ?_, ?_⟩
  · rw [getD_setI, if_neg (fun h => hyr h.1.symm)]; exact hg.root
  · intro v hv hvr
    rw [getD_setI]
    by_cases hvy : v = y
    · subst hvy
      refine .inr ⟨e, hp, by rw [if_pos ⟨rfl, by omega⟩], ?_⟩
      rw [ho, getD_setI, if_neg (fun h => hxy h.1)]
      exact h1
    · rw [if_neg (fun h => hvy h.1)]
      rcases hg.other v hv hvr with h | ⟨e', h3, h4, h5⟩
      · exact .inl h
      · refine .inr ⟨e', h3, h4, ?_⟩
        rw [getD_setI]
        split
        · omega
        · exact h5
theorem parS_good (hT : FoE n E t) (hcn : ∀ x y, x < n → y < n → Cn (pk E t) x y) (hr : r < n) {out : List Int} (hg : ParG n E t r out) (he : e ∈ t) : ParG n E t r (parS E out e) := by
  have hb := getD_bd hT.bd (hT.lt e he)
  have h1 : oth (E.getD e (0, 0)) (E.getD e (0, 0)).1 = (E.getD e (0, 0)).2 := by unfold oth; rw [if_pos rfl]
  have h2 : oth (E.getD e (0, 0)) (E.getD e (0, 0)).2 = (E.getD e (0, 0)).1 := by
    unfold oth
    split
    · rename_i h; exact h.symm
    · rfl
  unfold parS
  split
  · rename_i h
    exact parS_new hT hcn hr hg he hb.1 hb.2 (.inr rfl) h2 h.1 h.2
  · split
    · rename_i h
      exact parS_new hT hcn hr hg he hb.2 hb.1 (.inl rfl) h1 h.1 h.2
    · exact hg
theorem parFold_good (hT : FoE n E t) (hcn : ∀ x y, x < n → y < n → Cn (pk E t) x y) (hr : r < n) : ∀ {l : List Nat} {out : List Int}, (∀ e ∈ l, e ∈ t) → ParG n E t r out → ParG n E t r (l.foldl (parS E) out)
  | [], _, _, hg => hg
  | e :: l, out, hl, hg => by
    rw [List.foldl_cons]
    exact parFold_good hT hcn hr (fun x hx => hl x (by simp [hx])) (parS_good hT hcn hr hg (hl e (by simp)))
/-- A round finds all vertices whose parent is known. -/
theorem parRd_far (hT : FoE n E t) (hcn : ∀ x y, x < n → y < n → Cn (pk E t) x y) (hr : r < n) {out : List Int} (hg : ParG n E t r out) (hv : v < n) (hvr : v ≠ r) (hp : parE E t r v = some e) (hw : out.getD (oth (E.getD e (0, 0)) v) 0 ≠ -2) : (parRd E t out).getD v 0 ≠ -2 := by
  obtain ⟨e', h1, he, hi, hs⟩ := parE_some hT (hcn v r hv hr) hvr
  rw [hp] at h1
  injection h1 with h1
  subst h1
  obtain ⟨l1, l2, hl⟩ := List.append_of_mem he
  have hsplit : parRd E t out = parRd E l2 (parS E (parRd E l1 out) e) := by
    unfold parRd; conv => lhs; rw [hl]
    rw [List.foldl_append, List.foldl_cons]
  rw [hsplit]
  have hg1 : ParG n E t r (parRd E l1 out) := parFold_good hT hcn hr (fun x hx => by rw [hl]; simp [hx]) hg
  have hw1 : (parRd E l1 out).getD (oth (E.getD e (0, 0)) v) 0 ≠ -2 := by rw [parRd_keep hw]; exact hw
  have hb := getD_bd hT.bd (hT.lt e he)
  have key : (parS E (parRd E l1 out) e).getD v 0 ≠ -2 := by
    by_cases h2 : (parRd E l1 out).getD v 0 = -2
    · unfold parS
      rcases inc_cases hi with ⟨k1, k2⟩ | ⟨k1, k2⟩
      · rw [k1, k2, if_neg (fun h => h.1 h2), if_pos ⟨hw1, h2⟩, getD_setI, if_pos ⟨rfl, by rw [hg1.len]; exact hv⟩]; omega
      · rw [k1, k2, if_pos ⟨hw1, h2⟩, getD_setI, if_pos ⟨rfl, by rw [hg1.len]; exact hv⟩]; omega
    · rw [parS_keep h2]; exact h2
  rw [parRd_keep key]; exact key
theorem par0_good (hr : r < n) : ParG n E t r (par0 n r) := by
  unfold par0
  refine ⟨by simp, ?_, ?_⟩
  · rw [getD_setI, if_pos ⟨rfl, by simpa using hr⟩]
  · intro v hv hvr
    rw [getD_setI, if_neg (fun h => hvr h.1)]
    left
    rw [List.getD_eq_getElem?_getD, List.getElem?_replicate, if_pos hv]; rfl
theorem parRs_succ (out : List Int) (k : Nat) : parRs E t out (k + 1) = parRd E t (parRs E t out k) := by simp [parRs, List.range_succ]
theorem parRs_spec (hT : FoE n E t) (hcn : ∀ x y, x < n → y < n → Cn (pk E t) x y) (hr : r < n) (k : Nat) : ParG n E t r (parRs E t (par0 n r) k) ∧ ∀ v, v < n → (sepL E t v r).length ≤ k → (parRs E t (par0 n r) k).getD v 0 ≠ -2 := by
  induction k with
  | zero =>
    refine ⟨par0_good hr, fun v hv h => ?_⟩
    have hvr : v = r := by
      refine Classical.byContradiction fun hne => ?_
      obtain ⟨e, h1, h2, h3⟩ := par_ex hT (hcn v r hv hr) hne
      have := List.length_pos_of_mem (mem_sep.2 ⟨h1, h3⟩); omega
    subst hvr
    show (par0 n v).getD v 0 ≠ -2
    rw [(par0_good (E := E) (t := t) hr).root]; omega
  | succ k ih =>
    obtain ⟨i1, i2⟩ := ih
    rw [parRs_succ]
    refine ⟨parFold_good hT hcn hr (fun _ h => h) i1, fun v hv h => ?_⟩
    by_cases hvr : v = r
    · subst hvr
      have h1 := i1.root
      rw [parRd_keep (by rw [h1]; omega), h1]; omega
    · obtain ⟨e, h1, he, hi, hs⟩ := parE_some hT (hcn v r hv hr) hvr
      have hl := sepL_step hT (hcn v r hv hr) he hi hs
      have hwn : oth (E.getD e (0, 0)) v < n := ((inc_cn he hi).lt (bd_pk hT.bd hT.lt) hv)
      exact parRd_far hT hcn hr i1 hv hvr h1 (i2 _ hwn (by omega))
/-- The rounds find the parents. -/
theorem parRs_eq (hT : FoE n E t) (hl : t.length + 1 = n) (hcn : ∀ x y, x < n → y < n → Cn (pk E t) x y) (hr : r < n) : parRs E t (par0 n r) n = parentsL n E t r := by
  obtain ⟨h1, h2⟩ := parRs_spec hT hcn hr n
  apply List.ext_getElem?
  intro v
  rcases Nat.lt_or_ge v n with hv | hv
  · have hle := h1.len
    have e1 : (parRs E t (par0 n r) n)[v]? = some ((parRs E t (par0 n r) n).getD v 0) := by
      rw [List.getD_eq_getElem?_getD, List.getElem?_eq_getElem (by omega)]; rfl
    rw [e1]
    unfold parentsL
    rw [List.getElem?_map, List.getElem?_range hv]
    simp only [Option.map_some, Option.some.injEq]
    by_cases hvr : v = r
    · subst hvr; rw [if_pos rfl]; exact h1.root
    · rw [if_neg hvr]
      have hs : (sepL E t v r).length ≤ n := Nat.le_trans (List.length_filter_le _ _) (by omega)
      rcases h1.other v hv hvr with h | ⟨e, h3, h4, _⟩
      · exact absurd h (h2 v hv hs)
      · rw [h3, h4]
  · rw [List.getElem?_eq_none (by rw [h1.len]; exact hv), List.getElem?_eq_none (by simp [parentsL]; exact hv)]
theorem parentsL_get (hv : v < n) (hvr : v ≠ r) (hp : parE E t r v = some e) : (parentsL n E t r).getD v 0 = e := by
  unfold parentsL
  rw [List.getD_eq_getElem?_getD, List.getElem?_map, List.getElem?_range hv]
  simp [hvr, hp]
theorem parentsL_root (hr : r < n) : (parentsL n E t r).getD r 0 = -1 := by
  unfold parentsL
  rw [List.getD_eq_getElem?_getD, List.getElem?_map, List.getElem?_range hr]
  simp
theorem parentsL_length : (parentsL n E t r).length = n := by simp [parentsL]

/-! The search in depth: behind 'from' (a single edge, or none). -/
def lessO (t : List Nat) : Option Nat → List Nat
  | none => t
  | some f => lessL t f
/-- What 'from' is: none, or a single edge of the tree at this vertex. -/
def FromOk (E : List (Nat × Nat)) (t : List Nat) (v : Nat) (o : Option Nat) : Prop := ∀ f, o = some f → f ∈ t ∧ Inc E f v
theorem far_cn (hT : FoE n E t) {o : Option Nat} (ho : FromOk E t v o) (he : e ∈ t) (hi : Inc E e v) (hne : o ≠ some e) {y : Nat} (h : Cn (pk E (lessL t e)) (oth (E.getD e (0, 0)) v) y) : Cn (pk E (lessO t o)) v y := by
  cases o with
  | none => exact (inc_cn he hi).trans (cn_less h)
  | some f =>
    obtain ⟨hf, hj⟩ := ho f rfl
    have hfe : f ≠ e := fun h => hne (by rw [h])
    have hef : e ∈ lessL t f := mem_less.2 ⟨he, fun h => hfe h.symm⟩
    refine (inc_cn hef hi).trans ?_
    rcases (cn_split' (mem_less.2 ⟨hf, hfe⟩) hj).1 h with k | ⟨k, _⟩ | ⟨k, k2⟩
    · rw [less_comm] at k; exact cn_less k
    · exact absurd (cn_less k).symm (hT.bridge' he hi)
    · -- w joined with the other end of f, v with y: v with w again
      exfalso
      have h2 : Cn (pk E (lessL t e)) (oth (E.getD e (0, 0)) v) v := (cn_less k).trans (inc_cn (mem_less.2 ⟨hf, hfe⟩) hj).symm
      exact hT.bridge' he hi h2.symm
theorem dfs_yes (hT : FoE n E t) {o : Option Nat} (ho : FromOk E t v o) (he : e ∈ t) (hi : Inc E e v) (hne : o ≠ some e) (h : Cn (pk E (lessL t e)) (oth (E.getD e (0, 0)) v) b) : Cn (pk E (lessO t o)) v b ∧ pathL E t v b = e :: pathL E t (oth (E.getD e (0, 0)) v) b := by
  refine ⟨far_cn hT ho he hi hne h, ?_⟩
  have hs : Sep E t v b e := fun hc => hT.bridge' he hi (hc.trans h.symm)
  exact pathL_step hT ((inc_cn he hi).trans (cn_less h)) he hi hs
theorem dfs_no (hT : FoE n E t) {o : Option Nat} (hvb : v ≠ b) (h : ∀ e ∈ t, Inc E e v → o ≠ some e → ¬ Cn (pk E (lessL t e)) (oth (E.getD e (0, 0)) v) b) : ¬ Cn (pk E (lessO t o)) v b := by
  intro hc
  have hT' : FoE n E (lessO t o) := by
    cases o with
    | none => exact hT
    | some f => exact hT.less f
  obtain ⟨e, he, hi, hs⟩ := par_ex hT' hc hvb
  have h1 := sep_oth hc he hi hs
  have het : e ∈ t := by
    cases o with
    | none => exact he
    | some f => exact (mem_less.1 he).1
  refine h e het hi ?_ ?_
  · rintro rfl; exact (mem_less.1 he).2 rfl
  · refine cn_sub (fun x hx => ?_) h1
    obtain ⟨k1, k2⟩ := mem_less.1 hx
    refine mem_less.2 ⟨?_, k2⟩
    cases o with
    | none => exact k1
    | some f => exact (mem_less.1 k1).1
/-- How many single edges may still be visited. -/
def cmpN (E : List (Nat × Nat)) (t : List Nat) (v : Nat) (o : Option Nat) : Nat := ((lessO t o).filter fun x => decide (Cn (pk E (lessO t o)) v (E.getD x (0, 0)).1)).length
theorem cmp_less (hT : FoE n E t) {o : Option Nat} (ho : FromOk E t v o) (he : e ∈ t) (hi : Inc E e v) (hne : o ≠ some e) : cmpN E t (oth (E.getD e (0, 0)) v) (some e) < cmpN E t v o := by
  have hn : ((lessL t e).filter fun x => decide (Cn (pk E (lessL t e)) (oth (E.getD e (0, 0)) v) (E.getD x (0, 0)).1)).Nodup := (less_nodup hT.nodup).sublist List.filter_sublist
  have heo : e ∈ lessO t o := by
    cases o with
    | none => exact he
    | some f => exact mem_less.2 ⟨he, fun h => hne (by rw [h])⟩
  have h2 : (e :: ((lessL t e).filter fun x => decide (Cn (pk E (lessL t e)) (oth (E.getD e (0, 0)) v) (E.getD x (0, 0)).1))).length ≤ ((lessO t o).filter fun x => decide (Cn (pk E (lessO t o)) v (E.getD x (0, 0)).1)).length := by
    refine nodup_sub_le (List.nodup_cons.2 ⟨fun h => (mem_less.1 (List.mem_filter.1 h).1).2 rfl, hn⟩) fun x hx => ?_
    rw [List.mem_filter, decide_eq_true_eq]
    rcases List.mem_cons.1 hx with rfl | hx
    · refine ⟨heo, ?_⟩
      have h3 := inc_cn heo hi
      rcases inc_cases hi with ⟨k1, k2⟩ | ⟨k1, k2⟩
      · rw [k1]; exact .refl
      · rw [k2]; exact h3
    · rw [List.mem_filter, decide_eq_true_eq] at hx
      obtain ⟨k1, k2⟩ := hx
      refine ⟨?_, far_cn hT ho he hi hne k2⟩
      cases o with
      | none => exact (mem_less.1 k1).1
      | some f =>
        refine mem_less.2 ⟨(mem_less.1 k1).1, ?_⟩
        rintro rfl
        obtain ⟨hf, hj⟩ := ho x rfl
        have h5 := inc_cn k1 hj
        have h6 : Cn (pk E (lessL t e)) (oth (E.getD e (0, 0)) v) v := by
          rcases inc_cases hj with ⟨j1, j2⟩ | ⟨j1, j2⟩
          · rw [j1] at k2; exact k2
          · rw [j2] at k2; exact k2.trans h5.symm
        exact hT.bridge' he hi h6.symm
  unfold cmpN
  simp only [List.length_cons] at h2
  exact h2

/-! The cycle of a single edge. -/
/-- How often single edges end at a vertex. -/
def dgL (E : List (Nat × Nat)) (l : List Nat) (v : Nat) : Nat := (l.map fun e => (if (E.getD e (0, 0)).1 = v then 1 else 0) + (if (E.getD e (0, 0)).2 = v then 1 else 0)).sum
/-- The vertices on the path. -/
def vertsW (E : List (Nat × Nat)) (t : List Nat) (b : Nat) : List Nat → Nat → List Nat
  | [], a => [a]
  | e :: l, a => a :: vertsW E t b l (oth (E.getD e (0, 0)) a)
theorem vertsW_length (l : List Nat) : ∀ a, (vertsW E t b l a).length = l.length + 1 := by
  induction l with
  | nil => intro a; rfl
  | cons e l ih => intro a; rw [vertsW, List.length_cons, ih, List.length_cons]
theorem verts_stay (hT : FoE n E t) (he : Cn (pk E (lessL t e)) a b) (hc : Cn (pk E t) a b) : ∀ y ∈ vertsW E t b (pathL E t a b) a, Cn (pk E (lessL t e)) y b := by
  revert he
  refine path_ind (b := b) hT (P := fun a => Cn (pk E (lessL t e)) a b → ∀ y ∈ vertsW E t b (pathL E t a b) a, Cn (pk E (lessL t e)) y b) ?_ ?_ a hc
  · intro _ y hy
    rw [pathL_self, vertsW, List.mem_singleton] at hy
    rw [hy]; exact .refl
  · intro a f hc hf hj hs ih he y hy
    rw [pathL_step hT hc hf hj hs, vertsW] at hy
    rcases List.mem_cons.1 hy with rfl | hy
    · exact he
    · have hfe : f ≠ e := by rintro rfl; exact hs he
      exact ih ((inc_cn (mem_less.2 ⟨hf, hfe⟩) hj).symm.trans he) y hy
theorem verts_nodup (hT : FoE n E t) (hc : Cn (pk E t) a b) : (vertsW E t b (pathL E t a b) a).Nodup := by
  refine path_ind (b := b) hT (P := fun a => (vertsW E t b (pathL E t a b) a).Nodup) ?_ ?_ a hc
  · rw [pathL_self, vertsW]; simp
  · intro a e hc he hi hs ih
    rw [pathL_step hT hc he hi hs, vertsW, List.nodup_cons]
    refine ⟨fun hm => ?_, ih⟩
    have := verts_stay hT (sep_oth hc he hi hs) ((inc_cn he hi).symm.trans hc) a hm
    exact hs this
theorem verts_lt (hT : FoE n E t) (hc : Cn (pk E t) a b) (ha : a < n) : ∀ y ∈ vertsW E t b (pathL E t a b) a, y < n := by
  revert ha
  refine path_ind (b := b) hT (P := fun a => a < n → ∀ y ∈ vertsW E t b (pathL E t a b) a, y < n) ?_ ?_ a hc
  · intro ha y hy
    rw [pathL_self, vertsW, List.mem_singleton] at hy; omega
  · intro a e hc he hi hs ih ha y hy
    rw [pathL_step hT hc he hi hs, vertsW] at hy
    rcases List.mem_cons.1 hy with rfl | hy
    · exact ha
    · exact ih ((inc_cn he hi).lt (bd_pk hT.bd hT.lt) ha) y hy
theorem verts_ends (hT : FoE n E t) (hc : Cn (pk E t) a b) : a ∈ vertsW E t b (pathL E t a b) a ∧ b ∈ vertsW E t b (pathL E t a b) a := by
  refine path_ind (b := b) hT (P := fun a => a ∈ vertsW E t b (pathL E t a b) a ∧ b ∈ vertsW E t b (pathL E t a b) a) ?_ ?_ a hc
  · rw [pathL_self, vertsW]; simp
  · intro a e hc he hi hs ih
    rw [pathL_step hT hc he hi hs, vertsW]
    exact ⟨by simp, List.mem_cons_of_mem _ ih.2⟩
theorem dgL_cons (l : List Nat) : dgL E (e :: l) v = ((if (E.getD e (0, 0)).1 = v then 1 else 0) + (if (E.getD e (0, 0)).2 = v then 1 else 0)) + dgL E l v := by simp [dgL]
theorem dgL_perm {l m : List Nat} (h : l.Perm m) : dgL E l v = dgL E m v := (h.map _).sum_nat
theorem inc_dg (hi : Inc E e a) : ((if (E.getD e (0, 0)).1 = v then 1 else 0) + (if (E.getD e (0, 0)).2 = v then 1 else 0)) = (if a = v then 1 else 0) + (if oth (E.getD e (0, 0)) a = v then 1 else 0) := by
  rcases inc_cases hi with ⟨h1, h2⟩ | ⟨h1, h2⟩
  · rw [h1, h2]
  · rw [h1, h2, Nat.add_comm]
theorem path_dg (hT : FoE n E t) (hc : Cn (pk E t) a b) (v : Nat) : dgL E (pathL E t a b) v + (if a = v then 1 else 0) + (if b = v then 1 else 0) = if v ∈ vertsW E t b (pathL E t a b) a then 2 else 0 := by
  refine path_ind (b := b) hT (P := fun a => dgL E (pathL E t a b) v + (if a = v then 1 else 0) + (if b = v then 1 else 0) = if v ∈ vertsW E t b (pathL E t a b) a then 2 else 0) ?_ ?_ a hc
  · rw [pathL_self, vertsW]
    simp only [List.mem_singleton]
    by_cases h : b = v
    · rw [if_pos h, if_pos h.symm]; simp [dgL]
    · rw [if_neg h, if_neg (Ne.symm h)]; simp [dgL]
  · intro a e hc he hi hs ih
    have hnd := verts_nodup hT hc
    rw [pathL_step hT hc he hi hs, vertsW] at hnd ⊢
    rw [List.nodup_cons] at hnd
    rw [dgL_cons, inc_dg hi]
    by_cases hav : a = v
    · subst hav
      rw [if_neg hnd.1] at ih
      rw [if_pos (rfl : a = a), if_pos (List.mem_cons_self (a := a))]
      omega
    · have : (v ∈ a :: vertsW E t b (pathL E t (oth (E.getD e (0, 0)) a) b) (oth (E.getD e (0, 0)) a)) ↔ (v ∈ vertsW E t b (pathL E t (oth (E.getD e (0, 0)) a) b) (oth (E.getD e (0, 0)) a)) := by
        rw [List.mem_cons]
        exact ⟨fun h => h.elim (fun h => absurd h.symm hav) id, .inr⟩
      rw [if_neg hav]
      by_cases hm : v ∈ vertsW E t b (pathL E t (oth (E.getD e (0, 0)) a) b) (oth (E.getD e (0, 0)) a)
      · rw [if_pos hm] at ih
        rw [if_pos (this.2 hm)]; omega
      · rw [if_neg hm] at ih
        rw [if_neg (fun h => hm (this.1 h))]; omega
/-- The single edges of a cycle: at each vertex none or two end; as many as vertices; they are in one part. -/
theorem cycle_dg (hT : FoE n E t) (hc : Cn (pk E t) (E.getD e (0, 0)).1 (E.getD e (0, 0)).2) (ha : (E.getD e (0, 0)).1 < n) {c : List Nat} (hp : c.Perm (e :: pathL E t (E.getD e (0, 0)).1 (E.getD e (0, 0)).2)) :
    (∀ v, dgL E c v = 0 ∨ dgL E c v = 2) ∧ ((List.range n).filter fun v => decide (dgL E c v = 2)).length = c.length ∧ partsP n (pk E c) + c.length = n + 1 := by
  have key : ∀ v, dgL E c v = if v ∈ vertsW E t (E.getD e (0, 0)).2 (pathL E t (E.getD e (0, 0)).1 (E.getD e (0, 0)).2) (E.getD e (0, 0)).1 then 2 else 0 := by
    intro v
    rw [dgL_perm hp, dgL_cons, ← path_dg hT hc v]; omega
  have hl := hp.length_eq
  rw [List.length_cons] at hl
  refine ⟨fun v => ?_, ?_, ?_⟩
  · rw [key]; split
    · exact .inr rfl
    · exact .inl rfl
  · have hperm : ((List.range n).filter fun v => decide (dgL E c v = 2)).Perm (vertsW E t (E.getD e (0, 0)).2 (pathL E t (E.getD e (0, 0)).1 (E.getD e (0, 0)).2) (E.getD e (0, 0)).1) := by
      refine (List.perm_ext_iff_of_nodup (List.nodup_range.sublist List.filter_sublist) (verts_nodup hT hc)).2 fun v => ?_
      rw [List.mem_filter, List.mem_range, decide_eq_true_eq, key]
      constructor
      · rintro ⟨_, h⟩
        refine Classical.byContradiction fun hn => ?_
        rw [if_neg hn] at h; omega
      · intro h
        exact ⟨verts_lt hT hc ha v h, if_pos h⟩
    rw [hperm.length_eq, vertsW_length, hl]
  · have hsub : (pathL E t (E.getD e (0, 0)).1 (E.getD e (0, 0)).2).Nodup := path_nodup hT hc
    have hmem : ∀ x, x ∈ pathL E t (E.getD e (0, 0)).1 (E.getD e (0, 0)).2 ↔ x ∈ sepL E t (E.getD e (0, 0)).1 (E.getD e (0, 0)).2 := fun x => by rw [path_mem hT hc, mem_sep]
    have hpp : (pathL E t (E.getD e (0, 0)).1 (E.getD e (0, 0)).2).Perm (sepL E t (E.getD e (0, 0)).1 (E.getD e (0, 0)).2) := (List.perm_ext_iff_of_nodup hsub (hT.nodup.sublist List.filter_sublist)).2 hmem
    have hfo : FoE n E (sepL E t (E.getD e (0, 0)).1 (E.getD e (0, 0)).2) := ⟨hT.bd, hT.nodup.sublist List.filter_sublist, fun x hx => hT.lt x (mem_sep.1 hx).1, hT.fo.sub (pk_sub List.filter_sublist)⟩
    have h1 := (fo_parts (bd_pk hfo.bd hfo.lt)).2.1 hfo.fo
    have h2 : partsP n (pk E c) = partsP n (pk E (sepL E t (E.getD e (0, 0)).1 (E.getD e (0, 0)).2)) := by
      rw [← partsP_in (n := n) (ps := pk E (sepL E t (E.getD e (0, 0)).1 (E.getD e (0, 0)).2)) (p := E.getD e (0, 0)) (sep_cn hT hc)]
      refine partsP_congr fun x y => cn_same fun p => ?_
      rw [mem_pk, ← pk_cons, mem_pk]
      constructor
      · rintro ⟨z, hz, rfl⟩
        have := hp.mem_iff.1 hz
        rcases List.mem_cons.1 this with rfl | h
        · exact ⟨z, by simp, rfl⟩
        · exact ⟨z, List.mem_cons_of_mem _ ((hmem z).1 h), rfl⟩
      · rintro ⟨z, hz, rfl⟩
        refine ⟨z, hp.mem_iff.2 ?_, rfl⟩
        rcases List.mem_cons.1 hz with rfl | h
        · simp
        · exact List.mem_cons_of_mem _ ((hmem z).2 h)
    rw [pk_length, ← hpp.length_eq] at h1
    omega
end
end Go.Proofs.Ytepmfbgmkfkmkaa

