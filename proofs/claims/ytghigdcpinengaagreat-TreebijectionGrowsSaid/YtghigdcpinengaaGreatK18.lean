/-
  Texts of this claim, put together: TreeS.
-/
import Derived.Test.YtghigdcpinengaaGreatK13
/-! Plain laws of paths in spanning trees: the parents found by rounds, a search in depth, and the cycle of a single edge. No program is in sight. -/
namespace Go.Proofs.YtghigdcpinengaaGreat

section
variable {E : List (Nat × Nat)} {t : List Nat} {n e f a b v w r : Nat}

/-! The parents, by rounds. -/
/-- The parents of all vertices. -/
def parentsL (n : Nat) (E : List (Nat × Nat)) (t : List Nat) (r : Nat) : List Int := (List.range n).map fun v : Nat => if v = r then -1 else match parE E t r v with
  | some e => (e : Int)
  | none => -2
theorem parentsL_length : (parentsL n E t r).length = n := by simp [parentsL]

/-! The search in depth: behind 'from' (a single edge, or none). -/
def lessO (t : List Nat) : Option Nat → List Nat
  | none => t
  | some f => lessL t f
/-- What 'from' is: none, or a single edge of the tree at this vertex. -/
def FromOk (E : List (Nat × Nat)) (t : List Nat) (v : Nat) (o : Option Nat) : Prop := ∀ f, o = some f → f ∈ t ∧ Inc E f v
theorem far_cn (hT : FoE n E t) {o : Option Nat} (ho : FromOk E t v o) (he : e ∈ t) (hi : Inc E e v) (hne : o ≠ some e) {y : Nat} (h : Cn (pk E (lessL t e)) (oth (E.getD e (0, 0)) v) y) : Cn (pk E (lessO t o)) v y := by
  cases o with
  | none => exact (inc_cn he hi).trans (cn_less h)
  | some f =>
    obtain ⟨hf, hj⟩ := ho f rfl
    have hfe : f ≠ e := fun h => hne (by rw [h])
    have hef : e ∈ lessL t f := mem_less.2 ⟨he, fun h => hfe h.symm⟩
    refine (inc_cn hef hi).trans ?_
    rcases (cn_split' (mem_less.2 ⟨hf, hfe⟩) hj).1 h with k | ⟨k, _⟩ | ⟨k, k2⟩
    · rw [less_comm] at k; exact cn_less k
    · exact absurd (cn_less k).symm (hT.bridge' he hi)
    · -- w joined with the other end of f, v with y: v with w again
      exfalso
      have h2 : Cn (pk E (lessL t e)) (oth (E.getD e (0, 0)) v) v := (cn_less k).trans (inc_cn (mem_less.2 ⟨hf, hfe⟩) hj).symm
      exact hT.bridge' he hi h2.symm
theorem dfs_yes (hT : FoE n E t) {o : Option Nat} (ho : FromOk E t v o) (he : e ∈ t) (hi : Inc E e v) (hne : o ≠ some e) (h : Cn (pk E (lessL t e)) (oth (E.getD e (0, 0)) v) b) : Cn (pk E (lessO t o)) v b ∧ pathL E t v b = e :: pathL E t (oth (E.getD e (0, 0)) v) b := by
  refine ⟨far_cn hT ho he hi hne h, ?_⟩
  have hs : Sep E t v b e := fun hc => hT.bridge' he hi (hc.trans h.symm)
  exact pathL_step hT ((inc_cn he hi).trans (cn_less h)) he hi hs
theorem dfs_no (hT : FoE n E t) {o : Option Nat} (hvb : v ≠ b) (h : ∀ e ∈ t, Inc E e v → o ≠ some e → ¬ Cn (pk E (lessL t e)) (oth (E.getD e (0, 0)) v) b) : ¬ Cn (pk E (lessO t o)) v b := by
  intro hc
  have hT' : FoE n E (lessO t o) := by
    cases o with
    | none => exact hT
    | some f => exact hT.less f
  obtain ⟨e, he, hi, hs⟩ := par_ex hT' hc hvb
  have h1 := sep_oth hc he hi hs
  have het : e ∈ t := by
    cases o with
    | none => exact he
    | some f => exact (mem_less.1 he).1
  refine h e het hi ?_ ?_
  · rintro rfl; exact (mem_less.1 he).2 rfl
  · refine cn_sub (fun x hx => ?_) h1
    obtain ⟨k1, k2⟩ := mem_less.1 hx
    refine mem_less.2 ⟨?_, k2⟩
    cases o with
    | none => exact k1
    | some f => exact (mem_less.1 k1).1
/-- How many single edges may still be visited. -/
def cmpN (E : List (Nat × Nat)) (t : List Nat) (v : Nat) (o : Option Nat) : Nat := ((lessO t o).filter fun x => decide (Cn (pk E (lessO t o)) v (E.getD x (0, 0)).1)).length
theorem cmp_less (hT : FoE n E t) {o : Option Nat} (ho : FromOk E t v o) (he : e ∈ t) (hi : Inc E e v) (hne : o ≠ some e) : cmpN E t (oth (E.getD e (0, 0)) v) (some e) < cmpN E t v o := by
  have hn : ((lessL t e).filter fun x => decide (Cn (pk E (lessL t e)) (oth (E.getD e (0, 0)) v) (E.getD x (0, 0)).1)).Nodup := (less_nodup hT.nodup).sublist List.filter_sublist
  have heo : e ∈ lessO t o := by
    cases o with
    | none => exact he
    | some f => exact mem_less.2 ⟨he, fun h => hne (by rw [h])⟩
  have h2 : (e :: ((lessL t e).filter fun x => decide (Cn (pk E (lessL t e)) (oth (E.getD e (0, 0)) v) (E.getD x (0, 0)).1))).length ≤ ((lessO t o).filter fun x => decide (Cn (pk E (lessO t o)) v (E.getD x (0, 0)).1)).length := by
    refine nodup_sub_le (List.nodup_cons.2 ⟨fun h => (mem_less.1 (List.mem_filter.1 h).1).2 rfl, hn⟩) fun x hx => ?_
    rw [List.mem_filter, decide_eq_true_eq]
    rcases List.mem_cons.1 hx with rfl | hx
    · refine ⟨heo, ?_⟩
      have h3 := inc_cn heo hi
      rcases inc_cases hi with ⟨k1, k2⟩ | ⟨k1, k2⟩
      · rw [k1]; exact .refl
      · rw [k2]; exact h3
    · rw [List.mem_filter, decide_eq_true_eq] at hx
      obtain ⟨k1, k2⟩ := hx
      refine ⟨?_, far_cn hT ho he hi hne k2⟩
      cases o with
      | none => exact (mem_less.1 k1).1
      | some f =>
        refine mem_less.2 ⟨(mem_less.1 k1).1, ?_⟩
        rintro rfl
        obtain ⟨hf, hj⟩ := ho x rfl
        have h5 := inc_cn k1 hj
        have h6 : Cn (pk E (lessL t e)) (oth (E.getD e (0, 0)) v) v := by
          rcases inc_cases hj with ⟨j1, j2⟩ | ⟨j1, j2⟩
          · rw [j1] at k2; exact k2
          · rw [j2] at k2; exact k2.trans h5.symm
        exact hT.bridge' he hi h6.symm
  unfold cmpN
  simp only [List.length_cons] at h2
  exact h2

/-! The cycle of a single edge. -/
end
end Go.Proofs.YtghigdcpinengaaGreat

