/-
  Texts of this claim, put together: TreeS, Has, OwnSet, CloneI, LawG, ConnB.
-/
import Derived.Test.YtplgbapbgcipdaaGreatDoorK09
import Derived.Deep.QuietTactic
import Derived.BigQuiet
import Derived.BigRegion
import Derived.Test.YtplgbapbgcipdaaGreatDoorK04
import Derived.Test.YtplgbapbgcipdaaGreatDoorK08
import Derived.Test.YtplgbapbgcipdaaGreatDoorK10
import Derived.Deep.Slices
import Derived.Test.YtplgbapbgcipdaaGreatDoorK02
/-! Plain laws of paths in spanning trees: the parents found by rounds, a search in depth, and the cycle of a single edge. No program is in sight. -/
namespace Go.Proofs.YtplgbapbgcipdaaGreatDoor

section
variable {E : List (Nat × Nat)} {t : List Nat} {n e f a b v w r : Nat}

/-! The parents, by rounds. -/
def parS (E : List (Nat × Nat)) (out : List Int) (e : Nat) : List Int :=
  if out.getD (E.getD e (0, 0)).1 0 ≠ -2 ∧ out.getD (E.getD e (0, 0)).2 0 = -2 then out.set (E.getD e (0, 0)).2 e
  else if out.getD (E.getD e (0, 0)).2 0 ≠ -2 ∧ out.getD (E.getD e (0, 0)).1 0 = -2 then out.set (E.getD e (0, 0)).1 e else out
def parRd (E : List (Nat × Nat)) (t : List Nat) (out : List Int) : List Int := t.foldl (parS E) out
def parRs (E : List (Nat × Nat)) (t : List Nat) (out : List Int) (k : Nat) : List Int := (List.range k).foldl (fun o _ => parRd E t o) out
def par0 (n r : Nat) : List Int := (List.replicate n (-2)).set r (-1)
/-- The parents of all vertices. -/
def parentsL (n : Nat) (E : List (Nat × Nat)) (t : List Nat) (r : Nat) : List Int := (List.range n).map fun v : Nat => if v = r then -1 else match parE E t r v with
  | some e => (e : Int)
  | none => -2
/-- What is known of the parents on the way. -/
structure ParG (n : Nat) (E : List (Nat × Nat)) (t : List Nat) (r : Nat) (out : List Int) : Prop where
  len : out.length = n
  root : out.getD r 0 = -1
  other : ∀ v, v < n → v ≠ r → out.getD v 0 = -2 ∨ ∃ e : Nat, parE E t r v = some e ∧ out.getD v 0 = e ∧ out.getD (oth (E.getD e (0, 0)) v) 0 ≠ -2
theorem getD_setI (xs : List Int) (i v : Nat) (x : Int) : (xs.set i x).getD v 0 = if v = i ∧ i < xs.length then x else xs.getD v 0 := by
  simp only [List.getD_eq_getElem?_getD, List.getElem?_set]
  by_cases h : i = v
  · subst h
    by_cases hl : i < xs.length
    · simp [hl]
    · simp [hl]
  · simp [h, Ne.symm h]
theorem parS_length (out : List Int) (e : Nat) : (parS E out e).length = out.length := by
  unfold parS; split
  · simp
  · split <;> simp
theorem parRd_length (out : List Int) : (parRd E t out).length = out.length := by
  unfold parRd
  induction t generalizing out with
  | nil => rfl
  | cons e t ih => rw [List.foldl_cons, ih, parS_length]
theorem parS_keep {out : List Int} (h : out.getD v 0 ≠ -2) : (parS E out e).getD v 0 = out.getD v 0 := by
  unfold parS
  split
  · rename_i h1
    rw [getD_setI, if_neg]
    rintro ⟨rfl, _⟩; exact h h1.2
  · split
    · rename_i h1
      rw [getD_setI, if_neg]
      rintro ⟨rfl, _⟩; exact h h1.2
    · rfl
theorem parRd_keep {out : List Int} (h : out.getD v 0 ≠ -2) : (parRd E t out).getD v 0 = out.getD v 0 := by
  unfold parRd
  induction t generalizing out with
  | nil => rfl
  | cons e t ih =>
    have h1 := parS_keep (E := E) (e := e) h
    rw [List.foldl_cons, ih (by rw [h1]; exact h), h1]
/-- One step: the vertex that is found has this parent. -/
theorem parS_new (hT : FoE n E t) (hcn : ∀ x y, x < n → y < n → Cn (pk E t) x y) (hr : r < n) {out : List Int} (hg : ParG n E t r out) (he : e ∈ t) {x y : Nat} (hx : x < n) (hy : y < n) (hi : Inc E e y) (ho : oth (E.getD e (0, 0)) y = x)
    (h1 : out.getD x 0 ≠ -2) (h2 : out.getD y 0 = -2) : ParG n E t r (out.set y e) := by
  have hyr : y ≠ r := by rintro rfl; rw [hg.root] at h2; omega
  have hxy : x ≠ y := by rintro rfl; exact h1 h2
  obtain ⟨i1, i2⟩ := inc_oth hi
  rw [ho] at i1 i2
  -- the single edge separates y from the root
  have hcx : Cn (pk E (lessL t e)) x r := by
    by_cases hxr : x = r
    · rw [hxr]; exact .refl
    · refine Classical.byContradiction fun hsep => ?_
      have hp := parE_eq hT (hcn x r hx hr) he i1 hsep
      rcases hg.other x hx hxr with h | ⟨e', h3, h4, h5⟩
      · exact h1 h
      · rw [hp] at h3
        injection h3 with h3
        subst h3
        rw [i2] at h5
        exact h5 h2
  have hsep : Sep E t y r e := by
    intro hc
    have := hT.bridge' he hi
    rw [ho] at this
    exact this (hc.trans hcx.symm)
  have hp := parE_eq hT (hcn y r hy hr) he hi hsep
  have hle := hg.len
  refine ⟨by simpa using hle, ?_, ?_⟩
  · rw [getD_setI, if_neg (fun h => hyr h.1.symm)]; exact hg.root
  · intro v hv hvr
    rw [getD_setI]
    by_cases hvy : v = y
    · subst hvy
      refine .inr ⟨e, hp, by rw [if_pos ⟨rfl, by omega⟩], ?_⟩
      rw [ho, getD_setI, if_neg (fun h => hxy h.1)]
      exact h1
    · rw [if_neg (fun h => hvy h.1)]
      rcases hg.other v hv hvr with h | ⟨e', h3, h4, h5⟩
      · exact .inl h
      · refine .inr ⟨e', h3, h4, ?_⟩
        rw [getD_setI]
        split
        · omega
        · exact h5
theorem parS_good (hT : FoE n E t) (hcn : ∀ x y, x < n → y < n → Cn (pk E t) x y) (hr : r < n) {out : List Int} (hg : ParG n E t r out) (he : e ∈ t) : ParG n E t r (parS E out e) := by
  have hb := getD_bd hT.bd (hT.lt e he)
  have h1 : oth (E.getD e (0, 0)) (E.getD e (0, 0)).1 = (E.getD e (0, 0)).2 := by unfold oth; rw [if_pos rfl]
  have h2 : oth (E.getD e (0, 0)) (E.getD e (0, 0)).2 = (E.getD e (0, 0)).1 := by
    unfold oth
    split
    · rename_i h; exact h.symm
    · rfl
  unfold parS
  split
  · rename_i h
    exact parS_new hT hcn hr hg he hb.1 hb.2 (.inr rfl) h2 h.1 h.2
  · split
    · rename_i h
      exact parS_new hT hcn hr hg he hb.2 hb.1 (.inl rfl) h1 h.1 h.2
    · exact hg
theorem parFold_good (hT : FoE n E t) (hcn : ∀ x y, x < n → y < n → Cn (pk E t) x y) (hr : r < n) : ∀ {l : List Nat} {out : List Int}, (∀ e ∈ l, e ∈ t) → ParG n E t r out → ParG n E t r (l.foldl (parS E) out)
  | [], _, _, hg => hg
  | e :: l, out, hl, hg => by
    rw [List.foldl_cons]
    exact parFold_good hT hcn hr (fun x hx => hl x (by simp [hx])) (parS_good hT hcn hr hg (hl e (by simp)))
/-- A round finds all vertices whose parent is known. -/
theorem parRd_far (hT : FoE n E t) (hcn : ∀ x y, x < n → y < n → Cn (pk E t) x y) (hr : r < n) {out : List Int} (hg : ParG n E t r out) (hv : v < n) (hvr : v ≠ r) (hp : parE E t r v = some e) (hw : out.getD (oth (E.getD e (0, 0)) v) 0 ≠ -2) : (parRd E t out).getD v 0 ≠ -2 := by
  obtain ⟨e', h1, he, hi, hs⟩ := parE_some hT (hcn v r hv hr) hvr
  rw [hp] at h1
  injection h1 with h1
  subst h1
  obtain ⟨l1, l2, hl⟩ := List.append_of_mem he
  have hsplit : parRd E t out = parRd E l2 (parS E (parRd E l1 out) e) := by
    unfold parRd; conv => lhs; rw [hl]
    rw [List.foldl_append, List.foldl_cons]
  rw [hsplit]
  have hg1 : ParG n E t r (parRd E l1 out) := parFold_good hT hcn hr (fun x hx => by rw [hl]; simp [hx]) hg
  have hw1 : (parRd E l1 out).getD (oth (E.getD e (0, 0)) v) 0 ≠ -2 := by rw [parRd_keep hw]; exact hw
  have hb := getD_bd hT.bd (hT.lt e he)
  have key : (parS E (parRd E l1 out) e).getD v 0 ≠ -2 := by
    by_cases h2 : (parRd E l1 out).getD v 0 = -2
    · unfold parS
      rcases inc_cases hi with ⟨k1, k2⟩ | ⟨k1, k2⟩
      · rw [k1, k2, if_neg (fun h => h.1 h2), if_pos ⟨hw1, h2⟩, getD_setI, if_pos ⟨rfl, by rw [hg1.len]; exact hv⟩]; omega
      · rw [k1, k2, if_pos ⟨hw1, h2⟩, getD_setI, if_pos ⟨rfl, by rw [hg1.len]; exact hv⟩]; omega
    · rw [parS_keep h2]; exact h2
  rw [parRd_keep key]; exact key
theorem par0_good (hr : r < n) : ParG n E t r (par0 n r) := by
  unfold par0
  refine ⟨by simp, ?_, ?_⟩
  · rw [getD_setI, if_pos ⟨rfl, by simpa using hr⟩]
  · intro v hv hvr
    rw [getD_setI, if_neg (fun h => hvr h.1)]
    left
    rw [List.getD_eq_getElem?_getD, List.getElem?_replicate, if_pos hv]; rfl
theorem parRs_succ (out : List Int) (k : Nat) : parRs E t out (k + 1) = parRd E t (parRs E t out k) := by simp [parRs, List.range_succ]
theorem parRs_spec (hT : FoE n E t) (hcn : ∀ x y, x < n → y < n → Cn (pk E t) x y) (hr : r < n) (k : Nat) : ParG n E t r (parRs E t (par0 n r) k) ∧ ∀ v, v < n → (sepL E t v r).length ≤ k → (parRs E t (par0 n r) k).getD v 0 ≠ -2 := by
  induction k with
  | zero =>
    refine ⟨par0_good hr, fun v hv h => ?_⟩
    have hvr : v = r := by
      refine Classical.byContradiction fun hne => ?_
      obtain ⟨e, h1, h2, h3⟩ := par_ex hT (hcn v r hv hr) hne
      have := List.length_pos_of_mem (mem_sep.2 ⟨h1, h3⟩); omega
    subst hvr
    show (par0 n v).getD v 0 ≠ -2
    rw [(par0_good (E := E) (t := t) hr).root]; omega
  | succ k ih =>
    obtain ⟨i1, i2⟩ := ih
    rw [parRs_succ]
    refine ⟨parFold_good hT hcn hr (fun _ h => h) i1, fun v hv h => ?_⟩
    by_cases hvr : v = r
    · subst hvr
      have h1 := i1.root
      rw [parRd_keep (by rw [h1]; omega), h1]; omega
    · obtain ⟨e, h1, he, hi, hs⟩ := parE_some hT (hcn v r hv hr) hvr
      have hl := sepL_step hT (hcn v r hv hr) he hi hs
      have hwn : oth (E.getD e (0, 0)) v < n := ((inc_cn he hi).lt (bd_pk hT.bd hT.lt) hv)
      exact parRd_far hT hcn hr i1 hv hvr h1 (i2 _ hwn (by omega))
/-- The rounds find the parents. -/
theorem parRs_eq (hT : FoE n E t) (hl : t.length + 1 = n) (hcn : ∀ x y, x < n → y < n → Cn (pk E t) x y) (hr : r < n) : parRs E t (par0 n r) n = parentsL n E t r := by
  obtain ⟨h1, h2⟩ := parRs_spec hT hcn hr n
  apply List.ext_getElem?
  intro v
  rcases Nat.lt_or_ge v n with hv | hv
  · have hle := h1.len
    have e1 : (parRs E t (par0 n r) n)[v]? = some ((parRs E t (par0 n r) n).getD v 0) := by
      rw [List.getD_eq_getElem?_getD, List.getElem?_eq_getElem (by omega)]; rfl
    rw [e1]
    unfold parentsL
    rw [List.getElem?_map, List.getElem?_range hv]
    simp only [Option.map_some, Option.some.injEq]
    by_cases hvr : v = r
    · subst hvr; rw [if_pos rfl]; exact h1.root
    · rw [if_neg hvr]
      have hs : (sepL E t v r).length ≤ n := Nat.le_trans (List.length_filter_le _ _) (by omega)
      rcases h1.other v hv hvr with h | ⟨e, h3, h4, _⟩
      · exact absurd h (h2 v hv hs)
      · rw [h3, h4]
  · rw [List.getElem?_eq_none (by rw [h1.len]; exact hv), List.getElem?_eq_none (by simp [parentsL]; exact hv)]
theorem parentsL_length : (parentsL n E t r).length = n := by simp [parentsL]

/-! The search in depth: behind 'from' (a single edge, or none). -/
def lessO (t : List Nat) : Option Nat → List Nat
  | none => t
  | some f => lessL t f
/-- What 'from' is: none, or a single edge of the tree at this vertex. -/
def FromOk (E : List (Nat × Nat)) (t : List Nat) (v : Nat) (o : Option Nat) : Prop := ∀ f, o = some f → f ∈ t ∧ Inc E f v
theorem far_cn (hT : FoE n E t) {o : Option Nat} (ho : FromOk E t v o) (he : e ∈ t) (hi : Inc E e v) (hne : o ≠ some e) {y : Nat} (h : Cn (pk E (lessL t e)) (oth (E.getD e (0, 0)) v) y) : Cn (pk E (lessO t o)) v y := by
  cases o with
  | none => exact (inc_cn he hi).trans (cn_less h)
  | some f =>
    obtain ⟨hf, hj⟩ := ho f rfl
    have hfe : f ≠ e := fun h => hne (by rw [h])
    have hef : e ∈ lessL t f := mem_less.2 ⟨he, fun h => hfe h.symm⟩
    refine (inc_cn hef hi).trans ?_
    rcases (cn_split' (mem_less.2 ⟨hf, hfe⟩) hj).1 h with k | ⟨k, _⟩ | ⟨k, k2⟩
    · rw [less_comm] at k; exact cn_less k
    · exact absurd (cn_less k).symm (hT.bridge' he hi)
    · -- w joined with the other end of f, v with y: v with w again
      exfalso
      have h2 : Cn (pk E (lessL t e)) (oth (E.getD e (0, 0)) v) v := (cn_less k).trans (inc_cn (mem_less.2 ⟨hf, hfe⟩) hj).symm
      exact hT.bridge' he hi h2.symm
theorem dfs_yes (hT : FoE n E t) {o : Option Nat} (ho : FromOk E t v o) (he : e ∈ t) (hi : Inc E e v) (hne : o ≠ some e) (h : Cn (pk E (lessL t e)) (oth (E.getD e (0, 0)) v) b) : Cn (pk E (lessO t o)) v b ∧ pathL E t v b = e :: pathL E t (oth (E.getD e (0, 0)) v) b := by
  refine ⟨far_cn hT ho he hi hne h, ?_⟩
  have hs : Sep E t v b e := fun hc => hT.bridge' he hi (hc.trans h.symm)
  exact pathL_step hT ((inc_cn he hi).trans (cn_less h)) he hi hs
theorem dfs_no (hT : FoE n E t) {o : Option Nat} (hvb : v ≠ b) (h : ∀ e ∈ t, Inc E e v → o ≠ some e → ¬ Cn (pk E (lessL t e)) (oth (E.getD e (0, 0)) v) b) : ¬ Cn (pk E (lessO t o)) v b := by
  intro hc
  have hT' : FoE n E (lessO t o) := by
    cases o with
    | none => exact hT
    | some f => exact hT.less f
  obtain ⟨e, he, hi, hs⟩ := par_ex hT' hc hvb
  have h1 := sep_oth hc he hi hs
  have het : e ∈ t := by
    cases o with
    | none => exact he
    | some f => exact (mem_less.1 he).1
  refine h e het hi ?_ ?_
  · rintro rfl; exact (mem_less.1 he).2 rfl
  · refine cn_sub (fun x hx => ?_) h1
    obtain ⟨k1, k2⟩ := mem_less.1 hx
    refine mem_less.2 ⟨?_, k2⟩
    cases o with
    | none => exact k1
    | some f => exact (mem_less.1 k1).1
/-- How many single edges may still be visited. -/
def cmpN (E : List (Nat × Nat)) (t : List Nat) (v : Nat) (o : Option Nat) : Nat := ((lessO t o).filter fun x => decide (Cn (pk E (lessO t o)) v (E.getD x (0, 0)).1)).length
theorem cmp_less (hT : FoE n E t) {o : Option Nat} (ho : FromOk E t v o) (he : e ∈ t) (hi : Inc E e v) (hne : o ≠ some e) : cmpN E t (oth (E.getD e (0, 0)) v) (some e) < cmpN E t v o := by
  have hn : ((lessL t e).filter fun x => decide (Cn (pk E (lessL t e)) (oth (E.getD e (0, 0)) v) (E.getD x (0, 0)).1)).Nodup := (less_nodup hT.nodup).sublist List.filter_sublist
  have heo : e ∈ lessO t o := by
    cases o with
    | none => exact he
    | some f => exact mem_less.2 ⟨he, fun h => hne (by rw [h])⟩
  have h2 : (e :: ((lessL t e).filter fun x => decide (Cn (pk E (lessL t e)) (oth (E.getD e (0, 0)) v) (E.getD x (0, 0)).1))).length ≤ ((lessO t o).filter fun x => decide (Cn (pk E (lessO t o)) v (E.getD x (0, 0)).1)).length := by
    refine nodup_sub_le (List.nodup_cons.2 ⟨fun h => (mem_less.1 (List.mem_filter.1 h).1).2 rfl, hn⟩) fun x hx => ?_
    rw [List.mem_filter, decide_eq_true_eq]
    rcases List.mem_cons.1 hx with rfl | hx
    · refine ⟨heo, ?_⟩
      have h3 := inc_cn heo hi
      rcases inc_cases hi with ⟨k1, k2⟩ | ⟨k1, k2⟩
      · rw [k1]; exact .refl
      · rw [k2]; exact h3
    · rw [List.mem_filter, decide_eq_true_eq] at hx
      obtain ⟨k1, k2⟩ := hx
      refine ⟨?_, far_cn hT ho he hi hne k2⟩
      cases o with
      | none => exact (mem_less.1 k1).1
      | some f =>
        refine mem_less.2 ⟨(mem_less.1 k1).1, ?_⟩
        rintro rfl
        obtain ⟨hf, hj⟩ := ho x rfl
        have h5 := inc_cn k1 hj
        have h6 : Cn (pk E (lessL t e)) (oth (E.getD e (0, 0)) v) v := by
          rcases inc_cases hj with ⟨j1, j2⟩ | ⟨j1, j2⟩
          · rw [j1] at k2; exact k2
          · rw [j2] at k2; exact k2.trans h5.symm
        exact hT.bridge' he hi h6.symm
  unfold cmpN
  simp only [List.length_cons] at h2
  exact h2

/-! The cycle of a single edge. -/
end
end Go.Proofs.YtplgbapbgcipdaaGreatDoor

/-! slices.Index and Contains on ints (from XLegal, for programs without firing). -/
namespace Go.Proofs.YtplgbapbgcipdaaGreatDoor
open Go.RowKit

set_option maxHeartbeats 1000000 in
theorem index_any (A : Option Addr) (c : Nat) (xs : List Int) (hn : xs.length ≤ 1048576) (v : Int) (w : World) (h : Reads w w.heap.size 1 A xs.length (ints xs)) :
    Calls Tryz.prog 67 #[.slice A xs.length c, .int .i64 v] w fun e w' => ∃ r : Int, e = .returned (.int .i64 r) ∧ Hid (0 ≤ r ↔ v ∈ xs) ∧ w = w' := by
  go_enter Tryz.func67, Tryz.ntmps67
  go_wp2
  go_loop [8] (fun i => ∃ k : Nat, k ≤ xs.length ∧ i = .int .i64 k ∧ Hid (v ∉ xs.take k)) (fun i => xs.length - (intOf i).toNat)
  case atStart => exact ⟨0, by omega, rfl, by simp [Hid]⟩
  case round =>
    obtain ⟨k, hk, rfl, HS⟩ := hrel
    by_cases hlt : k < xs.length
    · obtain ⟨x, hx⟩ := get_of_lt hlt
      obtain ⟨b, off, rfl, hb, hcell⟩ := h.at_ (ints_at hx)
      have hi : (k : Int) < (xs.length : Int) := by omega
      have htk := take_snoc hx
      by_cases hv : v = x
      · have e : (v == x) = true := by simpa using hv
        have HT : Hid (v ∈ xs) := by rw [hv]; exact List.mem_of_getElem? hx
        clear hx htk hv
        go_wp2
        go_ret
        exact ⟨k, rfl, ⟨fun _ => HT.out, fun _ => by omega⟩, rfl⟩
      · have e : (v == x) = false := by simpa using hv
        have HN : Hid (v ∉ xs.take (k + 1)) := by
          rw [htk, Hid, List.mem_append]
          rintro (hc | hc)
          · exact HS.out hc
          · exact hv (List.mem_singleton.1 hc)
        clear hx htk hv
        go_wp2
        go_round
        case rel => exact ⟨k + 1, by omega, by go_num, HN⟩
        case measure => simp [intOf]; omega
    · obtain rfl : k = xs.length := by omega
      rw [List.take_length] at HS
      go_wp2
      go_ret
      exact ⟨-1, rfl, ⟨fun h => absurd h (by decide), fun h => absurd h HS.out⟩, rfl⟩
set_option maxHeartbeats 1000000 in
theorem contains_any (A : Option Addr) (c : Nat) (xs : List Int) (hn : xs.length ≤ 1048576) (v : Int) (w : World) (h : Reads w w.heap.size 1 A xs.length (ints xs)) :
    Calls Tryz.prog 31 #[.slice A xs.length c, .int .i64 v] w fun e w' => e = .returned (.bool (decide (v ∈ xs))) ∧ w = w' := by
  have IC := Lib.hid (index_any A c xs hn v w h)
  go_enter Tryz.func31, Tryz.ntmps31
  go_wp2_with fail
  refine (IC.out).mono ?_
  rintro e w1 ⟨r, rfl, HR, rfl⟩
  go_wp2
  go_ret
  exact ⟨ret_bool (by rw [Bool.eq_iff_iff]; simp [HR.out]), rfl⟩

end Go.Proofs.YtplgbapbgcipdaaGreatDoor

/-! A slice of ints of the call's own: its block, and a store into it. -/
namespace Go.Proofs.YtplgbapbgcipdaaGreatDoor
open Go.RowKit

theorem OwnI.block {w : World} {base : Nat} {A : Option Addr} {c : Nat} {xs : List Int} (h : OwnI w base A c xs) (hn : 0 < xs.length) : ∃ g, A = some ⟨g, 0, none⟩ ∧ base ≤ g ∧ (∀ i, w.frozen? ⟨g, i, none⟩ = false) ∧ ∀ (k : Nat) (x : Int), xs[k]? = some x → w.cell? ⟨g, k, none⟩ = some (.int .i64 x) := by
  obtain ⟨h1, h2⟩ := h
  rcases h2 with ⟨h2, h3⟩ | ⟨g, cap, cur, hv, hg, hh, r1, r2, r3, r4⟩
  · simp at h2; omega
  · injection hv with hv1 hv2 hv3
    have hb : Blk w g 3 cur := hh
    refine ⟨g, hv1, hg, hb.frozen, fun k x hk => ?_⟩
    rw [hb.cell k]
    have hk' : k < xs.length := (List.getElem?_eq_some_iff.1 hk).1
    have e1 : (cur.toList.take (xs.length * 1))[k]? = some (.int .i64 x) := by rw [r4, ints_at hk]
    rw [Nat.mul_one, List.getElem?_take_of_lt hk', Array.getElem?_toList] at e1
    exact e1
theorem OwnI.set {w : World} {base : Nat} {A : Option Addr} {c g : Nat} {xs : List Int} (h : OwnI w base A c xs) (hA : A = some ⟨g, 0, none⟩) (k : Nat) (x : Int) : OwnI (w.setCell ⟨g, k, none⟩ (.int .i64 x)) base A c (xs.set k x) := by
  obtain ⟨h1, h2⟩ := h
  rcases h2 with ⟨h2, h3⟩ | ⟨g', cap, cur, hv, hg, hh, r1, r2, r3, r4⟩
  · simp at h2; rw [hA] at h2; simp at h2
  · have hv1 : A = some ⟨g', 0, none⟩ := by injection hv
    rw [hA] at hv1
    have hgg : g = g' := by injection hv1 with hv1; injection hv1
    subst hgg
    refine ⟨by rw [ints_length]; simp, .inr ⟨g, cap, cur.setIfInBounds k (.int .i64 x), by rw [List.length_set]; exact hv, hg, (Blk.set_ (show Blk w g 3 cur from hh) k _), by rw [List.length_set]; exact r1, r2, by simpa using r3, ?_⟩⟩
    rw [Array.toList_setIfInBounds, List.take_set, List.length_set, r4]
    simp [ints, List.map_set]
theorem OwnI.at_ {w : World} {base c g : Nat} {xs : List Int} (h : OwnI w base (some ⟨g, 0, none⟩) c xs) (hn : 0 < xs.length) : base ≤ g ∧ g < w.heap.size ∧ (∀ i, w.frozen? ⟨g, i, none⟩ = false) ∧ ∀ (k : Nat) (x : Int), xs[k]? = some x → w.cell? ⟨g, k, none⟩ = some (.int .i64 x) := by
  obtain ⟨g', e, h1, h2, h3⟩ := h.block hn
  injection e with e
  injection e with e
  subst e
  exact ⟨h1, (own_lt h ⟨_, rfl, rfl⟩).2, h2, h3⟩
theorem OwnI.put {w : World} {base c g : Nat} {xs : List Int} (h : OwnI w base (some ⟨g, 0, none⟩) c xs) (k : Nat) (x : Int) : OwnI (w.setCell ⟨g, k, none⟩ (.int .i64 x)) base (some ⟨g, 0, none⟩) c (xs.set k x) := h.set rfl k x
theorem OwnI.other {w : World} {base c g : Nat} {xs : List Int} (h : OwnI w base (some ⟨g, 0, none⟩) c xs) {p : Addr} (hp : p.block ≠ g) (u : Value) : OwnI (w.setCell p u) base (some ⟨g, 0, none⟩) c xs :=
  own_kept h fun k hk => by
    obtain ⟨a, ha, hk⟩ := hk
    injection ha with ha
    subst ha
    exact Below.heap_setCell w p u k (fun e => hp (by rw [← e, ← hk]))
theorem OwnI.kept {w w' : World} {base c g : Nat} {xs : List Int} (h : OwnI w base (some ⟨g, 0, none⟩) c xs) (hp : w'.heap[g]? = w.heap[g]?) : OwnI w' base (some ⟨g, 0, none⟩) c xs :=
  own_kept h fun k hk => by
    obtain ⟨a, ha, hk⟩ := hk
    injection ha with ha
    subst ha
    subst hk
    exact hp
end Go.Proofs.YtplgbapbgcipdaaGreatDoor

/-! slices.Clone on ints. -/
namespace Go.Proofs.YtplgbapbgcipdaaGreatDoor
open Go.RowKit

set_option maxHeartbeats 400000 in
/-- slices.Clone on ints. -/
theorem clone_any (A : Option Addr) (c : Nat) (xs : List Int) (hn : xs.length ≤ 1048000) (w : World) (h : Reads w w.heap.size 1 A xs.length (ints xs)) :
    Calls Tryz.prog 109 #[.slice A xs.length c] w fun e w' =>
      ∃ A' c', e = .returned (.slice A' xs.length c') ∧ OwnI w' w.heap.size A' c' xs ∧ Below w.heap.size w w' := by
  have q22 : ∀ (w : World) (a : Option Addr) (n c n' c' : Nat), (binOp .eql 25 (.slice a n c) (.slice none n' c')).run Tryz.prog w = .ok (.bool a.isNone) w := fun w a n c n' c' => Lib.run_eql_slice_nil w _ _ a n c n' c' Tryz.underlying25
  rcases A with _ | ad
  · have hx : xs = [] := by
      rcases xs with _ | ⟨x, xs⟩
      · rfl
      · obtain ⟨_, _, h, _⟩ := h.2 (by simp)
        cases h
    subst hx
    go_enter Tryz.func109, Tryz.ntmps109
    go_wp2
    go_ret
    exact ⟨none, 0, rfl, OwnI.nil_ _ _, Below.refl _ _⟩
  · go_enter Tryz.func109, Tryz.ntmps109
    have hown0 : (w.alloc (.cells #[] 3)).ownsRow w.heap.size 3 1 (.slice (some ⟨w.heap.size, 0, none⟩) 0 0) 0 [] := World.ownsRow_made w #[] 0 (Nat.le_refl _) (by simp [maxLen]) (by simp)
    have hr := h.alloc (Nat.le_refl _) (.cells #[] 3)
    go_wp2_with (at_builtin; refine append_go rfl (.tmp 5) (.tmp 6) _ rfl w.heap.size 3 Tryz.underlying25 info_int rfl (by omega) (some ⟨w.heap.size, 0, none⟩) 0 0 [] rfl hown0 w.heap.size (ints xs) rfl hr (by simp [ints, Value.oneCell']) (by omega) (by simp) ?_; intro A' c' w' hown' _ hb' _)
    go_ret
    refine ⟨A', c', rfl, ?_, ((Below.refl _ _).alloc (Nat.le_refl _) _).trans hb'⟩
    rw [Nat.zero_add, List.nil_append] at hown'
    exact hown'

end Go.Proofs.YtplgbapbgcipdaaGreatDoor

/-! What the frames of the graph laws share: a graph that came in, a list of ints of whatever name. -/
namespace Go.Proofs.YtplgbapbgcipdaaGreatDoor
open Go.ChangeShapes Go.WideShapes Go.ChangeAt Go.RowKit Go.Deep

section
variable {H : Type} {enc : TypeId × Value → H} {W : World}

set_option maxRecDepth 100000 in
/-- A graph. -/
theorem open_graph {fuel : Nat} {cs : List Value} {x : DataW H × List MemPlace} (h : DataW.trod enc Tryz.prog W 0 (fun _ => true) true fuel 24 cs = some x) :
    ∃ (n : Int) (a : Option Addr) (cap : Nat) (es : List E3), cs = [.int .i64 n, .slice a es.length cap] ∧ es.length ≤ maxLen ∧ Reads W W.heap.size 3 a es.length (edgeCells es) ∧ (Lit.int .i64 n).wf = true := by
  obtain ⟨ys, m, rfl, _, hlen, hys, hf⟩ := DataW.trod_struct Tryz.underlying24 h
  rw [show Tryz.prog.cellsOf 24 = 2 from by kernel_rfl] at hlen
  match cs, hlen with
  | [u0, u1], _ =>
    have f0 := hf 0 _ rfl
    have f1 := hf 1 _ rfl
    have hsz : ys.length = 2 := hys
    obtain ⟨y0, hy0⟩ : ∃ y, ys[0]? = some y := ⟨_, List.getElem?_eq_getElem (by omega)⟩
    obtain ⟨y1, hy1⟩ : ∃ y, ys[1]? = some y := ⟨_, List.getElem?_eq_getElem (by omega)⟩
    rw [hy0] at f0
    rw [hy1] at f1
    have ci : Tryz.prog.cellsOf 3 = 1 := by kernel_rfl
    have cl : Tryz.prog.cellsOf 22 = 1 := by kernel_rfl
    simp [ci, cl] at f0 f1
    obtain ⟨n, hn, _, hw⟩ := DataW.trod_int Tryz.underlying3 f0
    injection hn with hn
    subst hn
    rcases open_slice Tryz.underlying22 f1 with ⟨hcs, _⟩ | ⟨a, len, cap, k, fu, D, Pl, hcs, hb, hl, hm, hk, _, hx⟩
    · injection hcs with hcs
      subst hcs
      exact ⟨n, none, 0, [], rfl, by simp, Reads.nil_, hw⟩
    · injection hcs with hcs
      subst hcs
      have hk : k = cap := by simpa using hk
      have ce : Tryz.prog.cellsOf 106 = 3 := by kernel_rfl
      have each : ∀ i, i < len → ∃ e : E3, W.cell? (a.add (i * 3)) = some (.int .i64 e.1) ∧ W.cell? (a.add (i * 3 + 1)) = some (.int .i64 e.2.1) ∧ W.cell? (a.add (i * 3 + 2)) = some (.int .i64 e.2.2) := by
        intro i hi
        obtain ⟨cs', h1, h2⟩ := hx i (by omega)
        rw [ce] at h1
        obtain ⟨_, hlen, hcell⟩ := World.cells?_some h1
        obtain ⟨xs, k, _, _, _, hxl, hf⟩ := DataW.trod_struct Tryz.underlying106 h2
        match xs, hxl, cs', hlen with
        | [y0, y1, y2], _, [v0, v1, v2], _ =>
          have g0 := hf 0 _ rfl
          have g1 := hf 1 _ rfl
          have g2 := hf 2 _ rfl
          simp [ci] at g0 g1 g2
          have e0 := hcell 0 (by omega)
          have e1 := hcell 1 (by omega)
          have e2 := hcell 2 (by omega)
          rw [add_add] at e0 e1 e2
          obtain ⟨n0, q0, _, _⟩ := DataW.trod_int Tryz.underlying3 g0
          obtain ⟨n1, q1, _, _⟩ := DataW.trod_int Tryz.underlying3 g1
          obtain ⟨n2, q2, _, _⟩ := DataW.trod_int Tryz.underlying3 g2
          injection q0 with q0
          injection q1 with q1
          injection q2 with q2
          subst q0 q1 q2
          exact ⟨(n0, n1, n2), by simpa using e0, by simpa using e1, by simpa using e2⟩
      obtain ⟨F, hF⟩ := choose_lt each
      have hlen : ((List.range len).map F).length = len := by simp
      have hspot : 0 < len → ∃ b off, a = ⟨b, off, none⟩ ∧ b < W.heap.size := by
        intro h0
        have hc := (hF 0 h0).1
        obtain ⟨b, off, spot⟩ := a
        obtain rfl : spot = none := by simpa [Addr.add] using World.cell?_spot hc
        have := World.block_lt_of_cell? W _ hc
        exact ⟨b, off, rfl, by simpa [Addr.add] using this⟩
      refine ⟨n, some a, cap, (List.range len).map F, by rw [hlen], by rw [hlen]; omega, ⟨edgeCells_length _, fun hn => ?_⟩, hw⟩
      rw [hlen] at hn
      obtain ⟨b, off, rfl, hb2⟩ := hspot hn
      refine ⟨b, off, rfl, hb2, fun j u hu => ?_⟩
      have hj : j < (edgeCells ((List.range len).map F)).length := (List.getElem?_eq_some_iff.1 hu).1
      rw [edgeCells_length, hlen] at hj
      have hi : j / 3 < len := by omega
      have hget : ((List.range len).map F)[j / 3]? = some (F (j / 3)) := by rw [List.getElem?_map, List.getElem?_range hi]; rfl
      obtain ⟨k0, k1, k2⟩ := edgeCells_at hget
      obtain ⟨m0, m1, m2⟩ := hF _ hi
      rw [add_plain] at m0 m1 m2
      have h3 : j = j / 3 * 3 ∨ j = j / 3 * 3 + 1 ∨ j = j / 3 * 3 + 2 := by omega
      rcases h3 with h3 | h3 | h3
      · rw [h3, k0] at hu; injection hu with hu; rw [show off + j = off + (j / 3 * 3) from by omega, ← hu]; exact m0
      · rw [h3, k1] at hu; injection hu with hu; rw [show off + j = off + (j / 3 * 3 + 1) from by omega, ← hu]; exact m1
      · rw [h3, k2] at hu; injection hu with hu; rw [show off + j = off + (j / 3 * 3 + 2) from by omega, ← hu]; exact m2
end
end Go.Proofs.YtplgbapbgcipdaaGreatDoor

/-! Connectedness, as a bool. -/
namespace Go.Proofs.YtplgbapbgcipdaaGreatDoor
open Go.RowKit

/-- Is a right graph connected? -/
def connB (n : Nat) (es : List E3) : Bool := decide ((partsTo es n n).1 = 1)
theorem connB_iff {n : Nat} {es : List E3} (hG : RightG n es) : connB n es = true ↔ AllConn n es := by
  rw [← partsTo_connected hG]; simp [connB]
theorem connB_joins {n : Nat} {es : List E3} {f : List Nat} (hG : RightG n es) (h : Joins es f) : connB n es = decide (rootsTo f n = 1) := by
  rw [Bool.eq_iff_iff, connB_iff hG, ← joins_connected h hG]; simp

end Go.Proofs.YtplgbapbgcipdaaGreatDoor

