/-
  Texts of this claim, put together: RKickP.
-/
import Derived.Test.YthbannpmfdflaaaK13
import Derived.Test.YthbannpmfdflaaaK24
/-! Plain: kicking a stable configuration fires the vertices of the fire, each once. -/
namespace Go.Proofs.Ythbannpmfdflaaa
open Go.RowKit

theorem count_nodup {x : Nat} : ∀ {l : List Nat}, l.Nodup → x ∈ l → l.count x = 1
  | [], _, h => by cases h
  | y :: l, hn, h => by
    obtain ⟨h1, h2⟩ := List.nodup_cons.1 hn
    rcases List.mem_cons.1 h with rfl | h
    · rw [List.count_cons_self, List.count_eq_zero_of_not_mem h1]
    · have : y ≠ x := fun e => h1 (e ▸ h)
      rw [List.count_cons_of_ne this, count_nodup h2 h]
section
variable {n q : Nat} {es : List E3} {cs : List Int}
theorem flm_sum (es : List E3) (l : List Nat) (v : Nat) : ∀ k, flmTo es l v k = sumTo (fun w => if w ∈ l then tt es v w else 0) k
  | 0 => rfl
  | k + 1 => by simp only [flmTo, sumTo]; rw [flm_sum es l v k]
theorem jn_cons (hG : RightG n es) {t : List Nat} (hq : q ∉ t) (v : Nat) : jnE es (q :: t) v = jnE es [q] v + jnE es t v := by
  rw [jnE_flm hG, jnE_flm hG, jnE_flm hG, flm_sum, flm_sum, flm_sum, ← sumTo_add]
  refine sumTo_congr fun w _ => ?_
  by_cases h1 : w = q
  · subst h1; simp [hq]
  · by_cases h2 : w ∈ t <;> simp [h1, h2]
theorem jn_count (hG : RightG n es) {t : List Nat} (ht : t.Nodup) (v : Nat) : sumTo (fun w => (t.count w : Int) * tt es w v) n = jnE es t v := by
  rw [jnE_flm hG, flm_sum]
  refine sumTo_congr fun w _ => ?_
  by_cases h : w ∈ t
  · rw [if_pos h, count_nodup ht h, tt_comm]; simp
  · rw [if_neg h, List.count_eq_zero_of_not_mem h]; simp
/-- The configuration behind the vertices that fired. -/
theorem kick_run (hG : RightG n es) (hcl : cs.length = n) {t : List Nat} (hl : LOk n (q :: t)) {v : Nat} (hv : v < n) : (runD es n (kickL es q cs) t).getD v 0 = cs.getD v 0 + jnE es (q :: t) v - if v ∈ t then valE es v else 0 := by
  have hnd := List.nodup_cons.1 hl.1
  rw [runD_get (fun x hx => hl.2 x (by simp [hx])) hv, kickL_get hcl hG.ok, jn_count hG hnd.2, jn_cons hG hnd.1, valE_valS hG]
  by_cases h : v ∈ t
  · rw [if_pos h, count_nodup hnd.2 h]; omega
  · rw [if_neg h, List.count_eq_zero_of_not_mem h]; omega
theorem kick_leg (hG : RightG n es) (hcl : cs.length = n) : ∀ (k : Nat) (t : List Nat), LOk n (q :: t) → Leg es n q (kickL es q cs) t → ∃ t', burnL es (dualL n es cs) n k (q :: t) = q :: t' ∧ Leg es n q (kickL es q cs) t'
  | 0, t, _, hL => ⟨t, rfl, hL⟩
  | k + 1, t, hl, hL => by
    unfold burnL
    cases h : (readyL es (dualL n es cs) n (q :: t)).head? with
    | none => exact ⟨t, rfl, hL⟩
    | some v =>
      dsimp only
      obtain ⟨h1, h2, h3⟩ := head_ready h
      have hc : catL es (dualL n es cs) (q :: t) v = true := catL_true.2 ⟨h2, h3⟩
      rw [cat_dual hG cs hl h1] at hc
      rw [Bool.and_eq_true] at hc
      have hcat := of_decide_eq_true hc.2
      refine kick_leg hG hcl k (t ++ [v]) (hl.snoc h2 h1) (.snoc hL h1 (fun e => h2 (by simp [e])) ?_)
      rw [kick_run hG hcl hl h1, if_neg (fun e => h2 (by simp [e])), ← valE_valS hG]
      omega
/-- Across a cut there is an edge. -/
theorem cut_edge (hG : RightG n es) {R : List Nat} {a b : Nat} (h : Conn es a b) (ha : a ∈ R) (hb : b ∉ R) : ∃ u v, u ∈ R ∧ v ∉ R ∧ 0 < btw es v u := by
  induction h with
  | refl => exact absurd ha hb
  | @step x y _ hxy ih =>
    by_cases hx : x ∈ R
    · exact ⟨x, y, hx, hb, by rw [btw_comm]; exact (adj_btw hG x y).2 hxy⟩
    · exact ih hx
theorem btw_lt (hG : RightG n es) {u v : Nat} (h : 0 < btw es v u) : v < n := by
  obtain ⟨e, he, h1, h2, _⟩ := btw_pos (show btw es v u ≠ 0 by omega)
  have := hG.ok e he
  unfold okE at this
  omega
theorem jn_pos (hG : RightG n es) {R : List Nat} {u v : Nat} (hu : u ∈ R) (hun : u < n) (hne : u ≠ v) (h : 0 < btw es v u) : 1 ≤ jnE es R v := by
  rw [jnE_flm hG, flm_sum]
  have h0 : ∀ i, i < n → (0 : Int) ≤ (fun w => if w ∈ R then tt es v w else 0) i := fun i _ => by
    dsimp only
    split
    · exact (tt_bd hG.ok v i).1
    · exact Int.le_refl _
  have h1 := sumTo_one h0 u hun
  have h2 : tt es v u = btw es v u := by unfold tt; rw [if_neg (fun e => hne e.symm)]
  rw [if_pos hu, h2] at h1
  omega
theorem kick_plain {ds ss : List Int} {er : Int} (hz : burnErr n es q cs = 0) (hlen : es.length ≤ 40) (hcb : ∀ x ∈ cs, x ≤ 60) (hst : stabTo es cs q n = true) (h : SetE n es q (kickL es q cs) ds ss er) :
    er = 0 ∧ ss.length = n ∧ ss.getD q 0 = 0 ∧ (∀ v, v < n → 0 ≤ ss.getD v 0 ∧ ss.getD v 0 ≤ 1) ∧ (recB n es cs q = true ↔ ∀ v, v < n → v = q ∨ ss.getD v 0 = 1) ∧ (recB n es cs q = true ↔ cs = ds) := by
  obtain ⟨hR, hq, hcl⟩ := burn_rargs (show es.length ≤ 10000 by omega) hz
  have hG := right_of hR.hz
  obtain ⟨_, hC, _⟩ := root_zero (burn_root hz) |>.2
  have hkl : (kickL es q cs).length = n := by rw [kickL_length]; exact hcl
  obtain ⟨t, ht, hL⟩ := kick_leg (q := q) hG hcl n [] ⟨by simp, by simpa using hq⟩ .nil
  have hrec : recL n es cs q = q :: t := ht
  have hlok : LOk n (q :: t) := by rw [← hrec]; exact recL_ok hq
  have hnd := List.nodup_cons.1 hlok.1
  have hlt := nodup_len hlok
  have hn12 : n ≤ 12 := by have := hG.hi; omega
  have hsi := stabTo_iff.1 hst
  have hdone := burnL_done (es := es) (c := dualL n es cs) (k := n) (lok_one hq) (by simp)
  have hcalm : CalmD es n q (runD es n (kickL es q cs) t) := by
    intro v hv hvq
    rw [kick_run hG hcl hlok hv, ← valE_valS hG]
    have h1 := hsi v hv hvq
    by_cases hm : v ∈ t
    · rw [if_pos hm]
      have h2 := jn_rest hG (q :: t) v
      have h3 := (jnE_bd hG.ok (restL n (q :: t)) v).1
      omega
    · rw [if_neg hm]
      have hmm : v ∉ q :: t := by simp [hm, hvq]
      have h2 := hdone v hv
      have h4 : burnL es (dualL n es cs) n n [q] = q :: t := ht
      rw [h4, cat_dual hG cs hlok hv, decide_eq_false hmm] at h2
      have h3 : catchB es cs (q :: t) v = false := by simpa using h2
      unfold catchB at h3
      have := of_decide_eq_false h3
      omega
  have hval : ∀ v, valE es v ≤ 2000 := fun v => by have := (valE_bd hG.ok v).2; omega
  have hxq : (runD es n (kickL es q cs) t).getD q 0 ≤ 1048576 := by
    rw [kick_run hG hcl hlok hq, if_neg hnd.1]
    have h1 := (jnE_bd hG.ok (q :: t) q).2
    obtain ⟨x, hx⟩ := get_of_lt (xs := cs) (k := q) (by omega)
    have h2 := hcb x (List.mem_of_getElem? hx)
    rw [getD_at hx]
    omega
  have hS : SetE n es q (kickL es q cs) ((runD es n (kickL es q cs) t).set q 0) (cntD n t) 0 := by
    unfold SetE
    rw [if_pos]
    · refine ⟨some (runD es n (kickL es q cs) t, cntD n t), ⟨t, hL, ?_, hcalm, rfl, rfl⟩, ?_⟩
      · have : t.length + 1 ≤ n := hlt
        omega
      · unfold setOut stabOut
        dsimp only
        rw [if_neg (by omega)]
    · intro x hx
      obtain ⟨i, hi⟩ := List.getElem?_of_mem hx
      have hin : i < n := by have := (List.getElem?_eq_some_iff.1 hi).1; omega
      have h1 := kickL_get (q := q) (v := i) hcl hG.ok
      rw [getD_at hi] at h1
      have h2 := (jnE_bd hG.ok [q] i).2
      obtain ⟨y, hy⟩ := get_of_lt (xs := cs) (k := i) (by omega)
      have h3 := hcb y (List.mem_of_getElem? hy)
      rw [getD_at hy] at h1
      omega
  obtain ⟨rfl, rfl, rfl⟩ := SetE.unique hG.ok hkl h hS
  have hcnt : ∀ v, v < n → (cntD n t).getD v 0 = if v ∈ t then 1 else 0 := fun v hv => by
    rw [cntD_get hv]
    by_cases hm : v ∈ t
    · rw [if_pos hm, count_nodup hnd.2 hm]; rfl
    · rw [if_neg hm, List.count_eq_zero_of_not_mem hm]; rfl
  have hrecB : recB n es cs q = true ↔ ∀ v, v < n → v ∈ q :: t := by
    unfold recB
    rw [hst, Bool.true_and, decide_eq_true_iff, full_iff hq]
    unfold worstL
    rw [hrec]
    constructor
    · intro he v hv
      apply Classical.byContradiction
      intro hm
      have := mem_rest.2 ⟨hv, hm⟩
      rw [he] at this
      cases this
    · intro hall
      apply List.eq_nil_iff_forall_not_mem.2
      intro u hu
      obtain ⟨h2, h3⟩ := mem_rest.1 hu
      exact h3 (hall u h2)
  refine ⟨rfl, cntD_length, by rw [hcnt q hq, if_neg hnd.1], fun v hv => by rw [hcnt v hv]; split <;> omega, ?_, ?_⟩
  · rw [hrecB]
    constructor
    · intro hall v hv
      rcases List.mem_cons.1 (hall v hv) with e | e
      · exact .inl e
      · exact .inr (by rw [hcnt v hv, if_pos e])
    · intro hall v hv
      rcases hall v hv with e | e
      · simp [e]
      · rw [hcnt v hv] at e
        split at e
        · rename_i hm; simp [hm]
        · cases e
  · rw [hrecB]
    have hcq : cs.getD q 0 = 0 := by
      rcases burn_cases n es q cs with ⟨h1, hE⟩ | ⟨h1, h2, hE⟩ | ⟨h1, h2, hE⟩
      · rw [hz] at hE; exact absurd hE.symm h1
      · rw [hz] at hE; cases hE
      · simpa using h2
    have hrl : (runD es n (kickL es q cs) t).length = n := runD_length hkl
    constructor
    · intro hall
      refine list_ext_n hcl (by rw [List.length_set]; exact hrl) fun i hi => ?_
      by_cases hiq : i = q
      · subst hiq
        rw [List.getElem?_set_self (by omega)]
        obtain ⟨x, hx⟩ := get_of_lt (xs := cs) (k := i) (by omega)
        rw [getD_at hx] at hcq
        rw [hx, hcq]
      · rw [List.getElem?_set_ne (fun e => hiq e.symm)]
        have h1 := kick_run hG hcl hlok hi
        have hit : i ∈ t := by
          rcases List.mem_cons.1 (hall i hi) with e | e
          · exact absurd e hiq
          · exact e
        rw [if_pos hit] at h1
        have h2 := jn_rest hG (q :: t) i
        have h3 : restL n (q :: t) = [] := by
          apply List.eq_nil_iff_forall_not_mem.2
          intro u hu
          obtain ⟨h4, h5⟩ := mem_rest.1 hu
          exact h5 (hall u h4)
        rw [h3] at h2
        have h4 : jnE es [] i = 0 := by rw [jnE_flm hG, flmTo_nil]
        obtain ⟨x, hx⟩ := get_of_lt (xs := cs) (k := i) (by omega)
        obtain ⟨y, hy⟩ := get_of_lt (xs := runD es n (kickL es q cs) t) (k := i) (by omega)
        rw [getD_at hx, getD_at hy] at h1
        rw [hx, hy]
        congr 1
        omega
    · intro he
      apply Classical.byContradiction
      intro hnall
      simp only [Classical.not_forall] at hnall
      obtain ⟨v0, hv0, hm0⟩ := hnall
      obtain ⟨u, v, hu, hv, hb⟩ := cut_edge hG ((hC q hq).symm.trans (hC v0 hv0)) (show q ∈ q :: t by simp) hm0
      have hvn := btw_lt hG hb
      have hvq : v ≠ q := fun e => hv (by simp [e])
      have hvt : v ∉ t := fun e => hv (by simp [e])
      have h1 := kick_run hG hcl hlok hvn
      rw [if_neg hvt] at h1
      have h2 := jn_pos hG hu (hlok.2 u hu) (fun e => hv (by rw [← e]; exact hu)) hb
      have h3 : ((runD es n (kickL es q cs) t).set q 0).getD v 0 = (runD es n (kickL es q cs) t).getD v 0 := by
        rw [List.getD_eq_getElem?_getD, List.getElem?_set_ne (fun e => hvq e.symm), ← List.getD_eq_getElem?_getD]
      rw [← he] at h3
      omega
end
end Go.Proofs.Ythbannpmfdflaaa

