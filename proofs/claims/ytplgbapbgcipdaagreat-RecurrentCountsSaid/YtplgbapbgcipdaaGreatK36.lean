/-
  Texts of this claim, put together: FireE, Sup2.
-/
import Derived.Test.YtplgbapbgcipdaaGreatK33
import Derived.Test.YtplgbapbgcipdaaGreatK08
import Derived.Test.YtplgbapbgcipdaaGreatK23
import Derived.Test.YtplgbapbgcipdaaGreatK32
import Derived.Test.YtplgbapbgcipdaaGreatK26
import Derived.Test.YtplgbapbgcipdaaGreatK12
import Derived.Stop.RegionWithIn
/-! Fires over a graph: that all burns is that a configuration is superstable; the configuration of a tree is right, superstable and stable. -/
namespace Go.Proofs.YtplgbapbgcipdaaGreat
open Go.RowKit

def incP (v : Nat) (l : List Nat) (p : Nat × Nat) : Bool := decide (p.1 = v ∨ p.2 = v) && decide (oth p v ∈ l)
theorem degTo_filter (E : List (Nat × Nat)) (v : Nat) (l : List Nat) : degTo E v l = (E.filter (incP v l)).length := by
  have h1 : (List.range E.length).map (fun e => E.getD e (0, 0)) = E := by
    apply List.ext_getElem?
    intro i
    by_cases hi : i < E.length
    · simp [hi]
    · simp [hi]
  conv => rhs; rw [← h1, List.filter_map, List.length_map]
  unfold degTo
  rfl
theorem deg_one {n : Int} {e : E3} (h : okE n e) (v : Nat) {l : List Nat} (hv : v ∉ l) : (((List.replicate e.2.2.toNat (e.1.toNat, e.2.1.toNat)).filter (incP v l)).length : Int) = jnT l v e := by
  obtain ⟨a, b, k⟩ := e
  unfold okE at h
  dsimp only at h
  have hf : ∀ (k : Nat) (p : Nat × Nat), ((List.replicate k p).filter (incP v l)).length = if incP v l p = true then k else 0 := by
    intro k p
    induction k with
    | zero => simp
    | succ k ih =>
      rw [List.replicate_succ, List.filter_cons]
      by_cases hp : incP v l p = true
      · rw [if_pos hp] at ih ⊢
        rw [if_pos hp, List.length_cons, ih]
      · rw [if_neg hp] at ih ⊢
        rw [if_neg hp, ih]
  rw [hf]
  obtain ⟨a, rfl⟩ := Int.eq_ofNat_of_zero_le h.1
  obtain ⟨b, rfl⟩ := Int.eq_ofNat_of_zero_le (show 0 ≤ b by omega)
  unfold jnT incP oth
  dsimp only
  simp only [Int.toNat_natCast]
  by_cases ha : a = v
  · subst ha
    by_cases hb : b = a
    · subst hb; simp [hv]
    · have hb' : ¬ ((a : Int) = (b : Int)) := by omega
      by_cases hm : b ∈ l
      · simp [hm, hb']; omega
      · simp [hm, hb']; omega
  · by_cases hb : b = v
    · subst hb
      have hb' : ¬ ((a : Int) = (b : Int)) := by omega
      by_cases hm : a ∈ l
      · simp [hm, ha, hb']; omega
      · simp [hm, ha, hb']
    · have h1 : ¬ ((a : Int) = (v : Int)) := by omega
      have h2 : ¬ ((b : Int) = (v : Int)) := by omega
      simp [ha, hb, h1, h2]
theorem deg_jn {n : Int} {es : List E3} (h : ∀ e ∈ es, okE n e) (v : Nat) {l : List Nat} (hv : v ∉ l) : (degTo (endsL es) v l : Int) = jnE es l v := by
  rw [degTo_filter]
  induction es with
  | nil => rfl
  | cons e es ih =>
    have e1 : endsL (e :: es) = List.replicate e.2.2.toNat (e.1.toNat, e.2.1.toNat) ++ endsL es := rfl
    have e2 : jnE (e :: es) l v = jnT l v e + jnE es l v := by unfold jnE; rw [List.map_cons, List.sum_cons]
    rw [e1, List.filter_append, List.length_append, e2, ← ih (fun x hx => h x (by simp [hx])), ← deg_one (h e (by simp)) v hv]
    omega
theorem deg_joins {n : Nat} {es : List E3} (hG : RightG n es) {v : Nat} {l : List Nat} (hl : LOk n l) (hv : v ∉ l) : (degTo (endsL es) v l : Int) = joinsN es v l := by
  rw [deg_jn hG.ok v hv, jnE_flm hG, flm_joins l hl hv]
/-- All burns, in the words of chapter 23. -/
theorem fburns_iff {n q : Nat} {es : List E3} (hG : RightG n es) (hq : q < n) (cs : List Int) : restL n (burntL es cs n q) = [] ↔ BurnsAll (endsL es) n q cs := by
  have he : ∀ a b, 0 ≤ btw es a b := fun a b => (btw_bd hG.ok a b).1
  have hl0 : LOk n [q] := ⟨by simp, by simpa using hq⟩
  constructor
  · intro hr O hqO hnd hlt hcl v hv
    have h1 := burns_same (es := es) (c := cs) (n := n) (l := [q]) (l' := O) (by simpa using hqO) (fun u hu => by
      unfold catL
      by_cases hm : u ∈ O
      · simp [hm]
      · have := hcl u hu hm
        rw [deg_joins hG ⟨hnd, hlt⟩ hm] at this
        have h2 : ¬ cs.getD u 0 < joinsN es u O := by omega
        rw [decide_eq_false h2]; simp) ⟨hnd, hlt⟩ he n hl0
    refine h1 v (Classical.byContradiction fun hm => ?_)
    have : v ∈ restL n (burntL es cs n q) := mem_rest.2 ⟨hv, hm⟩
    rw [hr] at this; simp at this
  · intro h
    have hok : LOk n (burntL es cs n q) := burnL_ok n [q] hl0
    rw [List.eq_nil_iff_forall_not_mem]
    intro v hv
    obtain ⟨h1, h2⟩ := mem_rest.1 hv
    refine h2 (h (burntL es cs n q) ((burnL_pre n [q]).subset (by simp)) hok.1 hok.2 (fun u hu hm => ?_) v h1)
    have h3 := burnL_done (es := es) (c := cs) (n := n) (k := n) (l := [q]) hl0 (by simp) u hu
    rw [deg_joins hG hok hm]
    change catL es cs (burntL es cs n q) u = false at h3
    refine Classical.byContradiction fun h4 => ?_
    rw [catL_true.2 ⟨hm, by omega⟩] at h3; cases h3
theorem cfg_iff {n q : Nat} {es : List E3} {cs : List Int} : cfgErr n es q cs = 0 ↔ burnErr n es q cs = 0 ∧ BurnsAll (endsL es) n q cs := by
  constructor
  · intro h
    obtain ⟨h1, h2, _⟩ := cfg_zero h
    obtain ⟨hG, _, _, hq, _⟩ := conf_zero (burn_zero h1).1
    exact ⟨h1, (fburns_iff hG (by omega) cs).1 h2⟩
  · rintro ⟨h1, h2⟩
    obtain ⟨hG, _, _, hq, _⟩ := conf_zero (burn_zero h1).1
    have h3 := (fburns_iff hG (by omega) cs).2 h2
    unfold cfgErr superE
    rw [if_pos h1]
    simp [h3]
theorem jnE_mono {n : Int} {es : List E3} (h : ∀ e ∈ es, okE n e) {l m : List Nat} (hs : ∀ u ∈ l, u ∈ m) (v : Int) : jnE es l v ≤ jnE es m v := by
  induction es with
  | nil => exact Int.le_refl _
  | cons e es ih =>
    have e2 : ∀ l, jnE (e :: es) l v = jnT l v e + jnE es l v := fun l => by unfold jnE; rw [List.map_cons, List.sum_cons]
    rw [e2, e2]
    have h1 := ih fun x hx => h x (by simp [hx])
    have h2 : jnT l v e ≤ jnT m v e := by
      have hb := (jnT_bd (h e (by simp)) m v).1
      unfold jnT at hb ⊢
      by_cases hc : e.1 ≠ e.2.1 ∧ ((e.1 = v ∧ e.2.1.toNat ∈ l) ∨ (e.2.1 = v ∧ e.1.toNat ∈ l))
      · rw [if_pos hc, if_pos ⟨hc.1, hc.2.imp (fun x => ⟨x.1, hs _ x.2⟩) (fun x => ⟨x.1, hs _ x.2⟩)⟩]
        exact Int.le_refl _
      · rw [if_neg hc]; exact hb
    omega
/-- What burns all is stable. -/
theorem burns_stab {n q : Nat} {es : List E3} (hG : RightG n es) (hq : q < n) {cs : List Int} (h : BurnsAll (endsL es) n q cs) : stabTo es cs q n = true := by
  unfold stabTo
  rw [List.all_eq_true]
  intro v hv
  have hv := List.mem_range.1 hv
  rw [Bool.or_eq_true, decide_eq_true_eq, decide_eq_true_eq]
  by_cases hvq : v = q
  · exact .inl hvq
  · right
    refine Classical.byContradiction fun hc => ?_
    have hO : v ∉ (List.range n).filter fun u => !decide (u = v) := by simp
    refine hO (h _ (List.mem_filter.2 ⟨List.mem_range.2 hq, by simp; omega⟩) (List.nodup_range.sublist List.filter_sublist) (fun u hu => List.mem_range.1 (List.mem_filter.1 hu).1) (fun u hu hm => ?_) v hv)
    have : u = v := Classical.byContradiction fun hne => hm (List.mem_filter.2 ⟨List.mem_range.2 hu, by simp [hne]⟩)
    subst this
    rw [deg_jn hG.ok u hO]
    have h1 := jnE_mono hG.ok (l := (List.range n).filter fun x => !decide (x = u)) (m := List.range n) (fun x hx => (List.mem_filter.1 hx).1) (u : Int)
    rw [← valE_jn hG.ok] at h1
    omega
theorem root_of {n q : Nat} {es : List E3} (hj : joinErr n es = 0) (hq : q < n) : rootErr n es q = 0 := by
  obtain ⟨h1, _, h2⟩ := join_zero hj
  rcases root_cases n es q with ⟨a, _⟩ | ⟨_, a, _⟩ | ⟨_, _, a, _⟩ | ⟨_, _, _, a⟩
  · exact absurd h1 a
  · rw [a] at h2; cases h2
  · unfold vertB at a; simp at a; omega
  · exact a
theorem le_sum_of {l : List Int} (h : ∀ x ∈ l, 0 ≤ x) : ∀ x ∈ l, x ≤ l.sum := by
  induction l with
  | nil => simp
  | cons a l ih =>
    have h1 : 0 ≤ l.sum := by
      clear ih
      have : ∀ l : List Int, (∀ x ∈ l, 0 ≤ x) → 0 ≤ l.sum := by
        intro l
        induction l with
        | nil => intro _; exact Int.le_refl _
        | cons a l ih => intro h; rw [List.sum_cons]; have := h a (by simp); have := ih fun x hx => h x (by simp [hx]); omega
      exact this l fun x hx => h x (by simp [hx])
    intro x hx
    rw [List.sum_cons]
    have ha := h a (by simp)
    rcases List.mem_cons.1 hx with rfl | hx
    · omega
    · have := ih (fun x hx => h x (by simp [hx])) x hx; omega
theorem getD_mem {l : List Int} (h : ∀ v, 0 ≤ l.getD v 0) : ∀ x ∈ l, 0 ≤ x := by
  intro x hx
  obtain ⟨i, hi, rfl⟩ := List.mem_iff_getElem.1 hx
  have := h i
  rw [List.getD_eq_getElem?_getD, List.getElem?_eq_getElem hi] at this
  exact this
/-- The configuration of a tree is right. -/
theorem conf_right {m p : Nat} {es : List E3} {t : List Nat} (hj : joinErr m es = 0) (hG : RightG m es) (hp : p < m) (hm : (endsL es).length ≤ 1000) : burnErr m es p (confN (endsL es) m p t) = 0 := by
  obtain ⟨h1, h2, h3, h4⟩ := conf_facts (t := t) (bd_ends hG) hp
  have h5 := getD_mem h2
  have h6 := le_sum_of h5
  have hc := conf_of (root_of hj hp) h1 (fun x hx => by have := h5 x hx; omega) (fun x hx => by have := h6 x hx; omega) (fun v _ _ => h2 v)
  unfold burnErr
  rw [if_neg (fun h => h hc), Int.toNat_natCast, if_neg (fun h => h h3)]
theorem conf_cfg {m p : Nat} {es : List E3} {t : List Nat} (hj : joinErr m es = 0) (hR : TreeR m es t) (hp : p < m) (hm : (endsL es).length ≤ 1000) : cfgErr m es p (confN (endsL es) m p t) = 0 ∧ stabTo es (confN (endsL es) m p t) p m = true := by
  have hb := conf_burns (bd_ends hR.hG) hp hR.tr
  exact ⟨cfg_iff.2 ⟨conf_right hj hR.hG hp hm, hb⟩, burns_stab hR.hG hp hb⟩
end Go.Proofs.YtplgbapbgcipdaaGreat

/-! Package superstable: the iterator configurations, a closure that calls itself. -/
namespace Go.Proofs.YtplgbapbgcipdaaGreat
open Go.RowKit Go.Shelf
attribute [local go_sem] Oper.semAt_some


/-- Where the closure's parts lie. -/
structure FA where
  bg : Nat
  by_ : Nat
  bc : Nat
  bq : Nat
  bf : Nat
  gc : Nat
  A : Option Addr
  cA : Nat
section
variable {W W' : World} {n q l : Nat} {es : List E3} {a : FA} {cs : List Int}
end

end Go.Proofs.YtplgbapbgcipdaaGreat

