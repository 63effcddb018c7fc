/-
  Texts of this claim, put together: SupQ, RMinimal, MatchP, RList.
-/
import Derived.Test.YtplgbapbgcipdaaGreatK36
import Derived.Test.YtplgbapbgcipdaaGreatK37
import Derived.Test.YtplgbapbgcipdaaGreatK38
import Derived.Test.YtplgbapbgcipdaaGreatK26
import Derived.Test.YtplgbapbgcipdaaGreatK39
import Derived.Test.YtplgbapbgcipdaaGreatK32
import Derived.Test.YtplgbapbgcipdaaGreatK18
import Derived.Test.YtplgbapbgcipdaaGreatK35
import Derived.Test.YtplgbapbgcipdaaGreatK22
/-! The superstable configurations listed: those below the maximal stable one that are superstable, in order. -/
namespace Go.Proofs.YtplgbapbgcipdaaGreat
open Go.RowKit

section
variable {top c x y : List Int} {n q f v k : Nat} {P : List Int → Bool}
theorem getD_setJ (c : List Int) (v : Nat) (x : Int) (hv : v < c.length) (i : Nat) : (c.set v x).getD i 0 = if i = v then x else c.getD i 0 := by
  rw [List.getD_eq_getElem?_getD, List.getElem?_set]
  by_cases h : v = i
  · subst h; rw [if_pos rfl, if_pos hv, if_pos rfl]; rfl
  · rw [if_neg h, if_neg (fun e => h e.symm), ← List.getD_eq_getElem?_getD]
/-- What goes on does not depend on what stood there. -/
theorem extL_pre : ∀ f, f ≤ n → ∀ c c' : List Int, c.length = n → c'.length = n → (∀ i, i < n - f → c.getD i 0 = c'.getD i 0) → extL top n f c = extL top n f c'
  | 0, _, c, c', hc, hc', h => by
    have : c = c' := by
      apply List.ext_getElem (by omega)
      intro i h1 h2
      have := h i (by omega)
      rw [List.getD_eq_getElem?_getD, List.getD_eq_getElem?_getD, List.getElem?_eq_getElem h1, List.getElem?_eq_getElem h2] at this
      exact this
    rw [this]
  | f + 1, hf, c, c', hc, hc', h => by
    rw [extL_some (v := n - (f + 1)) (by omega), extL_some (v := n - (f + 1)) (by omega)]
    apply flat_congr
    intro k _
    refine extL_pre f (by omega) _ _ (by simpa using hc) (by simpa using hc') fun i hi => ?_
    rw [getD_setJ _ _ _ (by omega), getD_setJ _ _ _ (by omega)]
    by_cases h1 : i = n - (f + 1)
    · rw [if_pos h1, if_pos h1]
    · rw [if_neg h1, if_neg h1]; exact h i (by omega)
/-- What goes on from a list is no less, where that has noughts to come. -/
theorem ext_ge : ∀ f, f ≤ n → ∀ c : List Int, c.length = n → (∀ i, n - f ≤ i → i < n → c.getD i 0 = 0) → ∀ x ∈ extL top n f c, x.length = n ∧ (∀ i, i < n → c.getD i 0 ≤ x.getD i 0)
  | 0, _, c, hc, _, x, hx => by
    simp [extL] at hx; subst hx; exact ⟨hc, fun i _ => Int.le_refl _⟩
  | f + 1, hf, c, hc, hz, x, hx => by
    rw [extL_some (v := n - (f + 1)) (by omega), List.mem_flatMap] at hx
    obtain ⟨k, _, hx⟩ := hx
    obtain ⟨h1, h2⟩ := ext_ge f (by omega) (c.set (n - (f + 1)) (k : Int)) (by simpa using hc) (fun i h1 h2 => by rw [getD_setJ _ _ _ (by omega), if_neg (by omega)]; exact hz i (by omega) h2) x hx
    refine ⟨h1, fun i hi => ?_⟩
    have h3 := h2 i hi
    rw [getD_setJ _ _ _ (by omega)] at h3
    by_cases h : i = n - (f + 1)
    · rw [if_pos h] at h3
      rw [h, hz _ (Nat.le_refl _) (by omega), ← h]; omega
    · rw [if_neg h] at h3; exact h3
theorem take_anti (p : Nat → Bool) (N : Nat) : ∃ K, K ≤ N ∧ (∀ j, j < K → p j = true) ∧ (K < N → p K = false) ∧ (List.range' 0 N).takeWhile p = List.range K := by
  have key : ∀ N s, ∃ K, K ≤ N ∧ (∀ j, s ≤ j → j < s + K → p j = true) ∧ (K < N → p (s + K) = false) ∧ (List.range' s N).takeWhile p = List.range' s K := by
    intro N
    induction N with
    | zero => intro s; exact ⟨0, Nat.le_refl _, fun j h1 h2 => by omega, fun h => absurd h (by omega), rfl⟩
    | succ N ih =>
      intro s
      rw [List.range'_succ, List.takeWhile_cons]
      cases hp : p s
      · exact ⟨0, Nat.zero_le _, fun j h1 h2 => by omega, fun _ => hp, rfl⟩
      · obtain ⟨K, h1, h2, h3, h4⟩ := ih (s + 1)
        refine ⟨K + 1, by omega, fun j h5 h6 => ?_, fun h5 => ?_, by rw [h4, if_pos rfl, List.range'_succ]⟩
        · by_cases h7 : j = s
          · rw [h7]; exact hp
          · exact h2 j (by omega) (by omega)
        · have := h3 (by omega)
          rw [show s + 1 + K = s + (K + 1) from by omega] at this; exact this
  obtain ⟨K, h1, h2, h3, h4⟩ := key N 0
  exact ⟨K, h1, fun j hj => h2 j (Nat.zero_le _) (by omega), fun hK => by have := h3 hK; rwa [Nat.zero_add] at this, by rw [h4, List.range_eq_range']⟩
theorem flat_cut {β : Type} {g : Nat → List β} {K T : Nat} (hK : K ≤ T) (h : ∀ j, K ≤ j → j < T → g j = []) : (List.range T).flatMap g = (List.range K).flatMap g := by
  obtain ⟨d, rfl⟩ : ∃ d, T = K + d := ⟨T - K, by omega⟩
  induction d with
  | zero => rfl
  | succ d ih =>
    rw [← Nat.add_assoc, List.range_succ, List.flatMap_append, ih (by omega) (fun j h1 h2 => h j h1 (by omega))]
    simp [h (K + d) (by omega) (by omega)]
/-- What the search from noughts on finds. -/
theorem enumF_filter (hm : ∀ x y : List Int, x.length = n → y.length = n → (∀ i, i < n → 0 ≤ x.getD i 0 ∧ x.getD i 0 ≤ y.getD i 0) → P y = true → P x = true)
    (hbd : ∀ x, P x = true → x.length = n → ∀ v, v < n → x.getD v 0 ≤ top.getD v 0) (hq0 : top.getD q 0 = 0) (ht : ∀ v, v < n → top.getD v 0 ≤ 599) (ht0 : ∀ v, v < n → -1 ≤ top.getD v 0) :
    ∀ f, f ≤ n → ∀ c : List Int, c.length = n → (∀ i, n - f ≤ i → i < n → c.getD i 0 = 0) → (∀ i, 0 ≤ c.getD i 0) → P c = true → enumF n q P f c = (extL top n f c).filter P
  | 0, _, c, _, _, _, hp => by
    simp only [enumF, extL, List.filter_cons, List.filter_nil, hp, if_pos]
  | f + 1, hf, c, hc, hz, h0, hp => by
    obtain ⟨v, hv⟩ : ∃ v, v + (f + 1) = n := ⟨n - (f + 1), by omega⟩
    have hvn : n - (f + 1) = v := by omega
    have hcv : c.getD v 0 = 0 := hz v (by omega) (by omega)
    have hset0 : ∀ (k : Nat) i, 0 ≤ (c.set v (k : Int)).getD i 0 := fun k i => by
      rw [getD_setJ _ _ _ (by omega)]; split
      · omega
      · exact h0 i
    have hsetz : ∀ k : Nat, ∀ i, n - f ≤ i → i < n → (c.set v (k : Int)).getD i 0 = 0 := fun k i h1 h2 => by
      rw [getD_setJ _ _ _ (by omega), if_neg (by omega)]; exact hz i (by omega) h2
    rw [extL_some hv]
    by_cases hvq : v = q
    · have hv0 : top.getD v 0 = 0 := by rw [hvq]; exact hq0
      rw [enumF_sink hv hvq, hv0]
      have : c.set v ((0 : Nat) : Int) = c := by
        apply List.ext_getElem (by simp)
        intro i h1 h2
        rw [List.getElem_set]
        split
        · rename_i e; subst e
          rw [List.getD_eq_getElem?_getD, List.getElem?_eq_getElem h2] at hcv
          exact hcv.symm
        · rfl
      show _ = (List.filter P ((List.range 1).flatMap _))
      rw [show List.range 1 = [0] from rfl, List.flatMap_cons, List.flatMap_nil, List.append_nil, this]
      exact enumF_filter hm hbd hq0 ht ht0 f (by omega) c hc (fun i h1 h2 => hz i (by omega) h2) h0 hp
    · rw [enumF, hvn, if_neg hvq]
      obtain ⟨K, hK, hKt, hKf, hKe⟩ := take_anti (fun j : Nat => P (c.set v (j : Int))) 601
      rw [hKe, List.filter_flatMap]
      have hKT : K ≤ ((top.getD v 0) + 1).toNat := by
        rcases Nat.eq_zero_or_pos K with h1 | h1
        · omega
        · have h2 := hbd _ (hKt (K - 1) (by omega)) (by simpa using hc) v (by omega)
          rw [getD_setJ _ _ _ (by omega), if_pos rfl] at h2
          omega
      have hK1 : K < 601 := by have := ht v (by omega); omega
      have hKF := hKf hK1
      rw [flat_cut hKT (fun j h1 h2 => ?_)]
      · apply flat_congr
        intro k hk
        have hk := List.mem_range.1 hk
        exact enumF_filter hm hbd hq0 ht ht0 f (by omega) _ (by simpa using hc) (hsetz k) (hset0 k) (hKt k hk)
      · rw [List.filter_eq_nil_iff]
        intro x hx hpx
        obtain ⟨h3, h4⟩ := ext_ge f (by omega) (c.set v (j : Int)) (by simpa using hc) (hsetz j) x hx
        have h5 := hm (c.set v (K : Int)) x (by simpa using hc) h3 (fun i hi => ⟨hset0 K i, by
          have := h4 i hi
          rw [getD_setJ _ _ _ (by omega)] at this ⊢
          split
          · rename_i e; rw [if_pos e] at this; omega
          · rename_i e; rw [if_neg e] at this; exact this⟩) hpx
        rw [h5] at hKF; cases hKF
theorem nodup_flat {α β : Type} {f : α → List β} : ∀ {l : List α}, l.Nodup → (∀ a ∈ l, (f a).Nodup) → (∀ a ∈ l, ∀ b ∈ l, a ≠ b → ∀ x, x ∈ f a → x ∉ f b) → (l.flatMap f).Nodup
  | [], _, _, _ => by simp
  | a :: l, hn, h1, h2 => by
    rw [List.nodup_cons] at hn
    rw [List.flatMap_cons, List.nodup_append]
    refine ⟨h1 a (by simp), nodup_flat hn.2 (fun b hb => h1 b (by simp [hb])) (fun b hb c hc => h2 b (by simp [hb]) c (by simp [hc])), fun x hx y hy hxy => ?_⟩
    subst hxy
    obtain ⟨b, hb, hxb⟩ := List.mem_flatMap.1 hy
    exact h2 a (by simp) b (by simp [hb]) (fun e => hn.1 (e ▸ hb)) x hx hxb
theorem bel_nodup : ∀ v, (belL top v).Nodup
  | 0 => by simp [belL]
  | v + 1 => by
    rw [belL]
    refine nodup_flat (bel_nodup v) (fun p _ => ?_) (fun a ha b hb hne x hx hy => ?_)
    · refine nodup_map_of (fun a _ b _ h => ?_) List.nodup_range
      have := List.append_inj_right h rfl
      have h2 : (a : Int) = (b : Int) := by simpa using this
      omega
    · rw [List.mem_map] at hx hy
      obtain ⟨i, _, rfl⟩ := hx
      obtain ⟨j, _, h⟩ := hy
      have hla := belL_length v a ha
      have hlb := belL_length v b hb
      exact hne (List.append_inj_left h (by omega)).symm
theorem mem_bel : ∀ v (p : List Int), p.length = v → (∀ i, i < v → 0 ≤ p.getD i 0 ∧ p.getD i 0 ≤ top.getD i 0) → p ∈ belL top v
  | 0, p, h, _ => by simp [belL]; exact List.eq_nil_of_length_eq_zero h
  | v + 1, p, h, hb => by
    rw [belL, List.mem_flatMap]
    have h1 := hb v (by omega)
    have hgl : p.getD v 0 = p[v]'(by omega) := by rw [List.getD_eq_getElem?_getD, List.getElem?_eq_getElem (by omega)]; rfl
    refine ⟨p.take v, mem_bel v (p.take v) (by simp; omega) (fun i hi => ?_), List.mem_map.2 ⟨(p.getD v 0).toNat, List.mem_range.2 (by omega), ?_⟩⟩
    · rw [List.getD_eq_getElem?_getD, List.getElem?_take, if_pos hi, ← List.getD_eq_getElem?_getD]
      exact hb i (by omega)
    · rw [Int.toNat_of_nonneg h1.1, hgl]
      have := List.take_append_drop v p
      rw [List.drop_eq_getElem_cons (by omega), List.drop_eq_nil_of_le (by omega)] at this
      exact this
end
theorem calm_iff {n q : Nat} {es : List E3} {cs : List Int} : calmB n es q cs = true ↔ cfgErr n es q cs = 0 := by
  unfold calmB cfgErr
  rw [Bool.and_eq_true, decide_eq_true_eq]
  constructor
  · rintro ⟨h1, h2⟩
    rw [if_neg (fun h => h h2), if_pos h1]
  · intro h
    by_cases h1 : (superE n es q cs).2 = 0
    · rw [if_neg (fun hh => hh h1)] at h
      refine ⟨?_, h1⟩
      refine Classical.byContradiction fun h2 => ?_
      rw [if_neg h2] at h; cases h
    · rw [if_pos h1] at h; exact absurd h h1
theorem burns_mono {E : List (Nat × Nat)} {n q : Nat} {x y : List Int} (h : BurnsAll E n q y) (hxy : ∀ v, v < n → x.getD v 0 ≤ y.getD v 0) : BurnsAll E n q x := fun O h1 h2 h3 h4 => h O h1 h2 h3 fun v hv hm => Int.le_trans (h4 v hv hm) (hxy v hv)
/-- A right configuration, by its numbers. -/
theorem burn_right {n q : Nat} {es : List E3} (hr : rootErr n es q = 0) {c : List Int} (hl : c.length = n) (h0 : ∀ v, v < n → 0 ≤ c.getD v 0) (hb : ∀ v, v < n → c.getD v 0 ≤ 1048576) (hq : c.getD q 0 = 0) : burnErr n es q c = 0 := by
  have hx : ∀ x ∈ c, 0 ≤ x ∧ x ≤ 1048576 := by
    intro x hx
    obtain ⟨i, hi, rfl⟩ := List.mem_iff_getElem.1 hx
    have h1 := h0 i (by omega)
    have h2 := hb i (by omega)
    rw [List.getD_eq_getElem?_getD, List.getElem?_eq_getElem hi] at h1 h2
    exact ⟨h1, h2⟩
  have hc := conf_of hr hl (fun x h => by have := hx x h; omega) (fun x h => (hx x h).2) (fun v hv _ => h0 v hv)
  unfold burnErr
  rw [if_neg (fun h => h hc), Int.toNat_natCast, if_neg (fun h => h hq)]
theorem cfg_facts {n q : Nat} {es : List E3} {c : List Int} (h : cfgErr n es q c = 0) : rootErr n es q = 0 ∧ RightG n es ∧ q < n ∧ c.length = n ∧ (∀ v, v < n → 0 ≤ c.getD v 0) ∧ c.getD q 0 = 0 ∧ BurnsAll (endsL es) n q c ∧ (∀ v, v < n → c.getD v 0 ≤ (maxL n es q).getD v 0) := by
  obtain ⟨h1, h2⟩ := cfg_iff.1 h
  obtain ⟨hc, h0⟩ := burn_zero h1
  rw [Int.toNat_natCast] at h0
  obtain ⟨hG, _, hq0, hqn, hcl, _, hnn⟩ := conf_zero hc
  have hq : q < n := by omega
  have hr : rootErr n es q = 0 := by
    rcases conf_cases n es q c with ⟨h1, h2⟩ | ⟨h1, _⟩ | ⟨h1, _⟩
    · exact absurd (h2 ▸ hc) h1
    · exact h1
    · exact h1
  have hnn' : ∀ v, v < n → 0 ≤ c.getD v 0 := fun v hv => by
    by_cases hvq : v = q
    · subst hvq; omega
    · exact hnn v (by omega) (by omega)
  refine ⟨hr, hG, hq, by omega, hnn', h0, h2, fun v hv => ?_⟩
  rw [maxL_get hG.ok hv]
  split
  · rename_i e; subst e; omega
  · rename_i e
    have := stabTo_iff.1 (burns_stab hG hq h2) v hv e
    omega
theorem valE_small {n : Nat} {es : List E3} (hG : RightG n es) (hm : (endsL es).length ≤ 500) (v : Nat) (_hv : v < n) : valE es v ≤ 500 := by
  rw [valE_jn hG.ok]
  have h1 : jnE es (List.range n) v = jnE es ((List.range n).filter fun u => !decide (u = v)) v := by
    unfold jnE
    congr 1
    apply List.map_congr_left
    intro e he
    unfold jnT
    have hiff : (e.1 ≠ e.2.1 ∧ ((e.1 = v ∧ e.2.1.toNat ∈ List.range n) ∨ (e.2.1 = v ∧ e.1.toNat ∈ List.range n))) ↔ (e.1 ≠ e.2.1 ∧ ((e.1 = v ∧ e.2.1.toNat ∈ (List.range n).filter fun u => !decide (u = v)) ∨ (e.2.1 = v ∧ e.1.toNat ∈ (List.range n).filter fun u => !decide (u = v)))) := by
      have := hG.ok e he
      unfold okE at this
      simp only [List.mem_filter, List.mem_range, Bool.not_eq_true', decide_eq_false_iff_not]
      constructor
      · rintro ⟨h, ⟨h1, h2⟩ | ⟨h1, h2⟩⟩
        · exact ⟨h, .inl ⟨h1, h2, by omega⟩⟩
        · exact ⟨h, .inr ⟨h1, h2, by omega⟩⟩
      · rintro ⟨h, ⟨h1, h2, _⟩ | ⟨h1, h2, _⟩⟩
        · exact ⟨h, .inl ⟨h1, h2⟩⟩
        · exact ⟨h, .inr ⟨h1, h2⟩⟩
    by_cases h : (e.1 ≠ e.2.1 ∧ ((e.1 = v ∧ e.2.1.toNat ∈ List.range n) ∨ (e.2.1 = v ∧ e.1.toNat ∈ List.range n)))
    · rw [if_pos h, if_pos (hiff.1 h)]
    · rw [if_neg h, if_neg (fun h' => h (hiff.2 h'))]
  rw [h1, ← deg_jn hG.ok v (by simp)]
  have : degTo (endsL es) v ((List.range n).filter fun u => !decide (u = v)) ≤ (endsL es).length := by
    unfold degTo
    exact Nat.le_trans (List.length_filter_le _ _) (by rw [List.length_range]; exact Nat.le_refl _)
  omega
theorem supL_bel {n q : Nat} {es : List E3} (hr : rootErr n es q = 0) (hj : joinErr n es = 0) (hG : RightG n es) (hq : q < n) (hm : (endsL es).length ≤ 500) : supL n es q = (belL (maxL n es q) n).filter (calmB n es q) := by
  have hval : ∀ v, v < n → valE es v ≤ 500 := fun v hv => valE_small hG hm v hv
  have hlen : (maxL n es q).length = n := maxL_length n es q
  have hn : 0 < n := by omega
  have hzero : calmB n es q (List.replicate n 0) = true := by
    rw [calm_iff, cfg_iff]
    have hz : ∀ v, (List.replicate n (0 : Int)).getD v 0 = 0 := fun v => by
      simp only [List.getD_eq_getElem?_getD, List.getElem?_replicate]; split <;> simp
    refine ⟨burn_right hr (by simp) (fun v _ => by rw [hz]; omega) (fun v _ => by rw [hz]; omega) (hz q), ?_⟩
    obtain ⟨t, ht⟩ := tree_ex (bd_ends hG) (by
      have h1 := (join_zero hj).2.2
      rw [Int.toNat_natCast, connB_parts hG] at h1
      exact of_decide_eq_true h1)
    exact burns_mono (conf_burns (bd_ends hG) hq ht) fun v _ => by rw [hz]; exact (conf_facts (bd_ends hG) hq t).2.1 v
  unfold supL
  rw [enumF_filter (top := maxL n es q) (q := q) (P := calmB n es q) (fun x y hx hy h hp => ?_) (fun x hp _ v hv => (cfg_facts (calm_iff.1 hp)).2.2.2.2.2.2.2 v hv) (by rw [maxL_get hG.ok hq, if_pos rfl]) (fun v hv => ?_) (fun v hv => ?_) n (Nat.le_refl _) _ (by simp) (fun i _ _ => ?_) (fun i => ?_) hzero]
  · rw [bel_ext hlen, extL_pre n (Nat.le_refl _) (List.replicate n 0) (maxL n es q) (by simp) hlen (fun i hi => by omega)]
  · obtain ⟨h1, _, _, _, h5, h6, h7, h8⟩ := cfg_facts (calm_iff.1 hp)
    rw [calm_iff, cfg_iff]
    refine ⟨burn_right h1 hx (fun v hv => (h v hv).1) (fun v hv => ?_) ?_, burns_mono h7 fun v hv => (h v hv).2⟩
    · have h9 := (h v hv).2
      have h10 := h8 v hv
      rw [maxL_get hG.ok hv] at h10
      split at h10
      · omega
      · have := hval v hv; omega
    · have := h q hq; omega
  · rw [maxL_get hG.ok hv]; split
    · omega
    · have := hval v hv; omega
  · rw [maxL_get hG.ok hv]; split
    · omega
    · have := (valE_bd hG.ok v).1; omega
  · simp only [List.getD_eq_getElem?_getD, List.getElem?_replicate]; split <;> simp
  · simp only [List.getD_eq_getElem?_getD, List.getElem?_replicate]; split <;> simp
/-- The superstable configurations, each once. -/
theorem supL_mem {n q : Nat} {es : List E3} (hr : rootErr n es q = 0) (hj : joinErr n es = 0) (hG : RightG n es) (hq : q < n) (hm : (endsL es).length ≤ 500) : (supL n es q).Nodup ∧ ∀ c, c ∈ supL n es q ↔ cfgErr n es q c = 0 := by
  rw [supL_bel hr hj hG hq hm]
  refine ⟨(bel_nodup n).sublist List.filter_sublist, fun c => ?_⟩
  rw [List.mem_filter, calm_iff]
  refine ⟨fun h => h.2, fun h => ⟨?_, h⟩⟩
  obtain ⟨_, _, _, h4, h5, _, _, h8⟩ := cfg_facts h
  exact mem_bel n c h4 fun i hi => ⟨h5 i hi, h8 i hi⟩
end Go.Proofs.YtplgbapbgcipdaaGreat

/-! Package recurrent: All and Minimal, with errors. -/
namespace Go.Proofs.YtplgbapbgcipdaaGreat
open Go.RowKit Go.Shelf

/-- What All returns. -/
def allE (n : Int) (es : List E3) (q : Int) : List (List Int) × Int := if rootErr n es q = 0 then (recsL n.toNat es q.toNat, 0) else ([], rootErr n es q)
/-- What Minimal returns. -/
def minimE (n : Int) (es : List E3) (q : Int) : List (List Int) × Int := if rootErr n es q = 0 then ((recsL n.toNat es q.toNat).filter fun xs => minTo n.toNat es q.toNat xs n.toNat, 0) else ([], rootErr n es q)
theorem root_nat {n q : Int} {es : List E3} (hx : rootErr n es q = 0) : ∃ m p : Nat, n = m ∧ q = p := by
  rcases root_cases n es q with ⟨h1, h2⟩ | ⟨_, _, h2⟩ | ⟨_, _, _, h2⟩ | ⟨h1, h2, h3, _⟩
  · rw [hx] at h2; exact absurd h2.symm h1
  · rw [hx] at h2; cases h2
  · rw [hx] at h2; cases h2
  · have hG := right_of h1
    have hlo := hG.lo
    have := vertB_true.1 h3
    obtain ⟨m, rfl⟩ := Int.eq_ofNat_of_zero_le (show 0 ≤ n by omega)
    obtain ⟨p, rfl⟩ := Int.eq_ofNat_of_zero_le this.1
    exact ⟨m, p, rfl, rfl⟩

theorem RowsR.nil_ (w : World) (B : Nat) : RowsR w B none [] := ⟨[], Reads.nil_, fun i xs h => by cases h⟩
set_option maxHeartbeats 4000000 in
theorem rall_any (n : Int) (A : Option Addr) (cA : Nat) (es : List E3) (hlen : es.length ≤ 10000) (q : Int) (hxl : (allE n es q).1.length ≤ 16384) (w : World) (h : Reads w w.heap.size 3 A es.length (edgeCells es)) :
    Calls Tryz.prog 16 #[.agg #[.int .i64 n, .slice A es.length cA], .int .i64 q] w fun e w' => ∃ Ar cr, e = .returned (.tuple #[.slice Ar (allE n es q).1.length cr, .int .i64 (allE n es q).2]) ∧ RowsR w' w'.heap.size Ar (allE n es q).1 ∧ Below w.heap.size w w' := by
  by_cases hx : rootErr n es q = 0
  · obtain ⟨m, p, rfl, rfl⟩ := root_nat hx
    have hE : allE m es p = (recsL m es p, 0) := by unfold allE; rw [if_pos hx]; simp
    rw [hE] at hxl ⊢
    refine (rall_ok m A cA es hlen p hx _ rfl hxl w h).mono ?_
    rintro e w' ⟨Ar, cr, vs, he, ho, hb⟩
    exact ⟨Ar, cr, he, ho.reads, hb⟩
  · obtain ⟨z, hz⟩ : ∃ z, rootErr n es q = z := ⟨_, rfl⟩
    have hE : allE n es q = ([], z) := by unfold allE; rw [if_neg hx, hz]
    rw [hE]
    have hz0 : (z == 0) = false := by rw [← hz]; simpa using hx
    have hz1 : (z != 0) = true := by rw [← hz]; simpa using hx
    have MB := Lib.hid (maximal_bad n A cA es hlen q z hz hz0)
    clear hxl hE hx hz
    have g0 := Blk.new w 24 #[.int .i64 n, .slice A es.length cA]
    refine (callsIn_wide (n := 3)).1 ?_
    refine callsIn_of_wp_marks Tryz.func16 rfl trivial ?_
    simp only [Tryz.ntmps16, List.size_toArray, List.length_cons, List.length_nil, Nat.reduceAdd, Nat.reduceSub, Array.replicate_succ, Array.replicate_zero, List.push_toArray, List.append_toArray, List.nil_append, List.cons_append]
    gi_wp2_with fail
    obtain ⟨w0, hw0⟩ : ∃ w0, ((w.alloc (.cells #[.int .i64 n, .slice A es.length cA] 24)).alloc (.cells #[.slice none 0 0] 46)).alloc (.cells #[.int .i64 0] 31) = w0 := ⟨_, rfl⟩
    have hs0 : w0.heap.size = w.heap.size + 3 := by rw [← hw0]; simp
    have hB0 : Below w.heap.size w w0 := by rw [← hw0]; exact (((Below.refl _ _).alloc (Nat.le_refl _) _).alloc (by simp) _).alloc (by simp; omega) _
    have r1 : Blk w0 (w.heap.size + 1) 46 #[.slice none 0 0] := by rw [← hw0]; exact (Blk.new_at (by simp)).alloc _
    have r2 : Blk w0 (w.heap.size + 2) 31 #[.int .i64 0] := by rw [← hw0]; exact Blk.new_at (by simp)
    rw [hw0]
    refine ⟨trivial, ?_⟩
    refine (inW (MB.out _ ((h.below hB0).more hB0.size))).mono ?_
    rintro e w1 ⟨rfl, hb1⟩
    have hB1 : Below w.heap.size w w1 := hB0.trans (hb1.mono hB0.size)
    have i6 := r1.next hb1
    have i7 := r2.next hb1
    have e4 := i6.cell 0
    have e5 := i7.cell 0
    have f4 := i6.frozen 0
    have f5 := i7.frozen 0
    clear hw0 r1 r2 hb1 g0 hB0
    gi_wp2
    have g1 : Blk ((w1.setCell ⟨w.heap.size + 1, 0, none⟩ (.slice none 0 0)).setCell ⟨w.heap.size + 2, 0, none⟩ (.int .i64 z)) (w.heap.size + 1) 46 #[.slice none 0 0] := by
      have := (i6.set_ 0 (.slice none 0 0)).far (p := ⟨w.heap.size + 2, 0, none⟩) (by simp) (.int .i64 z)
      simpa using this
    have g2 : Blk ((w1.setCell ⟨w.heap.size + 1, 0, none⟩ (.slice none 0 0)).setCell ⟨w.heap.size + 2, 0, none⟩ (.int .i64 z)) (w.heap.size + 2) 31 #[.int .i64 z] := by
      have := (i7.far (p := ⟨w.heap.size + 1, 0, none⟩) (by simp) (.slice none 0 0)).set_ 0 (.int .i64 z)
      simpa using this
    have g4 : Below w.heap.size w ((w1.setCell ⟨w.heap.size + 1, 0, none⟩ (.slice none 0 0)).setCell ⟨w.heap.size + 2, 0, none⟩ (.int .i64 z)) := (hB1.setCell (by simp) _).setCell (by simp) _
    obtain ⟨Wf, hWf⟩ : ∃ Wf, (w1.setCell ⟨w.heap.size + 1, 0, none⟩ (.slice none 0 0)).setCell ⟨w.heap.size + 2, 0, none⟩ (.int .i64 z) = Wf := ⟨_, rfl⟩
    rw [hWf] at g1 g2 g4
    have p2 := g1.cell 0
    have p3 := g2.cell 0
    rw [show w.heap.size + 1 + 1 = w.heap.size + 2 from rfl, hWf]
    exact end_none (v := .tuple #[.slice none 0 0, .int .i64 z]) (by simp [results, Tryz.results16, go_sem, p2, p3]) ⟨none, 0, rfl, RowsR.nil_ _ _, g4⟩

set_option maxRecDepth 100000 in
set_option maxHeartbeats 4000000 in
theorem minimal_any (n : Int) (A : Option Addr) (cA : Nat) (es : List E3) (hlen : es.length ≤ 10000) (q : Int) (hxl : (allE n es q).1.length ≤ 16384) (w : World) (h : Reads w w.heap.size 3 A es.length (edgeCells es)) :
    Calls Tryz.prog 26 #[.agg #[.int .i64 n, .slice A es.length cA], .int .i64 q] w fun e w' => ∃ Ar cr, e = .returned (.tuple #[.slice Ar (minimE n es q).1.length cr, .int .i64 (minimE n es q).2]) ∧ RowsR w' w'.heap.size Ar (minimE n es q).1 ∧ Below w.heap.size w w' := by
  have RA := Lib.hid (fun (W : World) (hB : Below w.heap.size w W) => rall_any n A cA es hlen q hxl W ((h.below hB).more hB.size))
  have g0 := (Blk.new w 24 #[.int .i64 n, .slice A es.length cA]).alloc (.cells #[.int .i64 q] 3)
  have q0 := Blk.new (w.alloc (.cells #[.int .i64 n, .slice A es.length cA] 24)) 3 #[.int .i64 q]
  have hs1 : (w.alloc (.cells #[.int .i64 n, .slice A es.length cA] 24)).heap.size = w.heap.size + 1 := by simp
  rw [hs1] at q0
  have B0 := ((Below.refl w.heap.size w).alloc (Nat.le_refl _) (.cells #[.int .i64 n, .slice A es.length cA] 24)).alloc (by simp) (.cells #[.int .i64 q] 3)
  have c0 := g0.cell 0
  have c1 := g0.cell 1
  have c2 := q0.cell 0
  by_cases hx : rootErr n es q = 0
  · obtain ⟨m, p, rfl, rfl⟩ := root_nat hx
    have hE : allE m es p = (recsL m es p, 0) := by unfold allE; rw [if_pos hx]; simp
    have hF : minimE m es p = ((recsL m es p).filter fun xs => minTo m es p xs m, 0) := by unfold minimE; rw [if_pos hx]; simp
    rw [hE] at RA hxl
    dsimp only at hxl
    rw [hF]
    obtain ⟨hck, _, _, hpm⟩ := root_zero hx
    have FT := Lib.hid (fun (bg bq : Nat) (A0 : Option Addr) (c0 : Nat) (W : World) hg hbq hB hr => filt_any m A cA es p hpm hlen hck bg bq A0 c0 (recsL m es p) (by omega) (fun xs hxs => recsL_bd hx hlen hxs) W hg hbq ((h.below hB).more (Below.size (B := w.heap.size) (w := w) hB)) hr)
    have hmf : ∀ (fn : Fn) (first cap : Array Value) (w : World), (Instr.makeFunc fn first cap).run Tryz.prog w = .ok (.func fn first cap) w := fun _ _ _ _ => rfl
    obtain ⟨L, hL⟩ : ∃ L, recsL m es p = L := ⟨_, rfl⟩
    rw [hL] at RA FT ⊢
    obtain ⟨P, hP⟩ : ∃ P : List Int → Bool, (fun xs => minTo m es p xs m) = P := ⟨_, rfl⟩
    rw [hP] at FT ⊢
    clear hE hF hx hck hxl hL hP
    go_enter Tryz.func26, Tryz.ntmps26
    go_wp2_with fail
    refine (RA.out _ B0).mono ?_
    rintro e w1 ⟨Ar, cr, rfl, hr, hb1⟩
    have B1 := B0.trans (hb1.mono B0.size)
    have g1 := g0.next hb1
    have q1 := q0.next hb1
    have FT1 := Lib.hid (FT.out _ _ Ar cr w1 g1 q1 B1 hr)
    clear c0 c1 c2
    go_wp2_with fail
    refine (FT1.out).mono ?_
    rintro e w2 ⟨A2, c2, rfl, hr2, hb2⟩
    go_wp2
    go_ret2
    exact ⟨A2, c2, rfl, hr2, B1.trans (hb2.mono B1.size)⟩
  · obtain ⟨z, hz⟩ : ∃ z, rootErr n es q = z := ⟨_, rfl⟩
    have hE : allE n es q = ([], z) := by unfold allE; rw [if_neg hx, hz]
    have hF : minimE n es q = ([], z) := by unfold minimE; rw [if_neg hx, hz]
    rw [hE] at RA
    rw [hF]
    have hz1 : (z != 0) = true := by rw [← hz]; simpa using hx
    clear hE hF hx hxl hz
    go_enter Tryz.func26, Tryz.ntmps26
    go_wp2_with fail
    refine (RA.out _ B0).mono ?_
    rintro e w1 ⟨Ar, cr, rfl, hr, hb1⟩
    have B1 := B0.trans (hb1.mono B0.size)
    clear c0 c1 c2
    go_wp2
    go_ret2
    exact ⟨none, 0, rfl, RowsR.nil_ _ _, B1⟩
end Go.Proofs.YtplgbapbgcipdaaGreat

/-! The trees of all superstable configurations are all spanning trees. No program is in sight. -/
namespace Go.Proofs.YtplgbapbgcipdaaGreat
section
variable {n q : Nat} {es : List E3}
theorem treeR_isTr (hj : joinErr n es = 0) {t : List Nat} (ht : IsTr n (endsL es) t) : TreeR n es t := by
  have h := tree_ok hj ht
  obtain ⟨m, t', h1, h2, h3⟩ := treeR_of h
  obtain rfl : n = m := by omega
  obtain rfl := nI_inj h2
  exact h3
theorem match_mem (hr : rootErr n es q = 0) (hj : joinErr n es = 0) (hG : RightG n es) (hq : q < n) (hm : (endsL es).length ≤ 500) (t : List Nat) : t ∈ (supL n es q).map (treeN (endsL es) n q) ↔ IsTr n (endsL es) t := by
  obtain ⟨_, hS⟩ := supL_mem hr hj hG hq hm
  rw [List.mem_map]
  constructor
  · rintro ⟨c, hc, rfl⟩
    obtain ⟨_, _, _, _, hnn, _, hb, _⟩ := cfg_facts ((hS c).1 hc)
    exact treeN_isTr (bd_ends hG) hq hnn hb
  · intro ht
    refine ⟨confN (endsL es) n q t, (hS _).2 (conf_cfg hj (treeR_isTr hj ht) hq (by omega)).1, tree_conf (bd_ends hG) hq ht⟩
theorem match_nodup (hr : rootErr n es q = 0) (hj : joinErr n es = 0) (hG : RightG n es) (hq : q < n) (hm : (endsL es).length ≤ 500) : ((supL n es q).map (treeN (endsL es) n q)).Nodup := by
  obtain ⟨hN, hS⟩ := supL_mem hr hj hG hq hm
  refine nodup_map_of (fun a ha b hb hab => ?_) hN
  obtain ⟨_, _, _, hl1, hn1, h01, hb1, _⟩ := cfg_facts ((hS a).1 ha)
  obtain ⟨_, _, _, hl2, hn2, h02, hb2, _⟩ := cfg_facts ((hS b).1 hb)
  rw [← conf_tree (bd_ends hG) hq hl1 h01 hn1 hb1, ← conf_tree (bd_ends hG) hq hl2 h02 hn2 hb2, hab]
theorem match_perm (hr : rootErr n es q = 0) (hj : joinErr n es = 0) (hG : RightG n es) (hq : q < n) (hm : (endsL es).length ≤ 500) : ((supL n es q).map (treeN (endsL es) n q)).Perm (treesT n (endsL es)) := by
  have hn : 0 < n := by have := hG.lo; omega
  exact perm_of_mem (match_nodup hr hj hG hq hm) (treesT_nodup (bd_ends hG) hn) fun x => by rw [match_mem hr hj hG hq hm, (treesT_spec (bd_ends hG) hn).1]
end
end Go.Proofs.YtplgbapbgcipdaaGreat

/-! ref08.FewTrees, ref24.List, All: all recurrent configurations, found among all below the maximal one. -/
namespace Go.Proofs.YtplgbapbgcipdaaGreat
open Go.RowKit

set_option maxHeartbeats 1000000 in
theorem fewtrees_any (n : Int) (A : Option Addr) (c : Nat) (es : List E3) (w : World) (h : Reads w w.heap.size 3 A es.length (edgeCells es)) :
    Calls Tryz.prog 14 #[.agg #[.int .i64 n, .slice A es.length c]] w fun e w' => e = .returned (.bool (smallB n es 5 8)) ∧ Below w.heap.size w w' := by
  have SC := Lib.hid (rsmall_any n A c es 5 8)
  go_enter Tryz.func14, Tryz.ntmps14
  go_wp2_with fail
  refine (SC.out _ ((h.alloc (Nat.le_refl _) _).more (by simp))).mono ?_
  rintro e w1 ⟨rfl, hb1⟩
  have hbel1 : Below w.heap.size w w1 := ((Below.refl _ _).alloc (Nat.le_refl _) _).trans (hb1.mono (by simp))
  go_wp2
  go_ret
  exact ⟨rfl, hbel1⟩

/-! A slice of the call's own whose rows another world holds. -/
def Shared (w0 w : World) (A : Option Addr) (c : Nat) (vs : List Value) (xss : List (List Int)) : Prop :=
  w.ownsRow w0.heap.size 26 1 (.slice A xss.length c) xss.length vs ∧ ∀ (i : Nat) (xs : List Int), xss[i]? = some xs → ∃ A1 c1, vs[i]? = some (.slice A1 xs.length c1) ∧ Reads w0 w0.heap.size 1 A1 xs.length (ints xs)
section
variable {w0 w w' : World} {A : Option Addr} {c : Nat} {vs : List Value} {xss : List (List Int)}
theorem Shared.nil_ (w0 w : World) : Shared w0 w none 0 [] [] := ⟨World.ownsRow_nil _ _ _ _, by simp⟩
theorem Shared.next (h : Shared w0 w A c vs xss) (hb : Below w.heap.size w w') : Shared w0 w' A c vs xss :=
  ⟨own_kept h.1 fun k hk => hb.block k (own_lt h.1 hk).2, h.2⟩
theorem Shared.len (h : Shared w0 w A c vs xss) : vs.length = xss.length := by have := h.1.1; omega
theorem Shared.push {A' A1 : Option Addr} {c' c1 : Nat} {xs : List Int} (h : Shared w0 w A c vs xss) (hr : Reads w0 w0.heap.size 1 A1 xs.length (ints xs))
    (hown : w'.ownsRow w0.heap.size 26 1 (.slice A' (xss.length + 1) c') (xss.length + 1) (vs ++ [.slice A1 xs.length c1])) : Shared w0 w' A' c' (vs ++ [.slice A1 xs.length c1]) (xss ++ [xs]) := by
  have hl := h.len
  refine ⟨by rw [List.length_append]; exact hown, fun i ys hi => ?_⟩
  rcases Nat.lt_trichotomy i xss.length with hlt | rfl | hgt
  · rw [List.getElem?_append_left hlt] at hi
    obtain ⟨A2, c2, hv, ho⟩ := h.2 i ys hi
    exact ⟨A2, c2, by rw [List.getElem?_append_left (by omega)]; exact hv, ho⟩
  · have : ys = xs := by simpa using hi.symm
    subst this
    exact ⟨A1, c1, by rw [← hl]; simp, hr⟩
  · rw [List.getElem?_eq_none (by simp; omega)] at hi; cases hi
theorem Shared.reads (h : Shared w0 w A c vs xss) (hb : Below w0.heap.size w0 w) : RowsR w w.heap.size A xss :=
  ⟨vs, Reads.of_own h.1, fun i xs hi => by
    obtain ⟨A1, c1, hv, ho⟩ := h.2 i xs hi
    exact ⟨A1, c1, hv, (ho.below hb).more hb.size⟩⟩
end
end Go.Proofs.YtplgbapbgcipdaaGreat

