/-
  Texts of this claim, put together: SupQ, PairsW, TCyc, TCycM, Without, TCut, TSwap, TPar, EarP.
-/
import Derived.Test.YtghigdcpinengaaGreatK30
import Derived.Test.YtghigdcpinengaaGreatK38
import Derived.Test.YtghigdcpinengaaGreatK39
import Derived.Test.YtghigdcpinengaaGreatK25
import Derived.Test.YtghigdcpinengaaGreatK24
import Derived.Test.YtghigdcpinengaaGreatK03
import Derived.Test.YtghigdcpinengaaGreatK15
import Derived.Deep.RegionLaw
import Derived.Deep.DeepMust
import Derived.Test.YtghigdcpinengaaGreatK04
import Derived.Test.YtghigdcpinengaaGreatK12
/-! The superstable configurations listed: those below the maximal stable one that are superstable, in order. -/
namespace Go.Proofs.YtghigdcpinengaaGreat
open Go.RowKit

section
variable {top c x y : List Int} {n q f v k : Nat} {P : List Int → Bool}
theorem getD_setJ (c : List Int) (v : Nat) (x : Int) (hv : v < c.length) (i : Nat) : (c.set v x).getD i 0 = if i = v then x else c.getD i 0 := by
  rw [List.getD_eq_getElem?_getD, List.getElem?_set]
  by_cases h : v = i
  · subst h; rw [if_pos rfl, if_pos hv, if_pos rfl]; rfl
  · rw [if_neg h, if_neg (fun e => h e.symm), ← List.getD_eq_getElem?_getD]
/-- What goes on does not depend on what stood there. -/
theorem extL_pre : ∀ f, f ≤ n → ∀ c c' : List Int, c.length = n → c'.length = n → (∀ i, i < n - f → c.getD i 0 = c'.getD i 0) → extL top n f c = extL top n f c'
  | 0, _, c, c', hc, hc', h => by
    have : c = c' := by
      apply List.ext_getElem (by omega)
      intro i h1 h2
      have := h i (by omega)
      rw [List.getD_eq_getElem?_getD, List.getD_eq_getElem?_getD, List.getElem?_eq_getElem h1, List.getElem?_eq_getElem h2] at this
      exact this
    rw [this]
  | f + 1, hf, c, c', hc, hc', h => by
    rw [extL_some (v := n - (f + 1)) (by omega), extL_some (v := n - (f + 1)) (by omega)]
    apply flat_congr
    intro k _
    refine extL_pre f (by omega) _ _ (by simpa using hc) (by simpa using hc') fun i hi => ?_
    rw [getD_setJ _ _ _ (by omega), getD_setJ _ _ _ (by omega)]
    by_cases h1 : i = n - (f + 1)
    · rw [if_pos h1, if_pos h1]
    · rw [if_neg h1, if_neg h1]; exact h i (by omega)
/-- What goes on from a list is no less, where that has noughts to come. -/
theorem ext_ge : ∀ f, f ≤ n → ∀ c : List Int, c.length = n → (∀ i, n - f ≤ i → i < n → c.getD i 0 = 0) → ∀ x ∈ extL top n f c, x.length = n ∧ (∀ i, i < n → c.getD i 0 ≤ x.getD i 0)
  | 0, _, c, hc, _, x, hx => by
    simp [extL] at hx; subst hx; exact ⟨hc, fun i _ => Int.le_refl _⟩
  | f + 1, hf, c, hc, hz, x, hx => by
    rw [extL_some (v := n - (f + 1)) (by omega), List.mem_flatMap] at hx
    obtain ⟨k, _, hx⟩ := hx
    obtain ⟨h1, h2⟩ := ext_ge f (by omega) (c.set (n - (f + 1)) (k : Int)) (by simpa using hc) (fun i h1 h2 => by rw [getD_setJ _ _ _ (by omega), if_neg (by omega)]; exact hz i (by omega) h2) x hx
    refine ⟨h1, fun i hi => ?_⟩
    have h3 := h2 i hi
    rw [getD_setJ _ _ _ (by omega)] at h3
    by_cases h : i = n - (f + 1)
    · rw [if_pos h] at h3
      rw [h, hz _ (Nat.le_refl _) (by omega), ← h]; omega
    · rw [if_neg h] at h3; exact h3
theorem take_anti (p : Nat → Bool) (N : Nat) : ∃ K, K ≤ N ∧ (∀ j, j < K → p j = true) ∧ (K < N → p K = false) ∧ (List.range' 0 N).takeWhile p = List.range K := by
  have key : ∀ N s, ∃ K, K ≤ N ∧ (∀ j, s ≤ j → j < s + K → p j = true) ∧ (K < N → p (s + K) = false) ∧ (List.range' s N).takeWhile p = List.range' s K := by
    intro N
    induction N with
    | zero => intro s; exact ⟨0, Nat.le_refl _, fun j h1 h2 => by omega, fun h => absurd h (by omega), rfl⟩
    | succ N ih =>
      intro s
      rw [List.range'_succ, List.takeWhile_cons]
      cases hp : p s
      · exact ⟨0, Nat.zero_le _, fun j h1 h2 => by omega, fun _ => hp, rfl⟩
      · obtain ⟨K, h1, h2, h3, h4⟩ := ih (s + 1)
        refine ⟨K + 1, by omega, fun j h5 h6 => ?_, fun h5 => ?_, by rw [h4, if_pos rfl, List.range'_succ]⟩
        · by_cases h7 : j = s
          · rw [h7]; exact hp
          · exact h2 j (by omega) (by omega)
        · have := h3 (by omega)
          rw [show s + 1 + K = s + (K + 1) from by omega] at this; exact this
  obtain ⟨K, h1, h2, h3, h4⟩ := key N 0
  exact ⟨K, h1, fun j hj => h2 j (Nat.zero_le _) (by omega), fun hK => by have := h3 hK; rwa [Nat.zero_add] at this, by rw [h4, List.range_eq_range']⟩
theorem flat_cut {β : Type} {g : Nat → List β} {K T : Nat} (hK : K ≤ T) (h : ∀ j, K ≤ j → j < T → g j = []) : (List.range T).flatMap g = (List.range K).flatMap g := by
  obtain ⟨d, rfl⟩ : ∃ d, T = K + d := ⟨T - K, by omega⟩
  induction d with
  | zero => rfl
  | succ d ih =>
    rw [← Nat.add_assoc, List.range_succ, List.flatMap_append, ih (by omega) (fun j h1 h2 => h j h1 (by omega))]
    simp [h (K + d) (by omega) (by omega)]
/-- What the search from noughts on finds. -/
theorem enumF_filter (hm : ∀ x y : List Int, x.length = n → y.length = n → (∀ i, i < n → 0 ≤ x.getD i 0 ∧ x.getD i 0 ≤ y.getD i 0) → P y = true → P x = true)
    (hbd : ∀ x, P x = true → x.length = n → ∀ v, v < n → x.getD v 0 ≤ top.getD v 0) (hq0 : top.getD q 0 = 0) (ht : ∀ v, v < n → top.getD v 0 ≤ 599) (ht0 : ∀ v, v < n → -1 ≤ top.getD v 0) :
    ∀ f, f ≤ n → ∀ c : List Int, c.length = n → (∀ i, n - f ≤ i → i < n → c.getD i 0 = 0) → (∀ i, 0 ≤ c.getD i 0) → P c = true → enumF n q P f c = (extL top n f c).filter P
  | 0, _, c, _, _, _, hp => by
    simp only [enumF, extL, List.filter_cons, List.filter_nil, hp, if_pos]
  | f + 1, hf, c, hc, hz, h0, hp => by
    obtain ⟨v, hv⟩ : ∃ v, v + (f + 1) = n := ⟨n - (f + 1), by omega⟩
    have hvn : n - (f + 1) = v := by omega
    have hcv : c.getD v 0 = 0 := hz v (by omega) (by omega)
    have hset0 : ∀ (k : Nat) i, 0 ≤ (c.set v (k : Int)).getD i 0 := fun k i => by
      rw [getD_setJ _ _ _ (by omega)]; split
      · omega
      · exact h0 i
    have hsetz : ∀ k : Nat, ∀ i, n - f ≤ i → i < n → (c.set v (k : Int)).getD i 0 = 0 := fun k i h1 h2 => by
      rw [getD_setJ _ _ _ (by omega), if_neg (by omega)]; exact hz i (by omega) h2
    rw [extL_some hv]
    by_cases hvq : v = q
    · have hv0 : top.getD v 0 = 0 := by rw [hvq]; exact hq0
      rw [enumF_sink hv hvq, hv0]
      have : c.set v ((0 : Nat) : Int) = c := by
        apply List.ext_getElem (by simp)
        intro i h1 h2
        rw [List.getElem_set]
        split
        · rename_i e; subst e
          rw [List.getD_eq_getElem?_getD, List.getElem?_eq_getElem h2] at hcv
          exact hcv.symm
        · rfl
      show _ = (List.filter P ((List.range 1).flatMap _))
      rw [show List.range 1 = [0] from rfl, List.flatMap_cons, List.flatMap_nil, List.append_nil, this]
      exact enumF_filter hm hbd hq0 ht ht0 f (by omega) c hc (fun i h1 h2 => hz i (by omega) h2) h0 hp
    · rw [enumF, hvn, if_neg hvq]
      obtain ⟨K, hK, hKt, hKf, hKe⟩ := take_anti (fun j : Nat => P (c.set v (j : Int))) 601
      rw [hKe, List.filter_flatMap]
      have hKT : K ≤ ((top.getD v 0) + 1).toNat := by
        rcases Nat.eq_zero_or_pos K with h1 | h1
        · omega
        · have h2 := hbd _ (hKt (K - 1) (by omega)) (by simpa using hc) v (by omega)
          rw [getD_setJ _ _ _ (by omega), if_pos rfl] at h2
          omega
      have hK1 : K < 601 := by have := ht v (by omega); omega
      have hKF := hKf hK1
      rw [flat_cut hKT (fun j h1 h2 => ?_)]
      · apply flat_congr
        intro k hk
        have hk := List.mem_range.1 hk
        exact enumF_filter hm hbd hq0 ht ht0 f (by omega) _ (by simpa using hc) (hsetz k) (hset0 k) (hKt k hk)
      · rw [List.filter_eq_nil_iff]
        intro x hx hpx
        obtain ⟨h3, h4⟩ := ext_ge f (by omega) (c.set v (j : Int)) (by simpa using hc) (hsetz j) x hx
        have h5 := hm (c.set v (K : Int)) x (by simpa using hc) h3 (fun i hi => ⟨hset0 K i, by
          have := h4 i hi
          rw [getD_setJ _ _ _ (by omega)] at this ⊢
          split
          · rename_i e; rw [if_pos e] at this; omega
          · rename_i e; rw [if_neg e] at this; exact this⟩) hpx
        rw [h5] at hKF; cases hKF
theorem nodup_flat {α β : Type} {f : α → List β} : ∀ {l : List α}, l.Nodup → (∀ a ∈ l, (f a).Nodup) → (∀ a ∈ l, ∀ b ∈ l, a ≠ b → ∀ x, x ∈ f a → x ∉ f b) → (l.flatMap f).Nodup
  | [], _, _, _ => by simp
  | a :: l, hn, h1, h2 => by
    rw [List.nodup_cons] at hn
    rw [List.flatMap_cons, List.nodup_append]
    refine ⟨h1 a (by simp), nodup_flat hn.2 (fun b hb => h1 b (by simp [hb])) (fun b hb c hc => h2 b (by simp [hb]) c (by simp [hc])), fun x hx y hy hxy => ?_⟩
    subst hxy
    obtain ⟨b, hb, hxb⟩ := List.mem_flatMap.1 hy
    exact h2 a (by simp) b (by simp [hb]) (fun e => hn.1 (e ▸ hb)) x hx hxb
theorem bel_nodup : ∀ v, (belL top v).Nodup
  | 0 => by simp [belL]
  | v + 1 => by
    rw [belL]
    refine nodup_flat (bel_nodup v) (fun p _ => ?_) (fun a ha b hb hne x hx hy => ?_)
    · refine nodup_map_of (fun a _ b _ h => ?_) List.nodup_range
      have := List.append_inj_right h rfl
      have h2 : (a : Int) = (b : Int) := by simpa using this
      omega
    · rw [List.mem_map] at hx hy
      obtain ⟨i, _, rfl⟩ := hx
      obtain ⟨j, _, h⟩ := hy
      have hla := belL_length v a ha
      have hlb := belL_length v b hb
      exact hne (List.append_inj_left h (by omega)).symm
theorem mem_bel : ∀ v (p : List Int), p.length = v → (∀ i, i < v → 0 ≤ p.getD i 0 ∧ p.getD i 0 ≤ top.getD i 0) → p ∈ belL top v
  | 0, p, h, _ => by simp [belL]; exact List.eq_nil_of_length_eq_zero h
  | v + 1, p, h, hb => by
    rw [belL, List.mem_flatMap]
    have h1 := hb v (by omega)
    have hgl : p.getD v 0 = p[v]'(by omega) := by rw [List.getD_eq_getElem?_getD, List.getElem?_eq_getElem (by omega)]; rfl
    refine ⟨p.take v, mem_bel v (p.take v) (by simp; omega) (fun i hi => ?_), List.mem_map.2 ⟨(p.getD v 0).toNat, List.mem_range.2 (by omega), ?_⟩⟩
    · rw [List.getD_eq_getElem?_getD, List.getElem?_take, if_pos hi, ← List.getD_eq_getElem?_getD]
      exact hb i (by omega)
    · rw [Int.toNat_of_nonneg h1.1, hgl]
      have := List.take_append_drop v p
      rw [List.drop_eq_getElem_cons (by omega), List.drop_eq_nil_of_le (by omega)] at this
      exact this
end
theorem calm_iff {n q : Nat} {es : List E3} {cs : List Int} : calmB n es q cs = true ↔ cfgErr n es q cs = 0 := by
  unfold calmB cfgErr
  rw [Bool.and_eq_true, decide_eq_true_eq]
  constructor
  · rintro ⟨h1, h2⟩
    rw [if_neg (fun h => h h2), if_pos h1]
  · intro h
    by_cases h1 : (superE n es q cs).2 = 0
    · rw [if_neg (fun hh => hh h1)] at h
      refine ⟨?_, h1⟩
      refine Classical.byContradiction fun h2 => ?_
      rw [if_neg h2] at h; cases h
    · rw [if_pos h1] at h; exact absurd h h1
theorem burns_mono {E : List (Nat × Nat)} {n q : Nat} {x y : List Int} (h : BurnsAll E n q y) (hxy : ∀ v, v < n → x.getD v 0 ≤ y.getD v 0) : BurnsAll E n q x := fun O h1 h2 h3 h4 => h O h1 h2 h3 fun v hv hm => Int.le_trans (h4 v hv hm) (hxy v hv)
/-- A right configuration, by its numbers. -/
theorem burn_right {n q : Nat} {es : List E3} (hr : rootErr n es q = 0) {c : List Int} (hl : c.length = n) (h0 : ∀ v, v < n → 0 ≤ c.getD v 0) (hb : ∀ v, v < n → c.getD v 0 ≤ 1048576) (hq : c.getD q 0 = 0) : burnErr n es q c = 0 := by
  have hx : ∀ x ∈ c, 0 ≤ x ∧ x ≤ 1048576 := by
    intro x hx
    obtain ⟨i, hi, rfl⟩ := List.mem_iff_getElem.1 hx
    have h1 := h0 i (by omega)
    have h2 := hb i (by omega)
    rw [List.getD_eq_getElem?_getD, List.getElem?_eq_getElem hi] at h1 h2
    exact ⟨h1, h2⟩
  have hc := conf_of hr hl (fun x h => by have := hx x h; omega) (fun x h => (hx x h).2) (fun v hv _ => h0 v hv)
  unfold burnErr
  rw [if_neg (fun h => h hc), Int.toNat_natCast, if_neg (fun h => h hq)]
theorem cfg_facts {n q : Nat} {es : List E3} {c : List Int} (h : cfgErr n es q c = 0) : rootErr n es q = 0 ∧ RightG n es ∧ q < n ∧ c.length = n ∧ (∀ v, v < n → 0 ≤ c.getD v 0) ∧ c.getD q 0 = 0 ∧ BurnsAll (endsL es) n q c ∧ (∀ v, v < n → c.getD v 0 ≤ (maxL n es q).getD v 0) := by
  obtain ⟨h1, h2⟩ := cfg_iff.1 h
  obtain ⟨hc, h0⟩ := burn_zero h1
  rw [Int.toNat_natCast] at h0
  obtain ⟨hG, _, hq0, hqn, hcl, _, hnn⟩ := conf_zero hc
  have hq : q < n := by omega
  have hr : rootErr n es q = 0 := by
    rcases conf_cases n es q c with ⟨h1, h2⟩ | ⟨h1, _⟩ | ⟨h1, _⟩
    · exact absurd (h2 ▸ hc) h1
    · exact h1
    · exact h1
  have hnn' : ∀ v, v < n → 0 ≤ c.getD v 0 := fun v hv => by
    by_cases hvq : v = q
    · subst hvq; omega
    · exact hnn v (by omega) (by omega)
  refine ⟨hr, hG, hq, by omega, hnn', h0, h2, fun v hv => ?_⟩
  rw [maxL_get hG.ok hv]
  split
  · rename_i e; subst e; omega
  · rename_i e
    have := stabTo_iff.1 (burns_stab hG hq h2) v hv e
    omega
theorem valE_small {n : Nat} {es : List E3} (hG : RightG n es) (hm : (endsL es).length ≤ 500) (v : Nat) (_hv : v < n) : valE es v ≤ 500 := by
  rw [valE_jn hG.ok]
  have h1 : jnE es (List.range n) v = jnE es ((List.range n).filter fun u => !decide (u = v)) v := by
    unfold jnE
    congr 1
    apply List.map_congr_left
    intro e he
    unfold jnT
    have hiff : (e.1 ≠ e.2.1 ∧ ((e.1 = v ∧ e.2.1.toNat ∈ List.range n) ∨ (e.2.1 = v ∧ e.1.toNat ∈ List.range n))) ↔ (e.1 ≠ e.2.1 ∧ ((e.1 = v ∧ e.2.1.toNat ∈ (List.range n).filter fun u => !decide (u = v)) ∨ (e.2.1 = v ∧ e.1.toNat ∈ (List.range n).filter fun u => !decide (u = v)))) := by
      have := hG.ok e he
      unfold okE at this
      simp only [List.mem_filter, List.mem_range, Bool.not_eq_true', decide_eq_false_iff_not]
      constructor
      · rintro ⟨h, ⟨h1, h2⟩ | ⟨h1, h2⟩⟩
        · exact ⟨h, .inl ⟨h1, h2, by omega⟩⟩
        · exact ⟨h, .inr ⟨h1, h2, by omega⟩⟩
      · rintro ⟨h, ⟨h1, h2, _⟩ | ⟨h1, h2, _⟩⟩
        · exact ⟨h, .inl ⟨h1, h2⟩⟩
        · exact ⟨h, .inr ⟨h1, h2⟩⟩
    by_cases h : (e.1 ≠ e.2.1 ∧ ((e.1 = v ∧ e.2.1.toNat ∈ List.range n) ∨ (e.2.1 = v ∧ e.1.toNat ∈ List.range n)))
    · rw [if_pos h, if_pos (hiff.1 h)]
    · rw [if_neg h, if_neg (fun h' => h (hiff.2 h'))]
  rw [h1, ← deg_jn hG.ok v (by simp)]
  have : degTo (endsL es) v ((List.range n).filter fun u => !decide (u = v)) ≤ (endsL es).length := by
    unfold degTo
    exact Nat.le_trans (List.length_filter_le _ _) (by rw [List.length_range]; exact Nat.le_refl _)
  omega
theorem supL_bel {n q : Nat} {es : List E3} (hr : rootErr n es q = 0) (hj : joinErr n es = 0) (hG : RightG n es) (hq : q < n) (hm : (endsL es).length ≤ 500) : supL n es q = (belL (maxL n es q) n).filter (calmB n es q) := by
  have hval : ∀ v, v < n → valE es v ≤ 500 := fun v hv => valE_small hG hm v hv
  have hlen : (maxL n es q).length = n := maxL_length n es q
  have hn : 0 < n := by omega
  have hzero : calmB n es q (List.replicate n 0) = true := by
    rw [calm_iff, cfg_iff]
    have hz : ∀ v, (List.replicate n (0 : Int)).getD v 0 = 0 := fun v => by
      simp only [List.getD_eq_getElem?_getD, List.getElem?_replicate]; split <;> simp
    refine ⟨burn_right hr (by simp) (fun v _ => by rw [hz]; omega) (fun v _ => by rw [hz]; omega) (hz q), ?_⟩
    obtain ⟨t, ht⟩ := tree_ex (bd_ends hG) (by
      have h1 := (join_zero hj).2.2
      rw [Int.toNat_natCast, connB_parts hG] at h1
      exact of_decide_eq_true h1)
    exact burns_mono (conf_burns (bd_ends hG) hq ht) fun v _ => by rw [hz]; exact (conf_facts (bd_ends hG) hq t).2.1 v
  unfold supL
  rw [enumF_filter (top := maxL n es q) (q := q) (P := calmB n es q) (fun x y hx hy h hp => ?_) (fun x hp _ v hv => (cfg_facts (calm_iff.1 hp)).2.2.2.2.2.2.2 v hv) (by rw [maxL_get hG.ok hq, if_pos rfl]) (fun v hv => ?_) (fun v hv => ?_) n (Nat.le_refl _) _ (by simp) (fun i _ _ => ?_) (fun i => ?_) hzero]
  · rw [bel_ext hlen, extL_pre n (Nat.le_refl _) (List.replicate n 0) (maxL n es q) (by simp) hlen (fun i hi => by omega)]
  · obtain ⟨h1, _, _, _, h5, h6, h7, h8⟩ := cfg_facts (calm_iff.1 hp)
    rw [calm_iff, cfg_iff]
    refine ⟨burn_right h1 hx (fun v hv => (h v hv).1) (fun v hv => ?_) ?_, burns_mono h7 fun v hv => (h v hv).2⟩
    · have h9 := (h v hv).2
      have h10 := h8 v hv
      rw [maxL_get hG.ok hv] at h10
      split at h10
      · omega
      · have := hval v hv; omega
    · have := h q hq; omega
  · rw [maxL_get hG.ok hv]; split
    · omega
    · have := hval v hv; omega
  · rw [maxL_get hG.ok hv]; split
    · omega
    · have := (valE_bd hG.ok v).1; omega
  · simp only [List.getD_eq_getElem?_getD, List.getElem?_replicate]; split <;> simp
  · simp only [List.getD_eq_getElem?_getD, List.getElem?_replicate]; split <;> simp
/-- The superstable configurations, each once. -/
theorem supL_mem {n q : Nat} {es : List E3} (hr : rootErr n es q = 0) (hj : joinErr n es = 0) (hG : RightG n es) (hq : q < n) (hm : (endsL es).length ≤ 500) : (supL n es q).Nodup ∧ ∀ c, c ∈ supL n es q ↔ cfgErr n es q c = 0 := by
  rw [supL_bel hr hj hG hq hm]
  refine ⟨(bel_nodup n).sublist List.filter_sublist, fun c => ?_⟩
  rw [List.mem_filter, calm_iff]
  refine ⟨fun h => h.2, fun h => ⟨?_, h⟩⟩
  obtain ⟨_, _, _, h4, h5, _, _, h8⟩ := cfg_facts h
  exact mem_bel n c h4 fun i hi => ⟨h5 i hi, h8 i hi⟩
end Go.Proofs.YtghigdcpinengaaGreat

/-! treebijection.Pairs. -/
namespace Go.Proofs.YtghigdcpinengaaGreat
open Go.RowKit

theorem cfg_len {n q : Nat} {es : List E3} {c : List Int} (h : cfgErr n es q c = 0) : c.length = n := (cfg_facts h).2.2.2.1
theorem treeN_len {n q : Nat} {es : List E3} {c : List Int} : (treeN (endsL es) n q c).length ≤ (endsL es).length := by
  have := nodup_sub_le (asc_set (endsL es).length (fireC_ (endsL es) n q c).tree).nodup (m := List.range (endsL es).length) (fun x hx => List.mem_range.2 ((asc_set _ _).2 x hx))
  rw [List.length_range] at this
  exact this
def pairOf (E : List (Nat × Nat)) (n q : Nat) (c : List Int) : List Int × List Int := (c, nI (treeN E n q c))

set_option maxRecDepth 100000 in
set_option maxHeartbeats 8000000 in
theorem pairs30_any (n q : Int) (A : Option Addr) (cA : Nat) (es : List E3) (hlen : es.length ≤ 10000) (hm0 : checkG n es = 0 → (endsL es).length ≤ 60) (hxl : (allSE n es q).1.length ≤ 16384) (w : World) (h : Reads w w.heap.size 3 A es.length (edgeCells es)) :
    Calls Tryz.prog 39 #[.agg #[.int .i64 n, .slice A es.length cA], .int .i64 q] w fun e w' => ∃ Ar cr, e = .returned (.tuple #[.slice Ar (pairsE n es q).1.length cr, .int .i64 (pairsE n es q).2]) ∧ PrsR w' w'.heap.size Ar (pairsE n es q).1 ∧ Below w.heap.size w w' := by
  have AC := Lib.hid (fun (W : World) (hB : Below w.heap.size w W) => sall_any n q A cA es hlen hxl W ((h.below hB).more hB.size))
  have g0 := Blk.new w 24 #[.int .i64 n, .slice A es.length cA]
  have hB0 : Below w.heap.size w (w.alloc (.cells #[.int .i64 n, .slice A es.length cA] 24)) := (Below.refl _ _).alloc (Nat.le_refl _) _
  have c0 := g0.cell 0
  have c1 := g0.cell 1
  by_cases hz : rootErr n es q = 0
  · obtain ⟨m, p, rfl, rfl, hp, hG, _, hck, hj⟩ := root_natF hz
    have hm := hm0 hck
    have hS := supL_mem hz hj hG hp (by omega)
    have hE : allSE m es p = (supL m es p, 0) := by unfold allSE; rw [if_pos hz]; rfl
    have hP : pairsE m es p = ((supL m es p).map (pairOf (endsL es) m p), 0) := by unfold pairsE; rw [if_pos hz]; rfl
    rw [hE] at AC hxl
    rw [hP]
    dsimp only at AC hxl ⊢
    have TC : Hid (∀ (c : List Int), c ∈ supL m es p → ∀ (B : Option Addr) (d : Nat) (W : World), Below w.heap.size w W → Reads W W.heap.size 1 B c.length (ints c) → Calls Tryz.prog 14 #[.agg #[.int .i64 m, .slice A es.length cA], .int .i64 p, .slice B c.length d] W fun e w' => ∃ A1 c1 A2 k2 c2, e = .returned (.tuple #[.slice A1 (pairOf (endsL es) m p c).2.length c1, .slice A2 k2 c2, .int .i64 0]) ∧ OwnI w' W.heap.size A1 c1 (pairOf (endsL es) m p c).2 ∧ Below W.heap.size W w') := by
      intro c hc B d W hB hr
      have hcz := (hS.2 c).1 hc
      have hcl := cfg_len hcz
      have hE2 : treeFE m es p c = (nI (treeN (endsL es) m p c), nI (fireC_ (endsL es) m p c).order, 0) := by unfold treeFE; rw [if_pos hcz]; rfl
      have := ttree30_any m p A cA es hlen (fun _ => hm) B d c (by have := hG.hi; omega) W ((h.below hB).more hB.size) hr
      rw [hE2] at this
      refine this.mono ?_
      rintro e w' ⟨A1, c1, A2, c2, rfl, o1, _, hb⟩
      exact ⟨A1, c1, A2, _, c2, rfl, o1, hb⟩
    have HPL : Hid (∀ c, (pairOf (endsL es) m p c).1 = c) := fun c => rfl
    have HTL : Hid (∀ c, (pairOf (endsL es) m p c).2.length ≤ 60) := fun c => by
      show (nI (treeN (endsL es) m p c)).length ≤ 60
      rw [nI_length]
      exact Nat.le_trans treeN_len hm
    obtain ⟨F, hF⟩ : ∃ F, pairOf (endsL es) m p = F := ⟨_, rfl⟩
    rw [hF] at TC HPL HTL ⊢
    obtain ⟨X, hX⟩ : ∃ X, supL m es p = X := ⟨_, rfl⟩
    rw [hX] at AC TC hxl ⊢
    rw [List.length_map]
    obtain ⟨N, hN⟩ : ∃ N, X.length = N := ⟨_, rfl⟩
    rw [hN] at AC hxl ⊢
    have HN := Lib.hid hN
    clear hE hP hF hX hN hS hz hG hck hj hm h
    go_enter Tryz.func39, Tryz.ntmps39
    go_wp2_with fail
    refine (AC.out _ hB0).mono ?_
    rintro e w1 ⟨Ar, cr, rfl, r1, hb1⟩
    have hB1 := hB0.trans (hb1.mono hB0.size)
    have g1 := g0.next hb1
    have R1 := Lib.hid r1
    have HB1 := Lib.hid hB1
    have hs1 := hB1.size
    clear c0 c1 g0 r1 hB0 hb1 hB1
    go_wp2_with fail
    go_loopw [8, 25] (fun o i wr => ∃ (k : Nat) (A : Option Addr) (c : Nat) (vs : List Value) (ps : List (List Int × List Int)), k ≤ N ∧ i = .int .i64 k ∧ o = .slice A ps.length c ∧ Hid ((X.take k).map F = ps) ∧ ps.length ≤ k ∧ Hid (PrsW 78 wr w1.heap.size A c vs ps) ∧ Hid (Below w1.heap.size w1 wr)) (fun _ i _ => N - (intOf i).toNat)
    case atStart => exact ⟨0, none, 0, [], [], by omega, rfl, rfl, rfl, by simp, PrsW.nil_ _ _ _, Below.refl _ _⟩
    case round =>
      obtain ⟨k, Ao, co, vs, ps, hk, rfl, rfl, HR, hrl, HO, HB⟩ := hrel
      have hsz := HB.out.size
      by_cases hlt : k < N
      · have hi : (k : Int) < (N : Int) := by omega
        obtain ⟨x, hx⟩ := get_of_lt (xs := X) (k := k) (by rw [HN.out]; exact hlt)
        obtain ⟨bX, oX, A3, c3, hA, hbX, kx, rx⟩ := (R1.out.below HB.out).at_ hx
        subst hA
        have g2 := g1.next HB.out
        have k0 := g2.cell 0
        have k1 := g2.cell 1
        have HB2 : Hid (Below w.heap.size w wr) := HB1.out.trans (HB.out.mono hs1)
        have TX := Lib.hid (TC.out x (List.mem_of_getElem? hx) A3 c3 wr HB2.out (rx.more hsz))
        have hts : Hid ((X.take (k + 1)).map F = ps ++ [F x]) := by
          rw [Hid, take_snoc hx, List.map_append, HR.out]; rfl
        have HTX := Lib.hid (HTL.out x)
        have HPX := Lib.hid (HPL.out x)
        have RX := Lib.hid rx
        obtain ⟨L, hL⟩ : ∃ L, x.length = L := ⟨_, rfl⟩
        rw [hL] at kx TX
        have HLx := Lib.hid hL
        clear hx rx hL HR
        go_wp2_with fail
        refine (TX.out).mono ?_
        rintro e w3 ⟨A1, c1, A2, k2, c2, rfl, o3, hb3⟩
        have own3 := Lib.hid (HO.out.next hsz hb3)
        have hs3 : w1.heap.size ≤ w3.heap.size := Nat.le_trans hsz hb3.size
        have ow : w3.ownsRow w1.heap.size 78 2 (.slice Ao ps.length co) ps.length vs := own3.out.own
        have HO3 := Lib.hid (o3.mono hsz)
        have HB13 := Lib.hid (hb3.mono hsz)
        have HB3 : Hid (Below w1.heap.size w1 w3) := HB.out.trans (hb3.mono hsz)
        obtain ⟨T, hT⟩ : ∃ T, (F x).2.length = T := ⟨_, rfl⟩
        rw [hT]
        have HT := Lib.hid hT
        have hbx := Reads.boxN w3 #[.slice A3 L c3, .slice A1 T c1] 78
        clear o3 hb3 hT
        go_wp2_with (at_builtin; refine append_go rfl (.tmp 40) (.tmp 44) _ rfl w1.heap.size 78 Tryz.underlying64 info_tpair rfl (by omega) Ao co ps.length vs rfl (World.ownsRow.alloc ow _) (w3.heap.size + 1) [.slice A3 L c3, .slice A1 T c1] rfl hbx (by simp [Value.oneCell']) (by omega) (by simp; omega) ?_; intro A7 c7 w7 hown7 hg7 hb7 hd7)
        have HB7 : Hid (Below w1.heap.size w3 w7) := ((Below.refl _ _).alloc hs3 _).trans hb7
        have HP7 : Hid (PrsW 78 w7 w1.heap.size A7 c7 (vs ++ [.slice A3 x.length c3, .slice A1 (F x).2.length c1]) (ps ++ [(x, (F x).2)])) :=
          PrsW.push (by decide) own3.out (RX.out.below HB13.out) HO3.out (by rw [HLx.out, HT.out]; exact hown7) hg7 HB7.out
        have HFX : Hid (ps ++ [(x, (F x).2)] = ps ++ [F x]) := by rw [Hid]; congr 2; exact Prod.ext HPX.out.symm rfl
        rw [HFX.out] at HP7
        clear hown7 hg7 hb7 hd7 hbx ow
        go_wp2
        go_roundw
        case rel => exact ⟨k + 1, A7, c7, _, ps ++ [F x], by omega, by go_num, by rw [List.length_append]; rfl, hts.out, by simp; omega, HP7.out, HB3.out.trans HB7.out⟩
        case measure => simp [intOf]; omega
      · obtain rfl : k = N := by omega
        have hfull : X.map F = ps := by rw [← HR.out, List.take_of_length_le (by rw [HN.out]; exact Nat.le_refl _)]
        have hpl : ps.length = k := by rw [← hfull, List.length_map]; exact HN.out
        have HF := Lib.hid hfull
        have HPL2 := Lib.hid hpl
        have HR2 := Lib.hid (HO.out.reads hsz)
        have hB := HB1.out.trans (HB.out.mono hs1)
        clear hfull hpl
        go_wp2
        go_ret2
        rw [HF.out]
        refine ⟨Ao, co, ?_, HR2.out, hB⟩
        show Ending.returned (.tuple #[.slice Ao ps.length co, .int .i64 0]) = _
        rw [HPL2.out]
  · have hE : allSE n es q = ([], rootErr n es q) := by unfold allSE; rw [if_neg hz]
    have hP : pairsE n es q = ([], rootErr n es q) := by unfold pairsE; rw [if_neg hz]
    rw [hE] at AC
    rw [hP]
    dsimp only at AC ⊢
    obtain ⟨z, hzz⟩ : ∃ z, rootErr n es q = z := ⟨_, rfl⟩
    rw [hzz] at AC hz ⊢
    have hzb : (z != 0) = true := by simpa using hz
    clear hE hP hzz hz hm0 h hxl
    go_enter Tryz.func39, Tryz.ntmps39
    go_wp2_with fail
    refine (AC.out _ hB0).mono ?_
    rintro e w1 ⟨Ar, cr, rfl, r1, hb1⟩
    have hB1 := hB0.trans (hb1.mono hB0.size)
    go_wp2
    go_ret2
    exact ⟨_, _, rfl, PrsR.nil_ _ _, hB1⟩
end Go.Proofs.YtghigdcpinengaaGreat

/-! Package tree: Cycle (what it returns; the refusals). -/
namespace Go.Proofs.YtghigdcpinengaaGreat
open Go.RowKit

end Go.Proofs.YtghigdcpinengaaGreat

/-! Package tree: Cycle, the way and the sorted cycle; Cycle for all arguments. -/
namespace Go.Proofs.YtghigdcpinengaaGreat
open Go.RowKit

end Go.Proofs.YtghigdcpinengaaGreat

/-! Package tree: without. -/
namespace Go.Proofs.YtghigdcpinengaaGreat
open Go.RowKit

end Go.Proofs.YtghigdcpinengaaGreat

/-! Package tree: Cutset. -/
namespace Go.Proofs.YtghigdcpinengaaGreat
open Go.RowKit

end Go.Proofs.YtghigdcpinengaaGreat

/-! Package tree: Swap. -/
namespace Go.Proofs.YtghigdcpinengaaGreat
open Go.RowKit

end Go.Proofs.YtghigdcpinengaaGreat

/-! Package tree: Parents. -/
namespace Go.Proofs.YtghigdcpinengaaGreat
open Go.RowKit

end Go.Proofs.YtghigdcpinengaaGreat

/-! The example of chapter 13, reckoned. -/
namespace Go.Proofs.YtghigdcpinengaaGreat

/-- The graph of the chapter. -/
def ear : List E3 := [(0, 1, 2), (0, 2, 1), (1, 2, 1)]
set_option maxRecDepth 100000
end Go.Proofs.YtghigdcpinengaaGreat

