/-
 Texts of this claim, put together: SupQ, DualS, RList, MatchP, RTurn28, RecF.
-/
import Derived.Test.YtnbikkcalcpedaaGreatDoorK32
import Derived.Test.YtnbikkcalcpedaaGreatDoorK34
import Derived.Test.YtnbikkcalcpedaaGreatDoorK22
import Derived.Test.YtnbikkcalcpedaaGreatDoorK27
import Derived.Test.YtnbikkcalcpedaaGreatDoorK30
import Derived.Test.YtnbikkcalcpedaaGreatDoorK29
import Derived.Test.YtnbikkcalcpedaaGreatDoorK15
import Derived.Test.YtnbikkcalcpedaaGreatDoorK16
import Derived.Test.YtnbikkcalcpedaaGreatDoorK33
set_option maxRecDepth 100000
set_option maxHeartbeats 4000000
namespace Go.Proofs.YtnbikkcalcpedaaGreatDoor
open Go.RowKit
section
variable {top c x y : List Int} {n q f v k : Nat} {P : List Int → Bool}
theorem getD_setJ (c : List Int) (v : Nat) (x : Int) (hv : v < c.length) (i : Nat) : (c.set v x).getD i 0 = if i = v then x else c.getD i 0 := by
 rw [List.getD_eq_getElem?_getD, List.getElem?_set]
 by_cases h : v = i
 ·subst h; rw [if_pos rfl, if_pos hv, if_pos rfl]; rfl
 ·rw [if_neg h, if_neg (fun e => h e.symm), ← List.getD_eq_getElem?_getD]
theorem extL_pre : ∀ f, f ≤ n → ∀ c c' : List Int, c.length = n → c'.length = n → (∀ i, i < n - f → c.getD i 0 = c'.getD i 0) → extL top n f c = extL top n f c'
 | 0, _, c, c', hc, hc', h => by
   have : c = c' := by
    apply List.ext_getElem (by omega)
    intro i h1 h2
    have := h i (by omega)
    rw [List.getD_eq_getElem?_getD, List.getD_eq_getElem?_getD, List.getElem?_eq_getElem h1, List.getElem?_eq_getElem h2] at this
    exact this
   rw [this]
 | f + 1, hf, c, c', hc, hc', h => by
   rw [extL_some (v := n - (f + 1)) (by omega), extL_some (v := n - (f + 1)) (by omega)]
   apply flat_congr
   intro k _
   refine extL_pre f (by omega) _ _ (by simpa using hc) (by simpa using hc') fun i hi => ?_
   rw [getD_setJ _ _ _ (by omega), getD_setJ _ _ _ (by omega)]
   by_cases h1 : i = n - (f + 1)
   ·rw [if_pos h1, if_pos h1]
   ·rw [if_neg h1, if_neg h1]; exact h i (by omega)
theorem ext_ge : ∀ f, f ≤ n → ∀ c : List Int, c.length = n → (∀ i, n - f ≤ i → i < n → c.getD i 0 = 0) → ∀ x ∈ extL top n f c, x.length = n ∧ (∀ i, i < n → c.getD i 0 ≤ x.getD i 0)
 | 0, _, c, hc, _, x, hx => by
   simp [extL] at hx; subst hx; exact ⟨hc, fun i _ => Int.le_refl _⟩
 | f + 1, hf, c, hc, hz, x, hx => by
   rw [extL_some (v := n - (f + 1)) (by omega), List.mem_flatMap] at hx
   obtain ⟨k, _, hx⟩ := hx
   obtain ⟨h1, h2⟩ := ext_ge f (by omega) (c.set (n - (f + 1)) (k : Int)) (by simpa using hc) (fun i h1 h2 => by rw [getD_setJ _ _ _ (by omega), if_neg (by omega)]; exact hz i (by omega) h2) x hx
   refine ⟨h1, fun i hi => ?_⟩
   have h3 := h2 i hi
   rw [getD_setJ _ _ _ (by omega)] at h3
   by_cases h : i = n - (f + 1)
   ·rw [if_pos h] at h3
    rw [h, hz _ (Nat.le_refl _) (by omega), ← h]; omega
   ·rw [if_neg h] at h3; exact h3
theorem take_anti (p : Nat → Bool) (N : Nat) : ∃ K, K ≤ N ∧ (∀ j, j < K → p j = true) ∧ (K < N → p K = false) ∧ (List.range' 0 N).takeWhile p = List.range K := by
 have key : ∀ N s, ∃ K, K ≤ N ∧ (∀ j, s ≤ j → j < s + K → p j = true) ∧ (K < N → p (s + K) = false) ∧ (List.range' s N).takeWhile p = List.range' s K := by
  intro N
  induction N with
  | zero => intro s; exact ⟨0, Nat.le_refl _, fun j h1 h2 => by omega, fun h => absurd h (by omega), rfl⟩
  | succ N ih =>
    intro s
    rw [List.range'_succ, List.takeWhile_cons]
    cases hp : p s
    ·exact ⟨0, Nat.zero_le _, fun j h1 h2 => by omega, fun _ => hp, rfl⟩
    ·obtain ⟨K, h1, h2, h3, h4⟩ := ih (s + 1)
     refine ⟨K + 1, by omega, fun j h5 h6 => ?_, fun h5 => ?_, by rw [h4, if_pos rfl, List.range'_succ]⟩
     ·by_cases h7 : j = s
      ·rw [h7]; exact hp
      ·exact h2 j (by omega) (by omega)
     ·have := h3 (by omega)
      rw [show s + 1 + K = s + (K + 1) from by omega] at this; exact this
 obtain ⟨K, h1, h2, h3, h4⟩ := key N 0
 exact ⟨K, h1, fun j hj => h2 j (Nat.zero_le _) (by omega), fun hK => by have := h3 hK; rwa [Nat.zero_add] at this, by rw [h4, List.range_eq_range']⟩
theorem flat_cut {β : Type} {g : Nat → List β} {K T : Nat} (hK : K ≤ T) (h : ∀ j, K ≤ j → j < T → g j = []) : (List.range T).flatMap g = (List.range K).flatMap g := by
 obtain ⟨d, rfl⟩ : ∃ d, T = K + d := ⟨T - K, by omega⟩
 induction d with
 | zero => rfl
 | succ d ih =>
   rw [← Nat.add_assoc, List.range_succ, List.flatMap_append, ih (by omega) (fun j h1 h2 => h j h1 (by omega))]
   simp [h (K + d) (by omega) (by omega)]
theorem enumF_filter (hm : ∀ x y : List Int, x.length = n → y.length = n → (∀ i, i < n → 0 ≤ x.getD i 0 ∧ x.getD i 0 ≤ y.getD i 0) → P y = true → P x = true)
  (hbd : ∀ x, P x = true → x.length = n → ∀ v, v < n → x.getD v 0 ≤ top.getD v 0) (hq0 : top.getD q 0 = 0) (ht : ∀ v, v < n → top.getD v 0 ≤ 599) (ht0 : ∀ v, v < n → -1 ≤ top.getD v 0) :
  ∀ f, f ≤ n → ∀ c : List Int, c.length = n → (∀ i, n - f ≤ i → i < n → c.getD i 0 = 0) → (∀ i, 0 ≤ c.getD i 0) → P c = true → enumF n q P f c = (extL top n f c).filter P
 | 0, _, c, _, _, _, hp => by
   simp only [enumF, extL, List.filter_cons, List.filter_nil, hp, if_pos]
 | f + 1, hf, c, hc, hz, h0, hp => by
   obtain ⟨v, hv⟩ : ∃ v, v + (f + 1) = n := ⟨n - (f + 1), by omega⟩
   have hvn : n - (f + 1) = v := by omega
   have hcv : c.getD v 0 = 0 := hz v (by omega) (by omega)
   have hset0 : ∀ (k : Nat) i, 0 ≤ (c.set v (k : Int)).getD i 0 := fun k i => by
    rw [getD_setJ _ _ _ (by omega)]; split
    ·omega
    ·exact h0 i
   have hsetz : ∀ k : Nat, ∀ i, n - f ≤ i → i < n → (c.set v (k : Int)).getD i 0 = 0 := fun k i h1 h2 => by
    rw [getD_setJ _ _ _ (by omega), if_neg (by omega)]; exact hz i (by omega) h2
   rw [extL_some hv]
   by_cases hvq : v = q
   ·have hv0 : top.getD v 0 = 0 := by rw [hvq]; exact hq0
    rw [enumF_sink hv hvq, hv0]
    have : c.set v ((0 : Nat) : Int) = c := by
     apply List.ext_getElem (by simp)
     intro i h1 h2
     rw [List.getElem_set]
     split
     ·rename_i e; subst e
      rw [List.getD_eq_getElem?_getD, List.getElem?_eq_getElem h2] at hcv
      exact hcv.symm
     ·rfl
    show _ = (List.filter P ((List.range 1).flatMap _))
    rw [show List.range 1 = [0] from rfl, List.flatMap_cons, List.flatMap_nil, List.append_nil, this]
    exact enumF_filter hm hbd hq0 ht ht0 f (by omega) c hc (fun i h1 h2 => hz i (by omega) h2) h0 hp
   ·rw [enumF, hvn, if_neg hvq]
    obtain ⟨K, hK, hKt, hKf, hKe⟩ := take_anti (fun j : Nat => P (c.set v (j : Int))) 601
    rw [hKe, List.filter_flatMap]
    have hKT : K ≤ ((top.getD v 0) + 1).toNat := by
     rcases Nat.eq_zero_or_pos K with h1 | h1
     ·omega
     ·have h2 := hbd _ (hKt (K - 1) (by omega)) (by simpa using hc) v (by omega)
      rw [getD_setJ _ _ _ (by omega), if_pos rfl] at h2
      omega
    have hK1 : K < 601 := by have := ht v (by omega); omega
    have hKF := hKf hK1
    rw [flat_cut hKT (fun j h1 h2 => ?_)]
    ·apply flat_congr
     intro k hk
     have hk := List.mem_range.1 hk
     exact enumF_filter hm hbd hq0 ht ht0 f (by omega) _ (by simpa using hc) (hsetz k) (hset0 k) (hKt k hk)
    ·rw [List.filter_eq_nil_iff]
     intro x hx hpx
     obtain ⟨h3, h4⟩ := ext_ge f (by omega) (c.set v (j : Int)) (by simpa using hc) (hsetz j) x hx
     have h5 := hm (c.set v (K : Int)) x (by simpa using hc) h3 (fun i hi => ⟨hset0 K i, by
      have := h4 i hi
      rw [getD_setJ _ _ _ (by omega)] at this ⊢
      split
      ·rename_i e; rw [if_pos e] at this; omega
      ·rename_i e; rw [if_neg e] at this; exact this⟩) hpx
     rw [h5] at hKF; cases hKF
theorem nodup_flat {α β : Type} {f : α → List β} : ∀ {l : List α}, l.Nodup → (∀ a ∈ l, (f a).Nodup) → (∀ a ∈ l, ∀ b ∈ l, a ≠ b → ∀ x, x ∈ f a → x ∉ f b) → (l.flatMap f).Nodup
 | [], _, _, _ => by simp
 | a :: l, hn, h1, h2 => by
   rw [List.nodup_cons] at hn
   rw [List.flatMap_cons, List.nodup_append]
   refine ⟨h1 a (by simp), nodup_flat hn.2 (fun b hb => h1 b (by simp [hb])) (fun b hb c hc => h2 b (by simp [hb]) c (by simp [hc])), fun x hx y hy hxy => ?_⟩
   subst hxy
   obtain ⟨b, hb, hxb⟩ := List.mem_flatMap.1 hy
   exact h2 a (by simp) b (by simp [hb]) (fun e => hn.1 (e ▸ hb)) x hx hxb
theorem bel_nodup : ∀ v, (belL top v).Nodup
 | 0 => by simp [belL]
 | v + 1 => by
   rw [belL]
   refine nodup_flat (bel_nodup v) (fun p _ => ?_) (fun a ha b hb hne x hx hy => ?_)
   ·refine nodup_map_of (fun a _ b _ h => ?_) List.nodup_range
    have := List.append_inj_right h rfl
    have h2 : (a : Int) = (b : Int) := by simpa using this
    omega
   ·rw [List.mem_map] at hx hy
    obtain ⟨i, _, rfl⟩ := hx
    obtain ⟨j, _, h⟩ := hy
    have hla := belL_length v a ha
    have hlb := belL_length v b hb
    exact hne (List.append_inj_left h (by omega)).symm
theorem mem_bel : ∀ v (p : List Int), p.length = v → (∀ i, i < v → 0 ≤ p.getD i 0 ∧ p.getD i 0 ≤ top.getD i 0) → p ∈ belL top v
 | 0, p, h, _ => by simp [belL]; exact List.eq_nil_of_length_eq_zero h
 | v + 1, p, h, hb => by
   rw [belL, List.mem_flatMap]
   have h1 := hb v (by omega)
   have hgl : p.getD v 0 = p[v]'(by omega) := by rw [List.getD_eq_getElem?_getD, List.getElem?_eq_getElem (by omega)]; rfl
   refine ⟨p.take v, mem_bel v (p.take v) (by simp; omega) (fun i hi => ?_), List.mem_map.2 ⟨(p.getD v 0).toNat, List.mem_range.2 (by omega), ?_⟩⟩
   ·rw [List.getD_eq_getElem?_getD, List.getElem?_take, if_pos hi, ← List.getD_eq_getElem?_getD]
    exact hb i (by omega)
   ·rw [Int.toNat_of_nonneg h1.1, hgl]
    have := List.take_append_drop v p
    rw [List.drop_eq_getElem_cons (by omega), List.drop_eq_nil_of_le (by omega)] at this
    exact this
end
theorem calm_iff {n q : Nat} {es : List E3} {cs : List Int} : calmB n es q cs = true ↔ cfgErr n es q cs = 0 := by
 unfold calmB cfgErr
 rw [Bool.and_eq_true, decide_eq_true_eq]
 constructor
 ·rintro ⟨h1, h2⟩
  rw [if_neg (fun h => h h2), if_pos h1]
 ·intro h
  by_cases h1 : (superE n es q cs).2 = 0
  ·rw [if_neg (fun hh => hh h1)] at h
   refine ⟨?_, h1⟩
   refine Classical.byContradiction fun h2 => ?_
   rw [if_neg h2] at h; cases h
  ·rw [if_pos h1] at h; exact absurd h h1
theorem burns_mono {E : List (Nat × Nat)} {n q : Nat} {x y : List Int} (h : BurnsAll E n q y) (hxy : ∀ v, v < n → x.getD v 0 ≤ y.getD v 0) : BurnsAll E n q x := fun O h1 h2 h3 h4 => h O h1 h2 h3 fun v hv hm => Int.le_trans (h4 v hv hm) (hxy v hv)
theorem burn_right {n q : Nat} {es : List E3} (hr : rootErr n es q = 0) {c : List Int} (hl : c.length = n) (h0 : ∀ v, v < n → 0 ≤ c.getD v 0) (hb : ∀ v, v < n → c.getD v 0 ≤ 1048576) (hq : c.getD q 0 = 0) : burnErr n es q c = 0 := by
 have hx : ∀ x ∈ c, 0 ≤ x ∧ x ≤ 1048576 := by
  intro x hx
  obtain ⟨i, hi, rfl⟩ := List.mem_iff_getElem.1 hx
  have h1 := h0 i (by omega)
  have h2 := hb i (by omega)
  rw [List.getD_eq_getElem?_getD, List.getElem?_eq_getElem hi] at h1 h2
  exact ⟨h1, h2⟩
 have hc := conf_of hr hl (fun x h => by have := hx x h; omega) (fun x h => (hx x h).2) (fun v hv _ => h0 v hv)
 unfold burnErr
 rw [if_neg (fun h => h hc), Int.toNat_natCast, if_neg (fun h => h hq)]
theorem cfg_facts {n q : Nat} {es : List E3} {c : List Int} (h : cfgErr n es q c = 0) : rootErr n es q = 0 ∧ RightG n es ∧ q < n ∧ c.length = n ∧ (∀ v, v < n → 0 ≤ c.getD v 0) ∧ c.getD q 0 = 0 ∧ BurnsAll (endsL es) n q c ∧ (∀ v, v < n → c.getD v 0 ≤ (maxL n es q).getD v 0) := by
 obtain ⟨h1, h2⟩ := cfg_iff.1 h
 obtain ⟨hc, h0⟩ := burn_zero h1
 rw [Int.toNat_natCast] at h0
 obtain ⟨hG, _, hq0, hqn, hcl, _, hnn⟩ := conf_zero hc
 have hq : q < n := by omega
 have hr : rootErr n es q = 0 := by
  rcases conf_cases n es q c with ⟨h1, h2⟩ | ⟨h1, _⟩ | ⟨h1, _⟩
  ·exact absurd (h2 ▸ hc) h1
  ·exact h1
  ·exact h1
 have hnn' : ∀ v, v < n → 0 ≤ c.getD v 0 := fun v hv => by
  by_cases hvq : v = q
  ·subst hvq; omega
  ·exact hnn v (by omega) (by omega)
 refine ⟨hr, hG, hq, by omega, hnn', h0, h2, fun v hv => ?_⟩
 rw [maxL_get hG.ok hv]
 split
 ·rename_i e; subst e; omega
 ·rename_i e
  have := stabTo_iff.1 (burns_stab hG hq h2) v hv e
  omega
theorem valE_small {n : Nat} {es : List E3} (hG : RightG n es) (hm : (endsL es).length ≤ 500) (v : Nat) (_hv : v < n) : valE es v ≤ 500 := by
 rw [valE_jn hG.ok]
 have h1 : jnE es (List.range n) v = jnE es ((List.range n).filter fun u => !decide (u = v)) v := by
  unfold jnE
  congr 1
  apply List.map_congr_left
  intro e he
  unfold jnT
  have hiff : (e.1 ≠ e.2.1 ∧ ((e.1 = v ∧ e.2.1.toNat ∈ List.range n) ∨ (e.2.1 = v ∧ e.1.toNat ∈ List.range n))) ↔ (e.1 ≠ e.2.1 ∧ ((e.1 = v ∧ e.2.1.toNat ∈ (List.range n).filter fun u => !decide (u = v)) ∨ (e.2.1 = v ∧ e.1.toNat ∈ (List.range n).filter fun u => !decide (u = v)))) := by
   have := hG.ok e he
   unfold okE at this
   simp only [List.mem_filter, List.mem_range, Bool.not_eq_true', decide_eq_false_iff_not]
   constructor
   ·rintro ⟨h, ⟨h1, h2⟩ | ⟨h1, h2⟩⟩
    ·exact ⟨h, .inl ⟨h1, h2, by omega⟩⟩
    ·exact ⟨h, .inr ⟨h1, h2, by omega⟩⟩
   ·rintro ⟨h, ⟨h1, h2, _⟩ | ⟨h1, h2, _⟩⟩
    ·exact ⟨h, .inl ⟨h1, h2⟩⟩
    ·exact ⟨h, .inr ⟨h1, h2⟩⟩
  by_cases h : (e.1 ≠ e.2.1 ∧ ((e.1 = v ∧ e.2.1.toNat ∈ List.range n) ∨ (e.2.1 = v ∧ e.1.toNat ∈ List.range n)))
  ·rw [if_pos h, if_pos (hiff.1 h)]
  ·rw [if_neg h, if_neg (fun h' => h (hiff.2 h'))]
 rw [h1, ← deg_jn hG.ok v (by simp)]
 have : degTo (endsL es) v ((List.range n).filter fun u => !decide (u = v)) ≤ (endsL es).length := by
  unfold degTo
  exact Nat.le_trans (List.length_filter_le _ _) (by rw [List.length_range]; exact Nat.le_refl _)
 omega
theorem supL_bel {n q : Nat} {es : List E3} (hr : rootErr n es q = 0) (hj : joinErr n es = 0) (hG : RightG n es) (hq : q < n) (hm : (endsL es).length ≤ 500) : supL n es q = (belL (maxL n es q) n).filter (calmB n es q) := by
 have hval : ∀ v, v < n → valE es v ≤ 500 := fun v hv => valE_small hG hm v hv
 have hlen : (maxL n es q).length = n := maxL_length n es q
 have hn : 0 < n := by omega
 have hzero : calmB n es q (List.replicate n 0) = true := by
  rw [calm_iff, cfg_iff]
  have hz : ∀ v, (List.replicate n (0 : Int)).getD v 0 = 0 := fun v => by
   simp only [List.getD_eq_getElem?_getD, List.getElem?_replicate]; split <;> simp
  refine ⟨burn_right hr (by simp) (fun v _ => by rw [hz]; omega) (fun v _ => by rw [hz]; omega) (hz q), ?_⟩
  obtain ⟨t, ht⟩ := tree_ex (bd_ends hG) (by
   have h1 := (join_zero hj).2.2
   rw [Int.toNat_natCast, connB_parts hG] at h1
   exact of_decide_eq_true h1)
  exact burns_mono (conf_burns (bd_ends hG) hq ht) fun v _ => by rw [hz]; exact (conf_facts (bd_ends hG) hq t).2.1 v
 unfold supL
 rw [enumF_filter (top := maxL n es q) (q := q) (P := calmB n es q) (fun x y hx hy h hp => ?_) (fun x hp _ v hv => (cfg_facts (calm_iff.1 hp)).2.2.2.2.2.2.2 v hv) (by rw [maxL_get hG.ok hq, if_pos rfl]) (fun v hv => ?_) (fun v hv => ?_) n (Nat.le_refl _) _ (by simp) (fun i _ _ => ?_) (fun i => ?_) hzero]
 ·rw [bel_ext hlen, extL_pre n (Nat.le_refl _) (List.replicate n 0) (maxL n es q) (by simp) hlen (fun i hi => by omega)]
 ·obtain ⟨h1, _, _, _, h5, h6, h7, h8⟩ := cfg_facts (calm_iff.1 hp)
  rw [calm_iff, cfg_iff]
  refine ⟨burn_right h1 hx (fun v hv => (h v hv).1) (fun v hv => ?_) ?_, burns_mono h7 fun v hv => (h v hv).2⟩
  ·have h9 := (h v hv).2
   have h10 := h8 v hv
   rw [maxL_get hG.ok hv] at h10
   split at h10
   ·omega
   ·have := hval v hv; omega
  ·have := h q hq; omega
 ·rw [maxL_get hG.ok hv]; split
  ·omega
  ·have := hval v hv; omega
 ·rw [maxL_get hG.ok hv]; split
  ·omega
  ·have := (valE_bd hG.ok v).1; omega
 ·simp only [List.getD_eq_getElem?_getD, List.getElem?_replicate]; split <;> simp
 ·simp only [List.getD_eq_getElem?_getD, List.getElem?_replicate]; split <;> simp
theorem supL_mem {n q : Nat} {es : List E3} (hr : rootErr n es q = 0) (hj : joinErr n es = 0) (hG : RightG n es) (hq : q < n) (hm : (endsL es).length ≤ 500) : (supL n es q).Nodup ∧ ∀ c, c ∈ supL n es q ↔ cfgErr n es q c = 0 := by
 rw [supL_bel hr hj hG hq hm]
 refine ⟨(bel_nodup n).sublist List.filter_sublist, fun c => ?_⟩
 rw [List.mem_filter, calm_iff]
 refine ⟨fun h => h.2, fun h => ⟨?_, h⟩⟩
 obtain ⟨_, _, _, h4, h5, _, _, h8⟩ := cfg_facts h
 exact mem_bel n c h4 fun i hi => ⟨h5 i hi, h8 i hi⟩
end Go.Proofs.YtnbikkcalcpedaaGreatDoor
namespace Go.Proofs.YtnbikkcalcpedaaGreatDoor
open Go.RowKit
theorem firstT_neg (ws : List Bool) : decide (firstT ws < 0) = (List.range ws.length).all fun v => !ws.getD v false := by
 unfold firstT
 rcases hf : (List.range ws.length).find? fun v => ws.getD v false with _ | v
 ·rw [List.find?_eq_none] at hf
  symm
  show ((List.range ws.length).all fun v => !ws.getD v false) = true
  rw [List.all_eq_true]
  intro v hv
  have := hf v hv
  simpa using this
 ·have h1 := List.find?_some hf
  have h2 := List.mem_of_find?_eq_some hf
  have h3 : ¬ ((v : Int) < 0) := by omega
  simp only [decide_eq_false h3]
  symm
  rw [List.all_eq_false]
  exact ⟨v, h2, by simpa using h1⟩
theorem stable_wait {n q : Nat} {es : List E3} (hn : n ≤ 12) (hok : ∀ e ∈ es, okE n e) (cs : List Int) : decide (firstT (waitL n q cs (valL n (endsL es))) < 0) = stabTo es cs q n := by
 rw [firstT_neg]
 have hl : (waitL n q cs (valL n (endsL es))).length = 12 := by simp [waitL]
 have hg : ∀ v, v < 12 → (waitL n q cs (valL n (endsL es))).getD v false = (decide (v < n) && unst q cs (valL n (endsL es)) v) := fun v hv => by
  unfold waitL
  rw [List.getD_eq_getElem?_getD, List.getElem?_map, List.getElem?_range hv]; rfl
 rw [hl, Bool.eq_iff_iff]
 unfold stabTo
 rw [List.all_eq_true, List.all_eq_true]
 constructor
 ·intro h v hv
  have hvn := List.mem_range.1 hv
  have := h v (List.mem_range.2 (by omega))
  rw [hg v (by omega), decide_eq_true hvn, Bool.true_and] at this
  unfold unst at this
  rw [valL_val (n := n) hok (v := v) ] at this
  by_cases hq : v = q
  ·simp [hq]
  ·have hq' : ((v : Int) ≠ (q : Int)) := by omega
   simp only [decide_eq_true hq', Bool.true_and, Bool.not_eq_true', decide_eq_false_iff_not] at this
   rw [Bool.or_eq_true]; right; exact decide_eq_true (by omega)
 ·intro h v hv
  rw [hg v (List.mem_range.1 hv)]
  by_cases hvn : v < n
  ·have := h v (List.mem_range.2 hvn)
   rw [Bool.or_eq_true, decide_eq_true_eq, decide_eq_true_eq] at this
   unfold unst
   rw [valL_val (n := n) hok (v := v)]
   rcases this with h1 | h1
   ·simp [h1]
   ·have h2 : ¬ valE es v ≤ cs.getD v 0 := by omega
    rw [decide_eq_false h2]; simp
  ·simp [hvn]
theorem sstable_ok (n : Nat) (A : Option Addr) (c : Nat) (es : List E3) (hlen : es.length ≤ 10000) (q : Nat) (B : Option Addr) (cB : Nat) (d : List Int) (hc : confErr n es q d = 0) (w : World)
  (h : Reads w w.heap.size 3 A es.length (edgeCells es)) (h' : Reads w w.heap.size 1 B d.length (ints d)) :
  Calls Tryz.prog 201 #[.agg #[.int .i64 n, .slice A es.length c], .int .i64 q, .slice B d.length cB] w fun e w' => e = .returned (.tuple #[.bool (stabTo es d q n), .int .i64 0]) ∧ Below w.heap.size w w' := by
 have hG := (conf_zero hc).1
 have hn12 : n ≤ 12 := by have := hG.hi; omega
 have hST : decide (firstT (waitL n q d (valL n (endsL es))) < 0) = stabTo es d q n := stable_wait hn12 hG.ok d
 have GC := Lib.hid (fun (W : World) (hB : Below w.heap.size w W) => given_ok n A c es hlen q B cB d hc W ((h.below hB).more hB.size) ((h'.below hB).more hB.size))
 have g0 := Blk.new w 24 #[.int .i64 n, .slice A es.length c]
 have hb0 : Below w.heap.size w (w.alloc (.cells #[.int .i64 n, .slice A es.length c] 24)) := (Below.refl _ _).alloc (Nat.le_refl _) _
 have c0 := g0.cell 0
 have c1 := g0.cell 1
 obtain ⟨S, hS⟩ : ∃ S, stabTo es d q n = S := ⟨_, rfl⟩
 rw [hS] at hST ⊢
 obtain ⟨rows, hrows⟩ : ∃ r, rowsL n (endsL es) = r := ⟨_, rfl⟩
 obtain ⟨val, hval⟩ : ∃ r, valL n (endsL es) = r := ⟨_, rfl⟩
 rw [hrows, hval] at GC
 rw [hval] at hST
 obtain ⟨ws, hws⟩ : ∃ r, waitL n q d val = r := ⟨_, rfl⟩
 rw [hws] at GC hST
 obtain ⟨x, hx⟩ : ∃ x, firstT ws = x := ⟨_, rfl⟩
 have HX := Lib.hid hx
 rw [hx] at hST
 clear hS hrows hval hws hG hc h h' hx
 have HS := Lib.hid hST
 clear hST
 go_enter Tryz.func201, Tryz.ntmps201
 go_wp2_with fail
 refine (GC.out _ hb0).mono ?_
 rintro e w1 ⟨bp, a, rfl, P1, hb1⟩
 have B1 := hb0.trans (hb1.mono hb0.size)
 have NX : Hid (Calls Tryz.prog 260 #[.pointer (some ⟨bp, 0, none⟩)] w1 fun e w' => e = .returned (.int .i64 x) ∧ w' = w1) := by
  have := pnext_any _ bp n a d q rows val (List.replicate n 0) 0 ws w1 P1
  rw [HX.out] at this
  exact this
 clear P1
 go_wp2_with fail
 refine (NX.out).mono ?_
 rintro e w2 ⟨rfl, rfl⟩
 go_wp2
 go_ret2
 exact ⟨by rw [← HS.out]; rfl, B1⟩
theorem sdual_ok (n : Nat) (A : Option Addr) (c : Nat) (es : List E3) (hlen : es.length ≤ 10000) (q : Nat) (B : Option Addr) (d : Nat) (cs : List Int) (hb : burnErr n es q cs = 0) (hst : stabTo es cs q n = true) (w : World)
  (h : Reads w w.heap.size 3 A es.length (edgeCells es)) (h' : Reads w w.heap.size 1 B cs.length (ints cs)) :
  Calls Tryz.prog 145 #[.agg #[.int .i64 n, .slice A es.length c], .int .i64 q, .slice B cs.length d] w fun e w' => ∃ A' c', e = .returned (.tuple #[.slice A' n c', .int .i64 0]) ∧ OwnI w' w.heap.size A' c' (dulL n es cs q) ∧ Below w.heap.size w w' := by
 obtain ⟨hc, h0⟩ := burn_zero hb
 rw [Int.toNat_natCast] at h0
 obtain ⟨hG, _, hq0, hqn, hcl, hcb, _⟩ := conf_zero hc
 have hcl : cs.length = n := by omega
 have hr : rootErr n es q = 0 := by
  rcases conf_cases n es q cs with ⟨h1, h2⟩ | ⟨h1, _⟩ | ⟨h1, _⟩
  ·exact absurd (h2 ▸ hc) h1
  ·exact h1
  ·exact h1
 have SU : Hid (∀ W, Below w.heap.size w W → Calls Tryz.prog 200 #[.agg #[.int .i64 n, .slice A es.length c], .int .i64 q, .slice B cs.length d] W fun e w' => ∃ b, e = .returned (.tuple #[.bool b, .int .i64 0]) ∧ Below W.heap.size W w') := by
  intro W hB
  refine (super_any n A c es (by omega) q B d cs (by have := hG.hi; omega) W ((h.below hB).more hB.size) ((h'.below hB).more hB.size)).mono ?_
  rintro e w' ⟨rfl, hb'⟩
  have e0 : (superE n es q cs).2 = 0 := by unfold superE; rw [if_pos hb]
  exact ⟨_, by rw [e0], hb'⟩
 have ST : Hid (∀ W, Below w.heap.size w W → Calls Tryz.prog 201 #[.agg #[.int .i64 n, .slice A es.length c], .int .i64 q, .slice B cs.length d] W fun e w' => e = .returned (.tuple #[.bool true, .int .i64 0]) ∧ Below W.heap.size W w') := by
  intro W hB
  have := sstable_ok n A c es hlen q B d cs hc W ((h.below hB).more hB.size) ((h'.below hB).more hB.size)
  rw [hst] at this
  exact this
 have FI' := Lib.hid (fun (W : World) (hB : Below w.heap.size w W) => sfirst_ok n A c es hlen q hr W ((h.below hB).more hB.size))
 have g0 := Blk.new w 24 #[.int .i64 n, .slice A es.length c]
 have B0 : Below w.heap.size w (w.alloc (.cells #[.int .i64 n, .slice A es.length c] 24)) := (Below.refl _ _).alloc (Nat.le_refl _) _
 have c0 := g0.cell 0
 have c1 := g0.cell 1
 have HD : Hid (trnTo n (maxL n es q) cs n = dulL n es cs q) := trn_dul hG.ok h0
 have HDl : Hid ((dulL n es cs q).length = n) := dulL_length n es cs q
 have hml := maxL_length n es q
 have HTB : Hid (∀ x ∈ maxL n es q, -1 ≤ x ∧ x ≤ 1000000) := maxL_bd hlen hG.ok
 have HCL := Lib.hid hcl
 have HCB := Lib.hid hcb
 have hn1 : 1 ≤ n := by have := hG.lo; omega
 have hn12 : n ≤ 12 := by have := hG.hi; omega
 obtain ⟨T, hT⟩ : ∃ T, maxL n es q = T := ⟨_, rfl⟩
 obtain ⟨R, hR⟩ : ∃ R, dulL n es cs q = R := ⟨_, rfl⟩
 rw [hT] at FI' HD hml HTB
 rw [hR] at HD HDl ⊢
 have HML := Lib.hid hml
 rw [hcl] at SU ST h' ⊢
 clear hG hcl hcb h0 hml hT hR hb hc hst hr hq0 hqn
 go_enter Tryz.func145, Tryz.ntmps145
 go_wp2_with fail
 refine (SU.out _ B0).mono ?_
 rintro e w1 ⟨bb, rfl, hb1⟩
 have B1 := B0.trans (hb1.mono B0.size)
 have g1 := g0.next hb1
 have c0 := g1.cell 0
 have c1 := g1.cell 1
 clear hb1
 go_wp2_with fail
 refine (ST.out _ B1).mono ?_
 rintro e w2 ⟨rfl, hb2⟩
 have B2 := B1.trans (hb2.mono B1.size)
 have g2 := g1.next hb2
 have c0 := g2.cell 0
 have c1 := g2.cell 1
 clear hb2
 go_wp2_with fail
 refine (FI'.out _ B2).mono ?_
 rintro e w3 ⟨A3, c3, rfl, o3, hb3⟩
 have B3 := B2.trans (hb3.mono B2.size)
 have o3 := o3.mono B2.size
 obtain ⟨g, rfl, hg, _, _⟩ := o3.block (by rw [HML.out]; omega)
 clear g0 B0 c0 c1 hb3 g1 g2 B1 B2
 go_wp2_with fail
 go_loopw [13, 14, 48] (fun _ _ i wl => ∃ v : Nat, v ≤ n ∧ i = .int .i64 v ∧ Hid (OwnI wl w.heap.size (some ⟨g, 0, none⟩) c3 (trnTo n T cs v)) ∧ Hid (Below w.heap.size w wl)) (fun _ _ i _ => n - (intOf i).toNat)
 case atStart => exact ⟨0, by omega, rfl, by rw [Hid, trnTo_zero cs HML.out]; exact o3, B3⟩
 case round =>
  obtain ⟨v, hv, rfl, HO, HB⟩ := hrel
  clear o3 B3
  by_cases hlt : v < n
  ·have hi : (v : Int) < (n : Int) := by omega
   obtain ⟨x, hx⟩ := get_of_lt (xs := T) (k := v) (by rw [HML.out]; exact hlt)
   obtain ⟨y, hy⟩ := get_of_lt (xs := cs) (k := v) (by rw [HCL.out]; exact hlt)
   have hxb := HTB.out x (List.mem_of_getElem? hx)
   have hyb := HCB.out y (List.mem_of_getElem? hy)
   obtain ⟨bB, oB, hA, hbB, hcell⟩ := (h'.below HB.out).at_ (ints_at hy)
   subst hA
   have hms := trnTo_succ (n := n) hx hy
   have hat := trnTo_at (n := n) (cs := cs) hlt hx
   obtain ⟨g', hg', hgb, hfz, hcz⟩ := HO.out.block (by rw [trnTo_length]; omega)
   injection hg' with hg'
   injection hg' with hg'
   subst hg'
   have k0 := hcz v x hat
   have f0 := hfz v
   have hw1 : IntKind.i64.wrap (x - y) = x - y := IntWalk.i64_in _ (by omega)
   have O2 := HO.out.put v (x - y)
   rw [← hms] at O2
   have HO2 := Lib.hid O2
   have B2 := Lib.hid (HB.out.setCell (p := ⟨g, v, none⟩) (by show w.heap.size ≤ g; exact hgb) (.int .i64 (x - y)))
   clear hx hy hms hat O2 hfz hcz
   go_wp2
   go_roundw
   case rel => exact ⟨v + 1, by omega, by go_num, HO2, B2⟩
   case measure => simp [intOf]; omega
  ·obtain rfl : v = n := by omega
   have hO := HO.out
   rw [HD.out] at hO
   have hB := HB.out
   go_wp2
   go_ret2
   exact ⟨_, _, rfl, hO, hB⟩
def Shared (w0 w : World) (A : Option Addr) (c : Nat) (vs : List Value) (xss : List (List Int)) : Prop :=
 w.ownsRow w0.heap.size 53 1 (.slice A xss.length c) xss.length vs ∧ ∀ (i : Nat) (xs : List Int), xss[i]? = some xs → ∃ A1 c1, vs[i]? = some (.slice A1 xs.length c1) ∧ Reads w0 w0.heap.size 1 A1 xs.length (ints xs)
section
variable {w0 w w' : World} {A : Option Addr} {c : Nat} {vs : List Value} {xss : List (List Int)}
theorem Shared.nil_ (w0 w : World) : Shared w0 w none 0 [] [] := ⟨World.ownsRow_nil _ _ _ _, by simp⟩
theorem Shared.next (h : Shared w0 w A c vs xss) (hb : Below w.heap.size w w') : Shared w0 w' A c vs xss :=
 ⟨own_kept h.1 fun k hk => hb.block k (own_lt h.1 hk).2, h.2⟩
theorem Shared.len (h : Shared w0 w A c vs xss) : vs.length = xss.length := by have := h.1.1; omega
theorem Shared.push {A' A1 : Option Addr} {c' c1 : Nat} {xs : List Int} (h : Shared w0 w A c vs xss) (hr : Reads w0 w0.heap.size 1 A1 xs.length (ints xs))
  (hown : w'.ownsRow w0.heap.size 53 1 (.slice A' (xss.length + 1) c') (xss.length + 1) (vs ++ [.slice A1 xs.length c1])) : Shared w0 w' A' c' (vs ++ [.slice A1 xs.length c1]) (xss ++ [xs]) := by
 have hl := h.len
 refine ⟨by rw [List.length_append]; exact hown, fun i ys hi => ?_⟩
 rcases Nat.lt_trichotomy i xss.length with hlt | rfl | hgt
 ·rw [List.getElem?_append_left hlt] at hi
  obtain ⟨A2, c2, hv, ho⟩ := h.2 i ys hi
  exact ⟨A2, c2, by rw [List.getElem?_append_left (by omega)]; exact hv, ho⟩
 ·have : ys = xs := by simpa using hi.symm
  subst this
  exact ⟨A1, c1, by rw [← hl]; simp, hr⟩
 ·rw [List.getElem?_eq_none (by simp; omega)] at hi; cases hi
theorem Shared.reads (h : Shared w0 w A c vs xss) (hb : Below w0.heap.size w0 w) : RowsR w w.heap.size A xss :=
 ⟨vs, Reads.of_own h.1, fun i xs hi => by
  obtain ⟨A1, c1, hv, ho⟩ := h.2 i xs hi
  exact ⟨A1, c1, hv, (ho.below hb).more hb.size⟩⟩
end
end Go.Proofs.YtnbikkcalcpedaaGreatDoor
namespace Go.Proofs.YtnbikkcalcpedaaGreatDoor
section
variable {n q : Nat} {es : List E3}
theorem treeR_isTr (hj : joinErr n es = 0) {t : List Nat} (ht : IsTr n (endsL es) t) : TreeR n es t := by
 have h := tree_ok hj ht
 obtain ⟨m, t', h1, h2, h3⟩ := treeR_of h
 obtain rfl : n = m := by omega
 obtain rfl := nI_inj h2
 exact h3
theorem match_mem (hr : rootErr n es q = 0) (hj : joinErr n es = 0) (hG : RightG n es) (hq : q < n) (hm : (endsL es).length ≤ 500) (t : List Nat) : t ∈ (supL n es q).map (treeN (endsL es) n q) ↔ IsTr n (endsL es) t := by
 obtain ⟨_, hS⟩ := supL_mem hr hj hG hq hm
 rw [List.mem_map]
 constructor
 ·rintro ⟨c, hc, rfl⟩
  obtain ⟨_, _, _, _, hnn, _, hb, _⟩ := cfg_facts ((hS c).1 hc)
  exact treeN_isTr (bd_ends hG) hq hnn hb
 ·intro ht
  refine ⟨confN (endsL es) n q t, (hS _).2 (conf_cfg hj (treeR_isTr hj ht) hq (by omega)).1, tree_conf (bd_ends hG) hq ht⟩
theorem match_nodup (hr : rootErr n es q = 0) (hj : joinErr n es = 0) (hG : RightG n es) (hq : q < n) (hm : (endsL es).length ≤ 500) : ((supL n es q).map (treeN (endsL es) n q)).Nodup := by
 obtain ⟨hN, hS⟩ := supL_mem hr hj hG hq hm
 refine nodup_map_of (fun a ha b hb hab => ?_) hN
 obtain ⟨_, _, _, hl1, hn1, h01, hb1, _⟩ := cfg_facts ((hS a).1 ha)
 obtain ⟨_, _, _, hl2, hn2, h02, hb2, _⟩ := cfg_facts ((hS b).1 hb)
 rw [← conf_tree (bd_ends hG) hq hl1 h01 hn1 hb1, ← conf_tree (bd_ends hG) hq hl2 h02 hn2 hb2, hab]
theorem match_perm (hr : rootErr n es q = 0) (hj : joinErr n es = 0) (hG : RightG n es) (hq : q < n) (hm : (endsL es).length ≤ 500) : ((supL n es q).map (treeN (endsL es) n q)).Perm (treesT n (endsL es)) := by
 have hn : 0 < n := by have := hG.lo; omega
 exact perm_of_mem (match_nodup hr hj hG hq hm) (treesT_nodup (bd_ends hG) hn) fun x => by rw [match_mem hr hj hG hq hm, (treesT_spec (bd_ends hG) hn).1]
end
end Go.Proofs.YtnbikkcalcpedaaGreatDoor
namespace Go.Proofs.YtnbikkcalcpedaaGreatDoor
open Go.RowKit
theorem turned28_any (n : Nat) (A : Option Addr) (c : Nat) (es : List E3) (hlen : es.length ≤ 10000) (hG : RightG n es) (q : Nat) (B : Option Addr) (d : Nat) (cs : List Int) (hcl : cs.length = n) (hcb : ∀ x ∈ cs, -1048576 ≤ x ∧ x ≤ 1048576) (w : World)
  (h : Reads w w.heap.size 3 A es.length (edgeCells es)) (h' : Reads w w.heap.size 1 B n (ints cs)) :
  Calls Tryz.prog 147 #[.agg #[.int .i64 n, .slice A es.length c], .int .i64 q, .slice B n d] w fun e w' => ∃ A' c', e = .returned (.slice A' n c') ∧ OwnI w' w.heap.size A' c' (dulL n es cs q) ∧ Below w.heap.size w w' := by
 have g0 := Blk.new w 24 #[.int .i64 n, .slice A es.length c]
 have B0 : Below w.heap.size w (w.alloc (.cells #[.int .i64 n, .slice A es.length c] 24)) := (Below.refl _ _).alloc (Nat.le_refl _) _
 have c0 := g0.cell 0
 have c1 := g0.cell 1
 have TC := Lib.hid (fun (W : World) (hB : Below w.heap.size w W) => rtop_any n A c es hlen hG q W ((h.below hB).more hB.size))
 have HDl : Hid ((dulL n es cs q).length = n) := dulL_length n es cs q
 have hml := maxL_length n es q
 have HTB : Hid (∀ x ∈ maxL n es q, -1 ≤ x ∧ x ≤ 1000000) := maxL_bd hlen hG.ok
 have HTV : Hid (∀ v, v < n → v ≠ q → (maxL n es q).getD v 0 = valE es v - 1) := fun v hv hq => by rw [maxL_get hG.ok hv, if_neg hq]
 have HCL := Lib.hid hcl
 have HCB := Lib.hid hcb
 have hn1 : 1 ≤ n := by have := hG.lo; omega
 have hn12 : n ≤ 12 := by have := hG.hi; omega
 have hmd := make_div n (by omega)
 have hDe : Hid (dulTo n es cs q n = dulL n es cs q) := rfl
 obtain ⟨T, hT⟩ : ∃ T, maxL n es q = T := ⟨_, rfl⟩
 rw [hT] at TC hml HTB HTV
 have HML := Lib.hid hml
 clear hG hcl hcb hml hT
 go_enter Tryz.func147, Tryz.ntmps147
 go_wp2_with fail
 refine (TC.out _ B0).mono ?_
 rintro e w1 ⟨A1, c1', rfl, o1, hb1⟩
 have B1 := B0.trans (hb1.mono B0.size)
 have g1 := g0.next hb1
 have k0 := g1.cell 0
 have O2 := Blk.new w1 3 (ints (List.replicate n 0)).toArray
 have R1 : Hid (Reads w1 w1.heap.size 1 A1 n (ints T)) := by
  have := o1.reads
  rw [HML.out] at this
  exact this
 have hs1 := B1.size
 have hgl : w.heap.size < w1.heap.size := g1.lt
 have HG1 := Lib.hid (g1.alloc (.cells (ints (List.replicate n 0)).toArray 3))
 have HB1 := Lib.hid B1
 have HB2 : Hid (Below w1.heap.size w1 (w1.alloc (.cells (ints (List.replicate n 0)).toArray 3))) := (Below.refl _ _).alloc (Nat.le_refl _) _
 obtain ⟨gO, hgO⟩ : ∃ gO, w1.heap.size = gO := ⟨_, rfl⟩
 have HGO := Lib.hid hgO
 rw [hgO] at O2 R1 HB2 hs1 hgl
 clear g0 B0 c0 c1 hb1 g1 B1 hgO o1
 go_wp2_with fail
 try rw [HGO.out]
 go_loopw [9] (fun i wl => ∃ v : Nat, v ≤ n ∧ i = .int .i64 v ∧ Hid (Blk wl gO 3 (intCells (dulTo n es cs q v))) ∧ Hid (Below gO w1 wl)) (fun i _ => n - (intOf i).toNat)
 case atStart => exact ⟨0, by omega, rfl, by rw [Hid, dulTo_zero]; exact O2, HB2⟩
 case round =>
  obtain ⟨v, hv, rfl, HO, HB⟩ := hrel
  clear O2 HB2
  have c0 : wr.cell? ⟨w.heap.size, 0, none⟩ = some (.int .i64 n) := (HB.out.cell (p := ⟨w.heap.size, 0, none⟩) hgl).trans k0
  have hw0 : IntKind.i64.wrap ((v : Int) + 1) = (v : Int) + 1 := IntWalk.i64_in _ (by omega)
  have HBw : Hid (Below w.heap.size w wr) := HB1.out.trans (HB.out.mono hs1)
  by_cases hlt : v < n
  ·have hi : (v : Int) < (n : Int) := by omega
   by_cases hvp : v = q
   ·have hne : ((v : Int) != (q : Int)) = false := by simp [hvp]
    have hms : dulTo n es cs q (v + 1) = dulTo n es cs q v := by rw [hvp]; exact dulTo_sink n es cs q
    have HO2 : Hid (Blk wr gO 3 (intCells (dulTo n es cs q (v + 1)))) := by rw [Hid, hms]; exact HO.out
    clear hms hvp k0
    go_wp2
    go_roundw
    case rel => exact ⟨v + 1, by omega, by go_num, HO2, HB⟩
    case measure => simp [intOf]; omega
   ·have hne : ((v : Int) != (q : Int)) = true := by rw [bne_iff_ne]; omega
    obtain ⟨x, hx⟩ := get_of_lt (xs := T) (k := v) (by rw [HML.out]; exact hlt)
    obtain ⟨y, hy⟩ := get_of_lt (xs := cs) (k := v) (by rw [HCL.out]; exact hlt)
    have hxb := HTB.out x (List.mem_of_getElem? hx)
    have hyb := HCB.out y (List.mem_of_getElem? hy)
    have hxv := HTV.out v hlt hvp
    rw [getD_at hx] at hxv
    obtain ⟨bT, oT, hA1, hbT, hcT⟩ := (R1.out.below HB.out).at_ (ints_at hx)
    obtain ⟨bB, oB, hA, hbB, hcell⟩ := (h'.below HBw.out).at_ (ints_at hy)
    subst hA
    subst hA1
    have hms := dulTo_succ n es cs q v hvp
    rw [getD_at hy, ← hxv] at hms
    have HMS := Lib.hid hms
    obtain ⟨z, hz⟩ := get_of_lt (xs := dulTo n es cs q v) (k := v) (by rw [dulTo_length]; exact hlt)
    have co := (HO.out.cell v).trans (intCells_get hz)
    have cf := HO.out.frozen v
    have hw1 : IntKind.i64.wrap (x - y) = x - y := IntWalk.i64_in _ (by omega)
    have O6 := HO.out.set_ v (.int .i64 (x - y))
    rw [intCells_set, ← HMS.out] at O6
    have HO6 := Lib.hid O6
    have B6 := Lib.hid (HB.out.setCell (p := ⟨gO, v, none⟩) (Nat.le_refl _) (.int .i64 (x - y)))
    clear hx hy hms O6 hz hvp hxv k0
    go_wp2_with fail
    refine region_tail 12 (by kernel_rfl) (by kernel_rfl) ?_
    simp only [List.take_succ_cons, List.take_zero, List.drop_succ_cons, List.drop_zero]
    repeat still_step
    refine wpStill_nil ?_
    go_wp2
    go_roundw
    case rel => exact ⟨v + 1, by omega, by go_num, HO6.out, ⟨B6.out.os, B6.out.tape, B6.out.output, B6.out.size, B6.out.block⟩⟩
    case measure => simp [intOf]; omega
  ·obtain rfl : v = n := by omega
   have hO := HO.out
   rw [hDe.out] at hO
   have hB := HBw.out
   go_wp2
   go_ret
   refine ⟨some ⟨gO, 0, none⟩, v, rfl, ?_, hB⟩
   have hl := HDl.out
   have := OwnI.of_blk hO hs1 (by rw [hl]; simp [maxLen]; omega)
   rw [hl] at this
   exact this
def recFE (n : Int) (es : List E3) (q : Int) (xs : List Int) : List Int × Int := if grownErr n es q xs = 0 then (dulL n.toNat es (confN (endsL es) n.toNat q.toNat (xs.map Int.toNat)) q.toNat, 0) else ([], grownErr n es q xs)
theorem recur30_any (n q : Int) (A : Option Addr) (c : Nat) (es : List E3) (hlen : es.length ≤ 10000) (hm0 : checkG n es = 0 → (endsL es).length ≤ 60) (B : Option Addr) (d : Nat) (xs : List Int) (hl : xs.length ≤ 1048576) (w : World) (h : Reads w w.heap.size 3 A es.length (edgeCells es)) (h' : Reads w w.heap.size 1 B xs.length (ints xs)) :
  Calls Tryz.prog 87 #[.agg #[.int .i64 n, .slice A es.length c], .int .i64 q, .slice B xs.length d] w fun e w' => ∃ A' c', e = .returned (.tuple #[.slice A' (recFE n es q xs).1.length c', .int .i64 (recFE n es q xs).2]) ∧ OwnI w' w.heap.size A' c' (recFE n es q xs).1 ∧ Below w.heap.size w w' := by
 have g0 := Blk.new w 24 #[.int .i64 n, .slice A es.length c]
 have hB0 : Below w.heap.size w (w.alloc (.cells #[.int .i64 n, .slice A es.length c] 24)) := (Below.refl _ _).alloc (Nat.le_refl _) _
 have c0 := g0.cell 0
 have c1 := g0.cell 1
 have CO := Lib.hid (fun (W : World) (hB : Below w.heap.size w W) => config30_any n q A c es hlen hm0 B d xs hl W ((h.below hB).more hB.size) ((h'.below hB).more hB.size))
 by_cases hz : grownErr n es q xs = 0
 ·have hCE : confFE n es q xs = (confN (endsL es) n.toNat q.toNat (xs.map Int.toNat), 0) := by unfold confFE; rw [if_pos hz]
  rw [hCE] at CO
  have hE : recFE n es q xs = (dulL n.toNat es (confN (endsL es) n.toNat q.toNat (xs.map Int.toNat)) q.toNat, 0) := by unfold recFE; rw [if_pos hz]
  rw [hE]
  dsimp only at CO ⊢
  obtain ⟨m, p, t, rfl, rfl, rfl, hp, hm12, hR, hte⟩ := grown_nat hz
  rw [nI_toNat] at CO ⊢
  simp only [Int.toNat_natCast] at CO ⊢
  have hm := hm0 (join_zero (tree_join hte)).1
  obtain ⟨hcz, hst⟩ := conf_cfg (tree_join hte) hR hp (by omega)
  have hb := (cfg_zero hcz).1
  have hcl : (confN (endsL es) m p t).length = m := (conf_facts hR.hT.bd hp t).1
  obtain ⟨C, hC⟩ : ∃ C, confN (endsL es) m p t = C := ⟨_, rfl⟩
  rw [hC] at CO hb hst hcl ⊢
  have DU := Lib.hid (fun (B : Option Addr) (d : Nat) (W : World) (hB : Below w.heap.size w W) (h2 : Reads W W.heap.size 1 B C.length (ints C)) => sdual_ok m A c es hlen p B d C hb hst W ((h.below hB).more hB.size) h2)
  rw [dulL_length]
  clear hE hCE hz h h' hm hR hte hl hcz hb hst hC hcl
  go_enter Tryz.func87, Tryz.ntmps87
  go_wp2_with fail
  refine (CO.out _ hB0).mono ?_
  rintro e w1 ⟨A1, c1', rfl, o1, hb1⟩
  have hB1 := hB0.trans (hb1.mono hB0.size)
  have g1 := g0.next hb1
  have k0 := g1.cell 0
  have k1 := g1.cell 1
  clear c0 c1
  go_wp2_with fail
  refine (DU.out _ _ _ hB1 o1.reads).mono ?_
  rintro e w2 ⟨A2, c2, rfl, o2, hb2⟩
  have hB2 := hB1.trans (hb2.mono hB1.size)
  have o2 := o2.mono hB1.size
  go_wp2
  go_ret2
  exact ⟨_, _, rfl, o2, hB2⟩
 ·have hCE : confFE n es q xs = ([], grownErr n es q xs) := by unfold confFE; rw [if_neg hz]
  have hE : recFE n es q xs = ([], grownErr n es q xs) := by unfold recFE; rw [if_neg hz]
  rw [hCE] at CO
  rw [hE]
  dsimp only at CO ⊢
  obtain ⟨z, hzz⟩ : ∃ z, grownErr n es q xs = z := ⟨_, rfl⟩
  rw [hzz] at CO hz ⊢
  have hzb : (z != 0) = true := by simpa using hz
  clear hE hCE hzz hz h h' hm0
  go_enter Tryz.func87, Tryz.ntmps87
  go_wp2_with fail
  refine (CO.out _ hB0).mono ?_
  rintro e w1 ⟨A1, c1', rfl, o1, hb1⟩
  have hB1 := hB0.trans (hb1.mono hB0.size)
  go_wp2
  go_ret2
  exact ⟨_, _, rfl, OwnI.nil_ _ _, hB1⟩
theorem root_natF {n : Int} {es : List E3} {q : Int} (h : rootErr n es q = 0) : ∃ m p : Nat, n = m ∧ q = p ∧ p < m ∧ RightG m es ∧ AllConn m es ∧ checkG n es = 0 ∧ joinErr n es = 0 := by
 rcases root_cases n es q with ⟨a, b⟩ | ⟨_, _, b⟩ | ⟨_, _, _, b⟩ | ⟨a, b, c, _⟩
 ·exact absurd (b ▸ h) a
 ·rw [h] at b; cases b
 ·rw [h] at b; cases b
 ·have hG := right_of a
  have hlo := hG.lo
  unfold vertB at c
  simp at c
  obtain ⟨m, rfl⟩ := Int.eq_ofNat_of_zero_le (show 0 ≤ n by omega)
  obtain ⟨p, rfl⟩ := Int.eq_ofNat_of_zero_le (show 0 ≤ q by omega)
  refine ⟨m, p, rfl, rfl, by omega, hG, (connB_iff hG).1 (by simpa using b), a, ?_⟩
  unfold joinErr
  rw [if_neg (fun h => h a)]
  rw [Int.toNat_natCast] at b ⊢
  rw [b]; rfl
end Go.Proofs.YtnbikkcalcpedaaGreatDoor
