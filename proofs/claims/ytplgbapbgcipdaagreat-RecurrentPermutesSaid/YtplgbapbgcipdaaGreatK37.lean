/-
  Texts of this claim, put together: PermP.
-/
import Derived.Test.YtplgbapbgcipdaaGreatK36
import Derived.Test.YtplgbapbgcipdaaGreatK31
import Derived.Test.YtplgbapbgcipdaaGreatK33
/-! Adding a chip permutes the recurrent configurations. No program is in sight. -/
namespace Go.Proofs.YtplgbapbgcipdaaGreat
section
variable {n q : Nat} {es : List E3} {x : List Int}
/-- No set of vertices has too few chips. -/
def NoForb (n : Nat) (es : List E3) (q : Nat) (x : List Int) : Prop := ∀ S : List Nat, (∀ u ∈ S, u < n) → q ∉ S → S ≠ [] → ∃ u ∈ S, flmTo es S u n ≤ x.getD u 0
theorem flm_congr {l l' : List Nat} (v : Nat) : ∀ k, (∀ u, u < k → (u ∈ l ↔ u ∈ l')) → flmTo es l v k = flmTo es l' v k
  | 0, _ => rfl
  | k + 1, h => by
    simp only [flmTo]
    rw [flm_congr v k fun u hu => h u (by omega)]
    by_cases hk : k ∈ l
    · rw [if_pos hk, if_pos ((h k (by omega)).1 hk)]
    · rw [if_neg hk, if_neg (fun hc => hk ((h k (by omega)).2 hc))]
theorem flm_drop (S : List Nat) (u v : Nat) : ∀ k, flmTo es S u k = flmTo es (S.filter fun w => !decide (w = v)) u k + if v < k ∧ v ∈ S then tt es u v else 0
  | 0 => by simp [flmTo]
  | k + 1 => by
    simp only [flmTo]
    rw [flm_drop S u v k]
    have hm : k ∈ (S.filter fun w => !decide (w = v)) ↔ k ∈ S ∧ k ≠ v := by rw [List.mem_filter]; simp
    by_cases hkv : k = v
    · subst hkv
      rw [if_neg (by omega : ¬ (k < k ∧ k ∈ S)), if_neg (fun hc => (hm.1 hc).2 rfl)]
      by_cases hk : k ∈ S
      · rw [if_pos hk, if_pos ⟨by omega, hk⟩, Int.add_zero]
      · rw [if_neg hk, if_neg (fun hc => hk hc.2)]
    · have e1 : (v < k + 1 ∧ v ∈ S) ↔ (v < k ∧ v ∈ S) := ⟨fun h => ⟨by omega, h.2⟩, fun h => ⟨by omega, h.2⟩⟩
      have e2 : (k ∈ S.filter fun w => !decide (w = v)) ↔ k ∈ S := ⟨fun h => (hm.1 h).1, fun h => hm.2 ⟨h, hkv⟩⟩
      simp only [e1, e2]
      omega
theorem noforb_of_rec (hG : RightG n es) (hq : q < n) (h : recB n es x q = true) : NoForb n es q x := by
  intro S hS hqS hne
  refine Classical.byContradiction fun hno => ?_
  have hlt : ∀ u ∈ S, x.getD u 0 < flmTo es S u n := fun u hu => by
    refine Classical.byContradiction fun hc => hno ⟨u, hu, by omega⟩
  have hl' : LOk n (restL n S) := ⟨List.nodup_range.sublist List.filter_sublist, fun u hu => (mem_rest.1 hu).1⟩
  have hrr : ∀ u, u < n → (u ∈ restL n (restL n S) ↔ u ∈ S) := fun u hu => by
    rw [mem_rest, mem_rest]
    exact ⟨fun h => Classical.byContradiction fun hc => h.2 ⟨hu, hc⟩, fun h => ⟨hu, fun hc => hc.2 h⟩⟩
  have hcat : ∀ u, u < n → catL es (dualL n es x) (restL n S) u = false := by
    intro u hu
    rw [cat_dual hG x hl' hu]
    by_cases hm : u ∈ restL n S
    · simp [hm]
    · have huS : u ∈ S := Classical.byContradiction fun hc => hm (mem_rest.2 ⟨hu, hc⟩)
      rw [← rest_catch hG x (restL n S) u, jnE_flm hG, flm_congr u n hrr]
      have := hlt u huS
      rw [decide_eq_false (by omega : ¬ flmTo es S u n ≤ x.getD u 0)]
      simp
  have hsub := burns_same (l := [q]) (by intro u hu; rw [List.mem_singleton.1 hu]; exact mem_rest.2 ⟨hq, hqS⟩) hcat hl' (fun a b => (btw_bd hG.ok a b).1) n (lok_one hq)
  unfold recB at h
  rw [Bool.and_eq_true, decide_eq_true_iff, full_iff hq] at h
  obtain ⟨s, hs⟩ := List.exists_mem_of_ne_nil S hne
  have h2 : s ∈ worstL n es x q := mem_rest.2 ⟨hS s hs, fun hc => (mem_rest.1 (hsub s hc)).2 hs⟩
  rw [h.2] at h2
  cases h2
theorem rec_of_noforb (hG : RightG n es) (hq : q < n) (hs : stabTo es x q n = true) (h : NoForb n es q x) : recB n es x q = true := by
  unfold recB
  rw [hs, Bool.true_and, decide_eq_true_iff, full_iff hq]
  refine Classical.byContradiction fun hne => ?_
  obtain ⟨u, hu, hle⟩ := h (worstL n es x q) (fun u hu => (mem_rest.1 hu).1) (fun hc => (mem_rest.1 hc).2 recL_sink) hne
  obtain ⟨hun, hur⟩ := mem_rest.1 hu
  have hdone := burnL_done (es := es) (c := dualL n es x) (k := n) (lok_one hq) (by simp) u hun
  have h1 : catL es (dualL n es x) (recL n es x q) u = false := hdone
  rw [cat_dual hG x (recL_ok hq) hun, decide_eq_false hur] at h1
  have h2 : catchB es x (recL n es x q) u = false := by simpa using h1
  rw [← rest_catch hG x (recL n es x q) u, jnE_flm hG] at h2
  exact of_decide_eq_false h2 hle
theorem noforb_mono {y : List Int} (h : NoForb n es q x) (hxy : ∀ u, u < n → u ≠ q → x.getD u 0 ≤ y.getD u 0) : NoForb n es q y := by
  intro S hS hqS hne
  obtain ⟨u, hu, hle⟩ := h S hS hqS hne
  exact ⟨u, hu, Int.le_trans hle (hxy u (hS u hu) fun hc => hqS (hc ▸ hu))⟩
theorem noforb_fire (hG : RightG n es) {v : Nat} (hv : v < n) (hl : valS es n v ≤ x.getD v 0) (h : NoForb n es q x) : NoForb n es q (fireD es n x v 1) := by
  intro S hS hqS hne
  have ht : ∀ a b, 0 ≤ tt es a b := fun a b => by unfold tt; split; omega; exact (btw_bd hG.ok _ _).1
  by_cases hvS : v ∈ S
  · by_cases hne2 : (S.filter fun w => !decide (w = v)) = []
    · refine ⟨v, hvS, ?_⟩
      have hz : ∀ k, flmTo es [] v k = 0 := fun k => by
        induction k with
        | zero => rfl
        | succ k ih => simp only [flmTo]; rw [ih]; simp
      rw [flm_drop S v v n, hne2, hz, if_pos ⟨hv, hvS⟩, fireD_get hv, if_pos rfl]
      have : tt es v v = 0 := by unfold tt; rw [if_pos rfl]
      omega
    · obtain ⟨u, hu, hle⟩ := h (S.filter fun w => !decide (w = v)) (fun u hu => hS u (List.mem_filter.1 hu).1) (fun hc => hqS (List.mem_filter.1 hc).1) hne2
      obtain ⟨huS, huv⟩ := List.mem_filter.1 hu
      have huv : u ≠ v := by simpa using huv
      refine ⟨u, huS, ?_⟩
      rw [flm_drop S u v n, if_pos ⟨hv, hvS⟩, fireD_get (hS u huS), if_neg huv, tt_comm es u v]
      omega
  · obtain ⟨u, hu, hle⟩ := h S hS hqS hne
    have huv : u ≠ v := fun hc => hvS (hc ▸ hu)
    refine ⟨u, hu, ?_⟩
    rw [fireD_get (hS u hu), if_neg huv]
    have := ht v u
    omega
theorem noforb_run (hG : RightG n es) {l : List Nat} (hl : Leg es n q x l) (h : NoForb n es q x) : NoForb n es q (runD es n x l) := by
  induction hl with
  | nil => exact h
  | snoc _ hv _ hle ih => rw [runD_snoc]; exact noforb_fire hG hv hle ih
theorem lap_sum (s : Nat → Int) (y : Nat) : ∀ k, sumTo (fun w => tt es y w * (s w - s y)) k = sumTo (fun w => s w * tt es w y) k - s y * sumTo (fun w => tt es y w) k
  | 0 => by simp [sumTo]
  | k + 1 => by
    rw [sumTo, sumTo, sumTo, lap_sum s y k, tt_comm es k y, Int.mul_sub, Int.mul_add, Int.mul_comm (tt es y k) (s k), Int.mul_comm (tt es y k) (s y)]
    omega
theorem run_lap {d : List Int} {l : List Nat} (hl : ∀ w ∈ l, w < n) {y : Nat} (hy : y < n) : (runD es n d l).getD y 0 = d.getD y 0 + sumTo (fun w => tt es y w * ((l.count w : Int) - l.count y)) n := by
  rw [runD_get hl hy, lap_sum (fun w => (l.count w : Int)) y n]
  unfold valS
  omega
theorem run_few (hG : RightG n es) (hC : AllConn n es) (hq : q < n) {d : List Int} {l : List Nat} {T : Int} (hd : ∀ y, 0 ≤ d.getD y 0) (hT : sumTo (fun y => d.getD y 0) n ≤ T) (hT0 : 0 ≤ T) (hl : Leg es n q d l) : (l.length : Int) ≤ n * (n * T) := by
  have ht : ∀ a b, 0 ≤ tt es a b := fun a b => by unfold tt; split; omega; exact (btw_bd hG.ok _ _).1
  have hlt : ∀ w ∈ l, w < n := fun w hw => (hl.lt w hw).1
  rw [count_length hlt]
  have hb : ByS es n q d (runD es n d l) (cntD n l) := by
    intro y hy _
    rw [run_lap hlt hy]
    congr 1
    refine sumTo_congr fun w hw => ?_
    rw [cntD_get hw, cntD_get hy]
  have := script_sum hG hC hq hb (by rw [cntD_get hq, List.count_eq_zero_of_not_mem fun hc => (hl.lt q hc).2 rfl]; rfl) (fun y hy _ => hl.nonneg ht hy (hd y)) hd hT hT0
  rw [sumTo_congr (g := fun y => (cntD n l).getD y 0) fun w hw => (cntD_get hw).symm]
  exact this
theorem rec_right (hr : rootErr n es q = 0) (hG : RightG n es) (hq : q < n) (hlen : es.length ≤ 10000) {d : List Int} (hd : d ∈ recsL n es q) : burnErr n es q d = 0 ∧ stabTo es d q n = true := by
  obtain ⟨h1, h2, h3⟩ := recsL_mem hG hq hd
  have hs : stabTo es d q n = true := maxL_stab hG fun i hi => (h3 i hi).2
  refine ⟨burn_right hr h1 (fun v hv => (h3 v hv).1) (fun v hv => ?_) ?_, hs⟩
  · have h5 := (h3 v hv).2
    have hv2 := valE_bd hG.ok v
    rw [maxL_get hG.ok hv] at h5
    split at h5
    · omega
    · omega
  · have h5 := h3 q hq
    rw [maxL_get hG.ok hq, if_pos rfl] at h5
    omega
theorem nodup_get {α : Type} : ∀ {l : List α}, l.Nodup → ∀ (i j : Nat) (a : α), l[i]? = some a → l[j]? = some a → i = j
  | [], _, i, _, a, h, _ => by simp at h
  | x :: l, hn, 0, 0, a, _, _ => rfl
  | x :: l, hn, 0, j + 1, a, h1, h2 => by
    rw [List.nodup_cons] at hn
    simp at h1 h2
    subst h1
    exact absurd (List.mem_of_getElem? h2) hn.1
  | x :: l, hn, i + 1, 0, a, h1, h2 => by
    rw [List.nodup_cons] at hn
    simp at h1 h2
    subst h2
    exact absurd (List.mem_of_getElem? h1) hn.1
  | x :: l, hn, i + 1, j + 1, a, h1, h2 => by
    rw [List.nodup_cons] at hn
    simp at h1 h2
    rw [nodup_get hn.2 i j a h1 h2]
theorem nodup_of_get {α : Type} : ∀ {l : List α}, (∀ (i j : Nat) (a : α), l[i]? = some a → l[j]? = some a → i = j) → l.Nodup
  | [], _ => List.nodup_nil
  | x :: l, h => by
    rw [List.nodup_cons]
    refine ⟨fun hx => ?_, nodup_of_get fun i j a h1 h2 => ?_⟩
    · obtain ⟨i, hi⟩ := List.getElem?_of_mem hx
      have := h 0 (i + 1) x (by simp) (by simpa using hi)
      omega
    · have := h (i + 1) (j + 1) a (by simpa using h1) (by simpa using h2)
      omega
theorem sumTo_split {f : Nat → Int} {v : Nat} (k : Nat) : sumTo (fun y => f y + if y = v then 1 else 0) k = sumTo f k + if v < k then 1 else 0 := by
  rw [sumTo_add]
  have := sumTo_at (fun _ => (1 : Int)) v k
  rw [this]
/-- Next at a recurrent configuration of a small graph: another one, which a script joins with it. -/
theorem next_plain (hr : rootErr n es q = 0) (hn : n ≤ 5) (hs8 : sizeE es ≤ 8) (hlen : es.length ≤ 40) {c : List Int} (hc : c ∈ recsL n es q) {v : Nat} (hv : v < n) (hvq : v ≠ q) {ds : List Int} {e : Int} (h : NextE n es q c v ds e) :
    e = 0 ∧ ds ∈ recsL n es q ∧ ∃ s : Nat → Int, s q = 0 ∧ ∀ y, y < n → y ≠ q → ds.getD y 0 = c.getD y 0 + (if y = v then 1 else 0) + sumTo (fun w => tt es y w * (s w - s y)) n := by
  obtain ⟨_, hG, hC, hq⟩ := root_zero hr
  obtain ⟨hcl, hcr, hcb⟩ := recsL_mem hG hq hc
  obtain ⟨hb, hst⟩ := rec_right hr hG hq (by omega) hc
  have ht : ∀ a b, 0 ≤ tt es a b := fun a b => by unfold tt; split; omega; exact (btw_bd hG.ok _ _).1
  unfold NextE at h
  rw [if_neg (fun hh => hh hb), if_neg (by omega)] at h
  obtain ⟨ss, h⟩ := h
  simp only [Int.toNat_natCast] at h
  have hval : ∀ y : Nat, valE es y ≤ 8 := fun y => by have := valE_size hG.ok (y : Int); omega
  have hc8 : ∀ y, c.getD y 0 ≤ 8 ∧ 0 ≤ c.getD y 0 := by
    intro y
    by_cases hy : y < n
    · have h1 := hcb y hy
      rw [maxL_get hG.ok hy] at h1
      have := hval y
      split at h1 <;> omega
    · rw [List.getD_eq_getElem?_getD, List.getElem?_eq_none (by omega)]; simp
  obtain ⟨d, hd⟩ : ∃ d, addAt c v 1 = d := ⟨_, rfl⟩
  have hdg : ∀ y, d.getD y 0 = c.getD y 0 + if y = v then 1 else 0 := fun y => by rw [← hd]; exact addAt_getD c v 1 (by omega) y
  have hdl : d.length = n := by rw [← hd, addAt_length]; exact hcl
  have hd0 : ∀ y, 0 ≤ d.getD y 0 := fun y => by rw [hdg]; have := (hc8 y).2; split <;> omega
  have hdT : sumTo (fun y => d.getD y 0) n ≤ 41 := by
    have e1 : sumTo (fun y => d.getD y 0) n = sumTo (fun y => c.getD y 0 + if y = v then 1 else 0) n := sumTo_congr fun y _ => hdg y
    rw [e1, sumTo_split]
    have h2 : sumTo (fun y => c.getD y 0) n ≤ sumTo (fun _ => 8) n := sumTo_le fun y _ => (hc8 y).1
    rw [sumTo_const] at h2
    split <;> omega
  have hrun : ∀ l, Leg es n q d l → l.length ≤ 1048576 := by
    intro l hl
    have h1 := run_few hG hC hq hd0 hdT (by omega) hl
    have h2 : (n : Int) * (n * 41) ≤ 5 * (5 * 41) := by
      have : (n : Int) * 41 ≤ 5 * 41 := by omega
      exact Int.le_trans (Int.mul_le_mul_of_nonneg_left this (by omega)) (Int.mul_le_mul_of_nonneg_right (by omega) (by omega))
    omega
  rw [hd] at h
  unfold SetE at h
  rw [if_pos (fun y hy => by
    obtain ⟨i, hi⟩ := List.getElem?_of_mem hy
    have h1 := hdg i
    rw [getD_at hi] at h1
    have := (hc8 i).1
    split at h1 <;> omega)] at h
  obtain ⟨r, hR, hE⟩ := h
  match r, hR with
  | none, ⟨l, hl, hlt⟩ => have := hrun l hl; omega
  | some (x, s), ⟨l, hl, _, hcalm, hx, _⟩ =>
    have hlt : ∀ w ∈ l, w < n := fun w hw => (hl.lt w hw).1
    have hx0 : ∀ y, y < n → 0 ≤ x.getD y 0 := fun y hy => by rw [hx]; exact hl.nonneg ht hy (hd0 y)
    have hxl : x.length = n := by rw [hx]; exact runD_length hdl
    have hxq : x.getD q 0 ≤ 41 := by
      have h1 := sumTo_one (f := fun y => x.getD y 0) (k := n) (fun i hi => hx0 i hi) q hq
      have h2 : sumTo (fun y => x.getD y 0) n = sumTo (fun y => d.getD y 0) n := by rw [hx]; exact runD_sum hlt
      have h1 : x.getD q 0 ≤ sumTo (fun y => x.getD y 0) n := h1
      omega
    unfold setOut stabOut at hE
    dsimp only at hE
    rw [if_neg (by omega)] at hE
    injection hE with hE1 hE2
    injection hE2 with hE2 hE3
    have hE1 : ds = x.set q 0 := hE1
    have hdsg : ∀ y, y ≠ q → ds.getD y 0 = x.getD y 0 := fun y hy => by
      rw [hE1, List.getD_eq_getElem?_getD, List.getElem?_set_ne (Ne.symm hy), ← List.getD_eq_getElem?_getD]
    have hdsq : ds.getD q 0 = 0 := by
      rw [hE1, List.getD_eq_getElem?_getD, List.getElem?_set_self (by omega)]; rfl
    have hdsl : ds.length = n := by rw [hE1, List.length_set]; exact hxl
    have hst2 : stabTo es ds q n = true := by
      rw [stabTo_iff]
      intro y hy hyq
      rw [hdsg y hyq, valE_valS hG]
      exact hcalm y hy hyq
    refine ⟨hE3, ?_, fun w => (l.count w : Int), ?_, fun y hy hyq => ?_⟩
    · rw [recsL_bel hG hq, List.mem_filter]
      refine ⟨mem_bel n _ hdsl fun i hi => ?_, ?_⟩
      · rw [maxL_get hG.ok hi]
        by_cases hiq : i = q
        · rw [hiq, if_pos rfl, hdsq]; omega
        · rw [if_neg hiq]
          have h1 := stabTo_iff.1 hst2 i hi hiq
          have h2 := hx0 i hi
          rw [← hdsg i hiq] at h2
          omega
      · show recB n es ds q = true
        refine rec_of_noforb hG hq hst2 ?_
        have h1 : NoForb n es q d := noforb_mono (noforb_of_rec hG hq hcr) fun y _ _ => by rw [hdg]; split <;> omega
        have h2 := noforb_run hG hl h1
        rw [← hx] at h2
        exact noforb_mono h2 fun y _ hyq => by rw [hdsg y hyq]; omega
    · show (l.count q : Int) = 0
      rw [List.count_eq_zero_of_not_mem fun hc => (hl.lt q hc).2 rfl]; rfl
    · rw [hdsg y hyq, hx, run_lap hlt hy, hdg y]
theorem next_inj (hr : rootErr n es q = 0) (hn : n ≤ 5) (hs8 : sizeE es ≤ 8) (hlen : es.length ≤ 40) {c d : List Int} (hc : c ∈ recsL n es q) (hd : d ∈ recsL n es q) {v : Nat} (hv : v < n) (hvq : v ≠ q) {ds : List Int} {e e' : Int} (h : NextE n es q c v ds e) (h' : NextE n es q d v ds e') : c = d := by
  obtain ⟨_, hG, hC, hq⟩ := root_zero hr
  obtain ⟨_, _, s, hs0, hs⟩ := next_plain hr hn hs8 hlen hc hv hvq h
  obtain ⟨_, _, t, ht0, ht⟩ := next_plain hr hn hs8 hlen hd hv hvq h'
  obtain ⟨hc1, hc2⟩ := rec_dul hr hG hq (by omega) hc
  obtain ⟨hd1, hd2⟩ := rec_dul hr hG hq (by omega) hd
  obtain ⟨_, _, _, hl1, hn1, h01, _, _⟩ := cfg_facts hc1
  obtain ⟨_, _, _, hl2, hn2, h02, _, _⟩ := cfg_facts hd1
  have hr1 := (cfg_zero hc1).2.1
  have hr2 := (cfg_zero hd1).2.1
  simp only [Int.toNat_natCast] at hr1 hr2
  have hu := super_unique (es := es) (n := n) (q := q) (fun a b => (btw_bd hG.ok a b).1) hq (c := dulL n es c q) (d := dulL n es d q) (s := fun w => t w - s w) (by simp [hs0, ht0]) hl1 hl2 h01 h02
    (fun y hy _ => hn1 y hy) (fun y hy _ => hn2 y hy) hr1 hr2 (fun y hy hyq => by
      have e1 := hs y hy hyq
      have e2 := ht y hy hyq
      rw [dulL_get es d q hy, dulL_get es c q hy, if_neg hyq, if_neg hyq]
      have e3 : sumTo (fun w => tt es y w * ((t w - s w) - (t y - s y))) n + sumTo (fun w => tt es y w * (s w - s y)) n = sumTo (fun w => tt es y w * (t w - t y)) n := by
        rw [← sumTo_add]
        refine sumTo_congr fun w _ => ?_
        rw [← Int.mul_add]
        congr 1
        omega
      show _ = _ + sumTo (fun w => tt es y w * ((t w - s w) - (t y - s y))) n
      omega)
  rw [← hc2, ← hd2, hu]
/-- What Next makes of all recurrent configurations is all of them. -/
theorem next_all (hr : rootErr n es q = 0) (hn : n ≤ 5) (hs8 : sizeE es ≤ 8) (hlen : es.length ≤ 40) {v : Nat} (hv : v < n) (hvq : v ≠ q) {L : List (List Int)} (hL : L.length = (recsL n es q).length)
    (h : ∀ (i : Nat) (c d : List Int), (recsL n es q)[i]? = some c → L[i]? = some d → ∃ e, NextE n es q c v d e) : L.Perm (recsL n es q) := by
  obtain ⟨_, hG, _, hq⟩ := root_zero hr
  have hN := recsL_nodup (es := es) hG hq
  have hsub : ∀ d ∈ L, d ∈ recsL n es q := by
    intro d hd
    obtain ⟨i, hi⟩ := List.getElem?_of_mem hd
    obtain ⟨c, hc⟩ := get_of_lt (xs := recsL n es q) (k := i) (by have := (List.getElem?_eq_some_iff.1 hi).1; omega)
    obtain ⟨e, hE⟩ := h i c d hc hi
    exact (next_plain hr hn hs8 hlen (List.mem_of_getElem? hc) hv hvq hE).2.1
  have hLn : L.Nodup := by
    refine nodup_of_get fun i j d hi hj => ?_
    obtain ⟨c1, hc1⟩ := get_of_lt (xs := recsL n es q) (k := i) (by have := (List.getElem?_eq_some_iff.1 hi).1; omega)
    obtain ⟨c2, hc2⟩ := get_of_lt (xs := recsL n es q) (k := j) (by have := (List.getElem?_eq_some_iff.1 hj).1; omega)
    obtain ⟨e1, h1⟩ := h i c1 d hc1 hi
    obtain ⟨e2, h2⟩ := h j c2 d hc2 hj
    have := next_inj hr hn hs8 hlen (List.mem_of_getElem? hc1) (List.mem_of_getElem? hc2) hv hvq h1 h2
    subst this
    exact nodup_get hN i j c1 hc1 hc2
  refine (List.perm_ext_iff_of_nodup hLn hN).2 fun d => ⟨hsub d, fun hd => ?_⟩
  refine Classical.byContradiction fun hno => ?_
  have h1 := nodup_sub_le (l := d :: L) (List.nodup_cons.2 ⟨hno, hLn⟩) (m := recsL n es q) (fun x hx => by
    rcases List.mem_cons.1 hx with rfl | hx
    · exact hd
    · exact hsub x hx)
  rw [List.length_cons] at h1
  omega
end
end Go.Proofs.YtplgbapbgcipdaaGreat

