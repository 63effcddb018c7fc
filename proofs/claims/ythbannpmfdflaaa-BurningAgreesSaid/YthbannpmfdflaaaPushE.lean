/-
  What Push returns, as a relation, with its errors.
-/
import Derived.Test.YthbannpmfdflaaaPushP
import Derived.Test.YthbannpmfdflaaaGraph
namespace Go.Proofs.Ythbannpmfdflaaa
open Go.RowKit

/-- How far the pushing has come. -/
def PState (es : List E3) (n q : Nat) (r : Option (List Int × List Int)) (cs ss : List Int) (m : Nat) : Prop :=
  cs.length = n ∧ ss.length = n ∧ ((m ≤ 1048576 ∧ PushR es n q cs ss m r ∧ Bd (1048576 + 14400 * m) cs ∧ Bd m ss) ∨ (1048576 < m ∧ r = none))
theorem PState.next {es : List E3} {n q : Nat} {r : Option (List Int × List Int)} {cs ss : List Int} {m : Nat} (h : PState es n q r cs ss m) (hn : n ≤ 12) {N : Int} (hok : ∀ e ∈ es, okE N e) (hm : m ≤ 1048576) (hne : leftC es n q cs ≠ []) :
    PState es n q r (stepC es n q cs) (bumpL ss (leftC es n q cs)) (m + (leftC es n q cs).length) := by
  obtain ⟨h1, h2, h3⟩ := h
  refine ⟨by rw [stepC_length]; exact h1, by rw [bumpL_length]; exact h2, ?_⟩
  rcases h3 with ⟨_, h4, h5, h6⟩ | ⟨h4, _⟩
  · have hp := List.length_pos_iff.2 hne
    by_cases hov : m + (leftC es n q cs).length ≤ 1048576
    · exact .inl ⟨hov, h4.step_inv hne hov, (stepC_bd hok hn (by omega) h5).mono (by push_cast; omega), (bumpL_bd (by omega) h6 _).mono (by push_cast; omega)⟩
    · exact .inr ⟨by omega, h4.over_inv hne (by omega)⟩
  · omega

/-- What Push returns. -/
def PushE (n : Int) (es : List E3) (q : Int) (cs ds ss : List Int) (e : Int) : Prop :=
  (burnErr n es q cs ≠ 0 ∧ ds = [] ∧ ss = [] ∧ e = burnErr n es q cs) ∨
  (burnErr n es q cs = 0 ∧ ∃ r, PushR es n.toNat q.toNat cs (List.replicate n.toNat 0) 0 r ∧ ((r = some (ds, ss) ∧ e = 0) ∨ (r = none ∧ ds = [] ∧ ss = [] ∧ e = 12)))
theorem PushE.total (n : Int) (es : List E3) (q : Int) (cs : List Int) : ∃ ds ss e, PushE n es q cs ds ss e := by
  by_cases h : burnErr n es q cs = 0
  · obtain ⟨r, hr⟩ := PushR.total es n.toNat q.toNat 1048577 cs (List.replicate n.toNat 0) 0 (by omega)
    cases r with
    | none => exact ⟨[], [], 12, .inr ⟨h, _, hr, .inr ⟨rfl, rfl, rfl, rfl⟩⟩⟩
    | some p => exact ⟨p.1, p.2, 0, .inr ⟨h, _, hr, .inl ⟨rfl, rfl⟩⟩⟩
  · exact ⟨[], [], _, .inl ⟨h, rfl, rfl, rfl⟩⟩
end Go.Proofs.Ythbannpmfdflaaa

/-! Plain laws of pushing right configurations: a push comes to an end; adding chips first or later leads to the same. No program is in sight. -/
namespace Go.Proofs.Ythbannpmfdflaaa

/-- What is given at the start has no debts, so what is pushed has none. -/
theorem PushR.nonneg {es : List E3} {n q : Nat} (he : ∀ a b, 0 ≤ btw es a b) (hq : q < n) {c s : List Int} {m : Nat} {r} (h : PushR es n q c s m r) : c.length = n → (∀ x, x < n → x ≠ q → 0 ≤ c.getD x 0) →
    ∀ d t, r = some (d, t) → ∀ x, x < n → x ≠ q → 0 ≤ d.getD x 0 := by
  induction h with
  | done h1 => intro hc h0 d t e; injection e with e; injection e with e1 e2; subst e1 e2; exact h0
  | over _ _ => intro _ _ d t e; cases e
  | @step c s m r h1 h2 h3 ih => intro hc h0 d t e; exact ih (by rw [stepC_length]; exact hc) (step_nonneg he hq hc h0) d t e
theorem getD_out {xs : List Int} {k : Nat} (h : xs.length ≤ k) : xs.getD k 0 = 0 := by
  rw [List.getD_eq_getElem?_getD, List.getElem?_eq_none h]; rfl
/-- A script moves no chips into the graph. -/
theorem ByS.sum_le {es : List E3} {n q : Nat} {c d s : List Int} (he : ∀ a b, 0 ≤ btw es a b) (hq : q < n) (h : ByS es n q c d s) (hcq : c.getD q 0 = 0) (hdq : d.getD q 0 = 0) (hsq : s.getD q 0 = 0) (hs : ∀ x, 0 ≤ s.getD x 0) : sumTo (fun x => d.getD x 0) n ≤ sumTo (fun x => c.getD x 0) n := by
  have htt : ∀ a b, 0 ≤ tt es a b := fun a b => by unfold tt; split; (· omega); exact he _ _
  have h0 := sumTo_anti (g := fun x w => tt es x w * (s.getD w 0 - s.getD x 0)) (fun x w => by rw [tt_comm es w x, ← Int.mul_neg]; congr 1; omega) n
  have h1 : sumTo (fun x => d.getD x 0) n ≤ sumTo (fun x => c.getD x 0 + sumTo (fun w => tt es x w * (s.getD w 0 - s.getD x 0)) n) n := by
    refine sumTo_le fun x hx => ?_
    by_cases hxq : x = q
    · subst hxq
      have : 0 ≤ sumTo (fun w => tt es x w * (s.getD w 0 - s.getD x 0)) n := sumTo_nonneg fun w _ => Int.mul_nonneg (htt _ _) (by have := hs w; omega)
      omega
    · rw [h x hx hxq]; exact Int.le_refl _
  rw [sumTo_add, h0] at h1
  omega

/-- An error of a graph and a sink there is none where one configuration has none. -/
theorem burn_zero_of {n : Int} {es : List E3} {q : Int} {a cs : List Int} (h : burnErr n es q a = 0) (hl : (cs.length : Int) = n) (hb : ∀ x ∈ cs, -1048576 ≤ x ∧ x ≤ 1048576) (h0 : ∀ x, 0 ≤ cs.getD x 0) (hq : cs.getD q.toNat 0 = 0) : burnErr n es q cs = 0 := by
  have hc := (burn_zero h).1
  have hr : rootErr n es q = 0 := by
    rcases conf_cases n es q a with ⟨h1, h2⟩ | ⟨h1, _⟩ | ⟨h1, _⟩
    · exact absurd (h2 ▸ hc) h1
    · exact h1
    · exact h1
  obtain ⟨hG, _⟩ := conf_zero hc
  have hd : divErr cs n = 0 := by
    unfold divErr
    have hlo := hG.lo
    have hhi := hG.hi
    rw [if_neg (by omega), if_neg (by omega), if_pos (List.all_eq_true.2 fun x hx => chipB_true.2 (hb x hx))]
  have hdebt : debtTo cs q cs.length = false := by
    unfold debtTo
    rw [List.any_eq_false]
    intro v _
    have := h0 v
    rw [Bool.and_eq_true, decide_eq_true_eq, decide_eq_true_eq]
    omega
  have hcf : confErr n es q cs = 0 := by
    unfold confErr
    rw [if_neg (by omega), if_neg (by omega), hdebt]; rfl
  unfold burnErr
  rw [if_neg (by omega), if_neg (by omega)]

/-- Pushing a right configuration of few chips. -/
theorem push_right {n q : Nat} {es : List E3} {cs : List Int} {T : Int} (hz : burnErr n es q cs = 0) (h0 : ∀ x, 0 ≤ cs.getD x 0) (hT : sumTo (fun x => cs.getD x 0) n ≤ T) (hT0 : 0 ≤ T) (hbig : (n : Int) * (n * T) ≤ 1048576) :
    ∃ d t, PushE n es q cs d t 0 ∧ d.length = n ∧ t.length = n ∧ leftC es n q d = [] ∧ d.getD q 0 = 0 ∧ t.getD q 0 = 0 ∧ (∀ x, 0 ≤ t.getD x 0) ∧ (∀ x, 0 ≤ d.getD x 0) ∧ ByS es n q cs d t ∧ sumTo (fun x => d.getD x 0) n ≤ sumTo (fun x => cs.getD x 0) n ∧ (leftC es n q cs = [] → d = cs ∧ t = List.replicate n 0) := by
  obtain ⟨hc, hcq⟩ := burn_zero hz
  obtain ⟨hG, hC, _, hqn, hlen, _, _⟩ := conf_zero hc
  simp only [Int.toNat_natCast] at hcq hC
  have hq : q < n := by omega
  have hl : cs.length = n := by omega
  have he : ∀ a b, 0 ≤ btw es a b := fun a b => (btw_bd hG.ok a b).1
  obtain ⟨r, hr⟩ := PushR.total es n q 1048577 cs (List.replicate n 0) 0 (by omega)
  have hz0 : ∀ x, (List.replicate n (0 : Int)).getD x 0 = 0 := fun x => by
    rw [List.getD_eq_getElem?_getD, List.getElem?_replicate]; split <;> rfl
  have hB : ByS es n q cs cs (List.replicate n 0) := fun x hx _ => by
    rw [sumTo_zero fun w _ => ?_, Int.add_zero]
    rw [hz0, hz0]; simp
  have hne := hr.ends hG hC hq h0 hT hT0 hbig hl (by simp) (hz0 q) (fun x _ _ => h0 x) hB (by rw [sumTo_zero fun x _ => hz0 x]; rfl)
  cases r with
  | none => exact absurd rfl hne
  | some p =>
    obtain ⟨d, t⟩ := p
    obtain ⟨g1, g2, g3, g4, g5, g6, g7⟩ := hr.goal hq hl (by simp) hcq (hz0 q) (fun x => by rw [hz0]; exact Int.le_refl _) hB d t rfl
    have hpos := hr.nonneg he hq hl (fun x _ _ => h0 x) d t rfl
    refine ⟨d, t, .inr ⟨hz, _, by simpa using hr, .inl ⟨rfl, rfl⟩⟩, g2, g3, g1, g4, g5, g6, fun x => ?_, g7, g7.sum_le he hq hcq g4 g5 g6, fun hL => ?_⟩
    · by_cases hx : x < n
      · by_cases hxq : x = q
        · subst hxq; omega
        · exact hpos x hx hxq
      · rw [getD_out (by omega)]; exact Int.le_refl _
    · have := hr.done_inv hL
      injection this with this; injection this with e1 e2
      exact ⟨e1, e2⟩

/-- The sum of two divisors. -/
def sumK (xs ys : List Int) (k : Nat) : List Int := (List.range xs.length).map fun v => xs.getD v 0 + if v < k then ys.getD v 0 else 0
def sumL (xs ys : List Int) : List Int := sumK xs ys xs.length
theorem sumK_length (xs ys : List Int) (k : Nat) : (sumK xs ys k).length = xs.length := by simp [sumK]
theorem sumK_at (xs ys : List Int) (k : Nat) {v : Nat} (h : v < xs.length) : (sumK xs ys k)[v]? = some (xs.getD v 0 + if v < k then ys.getD v 0 else 0) := by
  unfold sumK; rw [List.getElem?_map, List.getElem?_range h]; rfl
theorem sumK_zero (xs ys : List Int) : sumK xs ys 0 = xs := by
  apply List.ext_getElem?
  intro v
  by_cases h : v < xs.length
  · rw [sumK_at _ _ _ h, if_neg (by omega), Int.add_zero, List.getD_eq_getElem?_getD, List.getElem?_eq_getElem h]; rfl
  · rw [List.getElem?_eq_none (by rw [sumK_length]; omega), List.getElem?_eq_none (by omega)]
theorem sumK_succ (xs ys : List Int) {k : Nat} (h : k < xs.length) : sumK xs ys (k + 1) = (sumK xs ys k).set k (xs.getD k 0 + ys.getD k 0) := by
  apply List.ext_getElem?
  intro v
  rw [List.getElem?_set]
  by_cases hv : v < xs.length
  · by_cases e : k = v
    · subst e; rw [if_pos rfl, sumK_length, if_pos h, sumK_at _ _ _ h, if_pos (by omega)]
    · rw [if_neg e, sumK_at _ _ _ hv, sumK_at _ _ _ hv]
      by_cases hvk : v < k
      · rw [if_pos hvk, if_pos (by omega)]
      · rw [if_neg hvk, if_neg (by omega)]
  · rw [if_neg (by omega), List.getElem?_eq_none (by rw [sumK_length]; omega), List.getElem?_eq_none (by rw [sumK_length]; omega)]
theorem sumL_length (xs ys : List Int) : (sumL xs ys).length = xs.length := sumK_length _ _ _
theorem sumL_getD {xs ys : List Int} (h : xs.length = ys.length) (v : Nat) : (sumL xs ys).getD v 0 = xs.getD v 0 + ys.getD v 0 := by
  by_cases hv : v < xs.length
  · unfold sumL
    rw [List.getD_eq_getElem?_getD, sumK_at _ _ _ hv, if_pos hv]; rfl
  · rw [getD_out (by rw [sumL_length]; omega), getD_out (by omega), getD_out (by omega)]; rfl
theorem mem_le_sum {cs : List Int} {n : Nat} (hl : cs.length = n) (h0 : ∀ x, 0 ≤ cs.getD x 0) : ∀ x ∈ cs, 0 ≤ x ∧ x ≤ sumTo (fun x => cs.getD x 0) n := by
  intro x hx
  obtain ⟨i, hi, rfl⟩ := List.getElem_of_mem hx
  have e : cs.getD i 0 = cs[i] := by rw [List.getD_eq_getElem?_getD, List.getElem?_eq_getElem hi]; rfl
  have := sumTo_one (f := fun x => cs.getD x 0) (k := n) (fun j _ => h0 j) i (by omega)
  have h1 := h0 i
  rw [← e]
  exact ⟨h1, this⟩

/-- Adding first or later leads to the same. -/
theorem adds_same {n q : Nat} {es : List E3} {a b : List Int} (ha : burnErr n es q a = 0) (hb : burnErr n es q b = 0) (hn : n ≤ 6) (ha1 : ∀ x ∈ a, x ≤ 60) (hb1 : ∀ x ∈ b, x ≤ 60) :
    ∃ d s c t u, PushE n es q (sumL a b) d s 0 ∧ PushE n es q a c t 0 ∧ c.length = n ∧ PushE n es q (sumL c b) d u 0 ∧ d.length = n ∧ Bd 1048576 c := by
  have full : ∀ {c : List Int}, burnErr n es q c = 0 → (∀ x ∈ c, x ≤ 60) → c.length = n ∧ c.getD q 0 = 0 ∧ (∀ x, 0 ≤ c.getD x 0) ∧ sumTo (fun x => c.getD x 0) n ≤ 360 := by
    intro c h h60
    obtain ⟨hc, hcq⟩ := burn_zero h
    obtain ⟨_, _, _, _, hlen, _, hpos⟩ := conf_zero hc
    simp only [Int.toNat_natCast] at hcq
    refine ⟨by omega, hcq, fun x => ?_, ?_⟩
    · by_cases hx : x < n
      · by_cases hxq : x = q
        · subst hxq; omega
        · exact hpos x (by omega) (by omega)
      · rw [getD_out (by omega)]; exact Int.le_refl _
    · have : sumTo (fun x => c.getD x 0) n ≤ sumTo (fun _ => 60) n := by
        refine sumTo_le fun x hx => ?_
        have hxc : x < c.length := by omega
        rw [List.getD_eq_getElem?_getD, List.getElem?_eq_getElem hxc]
        exact h60 _ (List.getElem_mem hxc)
      rw [sumTo_const] at this
      omega
  obtain ⟨la, qa, pa, ta⟩ := full ha ha1
  obtain ⟨lb, qb, pb, tb⟩ := full hb hb1
  obtain ⟨hG, _, _, hqn, _⟩ := conf_zero (burn_zero ha).1
  have hq : q < n := by omega
  have he : ∀ a b, 0 ≤ btw es a b := fun a b => (btw_bd hG.ok a b).1
  have hbig : (n : Int) * (n * 720) ≤ 1048576 := by
    have h1 : (n : Int) * 720 ≤ 4320 := by omega
    have h2 : (n : Int) * (n * 720) ≤ (n : Int) * 4320 := Int.mul_le_mul_of_nonneg_left h1 (by omega)
    omega
  -- the sum of a right one and b
  have plus : ∀ {c : List Int}, c.length = n → c.getD q 0 = 0 → (∀ x, 0 ≤ c.getD x 0) → sumTo (fun x => c.getD x 0) n ≤ 360 → burnErr n es q (sumL c b) = 0 ∧ (∀ x, 0 ≤ (sumL c b).getD x 0) ∧ sumTo (fun x => (sumL c b).getD x 0) n ≤ 720 := by
    intro c lc qc pc tc
    have hg := sumL_getD (xs := c) (ys := b) (by omega)
    have hp : ∀ x, 0 ≤ (sumL c b).getD x 0 := fun x => by rw [hg]; have := pc x; have := pb x; omega
    have ht : sumTo (fun x => (sumL c b).getD x 0) n ≤ 720 := by
      rw [sumTo_congr (g := fun x => c.getD x 0 + b.getD x 0) fun x _ => hg x, sumTo_add]; omega
    have hm := mem_le_sum (cs := sumL c b) (n := n) (by rw [sumL_length]; exact lc) hp
    refine ⟨burn_zero_of ha (by rw [sumL_length]; omega) (fun x hx => by have := hm x hx; omega) hp ?_, hp, ht⟩
    simp only [Int.toNat_natCast]
    rw [hg, qc, qb]; rfl
  obtain ⟨z1, p1, t1⟩ := plus la qa pa ta
  obtain ⟨d, s, hd, ld, ls, Ld, qd, qs, ps, pd, Bd', _⟩ := push_right z1 p1 t1 (by omega) hbig
  obtain ⟨c, t, hc, lc, lt, Lc, qc, qt, pt, pc, Bc, sc, _⟩ := push_right ha pa (T := 720) (by omega) (by omega) hbig
  obtain ⟨z2, p2, t2⟩ := plus lc qc pc (by omega)
  obtain ⟨d2, u, hd2, ld2, lu, Ld2, qd2, qu, pu, pd2, Bd2, _⟩ := push_right z2 p2 t2 (by omega) hbig
  have hsame : d = d2 := by
    refine super_unique he hq (s := fun x => s.getD x 0 - t.getD x 0 - u.getD x 0) (by omega) ld2 ld qd2 qd (fun x _ _ => pd2 x) (fun x _ _ => pd x) Ld2 Ld fun x hx hxq => ?_
    have e1 := Bd' x hx hxq
    have e2 := Bc x hx hxq
    have e3 := Bd2 x hx hxq
    rw [sumL_getD (by omega)] at e1 e3
    have key : sumTo (fun w => tt es x w * (s.getD w 0 - t.getD w 0 - u.getD w 0 - (s.getD x 0 - t.getD x 0 - u.getD x 0))) n + (sumTo (fun w => tt es x w * (t.getD w 0 - t.getD x 0)) n + sumTo (fun w => tt es x w * (u.getD w 0 - u.getD x 0)) n) = sumTo (fun w => tt es x w * (s.getD w 0 - s.getD x 0)) n := by
      rw [← sumTo_add, ← sumTo_add]
      refine sumTo_congr fun w _ => ?_
      rw [← Int.mul_add, ← Int.mul_add]
      congr 1
      omega
    omega
  subst hsame
  refine ⟨d, s, c, t, u, hd, hc, lc, hd2, ld, fun x hx => ?_⟩
  have := mem_le_sum lc pc x hx
  omega
end Go.Proofs.Ythbannpmfdflaaa
