/-
  Texts of this claim, put together: BurnP, ValP.
-/
import Derived.Test.YtdnoeaoelgehcaaGreatK05
/-! Plain laws of burning: the fire, whatever burns first, and the sets that block. No program is in sight. -/
namespace Go.Proofs.YtdnoeaoelgehcaaGreat

/-- How many single edges join a vertex with those of a list. -/
def joinsN (es : List (Int × Int × Int)) (v : Nat) (l : List Nat) : Int := (l.map fun u : Nat => btw es v u).sum
/-- .. as the program counts them: over all vertices below k. -/
def flmTo (es : List (Int × Int × Int)) (l : List Nat) (v : Nat) : Nat → Int
  | 0 => 0
  | k + 1 => flmTo es l v k + if k ∈ l then tt es v k else 0
/-- Burnt vertices, each once. -/
def LOk (n : Nat) (l : List Nat) : Prop := l.Nodup ∧ ∀ u ∈ l, u < n
theorem joinsN_snoc (es : List (Int × Int × Int)) (v : Nat) (l : List Nat) (x : Nat) : joinsN es v (l ++ [x]) = joinsN es v l + btw es v x := by simp [joinsN]
theorem joinsN_nil (es : List (Int × Int × Int)) (v : Nat) : joinsN es v [] = 0 := rfl
theorem flmTo_bd {n : Int} {es : List (Int × Int × Int)} (h : ∀ e ∈ es, okE n e) (l : List Nat) (v k : Nat) : 0 ≤ flmTo es l v k ∧ flmTo es l v k ≤ 50 * k := by
  induction k with
  | zero => simp [flmTo]
  | succ k ih =>
    have := tt_bd h v k
    rw [flmTo]
    split <;> omega
theorem flmTo_snoc {es : List (Int × Int × Int)} {l : List Nat} {v x : Nat} (hx : x ∉ l) : ∀ k, flmTo es (l ++ [x]) v k = flmTo es l v k + if x < k then tt es v x else 0
  | 0 => by simp [flmTo]
  | k + 1 => by
    rw [flmTo, flmTo, flmTo_snoc hx k]
    by_cases hk : k = x
    · subst hk
      simp [hx]
    · have h1 : (k ∈ l ++ [x]) ↔ k ∈ l := by simp [hk]
      simp only [h1]
      by_cases h2 : x < k
      · have h3 : x < k + 1 := by omega
        simp only [h2, h3, if_true]; omega
      · have h3 : ¬ x < k + 1 := by omega
        simp only [h2, h3, if_false]; omega
theorem flmTo_nil (es : List (Int × Int × Int)) (v k : Nat) : flmTo es [] v k = 0 := by
  induction k with
  | zero => rfl
  | succ k ih => rw [flmTo, ih]; simp
theorem LOk.front {n : Nat} {l : List Nat} {x : Nat} (h : LOk n (l ++ [x])) : LOk n l ∧ x ∉ l ∧ x < n := by
  obtain ⟨h1, h2⟩ := h
  rw [List.nodup_append] at h1
  obtain ⟨a, b, c⟩ := h1
  exact ⟨⟨a, fun u hu => h2 u (by simp [hu])⟩, fun hx => c x hx x (by simp) rfl, h2 x (by simp)⟩
theorem LOk.snoc {n : Nat} {l : List Nat} {x : Nat} (h : LOk n l) (hx : x ∉ l) (hn : x < n) : LOk n (l ++ [x]) := by
  refine ⟨?_, ?_⟩
  · rw [List.nodup_append]
    exact ⟨h.1, by simp, fun a ha b hb e => by simp at hb; subst hb; subst e; exact hx ha⟩
  · intro u hu
    rcases List.mem_append.1 hu with hu | hu
    · exact h.2 u hu
    · simp at hu; omega
theorem snocRec {α : Type} {P : List α → Prop} (h0 : P []) (h1 : ∀ l x, P l → P (l ++ [x])) (l : List α) : P l := by
  obtain ⟨r, rfl⟩ : ∃ r, l = r.reverse := ⟨l.reverse, by simp⟩
  induction r with
  | nil => exact h0
  | cons x r ih => rw [List.reverse_cons]; exact h1 _ _ ih
theorem flm_joins {es : List (Int × Int × Int)} {n v : Nat} (l : List Nat) : LOk n l → v ∉ l → flmTo es l v n = joinsN es v l := by
  induction l using snocRec with
  | h0 => intro _ _; rw [flmTo_nil]; rfl
  | h1 l x ih =>
    intro h hv
    obtain ⟨h1, h2, h3⟩ := h.front
    rw [flmTo_snoc h2, joinsN_snoc, ih h1 (fun hc => hv (by simp [hc])), if_pos h3]
    unfold tt
    rw [if_neg (fun e => hv (by simp [e]))]

/-- More vertices, no fewer joints. -/
theorem joinsN_cons (es : List (Int × Int × Int)) (v x : Nat) (l : List Nat) : joinsN es v (x :: l) = btw es v x + joinsN es v l := by simp [joinsN]
theorem joinsN_erase (es : List (Int × Int × Int)) (v x : Nat) : ∀ {l : List Nat}, x ∈ l → joinsN es v l = btw es v x + joinsN es v (l.erase x)
  | [], h => by simp at h
  | y :: l, h => by
    by_cases hy : y = x
    · subst hy; rw [joinsN_cons, List.erase_cons_head]
    · rw [List.erase_cons_tail (by simpa using hy), joinsN_cons, joinsN_cons]
      rw [joinsN_erase es v x (l := l) (by
        rcases List.mem_cons.1 h with rfl | h
        · exact absurd rfl hy
        · exact h)]
      omega
theorem joinsN_nonneg {es : List (Int × Int × Int)} (he : ∀ a b, 0 ≤ btw es a b) (v : Nat) (l : List Nat) : 0 ≤ joinsN es v l := by
  induction l with
  | nil => exact Int.le_refl _
  | cons x l ih => rw [joinsN_cons]; have := he v x; omega
theorem joins_mono {es : List (Int × Int × Int)} {n m : Nat} (he : ∀ a b, 0 ≤ btw es a b) : ∀ {l l' : List Nat}, LOk n l → LOk m l' → (∀ u ∈ l, u ∈ l') → ∀ v, joinsN es v l ≤ joinsN es v l'
  | [], l', _, _, _, v => by rw [joinsN_nil]; exact joinsN_nonneg he v l'
  | x :: l, l', h, h', hs, v => by
    obtain ⟨h1, h2⟩ := h
    rw [List.nodup_cons] at h1
    have hx := hs x (by simp)
    rw [joinsN_cons, joinsN_erase es v x hx]
    have := joins_mono he (l := l) (l' := l'.erase x) ⟨h1.2, fun u hu => h2 u (by simp [hu])⟩ ⟨h'.1.erase x, fun u hu => h'.2 u (List.mem_of_mem_erase hu)⟩ (fun u hu => by
      rw [h'.1.mem_erase_iff]
      exact ⟨fun e => h1.1 (e ▸ hu), hs u (by simp [hu])⟩) v
    omega

/-- A vertex that is not burnt burns now. -/
def catL (es : List (Int × Int × Int)) (c : List Int) (l : List Nat) (v : Nat) : Bool := !decide (v ∈ l) && decide (c.getD v 0 < joinsN es v l)
def readyL (es : List (Int × Int × Int)) (c : List Int) (n : Nat) (l : List Nat) : List Nat := (List.range n).filter (catL es c l)
/-- The fire goes on: the least vertex that burns now, so many times. -/
def burnL (es : List (Int × Int × Int)) (c : List Int) (n : Nat) : Nat → List Nat → List Nat
  | 0, l => l
  | k + 1, l => match (readyL es c n l).head? with
    | none => l
    | some v => burnL es c n k (l ++ [v])
def burntL (es : List (Int × Int × Int)) (c : List Int) (n q : Nat) : List Nat := burnL es c n n [q]
def restL (n : Nat) (l : List Nat) : List Nat := (List.range n).filter fun v => !decide (v ∈ l)
section
variable {es : List (Int × Int × Int)} {c : List Int} {n : Nat} {l : List Nat} {v : Nat}
theorem catL_true : catL es c l v = true ↔ v ∉ l ∧ c.getD v 0 < joinsN es v l := by simp [catL]
theorem mem_ready : v ∈ readyL es c n l ↔ v < n ∧ v ∉ l ∧ c.getD v 0 < joinsN es v l := by
  unfold readyL; rw [List.mem_filter, List.mem_range, catL_true]
theorem mem_rest : v ∈ restL n l ↔ v < n ∧ v ∉ l := by
  unfold restL; rw [List.mem_filter, List.mem_range]; simp
theorem head_ready (h : (readyL es c n l).head? = some v) : v < n ∧ v ∉ l ∧ c.getD v 0 < joinsN es v l := mem_ready.1 (List.mem_of_mem_head? (by rw [h]; rfl))
theorem head_ready_min (h : (readyL es c n l).head? = some v) : ∀ u, u < v → catL es c l u = false := by
  intro u hu
  unfold readyL at h
  rw [List.head?_filter, List.find?_range_eq_some] at h
  have := h.2.2 u hu
  simpa using this
theorem head_ready_of (hn : v < n) (hv : catL es c l v = true) (hlt : ∀ u, u < v → catL es c l u = false) : (readyL es c n l).head? = some v := by
  unfold readyL
  rw [List.head?_filter, List.find?_range_eq_some]
  exact ⟨hv, by simpa using hn, fun u hu => by simp [hlt u hu]⟩
theorem ready_none (h : ∀ u, u < n → catL es c l u = false) : readyL es c n l = [] := by
  unfold readyL
  rw [List.filter_eq_nil_iff]
  intro u hu
  rw [h u (by simpa using hu)]
  simp
theorem none_ready (h : (readyL es c n l).head? = none) : ∀ u, u < n → catL es c l u = false := by
  intro u hu
  have h0 : readyL es c n l = [] := by simpa using h
  unfold readyL at h0
  rw [List.filter_eq_nil_iff] at h0
  have := h0 u (by simpa using hu)
  simpa using this
theorem burnL_ok (k : Nat) : ∀ l, LOk n l → LOk n (burnL es c n k l) := by
  induction k with
  | zero => intro l h; exact h
  | succ k ih =>
    intro l h
    rw [burnL]
    rcases he : (readyL es c n l).head? with _ | v
    · exact h
    · obtain ⟨h1, h2, _⟩ := head_ready he
      exact ih _ (h.snoc h2 h1)
theorem burnL_pre (k : Nat) : ∀ l, l <+: burnL es c n k l := by
  induction k with
  | zero => intro l; exact List.prefix_rfl
  | succ k ih =>
    intro l
    rw [burnL]
    rcases he : (readyL es c n l).head? with _ | v
    · exact List.prefix_rfl
    · exact (List.prefix_append l [v]).trans (ih _)
/-- A list of numbers below n, each once, is not longer than n. -/
theorem nodup_len : ∀ {n : Nat} {l : List Nat}, LOk n l → l.length ≤ n
  | 0, l, h => by
    rcases l with _ | ⟨x, l⟩
    · simp
    · have := h.2 x (by simp); omega
  | n + 1, l, h => by
    by_cases hn : n ∈ l
    · have h1 : LOk n (l.erase n) := ⟨h.1.erase n, fun u hu => by
        have h2 := (h.1.mem_erase_iff).1 hu
        have := h.2 u h2.2
        have := h2.1
        omega⟩
      have := nodup_len h1
      rw [List.length_erase_of_mem hn] at this
      omega
    · have h1 : LOk n l := ⟨h.1, fun u hu => by
        have := h.2 u hu
        have : u ≠ n := fun e => hn (e ▸ hu)
        omega⟩
      have := nodup_len h1
      omega
theorem burnL_done {k : Nat} : ∀ {l : List Nat}, LOk n l → n ≤ l.length + k → ∀ u, u < n → catL es c (burnL es c n k l) u = false := by
  induction k with
  | zero =>
    intro l h hk u hu
    rw [burnL]
    by_cases hm : u ∈ l
    · simp [catL, hm]
    · have := nodup_len (h.snoc hm hu)
      simp at this
      omega
  | succ k ih =>
    intro l h hk u hu
    rw [burnL]
    rcases he : (readyL es c n l).head? with _ | v
    · exact none_ready he u hu
    · obtain ⟨h1, h2, _⟩ := head_ready he
      exact ih (h.snoc h2 h1) (by simp; omega) u hu
theorem burnL_stop (h : (readyL es c n l).head? = none) (k : Nat) : burnL es c n k l = l := by
  rcases k with _ | k
  · rfl
  · rw [burnL, h]
theorem burnL_step (h : (readyL es c n l).head? = some v) (k : Nat) : burnL es c n (k + 1) l = burnL es c n k (l ++ [v]) := by rw [burnL, h]
/-- Behind enough rounds the fire is over. -/
theorem burnL_more {k j : Nat} : ∀ {l : List Nat}, LOk n l → n ≤ l.length + k → n ≤ l.length + j → burnL es c n k l = burnL es c n j l := by
  induction k generalizing j with
  | zero =>
    intro l h hk hj
    have hnone : (readyL es c n l).head? = none := by
      rw [ready_none]
      · rfl
      · intro u hu
        have := burnL_done (es := es) (c := c) (k := 0) h hk u hu
        exact this
    rw [burnL_stop hnone, burnL_stop hnone]
  | succ k ih =>
    intro l h hk hj
    rcases he : (readyL es c n l).head? with _ | v
    · rw [burnL_stop he, burnL_stop he]
    · obtain ⟨h1, h2, _⟩ := head_ready he
      rcases j with _ | j
      · have := nodup_len (h.snoc h2 h1)
        simp at this
        omega
      · rw [burnL_step he, burnL_step he]
        exact ih (h.snoc h2 h1) (by simp; omega) (by simp; omega)
/-- A fire that burns any vertices that burn, in whatever order, burns no others; and at its end just those. -/
theorem burns_same {l' : List Nat} (hl : ∀ u ∈ l, u ∈ l') (hc : ∀ u, u < n → catL es c l' u = false) (hn : LOk n l') (he : ∀ a b, 0 ≤ btw es a b) (k : Nat) : LOk n l → ∀ u ∈ burnL es c n k l, u ∈ l' := by
  induction k generalizing l with
  | zero => intro _ u hu; exact hl u hu
  | succ k ih =>
    intro h0
    rw [burnL]
    rcases hv : (readyL es c n l).head? with _ | v
    · exact hl
    · obtain ⟨h1, h2, h3⟩ := head_ready hv
      refine ih (l := l ++ [v]) ?_ (h0.snoc h2 h1)
      intro u hu
      rcases List.mem_append.1 hu with hu | hu
      · exact hl u hu
      · simp at hu
        subst hu
        refine Classical.byContradiction fun hm => ?_
        have := hc u h1
        rw [← Bool.not_eq_true, catL_true] at this
        refine this ⟨hm, ?_⟩
        have hle : joinsN es u l ≤ joinsN es u l' := joins_mono he h0 hn hl u
        omega
end
end Go.Proofs.YtdnoeaoelgehcaaGreat

/-! Plain laws of burning, more: what comes of the fire, and how much is left. No program is in sight. -/
namespace Go.Proofs.YtdnoeaoelgehcaaGreat
section
variable {es : List (Int × Int × Int)} {c : List Int} {n : Nat} {l : List Nat} {v : Nat}
theorem restL_nodup (n : Nat) (l : List Nat) : (restL n l).Nodup := by unfold restL; exact List.Nodup.sublist List.filter_sublist List.nodup_range
theorem restL_snoc (n : Nat) (l : List Nat) (x : Nat) : restL n (l ++ [x]) = (restL n l).erase x := by
  rw [(restL_nodup n l).erase_eq_filter]
  unfold restL
  rw [List.filter_filter]
  apply List.filter_congr
  intro u _
  by_cases h : u = x <;> by_cases h2 : u ∈ l <;> simp [h, h2]
theorem rest_len (l : List Nat) : LOk n l → (restL n l).length + l.length = n := by
  induction l using snocRec with
  | h0 =>
    intro _
    unfold restL
    rw [List.filter_eq_self.2 (by simp)]
    simp
  | h1 l x ih =>
    intro h
    obtain ⟨h1, h2, h3⟩ := h.front
    have := ih h1
    have hm : x ∈ restL n l := mem_rest.2 ⟨h3, h2⟩
    have hp := List.length_pos_of_mem hm
    rw [restL_snoc, List.length_erase_of_mem hm, List.length_append, List.length_singleton]
    omega
theorem burnL_next (h : LOk n l) (hv : (readyL es c n l).head? = some v) : burnL es c n n l = burnL es c n n (l ++ [v]) := by
  obtain ⟨h1, h2, _⟩ := head_ready hv
  rcases n with _ | n
  · omega
  · rw [burnL_step hv, burnL_more (h.snoc h2 h1) (k := n) (j := n + 1) (by rw [List.length_append, List.length_singleton]; omega) (by rw [List.length_append, List.length_singleton]; omega)]
/-- What comes of the fire. -/
def fireS (es : List (Int × Int × Int)) (c : List Int) (n : Nat) (l : List Nat) : List Nat := (burnL es c n n l).drop l.length
theorem fireS_eq : burnL es c n n l = l ++ fireS es c n l := by
  obtain ⟨t, ht⟩ := burnL_pre (es := es) (c := c) (n := n) n l
  unfold fireS
  rw [← ht, List.drop_left]
theorem fire_pre {pre : List Nat} (h : burnL es c n n (l ++ pre) = burnL es c n n l) : pre <+: fireS es c n l := by
  have h1 := burnL_pre (es := es) (c := c) (n := n) n (l ++ pre)
  rw [h, fireS_eq] at h1
  exact (List.prefix_append_right_inj l).1 h1
theorem fire_end {pre : List Nat} (h : burnL es c n n (l ++ pre) = burnL es c n n l) (hn : ∀ u, u < n → catL es c (l ++ pre) u = false) : pre = fireS es c n l ∧ burnL es c n n l = l ++ pre := by
  have h1 : burnL es c n n (l ++ pre) = l ++ pre := burnL_stop (by rw [ready_none hn]; rfl) n
  have h2 : burnL es c n n l = l ++ pre := h.symm.trans h1
  refine ⟨?_, h2⟩
  rw [fireS_eq] at h2
  exact (List.append_cancel_left h2).symm
theorem burnL_len (h : LOk n l) : LOk n (burnL es c n n l) := burnL_ok n l h
end
theorem tt_append {n : Int} {es fs : List (Int × Int × Int)} (h : (es ++ fs).Pairwise ltE) (hok : ∀ e ∈ es, okE n e) (x w : Nat) : tt (es ++ fs) x w = tt es x w + tt fs x w := by
  unfold tt
  split
  · rfl
  · exact btw_append h (fun e he => by have := hok e he; unfold okE at this; omega) _ _
theorem fewer_burn {n q : Nat} {es : List (Int × Int × Int)} (he : ∀ a b, 0 ≤ btw es a b) (hq : q < n) {cs ds : List Int} (h : ∀ v, v < n → ds.getD v 0 ≤ cs.getD v 0) : ∀ v, v ∈ burntL es cs n q → v ∈ burntL es ds n q := by
  have hl : LOk n [q] := ⟨by simp, by simpa using hq⟩
  have hdone := burnL_done (es := es) (c := ds) (n := n) (k := n) (l := [q]) hl (by simp)
  refine burns_same (es := es) (c := cs) (n := n) (l := [q]) (l' := burntL es ds n q) (fun u hu => (burnL_pre n [q]).subset hu) (fun u hu => ?_) (burnL_ok n _ hl) he n hl
  have h1 := hdone u hu
  change catL es ds (burntL es ds n q) u = false at h1
  rw [← Bool.not_eq_true, catL_true] at h1 ⊢
  rintro ⟨h2, h3⟩
  have := h u hu
  exact h1 ⟨h2, by omega⟩
end Go.Proofs.YtdnoeaoelgehcaaGreat

/-! Plain: how many single edges lead from a vertex to others, and to marked ones; by edges and by vertices. -/
namespace Go.Proofs.YtdnoeaoelgehcaaGreat

/-- What an edge gives. -/
def valT (v : Int) (e : Int × Int × Int) : Int := if e.1 ≠ e.2.1 ∧ (e.1 = v ∨ e.2.1 = v) then e.2.2 else 0
def valE (es : List (Int × Int × Int)) (v : Int) : Int := (es.map (valT v)).sum
def jnT (l : List Nat) (v : Int) (e : Int × Int × Int) : Int := if e.1 ≠ e.2.1 ∧ ((e.1 = v ∧ e.2.1.toNat ∈ l) ∨ (e.2.1 = v ∧ e.1.toNat ∈ l)) then e.2.2 else 0
def jnE (es : List (Int × Int × Int)) (l : List Nat) (v : Int) : Int := (es.map (jnT l v)).sum
theorem valE_snoc {es : List (Int × Int × Int)} {k : Nat} {e : Int × Int × Int} (h : es[k]? = some e) (v : Int) : valE (es.take (k + 1)) v = valE (es.take k) v + valT v e := by
  rw [List.take_add_one, h]; simp [valE]
theorem jnE_snoc {es : List (Int × Int × Int)} {k : Nat} {e : Int × Int × Int} (h : es[k]? = some e) (l : List Nat) (v : Int) : jnE (es.take (k + 1)) l v = jnE (es.take k) l v + jnT l v e := by
  rw [List.take_add_one, h]; simp [jnE]
theorem valT_bd {n : Int} {e : Int × Int × Int} (h : okE n e) (v : Int) : 0 ≤ valT v e ∧ valT v e ≤ 50 := by
  unfold okE at h; unfold valT; split <;> omega
theorem jnT_bd {n : Int} {e : Int × Int × Int} (h : okE n e) (l : List Nat) (v : Int) : 0 ≤ jnT l v e ∧ jnT l v e ≤ 50 := by
  unfold okE at h; unfold jnT; split <;> omega
theorem valE_bd {n : Int} {es : List (Int × Int × Int)} (h : ∀ e ∈ es, okE n e) (v : Int) : 0 ≤ valE es v ∧ valE es v ≤ 50 * es.length := by
  induction es with
  | nil => simp [valE]
  | cons e es ih =>
    have h1 := ih fun x hx => h x (by simp [hx])
    have h2 := valT_bd (h e (by simp)) v
    simp only [valE, List.map_cons, List.sum_cons, List.length_cons] at *
    omega
theorem jnE_bd {n : Int} {es : List (Int × Int × Int)} (h : ∀ e ∈ es, okE n e) (l : List Nat) (v : Int) : 0 ≤ jnE es l v ∧ jnE es l v ≤ 50 * es.length := by
  induction es with
  | nil => simp [jnE]
  | cons e es ih =>
    have h1 := ih fun x hx => h x (by simp [hx])
    have h2 := jnT_bd (h e (by simp)) l v
    simp only [jnE, List.map_cons, List.sum_cons, List.length_cons] at *
    omega
/-- The sum over the vertices below k that are in the list. -/
theorem flmTo_append {n : Int} {es fs : List (Int × Int × Int)} (h : (es ++ fs).Pairwise ltE) (hok : ∀ e ∈ es, okE n e) (l : List Nat) (v k : Nat) : flmTo (es ++ fs) l v k = flmTo es l v k + flmTo fs l v k := by
  induction k with
  | zero => rfl
  | succ k ih =>
    simp only [flmTo]
    rw [ih, tt_append h hok]
    split <;> omega
theorem flmTo_one {n : Nat} {e : Int × Int × Int} (hok : okE n e) (l : List Nat) (v k : Nat) : flmTo [e] l v k = if e.1 ≠ e.2.1 ∧ ((e.1 = v ∧ e.2.1.toNat ∈ l ∧ e.2.1.toNat < k) ∨ (e.2.1 = v ∧ e.1.toNat ∈ l ∧ e.1.toNat < k)) then e.2.2 else 0 := by
  unfold okE at hok
  induction k with
  | zero => simp [flmTo]
  | succ k ih =>
    simp only [flmTo]
    rw [ih]
    have ht : tt [e] v k = if e.1 ≠ e.2.1 ∧ ((e.1 = v ∧ e.2.1.toNat = k) ∨ (e.2.1 = v ∧ e.1.toNat = k)) then e.2.2 else 0 := by
      unfold tt
      rw [btw_cons, btw_nil]
      by_cases hvk : v = k
      · subst hvk
        rw [if_pos rfl, if_neg (by omega)]
      · rw [if_neg hvk]
        by_cases h2 : e.1 = min (v : Int) (k : Int) ∧ e.2.1 = max (v : Int) (k : Int)
        · rw [if_pos h2, if_pos (by omega)]
        · rw [if_neg h2, if_neg (by omega)]
    rw [ht]
    by_cases hk : k ∈ l
    · rw [if_pos hk]
      by_cases h1 : e.1 ≠ e.2.1 ∧ ((e.1 = v ∧ e.2.1.toNat ∈ l ∧ e.2.1.toNat < k) ∨ (e.2.1 = v ∧ e.1.toNat ∈ l ∧ e.1.toNat < k))
      · rw [if_pos h1, if_neg (by omega), if_pos (match h1 with | ⟨h0, .inl ⟨h2, h3, h4⟩⟩ => ⟨h0, .inl ⟨h2, h3, by omega⟩⟩ | ⟨h0, .inr ⟨h2, h3, h4⟩⟩ => ⟨h0, .inr ⟨h2, h3, by omega⟩⟩)]
        omega
      · rw [if_neg h1]
        by_cases h5 : e.1 ≠ e.2.1 ∧ ((e.1 = v ∧ e.2.1.toNat = k) ∨ (e.2.1 = v ∧ e.1.toNat = k))
        · rw [if_pos h5, if_pos (match h5 with | ⟨h0, .inl ⟨h2, h3⟩⟩ => ⟨h0, .inl ⟨h2, by rw [h3]; exact hk, by omega⟩⟩ | ⟨h0, .inr ⟨h2, h3⟩⟩ => ⟨h0, .inr ⟨h2, by rw [h3]; exact hk, by omega⟩⟩)]
          omega
        · rw [if_neg h5, if_neg (fun ⟨h0, h6⟩ => by
            rcases h6 with ⟨h2, h3, h4⟩ | ⟨h2, h3, h4⟩
            · rcases Nat.lt_or_ge e.2.1.toNat k with h7 | h7
              · exact h1 ⟨h0, .inl ⟨h2, h3, h7⟩⟩
              · exact h5 ⟨h0, .inl ⟨h2, by omega⟩⟩
            · rcases Nat.lt_or_ge e.1.toNat k with h7 | h7
              · exact h1 ⟨h0, .inr ⟨h2, h3, h7⟩⟩
              · exact h5 ⟨h0, .inr ⟨h2, by omega⟩⟩)]
          omega
    · rw [if_neg hk]
      have : (e.1 ≠ e.2.1 ∧ ((e.1 = v ∧ e.2.1.toNat ∈ l ∧ e.2.1.toNat < k + 1) ∨ (e.2.1 = v ∧ e.1.toNat ∈ l ∧ e.1.toNat < k + 1))) ↔ (e.1 ≠ e.2.1 ∧ ((e.1 = v ∧ e.2.1.toNat ∈ l ∧ e.2.1.toNat < k) ∨ (e.2.1 = v ∧ e.1.toNat ∈ l ∧ e.1.toNat < k))) := by
        constructor
        · rintro ⟨h0, ⟨h2, h3, h4⟩ | ⟨h2, h3, h4⟩⟩
          · refine ⟨h0, .inl ⟨h2, h3, ?_⟩⟩
            rcases Nat.lt_or_ge e.2.1.toNat k with h7 | h7
            · exact h7
            · rw [show e.2.1.toNat = k by omega] at h3; exact absurd h3 hk
          · refine ⟨h0, .inr ⟨h2, h3, ?_⟩⟩
            rcases Nat.lt_or_ge e.1.toNat k with h7 | h7
            · exact h7
            · rw [show e.1.toNat = k by omega] at h3; exact absurd h3 hk
        · rintro ⟨h0, ⟨h2, h3, h4⟩ | ⟨h2, h3, h4⟩⟩
          · exact ⟨h0, .inl ⟨h2, h3, by omega⟩⟩
          · exact ⟨h0, .inr ⟨h2, h3, by omega⟩⟩
      simp only [this]
      omega
theorem jnE_flm {n : Nat} {es : List (Int × Int × Int)} (h : RightG n es) (l : List Nat) (v : Nat) : jnE es l v = flmTo es l v n := by
  have hs := h.sorted
  have hok := h.ok
  clear h
  induction es using snocRec with
  | h0 =>
    have : ∀ k, flmTo [] l v k = 0 := fun k => by
      induction k with
      | zero => rfl
      | succ k ih => simp only [flmTo]; rw [ih]; simp [tt, btw]
    rw [this]; rfl
  | h1 es e ih =>
    have hs1 : es.Pairwise ltE := (List.pairwise_append.1 hs).1
    have ho1 : ∀ x ∈ es, okE n x := fun x hx => hok x (by simp [hx])
    have hoe := hok e (by simp)
    rw [flmTo_append hs ho1, ← ih hs1 ho1, flmTo_one hoe]
    unfold jnE
    rw [List.map_append, List.sum_append]
    simp only [List.map_cons, List.map_nil, List.sum_cons, List.sum_nil, Int.add_zero]
    congr 1
    unfold jnT
    unfold okE at hoe
    have : (e.1 ≠ e.2.1 ∧ ((e.1 = (v : Int) ∧ e.2.1.toNat ∈ l) ∨ (e.2.1 = (v : Int) ∧ e.1.toNat ∈ l))) ↔ (e.1 ≠ e.2.1 ∧ ((e.1 = (v : Int) ∧ e.2.1.toNat ∈ l ∧ e.2.1.toNat < n) ∨ (e.2.1 = (v : Int) ∧ e.1.toNat ∈ l ∧ e.1.toNat < n))) := by
      constructor
      · rintro ⟨h0, ⟨h2, h3⟩ | ⟨h2, h3⟩⟩
        · exact ⟨h0, .inl ⟨h2, h3, by omega⟩⟩
        · exact ⟨h0, .inr ⟨h2, h3, by omega⟩⟩
      · rintro ⟨h0, ⟨h2, h3, _⟩ | ⟨h2, h3, _⟩⟩
        · exact ⟨h0, .inl ⟨h2, h3⟩⟩
        · exact ⟨h0, .inr ⟨h2, h3⟩⟩
    simp only [this]
theorem valE_jn {n : Nat} {es : List (Int × Int × Int)} (hok : ∀ e ∈ es, okE n e) (v : Int) : valE es v = jnE es (List.range n) v := by
  induction es with
  | nil => rfl
  | cons e es ih =>
    have h1 := ih fun x hx => hok x (by simp [hx])
    have h2 := hok e (by simp)
    unfold okE at h2
    unfold valE jnE at *
    simp only [List.map_cons, List.sum_cons]
    rw [h1]
    congr 1
    unfold valT jnT
    have : (e.1 ≠ e.2.1 ∧ (e.1 = v ∨ e.2.1 = v)) ↔ (e.1 ≠ e.2.1 ∧ ((e.1 = v ∧ e.2.1.toNat ∈ List.range n) ∨ (e.2.1 = v ∧ e.1.toNat ∈ List.range n))) := by
      simp only [List.mem_range]
      constructor
      · rintro ⟨h0, h | h⟩
        · exact ⟨h0, .inl ⟨h, by omega⟩⟩
        · exact ⟨h0, .inr ⟨h, by omega⟩⟩
      · rintro ⟨h0, ⟨h, _⟩ | ⟨h, _⟩⟩
        · exact ⟨h0, .inl h⟩
        · exact ⟨h0, .inr h⟩
    simp only [this]
end Go.Proofs.YtdnoeaoelgehcaaGreat

