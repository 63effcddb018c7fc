/-
  Texts of this claim, put together: BurnP, Wood.
-/
import Derived.Test.YtghigdcpinengaaGreatK09
import Derived.Test.YtghigdcpinengaaGreatK23
import Derived.Test.YtghigdcpinengaaGreatK11
/-! Plain laws of burning: the fire, whatever burns first, and the sets that block. No program is in sight. -/
namespace Go.Proofs.YtghigdcpinengaaGreat

/-- How many single edges join a vertex with those of a list. -/
def joinsN (es : List (Int × Int × Int)) (v : Nat) (l : List Nat) : Int := (l.map fun u : Nat => btw es v u).sum
/-- .. as the program counts them: over all vertices below k. -/
def flmTo (es : List (Int × Int × Int)) (l : List Nat) (v : Nat) : Nat → Int
  | 0 => 0
  | k + 1 => flmTo es l v k + if k ∈ l then tt es v k else 0
/-- Burnt vertices, each once. -/
def LOk (n : Nat) (l : List Nat) : Prop := l.Nodup ∧ ∀ u ∈ l, u < n
theorem joinsN_snoc (es : List (Int × Int × Int)) (v : Nat) (l : List Nat) (x : Nat) : joinsN es v (l ++ [x]) = joinsN es v l + btw es v x := by simp [joinsN]
theorem joinsN_nil (es : List (Int × Int × Int)) (v : Nat) : joinsN es v [] = 0 := rfl
theorem flmTo_bd {n : Int} {es : List (Int × Int × Int)} (h : ∀ e ∈ es, okE n e) (l : List Nat) (v k : Nat) : 0 ≤ flmTo es l v k ∧ flmTo es l v k ≤ 50 * k := by
  induction k with
  | zero => simp [flmTo]
  | succ k ih =>
    have := tt_bd h v k
    rw [flmTo]
    split <;> omega
theorem flmTo_snoc {es : List (Int × Int × Int)} {l : List Nat} {v x : Nat} (hx : x ∉ l) : ∀ k, flmTo es (l ++ [x]) v k = flmTo es l v k + if x < k then tt es v x else 0
  | 0 => by simp [flmTo]
  | k + 1 => by
    rw [flmTo, flmTo, flmTo_snoc hx k]
    by_cases hk : k = x
    · subst hk
      simp [hx]
    · have h1 : (k ∈ l ++ [x]) ↔ k ∈ l := by simp [hk]
      simp only [h1]
      by_cases h2 : x < k
      · have h3 : x < k + 1 := by omega
        simp only [h2, h3, if_true]; omega
      · have h3 : ¬ x < k + 1 := by omega
        simp only [h2, h3, if_false]; omega
theorem flmTo_nil (es : List (Int × Int × Int)) (v k : Nat) : flmTo es [] v k = 0 := by
  induction k with
  | zero => rfl
  | succ k ih => rw [flmTo, ih]; simp
theorem LOk.front {n : Nat} {l : List Nat} {x : Nat} (h : LOk n (l ++ [x])) : LOk n l ∧ x ∉ l ∧ x < n := by
  obtain ⟨h1, h2⟩ := h
  rw [List.nodup_append] at h1
  obtain ⟨a, b, c⟩ := h1
  exact ⟨⟨a, fun u hu => h2 u (by simp [hu])⟩, fun hx => c x hx x (by simp) rfl, h2 x (by simp)⟩
theorem LOk.snoc {n : Nat} {l : List Nat} {x : Nat} (h : LOk n l) (hx : x ∉ l) (hn : x < n) : LOk n (l ++ [x]) := by
  refine ⟨?_, ?_⟩
  · rw [List.nodup_append]
    exact ⟨h.1, by simp, fun a ha b hb e => by simp at hb; subst hb; subst e; exact hx ha⟩
  · intro u hu
    rcases List.mem_append.1 hu with hu | hu
    · exact h.2 u hu
    · simp at hu; omega
theorem snocRec {α : Type} {P : List α → Prop} (h0 : P []) (h1 : ∀ l x, P l → P (l ++ [x])) (l : List α) : P l := by
  obtain ⟨r, rfl⟩ : ∃ r, l = r.reverse := ⟨l.reverse, by simp⟩
  induction r with
  | nil => exact h0
  | cons x r ih => rw [List.reverse_cons]; exact h1 _ _ ih
theorem flm_joins {es : List (Int × Int × Int)} {n v : Nat} (l : List Nat) : LOk n l → v ∉ l → flmTo es l v n = joinsN es v l := by
  induction l using snocRec with
  | h0 => intro _ _; rw [flmTo_nil]; rfl
  | h1 l x ih =>
    intro h hv
    obtain ⟨h1, h2, h3⟩ := h.front
    rw [flmTo_snoc h2, joinsN_snoc, ih h1 (fun hc => hv (by simp [hc])), if_pos h3]
    unfold tt
    rw [if_neg (fun e => hv (by simp [e]))]

/-- More vertices, no fewer joints. -/
theorem joinsN_cons (es : List (Int × Int × Int)) (v x : Nat) (l : List Nat) : joinsN es v (x :: l) = btw es v x + joinsN es v l := by simp [joinsN]
theorem joinsN_erase (es : List (Int × Int × Int)) (v x : Nat) : ∀ {l : List Nat}, x ∈ l → joinsN es v l = btw es v x + joinsN es v (l.erase x)
  | [], h => by simp at h
  | y :: l, h => by
    by_cases hy : y = x
    · subst hy; rw [joinsN_cons, List.erase_cons_head]
    · rw [List.erase_cons_tail (by simpa using hy), joinsN_cons, joinsN_cons]
      rw [joinsN_erase es v x (l := l) (by
        rcases List.mem_cons.1 h with rfl | h
        · exact absurd rfl hy
        · exact h)]
      omega
theorem joinsN_nonneg {es : List (Int × Int × Int)} (he : ∀ a b, 0 ≤ btw es a b) (v : Nat) (l : List Nat) : 0 ≤ joinsN es v l := by
  induction l with
  | nil => exact Int.le_refl _
  | cons x l ih => rw [joinsN_cons]; have := he v x; omega
theorem joins_mono {es : List (Int × Int × Int)} {n m : Nat} (he : ∀ a b, 0 ≤ btw es a b) : ∀ {l l' : List Nat}, LOk n l → LOk m l' → (∀ u ∈ l, u ∈ l') → ∀ v, joinsN es v l ≤ joinsN es v l'
  | [], l', _, _, _, v => by rw [joinsN_nil]; exact joinsN_nonneg he v l'
  | x :: l, l', h, h', hs, v => by
    obtain ⟨h1, h2⟩ := h
    rw [List.nodup_cons] at h1
    have hx := hs x (by simp)
    rw [joinsN_cons, joinsN_erase es v x hx]
    have := joins_mono he (l := l) (l' := l'.erase x) ⟨h1.2, fun u hu => h2 u (by simp [hu])⟩ ⟨h'.1.erase x, fun u hu => h'.2 u (List.mem_of_mem_erase hu)⟩ (fun u hu => by
      rw [h'.1.mem_erase_iff]
      exact ⟨fun e => h1.1 (e ▸ hu), hs u (by simp [hu])⟩) v
    omega

/-- A vertex that is not burnt burns now. -/
def catL (es : List (Int × Int × Int)) (c : List Int) (l : List Nat) (v : Nat) : Bool := !decide (v ∈ l) && decide (c.getD v 0 < joinsN es v l)
def readyL (es : List (Int × Int × Int)) (c : List Int) (n : Nat) (l : List Nat) : List Nat := (List.range n).filter (catL es c l)
/-- The fire goes on: the least vertex that burns now, so many times. -/
def burnL (es : List (Int × Int × Int)) (c : List Int) (n : Nat) : Nat → List Nat → List Nat
  | 0, l => l
  | k + 1, l => match (readyL es c n l).head? with
    | none => l
    | some v => burnL es c n k (l ++ [v])
def burntL (es : List (Int × Int × Int)) (c : List Int) (n q : Nat) : List Nat := burnL es c n n [q]
def restL (n : Nat) (l : List Nat) : List Nat := (List.range n).filter fun v => !decide (v ∈ l)
section
variable {es : List (Int × Int × Int)} {c : List Int} {n : Nat} {l : List Nat} {v : Nat}
theorem catL_true : catL es c l v = true ↔ v ∉ l ∧ c.getD v 0 < joinsN es v l := by simp [catL]
theorem mem_ready : v ∈ readyL es c n l ↔ v < n ∧ v ∉ l ∧ c.getD v 0 < joinsN es v l := by
  unfold readyL; rw [List.mem_filter, List.mem_range, catL_true]
theorem mem_rest : v ∈ restL n l ↔ v < n ∧ v ∉ l := by
  unfold restL; rw [List.mem_filter, List.mem_range]; simp
theorem head_ready (h : (readyL es c n l).head? = some v) : v < n ∧ v ∉ l ∧ c.getD v 0 < joinsN es v l := mem_ready.1 (List.mem_of_mem_head? (by rw [h]; rfl))
theorem head_ready_of (hn : v < n) (hv : catL es c l v = true) (hlt : ∀ u, u < v → catL es c l u = false) : (readyL es c n l).head? = some v := by
  unfold readyL
  rw [List.head?_filter, List.find?_range_eq_some]
  exact ⟨hv, by simpa using hn, fun u hu => by simp [hlt u hu]⟩
theorem ready_none (h : ∀ u, u < n → catL es c l u = false) : readyL es c n l = [] := by
  unfold readyL
  rw [List.filter_eq_nil_iff]
  intro u hu
  rw [h u (by simpa using hu)]
  simp
theorem none_ready (h : (readyL es c n l).head? = none) : ∀ u, u < n → catL es c l u = false := by
  intro u hu
  have h0 : readyL es c n l = [] := by simpa using h
  unfold readyL at h0
  rw [List.filter_eq_nil_iff] at h0
  have := h0 u (by simpa using hu)
  simpa using this
theorem burnL_ok (k : Nat) : ∀ l, LOk n l → LOk n (burnL es c n k l) := by
  induction k with
  | zero => intro l h; exact h
  | succ k ih =>
    intro l h
    rw [burnL]
    rcases he : (readyL es c n l).head? with _ | v
    · exact h
    · obtain ⟨h1, h2, _⟩ := head_ready he
      exact ih _ (h.snoc h2 h1)
theorem burnL_pre (k : Nat) : ∀ l, l <+: burnL es c n k l := by
  induction k with
  | zero => intro l; exact List.prefix_rfl
  | succ k ih =>
    intro l
    rw [burnL]
    rcases he : (readyL es c n l).head? with _ | v
    · exact List.prefix_rfl
    · exact (List.prefix_append l [v]).trans (ih _)
/-- A list of numbers below n, each once, is not longer than n. -/
theorem nodup_len : ∀ {n : Nat} {l : List Nat}, LOk n l → l.length ≤ n
  | 0, l, h => by
    rcases l with _ | ⟨x, l⟩
    · simp
    · have := h.2 x (by simp); omega
  | n + 1, l, h => by
    by_cases hn : n ∈ l
    · have h1 : LOk n (l.erase n) := ⟨h.1.erase n, fun u hu => by
        have h2 := (h.1.mem_erase_iff).1 hu
        have := h.2 u h2.2
        have := h2.1
        omega⟩
      have := nodup_len h1
      rw [List.length_erase_of_mem hn] at this
      omega
    · have h1 : LOk n l := ⟨h.1, fun u hu => by
        have := h.2 u hu
        have : u ≠ n := fun e => hn (e ▸ hu)
        omega⟩
      have := nodup_len h1
      omega
theorem burnL_done {k : Nat} : ∀ {l : List Nat}, LOk n l → n ≤ l.length + k → ∀ u, u < n → catL es c (burnL es c n k l) u = false := by
  induction k with
  | zero =>
    intro l h hk u hu
    rw [burnL]
    by_cases hm : u ∈ l
    · simp [catL, hm]
    · have := nodup_len (h.snoc hm hu)
      simp at this
      omega
  | succ k ih =>
    intro l h hk u hu
    rw [burnL]
    rcases he : (readyL es c n l).head? with _ | v
    · exact none_ready he u hu
    · obtain ⟨h1, h2, _⟩ := head_ready he
      exact ih (h.snoc h2 h1) (by simp; omega) u hu
theorem burnL_stop (h : (readyL es c n l).head? = none) (k : Nat) : burnL es c n k l = l := by
  rcases k with _ | k
  · rfl
  · rw [burnL, h]
theorem burnL_step (h : (readyL es c n l).head? = some v) (k : Nat) : burnL es c n (k + 1) l = burnL es c n k (l ++ [v]) := by rw [burnL, h]
/-- Behind enough rounds the fire is over. -/
theorem burnL_more {k j : Nat} : ∀ {l : List Nat}, LOk n l → n ≤ l.length + k → n ≤ l.length + j → burnL es c n k l = burnL es c n j l := by
  induction k generalizing j with
  | zero =>
    intro l h hk hj
    have hnone : (readyL es c n l).head? = none := by
      rw [ready_none]
      · rfl
      · intro u hu
        have := burnL_done (es := es) (c := c) (k := 0) h hk u hu
        exact this
    rw [burnL_stop hnone, burnL_stop hnone]
  | succ k ih =>
    intro l h hk hj
    rcases he : (readyL es c n l).head? with _ | v
    · rw [burnL_stop he, burnL_stop he]
    · obtain ⟨h1, h2, _⟩ := head_ready he
      rcases j with _ | j
      · have := nodup_len (h.snoc h2 h1)
        simp at this
        omega
      · rw [burnL_step he, burnL_step he]
        exact ih (h.snoc h2 h1) (by simp; omega) (by simp; omega)
/-- A fire that burns any vertices that burn, in whatever order, burns no others; and at its end just those. -/
theorem burns_same {l' : List Nat} (hl : ∀ u ∈ l, u ∈ l') (hc : ∀ u, u < n → catL es c l' u = false) (hn : LOk n l') (he : ∀ a b, 0 ≤ btw es a b) (k : Nat) : LOk n l → ∀ u ∈ burnL es c n k l, u ∈ l' := by
  induction k generalizing l with
  | zero => intro _ u hu; exact hl u hu
  | succ k ih =>
    intro h0
    rw [burnL]
    rcases hv : (readyL es c n l).head? with _ | v
    · exact hl
    · obtain ⟨h1, h2, h3⟩ := head_ready hv
      refine ih (l := l ++ [v]) ?_ (h0.snoc h2 h1)
      intro u hu
      rcases List.mem_append.1 hu with hu | hu
      · exact hl u hu
      · simp at hu
        subst hu
        refine Classical.byContradiction fun hm => ?_
        have := hc u h1
        rw [← Bool.not_eq_true, catL_true] at this
        refine this ⟨hm, ?_⟩
        have hle : joinsN es u l ≤ joinsN es u l' := joins_mono he h0 hn hl u
        omega
end
end Go.Proofs.YtghigdcpinengaaGreat

/-! Plain laws of burning, more: what comes of the fire, and how much is left. No program is in sight. -/
namespace Go.Proofs.YtghigdcpinengaaGreat
section
variable {es : List (Int × Int × Int)} {c : List Int} {n : Nat} {l : List Nat} {v : Nat}
theorem restL_nodup (n : Nat) (l : List Nat) : (restL n l).Nodup := by unfold restL; exact List.Nodup.sublist List.filter_sublist List.nodup_range
theorem restL_snoc (n : Nat) (l : List Nat) (x : Nat) : restL n (l ++ [x]) = (restL n l).erase x := by
  rw [(restL_nodup n l).erase_eq_filter]
  unfold restL
  rw [List.filter_filter]
  apply List.filter_congr
  intro u _
  by_cases h : u = x <;> by_cases h2 : u ∈ l <;> simp [h, h2]
theorem rest_len (l : List Nat) : LOk n l → (restL n l).length + l.length = n := by
  induction l using snocRec with
  | h0 =>
    intro _
    unfold restL
    rw [List.filter_eq_self.2 (by simp)]
    simp
  | h1 l x ih =>
    intro h
    obtain ⟨h1, h2, h3⟩ := h.front
    have := ih h1
    have hm : x ∈ restL n l := mem_rest.2 ⟨h3, h2⟩
    have hp := List.length_pos_of_mem hm
    rw [restL_snoc, List.length_erase_of_mem hm, List.length_append, List.length_singleton]
    omega
theorem burnL_next (h : LOk n l) (hv : (readyL es c n l).head? = some v) : burnL es c n n l = burnL es c n n (l ++ [v]) := by
  obtain ⟨h1, h2, _⟩ := head_ready hv
  rcases n with _ | n
  · omega
  · rw [burnL_step hv, burnL_more (h.snoc h2 h1) (k := n) (j := n + 1) (by rw [List.length_append, List.length_singleton]; omega) (by rw [List.length_append, List.length_singleton]; omega)]
/-- What comes of the fire. -/
def fireS (es : List (Int × Int × Int)) (c : List Int) (n : Nat) (l : List Nat) : List Nat := (burnL es c n n l).drop l.length
theorem fireS_eq : burnL es c n n l = l ++ fireS es c n l := by
  obtain ⟨t, ht⟩ := burnL_pre (es := es) (c := c) (n := n) n l
  unfold fireS
  rw [← ht, List.drop_left]
theorem fire_pre {pre : List Nat} (h : burnL es c n n (l ++ pre) = burnL es c n n l) : pre <+: fireS es c n l := by
  have h1 := burnL_pre (es := es) (c := c) (n := n) n (l ++ pre)
  rw [h, fireS_eq] at h1
  exact (List.prefix_append_right_inj l).1 h1
theorem fire_end {pre : List Nat} (h : burnL es c n n (l ++ pre) = burnL es c n n l) (hn : ∀ u, u < n → catL es c (l ++ pre) u = false) : pre = fireS es c n l ∧ burnL es c n n l = l ++ pre := by
  have h1 : burnL es c n n (l ++ pre) = l ++ pre := burnL_stop (by rw [ready_none hn]; rfl) n
  have h2 : burnL es c n n l = l ++ pre := h.symm.trans h1
  refine ⟨?_, h2⟩
  rw [fireS_eq] at h2
  exact (List.append_cancel_left h2).symm
theorem burnL_len (h : LOk n l) : LOk n (burnL es c n n l) := burnL_ok n l h
end
theorem tt_append {n : Int} {es fs : List (Int × Int × Int)} (h : (es ++ fs).Pairwise ltE) (hok : ∀ e ∈ es, okE n e) (x w : Nat) : tt (es ++ fs) x w = tt es x w + tt fs x w := by
  unfold tt
  split
  · rfl
  · exact btw_append h (fun e he => by have := hok e he; unfold okE at this; omega) _ _
end Go.Proofs.YtghigdcpinengaaGreat

/-! Package burning: the wood, its flames, and what is not burnt. -/
namespace Go.Proofs.YtghigdcpinengaaGreat
open Go.RowKit

/-- The cells of a wood: n vertices, how often they are joined, the chips (a slice), what is burnt. -/
def wtail (ch : Value) (l : List Nat) : List Value := ch :: (List.range 12).map fun u => Value.bool (decide (u ∈ l))
def wtab (t : Nat → Nat → Int) : List Value := (List.range 144).map fun i => Value.int .i64 (t (i / 12) (i % 12))
def wcells (n : Nat) (t : Nat → Nat → Int) (ch : Value) (l : List Nat) : Array Value := (.int .i64 n :: (wtab t ++ wtail ch l)).toArray
section
variable {n : Nat} {t : Nat → Nat → Int} {ch : Value} {l : List Nat}
theorem wtab_length : (wtab t).length = 144 := by simp [wtab]
theorem wcells_n : (wcells n t ch l)[0]? = some (.int .i64 n) := by simp [wcells]
theorem wcells_tab {u v : Nat} (hu : u < 12) (hv : v < 12) : (wcells n t ch l)[1 + u * 12 + v]? = some (.int .i64 (t u v)) := by
  unfold wcells
  rw [List.getElem?_toArray, show 1 + u * 12 + v = (u * 12 + v) + 1 from by omega, List.getElem?_cons_succ, List.getElem?_append_left (by rw [wtab_length]; omega)]
  unfold wtab
  rw [List.getElem?_map, List.getElem?_range (by omega)]
  simp only [Option.map_some]
  rw [show (u * 12 + v) / 12 = u from by omega, show (u * 12 + v) % 12 = v from by omega]
theorem wcells_ch : (wcells n t ch l)[145]? = some ch := by
  unfold wcells
  rw [List.getElem?_toArray, List.getElem?_cons_succ, List.getElem?_append_right (by rw [wtab_length]; omega), wtab_length]
  rfl
theorem wcells_burnt {u : Nat} (hu : u < 12) : (wcells n t ch l)[146 + u]? = some (.bool (decide (u ∈ l))) := by
  unfold wcells
  rw [List.getElem?_toArray, show 146 + u = (145 + u) + 1 from by omega, List.getElem?_cons_succ, List.getElem?_append_right (by rw [wtab_length]; omega), wtab_length, show 145 + u - 144 = u + 1 from by omega, wtail, List.getElem?_cons_succ, List.getElem?_map, List.getElem?_range hu]
  rfl
theorem wcells_set_burnt {u : Nat} (hu : u < 12) : (wcells n t ch l).setIfInBounds (146 + u) (.bool true) = wcells n t ch (l ++ [u]) := by
  unfold wcells
  rw [List.setIfInBounds_toArray, show 146 + u = (145 + u) + 1 from by omega, List.set_cons_succ, List.set_append_right _ _ (by rw [wtab_length]; omega), wtab_length, show 145 + u - 144 = u + 1 from by omega]
  congr 3
  unfold wtail
  rw [List.set_cons_succ]
  congr 1
  apply List.ext_getElem?
  intro i
  rw [List.getElem?_set]
  by_cases hi : i < 12
  · by_cases he : u = i
    · subst he; simp [hu]
    · rw [if_neg he, List.getElem?_map, List.getElem?_map, List.getElem?_range hi]
      have : (i ∈ l ++ [u]) ↔ i ∈ l := by simp [Ne.symm he]
      simp only [Option.map_some, this]
  · rw [if_neg (by omega)]
    rw [List.getElem?_eq_none (by simp; omega), List.getElem?_eq_none (by simp; omega)]
theorem wcells_set_tab {u v : Nat} (hu : u < 12) (hv : v < 12) (x : Int) : (wcells n t ch l).setIfInBounds (1 + u * 12 + v) (.int .i64 x) = wcells n (fun a b => if a = u ∧ b = v then x else t a b) ch l := by
  unfold wcells
  rw [List.setIfInBounds_toArray, show 1 + u * 12 + v = (u * 12 + v) + 1 from by omega, List.set_cons_succ, List.set_append_left _ _ (by rw [wtab_length]; omega)]
  congr 3
  unfold wtab
  apply List.ext_getElem?
  intro i
  rw [List.getElem?_set]
  by_cases hi : i < 144
  · by_cases he : u * 12 + v = i
    · subst he
      simp only [if_true]
      rw [if_pos (by simp; omega), List.getElem?_map, List.getElem?_range hi]
      have h1 : (u * 12 + v) / 12 = u := by omega
      have h2 : (u * 12 + v) % 12 = v := by omega
      simp [h1, h2]
    · rw [if_neg he, List.getElem?_map, List.getElem?_map, List.getElem?_range hi]
      have hne : ¬ (i / 12 = u ∧ i % 12 = v) := by omega
      simp only [Option.map_some, if_neg hne]
  · rw [if_neg (by omega)]
    rw [List.getElem?_eq_none (by simp; omega), List.getElem?_eq_none (by simp; omega)]
theorem wcells_ext {t' : Nat → Nat → Int} (h : ∀ u v, u < 12 → v < 12 → t u v = t' u v) : wcells n t ch l = wcells n t' ch l := by
  unfold wcells
  congr 3
  unfold wtab
  apply List.map_congr_left
  intro i hi
  rw [List.mem_range] at hi
  rw [h _ _ (by omega) (by omega)]
end
/-- Block g is a wood. -/
def Wood (w : World) (g n : Nat) (es : List E3) (ch : Value) (l : List Nat) : Prop := Blk w g 191 (wcells n (tt es) ch l)

section
variable {w w' : World} {g n : Nat} {es : List E3} {ch : Value} {l : List Nat}
theorem Wood.n_ (h : Wood w g n es ch l) : w.cell? ⟨g, 0, none⟩ = some (.int .i64 n) := (Blk.cell h 0).trans wcells_n
theorem Wood.tab_ (h : Wood w g n es ch l) {u v : Nat} (hu : u < 12) (hv : v < 12) : w.cell? ⟨g, 1 + u * 12 + v, none⟩ = some (.int .i64 (tt es u v)) := (Blk.cell h _).trans (wcells_tab hu hv)
theorem Wood.ch_ (h : Wood w g n es ch l) : w.cell? ⟨g, 145, none⟩ = some ch := (Blk.cell h _).trans wcells_ch
theorem Wood.burnt_ (h : Wood w g n es ch l) {u : Nat} (hu : u < 12) : w.cell? ⟨g, 146 + u, none⟩ = some (.bool (decide (u ∈ l))) := (Blk.cell h _).trans (wcells_burnt hu)
theorem Wood.burn (h : Wood w g n es ch l) {u : Nat} (hu : u < 12) : Wood (w.setCell ⟨g, 146 + u, none⟩ (.bool true)) g n es ch (l ++ [u]) := by
  have := Blk.set_ h (146 + u) (.bool true)
  rwa [wcells_set_burnt hu] at this
end

set_option maxHeartbeats 2000000 in
theorem flames_any (g n : Nat) (hn : n ≤ 12) (es : List E3) (N : Int) (hok : ∀ e ∈ es, okE N e) (ch : Value) (l : List Nat) (v : Nat) (hv : v < 12) (w : World) (h : Wood w g n es ch l) :
    Calls Tryz.prog 168 #[.pointer (some ⟨g, 0, none⟩), .int .i64 v] w fun e w' => e = .returned (.int .i64 (flmTo es l v n)) ∧ w = w' := by
  have c0 := h.n_
  have HO := Lib.hid hok
  have hvi : (v : Int) < 12 := by omega
  clear hok
  go_enter Tryz.func168, Tryz.ntmps168
  go_wp2
  go_loop [5, 11] (fun s i => ∃ k : Nat, k ≤ n ∧ i = .int .i64 k ∧ s = .int .i64 (flmTo es l v k)) (fun _ i => n - (intOf i).toNat)
  case atStart => exact ⟨0, by omega, rfl, rfl⟩
  case round =>
    obtain ⟨k, hk, rfl, rfl⟩ := hrel
    by_cases hlt : k < n
    · have hi : (k : Int) < (n : Int) := by omega
      have hi2 : (k : Int) < 12 := by omega
      have cb := h.burnt_ (u := k) (by omega)
      have ct := h.tab_ (u := v) (v := k) hv (by omega)
      have hf := flmTo_bd HO.out l v k
      have ht := tt_bd HO.out v k
      have hs : flmTo es l v (k + 1) = flmTo es l v k + if k ∈ l then tt es v k else 0 := rfl
      by_cases hm : k ∈ l
      · rw [if_pos hm] at hs
        rw [decide_eq_true hm] at cb
        have HS := Lib.hid hs
        obtain ⟨x, hx⟩ : ∃ x, flmTo es l v k = x := ⟨_, rfl⟩
        obtain ⟨y, hy⟩ : ∃ y, tt es v k = y := ⟨_, rfl⟩
        rw [hx] at hf HS ⊢
        rw [hy] at ht ct HS
        clear hs hm hx hy
        go_wp2
        go_round
        case rel => exact ⟨k + 1, by omega, by go_num, by rw [HS.out]⟩
        case measure => simp [intOf]; omega
      · rw [if_neg hm] at hs
        rw [decide_eq_false hm] at cb
        have HS := Lib.hid hs
        clear hs hm
        go_wp2
        go_round
        case rel => exact ⟨k + 1, by omega, by go_num, by rw [HS.out]; simp⟩
        case measure => simp [intOf]; omega
    · obtain rfl : k = n := by omega
      go_wp2
      go_ret
      exact ⟨rfl, rfl⟩
set_option maxHeartbeats 2000000 in
theorem catches_any (g n : Nat) (hn : n ≤ 12) (es : List E3) (N : Int) (hok : ∀ e ∈ es, okE N e) (A : Option Addr) (c : Nat) (cs : List Int) (hcl : cs.length = n) (l : List Nat) (hl : LOk n l) (v : Nat) (hv : v < n) (w : World) (h : Wood w g n es (.slice A cs.length c) l) (hr : Reads w w.heap.size 1 A cs.length (ints cs)) :
    Calls Tryz.prog 156 #[.pointer (some ⟨g, 0, none⟩), .int .i64 v] w fun e w' => e = .returned (.bool (catL es cs l v)) ∧ ∃ m, w' = w.drewN m := by
  have cb := h.burnt_ (u := v) (by omega)
  have hvi : (v : Int) < 12 := by omega
  have hcat : catL es cs l v = (!decide (v ∈ l) && decide (cs.getD v 0 < joinsN es v l)) := rfl
  by_cases hm : v ∈ l
  · rw [decide_eq_true hm] at cb hcat
    have HC := Lib.hid hcat
    clear hcat hm
    go_enter Tryz.func156, Tryz.ntmps156
    go_wp2
    go_quiet (fail)
    go_wp2
    go_ret
    exact ⟨ret_bool (by rw [HC.out]; rfl), ⟨_, rfl⟩⟩
  · have hf := flm_joins l hl hm (es := es)
    have FC := Lib.hid (fun w h => flames_any g n hn es N hok (.slice A cs.length c) l v (by omega) w h)
    rw [decide_eq_false hm] at cb hcat
    rw [hf] at FC
    obtain ⟨x, hx⟩ := get_of_lt (xs := cs) (k := v) (by omega)
    rw [getD_at hx] at hcat
    obtain ⟨b, off, rfl, hb', hcell⟩ := hr.at_ (ints_at hx)
    obtain ⟨q, hq⟩ : ∃ q, joinsN es v l = q := ⟨_, rfl⟩
    rw [hq] at hcat FC
    have HC := Lib.hid hcat
    have cc := h.ch_
    have hvl : (v : Int) < (cs.length : Int) := by omega
    have H := Lib.hid h
    clear hcat hm hf hq hx hl hok hcl h
    go_enter Tryz.func156, Tryz.ntmps156
    go_wp2
    go_quiet ((go_at_call 168; exact Calls.quiet_of_same ((FC.out _ (by exact H.out)).mono fun _ _ h => ⟨h.1, h.2.symm⟩)))
    go_wp2
    go_ret
    exact ⟨ret_bool (by rw [HC.out]; simp), ⟨_, rfl⟩⟩
end Go.Proofs.YtghigdcpinengaaGreat

