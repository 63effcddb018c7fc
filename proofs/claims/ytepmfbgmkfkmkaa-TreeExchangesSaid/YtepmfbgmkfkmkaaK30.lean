/-
  Texts of this claim, put together: BurnP, RBurn, RClosed, RLess.
-/
import Derived.Test.YtepmfbgmkfkmkaaK05
import Derived.Test.YtepmfbgmkfkmkaaK25
import Derived.Test.YtepmfbgmkfkmkaaK07
import Derived.StillTailTactics
import Derived.Deep.QuietTactic
import Derived.BigQuiet
import Derived.Deep.RegionWith
import Derived.Test.YtepmfbgmkfkmkaaK28
import Derived.Test.YtepmfbgmkfkmkaaK29
import Derived.Test.YtepmfbgmkfkmkaaK27
import Derived.Test.YtepmfbgmkfkmkaaK15
import Derived.Test.YtepmfbgmkfkmkaaK03
/-! Plain laws of burning: the fire, whatever burns first, and the sets that block. No program is in sight. -/
namespace Go.Proofs.Ytepmfbgmkfkmkaa

/-- How many single edges join a vertex with those of a list. -/
def joinsN (es : List (Int × Int × Int)) (v : Nat) (l : List Nat) : Int := (l.map fun u : Nat => btw es v u).sum
/-- .. as the program counts them: over all vertices below k. -/
def flmTo (es : List (Int × Int × Int)) (l : List Nat) (v : Nat) : Nat → Int
  | 0 => 0
  | k + 1 => flmTo es l v k + if k ∈ l then tt es v k else 0
/-- Burnt vertices, each once. -/
def LOk (n : Nat) (l : List Nat) : Prop := l.Nodup ∧ ∀ u ∈ l, u < n
theorem joinsN_snoc (es : List (Int × Int × Int)) (v : Nat) (l : List Nat) (x : Nat) : joinsN es v (l ++ [x]) = joinsN es v l + btw es v x := by simp [joinsN]
theorem joinsN_nil (es : List (Int × Int × Int)) (v : Nat) : joinsN es v [] = 0 := rfl
theorem flmTo_bd {n : Int} {es : List (Int × Int × Int)} (h : ∀ e ∈ es, okE n e) (l : List Nat) (v k : Nat) : 0 ≤ flmTo es l v k ∧ flmTo es l v k ≤ 50 * k := by
  induction k with
  | zero => simp [flmTo]
  | succ k ih =>
    have := tt_bd h v k
    rw [flmTo]
    split <;> omega
theorem flmTo_snoc {es : List (Int × Int × Int)} {l : List Nat} {v x : Nat} (hx : x ∉ l) : ∀ k, flmTo es (l ++ [x]) v k = flmTo es l v k + if x < k then tt es v x else 0
  | 0 => by simp [flmTo]
  | k + 1 => by
    rw [flmTo, flmTo, flmTo_snoc hx k]
    by_cases hk : k = x
    · subst hk
      simp [hx]
    · have h1 : (k ∈ l ++ [x]) ↔ k ∈ l := by simp [hk]
      simp only [h1]
      by_cases h2 : x < k
      · have h3 : x < k + 1 := by omega
        simp only [h2, h3, if_true]; omega
      · have h3 : ¬ x < k + 1 := by omega
        simp only [h2, h3, if_false]; omega
theorem flmTo_nil (es : List (Int × Int × Int)) (v k : Nat) : flmTo es [] v k = 0 := by
  induction k with
  | zero => rfl
  | succ k ih => rw [flmTo, ih]; simp
theorem LOk.front {n : Nat} {l : List Nat} {x : Nat} (h : LOk n (l ++ [x])) : LOk n l ∧ x ∉ l ∧ x < n := by
  obtain ⟨h1, h2⟩ := h
  rw [List.nodup_append] at h1
  obtain ⟨a, b, c⟩ := h1
  exact ⟨⟨a, fun u hu => h2 u (by simp [hu])⟩, fun hx => c x hx x (by simp) rfl, h2 x (by simp)⟩
theorem LOk.snoc {n : Nat} {l : List Nat} {x : Nat} (h : LOk n l) (hx : x ∉ l) (hn : x < n) : LOk n (l ++ [x]) := by
  refine ⟨?_, ?_⟩
  · rw [List.nodup_append]
    exact ⟨h.1, by simp, fun a ha b hb e => by simp at hb; subst hb; subst e; exact hx ha⟩
  · intro u hu
    rcases List.mem_append.1 hu with hu | hu
    · exact h.2 u hu
    · simp at hu; omega
theorem snocRec {α : Type} {P : List α → Prop} (h0 : P []) (h1 : ∀ l x, P l → P (l ++ [x])) (l : List α) : P l := by
  obtain ⟨r, rfl⟩ : ∃ r, l = r.reverse := ⟨l.reverse, by simp⟩
  induction r with
  | nil => exact h0
  | cons x r ih => rw [List.reverse_cons]; exact h1 _ _ ih
theorem flm_joins {es : List (Int × Int × Int)} {n v : Nat} (l : List Nat) : LOk n l → v ∉ l → flmTo es l v n = joinsN es v l := by
  induction l using snocRec with
  | h0 => intro _ _; rw [flmTo_nil]; rfl
  | h1 l x ih =>
    intro h hv
    obtain ⟨h1, h2, h3⟩ := h.front
    rw [flmTo_snoc h2, joinsN_snoc, ih h1 (fun hc => hv (by simp [hc])), if_pos h3]
    unfold tt
    rw [if_neg (fun e => hv (by simp [e]))]

/-- More vertices, no fewer joints. -/
theorem joinsN_cons (es : List (Int × Int × Int)) (v x : Nat) (l : List Nat) : joinsN es v (x :: l) = btw es v x + joinsN es v l := by simp [joinsN]
theorem joinsN_erase (es : List (Int × Int × Int)) (v x : Nat) : ∀ {l : List Nat}, x ∈ l → joinsN es v l = btw es v x + joinsN es v (l.erase x)
  | [], h => by simp at h
  | y :: l, h => by
    by_cases hy : y = x
    · subst hy; rw [joinsN_cons, List.erase_cons_head]
    · rw [List.erase_cons_tail (by simpa using hy), joinsN_cons, joinsN_cons]
      rw [joinsN_erase es v x (l := l) (by
        rcases List.mem_cons.1 h with rfl | h
        · exact absurd rfl hy
        · exact h)]
      omega
theorem joinsN_nonneg {es : List (Int × Int × Int)} (he : ∀ a b, 0 ≤ btw es a b) (v : Nat) (l : List Nat) : 0 ≤ joinsN es v l := by
  induction l with
  | nil => exact Int.le_refl _
  | cons x l ih => rw [joinsN_cons]; have := he v x; omega
theorem joins_mono {es : List (Int × Int × Int)} {n m : Nat} (he : ∀ a b, 0 ≤ btw es a b) : ∀ {l l' : List Nat}, LOk n l → LOk m l' → (∀ u ∈ l, u ∈ l') → ∀ v, joinsN es v l ≤ joinsN es v l'
  | [], l', _, _, _, v => by rw [joinsN_nil]; exact joinsN_nonneg he v l'
  | x :: l, l', h, h', hs, v => by
    obtain ⟨h1, h2⟩ := h
    rw [List.nodup_cons] at h1
    have hx := hs x (by simp)
    rw [joinsN_cons, joinsN_erase es v x hx]
    have := joins_mono he (l := l) (l' := l'.erase x) ⟨h1.2, fun u hu => h2 u (by simp [hu])⟩ ⟨h'.1.erase x, fun u hu => h'.2 u (List.mem_of_mem_erase hu)⟩ (fun u hu => by
      rw [h'.1.mem_erase_iff]
      exact ⟨fun e => h1.1 (e ▸ hu), hs u (by simp [hu])⟩) v
    omega

/-- A vertex that is not burnt burns now. -/
def catL (es : List (Int × Int × Int)) (c : List Int) (l : List Nat) (v : Nat) : Bool := !decide (v ∈ l) && decide (c.getD v 0 < joinsN es v l)
def readyL (es : List (Int × Int × Int)) (c : List Int) (n : Nat) (l : List Nat) : List Nat := (List.range n).filter (catL es c l)
/-- The fire goes on: the least vertex that burns now, so many times. -/
def burnL (es : List (Int × Int × Int)) (c : List Int) (n : Nat) : Nat → List Nat → List Nat
  | 0, l => l
  | k + 1, l => match (readyL es c n l).head? with
    | none => l
    | some v => burnL es c n k (l ++ [v])
def burntL (es : List (Int × Int × Int)) (c : List Int) (n q : Nat) : List Nat := burnL es c n n [q]
def restL (n : Nat) (l : List Nat) : List Nat := (List.range n).filter fun v => !decide (v ∈ l)
section
variable {es : List (Int × Int × Int)} {c : List Int} {n : Nat} {l : List Nat} {v : Nat}
theorem catL_true : catL es c l v = true ↔ v ∉ l ∧ c.getD v 0 < joinsN es v l := by simp [catL]
theorem mem_ready : v ∈ readyL es c n l ↔ v < n ∧ v ∉ l ∧ c.getD v 0 < joinsN es v l := by
  unfold readyL; rw [List.mem_filter, List.mem_range, catL_true]
theorem mem_rest : v ∈ restL n l ↔ v < n ∧ v ∉ l := by
  unfold restL; rw [List.mem_filter, List.mem_range]; simp
theorem head_ready (h : (readyL es c n l).head? = some v) : v < n ∧ v ∉ l ∧ c.getD v 0 < joinsN es v l := mem_ready.1 (List.mem_of_mem_head? (by rw [h]; rfl))
theorem head_ready_min (h : (readyL es c n l).head? = some v) : ∀ u, u < v → catL es c l u = false := by
  intro u hu
  unfold readyL at h
  rw [List.head?_filter, List.find?_range_eq_some] at h
  have := h.2.2 u hu
  simpa using this
theorem head_ready_of (hn : v < n) (hv : catL es c l v = true) (hlt : ∀ u, u < v → catL es c l u = false) : (readyL es c n l).head? = some v := by
  unfold readyL
  rw [List.head?_filter, List.find?_range_eq_some]
  exact ⟨hv, by simpa using hn, fun u hu => by simp [hlt u hu]⟩
theorem ready_none (h : ∀ u, u < n → catL es c l u = false) : readyL es c n l = [] := by
  unfold readyL
  rw [List.filter_eq_nil_iff]
  intro u hu
  rw [h u (by simpa using hu)]
  simp
theorem none_ready (h : (readyL es c n l).head? = none) : ∀ u, u < n → catL es c l u = false := by
  intro u hu
  have h0 : readyL es c n l = [] := by simpa using h
  unfold readyL at h0
  rw [List.filter_eq_nil_iff] at h0
  have := h0 u (by simpa using hu)
  simpa using this
theorem burnL_ok (k : Nat) : ∀ l, LOk n l → LOk n (burnL es c n k l) := by
  induction k with
  | zero => intro l h; exact h
  | succ k ih =>
    intro l h
    rw [burnL]
    rcases he : (readyL es c n l).head? with _ | v
    · exact h
    · obtain ⟨h1, h2, _⟩ := head_ready he
      exact ih _ (h.snoc h2 h1)
theorem burnL_pre (k : Nat) : ∀ l, l <+: burnL es c n k l := by
  induction k with
  | zero => intro l; exact List.prefix_rfl
  | succ k ih =>
    intro l
    rw [burnL]
    rcases he : (readyL es c n l).head? with _ | v
    · exact List.prefix_rfl
    · exact (List.prefix_append l [v]).trans (ih _)
/-- A list of numbers below n, each once, is not longer than n. -/
theorem nodup_len : ∀ {n : Nat} {l : List Nat}, LOk n l → l.length ≤ n
  | 0, l, h => by
    rcases l with _ | ⟨x, l⟩
    · simp
    · have := h.2 x (by simp); omega
  | n + 1, l, h => by
    by_cases hn : n ∈ l
    · have h1 : LOk n (l.erase n) := ⟨h.1.erase n, fun u hu => by
        have h2 := (h.1.mem_erase_iff).1 hu
        have := h.2 u h2.2
        have := h2.1
        omega⟩
      have := nodup_len h1
      rw [List.length_erase_of_mem hn] at this
      omega
    · have h1 : LOk n l := ⟨h.1, fun u hu => by
        have := h.2 u hu
        have : u ≠ n := fun e => hn (e ▸ hu)
        omega⟩
      have := nodup_len h1
      omega
theorem burnL_done {k : Nat} : ∀ {l : List Nat}, LOk n l → n ≤ l.length + k → ∀ u, u < n → catL es c (burnL es c n k l) u = false := by
  induction k with
  | zero =>
    intro l h hk u hu
    rw [burnL]
    by_cases hm : u ∈ l
    · simp [catL, hm]
    · have := nodup_len (h.snoc hm hu)
      simp at this
      omega
  | succ k ih =>
    intro l h hk u hu
    rw [burnL]
    rcases he : (readyL es c n l).head? with _ | v
    · exact none_ready he u hu
    · obtain ⟨h1, h2, _⟩ := head_ready he
      exact ih (h.snoc h2 h1) (by simp; omega) u hu
theorem burnL_stop (h : (readyL es c n l).head? = none) (k : Nat) : burnL es c n k l = l := by
  rcases k with _ | k
  · rfl
  · rw [burnL, h]
theorem burnL_step (h : (readyL es c n l).head? = some v) (k : Nat) : burnL es c n (k + 1) l = burnL es c n k (l ++ [v]) := by rw [burnL, h]
/-- Behind enough rounds the fire is over. -/
theorem burnL_more {k j : Nat} : ∀ {l : List Nat}, LOk n l → n ≤ l.length + k → n ≤ l.length + j → burnL es c n k l = burnL es c n j l := by
  induction k generalizing j with
  | zero =>
    intro l h hk hj
    have hnone : (readyL es c n l).head? = none := by
      rw [ready_none]
      · rfl
      · intro u hu
        have := burnL_done (es := es) (c := c) (k := 0) h hk u hu
        exact this
    rw [burnL_stop hnone, burnL_stop hnone]
  | succ k ih =>
    intro l h hk hj
    rcases he : (readyL es c n l).head? with _ | v
    · rw [burnL_stop he, burnL_stop he]
    · obtain ⟨h1, h2, _⟩ := head_ready he
      rcases j with _ | j
      · have := nodup_len (h.snoc h2 h1)
        simp at this
        omega
      · rw [burnL_step he, burnL_step he]
        exact ih (h.snoc h2 h1) (by simp; omega) (by simp; omega)
/-- A fire that burns any vertices that burn, in whatever order, burns no others; and at its end just those. -/
theorem burns_same {l' : List Nat} (hl : ∀ u ∈ l, u ∈ l') (hc : ∀ u, u < n → catL es c l' u = false) (hn : LOk n l') (he : ∀ a b, 0 ≤ btw es a b) (k : Nat) : LOk n l → ∀ u ∈ burnL es c n k l, u ∈ l' := by
  induction k generalizing l with
  | zero => intro _ u hu; exact hl u hu
  | succ k ih =>
    intro h0
    rw [burnL]
    rcases hv : (readyL es c n l).head? with _ | v
    · exact hl
    · obtain ⟨h1, h2, h3⟩ := head_ready hv
      refine ih (l := l ++ [v]) ?_ (h0.snoc h2 h1)
      intro u hu
      rcases List.mem_append.1 hu with hu | hu
      · exact hl u hu
      · simp at hu
        subst hu
        refine Classical.byContradiction fun hm => ?_
        have := hc u h1
        rw [← Bool.not_eq_true, catL_true] at this
        refine this ⟨hm, ?_⟩
        have hle : joinsN es u l ≤ joinsN es u l' := joins_mono he h0 hn hl u
        omega
end
end Go.Proofs.Ytepmfbgmkfkmkaa

/-! Plain laws of burning, more: what comes of the fire, and how much is left. No program is in sight. -/
namespace Go.Proofs.Ytepmfbgmkfkmkaa
section
variable {es : List (Int × Int × Int)} {c : List Int} {n : Nat} {l : List Nat} {v : Nat}
theorem restL_nodup (n : Nat) (l : List Nat) : (restL n l).Nodup := by unfold restL; exact List.Nodup.sublist List.filter_sublist List.nodup_range
theorem restL_snoc (n : Nat) (l : List Nat) (x : Nat) : restL n (l ++ [x]) = (restL n l).erase x := by
  rw [(restL_nodup n l).erase_eq_filter]
  unfold restL
  rw [List.filter_filter]
  apply List.filter_congr
  intro u _
  by_cases h : u = x <;> by_cases h2 : u ∈ l <;> simp [h, h2]
theorem rest_len (l : List Nat) : LOk n l → (restL n l).length + l.length = n := by
  induction l using snocRec with
  | h0 =>
    intro _
    unfold restL
    rw [List.filter_eq_self.2 (by simp)]
    simp
  | h1 l x ih =>
    intro h
    obtain ⟨h1, h2, h3⟩ := h.front
    have := ih h1
    have hm : x ∈ restL n l := mem_rest.2 ⟨h3, h2⟩
    have hp := List.length_pos_of_mem hm
    rw [restL_snoc, List.length_erase_of_mem hm, List.length_append, List.length_singleton]
    omega
theorem burnL_next (h : LOk n l) (hv : (readyL es c n l).head? = some v) : burnL es c n n l = burnL es c n n (l ++ [v]) := by
  obtain ⟨h1, h2, _⟩ := head_ready hv
  rcases n with _ | n
  · omega
  · rw [burnL_step hv, burnL_more (h.snoc h2 h1) (k := n) (j := n + 1) (by rw [List.length_append, List.length_singleton]; omega) (by rw [List.length_append, List.length_singleton]; omega)]
/-- What comes of the fire. -/
def fireS (es : List (Int × Int × Int)) (c : List Int) (n : Nat) (l : List Nat) : List Nat := (burnL es c n n l).drop l.length
theorem fireS_eq : burnL es c n n l = l ++ fireS es c n l := by
  obtain ⟨t, ht⟩ := burnL_pre (es := es) (c := c) (n := n) n l
  unfold fireS
  rw [← ht, List.drop_left]
theorem fire_pre {pre : List Nat} (h : burnL es c n n (l ++ pre) = burnL es c n n l) : pre <+: fireS es c n l := by
  have h1 := burnL_pre (es := es) (c := c) (n := n) n (l ++ pre)
  rw [h, fireS_eq] at h1
  exact (List.prefix_append_right_inj l).1 h1
theorem fire_end {pre : List Nat} (h : burnL es c n n (l ++ pre) = burnL es c n n l) (hn : ∀ u, u < n → catL es c (l ++ pre) u = false) : pre = fireS es c n l ∧ burnL es c n n l = l ++ pre := by
  have h1 : burnL es c n n (l ++ pre) = l ++ pre := burnL_stop (by rw [ready_none hn]; rfl) n
  have h2 : burnL es c n n l = l ++ pre := h.symm.trans h1
  refine ⟨?_, h2⟩
  rw [fireS_eq] at h2
  exact (List.append_cancel_left h2).symm
theorem burnL_len (h : LOk n l) : LOk n (burnL es c n n l) := burnL_ok n l h
end
theorem tt_append {n : Int} {es fs : List (Int × Int × Int)} (h : (es ++ fs).Pairwise ltE) (hok : ∀ e ∈ es, okE n e) (x w : Nat) : tt (es ++ fs) x w = tt es x w + tt fs x w := by
  unfold tt
  split
  · rfl
  · exact btw_append h (fun e he => by have := hok e he; unfold okE at this; omega) _ _
theorem fewer_burn {n q : Nat} {es : List (Int × Int × Int)} (he : ∀ a b, 0 ≤ btw es a b) (hq : q < n) {cs ds : List Int} (h : ∀ v, v < n → ds.getD v 0 ≤ cs.getD v 0) : ∀ v, v ∈ burntL es cs n q → v ∈ burntL es ds n q := by
  have hl : LOk n [q] := ⟨by simp, by simpa using hq⟩
  have hdone := burnL_done (es := es) (c := ds) (n := n) (k := n) (l := [q]) hl (by simp)
  refine burns_same (es := es) (c := cs) (n := n) (l := [q]) (l' := burntL es ds n q) (fun u hu => (burnL_pre n [q]).subset hu) (fun u hu => ?_) (burnL_ok n _ hl) he n hl
  have h1 := hdone u hu
  change catL es ds (burntL es ds n q) u = false at h1
  rw [← Bool.not_eq_true, catL_true] at h1 ⊢
  rintro ⟨h2, h3⟩
  have := h u hu
  exact h1 ⟨h2, by omega⟩
end Go.Proofs.Ytepmfbgmkfkmkaa

/-! The reference's fire: ref08.Holds, ref23.Joins, ref23.ready, ref23.Burnt, ref23.Unburnt. -/
namespace Go.Proofs.Ytepmfbgmkfkmkaa
open Go.RowKit

def natsI (l : List Nat) : List Int := l.map fun u : Nat => (u : Int)
theorem natsI_at {l : List Nat} {k x : Nat} (h : l[k]? = some x) : (natsI l)[k]? = some (x : Int) := by simp [natsI, h]
theorem natsI_length (l : List Nat) : (natsI l).length = l.length := by simp [natsI]
theorem natsI_snoc (l : List Nat) (x : Nat) : natsI (l ++ [x]) = natsI l ++ [(x : Int)] := by simp [natsI]
theorem natsI_mem {l : List Nat} {v : Nat} : ((v : Int) ∈ natsI l) ↔ v ∈ l := by
  unfold natsI; rw [List.mem_map]
  constructor
  · rintro ⟨u, hu, e⟩; have : u = v := by omega
    exact this ▸ hu
  · intro h; exact ⟨v, h, rfl⟩

set_option maxHeartbeats 1000000 in
theorem holds_any (A : Option Addr) (c : Nat) (xs : List Int) (hn : xs.length ≤ 1048576) (v : Int) (w : World) (h : Reads w w.heap.size 1 A xs.length (ints xs)) :
    Calls Try.prog 57 #[.slice A xs.length c, .int .i64 v] w fun e w' => e = .returned (.bool (decide (v ∈ xs))) ∧ w = w' := by
  obtain ⟨r, hr⟩ : ∃ r, decide (v ∈ xs) = r := ⟨_, rfl⟩
  rw [hr]
  have HR := Lib.hid hr
  clear hr
  go_enter Try.func57, Try.ntmps57
  go_wp2
  go_loop [5] (fun i => ∃ k : Nat, k ≤ xs.length ∧ i = .int .i64 k ∧ Hid (v ∉ xs.take k)) (fun i => xs.length - (intOf i).toNat)
  case atStart => exact ⟨0, by omega, rfl, by simp [Hid]⟩
  case round =>
    obtain ⟨k, hk, rfl, HS⟩ := hrel
    by_cases hlt : k < xs.length
    · obtain ⟨x, hx⟩ := get_of_lt hlt
      obtain ⟨b, off, rfl, hb, hcell⟩ := h.at_ (ints_at hx)
      have hi : (k : Int) < (xs.length : Int) := by omega
      have htk := take_snoc hx
      by_cases hv : x = v
      · have e : (x == v) = true := by simpa using hv
        have HT : Hid (decide (v ∈ xs) = true) := by
          rw [Hid, decide_eq_true_eq, ← hv]; exact List.mem_of_getElem? hx
        clear hx htk hv
        go_wp2
        go_ret
        exact ⟨ret_bool (by rw [← HR.out, HT.out]), rfl⟩
      · have e : (x == v) = false := by simpa using hv
        have HN : Hid (v ∉ xs.take (k + 1)) := by
          rw [htk, Hid, List.mem_append]
          rintro (hc | hc)
          · exact HS.out hc
          · exact hv (List.mem_singleton.1 hc).symm
        clear hx htk hv
        go_wp2
        go_round
        case rel => exact ⟨k + 1, by omega, by go_num, HN⟩
        case measure => simp [intOf]; omega
    · obtain rfl : k = xs.length := by omega
      rw [List.take_length] at HS
      go_wp2
      go_ret
      refine ⟨ret_bool ?_, rfl⟩
      rw [← HR.out, decide_eq_false HS.out]

end Go.Proofs.Ytepmfbgmkfkmkaa

/-! ref13.Closed, Cycle. -/
namespace Go.Proofs.Ytepmfbgmkfkmkaa
open Go.RowKit

set_option maxRecDepth 100000 in
set_option maxHeartbeats 4000000 in
theorem rclosed_any (m : Nat) (A : Option Addr) (c : Nat) (es : List E3) (hn : es.length ≤ 40) (B : Option Addr) (d : Nat) (t : List Nat) (hR : TreeR m es t) (x p q : Nat) (hab : (endsL es)[x]? = some (p, q)) (w : World) (h : Reads w w.heap.size 3 A es.length (edgeCells es)) (h' : Reads w w.heap.size 1 B t.length (ints (nI t))) :
    Calls Try.prog 58 #[.agg #[.int .i64 m, .slice A es.length c], .slice B t.length d, .int .i64 x] w fun e w' => ∃ A' c', e = .returned (.slice A' (sortG ltI (nI (pathL (endsL es) t p q) ++ [(x : Int)])).length c') ∧ OwnI w' w.heap.size A' c' (sortG ltI (nI (pathL (endsL es) t p q) ++ [(x : Int)])) ∧ Below w.heap.size w w' := by
  obtain ⟨hp, hq⟩ := bd_ends hR.hG _ (List.mem_of_getElem? hab)
  dsimp only at hp hq
  have EC := Lib.hid (fun (W : World) (hB : Below w.heap.size w W) => rendsC_any m A c es hn m hR.hG.ok W ((h.below hB).more hB.size))
  have PC := Lib.hid (fun (W : World) (hB : Below w.heap.size w W) => rpath_any m A c es hn B d t hR p q hp hq W ((h.below hB).more hB.size) ((h'.below hB).more hB.size))
  have HPL : Hid ((pathL (endsL es) t p q).length ≤ 12) := by have := path_len hR.hT (hR.cn hp hq); have := hR.len; unfold Hid; omega
  have g0 := Blk.new w 24 #[.int .i64 m, .slice A es.length c]
  have hB := (Below.refl w.heap.size w).alloc (Nat.le_refl _) (.cells #[.int .i64 m, .slice A es.length c] 24)
  have k0 := g0.cell 0
  have k1 := g0.cell 1
  obtain ⟨E, hE⟩ : ∃ E, endsL es = E := ⟨_, rfl⟩
  rw [hE] at EC PC HPL hab ⊢
  obtain ⟨P, hP⟩ : ∃ P, pathL E t p q = P := ⟨_, rfl⟩
  rw [hP] at PC HPL ⊢
  have hxl : x < E.length := (List.getElem?_eq_some_iff.1 hab).1
  have hxi : (x : Int) < (E.length : Int) := by omega
  have hx0 : (0 : Int) ≤ (x : Int) := by omega
  have HAB := Lib.hid hab
  clear hE hR hP hab
  go_enter Try.func58, Try.ntmps58
  go_wp2_with fail
  refine (EC.out _ hB).mono ?_
  rintro e w1 ⟨AE, cE, rfl, oE, hbE⟩
  have g1 := g0.next hbE
  have hB := hB.trans (hbE.mono hB.size)
  have k0 := g1.cell 0
  have k1 := g1.cell 1
  have RE := OwnQ.reads oE
  obtain ⟨bE, oE', hAE, hbE', q0, q1⟩ := RE.pairAt HAB.out
  subst hAE
  clear oE hbE RE
  have g2 := g1.alloc (.cells #[.int .i64 p, .int .i64 q] 31)
  have gp := Blk.new w1 31 #[.int .i64 p, .int .i64 q]
  have hB := hB.alloc hB.size (.cells #[.int .i64 p, .int .i64 q] 31)
  have k0 := g2.cell 0
  have k1 := g2.cell 1
  have p0 := gp.cell 0
  have p1 := gp.cell 1
  have hPl := HPL.out
  have hRl : (nI P).length = P.length := nI_length P
  have SC : Hid (∀ (A' : Option Addr) (c' : Nat) (W : World), Reads W W.heap.size 1 A' (P.length + 1) (ints (nI P ++ [(x : Int)])) → Calls Try.prog 65 #[.slice A' (P.length + 1) c'] W fun e w' => ∃ A2 c2, e = .returned (.slice A2 (P.length + 1) c2) ∧ OwnI w' W.heap.size A2 c2 (sortG ltI (nI P ++ [(x : Int)])) ∧ Below W.heap.size W w') := by
    intro A' c' W hO
    have h1 : (nI P ++ [(x : Int)]).length = P.length + 1 := by simp [nI_length]
    have := rsorted_any A' c' (nI P ++ [(x : Int)]) (by omega) W (by rw [h1]; exact hO)
    rw [h1] at this
    exact this
  have hSl : Hid ((sortG ltI (nI P ++ [(x : Int)])).length = P.length + 1) := by
    unfold Hid
    rw [(sortG_perm _).length_eq]; simp [nI_length]
  have HRl := Lib.hid hRl
  clear hRl hPl
  go_wp2_with fail
  have hzB := hB.size
  refine (PC.out _ hB).mono ?_
  rintro e w3 ⟨A3, c3, rfl, o3, hb3⟩
  have hB := Lib.hid (hB.trans (hb3.mono hB.size))
  have hz3 := hB.out.size
  have o3 := own_len (o3.mono hzB) HRl.out
  have hPl : P.length ≤ 12 := HPL.out
  clear hb3 hzB
  go_wp2_with (first | (at_builtin; refine append_go rfl (.tmp 19) (.tmp 21) _ rfl w.heap.size 3 Try.underlying25 info_int rfl (by omega) A3 c3 P.length (ints (nI P)) rfl (World.ownsRow.alloc o3 _) (w3.heap.size + 1) [.int .i64 (x : Int)] rfl (Reads.box1 w3 _ _) (by simp [Value.oneCell']) (by omega) (by simp; omega) ?_; intro A5 c5 w5 hown5 _ hb5 _) | fail)
  have hB5 := (hB.out.alloc hz3 (.cells #[.int .i64 (x : Int)] 3)).trans hb5
  have r5 : Reads w5 w5.heap.size 1 A5 (P.length + 1) (ints (nI P ++ [(x : Int)])) := by rw [ints_snoc]; exact Reads.of_own hown5
  refine (SC.out _ _ _ r5).mono ?_
  rintro e w6 ⟨A6, c6, rfl, o6, hb6⟩
  have HB6 := Lib.hid (hB5.trans (hb6.mono hB5.size))
  have O6 := Lib.hid (o6.mono hB5.size)
  clear hB5 hb5 hb6 o6 r5 hown5
  go_wp2
  go_ret
  exact ⟨A6, c6, by rw [hSl.out]; rfl, O6.out, HB6.out⟩

theorem sing_zero {n : Int} {es : List E3} {xs : List Int} {x : Int} (h : singErr n es xs x = 0) : treeErr n es xs = 0 ∧ 0 ≤ x ∧ x < ((endsL es).length : Int) := by
  unfold singErr at h
  by_cases hj : treeErr n es xs = 0
  · rw [if_neg (fun hc => hc hj)] at h
    by_cases hr : x < 0 ∨ ((endsL es).length : Int) ≤ x
    · rw [if_pos hr] at h; cases h
    · exact ⟨hj, by omega, by omega⟩
  · rw [if_pos hj] at h; exact absurd h hj
theorem tcycle_all (n : Int) (A : Option Addr) (c : Nat) (es : List E3) (hn : es.length ≤ 10000) (B : Option Addr) (d : Nat) (xs : List Int) (hm : xs.length ≤ 1048576) (x : Int) (w : World) (h : Reads w w.heap.size 3 A es.length (edgeCells es)) (h' : Reads w w.heap.size 1 B xs.length (ints xs)) :
    Calls Try.prog 22 #[.agg #[.int .i64 n, .slice A es.length c], .slice B xs.length d, .int .i64 x] w fun e w' => ∃ A' c', e = .returned (.tuple #[.slice A' (cycleE n es xs x).1.length c', .int .i64 (cycleE n es xs x).2]) ∧ OwnI w' w.heap.size A' c' (cycleE n es xs x).1 ∧ Below w.heap.size w w' := by
  by_cases hj : treeErr n es xs = 0
  · refine tcycle_any n A c es hn B d xs ?_ x w h h'
    obtain ⟨m, t, _, rfl, hR⟩ := treeR_of hj
    have := hR.tr.len; have := hR.hi; rw [nI_length]; omega
  · exact tcycle_err n A c es hn B d xs hm x w h h' hj

set_option maxRecDepth 100000 in
set_option maxHeartbeats 4000000 in
theorem rcycle_any (n : Int) (A : Option Addr) (c : Nat) (es : List E3) (hn : es.length ≤ 40) (B : Option Addr) (d : Nat) (xs : List Int) (hm : xs.length ≤ 1048576) (x : Int) (w : World) (h : Reads w w.heap.size 3 A es.length (edgeCells es)) (h' : Reads w w.heap.size 1 B xs.length (ints xs)) :
    Calls Try.prog 23 #[.agg #[.int .i64 n, .slice A es.length c], .slice B xs.length d, .int .i64 x] w fun e w' => ∃ A' c', e = .returned (.tuple #[.slice A' (cycleE n es xs x).1.length c', .int .i64 (cycleE n es xs x).2]) ∧ OwnI w' w.heap.size A' c' (cycleE n es xs x).1 ∧ Below w.heap.size w w' := by
  have SG := Lib.hid (fun (W : World) (hB : Below w.heap.size w W) => single_any n A c es hn B d xs hm x W ((h.below hB).more hB.size) ((h'.below hB).more hB.size))
  have HC := Lib.hid (fun (W : World) (hB : Below w.heap.size w W) => holds_any B d xs hm x W ((h'.below hB).more hB.size))
  have g0 := Blk.new w 24 #[.int .i64 n, .slice A es.length c]
  have hB := (Below.refl w.heap.size w).alloc (Nat.le_refl _) (.cells #[.int .i64 n, .slice A es.length c] 24)
  have k0 := g0.cell 0
  have k1 := g0.cell 1
  by_cases hs : singErr n es xs x = 0
  · obtain ⟨hj, h0, h1⟩ := sing_zero hs
    rw [hs] at SG
    by_cases hi : x ∈ xs
    · have HE : Hid (cycleE n es xs x = ([], 15)) := by unfold Hid cycleE; rw [if_neg (fun hc => hc hj), if_neg (by omega), if_pos hi]
      rw [HE.out]
      rw [decide_eq_true hi] at HC
      clear hi HE hj hs
      go_enter Try.func23, Try.ntmps23
      go_wp2_with fail
      refine (SG.out _ hB).mono ?_
      rintro e w1 ⟨rfl, hb1⟩
      have hB := hB.trans (hb1.mono hB.size)
      go_wp2_with fail
      refine (HC.out _ hB).mono ?_
      rintro e w2 ⟨rfl, rfl⟩
      go_wp2
      go_ret2
      exact ⟨none, 0, rfl, OwnI.nil_ _ _, hB⟩
    · obtain ⟨m, t, rfl, hxt, hR⟩ := treeR_of hj
      obtain ⟨k, rfl⟩ := Int.eq_ofNat_of_zero_le h0
      have hkl : k < (endsL es).length := by omega
      obtain ⟨⟨p, q⟩, hab⟩ := get_of_lt hkl
      have HE : Hid (cycleE m es xs k = (sortG ltI (nI (pathL (endsL es) t p q) ++ [(k : Int)]), 0)) := by
        unfold Hid cycleE
        rw [if_neg (fun hc => hc hj), if_neg (by omega), if_neg hi, Int.toNat_natCast, hab, hxt, toN_nI]
      rw [HE.out]
      have CC : Hid (∀ (W : World) (hB : Below w.heap.size w W), Calls Try.prog 58 #[.agg #[.int .i64 m, .slice A es.length c], .slice B xs.length d, .int .i64 k] W fun e w' => ∃ A' c', e = .returned (.slice A' (sortG ltI (nI (pathL (endsL es) t p q) ++ [(k : Int)])).length c') ∧ OwnI w' W.heap.size A' c' (sortG ltI (nI (pathL (endsL es) t p q) ++ [(k : Int)])) ∧ Below W.heap.size W w') := by
        intro W hB
        have h'2 := (h'.below hB).more hB.size
        have hl : xs.length = t.length := by rw [hxt, nI_length]
        rw [hxt, nI_length] at h'2
        rw [hl]
        exact rclosed_any m A c es hn B d t hR k p q hab W ((h.below hB).more hB.size) h'2
      rw [decide_eq_false hi] at HC
      obtain ⟨Z, hZ⟩ : ∃ Z, sortG ltI (nI (pathL (endsL es) t p q) ++ [(k : Int)]) = Z := ⟨_, rfl⟩
      rw [hZ] at CC ⊢
      clear hi HE hj hs hxt hR hab hkl h0 h1 hZ
      go_enter Try.func23, Try.ntmps23
      go_wp2_with fail
      refine (SG.out _ hB).mono ?_
      rintro e w1 ⟨rfl, hb1⟩
      have g1 := g0.next hb1
      have hB := hB.trans (hb1.mono hB.size)
      have k0 := g1.cell 0
      have k1 := g1.cell 1
      go_wp2_with fail
      refine (HC.out _ hB).mono ?_
      rintro e w2 ⟨rfl, rfl⟩
      go_wp2_with fail
      refine (CC.out _ hB).mono ?_
      rintro e w3 ⟨A3, c3, rfl, o3, hb3⟩
      go_wp2
      go_ret2
      exact ⟨A3, c3, rfl, o3.mono hB.size, hB.trans (hb3.mono hB.size)⟩
  · have HE : Hid (cycleE n es xs x = ([], singErr n es xs x)) := by
      unfold Hid cycleE singErr
      unfold singErr at hs
      by_cases hj : treeErr n es xs = 0
      · have hr : x < 0 ∨ ((endsL es).length : Int) ≤ x := Classical.byContradiction fun hr => hs (by rw [if_neg (fun hc => hc hj), if_neg hr])
        rw [if_neg (fun hc => hc hj), if_pos hr, if_neg (fun hc => hc hj), if_pos hr]
      · rw [if_pos hj, if_pos hj]
    rw [HE.out]
    obtain ⟨z, hz⟩ : ∃ z, singErr n es xs x = z := ⟨_, rfl⟩
    rw [hz] at SG hs ⊢
    have hz2 : (z != 0) = true := by simpa using hs
    clear hs hz HE HC
    go_enter Try.func23, Try.ntmps23
    go_wp2_with fail
    refine (SG.out _ hB).mono ?_
    rintro e w1 ⟨rfl, hb1⟩
    go_wp2
    go_ret2
    exact ⟨none, 0, rfl, OwnI.nil_ _ _, hB.trans (hb1.mono hB.size)⟩
end Go.Proofs.Ytepmfbgmkfkmkaa

/-! ref10.Less: a list without a number. -/
namespace Go.Proofs.Ytepmfbgmkfkmkaa
open Go.RowKit

set_option maxHeartbeats 1000000 in
theorem rless_any (A : Option Addr) (c : Nat) (xs : List Int) (hn : xs.length ≤ 1048000) (v : Int) (w : World) (h : Reads w w.heap.size 1 A xs.length (ints xs)) :
    Calls Try.prog 46 #[.slice A xs.length c, .int .i64 v] w fun en w' => ∃ A' c', en = .returned (.slice A' (xs.filter fun x => !decide (x = v)).length c') ∧ OwnI w' w.heap.size A' c' (xs.filter fun x => !decide (x = v)) ∧ Below w.heap.size w w' := by
  have hA0 : Hid (OwnI w w.heap.size none 0 ((xs.take 0).filter fun x => !decide (x = v))) := OwnI.nil_ _ _
  have HFL : Hid (∀ k, ((xs.take k).filter fun x => !decide (x = v)).length ≤ 1048000) := fun k => Nat.le_trans (List.length_filter_le _ _) (Nat.le_trans (by rw [List.length_take]; omega) hn)
  go_enter Try.func46, Try.ntmps46
  go_wp2_with fail
  go_loopw [5, 6] (fun o i wr => ∃ (k : Nat) (Ao : Option Addr) (co : Nat), k ≤ xs.length ∧ i = .int .i64 k ∧ o = .slice Ao ((xs.take k).filter fun x => !decide (x = v)).length co ∧ Hid (OwnI wr w.heap.size Ao co ((xs.take k).filter fun x => !decide (x = v))) ∧ Hid (Below w.heap.size w wr)) (fun _ i _ => xs.length - (intOf i).toNat)
  case atStart => exact ⟨0, none, 0, by omega, rfl, rfl, hA0, Below.refl _ _⟩
  case round =>
    obtain ⟨k, Ao, co, hk, rfl, rfl, HO, HW⟩ := hrel
    have hwz := HW.out.size
    by_cases hlt : k < xs.length
    · obtain ⟨x, hx⟩ := get_of_lt hlt
      obtain ⟨b, off, hA, hb, hcell⟩ := (h.below HW.out).at_ (ints_at hx)
      subst hA
      have hi : (k : Int) < (xs.length : Int) := by omega
      have ht := take_snoc hx
      have hf : (xs.take (k + 1)).filter (fun x => !decide (x = v)) = if x = v then (xs.take k).filter (fun x => !decide (x = v)) else (xs.take k).filter (fun x => !decide (x = v)) ++ [x] := by
        rw [ht, List.filter_append]
        by_cases hv : x = v
        · rw [if_pos hv, List.filter_cons]; simp [hv]
        · rw [if_neg hv, List.filter_cons]; simp [hv]
      have HFk := HFL.out k
      obtain ⟨L, hL⟩ : ∃ L, (xs.take k).filter (fun x => !decide (x = v)) = L := ⟨_, rfl⟩
      rw [hL] at HO hf HFk ⊢
      have HF := Lib.hid hf
      have HXL : Hid (xs.length ≤ 1048000) := hn
      clear hx ht hf hL
      by_cases hv : x = v
      · have hq : (x != v) = false := by simp [hv]
        have hF := Lib.hid (HF.out.trans (if_pos hv))
        clear hv
        go_wp2
        go_roundw
        case rel => exact ⟨k + 1, Ao, co, by omega, by have := HXL.out; go_num, by rw [hF.out], by rw [Hid, hF.out]; exact HO.out, HW.out⟩
        case measure => have := HXL.out; simp [intOf]; omega
      · have hq : (x != v) = true := by simpa using hv
        have hF := Lib.hid (HF.out.trans (if_neg hv))
        clear hv
        go_wp2_with (at_builtin; refine push_int rfl (.tmp 19) (.tmp 24) _ rfl Try.underlying25 w.heap.size Ao co L x rfl HO.out rfl rfl HFk hwz ?_; intro A5 c5 w5 hown5 _ hb5)
        go_roundw
        case rel => exact ⟨k + 1, A5, c5, by omega, by have := HXL.out; go_num, by rw [hF.out, List.length_append]; rfl, by rw [Hid, hF.out]; exact hown5, HW.out.trans hb5⟩
        case measure => have := HXL.out; simp [intOf]; omega
    · obtain rfl : k = xs.length := by omega
      rw [List.take_length] at HO ⊢
      go_wp2
      go_ret
      exact ⟨Ao, co, rfl, HO.out, HW.out⟩
end Go.Proofs.Ytepmfbgmkfkmkaa

