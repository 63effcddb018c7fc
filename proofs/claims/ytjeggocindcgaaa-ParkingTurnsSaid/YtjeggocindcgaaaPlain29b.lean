/-
  The plain law of the circle: parking on a circle turns with the list; the place that remains free is the last one exactly if the list is a parking function.
-/
import Derived.Test.YtjeggocindcgaaaPlain29
import Derived.Test.YtjeggocindcgaaaPark3
namespace Go.Proofs.Ytjeggocindcgaaa
open Go.RowKit

/-- A step on the circle: the first free place from x on, in the circle's order; or none is free. -/
def CStep (N : Nat) (s : List Bool) (x : Nat) (s' : List Bool) : Prop :=
  (∃ d, d < N ∧ s[(x + d) % N]? = some false ∧ (∀ e, e < d → s[(x + e) % N]? = some true) ∧ s' = s.set ((x + d) % N) true) ∨ ((∀ j, j < N → s[j]? = some true) ∧ s' = s)
theorem circStep_is {N : Nat} {s : List Bool} (hs : N ≤ s.length) {x : Nat} (hx : x < N) : CStep N s x (circStep N s x) := by
  unfold circStep
  have hxx : (x : Int).toNat = x := by simp
  rw [hxx]
  rcases hk : spot s N x with _ | k
  · have hn := spot_none hs hk
    rcases h0 : spot s N 0 with _ | k
    · exact .inr ⟨fun j hj => spot_none hs h0 j (Nat.zero_le _) hj, rfl⟩
    · obtain ⟨_, h2, h3, h4⟩ := spot_some hs h0
      have hkx : k < x := by
        rcases Nat.lt_or_ge k x with h | h
        · exact h
        · have := hn k h h2; rw [this] at h3; cases h3
      have e : (x + (N - x + k)) % N = k := by rw [show x + (N - x + k) = k + N from by omega, Nat.add_mod_right, Nat.mod_eq_of_lt h2]
      refine .inl ⟨N - x + k, by omega, by rw [e]; exact h3, fun j hj => ?_, by rw [e]⟩
      by_cases hjx : x + j < N
      · rw [Nat.mod_eq_of_lt hjx]; exact hn _ (by omega) hjx
      · rw [show x + j = (x + j - N) + N from by omega, Nat.add_mod_right, Nat.mod_eq_of_lt (by omega)]
        exact h4 _ (Nat.zero_le _) (by omega)
  · obtain ⟨h1, h2, h3, h4⟩ := spot_some hs hk
    have e : (x + (k - x)) % N = k := by rw [show x + (k - x) = k from by omega, Nat.mod_eq_of_lt h2]
    refine .inl ⟨k - x, by omega, by rw [e]; exact h3, fun j hj => ?_, by rw [e]⟩
    rw [Nat.mod_eq_of_lt (by omega)]
    exact h4 _ (by omega) (by omega)

/-- The second street is the first one turned by t. -/
def Turned (N t : Nat) (s s' : List Bool) : Prop := ∀ j, j < N → s'[(j + t) % N]? = s[j]?
theorem mod_swap (x d t N : Nat) : ((x + t) % N + d) % N = ((x + d) % N + t) % N := by
  rw [Nat.mod_add_mod, Nat.mod_add_mod]; congr 1; omega
theorem mod_cancel {N a b t : Nat} (hN : 0 < N) (ha : a < N) (hb : b < N) (h : (a + t) % N = (b + t) % N) : a = b := by
  have h2 := congrArg (fun z => (z + (N - t % N)) % N) h
  simp only [Nat.mod_add_mod] at h2
  have ht : t = N * (t / N) + t % N := (Nat.div_add_mod t N).symm
  have h3 : ∀ q, q < N → (q + t + (N - t % N)) % N = q := fun q hq => by
    have hm := Nat.mod_lt t hN
    rw [show q + t + (N - t % N) = q + N * (t / N + 1) from by rw [Nat.mul_add]; omega, Nat.add_mul_mod_self_left, Nat.mod_eq_of_lt hq]
  rw [h3 _ ha, h3 _ hb] at h2
  exact h2
theorem Turned.step {N t : Nat} {s s' : List Bool} (h : Turned N t s s') (hs : N ≤ s.length) (hs' : N ≤ s'.length) {x : Nat} (hx : x < N) :
    Turned N t (circStep N s (x : Int)) (circStep N s' (((x + t) % N : Nat) : Int)) := by
  have hN : 0 < N := by omega
  have key : ∀ d, s'[((x + t) % N + d) % N]? = s[(x + d) % N]? := fun d => by rw [mod_swap]; exact h _ (Nat.mod_lt _ hN)
  have c1 := circStep_is hs hx
  have c2 := circStep_is hs' (Nat.mod_lt (x + t) hN)
  generalize circStep N s (x : Int) = u at *
  generalize circStep N s' (((x + t) % N : Nat) : Int) = u' at *
  rcases c1 with ⟨d, d1, d2, d3, rfl⟩ | ⟨a1, rfl⟩
  · rcases c2 with ⟨d', d1', d2', d3', rfl⟩ | ⟨a1', rfl⟩
    · have hdd : d = d' := by
        rcases Nat.lt_trichotomy d d' with hlt | e | hgt
        · have := d3' d hlt; rw [key, d2] at this; cases this
        · exact e
        · have := d3 d' hgt; rw [← key, d2'] at this; cases this
      subst hdd
      intro j hj
      rw [mod_swap]
      by_cases e : (x + d) % N = j
      · subst e
        rw [List.getElem?_set_self (by have := Nat.mod_lt ((x + d) % N + t) hN; omega), List.getElem?_set_self (by omega)]
      · have hne : ((x + d) % N + t) % N ≠ (j + t) % N := by
          intro hh
          exact e (mod_cancel hN (Nat.mod_lt _ hN) hj hh)
        rw [List.getElem?_set_ne hne, List.getElem?_set_ne e]
        exact h j hj
    · have := a1' _ (Nat.mod_lt (((x + t) % N) + d) hN)
      rw [key, d2] at this; cases this
  · rcases c2 with ⟨d', d1', d2', d3', rfl⟩ | ⟨a1', rfl⟩
    · have := a1 _ (Nat.mod_lt (x + d') hN)
      rw [← key, d2'] at this; cases this
    · exact h

theorem turned_fold {N t : Nat} : ∀ (xs : List Nat) (s s' : List Bool), N ≤ s.length → N ≤ s'.length → (∀ x ∈ xs, x < N) → Turned N t s s' →
    Turned N t ((xs.map Int.ofNat).foldl (circStep N) s) ((xs.map fun x => (((x + t) % N : Nat) : Int)).foldl (circStep N) s') := by
  intro xs
  induction xs with
  | nil => intro s s' _ _ _ h; exact h
  | cons x xs ih =>
    intro s s' h1 h2 h3 h
    exact ih _ _ (by rw [circStep_length]; exact h1) (by rw [circStep_length]; exact h2) (fun y hy => h3 y (by simp [hy])) (h.step h1 h2 (h3 x (by simp)))

/-- How many places are taken behind the cars. -/
theorem occ_circStep {N : Nat} {s : List Bool} (hs : N ≤ s.length) {x : Nat} (hx : x < N) (hlt : occ s N < N) : occ (circStep N s (x : Int)) N = occ s N + 1 := by
  rcases circStep_is hs hx with ⟨d, _, d2, _, h⟩ | ⟨a1, _⟩
  · rw [h, occ_set d2, if_pos (Nat.mod_lt _ (by omega))]
  · have := occ_full (s := s) N (Nat.zero_le N) (fun j _ hj => a1 j hj)
    simp [occ] at this
    omega
theorem occ_fold {N : Nat} : ∀ (xs : List Nat) (s : List Bool), N ≤ s.length → (∀ x ∈ xs, x < N) → occ s N + xs.length ≤ N → occ ((xs.map Int.ofNat).foldl (circStep N) s) N = occ s N + xs.length := by
  intro xs
  induction xs with
  | nil => intro s _ _ _; rfl
  | cons x xs ih =>
    intro s h1 h2 h3
    simp only [List.length_cons] at h3
    have h4 := occ_circStep h1 (h2 x (by simp)) (by omega)
    have := ih (circStep N s (x : Int)) (by rw [circStep_length]; exact h1) (fun y hy => h2 y (by simp [hy])) (by omega)
    simp only [List.map_cons, List.foldl_cons, List.length_cons]
    rw [show Int.ofNat x = (x : Int) from rfl, this, h4]; omega
theorem fold_length (N : Nat) (xs : List Int) (s : List Bool) : (xs.foldl (circStep N) s).length = s.length := by
  induction xs generalizing s with
  | nil => rfl
  | cons x xs ih => rw [List.foldl_cons, ih, circStep_length]
/-- Where one place alone is free, it is the one. -/
theorem free_unique {s : List Bool} {N a b : Nat} (ho : occ s N + 1 = N) (ha : a < N) (hb : b < N) (h1 : s[a]? = some false) (h2 : s[b]? = some false) : a = b := by
  rcases Nat.lt_trichotomy a b with h | h | h
  · exfalso
    have e1 := occ_le s (a := b + 1) N (by omega)
    have e2 : occ s (b + 1) = occ s b := by simp [occ, h2]
    have e3 := occ_le s (a := a + 1) b (by omega)
    have e4 : occ s (a + 1) = occ s a := by simp [occ, h1]
    have e5 := occ_le s (a := 0) a (by omega)
    simp [occ] at e5
    omega
  · exact h
  · exfalso
    have e1 := occ_le s (a := a + 1) N (by omega)
    have e2 : occ s (a + 1) = occ s a := by simp [occ, h1]
    have e3 := occ_le s (a := b + 1) a (by omega)
    have e4 : occ s (b + 1) = occ s b := by simp [occ, h2]
    have e5 := occ_le s (a := 0) b (by omega)
    simp [occ] at e5
    omega
theorem free_some {s : List Bool} {N : Nat} (hs : N ≤ s.length) (ho : occ s N < N) : ∃ f, spot s N 0 = some f ∧ f < N ∧ s[f]? = some false := by
  rcases h : spot s N 0 with _ | f
  · have := occ_full (s := s) N (Nat.zero_le N) (fun j a b => spot_none hs h j a b)
    simp [occ] at this
    omega
  · obtain ⟨_, h2, h3, _⟩ := spot_some hs h
    exact ⟨f, rfl, h2, h3⟩

/-- The street of n places, and the circle with one place more. -/
theorem spot_more {s : List Bool} {n x : Nat} (hs : n + 1 ≤ s.length) (hx : x < n) (hf : s[n]? = some false) :
    spot s (n + 1) x = match spot s n x with | some k => some k | none => some n := by
  rcases h : spot s n x with _ | k
  · have hn := spot_none (by omega) h
    rcases h' : spot s (n + 1) x with _ | k
    · have := spot_none hs h' n (by omega) (by omega); rw [hf] at this; cases this
    · obtain ⟨h1, h2, h3, _⟩ := spot_some hs h'
      by_cases e : k = n
      · rw [e]
      · have := hn k h1 (by omega); rw [this] at h3; cases h3
  · obtain ⟨h1, h2, h3, h4⟩ := spot_some (by omega) h
    rcases h' : spot s (n + 1) x with _ | k'
    · have := spot_none hs h' k h1 (by omega); rw [h3] at this; cases this
    · obtain ⟨g1, g2, g3, g4⟩ := spot_some hs h'
      rcases Nat.lt_trichotomy k k' with hlt | e | hgt
      · have := g4 k h1 hlt; rw [h3] at this; cases this
      · rw [e]
      · have := h4 k' g1 hgt; rw [g3] at this; cases this
theorem taken_stays {N k : Nat} {s : List Bool} (x : Int) (h : s[k]? = some true) : (circStep N s x)[k]? = some true := by
  have hset : ∀ j, (s.set j true)[k]? = some true := fun j => by
    by_cases e : j = k
    · subst e; rw [List.getElem?_set_self (List.getElem?_eq_some_iff.1 h).1]
    · rw [List.getElem?_set_ne e]; exact h
  unfold circStep
  split
  · exact hset _
  · split
    · exact hset _
    · exact h
theorem taken_fold {N k : Nat} (xs : List Int) : ∀ s : List Bool, s[k]? = some true → (xs.foldl (circStep N) s)[k]? = some true := by
  induction xs with
  | nil => intro s h; exact h
  | cons x xs ih => intro s h; exact ih _ (taken_stays x h)
theorem lin_circ (n : Nat) : ∀ (xs : List Nat) (s : List Bool), n + 1 ≤ s.length → s[n]? = some false → (∀ x ∈ xs, x ≤ n) →
    (((xs.map Int.ofNat).foldl (circStep (n + 1)) s)[n]? = some false ↔ (∀ x ∈ xs, x < n) ∧ (parkGo n s (xs.map Int.ofNat)).length = xs.length) := by
  intro xs
  induction xs with
  | nil => intro s _ h _; simp [parkGo, h]
  | cons x xs ih =>
    intro s hs hf hx
    have hxn := hx x (by simp)
    simp only [List.map_cons, List.foldl_cons]
    have hxx : (Int.ofNat x).toNat = x := by simp
    by_cases hlt : x < n
    · have hsm := spot_more hs hlt hf
      rcases hk : spot s n x with _ | k
      · rw [hk] at hsm
        have hst : circStep (n + 1) s (Int.ofNat x) = s.set n true := by simp [circStep, hsm]
        rw [hst]
        constructor
        · intro h
          have := taken_fold (N := n + 1) (k := n) (xs.map Int.ofNat) (s.set n true) (List.getElem?_set_self (by omega))
          rw [this] at h; cases h
        · rintro ⟨_, h⟩
          simp [parkGo, hk] at h
      · rw [hk] at hsm
        have hst : circStep (n + 1) s (Int.ofNat x) = s.set k true := by simp [circStep, hsm]
        have hkn := (spot_lt hk).2
        rw [hst, ih (s.set k true) (by simpa using hs) (by rw [List.getElem?_set_ne (by omega)]; exact hf) (fun y hy => hx y (by simp [hy]))]
        simp [parkGo, hk, hlt]
    · obtain rfl : x = n := by omega
      have hsp : spot s (x + 1) x = some x := spot_hit (by omega) hf
      have hst : circStep (x + 1) s (Int.ofNat x) = s.set x true := by simp [circStep, hsp]
      rw [hst]
      constructor
      · intro h
        have := taken_fold (N := x + 1) (k := x) (xs.map Int.ofNat) (s.set x true) (List.getElem?_set_self (by omega))
        rw [this] at h; cases h
      · rintro ⟨h, _⟩
        have := h x (by simp)
        omega

theorem street0_get {j : Nat} (h : j < 13) : street0[j]? = some false := by unfold street0; rw [List.getElem?_replicate, if_pos h]
/-- The list turned. -/
def turnL (xs : List Nat) (t : Nat) : List Nat := xs.map fun x => (x + t) % (xs.length + 1)
theorem turnL_length (xs : List Nat) (t : Nat) : (turnL xs t).length = xs.length := by simp [turnL]
theorem map_turn (xs : List Nat) (t N : Nat) : (xs.map fun x => (x + t) % N).map Int.ofNat = xs.map fun x => (((x + t) % N : Nat) : Int) := by
  rw [List.map_map]; rfl
theorem circle_law (xs : List Nat) (hn : xs.length ≤ 11) (hx : ∀ x ∈ xs, x ≤ xs.length) (t : Nat) (ht : t ≤ xs.length) :
    ((∀ y ∈ turnL xs t, y < xs.length) ∧ (parkedS ((turnL xs t).map Int.ofNat)).length = xs.length) ↔
      (t : Int) = ((xs.length : Int) - spotInt (spot (circS (xs.map Int.ofNat)) (xs.length + 1) 0)) % ((xs.length : Int) + 1) := by
  have h13 : xs.length + 1 ≤ street0.length := by simp [street0]; omega
  have hxl : ∀ x ∈ xs, x < xs.length + 1 := fun x h => by have := hx x h; omega
  have hlen : (xs.map Int.ofNat).length = xs.length := by simp
  have hT : Turned (xs.length + 1) t street0 street0 := fun j hj => by
    rw [street0_get (by have := Nat.mod_lt (j + t) (show 0 < xs.length + 1 by omega); omega), street0_get (by omega)]
  have hturn := turned_fold xs street0 street0 h13 h13 hxl hT
  have hcirc : circS (xs.map Int.ofNat) = (xs.map Int.ofNat).foldl (circStep (xs.length + 1)) street0 := by unfold circS; rw [hlen]
  have ho := occ_fold xs street0 h13 hxl (by rw [occ_street0]; omega)
  rw [occ_street0, Nat.zero_add] at ho
  have hlen2 : xs.length + 1 ≤ ((xs.map Int.ofNat).foldl (circStep (xs.length + 1)) street0).length := by rw [fold_length]; exact h13
  obtain ⟨f, f1, f2, f3⟩ := free_some hlen2 (by omega)
  have hlin := lin_circ xs.length (turnL xs t) street0 h13 (street0_get (by omega)) (fun y hy => by
    simp [turnL] at hy
    obtain ⟨x, _, rfl⟩ := hy
    have := Nat.mod_lt (x + t) (show 0 < xs.length + 1 by omega)
    omega)
  have hmt : (turnL xs t).map Int.ofNat = xs.map fun x => (((x + t) % (xs.length + 1) : Nat) : Int) := map_turn xs t _
  have hp : parkedS ((turnL xs t).map Int.ofNat) = parkGo xs.length street0 ((turnL xs t).map Int.ofNat) := by unfold parkedS; rw [List.length_map, turnL_length]
  rw [turnL_length] at hlin
  rw [hp, ← hlin, hmt, hcirc, f1]
  have ho2 := occ_fold (turnL xs t) street0 h13 (fun y hy => by
    simp [turnL] at hy
    obtain ⟨x, _, rfl⟩ := hy
    exact Nat.mod_lt (x + t) (show 0 < xs.length + 1 by omega)) (by rw [occ_street0, turnL_length]; omega)
  rw [occ_street0, Nat.zero_add, turnL_length, hmt] at ho2
  have hfree := (hturn f f2).trans f3
  have hmod := Nat.mod_lt (f + t) (show 0 < xs.length + 1 by omega)
  have hf2 : f ≤ xs.length := by omega
  have hres : ((xs.length : Int) - spotInt (some f)) % ((xs.length : Int) + 1) = (xs.length : Int) - f := by
    simp only [spotInt]
    exact Int.emod_eq_of_lt (by omega) (by omega)
  rw [hres]
  constructor
  · intro h
    have e := free_unique (N := xs.length + 1) (by omega) (by omega) hmod h hfree
    rcases Nat.lt_or_ge (f + t) (xs.length + 1) with hlt | hge
    · rw [Nat.mod_eq_of_lt hlt] at e; omega
    · rw [show f + t = (f + t - (xs.length + 1)) + (xs.length + 1) from by omega, Nat.add_mod_right, Nat.mod_eq_of_lt (by omega)] at e; omega
  · intro h
    have e : (f + t) % (xs.length + 1) = xs.length := by rw [show f + t = xs.length from by omega]; exact Nat.mod_eq_of_lt (by omega)
    rw [e] at hfree
    exact hfree
end Go.Proofs.Ytjeggocindcgaaa
