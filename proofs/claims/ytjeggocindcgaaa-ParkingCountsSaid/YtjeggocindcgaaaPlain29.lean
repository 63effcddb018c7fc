/-
  The plain law: all cars park exactly if of each place i at least i + 1 preferences are at most i.
-/
import Derived.Test.YtjeggocindcgaaaRef29
namespace Go.Proofs.Ytjeggocindcgaaa
open Go.RowKit

/-- How many of the first m places are taken. -/
def occ (s : List Bool) : Nat → Nat
  | 0 => 0
  | m + 1 => occ s m + if s[m]? = some true then 1 else 0
/-- How many preferences are below m. -/
def cntLt (xs : List Int) (m : Nat) : Nat := (xs.filter fun x => decide (x < (m : Int))).length
theorem cntLt_append (xs ys : List Int) (m : Nat) : cntLt (xs ++ ys) m = cntLt xs m + cntLt ys m := by simp [cntLt]
theorem cntLt_one (x : Nat) (m : Nat) : cntLt [(x : Int)] m = if x < m then 1 else 0 := by
  unfold cntLt
  by_cases h : x < m
  · simp [h]
  · simp [h]
theorem cntLt_le (xs : List Int) (m : Nat) : cntLt xs m ≤ xs.length := List.length_filter_le _ _
theorem cntLt_countLe (xs : List Int) (i : Nat) : cntLt xs (i + 1) = countLe xs i := by
  unfold cntLt countLe
  congr 1
  apply List.filter_congr
  intro x _
  simp
  omega

theorem occ_set {s : List Bool} {k : Nat} (h : s[k]? = some false) (m : Nat) : occ (s.set k true) m = occ s m + if k < m then 1 else 0 := by
  have hk : k < s.length := (List.getElem?_eq_some_iff.1 h).1
  induction m with
  | zero => simp [occ]
  | succ m ih =>
    simp only [occ, ih]
    by_cases e : k = m
    · subst e
      rw [List.getElem?_set_self hk, h]
      simp
    · rw [List.getElem?_set_ne e]
      by_cases hlt : k < m
      · rw [if_pos hlt, if_pos (show k < m + 1 by omega)]; omega
      · rw [if_neg hlt, if_neg (show ¬ k < m + 1 by omega)]; omega
theorem occ_full {s : List Bool} {a : Nat} (b : Nat) (hab : a ≤ b) (h : ∀ j, a ≤ j → j < b → s[j]? = some true) : occ s b = occ s a + (b - a) := by
  induction b with
  | zero => have : a = 0 := by omega
            subst this; simp
  | succ b ih =>
    by_cases e : a = b + 1
    · subst e; simp
    · simp only [occ]
      rw [ih (by omega) (fun j h1 h2 => h j h1 (by omega)), h b (by omega) (by omega)]
      simp; omega
theorem occ_le (s : List Bool) {a : Nat} (b : Nat) (hab : a ≤ b) : occ s b ≤ occ s a + (b - a) := by
  induction b with
  | zero => have : a = 0 := by omega
            subst this; simp
  | succ b ih =>
    by_cases e : a = b + 1
    · subst e; simp
    · simp only [occ]
      have := ih (by omega)
      split <;> omega
theorem spot_none {s : List Bool} {n x : Nat} (hs : n ≤ s.length) (h : spot s n x = none) : ∀ j, x ≤ j → j < n → s[j]? = some true := by
  intro j h1 h2
  unfold spot at h
  rw [List.find?_eq_none] at h
  have := h j (by rw [List.mem_range'_1]; omega)
  obtain ⟨b, hb⟩ := get_of_lt (xs := s) (k := j) (by omega)
  rw [hb] at this ⊢
  cases b <;> simp at this ⊢
theorem spot_some {s : List Bool} {n x k : Nat} (hs : n ≤ s.length) (h : spot s n x = some k) : x ≤ k ∧ k < n ∧ s[k]? = some false ∧ ∀ j, x ≤ j → j < k → s[j]? = some true := by
  have hlt := spot_lt h
  refine ⟨hlt.1, hlt.2, ?_, ?_⟩
  · unfold spot at h
    have := List.find?_some h
    obtain ⟨b, hb⟩ := get_of_lt (xs := s) (k := k) (by omega)
    rw [hb] at this ⊢
    cases b <;> simp at this ⊢
  · intro j h1 h2
    obtain ⟨b, hb⟩ := get_of_lt (xs := s) (k := j) (by omega)
    cases b
    · exfalso
      -- the first free place would be j
      have key : ∀ d i, i + d = j → x ≤ i → spot s n i = some k → False := by
        intro d
        induction d with
        | zero => intro i hi _ hsp; subst hi; rw [Nat.add_zero] at *; rw [spot_hit (by omega) hb] at hsp; injection hsp; omega
        | succ d ih =>
          intro i hi hxi hsp
          obtain ⟨q, hq⟩ := get_of_lt (xs := s) (k := i) (by omega)
          cases q
          · rw [spot_hit (by omega) hq] at hsp; injection hsp; omega
          · rw [spot_step (by omega) hq] at hsp
            exact ih (i + 1) (by omega) (by omega) hsp
      exact key (j - x) x (by omega) (Nat.le_refl _) h
    · exact hb
theorem last_free {s : List Bool} {n : Nat} (hs : n ≤ s.length) : ∀ x, x ≤ n → (∀ j, x ≤ j → j < n → s[j]? = some true) →
    (∃ i, i < x ∧ s[i]? = some false ∧ ∀ j, i < j → j < n → s[j]? = some true) ∨ (∀ j, j < n → s[j]? = some true) := by
  intro x
  induction x with
  | zero => intro _ h; exact .inr fun j hj => h j (by omega) hj
  | succ x ih =>
    intro hx h
    obtain ⟨b, hb⟩ := get_of_lt (xs := s) (k := x) (by omega)
    cases b
    · exact .inl ⟨x, by omega, hb, fun j h1 h2 => h j h1 h2⟩
    · rcases ih (by omega) (fun j h1 h2 => by
        by_cases e : j = x
        · subst e; exact hb
        · exact h j (by omega) h2) with ⟨i, h1, h2, h3⟩ | h4
      · exact .inl ⟨i, by omega, h2, h3⟩
      · exact .inr h4

/-- What holds behind the cars pre, which have all parked. -/
structure PInv (n : Nat) (s : List Bool) (pre : List Int) : Prop where
  len : n ≤ s.length
  up : ∀ m, m ≤ n → occ s m ≤ cntLt pre m
  free : ∀ i, i < n → s[i]? = some false → cntLt pre (i + 1) = occ s i
  all : occ s n = pre.length

theorem PInv.step {n : Nat} {s : List Bool} {pre : List Int} {x k : Nat} (h : PInv n s pre) (hk : spot s n x = some k) : PInv n (s.set k true) (pre ++ [(x : Int)]) := by
  obtain ⟨h1, h2, h3, h4⟩ := spot_some h.len hk
  refine ⟨by simpa using h.len, fun m hm => ?_, fun i hi hf => ?_, ?_⟩
  · rw [occ_set h3, cntLt_append, cntLt_one]
    have := h.up m hm
    by_cases hkm : k < m
    · rw [if_pos hkm, if_pos (show x < m by omega)]; omega
    · rw [if_neg hkm]; omega
  · have hne : k ≠ i := by
      rintro rfl
      rw [List.getElem?_set_self (by have := h.len; omega)] at hf
      cases hf
    rw [List.getElem?_set_ne hne] at hf
    rw [occ_set h3, cntLt_append, cntLt_one, h.free i hi hf]
    by_cases hki : k < i
    · rw [if_pos hki, if_pos (show x < i + 1 by omega)]
    · have : ¬ x < i + 1 := by
        intro hx
        have := h4 i (by omega) (by omega)
        rw [this] at hf; cases hf
      rw [if_neg hki, if_neg this]
  · rw [occ_set h3, if_pos h2, h.all]; simp

theorem park_iff (n : Nat) : ∀ (xs : List Int) (s : List Bool) (pre : List Int), PInv n s pre → pre.length + xs.length = n → (∀ x ∈ xs, 0 ≤ x ∧ x < n) →
    ((parkGo n s xs).length = xs.length ↔ ∀ m, m ≤ n → m ≤ cntLt (pre ++ xs) m) := by
  intro xs
  induction xs with
  | nil =>
    intro s pre h hl _
    simp only [parkGo, List.length_nil, List.append_nil, true_iff]
    intro m hm
    have h1 := occ_le s n hm
    have h2 := h.up m hm
    have h3 := h.all
    simp at hl
    omega
  | cons x xs ih =>
    intro s pre h hl hx
    obtain ⟨hx0, hxn⟩ := hx x (by simp)
    obtain ⟨x, rfl⟩ := Int.eq_ofNat_of_zero_le hx0
    have hsp : (x : Int).toNat = x := by simp
    simp only [parkGo, hsp]
    rcases hk : spot s n x with _ | k
    · simp only [List.length_nil, List.length_cons]
      constructor
      · intro h0; omega
      · intro hall
        exfalso
        rcases last_free h.len x (by omega) (spot_none h.len hk) with ⟨i, h1, h2, h3⟩ | h4
        · have hi := hall (i + 1) (by omega)
          rw [cntLt_append, h.free i (by omega) h2] at hi
          have ho := occ_full n (show i + 1 ≤ n by omega) (fun j a b => h3 j (by omega) b)
          have ho1 : occ s (i + 1) = occ s i := by simp [occ, h2]
          have hc : cntLt ((x : Int) :: xs) (i + 1) ≤ xs.length := by
            rw [show ((x : Int) :: xs) = [(x : Int)] ++ xs from rfl, cntLt_append, cntLt_one, if_neg (by omega)]
            have := cntLt_le xs (i + 1)
            omega
          have := h.all
          simp at hl
          omega
        · have ho := occ_full n (Nat.zero_le n) (fun j _ b => h4 j b)
          have := h.all
          simp [occ] at ho
          simp at hl
          omega
    · have := ih (s.set k true) (pre ++ [(x : Int)]) (h.step hk) (by simp at hl ⊢; omega) (fun y hy => hx y (by simp [hy]))
      simp only [List.length_cons, Nat.add_right_cancel_iff]
      rw [this, List.append_assoc]
      rfl

theorem occ_street0 (m : Nat) : occ street0 m = 0 := by
  induction m with
  | zero => rfl
  | succ m ih =>
    simp only [occ, ih]
    have : ¬ street0[m]? = some true := by
      intro h
      unfold street0 at h
      rw [List.getElem?_replicate] at h
      split at h <;> cases h
    simp [this]
theorem parked_iff {xs : List Int} (hn : xs.length ≤ 13) (hx : ∀ x ∈ xs, 0 ≤ x ∧ x < xs.length) : (parkedS xs).length = xs.length ↔ isR xs = true := by
  unfold parkedS
  rw [park_iff xs.length xs street0 [] ⟨by simpa [street0] using hn, fun m _ => by rw [occ_street0]; omega, fun i _ _ => by rw [occ_street0]; rfl, by rw [occ_street0]; rfl⟩ (by simp) hx]
  unfold isR
  rw [List.all_eq_true]
  constructor
  · intro h i hi
    have hi := List.mem_range.1 hi
    have := h (i + 1) (by omega)
    rw [List.nil_append, cntLt_countLe] at this
    simp; omega
  · intro h m hm
    rcases m with _ | i
    · omega
    · have := h i (List.mem_range.2 (by omega))
      rw [List.nil_append, cntLt_countLe]
      simp at this
      omega
end Go.Proofs.Ytjeggocindcgaaa
