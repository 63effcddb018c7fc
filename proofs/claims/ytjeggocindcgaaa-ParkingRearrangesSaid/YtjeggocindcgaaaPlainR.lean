/-
  Plain laws of the rearranged list: what the order of the cars does not change.
-/
import Derived.Test.YtjeggocindcgaaaPlain29
import Derived.Test.YtjeggocindcgaaaSort
import Derived.Test.YtjeggocindcgaaaRef29
namespace Go.Proofs.Ytjeggocindcgaaa
open Go.RowKit

def sumI : List Int → Int
  | [] => 0
  | x :: xs => x + sumI xs
theorem sumI_perm {xs ys : List Int} (h : xs.Perm ys) : sumI xs = sumI ys := by
  induction h with
  | nil => rfl
  | cons x _ ih => simp [sumI, ih]
  | swap x y l => simp [sumI]; omega
  | trans _ _ h1 h2 => exact h1.trans h2
theorem sumI_append (xs ys : List Int) : sumI (xs ++ ys) = sumI xs + sumI ys := by
  induction xs with
  | nil => simp [sumI]
  | cons x xs ih => simp [sumI, ih]; omega
theorem sumI_take {xs : List Int} {k : Nat} {x : Int} (h : xs[k]? = some x) : sumI (xs.take (k + 1)) = sumI (xs.take k) + x := by
  rw [take_snoc h, sumI_append]; simp [sumI]
theorem dispTo_sum {l xs : List Int} (h : l.length = xs.length) (k : Nat) (hk : k ≤ xs.length) : dispTo l xs k = sumI (l.take k) - sumI (xs.take k) := by
  induction k with
  | zero => simp [dispTo, sumI]
  | succ k ih =>
    obtain ⟨x, hx⟩ := get_of_lt (xs := xs) (k := k) (by omega)
    obtain ⟨y, hy⟩ := get_of_lt (xs := l) (k := k) (by omega)
    rw [dispTo_step hy hx, ih (by omega), sumI_take hx, sumI_take hy]; omega

/-- How many places below m are free, and their sum. -/
def fc (s : List Bool) : Nat → Nat
  | 0 => 0
  | m + 1 => fc s m + if s[m]? = some false then 1 else 0
def fs (s : List Bool) : Nat → Nat
  | 0 => 0
  | m + 1 => fs s m + if s[m]? = some false then m else 0
theorem fs_none {s : List Bool} {m : Nat} (h : fc s m = 0) : fs s m = 0 := by
  induction m with
  | zero => rfl
  | succ m ih =>
    unfold fc at h
    unfold fs
    by_cases hf : s[m]? = some false
    · rw [if_pos hf] at h; omega
    · rw [if_neg hf] at h ⊢; rw [ih (by omega)]
theorem fc_set {s : List Bool} {k : Nat} (h : s[k]? = some false) (m : Nat) : fc s m = fc (s.set k true) m + if k < m then 1 else 0 := by
  have hk : k < s.length := (List.getElem?_eq_some_iff.1 h).1
  induction m with
  | zero => simp [fc]
  | succ m ih =>
    unfold fc
    rw [ih]
    by_cases he : m = k
    · subst he
      rw [h, List.getElem?_set_self hk]; simp
    · rw [List.getElem?_set_ne (fun e => he e.symm)]
      generalize (if s[m]? = some false then 1 else 0) = z
      by_cases h1 : k < m
      · simp only [h1, show k < m + 1 from by omega, if_true]; omega
      · simp only [h1, show ¬ k < m + 1 from by omega, if_false]; omega
theorem fs_set {s : List Bool} {k : Nat} (h : s[k]? = some false) (m : Nat) : fs s m = fs (s.set k true) m + if k < m then k else 0 := by
  have hk : k < s.length := (List.getElem?_eq_some_iff.1 h).1
  induction m with
  | zero => simp [fs]
  | succ m ih =>
    unfold fs
    rw [ih]
    by_cases he : m = k
    · subst he
      rw [h, List.getElem?_set_self hk]; simp
    · rw [List.getElem?_set_ne (fun e => he e.symm)]
      generalize (if s[m]? = some false then m else 0) = z
      by_cases h1 : k < m
      · simp only [h1, show k < m + 1 from by omega, if_true]; omega
      · simp only [h1, show ¬ k < m + 1 from by omega, if_false]; omega
theorem fc_street0 : ∀ n ∈ List.range 13, fc street0 n = n := by decide
def tri (n : Nat) : Nat := fs street0 n
theorem park_sum (n : Nat) : ∀ (xs : List Int) (s : List Bool), n ≤ s.length → fc s n = xs.length → (parkGo n s xs).length = xs.length → sumI (parkGo n s xs) = fs s n := by
  intro xs
  induction xs with
  | nil => intro s _ hf _; rw [fs_none (by simpa using hf)]; rfl
  | cons x xs ih =>
    intro s hs hf hl
    simp only [parkGo] at hl ⊢
    rcases hk : spot s n x.toNat with _ | k
    · rw [hk] at hl; simp at hl
    · rw [hk] at hl
      obtain ⟨_, h2, h3, _⟩ := spot_some hs hk
      have e1 := fc_set h3 n
      have e2 := fs_set h3 n
      rw [if_pos h2] at e1 e2
      simp only [List.length_cons] at hl hf
      have := ih (s.set k true) (by simpa using hs) (by omega) (by omega)
      simp only [sumI]
      rw [this, e2]; omega
theorem places_sum {xs : List Int} (hn : xs.length ≤ 12) (h : (parkedS xs).length = xs.length) : sumI (parkedS xs) = (tri xs.length : Int) :=
  park_sum xs.length xs street0 (by simp [street0]; omega) (fc_street0 xs.length (by simp; omega)) h

/-! What does not depend on the order. -/
theorem countLe_perm {xs ys : List Int} (h : xs.Perm ys) (i : Nat) : countLe xs i = countLe ys i := (h.filter _).length_eq
theorem isR_perm {xs ys : List Int} (h : xs.Perm ys) : isR xs = isR ys := by
  unfold isR
  rw [h.length_eq]
  simp only [countLe_perm h]
theorem within_perm {xs ys : List Int} (h : xs.Perm ys) (hok : withinS xs 0 = 0) : withinS ys 0 = 0 := by
  obtain ⟨hn, hx⟩ := within_zero hok
  unfold withinS
  rw [if_pos (by rw [← h.length_eq]; simp [carsB]; omega), if_pos]
  rw [List.all_eq_true]
  intro y hy
  have := hx y (h.mem_iff.2 hy)
  rw [← h.length_eq]
  simp [inB]; omega
theorem countLe_append (xs ys : List Int) (i : Nat) : countLe (xs ++ ys) i = countLe xs i + countLe ys i := by simp [countLe]
theorem sorted_right {ys : List Int} (hs : Srt ys (ys.length - 1) ys.length) {i : Nat} {y : Int} (hy : ys[i]? = some y) : i < countLe ys i ↔ y ≤ (i : Int) := by
  have hi : i < ys.length := (List.getElem?_eq_some_iff.1 hy).1
  have hle : ∀ (p q : Nat) (x z : Int), p ≤ q → ys[p]? = some x → ys[q]? = some z → x ≤ z := fun p q x z hpq hx hz => by
    have hq : q < ys.length := (List.getElem?_eq_some_iff.1 hz).1
    rcases Nat.lt_or_ge p q with hlt | hge
    · exact hs p q hlt (by omega) (by omega) x z hx hz
    · obtain rfl : p = q := by omega
      rw [hx] at hz; injection hz with hz; omega
  constructor
  · intro h
    apply Decidable.byContradiction
    intro hgt
    have e : countLe ys i = countLe (ys.take i) i + countLe (ys.drop i) i := by rw [← countLe_append, List.take_append_drop]
    have h1 := countLe_le (ys.take i) i
    rw [List.length_take] at h1
    have h2 : countLe (ys.drop i) i = 0 := by
      unfold countLe
      rw [List.length_eq_zero_iff, List.filter_eq_nil_iff]
      intro z hz
      obtain ⟨j, hj⟩ := List.getElem?_of_mem hz
      rw [List.getElem?_drop] at hj
      have := hle i (i + j) y z (by omega) hy hj
      simp; omega
    omega
  · intro h
    have e : countLe ys i = countLe (ys.take (i + 1)) i + countLe (ys.drop (i + 1)) i := by rw [← countLe_append, List.take_append_drop]
    have h1 : countLe (ys.take (i + 1)) i = i + 1 := by
      unfold countLe
      rw [List.filter_eq_self.2]
      · rw [List.length_take]; omega
      · intro z hz
        obtain ⟨j, hj⟩ := List.getElem?_of_mem hz
        have hjl := (List.getElem?_eq_some_iff.1 hj).1
        rw [List.length_take] at hjl
        rw [List.getElem?_take_of_lt (by omega)] at hj
        have := hle j i z y (by omega) hj hy
        simp; omega
    omega
/-- The test on the sorted list, of the first k. -/
def rightTo (ys : List Int) (k : Nat) : Bool := (List.range k).all fun i => decide (ys[i]?.getD 0 ≤ (i : Int))
theorem rightTo_succ {ys : List Int} {k : Nat} {y : Int} (h : ys[k]? = some y) : rightTo ys (k + 1) = (rightTo ys k && decide (y ≤ (k : Int))) := by simp [rightTo, List.range_succ, List.all_append, h]
theorem right_is {xs ys : List Int} (hp : ys.Perm xs) (hs : Srt ys (ys.length - 1) ys.length) : rightTo ys ys.length = isR xs := by
  rw [← isR_perm hp]
  unfold rightTo isR
  rw [Bool.eq_iff_iff, List.all_eq_true, List.all_eq_true]
  constructor
  · intro h i hi
    obtain ⟨y, hy⟩ := get_of_lt (xs := ys) (k := i) (by simpa using hi)
    have := h i hi
    rw [hy] at this
    simp at this
    simp [(sorted_right hs hy).2 this]
  · intro h i hi
    obtain ⟨y, hy⟩ := get_of_lt (xs := ys) (k := i) (by simpa using hi)
    have := h i hi
    simp at this
    rw [hy]
    simp [(sorted_right hs hy).1 this]
/-- The sum of the indices less the values, of the first k. -/
def gapTo (ys : List Int) : Nat → Int
  | 0 => 0
  | k + 1 => gapTo ys k + ((k : Int) - ys[k]?.getD 0)
theorem gapTo_succ {ys : List Int} {k : Nat} {y : Int} (h : ys[k]? = some y) : gapTo ys (k + 1) = gapTo ys k + ((k : Int) - y) := by simp [gapTo, h]
theorem tri_succ (n : Nat) (h : n < 13) : tri (n + 1) = tri n + n := by
  unfold tri
  rw [fs, show street0[n]? = some false from by unfold street0; rw [List.getElem?_replicate, if_pos h], if_pos rfl]
theorem gapTo_sum {ys : List Int} (hn : ys.length ≤ 12) (k : Nat) (hk : k ≤ ys.length) : gapTo ys k = (tri k : Int) - sumI (ys.take k) := by
  induction k with
  | zero => simp [gapTo, sumI, tri, fs]
  | succ k ih =>
    obtain ⟨y, hy⟩ := get_of_lt (xs := ys) (k := k) (by omega)
    rw [gapTo_succ hy, ih (by omega), sumI_take hy, tri_succ k (by omega)]; omega
theorem gapTo_bd {ys : List Int} (hx : ∀ y ∈ ys, 0 ≤ y ∧ y ≤ 12) (hn : ys.length ≤ 12) (k : Nat) (hk : k ≤ ys.length) : -(12 * (k : Int)) ≤ gapTo ys k ∧ gapTo ys k ≤ 12 * (k : Int) := by
  induction k with
  | zero => simp [gapTo]
  | succ k ih =>
    obtain ⟨y, hy⟩ := get_of_lt (xs := ys) (k := k) (by omega)
    have := hx y (List.mem_of_getElem? hy)
    have := ih (by omega)
    rw [gapTo_succ hy]; omega
/-- What the displacement answers on a rearranged list. -/
theorem disp_perm {xs ys l : List Int} (hok : withinS xs 0 = 0) (hl : l.Perm xs) (hy : ys.Perm xs) : dispS l = if isR xs = true then (gapTo ys ys.length, 0) else (0, 15) := by
  have hokl := within_perm hl.symm hok
  obtain ⟨hn, hx⟩ := within_zero hokl
  have hpi := parked_iff (xs := l) (by omega) (fun x hx' => by have := hx x hx'; omega)
  rw [isR_perm hl] at hpi
  unfold dispS takenS
  rw [if_pos hokl]
  by_cases hr : isR xs = true
  · have hp := hpi.2 hr
    rw [if_pos hr, if_pos hp]
    simp only [if_true]
    rw [dispTo_sum hp _ (Nat.le_refl _), List.take_of_length_le (by omega), List.take_of_length_le (Nat.le_refl _), places_sum (by omega) hp, gapTo_sum (by rw [hy.length_eq, ← hl.length_eq]; omega) _ (Nat.le_refl _), List.take_of_length_le (Nat.le_refl _), sumI_perm hy, sumI_perm hl, hy.length_eq, hl.length_eq]
  · have hp := fun h => hr (hpi.1 h)
    rw [if_neg hr, if_neg hp]
    simp
end Go.Proofs.Ytjeggocindcgaaa
