/-
  The errors of divisors, sinks and configurations, as functions.
-/
import Derived.Test.YtjeggocindcgaaaGraph
import Derived.Test.YtjeggocindcgaaaConnB
namespace Go.Proofs.Ytjeggocindcgaaa
open Go.RowKit

/-- May an int be the chips at a vertex? -/
def chipB (k : Int) : Bool := decide (-1048576 ≤ k) && decide (k ≤ 1048576)
theorem chipB_true {k : Int} : chipB k = true ↔ -1048576 ≤ k ∧ k ≤ 1048576 := by simp [chipB]
/-- The error of a divisor on n vertices. -/
def divErr (c : List Int) (n : Int) : Int := if n < 1 ∨ 12 < n then 2 else if (c.length : Int) ≠ n then 8 else if c.all chipB then 0 else 2
theorem divErr_at {cs : List Int} {n : Int} {k : Nat} {x : Int} (hn : ¬ (n < 1 ∨ 12 < n)) (hl : (cs.length : Int) = n) (hx : cs[k]? = some x) (hb : chipB x = false) : divErr cs n = 2 := by
  have : cs.all chipB = false := by
    rw [Bool.eq_false_iff]; intro h; rw [List.all_eq_true] at h; rw [h x (List.mem_of_getElem? hx)] at hb; cases hb
  unfold divErr; rw [if_neg hn, if_neg (by omega), this]; rfl
theorem divErr_end {cs : List Int} {n : Int} (hn : ¬ (n < 1 ∨ 12 < n)) (hl : (cs.length : Int) = n) (h : (cs.take cs.length).all chipB = true) : divErr cs n = 0 := by
  rw [List.take_length] at h
  unfold divErr; rw [if_neg hn, if_neg (by omega), h]; rfl
theorem all_snoc {cs : List Int} {k : Nat} {x : Int} (hx : cs[k]? = some x) (h : (cs.take k).all chipB = true) (hb : chipB x = true) : (cs.take (k + 1)).all chipB = true := by
  rw [take_snoc hx, List.all_append, h]; simp [hb]

/-- The error of a graph with a sink. -/
def rootErr (n : Int) (es : List E3) (q : Int) : Int := if checkG n es ≠ 0 then checkG n es else if connB n.toNat es = false then 13 else if vertB n q = false then 2 else 0
theorem root_cases (n : Int) (es : List E3) (q : Int) :
    (checkG n es ≠ 0 ∧ rootErr n es q = checkG n es) ∨ (checkG n es = 0 ∧ connB n.toNat es = false ∧ rootErr n es q = 13) ∨
    (checkG n es = 0 ∧ connB n.toNat es = true ∧ vertB n q = false ∧ rootErr n es q = 2) ∨ (checkG n es = 0 ∧ connB n.toNat es = true ∧ vertB n q = true ∧ rootErr n es q = 0) := by
  unfold rootErr
  by_cases h : checkG n es = 0
  · cases h2 : connB n.toNat es
    · simp [h]
    · cases h3 : vertB n q <;> simp [h]
  · simp [h]

/-- Is there a debt but at the sink? -/
def debtTo (cs : List Int) (q : Int) (k : Nat) : Bool := (List.range k).any fun v => decide ((v : Int) ≠ q) && decide (cs.getD v 0 < 0)
theorem debtTo_succ (cs : List Int) (q : Int) (k : Nat) : debtTo cs q (k + 1) = (debtTo cs q k || (decide ((k : Int) ≠ q) && decide (cs.getD k 0 < 0))) := by
  simp [debtTo, List.range_succ]
theorem debtTo_false {cs : List Int} {q : Int} {k : Nat} (h : debtTo cs q k = false) : ∀ v, v < k → (v : Int) ≠ q → 0 ≤ cs.getD v 0 := by
  intro v hv hq
  unfold debtTo at h
  rw [List.any_eq_false] at h
  have := h v (by simpa using hv)
  simp [hq] at this
  exact this
theorem debtTo_mono {cs : List Int} {q : Int} {j k : Nat} (h : j ≤ k) (hj : debtTo cs q j = true) : debtTo cs q k = true := by
  induction h with
  | refl => exact hj
  | step _ ih => rw [debtTo_succ, ih]; rfl
/-- The error of a configuration. -/
def confErr (n : Int) (es : List E3) (q : Int) (cs : List Int) : Int := if rootErr n es q ≠ 0 then rootErr n es q else if divErr cs n ≠ 0 then divErr cs n else if debtTo cs q cs.length then 2 else 0
/-- .. of one that may burn. -/
def burnErr (n : Int) (es : List E3) (q : Int) (cs : List Int) : Int := if confErr n es q cs ≠ 0 then confErr n es q cs else if cs.getD q.toNat 0 ≠ 0 then 3 else 0
theorem conf_cases (n : Int) (es : List E3) (q : Int) (cs : List Int) :
    (rootErr n es q ≠ 0 ∧ confErr n es q cs = rootErr n es q) ∨ (rootErr n es q = 0 ∧ divErr cs n ≠ 0 ∧ confErr n es q cs = divErr cs n) ∨
    (rootErr n es q = 0 ∧ divErr cs n = 0 ∧ confErr n es q cs = if debtTo cs q cs.length then 2 else 0) := by
  unfold confErr
  by_cases h : rootErr n es q = 0
  · by_cases h2 : divErr cs n = 0
    · simp [h, h2]
    · simp [h, h2]
  · simp [h]
theorem divErr_zero {cs : List Int} {n : Int} (h : divErr cs n = 0) : 1 ≤ n ∧ n ≤ 12 ∧ (cs.length : Int) = n ∧ ∀ x ∈ cs, -1048576 ≤ x ∧ x ≤ 1048576 := by
  unfold divErr at h
  split at h
  · omega
  · split at h
    · omega
    · split at h
      · rename_i h1 h2 h3
        refine ⟨by omega, by omega, by omega, fun x hx => ?_⟩
        rw [List.all_eq_true] at h3
        exact chipB_true.1 (h3 x hx)
      · omega
theorem getD_at {cs : List Int} {k : Nat} {x : Int} (h : cs[k]? = some x) : cs.getD k 0 = x := by simp [List.getD_eq_getElem?_getD, h]

theorem burn_cases (n : Int) (es : List E3) (q : Int) (cs : List Int) :
    (confErr n es q cs ≠ 0 ∧ burnErr n es q cs = confErr n es q cs) ∨ (confErr n es q cs = 0 ∧ cs.getD q.toNat 0 ≠ 0 ∧ burnErr n es q cs = 3) ∨ (confErr n es q cs = 0 ∧ cs.getD q.toNat 0 = 0 ∧ burnErr n es q cs = 0) := by
  unfold burnErr
  by_cases h : confErr n es q cs = 0
  · by_cases h2 : cs.getD q.toNat 0 = 0
    · exact .inr (.inr ⟨h, h2, by rw [if_neg (fun hc => hc h), if_neg (fun hc => hc h2)]⟩)
    · exact .inr (.inl ⟨h, h2, by rw [if_neg (fun hc => hc h), if_pos h2]⟩)
  · exact .inl ⟨h, by rw [if_pos h]⟩
/-- A right configuration. -/
theorem conf_zero {n : Int} {es : List E3} {q : Int} {cs : List Int} (h : confErr n es q cs = 0) :
    RightG n es ∧ AllConn n.toNat es ∧ 0 ≤ q ∧ q < n ∧ (cs.length : Int) = n ∧ (∀ x ∈ cs, -1048576 ≤ x ∧ x ≤ 1048576) ∧ ∀ v : Nat, (v : Int) < n → (v : Int) ≠ q → 0 ≤ cs.getD v 0 := by
  rcases conf_cases n es q cs with ⟨h1, hE⟩ | ⟨h1, h2, hE⟩ | ⟨h1, h2, hE⟩
  · exact absurd (hE ▸ h) h1
  · exact absurd (hE ▸ h) h2
  · obtain ⟨d1, d2, d3, d4⟩ := divErr_zero h2
    rcases root_cases n es q with ⟨k1, kE⟩ | ⟨k1, k2, kE⟩ | ⟨k1, k2, k3, kE⟩ | ⟨k1, k2, k3, kE⟩
    · omega
    · omega
    · omega
    · have hG := right_of k1
      have hq := vertB_true.1 k3
      obtain ⟨m, rfl⟩ := Int.eq_ofNat_of_zero_le (show 0 ≤ n by omega)
      refine ⟨hG, (connB_iff hG).1 k2, hq.1, hq.2, d3, d4, fun v hv hvq => ?_⟩
      cases hd : debtTo cs q cs.length
      · exact debtTo_false hd v (by omega) hvq
      · rw [hE, hd] at h; simp at h
theorem burn_zero {n : Int} {es : List E3} {q : Int} {cs : List Int} (h : burnErr n es q cs = 0) : confErr n es q cs = 0 ∧ cs.getD q.toNat 0 = 0 := by
  rcases burn_cases n es q cs with ⟨h1, hE⟩ | ⟨h1, h2, hE⟩ | ⟨h1, h2, hE⟩
  · exact absurd (hE ▸ h) h1
  · omega
  · exact ⟨h1, h2⟩
end Go.Proofs.Ytjeggocindcgaaa
