/-
  The superstable configurations, listed: what comes of the iterator; no vertex with 600 chips burns.
-/
import Derived.Test.YtjeggocindcgaaaBurnF
namespace Go.Proofs.Ytjeggocindcgaaa
open Go.RowKit

def calmB (n : Nat) (es : List E3) (q : Nat) (c : List Int) : Bool := (superE n es q c).1 && decide ((superE n es q c).2 = 0)
/-- What comes: c begun, m vertices still to come. -/
def enumF (n q : Nat) (P : List Int → Bool) : Nat → List Int → List (List Int)
  | 0, c => [c]
  | m + 1, c => if n - (m + 1) = q then enumF n q P m c else ((List.range' 0 601).takeWhile fun j : Nat => P (c.set (n - (m + 1)) (j : Int))).flatMap fun j : Nat => enumF n q P m (c.set (n - (m + 1)) (j : Int))
def remF (n q : Nat) (P : List Int → Bool) (m : Nat) (c : List Int) (v s : Nat) : List (List Int) :=
  ((List.range' s (601 - s)).takeWhile fun j : Nat => P (c.set v (j : Int))).flatMap fun j : Nat => enumF n q P m (c.set v (j : Int))
theorem enumF_sink {n q : Nat} {P : List Int → Bool} {m v : Nat} {c : List Int} (hv : v + (m + 1) = n) (hq : v = q) : enumF n q P (m + 1) c = enumF n q P m c := by
  rw [enumF, if_pos (by omega)]
theorem enumF_succ {n q : Nat} {P : List Int → Bool} {m v : Nat} {c : List Int} (hv : v + (m + 1) = n) (hq : v ≠ q) : enumF n q P (m + 1) c = remF n q P m c v 0 := by
  rw [enumF, if_neg (by omega), show n - (m + 1) = v by omega]; rfl
theorem remF_stop {n q : Nat} {P : List Int → Bool} {m v s : Nat} {c : List Int} (hs : s < 601) (h : P (c.set v (s : Int)) = false) : remF n q P m c v s = [] := by
  unfold remF
  rw [show 601 - s = (601 - (s + 1)) + 1 by omega, List.range'_succ, List.takeWhile_cons, h]
  rfl
theorem remF_step {n q : Nat} {P : List Int → Bool} {m v s : Nat} {c : List Int} (hs : s < 601) (h : P (c.set v (s : Int)) = true) : remF n q P m c v s = enumF n q P m (c.set v (s : Int)) ++ remF n q P m c v (s + 1) := by
  unfold remF
  rw [show 601 - s = (601 - (s + 1)) + 1 by omega, List.range'_succ, List.takeWhile_cons, h]
  rfl
/-- A vertex with 600 chips is never burnt. -/
theorem big_unburnt {es : List E3} {c : List Int} {n v : Nat} (hok : ∀ e ∈ es, okE n e) (hn : n ≤ 12) (hc : 600 ≤ c.getD v 0) (k : Nat) : ∀ l, LOk n l → v ∉ l → v ∉ burnL es c n k l := by
  induction k with
  | zero => intro l _ hv; simpa [burnL] using hv
  | succ k ih =>
    intro l hl hv
    cases h : (readyL es c n l).head? with
    | none => rw [burnL_stop h]; exact hv
    | some u =>
      rw [burnL_step h]
      obtain ⟨h1, h2, h3⟩ := head_ready h
      refine ih _ (hl.snoc h2 h1) ?_
      intro hm
      rcases List.mem_append.1 hm with hm | hm
      · exact hv hm
      · rw [List.mem_singleton] at hm
        subst hm
        have h4 := flm_joins (es := es) l hl h2
        have h5 := (flmTo_bd hok l v n).2
        omega
theorem calm_big {n : Nat} {es : List E3} {q : Nat} {c : List Int} {v : Nat} (hv : v < n) (hq : v ≠ q) (hc : 600 ≤ c.getD v 0) : calmB n es q c = false := by
  unfold calmB superE
  split
  · rename_i hz
    obtain ⟨hG, _, hq0, hqn, _⟩ := conf_zero (burn_zero hz).1
    have hn : n ≤ 12 := by have := hG.hi; omega
    have h1 := big_unburnt hG.ok hn hc n [q] ⟨by simp, by simp; omega⟩ (by simpa using hq)
    have h2 : v ∈ restL n (burntL es c n q) := mem_rest.2 ⟨hv, h1⟩
    have h3 : restL n (burntL es c n q) ≠ [] := fun e => by rw [e] at h2; simp at h2
    simp [h3]
  · simp
end Go.Proofs.Ytjeggocindcgaaa
