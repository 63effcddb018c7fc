/-
  Plain laws of burning, more: what comes of the fire, and how much is left. No program is in sight.
-/
import Derived.Test.YtjeggocindcgaaaBurnP
namespace Go.Proofs.Ytjeggocindcgaaa
section
variable {es : List (Int × Int × Int)} {c : List Int} {n : Nat} {l : List Nat} {v : Nat}
theorem restL_nodup (n : Nat) (l : List Nat) : (restL n l).Nodup := by unfold restL; exact List.Nodup.sublist List.filter_sublist List.nodup_range
theorem restL_snoc (n : Nat) (l : List Nat) (x : Nat) : restL n (l ++ [x]) = (restL n l).erase x := by
  rw [(restL_nodup n l).erase_eq_filter]
  unfold restL
  rw [List.filter_filter]
  apply List.filter_congr
  intro u _
  by_cases h : u = x <;> by_cases h2 : u ∈ l <;> simp [h, h2]
theorem rest_len (l : List Nat) : LOk n l → (restL n l).length + l.length = n := by
  induction l using snocRec with
  | h0 =>
    intro _
    unfold restL
    rw [List.filter_eq_self.2 (by simp)]
    simp
  | h1 l x ih =>
    intro h
    obtain ⟨h1, h2, h3⟩ := h.front
    have := ih h1
    have hm : x ∈ restL n l := mem_rest.2 ⟨h3, h2⟩
    have hp := List.length_pos_of_mem hm
    rw [restL_snoc, List.length_erase_of_mem hm, List.length_append, List.length_singleton]
    omega
theorem burnL_next (h : LOk n l) (hv : (readyL es c n l).head? = some v) : burnL es c n n l = burnL es c n n (l ++ [v]) := by
  obtain ⟨h1, h2, _⟩ := head_ready hv
  rcases n with _ | n
  · omega
  · rw [burnL_step hv, burnL_more (h.snoc h2 h1) (k := n) (j := n + 1) (by rw [List.length_append, List.length_singleton]; omega) (by rw [List.length_append, List.length_singleton]; omega)]
/-- What comes of the fire. -/
def fireS (es : List (Int × Int × Int)) (c : List Int) (n : Nat) (l : List Nat) : List Nat := (burnL es c n n l).drop l.length
theorem fireS_eq : burnL es c n n l = l ++ fireS es c n l := by
  obtain ⟨t, ht⟩ := burnL_pre (es := es) (c := c) (n := n) n l
  unfold fireS
  rw [← ht, List.drop_left]
theorem fire_pre {pre : List Nat} (h : burnL es c n n (l ++ pre) = burnL es c n n l) : pre <+: fireS es c n l := by
  have h1 := burnL_pre (es := es) (c := c) (n := n) n (l ++ pre)
  rw [h, fireS_eq] at h1
  exact (List.prefix_append_right_inj l).1 h1
theorem fire_end {pre : List Nat} (h : burnL es c n n (l ++ pre) = burnL es c n n l) (hn : ∀ u, u < n → catL es c (l ++ pre) u = false) : pre = fireS es c n l ∧ burnL es c n n l = l ++ pre := by
  have h1 : burnL es c n n (l ++ pre) = l ++ pre := burnL_stop (by rw [ready_none hn]; rfl) n
  have h2 : burnL es c n n l = l ++ pre := h.symm.trans h1
  refine ⟨?_, h2⟩
  rw [fireS_eq] at h2
  exact (List.append_cancel_left h2).symm
theorem burnL_len (h : LOk n l) : LOk n (burnL es c n n l) := burnL_ok n l h
end
end Go.Proofs.Ytjeggocindcgaaa
