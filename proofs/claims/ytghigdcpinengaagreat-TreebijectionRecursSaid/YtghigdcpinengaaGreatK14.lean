/-
  Texts of this claim, put together: Sort.
-/
import Derived.Test.YtghigdcpinengaaGreatK11
import Derived.Test.YtghigdcpinengaaGreatK06
import Derived.Deep.QuietTactic
import Derived.BigQuiet
/-! slices.Sort on at most 12 ints of the call's own: they come out ascending. -/
namespace Go.Proofs.YtghigdcpinengaaGreat
open Go.RowKit

set_option maxHeartbeats 400000 in
theorem less_any (x y : Int) (w : World) : Calls Tryz.prog 176 #[.int .i64 x, .int .i64 y] w fun e w' => e = .returned (.bool (decide (x < y))) ∧ w = w' := by
  by_cases h : x < y
  · have hd : decide (x < y) = true := decide_eq_true h
    rw [hd]
    go_enter Tryz.func176, Tryz.ntmps176
    go_wp2
    go_ret
    exact ⟨ret_bool (by simp), rfl⟩
  · have hd : decide (x < y) = false := decide_eq_false h
    rw [hd]
    go_enter Tryz.func176, Tryz.ntmps176
    go_wp2
    go_ret
    exact ⟨ret_bool (by simp), rfl⟩

theorem lessq_any (x y : Int) (w : World) : Calls Tryz.prog 176 #[.int .i64 x, .int .i64 y] w fun e w' => e = .returned (.bool (decide (x < y))) ∧ ∃ m, w' = w.drewN m :=
  (less_any x y w).mono fun _ _ ⟨he, hw⟩ => ⟨he, 0, hw.symm⟩

/-- All pairs up to i are in order, but for those whose second one is j. -/
def Srt (L : List Int) (i j : Nat) : Prop := ∀ p q, p < q → q ≤ i → q ≠ j → ∀ x y, L[p]? = some x → L[q]? = some y → x ≤ y
def swapL (L : List Int) (m : Nat) (a b : Int) : List Int := (L.set (m + 1) a).set m b
theorem swapL_perm {L : List Int} {m : Nat} {a b : Int} (ha : L[m]? = some a) (hb : L[m + 1]? = some b) : (swapL L m a b).Perm L := by
  obtain ⟨l1, e1⟩ := List.getElem?_eq_some_iff.1 ha
  obtain ⟨l2, e2⟩ := List.getElem?_eq_some_iff.1 hb
  have h : ((L.set (m + 1) L[m]).set m L[m + 1]).Perm L := List.set_set_perm l2 l1
  rw [e1, e2] at h
  exact h
theorem swapL_get {L : List Int} {m : Nat} {a b : Int} (h : m + 1 < L.length) (q : Nat) : (swapL L m a b)[q]? = if q = m then some b else if q = m + 1 then some a else L[q]? := by
  unfold swapL
  by_cases h1 : q = m
  · subst h1; rw [if_pos rfl, List.getElem?_set_self (by rw [List.length_set]; omega)]
  · rw [if_neg h1, List.getElem?_set_ne (fun e => h1 e.symm)]
    by_cases h2 : q = m + 1
    · subst h2; rw [if_pos rfl, List.getElem?_set_self h]
    · rw [if_neg h2, List.getElem?_set_ne (fun e => h2 e.symm)]
theorem Srt.swap {L : List Int} {i m : Nat} {a b : Int} (hs : Srt L i (m + 1)) (ha : L[m]? = some a) (hb : L[m + 1]? = some b) (hab : b < a) : Srt (swapL L m a b) i m := by
  have hl : m + 1 < L.length := (List.getElem?_eq_some_iff.1 hb).1
  intro p q hpq hq hqm x y hx hy
  rw [swapL_get hl] at hx hy
  rw [if_neg hqm] at hy
  by_cases h2 : q = m + 1
  · rw [if_pos h2] at hy
    injection hy with hy
    subst hy
    by_cases h3 : p = m
    · rw [if_pos h3] at hx; injection hx with hx; omega
    · rw [if_neg h3, if_neg (by omega)] at hx
      exact hs p m (by omega) (by omega) (by omega) x a hx ha
  · rw [if_neg h2] at hy
    by_cases h3 : p = m
    · rw [if_pos h3] at hx; injection hx with hx; subst hx
      exact hs (m + 1) q (by omega) hq h2 b y hb hy
    · rw [if_neg h3] at hx
      by_cases h4 : p = m + 1
      · rw [if_pos h4] at hx; injection hx with hx; subst hx
        exact hs m q (by omega) hq h2 a y ha hy
      · rw [if_neg h4] at hx
        exact hs p q hpq hq h2 x y hx hy
theorem Srt.done {L : List Int} {i m : Nat} {a b : Int} (hs : Srt L i (m + 1)) (_hi : m + 1 ≤ i) (ha : L[m]? = some a) (hb : L[m + 1]? = some b) (hab : a ≤ b) : Srt L i (i + 1) := by
  intro p q hpq hq _ x y hx hy
  by_cases h2 : q = m + 1
  · subst h2
    rw [hb] at hy; injection hy with hy; subst hy
    by_cases h3 : p = m
    · subst h3; rw [ha] at hx; injection hx with hx; omega
    · have := hs p m (by omega) (by omega) (by omega) x a hx ha; omega
  · exact hs p q hpq hq h2 x y hx hy
theorem Srt.zero {L : List Int} {i : Nat} (hs : Srt L i 0) : Srt L i (i + 1) := fun p q hpq hq _ x y hx hy => hs p q hpq hq (by omega) x y hx hy
theorem Srt.next {L : List Int} {i : Nat} (hs : Srt L i (i + 1)) : Srt L (i + 1) (i + 1) := fun p q hpq hq hne x y hx hy => hs p q hpq (by omega) hne x y hx hy

set_option maxRecDepth 100000 in
theorem bitsLen_any (n : Nat) (hn : n ≤ 12) (w : World) : Calls Tryz.prog 160 #[.int .u64 n] w fun e w' => (∃ v : Int, e = .returned (.int .i64 v)) ∧ w = w' := by
  have hc : n = 0 ∨ n = 1 ∨ n = 2 ∨ n = 3 ∨ n = 4 ∨ n = 5 ∨ n = 6 ∨ n = 7 ∨ n = 8 ∨ n = 9 ∨ n = 10 ∨ n = 11 ∨ n = 12 := by omega
  rcases hc with rfl | rfl | rfl | rfl | rfl | rfl | rfl | rfl | rfl | rfl | rfl | rfl | rfl
  all_goals (
    go_enter Tryz.func160, Tryz.ntmps160
    go_wp2
    go_ret
    exact ⟨⟨_, rfl⟩, rfl⟩)

end Go.Proofs.YtghigdcpinengaaGreat

