/-
  Plain laws: the waves of a fire; a configuration is superstable exactly if no set blocks. No program is in sight.
-/
import Derived.Test.YthbannpmfdflaaaBelowP
namespace Go.Proofs.Ythbannpmfdflaaa

section
variable {es : List E3} {cs : List Int} {n : Nat}
/-- The waves behind a list of burnt vertices. -/
def roundsL (es : List E3) (cs : List Int) (n : Nat) : Nat → List Nat → List (List Nat)
  | 0, _ => []
  | k + 1, l => if readyL es cs n l = [] then [] else readyL es cs n l :: roundsL es cs n k (l ++ readyL es cs n l)
theorem rounds_none {l : List Nat} (h : readyL es cs n l = []) : ∀ k, roundsL es cs n k l = []
  | 0 => rfl
  | k + 1 => by rw [roundsL, if_pos h]
theorem rounds_some {l : List Nat} (h : readyL es cs n l ≠ []) (k : Nat) : roundsL es cs n (k + 1) l = readyL es cs n l :: roundsL es cs n k (l ++ readyL es cs n l) := by rw [roundsL, if_neg h]
theorem ready_ok {l : List Nat} (h : LOk n l) : LOk n (l ++ readyL es cs n l) := by
  refine ⟨?_, fun u hu => ?_⟩
  · rw [List.nodup_append]
    refine ⟨h.1, ?_, fun a ha b hb e => ?_⟩
    · unfold readyL; exact List.Nodup.sublist List.filter_sublist List.nodup_range
    · subst e; exact (mem_ready.1 hb).2.1 ha
  · rcases List.mem_append.1 hu with hu | hu
    · exact h.2 u hu
    · exact (mem_ready.1 hu).1
theorem rounds_more : ∀ (k j : Nat) {l : List Nat}, LOk n l → n ≤ l.length + k → n ≤ l.length + j → roundsL es cs n k l = roundsL es cs n j l
  | k, j, l, h, hk, hj => by
    by_cases hr : readyL es cs n l = []
    · rw [rounds_none hr, rounds_none hr]
    · have h2 := ready_ok (es := es) (cs := cs) h
      have h3 := nodup_len h2
      have h4 := List.length_pos_iff.2 hr
      rw [List.length_append] at h3
      obtain ⟨k', rfl⟩ : ∃ k', k = k' + 1 := ⟨k - 1, by omega⟩
      obtain ⟨j', rfl⟩ : ∃ j', j = j' + 1 := ⟨j - 1, by omega⟩
      rw [rounds_some hr, rounds_some hr, rounds_more k' j' h2 (by rw [List.length_append]; omega) (by rw [List.length_append]; omega)]
theorem rounds_length : ∀ (k : Nat) (l : List Nat), (roundsL es cs n k l).length ≤ k
  | 0, _ => by simp [roundsL]
  | k + 1, l => by
    by_cases hr : readyL es cs n l = []
    · rw [rounds_none hr]; simp
    · rw [rounds_some hr]
      have := rounds_length k (l ++ readyL es cs n l)
      simp; omega
end

/-! Sets as numbers. -/
theorem bits_all (p : Nat → Bool) : ∀ n, ∃ D, D < 2 ^ n ∧ bitsL n D = (List.range n).filter p
  | 0 => ⟨0, by simp, rfl⟩
  | n + 1 => by
    obtain ⟨D, hD, hb⟩ := bits_all p n
    have key : ∀ E : Nat, (∀ i, i < n → E.testBit i = D.testBit i) → bitsL n E = bitsL n D := by
      intro E hE
      unfold bitsL
      refine List.filter_congr fun i hi => ?_
      have := hE i (by simpa using hi)
      rwa [Nat.testBit_eq_decide_div_mod_eq, Nat.testBit_eq_decide_div_mod_eq] at this
    by_cases hp : p n = true
    · refine ⟨2 ^ n + D, by rw [Nat.pow_succ]; omega, ?_⟩
      have h1 : (2 ^ n + D) / 2 ^ n % 2 = 1 := by
        rw [Nat.add_div_left _ (Nat.two_pow_pos n), Nat.div_eq_of_lt hD]
      rw [bitsL_yes h1, key _ (fun i hi => Nat.testBit_two_pow_add_gt hi D), hb, List.range_succ, List.filter_append]
      simp [hp]
    · refine ⟨D, by rw [Nat.pow_succ]; omega, ?_⟩
      have h1 : ¬ D / 2 ^ n % 2 = 1 := by rw [Nat.div_eq_of_lt hD]; decide
      rw [bitsL_no h1, hb, List.range_succ, List.filter_append]
      simp [hp]
/-- Does a set block? -/
def bloB (es : List E3) (q : Int) (cs S : List Int) : Bool := legB es cs S && !decide (q ∈ S)
/-- A configuration is superstable exactly if no set blocks. -/
theorem super_sets {n q : Nat} {es : List E3} {cs : List Int} (hG : RightG n es) (hC : AllConn n es) (hq : q < n) :
    decide (restL n (burntL es cs n q) = []) = !((subsL n (2 ^ n)).any fun S => bloB es q cs S) := by
  by_cases hr : restL n (burntL es cs n q) = []
  · rw [decide_eq_true hr]
    symm
    rw [Bool.not_eq_true', List.any_eq_false]
    intro S hS hb
    unfold bloB at hb
    rw [Bool.and_eq_true] at hb
    obtain ⟨D, _, rfl⟩ := List.mem_map.1 hS
    have hqS : (q : Int) ∉ natsI (bitsL n D) := by simpa using hb.2
    have hall := blocks_unburnt hG hq hqS hb.1
    have hne := leg_nonempty hb.1
    cases hl : bitsL n D with
    | nil => rw [hl] at hne; exact hne rfl
    | cons v l =>
      have hv : v ∈ bitsL n D := by rw [hl]; simp
      have h1 := hall v (natsI_mem.2 hv)
      have : v ∈ restL n (burntL es cs n q) := mem_rest.2 ⟨bits_lt v hv, h1⟩
      rw [hr] at this
      simp at this
  · rw [decide_eq_false hr]
    symm
    rw [Bool.not_eq_false', List.any_eq_true]
    obtain ⟨D, hD, hb⟩ := bits_all (fun v => !decide (v ∈ burntL es cs n q)) n
    have he : natsI (bitsL n D) = (restL n (burntL es cs n q)).map fun u : Nat => (u : Int) := by rw [hb]; rfl
    have hblk := unburnt_blocks (cs := cs) hG hC hq hr
    refine ⟨natsI (bitsL n D), List.mem_map.2 ⟨D, by simpa using hD, rfl⟩, ?_⟩
    unfold bloB
    rw [he, hblk.1, decide_eq_false hblk.2]; rfl
end Go.Proofs.Ythbannpmfdflaaa
