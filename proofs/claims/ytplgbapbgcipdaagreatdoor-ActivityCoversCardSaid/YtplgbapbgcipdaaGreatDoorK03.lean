/-
  Texts of this claim, put together: TreeP, BitsP, Law.
-/
import Derived.Test.YtplgbapbgcipdaaGreatDoorK01
import Derived.WalkKit
import Derived.ProofKit
import Derived.OpenShut
import Derived.ShutString
import Derived.ChangeOld
import Derived.Below
import Derived.Test.YtplgbapbgcipdaaGreatDoorRows
/-! Plain laws of forests and spanning trees: single edges as a list of pairs; which vertices they connect, into how many parts; when they have no cycle. No program is in sight. -/
namespace Go.Proofs.YtplgbapbgcipdaaGreatDoor

/-- Two vertices that pairs connect. -/
inductive Cn (ps : List (Nat × Nat)) (a : Nat) : Nat → Prop
  | refl : Cn ps a a
  | step {b c : Nat} : Cn ps a b → ((b, c) ∈ ps ∨ (c, b) ∈ ps) → Cn ps a c
/-- All ends are below n. -/
def BdP (n : Nat) (ps : List (Nat × Nat)) : Prop := ∀ p ∈ ps, p.1 < n ∧ p.2 < n
section
variable {ps qs : List (Nat × Nat)} {a b c n : Nat}
theorem Cn.trans (h : Cn ps a b) (h' : Cn ps b c) : Cn ps a c := by
  induction h' with
  | refl => exact h
  | step _ hs ih => exact ih.step hs
theorem Cn.symm (h : Cn ps a b) : Cn ps b a := by
  induction h with
  | refl => exact .refl
  | step _ hs ih => exact (Cn.refl.step hs.symm).trans ih
theorem Cn.mono (h : Cn ps a b) (hs : ∀ p ∈ ps, p ∈ qs) : Cn qs a b := by
  induction h with
  | refl => exact .refl
  | step _ he ih => exact ih.step (he.imp (hs _) (hs _))
theorem Cn.pair {p : Nat × Nat} (h : p ∈ ps) : Cn ps p.1 p.2 := Cn.refl.step (.inl h)
theorem cn_nil (h : Cn [] a b) : a = b := by
  induction h with
  | refl => rfl
  | step _ hs _ => simp at hs
theorem cn_same (h : ∀ p, p ∈ ps ↔ p ∈ qs) : Cn ps a b ↔ Cn qs a b := ⟨fun x => x.mono fun p => (h p).1, fun x => x.mono fun p => (h p).2⟩
theorem cn_cons (p : Nat × Nat) : Cn (p :: ps) a b ↔ Cn ps a b ∨ (Cn ps a p.1 ∧ Cn ps p.2 b) ∨ (Cn ps a p.2 ∧ Cn ps p.1 b) := by
  constructor
  · intro h
    induction h with
    | refl => exact .inl .refl
    | step h0 hs ih =>
      rename_i x y
      have key : ∀ {u v : Nat}, (u, v) ∈ p :: ps → (Cn ps a u ∨ (Cn ps a p.1 ∧ Cn ps p.2 u) ∨ (Cn ps a p.2 ∧ Cn ps p.1 u)) → (Cn ps a v ∨ (Cn ps a p.1 ∧ Cn ps p.2 v) ∨ (Cn ps a p.2 ∧ Cn ps p.1 v)) := by
        intro u v huv ih
        rcases List.mem_cons.1 huv with rfl | huv
        · rcases ih with h | ⟨h1, h2⟩ | ⟨h1, h2⟩
          · exact .inr (.inl ⟨h, .refl⟩)
          · exact .inr (.inl ⟨h1, .refl⟩)
          · exact .inl h1
        · have e : Cn ps u v := Cn.pair huv
          rcases ih with h | ⟨h1, h2⟩ | ⟨h1, h2⟩
          · exact .inl (h.trans e)
          · exact .inr (.inl ⟨h1, h2.trans e⟩)
          · exact .inr (.inr ⟨h1, h2.trans e⟩)
      have key2 : ∀ {u v : Nat}, (v, u) ∈ p :: ps → (Cn ps a u ∨ (Cn ps a p.1 ∧ Cn ps p.2 u) ∨ (Cn ps a p.2 ∧ Cn ps p.1 u)) → (Cn ps a v ∨ (Cn ps a p.1 ∧ Cn ps p.2 v) ∨ (Cn ps a p.2 ∧ Cn ps p.1 v)) := by
        intro u v huv ih
        rcases List.mem_cons.1 huv with rfl | huv
        · rcases ih with h | ⟨h1, h2⟩ | ⟨h1, h2⟩
          · exact .inr (.inr ⟨h, .refl⟩)
          · exact .inl h1
          · exact .inr (.inr ⟨h1, .refl⟩)
        · have e : Cn ps u v := (Cn.pair huv).symm
          rcases ih with h | ⟨h1, h2⟩ | ⟨h1, h2⟩
          · exact .inl (h.trans e)
          · exact .inr (.inl ⟨h1, h2.trans e⟩)
          · exact .inr (.inr ⟨h1, h2.trans e⟩)
      rcases hs with hs | hs
      · exact key hs ih
      · exact key2 hs ih
  · have m : ∀ {u v}, Cn ps u v → Cn (p :: ps) u v := fun h => h.mono fun q hq => by simp [hq]
    have e : Cn (p :: ps) p.1 p.2 := Cn.pair (by simp)
    rintro (h | ⟨h1, h2⟩ | ⟨h1, h2⟩)
    · exact m h
    · exact ((m h1).trans e).trans (m h2)
    · exact ((m h1).trans e.symm).trans (m h2)
theorem cn_cons_of {p : Nat × Nat} (hp : Cn ps p.1 p.2) : Cn (p :: ps) a b ↔ Cn ps a b := by
  rw [cn_cons]
  constructor
  · rintro (h | ⟨h1, h2⟩ | ⟨h1, h2⟩)
    · exact h
    · exact (h1.trans hp).trans h2
    · exact (h1.trans hp.symm).trans h2
  · exact .inl
theorem Cn.lt (hb : BdP n ps) (ha : a < n) (h : Cn ps a b) : b < n := by
  induction h with
  | refl => exact ha
  | step _ hs _ =>
    rcases hs with hs | hs
    · exact (hb _ hs).2
    · exact (hb _ hs).1
theorem BdP.cons {p : Nat × Nat} (h : BdP n (p :: ps)) : (p.1 < n ∧ p.2 < n) ∧ BdP n ps := ⟨h p (by simp), fun q hq => h q (by simp [hq])⟩
end

theorem filter_less {l : List Nat} (hn : l.Nodup) {x : Nat} (hx : x ∈ l) {P Q : Nat → Bool} (hP : P x = true) (hQ : ∀ v ∈ l, Q v = (P v && !decide (v = x))) : (l.filter Q).length + 1 = (l.filter P).length := by
  induction l with
  | nil => simp at hx
  | cons y l ih =>
    rw [List.nodup_cons] at hn
    rcases List.mem_cons.1 hx with rfl | hx
    · have e : l.filter Q = l.filter P := List.filter_congr fun v hv => by
        rw [hQ v (by simp [hv])]
        have : v ≠ x := fun h => hn.1 (h ▸ hv)
        simp [this]
      have hqx : Q x = false := by rw [hQ x (by simp)]; simp
      rw [List.filter_cons_of_neg (by simp [hqx]), List.filter_cons_of_pos hP, e]; rfl
    · have hyx : y ≠ x := fun h => hn.1 (h ▸ hx)
      have := ih hn.2 hx (fun v hv => hQ v (by simp [hv]))
      have hqy : Q y = P y := by rw [hQ y (by simp)]; simp [hyx]
      by_cases hp : P y = true
      · rw [List.filter_cons_of_pos hp, List.filter_cons_of_pos (by rw [hqy]; exact hp)]
        simp only [List.length_cons]; omega
      · rw [List.filter_cons_of_neg hp, List.filter_cons_of_neg (by rw [hqy]; exact hp)]
        exact this

theorem nodup_sub_le {α : Type} [DecidableEq α] : ∀ {l m : List α}, l.Nodup → (∀ x ∈ l, x ∈ m) → l.length ≤ m.length
  | [], _, _, _ => by simp
  | x :: l, m, hn, hs => by
    rw [List.nodup_cons] at hn
    have hx := hs x (by simp)
    have := nodup_sub_le (l := l) (m := m.erase x) hn.2 fun y hy => by
      have hyx : y ≠ x := fun h => hn.1 (h ▸ hy)
      exact (List.mem_erase_of_ne hyx).2 (hs y (by simp [hy]))
    have h1 := List.length_erase_of_mem hx
    have h2 : 0 < m.length := List.length_pos_of_mem hx
    simp only [List.length_cons]; omega

/-- The least vertex of the part of a vertex. -/
def labF : List (Nat × Nat) → Nat → Nat
  | [], v => v
  | p :: ps, v => if labF ps v = max (labF ps p.1) (labF ps p.2) then min (labF ps p.1) (labF ps p.2) else labF ps v
/-- The number of parts of n vertices. -/
def partsP (n : Nat) (ps : List (Nat × Nat)) : Nat := ((List.range n).filter fun v => decide (labF ps v = v)).length
section
variable {ps qs : List (Nat × Nat)} {n : Nat}
theorem lab_cn : ∀ {ps : List (Nat × Nat)} {u v : Nat}, Cn ps u v ↔ labF ps u = labF ps v
  | [], u, v => ⟨fun h => cn_nil h, fun h => by have h : u = v := h
                                                subst h; exact .refl⟩
  | p :: ps, u, v => by
    rw [cn_cons, lab_cn, lab_cn, lab_cn, lab_cn, lab_cn]
    simp only [labF]
    split <;> split <;> omega
instance cn_dec (ps : List (Nat × Nat)) (a b : Nat) : Decidable (Cn ps a b) := decidable_of_iff _ lab_cn.symm
theorem lab_fix : ∀ (ps : List (Nat × Nat)) (v : Nat), labF ps v ≤ v ∧ labF ps (labF ps v) = labF ps v
  | [], v => ⟨Nat.le_refl _, rfl⟩
  | p :: ps, v => by
    have h0 := lab_fix ps v
    have h1 := lab_fix ps p.1
    have h2 := lab_fix ps p.2
    have hm : labF ps (min (labF ps p.1) (labF ps p.2)) = min (labF ps p.1) (labF ps p.2) := by
      rcases Nat.le_total (labF ps p.1) (labF ps p.2) with h | h
      · rw [Nat.min_eq_left h]; exact h1.2
      · rw [Nat.min_eq_right h]; exact h2.2
    have hd : ∀ x, labF (p :: ps) x = if labF ps x = max (labF ps p.1) (labF ps p.2) then min (labF ps p.1) (labF ps p.2) else labF ps x := fun _ => rfl
    by_cases h : labF ps v = max (labF ps p.1) (labF ps p.2)
    · have e : labF (p :: ps) v = min (labF ps p.1) (labF ps p.2) := by rw [hd, if_pos h]
      rw [e, hd, hm]
      refine ⟨by omega, ?_⟩
      split <;> omega
    · have e : labF (p :: ps) v = labF ps v := by rw [hd, if_neg h]
      rw [e, hd, h0.2, if_neg h]; exact ⟨h0.1, rfl⟩
theorem lab_self (ps : List (Nat × Nat)) (v : Nat) : Cn ps (labF ps v) v := lab_cn.2 (lab_fix ps v).2
theorem lab_low {v : Nat} : labF ps v = v ↔ ∀ u, u < v → ¬ Cn ps u v := by
  constructor
  · intro h u hu hc
    have := lab_cn.1 hc
    have := (lab_fix ps u).1; omega
  · intro h
    have := (lab_fix ps v).1
    rcases Nat.lt_or_ge (labF ps v) v with hl | hl
    · exact absurd (lab_self ps v) (h _ hl)
    · omega
theorem partsP_nil (n : Nat) : partsP n [] = n := by
  unfold partsP
  rw [List.filter_eq_self.2]
  · simp
  · intro v _; simp [labF]
theorem partsP_congr (h : ∀ a b, Cn ps a b ↔ Cn qs a b) : partsP n ps = partsP n qs := by
  unfold partsP
  congr 1
  refine List.filter_congr fun v _ => ?_
  rw [Bool.eq_iff_iff, decide_eq_true_eq, decide_eq_true_eq, lab_low, lab_low]
  exact ⟨fun k u hu hc => k u hu ((h _ _).2 hc), fun k u hu hc => k u hu ((h _ _).1 hc)⟩
theorem partsP_in {p : Nat × Nat} (hp : Cn ps p.1 p.2) : partsP n (p :: ps) = partsP n ps := partsP_congr fun _ _ => cn_cons_of hp
theorem partsP_out {p : Nat × Nat} (h1 : p.1 < n) (h2 : p.2 < n) (hp : ¬ Cn ps p.1 p.2) : partsP n (p :: ps) + 1 = partsP n ps := by
  rw [lab_cn] at hp
  have k1 := lab_fix ps p.1
  have k2 := lab_fix ps p.2
  unfold partsP
  have hM : labF ps (max (labF ps p.1) (labF ps p.2)) = max (labF ps p.1) (labF ps p.2) := by
    rcases Nat.le_total (labF ps p.1) (labF ps p.2) with h | h
    · rw [Nat.max_eq_right h]; exact k2.2
    · rw [Nat.max_eq_left h]; exact k1.2
  have hm : labF ps (min (labF ps p.1) (labF ps p.2)) = min (labF ps p.1) (labF ps p.2) := by
    rcases Nat.le_total (labF ps p.1) (labF ps p.2) with h | h
    · rw [Nat.min_eq_left h]; exact k1.2
    · rw [Nat.min_eq_right h]; exact k2.2
  refine filter_less List.nodup_range (x := max (labF ps p.1) (labF ps p.2)) (by rw [List.mem_range]; omega) (by rw [decide_eq_true_eq]; exact hM) ?_
  intro v _
  rw [Bool.eq_iff_iff]
  simp only [Bool.and_eq_true, Bool.not_eq_true', decide_eq_true_eq, decide_eq_false_iff_not]
  rw [labF]
  split
  · rename_i h
    constructor
    · intro he
      rw [he] at hm; omega
    · rintro ⟨e1, e2⟩; omega
  · rename_i h
    constructor
    · intro he; exact ⟨he, fun e => h (by omega)⟩
    · exact fun h => h.1
theorem partsP_pos (hn : 0 < n) : 1 ≤ partsP n ps := by
  unfold partsP
  apply List.length_pos_of_mem (a := 0)
  rw [List.mem_filter, List.mem_range, decide_eq_true_eq]
  have := (lab_fix ps 0).1
  exact ⟨hn, by omega⟩
theorem partsP_one (hn : 0 < n) : partsP n ps = 1 ↔ ∀ v, v < n → Cn ps 0 v := by
  have h00 : labF ps 0 = 0 := by have := (lab_fix ps 0).1; omega
  constructor
  · intro h v hv
    rw [lab_cn, h00]
    have hf := lab_fix ps v
    by_cases h0 : labF ps v = 0
    · exact h0.symm
    · exfalso
      have : ([0, labF ps v] : List Nat).length ≤ partsP n ps := by
        unfold partsP
        refine nodup_sub_le ?_ ?_
        · simp; omega
        · intro x hx
          rw [List.mem_filter, List.mem_range, decide_eq_true_eq]
          simp only [List.mem_cons, List.not_mem_nil, or_false] at hx
          rcases hx with rfl | rfl
          · exact ⟨hn, h00⟩
          · exact ⟨by omega, hf.2⟩
      simp at this; omega
  · intro h
    unfold partsP
    have e : (List.range n).filter (fun v => decide (labF ps v = v)) = (List.range n).filter (fun v => decide (v = 0)) := by
      refine List.filter_congr fun v hv => ?_
      rw [List.mem_range] at hv
      have := lab_cn.1 (h v hv)
      rw [h00] at this
      rw [← this, Bool.eq_iff_iff]
      simp only [decide_eq_true_eq]; omega
    rw [e]
    obtain ⟨m, rfl⟩ : ∃ m, n = m + 1 := ⟨n - 1, by omega⟩
    rw [List.range_succ_eq_map, List.filter_cons_of_pos (by simp), List.filter_eq_nil_iff.2]
    · rfl
    · intro x hx
      obtain ⟨y, _, rfl⟩ := List.mem_map.1 hx
      simp

/-- A list of pairs without a cycle. -/
def Fo : List (Nat × Nat) → Prop
  | [] => True
  | p :: ps => Fo ps ∧ ¬ Cn ps p.1 p.2
/-- .. as a bool. -/
def foB : List (Nat × Nat) → Bool
  | [] => true
  | p :: ps => foB ps && !decide (Cn ps p.1 p.2)
theorem foB_iff : ∀ {ps : List (Nat × Nat)}, foB ps = true ↔ Fo ps
  | [] => by simp [foB, Fo]
  | p :: ps => by rw [foB, Bool.and_eq_true, foB_iff, Bool.not_eq_true', decide_eq_false_iff_not]; rfl
theorem fo_parts : ∀ {ps : List (Nat × Nat)}, BdP n ps → n ≤ partsP n ps + ps.length ∧ (Fo ps ↔ partsP n ps + ps.length = n)
  | [], _ => by rw [partsP_nil]; simp [Fo]
  | p :: ps, hb => by
    obtain ⟨⟨h1, h2⟩, hb'⟩ := hb.cons
    obtain ⟨i1, i2⟩ := fo_parts hb'
    rw [List.length_cons]
    by_cases hc : Cn ps p.1 p.2
    · rw [partsP_in hc]
      refine ⟨by omega, ⟨fun h => absurd hc h.2, fun h => by omega⟩⟩
    · have := partsP_out h1 h2 hc
      refine ⟨by omega, ⟨fun h => ?_, fun h => ⟨i2.2 (by omega), hc⟩⟩⟩
      have := i2.1 h.1; omega
theorem fo_mem (hb : BdP n ps) (hb' : BdP n qs) (hl : ps.length = qs.length) (h : ∀ p, p ∈ ps ↔ p ∈ qs) : Fo ps ↔ Fo qs := by
  rw [(fo_parts hb).2, (fo_parts hb').2, partsP_congr (fun _ _ => cn_same h), hl]
theorem BdP.perm (h : BdP n ps) (hp : ps.Perm qs) : BdP n qs := fun p hq => h p (hp.mem_iff.2 hq)
theorem fo_perm (hb : BdP n ps) (hp : ps.Perm qs) : Fo ps ↔ Fo qs := fo_mem hb (hb.perm hp) hp.length_eq fun _ => hp.mem_iff
theorem Fo.sub (h : Fo ps) (hs : qs.Sublist ps) : Fo qs := by
  induction hs with
  | slnil => exact h
  | cons p _ ih => exact ih h.1
  | cons_cons p hs ih => exact ⟨ih h.1, fun hc => h.2 (hc.mono fun q hq => hs.subset hq)⟩
/-- Any two of: no cycle; one part; as many pairs as vertices but one. -/
theorem tree_of_fo (hb : BdP n ps) (h : Fo ps) : partsP n ps = 1 ↔ ps.length + 1 = n := by
  have := (fo_parts hb).2.1 h; omega
theorem tree_of_len (hb : BdP n ps) (hl : ps.length + 1 = n) : partsP n ps = 1 ↔ Fo ps := by
  rw [(fo_parts hb).2]; omega
end
end Go.Proofs.YtplgbapbgcipdaaGreatDoor

/-! Plain laws of sets as binary numbers. No program is in sight. -/
namespace Go.Proofs.YtplgbapbgcipdaaGreatDoor

/-- The numbers below k whose binary digits are in a number. -/
def bitsL (k D : Nat) : List Nat := (List.range k).filter fun i => decide (D / 2 ^ i % 2 = 1)
theorem bitsL_yes {k D : Nat} (h : D / 2 ^ k % 2 = 1) : bitsL (k + 1) D = bitsL k D ++ [k] := by simp [bitsL, List.range_succ, h]
theorem bitsL_no {k D : Nat} (h : ¬ D / 2 ^ k % 2 = 1) : bitsL (k + 1) D = bitsL k D := by simp [bitsL, List.range_succ, h]
theorem bits_lt {k D : Nat} : ∀ v ∈ bitsL k D, v < k := fun v hv => by
  have := (List.mem_filter.1 hv).1
  simpa using this
/-! Sets as numbers. -/
theorem bits_all (p : Nat → Bool) : ∀ n, ∃ D, D < 2 ^ n ∧ bitsL n D = (List.range n).filter p
  | 0 => ⟨0, by simp, rfl⟩
  | n + 1 => by
    obtain ⟨D, hD, hb⟩ := bits_all p n
    have key : ∀ E : Nat, (∀ i, i < n → E.testBit i = D.testBit i) → bitsL n E = bitsL n D := by
      intro E hE
      unfold bitsL
      refine List.filter_congr fun i hi => ?_
      have := hE i (by simpa using hi)
      rwa [Nat.testBit_eq_decide_div_mod_eq, Nat.testBit_eq_decide_div_mod_eq] at this
    by_cases hp : p n = true
    · refine ⟨2 ^ n + D, by rw [Nat.pow_succ]; omega, ?_⟩
      have h1 : (2 ^ n + D) / 2 ^ n % 2 = 1 := by
        rw [Nat.add_div_left _ (Nat.two_pow_pos n), Nat.div_eq_of_lt hD]
      rw [bitsL_yes h1, key _ (fun i hi => Nat.testBit_two_pow_add_gt hi D), hb, List.range_succ, List.filter_append]
      simp [hp]
    · refine ⟨D, by rw [Nat.pow_succ]; omega, ?_⟩
      have h1 : ¬ D / 2 ^ n % 2 = 1 := by rw [Nat.div_eq_of_lt hD]; decide
      rw [bitsL_no h1, hb, List.range_succ, List.filter_append]
      simp [hp]
theorem mem_bits {k D v : Nat} : v ∈ bitsL k D ↔ v < k ∧ D.testBit v = true := by
  unfold bitsL
  rw [List.mem_filter, List.mem_range, Nat.testBit_eq_decide_div_mod_eq]
theorem bits_inj {k D D' : Nat} (h1 : D < 2 ^ k) (h2 : D' < 2 ^ k) (h : bitsL k D = bitsL k D') : D = D' := by
  apply Nat.eq_of_testBit_eq
  intro i
  rcases Nat.lt_or_ge i k with hi | hi
  · have e : (i ∈ bitsL k D) ↔ (i ∈ bitsL k D') := by rw [h]
    rw [mem_bits, mem_bits] at e
    rw [Bool.eq_iff_iff]
    exact ⟨fun x => (e.1 ⟨hi, x⟩).2, fun x => (e.2 ⟨hi, x⟩).2⟩
  · have hp : 2 ^ k ≤ 2 ^ i := Nat.pow_le_pow_right (by omega) hi
    rw [Nat.testBit_lt_two_pow (by omega), Nat.testBit_lt_two_pow (by omega)]
theorem bits_asc' (k D : Nat) : (bitsL k D).Pairwise (· < ·) := List.Pairwise.sublist List.filter_sublist List.pairwise_lt_range
/-- Each ascending list of numbers is a set with a number. -/
theorem bits_of {k : Nat} {x : List Nat} (h : x.Pairwise (· < ·)) (hl : ∀ v ∈ x, v < k) : ∃ D, D < 2 ^ k ∧ bitsL k D = x := by
  obtain ⟨D, hD, hb⟩ := bits_all (fun v => decide (v ∈ x)) k
  refine ⟨D, hD, ?_⟩
  rw [hb]
  refine List.Perm.eq_of_pairwise (le := (· < ·)) (fun a b _ _ h1 h2 => by omega) (List.Pairwise.sublist List.filter_sublist List.pairwise_lt_range) h ?_
  refine (List.perm_ext_iff_of_nodup (List.Nodup.sublist List.filter_sublist List.nodup_range) (h.imp fun h => by omega)).2 fun v => ?_
  rw [List.mem_filter, List.mem_range, decide_eq_true_eq]
  exact ⟨fun h => h.2, fun h => ⟨hl v h, h⟩⟩
end Go.Proofs.YtplgbapbgcipdaaGreatDoor

/-! What the laws' proofs share: a slice of ints that came in reads as a list. -/
namespace Go.Proofs.YtplgbapbgcipdaaGreatDoor
open Go.ChangeShapes Go.WideShapes Go.ChangeAt Go.RowKit

theorem own : ownKnob Tryz.prog.godebug = none := by kernel_rfl
theorem laidOut : laidOutB Tryz.prog = true := by kernel_rfl

/-- A slice of integers that came in: nil, or a row of 'cap' cells. -/
def IsRow (k : IntKind) (w : World) (a : Option Addr) (len cap : Nat) (zs : List Int) : Prop :=
  (a = none ∧ len = 0 ∧ cap = 0 ∧ zs = []) ∨
  ∃ x, a = some x ∧ len ≤ cap ∧ cap ≤ maxLen ∧ zs.length = cap ∧ (∀ i, i < zs.length → w.cell? (x.add i) = some (.int k (zs.getD i 0))) ∧ ∀ n ∈ zs, (Lit.int k n).wf = true

theorem IsRow.reads {w : World} {a : Option Addr} {len cap : Nat} {zs : List Int} (h : IsRow .i64 w a len cap zs) :
    ∃ xs : List Int, xs.length = len ∧ len ≤ maxLen ∧ Reads w w.heap.size 1 a xs.length (ints xs) ∧ ∀ x ∈ xs, (Lit.int .i64 x).wf = true := by
  rcases h with ⟨rfl, rfl, rfl, rfl⟩ | ⟨x, rfl, hl, hm, hz, hc, hw⟩
  · exact ⟨[], rfl, by simp [maxLen], Reads.nil_, by simp⟩
  · have hlen : (zs.take len).length = len := by simp; omega
    refine ⟨zs.take len, hlen, Nat.le_trans hl hm, ⟨by rw [ints_length, Nat.mul_one], fun hn => ?_⟩, fun y hy => hw y (List.mem_of_mem_take hy)⟩
    obtain ⟨b, off, spot⟩ := x
    have h0 := hc 0 (by omega)
    obtain rfl : spot = none := by simpa [Addr.add] using World.cell?_spot h0
    refine ⟨b, off, rfl, ?_, fun j u hu => ?_⟩
    · have := World.block_lt_of_cell? w _ h0
      simpa [Addr.add] using this
    · obtain ⟨hj, hju⟩ := List.getElem?_eq_some_iff.1 hu
      rw [ints_length, hlen] at hj
      have h1 := hc j (by omega)
      have h2 : (zs.take len)[j]? = some (zs.getD j 0) := by
        rw [List.getElem?_take_of_lt hj, List.getD_eq_getElem?_getD, List.getElem?_eq_getElem (by omega)]
        rfl
      rw [ints_at h2] at hu
      injection hu with hu
      rw [← hu, ← h1]
      by_cases e : j = 0
      · subst e; simp [Addr.add]
      · simp [Addr.add, e]
end Go.Proofs.YtplgbapbgcipdaaGreatDoor

