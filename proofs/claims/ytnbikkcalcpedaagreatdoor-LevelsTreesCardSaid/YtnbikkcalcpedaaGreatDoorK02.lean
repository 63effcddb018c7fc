/-
 Texts of this claim, put together: SortG, TreeP, BitsP, DecP, Law, Own.
-/
import Derived.Test.YtnbikkcalcpedaaGreatDoorK01
import Derived.WalkKit
import Derived.ProofKit
import Derived.OpenShut
import Derived.ShutString
import Derived.ChangeOld
import Derived.Below
import Derived.Test.YtnbikkcalcpedaaGreatDoorRows
import Derived.WalkSpells
import Derived.Maps.AppendAt
import Derived.OwnWalk
import Derived.OwnWalkIn
namespace Go.Proofs.YtnbikkcalcpedaaGreatDoor
def insK {α : Type} (lt : α → α → Bool) (x : α) (out : List α) : Nat → Nat
 | 0 => 0
 | k + 1 => match out[k]? with
   | some y => if lt x y then insK lt x out k else k + 1
   | none => k + 1
def insS {α : Type} (lt : α → α → Bool) (out : List α) (x : α) : List α := out.take (insK lt x out out.length) ++ x :: out.drop (insK lt x out out.length)
def sortG {α : Type} (lt : α → α → Bool) (xs : List α) : List α := xs.foldl (insS lt) []
section
variable {α : Type} {lt : α → α → Bool} {x : α} {out xs : List α}
theorem insK_le : ∀ (k : Nat), insK lt x out k ≤ k
 | 0 => Nat.le_refl _
 | k + 1 => by
   have := insK_le k
   rw [insK]
   split
   ·split <;> omega
   ·omega
theorem insS_perm (out : List α) (x : α) : (insS lt out x).Perm (x :: out) := by
 unfold insS
 have h := List.take_append_drop (insK lt x out out.length) out
 conv => rhs; rw [← h]
 exact List.perm_middle
theorem sortG_perm (xs : List α) : (sortG lt xs).Perm xs := by
 unfold sortG
 suffices H : ∀ (xs out : List α), (xs.foldl (insS lt) out).Perm (out ++ xs) by simpa using H xs []
 intro xs
 induction xs with
 | nil => intro out; simp
 | cons x xs ih =>
   intro out
   rw [List.foldl_cons]
   refine (ih _).trans ?_
   refine ((insS_perm out x).append_right xs).trans ?_
   exact List.perm_middle.symm
theorem sortG_length (xs : List α) : (sortG lt xs).length = xs.length := (sortG_perm xs).length_eq
theorem insK_spec : ∀ (k : Nat), k ≤ out.length → (∀ j y, insK lt x out k ≤ j → j < k → out[j]? = some y → lt x y = true) ∧ (∀ j y, insK lt x out k = j + 1 → out[j]? = some y → lt x y = false)
 | 0, _ => ⟨fun j y _ h => by omega, fun j y h => by rw [insK] at h; omega⟩
 | k + 1, hk => by
   obtain ⟨i1, i2⟩ := insK_spec k (by omega)
   have hg : out[k]? = some out[k] := List.getElem?_eq_getElem (by omega)
   rw [insK, hg]
   simp only
   by_cases h : lt x out[k] = true
   ·rw [if_pos h]
    refine ⟨?_, i2⟩
    intro j y h1 h2 h3
    rcases Nat.lt_or_ge j k with h4 | h4
    ·exact i1 j y h1 h4 h3
    ·have : j = k := by omega
     subst this
     rw [hg] at h3; injection h3 with h3; rw [← h3]; exact h
   ·rw [if_neg h]
    refine ⟨fun j y h1 h2 => by omega, ?_⟩
    intro j y h1 h2
    have : j = k := by omega
    subst this
    rw [hg] at h2; injection h2 with h2; rw [← h2]
    simpa using h
theorem insS_sorted (htr : ∀ a b c, lt b a = false → lt c b = false → lt c a = false) (has : ∀ a b, lt a b = true → lt b a = false) (h : out.Pairwise fun a b => lt b a = false) : (insS lt out x).Pairwise fun a b => lt b a = false := by
 obtain ⟨k, hk⟩ : ∃ k, insK lt x out out.length = k := ⟨_, rfl⟩
 obtain ⟨s1, s2⟩ := insK_spec (lt := lt) (x := x) (out := out) out.length (Nat.le_refl _)
 have hle := insK_le (lt := lt) (x := x) (out := out) out.length
 rw [hk] at s1 s2 hle
 unfold insS
 rw [hk, List.pairwise_append]
 have hd : ∀ b ∈ out.drop k, lt x b = true := by
  intro b hb
  obtain ⟨i, hi⟩ := List.mem_iff_getElem?.1 hb
  rw [List.getElem?_drop] at hi
  have : k + i < out.length := by
   rcases Nat.lt_or_ge (k + i) out.length with h | h
   ·exact h
   ·rw [List.getElem?_eq_none h] at hi; cases hi
  exact s1 _ b (by omega) this hi
 have ht : ∀ a ∈ out.take k, lt x a = false := by
  intro a ha
  obtain ⟨i, hi⟩ := List.mem_iff_getElem?.1 ha
  have hik : i < k := by
   rcases Nat.lt_or_ge i k with h | h
   ·exact h
   ·rw [List.getElem?_eq_none (by simp; omega)] at hi; cases hi
  rw [List.getElem?_take_of_lt hik] at hi
  obtain ⟨m, rfl⟩ : ∃ m, k = m + 1 := ⟨k - 1, by omega⟩
  have hm : out[m]? = some out[m] := List.getElem?_eq_getElem (by omega)
  have h1 := s2 m _ rfl hm
  rcases Nat.lt_or_ge i m with him | him
  ·have h2 : lt out[m] a = false := by
    have := List.pairwise_iff_getElem.1 h i m (by omega) (by omega) him
    have ha' : out[i]'(by omega) = a := by
     rw [List.getElem?_eq_getElem (by omega)] at hi; injection hi
    rw [ha'] at this; exact this
   exact htr _ _ _ h2 h1
  ·have : i = m := by omega
   subst this
   rw [hm] at hi; injection hi with hi; rw [← hi]; exact h1
 refine ⟨h.sublist (List.take_sublist _ _), List.pairwise_cons.2 ⟨fun b hb => has _ _ (hd b hb), h.sublist (List.drop_sublist _ _)⟩, ?_⟩
 intro a ha b hb
 rcases List.mem_cons.1 hb with rfl | hb
 ·exact ht a ha
 ·exact htr _ _ _ (ht a ha) (has _ _ (hd b hb))
theorem sortG_sorted (htr : ∀ a b c, lt b a = false → lt c b = false → lt c a = false) (has : ∀ a b, lt a b = true → lt b a = false) (xs : List α) : (sortG lt xs).Pairwise fun a b => lt b a = false := by
 unfold sortG
 suffices H : ∀ (xs out : List α), (out.Pairwise fun a b => lt b a = false) → ((xs.foldl (insS lt) out).Pairwise fun a b => lt b a = false) from H xs [] .nil
 intro xs
 induction xs with
 | nil => intro out h; exact h
 | cons x xs ih => intro out h; rw [List.foldl_cons]; exact ih _ (insS_sorted htr has h)
theorem sorted_eq {l m : List α} (han : ∀ a b, lt a b = false → lt b a = false → a = b) (hl : l.Pairwise fun a b => lt b a = false) (hm : m.Pairwise fun a b => lt b a = false) (hp : l.Perm m) : l = m :=
 List.Perm.eq_of_pairwise (fun a b _ _ h1 h2 => han a b h2 h1) hl hm hp
theorem perm_of_mem [DecidableEq α] {l m : List α} (hl : l.Nodup) (hm : m.Nodup) (h : ∀ x, x ∈ l ↔ x ∈ m) : l.Perm m := by
 rw [List.perm_iff_count]
 intro x
 rw [hl.count, hm.count]
 by_cases hx : x ∈ l
 ·rw [if_pos hx, if_pos ((h x).1 hx)]
 ·rw [if_neg hx, if_neg (fun k => hx ((h x).2 k))]
end
def ltI (a b : Int) : Bool := decide (a < b)
def bfI : List Int → List Int → Bool
 | _, [] => false
 | [], _ :: _ => true
 | x :: a, y :: b => if x = y then bfI a b else decide (x < y)
theorem bfI_as : ∀ (a b : List Int), bfI a b = true → bfI b a = false
 | _, [], h => by simp [bfI] at h
 | [], _ :: _, _ => rfl
 | x :: a, y :: b, h => by
   rw [bfI] at h ⊢
   by_cases hxy : x = y
   ·subst hxy
    rw [if_pos rfl] at h ⊢
    exact bfI_as a b h
   ·rw [if_neg hxy] at h
    rw [if_neg (Ne.symm hxy)]
    simp at h ⊢; omega
theorem bfI_pre (p a b : List Int) : bfI (p ++ a) (p ++ b) = bfI a b := by
 induction p with
 | nil => rfl
 | cons x p ih => rw [List.cons_append, List.cons_append, bfI, if_pos rfl, ih]
theorem ltI_as (a b : Int) (h : ltI a b = true) : ltI b a = false := by simp [ltI] at *; omega
theorem ltI_tr (a b c : Int) (h1 : ltI b a = false) (h2 : ltI c b = false) : ltI c a = false := by simp [ltI] at *; omega
theorem ltI_an (a b : Int) (h1 : ltI a b = false) (h2 : ltI b a = false) : a = b := by simp [ltI] at *; omega
theorem sortI_eq {l m : List Int} (hl : l.Perm m) (hm : m.Pairwise (· ≤ ·)) : sortG ltI l = m :=
 sorted_eq ltI_an (sortG_sorted ltI_tr ltI_as l) (hm.imp fun h => by simp [ltI]; exact h) ((sortG_perm l).trans hl)
end Go.Proofs.YtnbikkcalcpedaaGreatDoor
namespace Go.Proofs.YtnbikkcalcpedaaGreatDoor
inductive Cn (ps : List (Nat × Nat)) (a : Nat) : Nat → Prop
 | refl : Cn ps a a
 | step {b c : Nat} : Cn ps a b → ((b, c) ∈ ps ∨ (c, b) ∈ ps) → Cn ps a c
def BdP (n : Nat) (ps : List (Nat × Nat)) : Prop := ∀ p ∈ ps, p.1 < n ∧ p.2 < n
section
variable {ps qs : List (Nat × Nat)} {a b c n : Nat}
theorem Cn.trans (h : Cn ps a b) (h' : Cn ps b c) : Cn ps a c := by
 induction h' with
 | refl => exact h
 | step _ hs ih => exact ih.step hs
theorem Cn.symm (h : Cn ps a b) : Cn ps b a := by
 induction h with
 | refl => exact .refl
 | step _ hs ih => exact (Cn.refl.step hs.symm).trans ih
theorem Cn.mono (h : Cn ps a b) (hs : ∀ p ∈ ps, p ∈ qs) : Cn qs a b := by
 induction h with
 | refl => exact .refl
 | step _ he ih => exact ih.step (he.imp (hs _) (hs _))
theorem Cn.pair {p : Nat × Nat} (h : p ∈ ps) : Cn ps p.1 p.2 := Cn.refl.step (.inl h)
theorem cn_nil (h : Cn [] a b) : a = b := by
 induction h with
 | refl => rfl
 | step _ hs _ => simp at hs
theorem cn_same (h : ∀ p, p ∈ ps ↔ p ∈ qs) : Cn ps a b ↔ Cn qs a b := ⟨fun x => x.mono fun p => (h p).1, fun x => x.mono fun p => (h p).2⟩
theorem cn_cons (p : Nat × Nat) : Cn (p :: ps) a b ↔ Cn ps a b ∨ (Cn ps a p.1 ∧ Cn ps p.2 b) ∨ (Cn ps a p.2 ∧ Cn ps p.1 b) := by
 constructor
 ·intro h
  induction h with
  | refl => exact .inl .refl
  | step h0 hs ih =>
    rename_i x y
    have key : ∀ {u v : Nat}, (u, v) ∈ p :: ps → (Cn ps a u ∨ (Cn ps a p.1 ∧ Cn ps p.2 u) ∨ (Cn ps a p.2 ∧ Cn ps p.1 u)) → (Cn ps a v ∨ (Cn ps a p.1 ∧ Cn ps p.2 v) ∨ (Cn ps a p.2 ∧ Cn ps p.1 v)) := by
     intro u v huv ih
     rcases List.mem_cons.1 huv with rfl | huv
     ·rcases ih with h | ⟨h1, h2⟩ | ⟨h1, h2⟩
      ·exact .inr (.inl ⟨h, .refl⟩)
      ·exact .inr (.inl ⟨h1, .refl⟩)
      ·exact .inl h1
     ·have e : Cn ps u v := Cn.pair huv
      rcases ih with h | ⟨h1, h2⟩ | ⟨h1, h2⟩
      ·exact .inl (h.trans e)
      ·exact .inr (.inl ⟨h1, h2.trans e⟩)
      ·exact .inr (.inr ⟨h1, h2.trans e⟩)
    have key2 : ∀ {u v : Nat}, (v, u) ∈ p :: ps → (Cn ps a u ∨ (Cn ps a p.1 ∧ Cn ps p.2 u) ∨ (Cn ps a p.2 ∧ Cn ps p.1 u)) → (Cn ps a v ∨ (Cn ps a p.1 ∧ Cn ps p.2 v) ∨ (Cn ps a p.2 ∧ Cn ps p.1 v)) := by
     intro u v huv ih
     rcases List.mem_cons.1 huv with rfl | huv
     ·rcases ih with h | ⟨h1, h2⟩ | ⟨h1, h2⟩
      ·exact .inr (.inr ⟨h, .refl⟩)
      ·exact .inl h1
      ·exact .inr (.inr ⟨h1, .refl⟩)
     ·have e : Cn ps u v := (Cn.pair huv).symm
      rcases ih with h | ⟨h1, h2⟩ | ⟨h1, h2⟩
      ·exact .inl (h.trans e)
      ·exact .inr (.inl ⟨h1, h2.trans e⟩)
      ·exact .inr (.inr ⟨h1, h2.trans e⟩)
    rcases hs with hs | hs
    ·exact key hs ih
    ·exact key2 hs ih
 ·have m : ∀ {u v}, Cn ps u v → Cn (p :: ps) u v := fun h => h.mono fun q hq => by simp [hq]
  have e : Cn (p :: ps) p.1 p.2 := Cn.pair (by simp)
  rintro (h | ⟨h1, h2⟩ | ⟨h1, h2⟩)
  ·exact m h
  ·exact ((m h1).trans e).trans (m h2)
  ·exact ((m h1).trans e.symm).trans (m h2)
theorem cn_cons_of {p : Nat × Nat} (hp : Cn ps p.1 p.2) : Cn (p :: ps) a b ↔ Cn ps a b := by
 rw [cn_cons]
 constructor
 ·rintro (h | ⟨h1, h2⟩ | ⟨h1, h2⟩)
  ·exact h
  ·exact (h1.trans hp).trans h2
  ·exact (h1.trans hp.symm).trans h2
 ·exact .inl
theorem Cn.lt (hb : BdP n ps) (ha : a < n) (h : Cn ps a b) : b < n := by
 induction h with
 | refl => exact ha
 | step _ hs _ =>
   rcases hs with hs | hs
   ·exact (hb _ hs).2
   ·exact (hb _ hs).1
theorem BdP.cons {p : Nat × Nat} (h : BdP n (p :: ps)) : (p.1 < n ∧ p.2 < n) ∧ BdP n ps := ⟨h p (by simp), fun q hq => h q (by simp [hq])⟩
end
theorem filter_less {l : List Nat} (hn : l.Nodup) {x : Nat} (hx : x ∈ l) {P Q : Nat → Bool} (hP : P x = true) (hQ : ∀ v ∈ l, Q v = (P v && !decide (v = x))) : (l.filter Q).length + 1 = (l.filter P).length := by
 induction l with
 | nil => simp at hx
 | cons y l ih =>
   rw [List.nodup_cons] at hn
   rcases List.mem_cons.1 hx with rfl | hx
   ·have e : l.filter Q = l.filter P := List.filter_congr fun v hv => by
     rw [hQ v (by simp [hv])]
     have : v ≠ x := fun h => hn.1 (h ▸ hv)
     simp [this]
    have hqx : Q x = false := by rw [hQ x (by simp)]; simp
    rw [List.filter_cons_of_neg (by simp [hqx]), List.filter_cons_of_pos hP, e]; rfl
   ·have hyx : y ≠ x := fun h => hn.1 (h ▸ hx)
    have := ih hn.2 hx (fun v hv => hQ v (by simp [hv]))
    have hqy : Q y = P y := by rw [hQ y (by simp)]; simp [hyx]
    by_cases hp : P y = true
    ·rw [List.filter_cons_of_pos hp, List.filter_cons_of_pos (by rw [hqy]; exact hp)]
     simp only [List.length_cons]; omega
    ·rw [List.filter_cons_of_neg hp, List.filter_cons_of_neg (by rw [hqy]; exact hp)]
     exact this
theorem nodup_sub_le {α : Type} [DecidableEq α] : ∀ {l m : List α}, l.Nodup → (∀ x ∈ l, x ∈ m) → l.length ≤ m.length
 | [], _, _, _ => by simp
 | x :: l, m, hn, hs => by
   rw [List.nodup_cons] at hn
   have hx := hs x (by simp)
   have := nodup_sub_le (l := l) (m := m.erase x) hn.2 fun y hy => by
    have hyx : y ≠ x := fun h => hn.1 (h ▸ hy)
    exact (List.mem_erase_of_ne hyx).2 (hs y (by simp [hy]))
   have h1 := List.length_erase_of_mem hx
   have h2 : 0 < m.length := List.length_pos_of_mem hx
   simp only [List.length_cons]; omega
def labF : List (Nat × Nat) → Nat → Nat
 | [], v => v
 | p :: ps, v => if labF ps v = max (labF ps p.1) (labF ps p.2) then min (labF ps p.1) (labF ps p.2) else labF ps v
def partsP (n : Nat) (ps : List (Nat × Nat)) : Nat := ((List.range n).filter fun v => decide (labF ps v = v)).length
section
variable {ps qs : List (Nat × Nat)} {n : Nat}
theorem lab_cn : ∀ {ps : List (Nat × Nat)} {u v : Nat}, Cn ps u v ↔ labF ps u = labF ps v
 | [], u, v => ⟨fun h => cn_nil h, fun h => by have h : u = v := h
                                               subst h; exact .refl⟩
 | p :: ps, u, v => by
   rw [cn_cons, lab_cn, lab_cn, lab_cn, lab_cn, lab_cn]
   simp only [labF]
   split <;> split <;> omega
instance cn_dec (ps : List (Nat × Nat)) (a b : Nat) : Decidable (Cn ps a b) := decidable_of_iff _ lab_cn.symm
theorem lab_fix : ∀ (ps : List (Nat × Nat)) (v : Nat), labF ps v ≤ v ∧ labF ps (labF ps v) = labF ps v
 | [], v => ⟨Nat.le_refl _, rfl⟩
 | p :: ps, v => by
   have h0 := lab_fix ps v
   have h1 := lab_fix ps p.1
   have h2 := lab_fix ps p.2
   have hm : labF ps (min (labF ps p.1) (labF ps p.2)) = min (labF ps p.1) (labF ps p.2) := by
    rcases Nat.le_total (labF ps p.1) (labF ps p.2) with h | h
    ·rw [Nat.min_eq_left h]; exact h1.2
    ·rw [Nat.min_eq_right h]; exact h2.2
   have hd : ∀ x, labF (p :: ps) x = if labF ps x = max (labF ps p.1) (labF ps p.2) then min (labF ps p.1) (labF ps p.2) else labF ps x := fun _ => rfl
   by_cases h : labF ps v = max (labF ps p.1) (labF ps p.2)
   ·have e : labF (p :: ps) v = min (labF ps p.1) (labF ps p.2) := by rw [hd, if_pos h]
    rw [e, hd, hm]
    refine ⟨by omega, ?_⟩
    split <;> omega
   ·have e : labF (p :: ps) v = labF ps v := by rw [hd, if_neg h]
    rw [e, hd, h0.2, if_neg h]; exact ⟨h0.1, rfl⟩
theorem lab_self (ps : List (Nat × Nat)) (v : Nat) : Cn ps (labF ps v) v := lab_cn.2 (lab_fix ps v).2
theorem lab_low {v : Nat} : labF ps v = v ↔ ∀ u, u < v → ¬ Cn ps u v := by
 constructor
 ·intro h u hu hc
  have := lab_cn.1 hc
  have := (lab_fix ps u).1; omega
 ·intro h
  have := (lab_fix ps v).1
  rcases Nat.lt_or_ge (labF ps v) v with hl | hl
  ·exact absurd (lab_self ps v) (h _ hl)
  ·omega
theorem partsP_nil (n : Nat) : partsP n [] = n := by
 unfold partsP
 rw [List.filter_eq_self.2]
 ·simp
 ·intro v _; simp [labF]
theorem partsP_congr (h : ∀ a b, Cn ps a b ↔ Cn qs a b) : partsP n ps = partsP n qs := by
 unfold partsP
 congr 1
 refine List.filter_congr fun v _ => ?_
 rw [Bool.eq_iff_iff, decide_eq_true_eq, decide_eq_true_eq, lab_low, lab_low]
 exact ⟨fun k u hu hc => k u hu ((h _ _).2 hc), fun k u hu hc => k u hu ((h _ _).1 hc)⟩
theorem partsP_in {p : Nat × Nat} (hp : Cn ps p.1 p.2) : partsP n (p :: ps) = partsP n ps := partsP_congr fun _ _ => cn_cons_of hp
theorem partsP_out {p : Nat × Nat} (h1 : p.1 < n) (h2 : p.2 < n) (hp : ¬ Cn ps p.1 p.2) : partsP n (p :: ps) + 1 = partsP n ps := by
 rw [lab_cn] at hp
 have k1 := lab_fix ps p.1
 have k2 := lab_fix ps p.2
 unfold partsP
 have hM : labF ps (max (labF ps p.1) (labF ps p.2)) = max (labF ps p.1) (labF ps p.2) := by
  rcases Nat.le_total (labF ps p.1) (labF ps p.2) with h | h
  ·rw [Nat.max_eq_right h]; exact k2.2
  ·rw [Nat.max_eq_left h]; exact k1.2
 have hm : labF ps (min (labF ps p.1) (labF ps p.2)) = min (labF ps p.1) (labF ps p.2) := by
  rcases Nat.le_total (labF ps p.1) (labF ps p.2) with h | h
  ·rw [Nat.min_eq_left h]; exact k1.2
  ·rw [Nat.min_eq_right h]; exact k2.2
 refine filter_less List.nodup_range (x := max (labF ps p.1) (labF ps p.2)) (by rw [List.mem_range]; omega) (by rw [decide_eq_true_eq]; exact hM) ?_
 intro v _
 rw [Bool.eq_iff_iff]
 simp only [Bool.and_eq_true, Bool.not_eq_true', decide_eq_true_eq, decide_eq_false_iff_not]
 rw [labF]
 split
 ·rename_i h
  constructor
  ·intro he
   rw [he] at hm; omega
  ·rintro ⟨e1, e2⟩; omega
 ·rename_i h
  constructor
  ·intro he; exact ⟨he, fun e => h (by omega)⟩
  ·exact fun h => h.1
theorem partsP_pos (hn : 0 < n) : 1 ≤ partsP n ps := by
 unfold partsP
 apply List.length_pos_of_mem (a := 0)
 rw [List.mem_filter, List.mem_range, decide_eq_true_eq]
 have := (lab_fix ps 0).1
 exact ⟨hn, by omega⟩
theorem partsP_one (hn : 0 < n) : partsP n ps = 1 ↔ ∀ v, v < n → Cn ps 0 v := by
 have h00 : labF ps 0 = 0 := by have := (lab_fix ps 0).1; omega
 constructor
 ·intro h v hv
  rw [lab_cn, h00]
  have hf := lab_fix ps v
  by_cases h0 : labF ps v = 0
  ·exact h0.symm
  ·exfalso
   have : ([0, labF ps v] : List Nat).length ≤ partsP n ps := by
    unfold partsP
    refine nodup_sub_le ?_ ?_
    ·simp; omega
    ·intro x hx
     rw [List.mem_filter, List.mem_range, decide_eq_true_eq]
     simp only [List.mem_cons, List.not_mem_nil, or_false] at hx
     rcases hx with rfl | rfl
     ·exact ⟨hn, h00⟩
     ·exact ⟨by omega, hf.2⟩
   simp at this; omega
 ·intro h
  unfold partsP
  have e : (List.range n).filter (fun v => decide (labF ps v = v)) = (List.range n).filter (fun v => decide (v = 0)) := by
   refine List.filter_congr fun v hv => ?_
   rw [List.mem_range] at hv
   have := lab_cn.1 (h v hv)
   rw [h00] at this
   rw [← this, Bool.eq_iff_iff]
   simp only [decide_eq_true_eq]; omega
  rw [e]
  obtain ⟨m, rfl⟩ : ∃ m, n = m + 1 := ⟨n - 1, by omega⟩
  rw [List.range_succ_eq_map, List.filter_cons_of_pos (by simp), List.filter_eq_nil_iff.2]
  ·rfl
  ·intro x hx
   obtain ⟨y, _, rfl⟩ := List.mem_map.1 hx
   simp
def Fo : List (Nat × Nat) → Prop
 | [] => True
 | p :: ps => Fo ps ∧ ¬ Cn ps p.1 p.2
def foB : List (Nat × Nat) → Bool
 | [] => true
 | p :: ps => foB ps && !decide (Cn ps p.1 p.2)
theorem foB_iff : ∀ {ps : List (Nat × Nat)}, foB ps = true ↔ Fo ps
 | [] => by simp [foB, Fo]
 | p :: ps => by rw [foB, Bool.and_eq_true, foB_iff, Bool.not_eq_true', decide_eq_false_iff_not]; rfl
theorem fo_parts : ∀ {ps : List (Nat × Nat)}, BdP n ps → n ≤ partsP n ps + ps.length ∧ (Fo ps ↔ partsP n ps + ps.length = n)
 | [], _ => by rw [partsP_nil]; simp [Fo]
 | p :: ps, hb => by
   obtain ⟨⟨h1, h2⟩, hb'⟩ := hb.cons
   obtain ⟨i1, i2⟩ := fo_parts hb'
   rw [List.length_cons]
   by_cases hc : Cn ps p.1 p.2
   ·rw [partsP_in hc]
    refine ⟨by omega, ⟨fun h => absurd hc h.2, fun h => by omega⟩⟩
   ·have := partsP_out h1 h2 hc
    refine ⟨by omega, ⟨fun h => ?_, fun h => ⟨i2.2 (by omega), hc⟩⟩⟩
    have := i2.1 h.1; omega
theorem fo_mem (hb : BdP n ps) (hb' : BdP n qs) (hl : ps.length = qs.length) (h : ∀ p, p ∈ ps ↔ p ∈ qs) : Fo ps ↔ Fo qs := by
 rw [(fo_parts hb).2, (fo_parts hb').2, partsP_congr (fun _ _ => cn_same h), hl]
theorem BdP.perm (h : BdP n ps) (hp : ps.Perm qs) : BdP n qs := fun p hq => h p (hp.mem_iff.2 hq)
theorem fo_perm (hb : BdP n ps) (hp : ps.Perm qs) : Fo ps ↔ Fo qs := fo_mem hb (hb.perm hp) hp.length_eq fun _ => hp.mem_iff
theorem Fo.sub (h : Fo ps) (hs : qs.Sublist ps) : Fo qs := by
 induction hs with
 | slnil => exact h
 | cons p _ ih => exact ih h.1
 | cons_cons p hs ih => exact ⟨ih h.1, fun hc => h.2 (hc.mono fun q hq => hs.subset hq)⟩
theorem tree_of_fo (hb : BdP n ps) (h : Fo ps) : partsP n ps = 1 ↔ ps.length + 1 = n := by
 have := (fo_parts hb).2.1 h; omega
theorem tree_of_len (hb : BdP n ps) (hl : ps.length + 1 = n) : partsP n ps = 1 ↔ Fo ps := by
 rw [(fo_parts hb).2]; omega
end
end Go.Proofs.YtnbikkcalcpedaaGreatDoor
namespace Go.Proofs.YtnbikkcalcpedaaGreatDoor
end Go.Proofs.YtnbikkcalcpedaaGreatDoor
namespace Go.Proofs.YtnbikkcalcpedaaGreatDoor
section
variable {B : Nat}
def dgt (B n j : Nat) : Nat := n / B ^ j % B
def lowB (B x n : Nat) : List Nat := (List.range n).map (dgt B x)
def digB (B n : Nat) : List Nat := if n = 0 ∨ B < 2 then [] else n % B :: digB B (n / B)
termination_by n
decreasing_by
 rename_i h
 exact Nat.div_lt_self (by omega) (by omega)
theorem digB_zero (B : Nat) : digB B 0 = [] := by rw [digB, if_pos (Or.inl rfl)]
theorem digB_pos (hB : 2 ≤ B) {n : Nat} (h : 0 < n) : digB B n = n % B :: digB B (n / B) := by rw [digB, if_neg (by omega)]
theorem dgt_lt (hB : 2 ≤ B) (n j : Nat) : dgt B n j < B := Nat.mod_lt _ (by omega)
theorem dgt_zero (n : Nat) : dgt B n 0 = n % B := by simp [dgt]
theorem dgt_succ (n j : Nat) : dgt B n (j + 1) = dgt B (n / B) j := by
 unfold dgt; rw [Nat.pow_succ, Nat.mul_comm, ← Nat.div_div_eq_div_mul]
theorem lowB_length (x n : Nat) : (lowB B x n).length = n := by simp [lowB]
theorem lowB_at {x n i : Nat} (h : i < n) : (lowB B x n)[i]? = some (dgt B x i) := by simp [lowB, h]
theorem digB_at (hB : 2 ≤ B) : ∀ (j n : Nat), (digB B n).getD j 0 = dgt B n j
 | j, 0 => by rw [digB_zero]; simp [dgt]
 | 0, n + 1 => by rw [digB_pos hB (by omega), dgt_zero]; rfl
 | j + 1, n + 1 => by rw [digB_pos hB (by omega), List.getD_cons_succ, digB_at hB j, dgt_succ]
theorem digB_low (hB : 2 ≤ B) (n : Nat) : digB B n = lowB B n (digB B n).length := by
 refine List.ext_getElem? fun i => ?_
 by_cases h : i < (digB B n).length
 ·rw [lowB_at h, ← digB_at hB i n, List.getD_eq_getElem?_getD, List.getElem?_eq_getElem h]; rfl
 ·rw [List.getElem?_eq_none (by omega), List.getElem?_eq_none (by rw [lowB_length]; omega)]
theorem digB_lt (hB : 2 ≤ B) {n d : Nat} (h : d ∈ digB B n) : d < B := by
 rw [digB_low hB n] at h
 obtain ⟨j, -, rfl⟩ := List.mem_map.1 h
 exact dgt_lt hB _ _
end
section
variable {B : Nat}
end
section
variable {B : Nat}
end
end Go.Proofs.YtnbikkcalcpedaaGreatDoor
namespace Go.Proofs.YtnbikkcalcpedaaGreatDoor
open Go.ChangeShapes Go.WideShapes Go.ChangeAt Go.RowKit
theorem own : ownKnob Tryz.prog.godebug = none := by kernel_rfl
theorem laidOut : laidOutB Tryz.prog = true := by kernel_rfl
def IsRow (k : IntKind) (w : World) (a : Option Addr) (len cap : Nat) (zs : List Int) : Prop :=
 (a = none ∧ len = 0 ∧ cap = 0 ∧ zs = []) ∨
 ∃ x, a = some x ∧ len ≤ cap ∧ cap ≤ maxLen ∧ zs.length = cap ∧ (∀ i, i < zs.length → w.cell? (x.add i) = some (.int k (zs.getD i 0))) ∧ ∀ n ∈ zs, (Lit.int k n).wf = true
theorem IsRow.reads {w : World} {a : Option Addr} {len cap : Nat} {zs : List Int} (h : IsRow .i64 w a len cap zs) :
  ∃ xs : List Int, xs.length = len ∧ len ≤ maxLen ∧ Reads w w.heap.size 1 a xs.length (ints xs) ∧ ∀ x ∈ xs, (Lit.int .i64 x).wf = true := by
 rcases h with ⟨rfl, rfl, rfl, rfl⟩ | ⟨x, rfl, hl, hm, hz, hc, hw⟩
 ·exact ⟨[], rfl, by simp [maxLen], Reads.nil_, by simp⟩
 ·have hlen : (zs.take len).length = len := by simp; omega
  refine ⟨zs.take len, hlen, Nat.le_trans hl hm, ⟨by rw [ints_length, Nat.mul_one], fun hn => ?_⟩, fun y hy => hw y (List.mem_of_mem_take hy)⟩
  obtain ⟨b, off, spot⟩ := x
  have h0 := hc 0 (by omega)
  obtain rfl : spot = none := by simpa [Addr.add] using World.cell?_spot h0
  refine ⟨b, off, rfl, ?_, fun j u hu => ?_⟩
  ·have := World.block_lt_of_cell? w _ h0
   simpa [Addr.add] using this
  ·obtain ⟨hj, hju⟩ := List.getElem?_eq_some_iff.1 hu
   rw [ints_length, hlen] at hj
   have h1 := hc j (by omega)
   have h2 : (zs.take len)[j]? = some (zs.getD j 0) := by
    rw [List.getElem?_take_of_lt hj, List.getD_eq_getElem?_getD, List.getElem?_eq_getElem (by omega)]
    rfl
   rw [ints_at h2] at hu
   injection hu with hu
   rw [← hu, ← h1]
   by_cases e : j = 0
   ·subst e; simp [Addr.add]
   ·simp [Addr.add, e]
end Go.Proofs.YtnbikkcalcpedaaGreatDoor
namespace Go.Proofs.YtnbikkcalcpedaaGreatDoor
open Go.RowKit
theorem info_int : (Tryz.prog.info? 3).map (fun i => (i.zero, i.size, i.bytes)) = some (some (.int .i64 0), 1, 8) := by kernel_rfl
def OwnI (w : World) (base : Nat) (A : Option Addr) (c : Nat) (xs : List Int) : Prop := w.ownsRow base 3 1 (.slice A xs.length c) xs.length (ints xs)
section
variable {w w' : World} {base : Nat} {A : Option Addr} {c : Nat} {xs : List Int}
theorem OwnI.nil_ (w : World) (base : Nat) : OwnI w base none 0 [] := World.ownsRow_nil _ _ _ _
theorem OwnI.reads (h : OwnI w base A c xs) : Reads w w.heap.size 1 A xs.length (ints xs) := Reads.of_own h
theorem OwnI.drew (h : OwnI w base A c xs) : OwnI w.drew base A c xs := World.ownsRow.drew h
theorem OwnI.drewN (h : OwnI w base A c xs) (n : Nat) : OwnI (w.drewN n) base A c xs := h
theorem OwnI.alloc (h : OwnI w base A c xs) (o : Obj) : OwnI (w.alloc o) base A c xs := World.ownsRow.alloc h o
theorem OwnI.lt (h : OwnI w base A c xs) : ∀ k, (Value.slice A xs.length c).ownBlock = some k → base ≤ k ∧ k < w.heap.size := World.ownsRow.lt h
theorem OwnI.below {B : Nat} (h : OwnI w base A c xs) (hb : Below B w w') (hB : ∀ k, (Value.slice A xs.length c).ownBlock = some k → k < B) : OwnI w' base A c xs := by
 obtain ⟨h1, h2⟩ := h
 refine ⟨h1, ?_⟩
 rcases h2 with h2 | ⟨g, cap, cur, hv, hg, hh, r⟩
 ·exact .inl h2
 ·exact .inr ⟨g, cap, cur, hv, hg, (hb.block g (hB g (by rw [hv]; rfl))).trans hh, r⟩
theorem OwnI.next (h : OwnI w base A c xs) (hb : Below w.heap.size w w') : OwnI w' base A c xs := h.below hb fun k hk => (h.lt k hk).2
theorem OwnI.mono {base' : Nat} (h : OwnI w base A c xs) (hb : base' ≤ base) : OwnI w base' A c xs := by
 obtain ⟨h1, h2⟩ := h
 refine ⟨h1, ?_⟩
 rcases h2 with h2 | ⟨g, cap, cur, hv, hg, r⟩
 ·exact .inl h2
 ·exact .inr ⟨g, cap, cur, hv, by omega, r⟩
theorem OwnI.far (h : OwnI w base A c xs) {p : Addr} (hp : p.block < base) (u : Value) : OwnI (w.setCell p u) base A c xs := ownsRow_setCell_below h hp u
theorem OwnI.set_blk {g : Nat} {t : TypeId} {cs : Array Value} (h : OwnI w base A c xs) (hg : Blk w g t cs) (ht : 3 ≠ t) (o : Nat) (u : Value) : OwnI (w.setCell ⟨g, o, none⟩ u) base A c xs := by
 have hne := own_blk_ne h hg ht
 obtain ⟨h1, h2⟩ := h
 refine ⟨h1, ?_⟩
 rcases h2 with h2 | ⟨g', cap, cur, hv, hg', hh, r⟩
 ·exact .inl h2
 ·refine .inr ⟨g', cap, cur, hv, hg', (Below.heap_setCell w ⟨g, o, none⟩ u g' ?_).trans hh, r⟩
  rintro rfl
  exact hne (by rw [hv]; rfl)
end
section
variable {P : Program} {F : Fence} {m0 : Nat}
theorem run_append_nil (w : World) (base : Nat) (t ty e : TypeId) (i : TypeInfo) (size : Nat) (ht : P.underlying t = some (.slice e)) (hi : P.info? e = some i)
  (v : Value) (n : Nat) (xs : List Value) (hown : w.ownsRow base e size v n xs) (c : Nat) : (Builtin.append_ #[t, t] ty #[v, .slice none 0 c]).run P w = .ok v w := by
 rcases hown.2 with ⟨rfl, rfl⟩ | ⟨g, cap, cur, rfl, _, _, hnc, _⟩
 ·simp [Builtin.append_, run_underlying ht, sizeOf, typeInfo, hi, Builtin.lenOf, Builtin.firstCells]
 ·simp [Builtin.append_, run_underlying ht, sizeOf, typeInfo, hi, Builtin.lenOf, Builtin.firstCells, hnc, storeCells]
theorem run_append_reads (w : World) (base : Nat) (t ty e : TypeId) {z : Value} {size bytes : Nat} (ht : P.underlying t = some (.slice e)) (hinfo : (P.info? e).map (fun i => (i.zero, i.size, i.bytes)) = some (some z, size, bytes)) (hzs : z.cells.size = size) (hby : 0 < size ∧ bytes ≤ 64)
  (A0 : Option Addr) (c0 n : Nat) (xs : List Value) (hown : w.ownsRow base e size (.slice A0 n c0) n xs)
  (B : Nat) (A : Option Addr) (m c : Nat) (news : List Value) (hr : Reads w B size A m news) (h1 : ∀ u ∈ news, u.oneCell' = true) (hn : n + m ≤ 1048576) (hbase : base ≤ w.heap.size) :
  ∃ A' c' w', (Builtin.append_ #[t, t] ty #[.slice A0 n c0, .slice A m c]).run P w = .ok (.slice A' (n + m) c') w' ∧ w'.ownsRow base e size (.slice A' (n + m) c') (n + m) (xs ++ news) ∧ w.grownBy w' (Value.slice A0 n c0).ownBlock ∧ Below base w w' ∧
    ((Value.slice A' (n + m) c').ownBlock = (Value.slice A0 n c0).ownBlock ∨ (Value.slice A' (n + m) c').ownBlock = some w.heap.size) := by
 obtain ⟨i0, hi, hz0, hz1, hz2⟩ := info_parts hinfo
 have hmn : m = 0 → news = [] := fun h => List.eq_nil_of_length_eq_zero (by have := hr.1; rw [h, Nat.zero_mul] at this; exact this)
 rcases A with _ | ad
 ·have hm : m = 0 := by
   rcases Nat.eq_zero_or_pos m with h0 | h0
   ·exact h0
   ·obtain ⟨_, _, h, _⟩ := hr.2 h0
    cases h
  subst hm
  rw [hmn rfl, List.append_nil]
  exact ⟨A0, c0, w, run_append_nil w base t ty e i0 size ht hi _ n xs hown c, hown, World.grownBy.refl w _, Below.refl _ _, .inl rfl⟩
 ·have hcells : ∀ j u, news[j]? = some u → w.cell? (ad.add j) = some u := by
   intro j u hu
   rcases Nat.eq_zero_or_pos m with h0 | h0
   ·rw [hmn h0] at hu; simp at hu
   ·obtain ⟨b, off, h, _, hc⟩ := hr.2 h0
    injection h with h
    subst h
    have := hc j u hu
    by_cases hj : j = 0
    ·subst hj; simpa [Addr.add] using this
    ·simpa [Addr.add, hj] using this
  obtain ⟨v', w', hrun, h2, h3, _, h5⟩ := run_append_own_at (P := P) w base t ty e i0 z size bytes ht hi hz0 hz1 hz2 hzs hby.1 _ n xs hown ad m c news hr.1 hcells h1 (by simp only [maxLen]; omega)
   (Nat.le_trans (Nat.mul_le_mul hn hby.2) (by omega)) hbase
  have hB : Below base w w' := (Below.refl base w).grown h3 hbase (fun k hk => (hown.lt k hk).1)
  rcases h2.2 with ⟨hv, h0⟩ | ⟨g, cap, cur, hv, _⟩
  ·subst hv
   rw [h0] at h2 ⊢
   exact ⟨none, 0, w', hrun, h2, h3, hB, h5⟩
  ·subst hv
   exact ⟨some ⟨g, 0, none⟩, cap, w', hrun, h2, h3, hB, h5⟩
theorem append_go {ops : Array Oper} {rest : List Oper} {o : Oper} {a : Act} {Q : Exit → Act → World → Prop} {w : World} (hgd : o.guard = none) (s x : Operand) (t : TypeId)
  (ho : o.op = .call { callee := .builtin .append, args := #[s, x], argTypes := #[t, t] })
  (base : Nat) (e : TypeId) {z : Value} {size bytes : Nat} (ht : P.underlying t = some (.slice e)) (hinfo : (P.info? e).map (fun i => (i.zero, i.size, i.bytes)) = some (some z, size, bytes)) (hzs : z.cells.size = size) (hby : 0 < size ∧ bytes ≤ 64)
  (A0 : Option Addr) (c0 n : Nat) (xs : List Value) (hs : a.eval s = .slice A0 n c0) (hown : w.ownsRow base e size (.slice A0 n c0) n xs)
  (B : Nat) {A : Option Addr} {m c : Nat} (news : List Value) (hx : a.eval x = .slice A m c) (hr : Reads w B size A m news) (h1 : ∀ u ∈ news, u.oneCell' = true) (hn : n + m ≤ 1048576) (hbase : base ≤ w.heap.size)
  (h : ∀ A' c' w', w'.ownsRow base e size (.slice A' (n + m) c') (n + m) (xs ++ news) → w.grownBy w' (Value.slice A0 n c0).ownBlock → Below base w w' →
   ((Value.slice A' (n + m) c').ownBlock = (Value.slice A0 n c0).ownBlock ∨ (Value.slice A' (n + m) c').ownBlock = some w.heap.size) → wpList P ops Q rest (a.put o.dst (.slice A' (n + m) c')) w') :
  wpList P ops Q (o :: rest) a w := by
 obtain ⟨A', c', w', hrun, h2, h3, h4, h5⟩ := run_append_reads (P := P) w base t o.type e ht hinfo hzs hby A0 c0 n xs hown B A m c news hr h1 hn hbase
 refine wpList_plain hgd fun K hK => ?_
 unfold Oper.wp execOp
 simp only [ho, resolve, invoke, builtin, Sem.run_bind, Sem.run_pure, Result.andThen_ok, List.map_toArray, List.map_cons, List.map_nil, hs, hx, hrun]
 exact hK _ _ (h A' c' w' h2 h3 h4 h5)
theorem append_gi {ops : Array Oper} {rest : List Oper} {o : Oper} {a : Act} {Q : Exit → Act → World → Prop} {w : World} (hgd : o.guard = none) (s x : Operand) (t : TypeId)
  (ho : o.op = .call { callee := .builtin .append, args := #[s, x], argTypes := #[t, t] })
  (base : Nat) (e : TypeId) {z : Value} {size bytes : Nat} (ht : P.underlying t = some (.slice e)) (hinfo : (P.info? e).map (fun i => (i.zero, i.size, i.bytes)) = some (some z, size, bytes)) (hzs : z.cells.size = size) (hby : 0 < size ∧ bytes ≤ 64)
  (A0 : Option Addr) (c0 n : Nat) (xs : List Value) (hs : a.eval s = .slice A0 n c0) (hown : w.ownsRow base e size (.slice A0 n c0) n xs)
  (B : Nat) {A : Option Addr} {m c : Nat} (news : List Value) (hx : a.eval x = .slice A m c) (hr : Reads w B size A m news) (h1 : ∀ u ∈ news, u.oneCell' = true) (hn : n + m ≤ 1048576) (hbase : base ≤ w.heap.size)
  (h : ∀ A' c' w', w'.ownsRow base e size (.slice A' (n + m) c') (n + m) (xs ++ news) → w.grownBy w' (Value.slice A0 n c0).ownBlock → Below base w w' →
   ((Value.slice A' (n + m) c').ownBlock = (Value.slice A0 n c0).ownBlock ∨ (Value.slice A' (n + m) c').ownBlock = some w.heap.size) → wpListIn F m0 P ops Q rest (a.put o.dst (.slice A' (n + m) c')) w') :
  wpListIn F m0 P ops Q (o :: rest) a w := by
 obtain ⟨A', c', w', hrun, h2, h3, h4, h5⟩ := run_append_reads (P := P) w base t o.type e ht hinfo hzs hby A0 c0 n xs hown B A m c news hr h1 hn hbase
 refine wpListIn_plain hgd fun K hK => ?_
 unfold Oper.wpIn
 refine ⟨?_, ?_⟩
 ·simp [Oper.about, ho, resolve, Target.leads, Sem.run_pure]
 ·rw [Oper.semAt_plain F _ _ (by rw [ho]; intro c hc'; cases hc')]
  simp [execOp, ho, resolve, invoke, builtin, hs, hx, hrun, Result.andThen]
  exact hK _ _ (h A' c' w' h2 h3 h4 h5)
end
theorem append_type2 {P : Program} (t t2 ty e e2 : TypeId) (ht : P.underlying t = some (.slice e)) (ht2 : P.underlying t2 = some (.slice e2)) (args : Array Value) (w : World) :
  (Builtin.append_ #[t, t2] ty args).run P w = (Builtin.append_ #[t, t] ty args).run P w := by
 unfold Builtin.append_
 rcases h0 : args[0]? with _ | s
 ·simp
 ·rcases h1 : args[1]? with _ | x
  ·simp
  ·cases s <;> simp [Sem.run_bind, run_underlying ht, run_underlying ht2, Result.andThen]
theorem append_step2 {P : Program} {ops : Array Oper} {o : Oper} {a : Act} {K : Act → World → Prop} {Q : Exit → Act → World → Prop} {E : Prop} {w : World} (hgd : o.guard = none) (s x : Operand) (t t2 : TypeId)
  (ho : o.op = .call { callee := .builtin .append, args := #[s, x], argTypes := #[t, t2] })
  (base : Nat) (e e2 : TypeId) {z : Value} {size bytes : Nat} (ht : P.underlying t = some (.slice e)) (ht2 : P.underlying t2 = some (.slice e2)) (hinfo : (P.info? e).map (fun i => (i.zero, i.size, i.bytes)) = some (some z, size, bytes)) (hzs : z.cells.size = size) (hby : 0 < size ∧ bytes ≤ 64)
  (A0 : Option Addr) (c0 n : Nat) (xs : List Value) (hs : a.eval s = .slice A0 n c0) (hown : w.ownsRow base e size (.slice A0 n c0) n xs)
  (B : Nat) {A : Option Addr} {m c : Nat} (news : List Value) (hx : a.eval x = .slice A m c) (hr : Reads w B size A m news) (h1 : ∀ u ∈ news, u.oneCell' = true) (hn : n + m ≤ 1048576) (hbase : base ≤ w.heap.size)
  (h : ∀ A' c' w', w'.ownsRow base e size (.slice A' (n + m) c') (n + m) (xs ++ news) → w.grownBy w' (Value.slice A0 n c0).ownBlock → Below base w w' →
   ((Value.slice A' (n + m) c').ownBlock = (Value.slice A0 n c0).ownBlock ∨ (Value.slice A' (n + m) c').ownBlock = some w.heap.size) → K (a.put o.dst (.slice A' (n + m) c')) w') :
  if Region.wanted o (yielded ops a.tmps) = true then Oper.wp P o a w K Q else E := by
 have hw : Region.wanted o (yielded ops a.tmps) = true := by simp [Region.wanted, hgd]
 rw [if_pos hw]
 obtain ⟨A', c', w', hrun, h2, h3, h4, h5⟩ := run_append_reads (P := P) w base t o.type e ht hinfo hzs hby A0 c0 n xs hown B A m c news hr h1 hn hbase
 rw [← append_type2 t t2 o.type e e2 ht ht2] at hrun
 unfold Oper.wp execOp
 simp only [ho, resolve, invoke, builtin, Sem.run_bind, Sem.run_pure, Result.andThen_ok, List.map_toArray, List.map_cons, List.map_nil, hs, hx, hrun]
 exact h A' c' w' h2 h3 h4 h5
theorem Reads.box (w : World) (u : Value) (e : TypeId) : Reads (w.alloc (.cells #[u] e)) (w.heap.size + 1) 1 (some ⟨w.heap.size, 0, none⟩) 1 [u] :=
 ⟨rfl, fun _ => ⟨w.heap.size, 0, rfl, by omega, fun j v hv => by
  have hj : j = 0 := by
   rcases Nat.eq_zero_or_pos j with h | h
   ·exact h
   ·rw [List.getElem?_eq_none (by simp; omega)] at hv; cases hv
  subst hj
  have : u = v := by simpa using hv
  subst this
  exact (Blk.new w e #[u]).cell 0⟩⟩
theorem Reads.boxN (w : World) (cs : Array Value) (e : TypeId) : Reads (w.alloc (.cells cs e)) (w.heap.size + 1) cs.size (some ⟨w.heap.size, 0, none⟩) 1 cs.toList :=
 ⟨by simp, fun _ => ⟨w.heap.size, 0, rfl, by omega, fun j v hv => by
  rw [Nat.zero_add, (Blk.new w e cs).cell j]
  simpa using hv⟩⟩
theorem push_int {ops : Array Oper} {rest : List Oper} {o : Oper} {a : Act} {Q : Exit → Act → World → Prop} {w : World} (hgd : o.guard = none) (s x : Operand) (t : TypeId)
  (ho : o.op = .call { callee := .builtin .append, args := #[s, x], argTypes := #[t, t] }) (ht : Tryz.prog.underlying t = some (.slice 3))
  (base : Nat) (A : Option Addr) (c : Nat) (xs : List Int) (y : Int) (hs : a.eval s = .slice A xs.length c) (hown : OwnI w base A c xs)
  {g : Nat} (hx : a.eval x = .slice (some ⟨g, 0, none⟩) 1 1) (hgw : g = w.heap.size) (hn : xs.length ≤ 1048000) (hbase : base ≤ w.heap.size)
  (h : ∀ A' c' w', OwnI w' base A' c' (xs ++ [y]) → (w.alloc (.cells #[.int .i64 y] 3)).grownBy w' (Value.slice A xs.length c).ownBlock → Below base w w' →
   wpList Tryz.prog ops Q rest (a.put o.dst (.slice A' (xs.length + 1) c')) w') :
  wpList Tryz.prog ops Q (o :: rest) a (w.alloc (.cells #[.int .i64 y] 3)) := by
 subst hgw
 refine append_go hgd s x t ho base 3 ht info_int rfl (by omega) A c xs.length (ints xs) hs (World.ownsRow.alloc hown _) _ [.int .i64 y] hx (Reads.box _ _ _) (by simp [Value.oneCell']) (by omega) (by simp; omega) ?_
 intro A' c' w' hown' hg hB _
 exact h A' c' w' (by unfold OwnI; rw [List.length_append, ints_snoc]; exact hown') hg (((Below.refl base w).alloc hbase _).trans hB)
theorem made_bools (n : Nat) : madeCells #[.bool false] n = bools (List.replicate n false) := by
 apply Array.toList_inj.1
 rw [toList_madeCells_one]
 simp [bools]
theorem made_ints (n : Nat) : madeCells #[.int .i64 0] n = (ints (List.replicate n 0)).toArray := by
 apply Array.toList_inj.1
 rw [toList_madeCells_one]
 simp [ints]
theorem info_bool : (Tryz.prog.info? 4).map (fun i => (i.zero, i.size, i.bytes)) = some (some (.bool false), 1, 1) := by kernel_rfl
theorem make_bools (n : Nat) (hn : n ≤ 1048576) (W : World) : (Instr.makeSlice 109 (.int .i64 (n : Int)) (.int .i64 (n : Int))).run Tryz.prog W =
  .ok (.slice (some ⟨W.heap.size, 0, none⟩) n n) (W.alloc (.cells (bools (List.replicate n false)) 4)) := by
 obtain ⟨i0, hi, hz0, hz1, hz2⟩ := info_parts info_bool
 have hr := run_make (P := Tryz.prog) W 109 4 i0 (.bool false) Tryz.underlying109 hi hz0 .i64 .i64 n n (by omega) (Int.le_refl _) (by rw [hz2]; omega) (by omega)
 simp only [Int.toNat_natCast, hz1, Nat.mul_one] at hr
 rw [hr, show (Value.bool false).cells = #[.bool false] from rfl, made_bools]
theorem make_ints (n : Nat) (hn : n ≤ 1048576) (W : World) : (Instr.makeSlice 25 (.int .i64 (n : Int)) (.int .i64 (n : Int))).run Tryz.prog W =
  .ok (.slice (some ⟨W.heap.size, 0, none⟩) n n) (W.alloc (.cells (ints (List.replicate n 0)).toArray 3)) := by
 obtain ⟨i0, hi, hz0, hz1, hz2⟩ := info_parts info_int
 have hr := run_make (P := Tryz.prog) W 25 3 i0 (.int .i64 0) Tryz.underlying25 hi hz0 .i64 .i64 n n (by omega) (Int.le_refl _) (by rw [hz2]; omega) (by omega)
 simp only [Int.toNat_natCast, hz1, Nat.mul_one] at hr
 rw [hr, show (Value.int .i64 0).cells = #[.int .i64 0] from rfl, made_ints]
end Go.Proofs.YtnbikkcalcpedaaGreatDoor
