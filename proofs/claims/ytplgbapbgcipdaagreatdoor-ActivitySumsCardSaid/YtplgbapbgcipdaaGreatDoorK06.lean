/-
  Texts of this claim, put together: PolyP, Cells, ForP.
-/
import Derived.Test.YtplgbapbgcipdaaGreatDoorK03
import Derived.Test.YtplgbapbgcipdaaGreatDoorK01
/-! Polynomials in X and Y: lists of terms, the greater exponents first. No program is in sight. -/
namespace Go.Proofs.YtplgbapbgcipdaaGreatDoor
/-- A term: both exponents, and the coefficient. -/
abbrev Tm := (Nat × Nat) × Int
/-- The exponents that come first. -/
def abv (a b : Nat × Nat) : Bool := decide (b.1 < a.1) || (decide (a.1 = b.1) && decide (b.2 < a.2))
section
variable {a b c : Nat × Nat} {p q : List Tm}
theorem abv_tr (h : abv a b = true) (h' : abv b c = true) : abv a c = true := by
  simp [abv] at *; omega
theorem abv_as (h : abv a b = true) : abv b a = false := by
  rw [Bool.eq_false_iff]; intro h'
  simp [abv] at *; omega
theorem abv_ir : abv a a = false := by simp [abv]
theorem abv_an (h : abv a b = false) (h' : abv b a = false) : a = b := by
  obtain ⟨a1, a2⟩ := a
  obtain ⟨b1, b2⟩ := b
  simp [abv] at h h'
  have h1 : a1 = b1 := by omega
  subst h1
  have h2 : a2 = b2 := by have := h.2 rfl; have := h'.2 rfl; omega
  rw [h2]
/-- Right polynomials. -/
def Canon (p : List Tm) : Prop := (p.Pairwise fun a b => abv a.1 b.1 = true) ∧ ∀ a ∈ p, a.2 ≠ 0
/-- The coefficient of a power. -/
def cfP (p : List Tm) (k : Nat × Nat) : Int := (p.map fun a => if a.1 = k then a.2 else 0).sum
theorem cfP_nil (k : Nat × Nat) : cfP [] k = 0 := rfl
theorem cfP_cons (a : Tm) (p : List Tm) (k : Nat × Nat) : cfP (a :: p) k = (if a.1 = k then a.2 else 0) + cfP p k := by simp [cfP]
theorem cfP_zero (h : ∀ a ∈ p, a.1 ≠ c) : cfP p c = 0 := by
  induction p with
  | nil => rfl
  | cons a p ih => rw [cfP_cons, if_neg (h a (by simp)), ih fun b hb => h b (by simp [hb])]; rfl
theorem cfP_perm {p q : List Tm} (h : p.Perm q) (k : Nat × Nat) : cfP p k = cfP q k := by
  induction h with
  | nil => rfl
  | cons x _ ih => rw [cfP_cons, cfP_cons, ih]
  | swap x y l => rw [cfP_cons, cfP_cons, cfP_cons, cfP_cons]; omega
  | trans _ _ h1 h2 => rw [h1, h2]
theorem Canon.tail {x : Tm} (h : Canon (x :: p)) : Canon p := ⟨(List.pairwise_cons.1 h.1).2, fun a ha => h.2 a (by simp [ha])⟩
theorem Canon.below {x : Tm} (h : Canon (x :: p)) {k : Nat × Nat} (hk : k = x.1 ∨ abv k x.1 = true) : cfP p k = 0 := by
  refine cfP_zero fun a ha he => ?_
  have h1 := (List.pairwise_cons.1 h.1).1 a ha
  subst he
  rcases hk with hk | hk
  · rw [hk, abv_ir] at h1; cases h1
  · rw [abv_as hk] at h1; cases h1
/-- The coefficients tell a right polynomial. -/
theorem canon_eq : ∀ {p q : List Tm}, Canon p → Canon q → (∀ k, cfP p k = cfP q k) → p = q
  | [], [], _, _, _ => rfl
  | [], b :: q, _, hq, h => by
    have := h b.1
    rw [cfP_nil, cfP_cons, if_pos rfl, hq.below (.inl rfl)] at this
    exact absurd (by omega) (hq.2 b (by simp))
  | a :: p, [], hp, _, h => by
    have := h a.1
    rw [cfP_nil, cfP_cons, if_pos rfl, hp.below (.inl rfl)] at this
    exact absurd (by omega) (hp.2 a (by simp))
  | a :: p, b :: q, hp, hq, h => by
    have hab : a.1 = b.1 := by
      refine abv_an ?_ ?_
      · rw [Bool.eq_false_iff]; intro hc
        have := h a.1
        rw [cfP_cons, if_pos rfl, hp.below (.inl rfl), cfP_cons, if_neg (fun he => by rw [he, abv_ir] at hc; cases hc), hq.below (.inr hc)] at this
        exact hp.2 a (by simp) (by omega)
      · rw [Bool.eq_false_iff]; intro hc
        have := h b.1
        rw [cfP_cons, if_neg (fun he => by rw [he, abv_ir] at hc; cases hc), hp.below (.inr hc), cfP_cons, if_pos rfl, hq.below (.inl rfl)] at this
        exact hq.2 b (by simp) (by omega)
    have h2 : a.2 = b.2 := by
      have := h a.1
      rw [cfP_cons, if_pos rfl, hp.below (.inl rfl), cfP_cons, if_pos hab.symm, hq.below (.inl hab)] at this
      omega
    have h3 : a = b := Prod.ext hab h2
    subst h3
    rw [canon_eq hp.tail hq.tail fun k => by have := h k; rw [cfP_cons, cfP_cons] at this; omega]
/-- The sum. -/
def plusP : List Tm → List Tm → List Tm
  | [], q => q
  | a :: p, [] => a :: p
  | a :: p, b :: q => if abv a.1 b.1 = true then a :: plusP p (b :: q) else if abv b.1 a.1 = true then b :: plusP (a :: p) q else if a.2 + b.2 = 0 then plusP p q else (a.1, a.2 + b.2) :: plusP p q
termination_by p q => p.length + q.length
theorem plusP_nil (p : List Tm) : plusP p [] = p := by cases p <;> rw [plusP]
theorem cfP_plus : ∀ (p q : List Tm) (k : Nat × Nat), cfP (plusP p q) k = cfP p k + cfP q k
  | [], q, k => by rw [plusP, cfP_nil]; omega
  | a :: p, [], k => by rw [plusP, cfP_nil]; omega
  | a :: p, b :: q, k => by
    rw [plusP]
    split
    · rw [cfP_cons, cfP_plus p (b :: q) k, cfP_cons a p]; omega
    · split
      · rw [cfP_cons, cfP_plus (a :: p) q k, cfP_cons b q]; omega
      · rename_i h1 h2
        have hab : a.1 = b.1 := abv_an (by simpa using h1) (by simpa using h2)
        split
        · rename_i h3
          rw [cfP_plus p q k, cfP_cons, cfP_cons, hab]
          split <;> omega
        · rw [cfP_cons, cfP_plus p q k, cfP_cons, cfP_cons, hab]
          split <;> omega
termination_by p q => p.length + q.length
theorem plusP_keys : ∀ (p q : List Tm), ∀ x ∈ plusP p q, (∃ a ∈ p, a.1 = x.1) ∨ ∃ b ∈ q, b.1 = x.1
  | [], q, x, hx => by rw [plusP] at hx; exact .inr ⟨x, hx, rfl⟩
  | a :: p, [], x, hx => by rw [plusP] at hx; exact .inl ⟨x, hx, rfl⟩
  | a :: p, b :: q, x, hx => by
    rw [plusP] at hx
    split at hx
    · rcases List.mem_cons.1 hx with rfl | hx
      · exact .inl ⟨x, by simp, rfl⟩
      · rcases plusP_keys p (b :: q) x hx with ⟨y, hy, he⟩ | h
        · exact .inl ⟨y, by simp [hy], he⟩
        · exact .inr h
    · split at hx
      · rcases List.mem_cons.1 hx with rfl | hx
        · exact .inr ⟨x, by simp, rfl⟩
        · rcases plusP_keys (a :: p) q x hx with h | ⟨y, hy, he⟩
          · exact .inl h
          · exact .inr ⟨y, by simp [hy], he⟩
      · split at hx
        · rcases plusP_keys p q x hx with ⟨y, hy, he⟩ | ⟨y, hy, he⟩
          · exact .inl ⟨y, by simp [hy], he⟩
          · exact .inr ⟨y, by simp [hy], he⟩
        · rcases List.mem_cons.1 hx with rfl | hx
          · exact .inl ⟨a, by simp, rfl⟩
          · rcases plusP_keys p q x hx with ⟨y, hy, he⟩ | ⟨y, hy, he⟩
            · exact .inl ⟨y, by simp [hy], he⟩
            · exact .inr ⟨y, by simp [hy], he⟩
termination_by p q => p.length + q.length
theorem plusP_canon : ∀ {p q : List Tm}, Canon p → Canon q → Canon (plusP p q)
  | [], q, _, hq => by rw [plusP]; exact hq
  | a :: p, [], hp, _ => by rw [plusP]; exact hp
  | a :: p, b :: q, hp, hq => by
    have hpa := (List.pairwise_cons.1 hp.1).1
    have hqb := (List.pairwise_cons.1 hq.1).1
    have mk : ∀ {x : Tm} {l : List Tm}, Canon l → x.2 ≠ 0 → (∀ y ∈ l, abv x.1 y.1 = true) → Canon (x :: l) := fun {x l} hl h0 h => ⟨List.pairwise_cons.2 ⟨h, hl.1⟩, fun y hy => by
      rcases List.mem_cons.1 hy with rfl | hy
      · exact h0
      · exact hl.2 y hy⟩
    rw [plusP]
    split
    · rename_i h1
      refine mk (plusP_canon hp.tail hq) (hp.2 a (by simp)) fun y hy => ?_
      rcases plusP_keys p (b :: q) y hy with ⟨z, hz, he⟩ | ⟨z, hz, he⟩
      · rw [← he]; exact hpa z hz
      · rw [← he]
        rcases List.mem_cons.1 hz with rfl | hz
        · exact h1
        · exact abv_tr h1 (hqb z hz)
    · split
      · rename_i h1
        refine mk (plusP_canon hp hq.tail) (hq.2 b (by simp)) fun y hy => ?_
        rcases plusP_keys (a :: p) q y hy with ⟨z, hz, he⟩ | ⟨z, hz, he⟩
        · rw [← he]
          rcases List.mem_cons.1 hz with rfl | hz
          · exact h1
          · exact abv_tr h1 (hpa z hz)
        · rw [← he]; exact hqb z hz
      · rename_i h1 h2
        have hab : a.1 = b.1 := abv_an (by simpa using h1) (by simpa using h2)
        split
        · exact plusP_canon hp.tail hq.tail
        · rename_i h3
          refine mk (plusP_canon hp.tail hq.tail) h3 fun y hy => ?_
          rcases plusP_keys p q y hy with ⟨z, hz, he⟩ | ⟨z, hz, he⟩
          · rw [← he]; exact hpa z hz
          · rw [← he]; show abv a.1 z.1 = true; rw [hab]; exact hqb z hz
termination_by p q => p.length + q.length
/-- A monomial. -/
theorem mono_canon (k : Nat × Nat) : Canon [(k, 1)] := ⟨List.pairwise_singleton _ _, fun a ha => by rw [List.mem_singleton] at ha; subst ha; show (1 : Int) ≠ 0; decide⟩
/-- The sum of monomials. -/
def sumP (ks : List (Nat × Nat)) : List Tm := ks.foldl (fun p k => plusP p [(k, 1)]) []
theorem sumP_snoc (ks : List (Nat × Nat)) (k : Nat × Nat) : sumP (ks ++ [k]) = plusP (sumP ks) [(k, 1)] := by simp [sumP]
theorem sumP_canon (ks : List (Nat × Nat)) : Canon (sumP ks) := by
  have key : ∀ (ks : List (Nat × Nat)) (p : List Tm), Canon p → Canon (ks.foldl (fun p k => plusP p [(k, 1)]) p) := by
    intro ks
    induction ks with
    | nil => exact fun p hp => hp
    | cons k ks ih => exact fun p hp => ih _ (plusP_canon hp (mono_canon k))
  exact key ks [] ⟨List.Pairwise.nil, by simp⟩
theorem sumP_cf (ks : List (Nat × Nat)) (k : Nat × Nat) : cfP (sumP ks) k = (ks.count k : Int) := by
  have key : ∀ (ks : List (Nat × Nat)) (p : List Tm), cfP (ks.foldl (fun p k => plusP p [(k, 1)]) p) k = cfP p k + (ks.count k : Int) := by
    intro ks
    induction ks with
    | nil => intro p; simp
    | cons x ks ih =>
      intro p
      rw [List.foldl_cons, ih, cfP_plus, cfP_cons, cfP_nil, List.count_cons]
      by_cases h : x = k
      · simp [h]; omega
      · simp [h]
  rw [sumP, key, cfP_nil]; omega
end
end Go.Proofs.YtplgbapbgcipdaaGreatDoor

/-! A forest of joined vertices as cells. -/
namespace Go.Proofs.YtplgbapbgcipdaaGreatDoor
open Go.RowKit

/-- A forest as cells. -/
def fcells (f : List Nat) : Array Value := (f.map fun v : Nat => Value.int .i64 v).toArray
theorem fcells_get {f : List Nat} {v : Nat} (h : v < f.length) : (fcells f)[v]? = some (.int .i64 (f.getD v 0 : Nat)) := by
  simp [fcells, List.getD_eq_getElem?_getD, List.getElem?_eq_getElem h]
theorem fcells_set (f : List Nat) (i x : Nat) : (fcells f).setIfInBounds i (.int .i64 (x : Nat)) = fcells (f.set i x) := by simp [fcells, List.map_set]
theorem list12 {l : List Nat} (h : l.length = 12) : ∃ a0 a1 a2 a3 a4 a5 a6 a7 a8 a9 a10 a11, l = [a0, a1, a2, a3, a4, a5, a6, a7, a8, a9, a10, a11] := by
  match l, h with
  | [a0, a1, a2, a3, a4, a5, a6, a7, a8, a9, a10, a11], _ => exact ⟨_, _, _, _, _, _, _, _, _, _, _, _, rfl⟩
end Go.Proofs.YtplgbapbgcipdaaGreatDoor

/-! Plain laws of a forest of joined vertices in which each vertex has any other one of its part: the roots. No program is in sight. -/
namespace Go.Proofs.YtplgbapbgcipdaaGreatDoor

/-- What an array of 12 vertices says of some pairs: r v is the root of v, h v its height. -/
structure Rp (ps : List (Nat × Nat)) (f : List Nat) (r h : Nat → Nat) : Prop where
  len : f.length = 12
  lt : ∀ v, v < 12 → f.getD v 0 < 12
  fix : ∀ v, v < 12 → f.getD v 0 = v → r v = v
  step : ∀ v, v < 12 → f.getD v 0 ≠ v → h (f.getD v 0) < h v ∧ r (f.getD v 0) = r v
  root : ∀ v, v < 12 → r v < 12 ∧ f.getD (r v) 0 = r v
  same : ∀ u v, u < 12 → v < 12 → (r u = r v ↔ Cn ps u v)
  cnt : ∀ n, n ≤ 12 → BdP n ps → ((List.range n).filter fun v => decide (r v = v)).length = partsP n ps
def FR (ps : List (Nat × Nat)) (f : List Nat) : Prop := ∃ r h, Rp ps f r h
theorem getD_setN (f : List Nat) (i v x : Nat) : (f.set i x).getD v 0 = if v = i ∧ i < f.length then x else f.getD v 0 := by
  simp only [List.getD_eq_getElem?_getD, List.getElem?_set]
  by_cases h : i = v
  · subst h
    by_cases hl : i < f.length
    · simp [hl]
    · simp [hl]
  · simp [h, Ne.symm h]
theorem FR.mem {ps qs : List (Nat × Nat)} {f : List Nat} (h : FR ps f) (hm : ∀ p, p ∈ ps ↔ p ∈ qs) : FR qs f := by
  obtain ⟨r, hh, k⟩ := h
  refine ⟨r, hh, k.len, k.lt, k.fix, k.step, k.root, fun u v hu hv => (k.same u v hu hv).trans (cn_same hm), fun n hn hb => ?_⟩
  rw [k.cnt n hn (fun p hp => hb p ((hm p).1 hp))]
  exact partsP_congr fun _ _ => cn_same hm
theorem range12_get {v : Nat} (hv : v < 12) : (List.range 12).getD v 0 = v := by
  rw [List.getD_eq_getElem?_getD, List.getElem?_range hv]; rfl
theorem fr_nil : FR [] (List.range 12) := by
  refine ⟨id, fun _ => 0, by simp, fun v hv => by rw [range12_get hv]; exact hv, fun v _ _ => rfl, fun v hv h => absurd (range12_get hv) h, fun v hv => ⟨hv, range12_get hv⟩, fun u v _ _ => ⟨fun h => ?_, fun h => cn_nil h⟩, fun n _ _ => ?_⟩
  · have h : u = v := h
    subst h; exact .refl
  · rw [partsP_nil, List.filter_eq_self.2]
    · simp
    · intro v _; simp
theorem Rp.join {ps : List (Nat × Nat)} {f : List Nat} {r h : Nat → Nat} (k : Rp ps f r h) {a b : Nat} (ha : a < 12) (hb : b < 12) : FR ((a, b) :: ps) (f.set (r a) (r b)) := by
  have hra := k.root a ha
  have hrb := k.root b hb
  have hlen := k.len
  by_cases he : r a = r b
  · have hf : f.set (r a) (r b) = f := by
      apply List.ext_getElem?
      intro i
      by_cases hi : r a = i
      · subst hi
        rw [List.getElem?_set_self (by omega), ← he]
        have := hra.2
        rw [List.getD_eq_getElem?_getD, List.getElem?_eq_getElem (by omega)] at this
        rw [List.getElem?_eq_getElem (by omega)]
        simp only [Option.getD_some] at this
        rw [this]
      · rw [List.getElem?_set_ne hi]
    rw [hf]
    have hc : Cn ps a b := (k.same a b ha hb).1 he
    refine ⟨r, h, k.len, k.lt, k.fix, k.step, k.root, fun u v hu hv => (k.same u v hu hv).trans (cn_cons_of (p := (a, b)) hc).symm, fun n hn hbd => ?_⟩
    rw [k.cnt n hn hbd.cons.2, partsP_in (p := (a, b)) hc]
  · have hnc : ¬ Cn ps a b := fun hc => he ((k.same a b ha hb).2 hc)
    have hrr : ∀ v, v < 12 → r (r v) = r v := fun v hv => k.fix _ (k.root v hv).1 (k.root v hv).2
    have hg : ∀ v, (f.set (r a) (r b)).getD v 0 = if v = r a then r b else f.getD v 0 := fun v => by
      rw [getD_setN]
      by_cases hv : v = r a
      · rw [if_pos ⟨hv, by omega⟩, if_pos hv]
      · rw [if_neg (fun hc => hv hc.1), if_neg hv]
    have hrv : ∀ u v, u < 12 → v < 12 → (((if r u = r a then r b else r u) = (if r v = r a then r b else r v)) ↔ Cn ((a, b) :: ps) u v) := by
      intro u v hu hv
      rw [cn_cons]
      rw [← k.same u v hu hv, ← k.same u a hu ha, ← k.same b v hb hv, ← k.same u b hu hb, ← k.same a v ha hv]
      split <;> split <;> omega
    refine ⟨fun v => if r v = r a then r b else r v, fun v => if r v = r a then h v + h (r b) + 1 else h v, by simpa using hlen, ?_, ?_, ?_, ?_, hrv, ?_⟩
    · intro v hv
      rw [hg]
      split
      · exact hrb.1
      · exact k.lt v hv
    · intro v hv hfv
      rw [hg] at hfv
      split at hfv
      · omega
      · have := k.fix v hv hfv
        rw [if_neg (by omega)]; exact this
    · intro v hv hfv
      rw [hg] at hfv ⊢
      have e1 := hrr a ha
      have e2 := hrr b hb
      by_cases hva : v = r a
      · have hn : ¬ r b = r a := fun e => he e.symm
        rw [if_pos hva, hva]
        simp only [e1, e2, if_true, hn, if_false]
        exact ⟨by omega, trivial⟩
      · rw [if_neg hva] at hfv ⊢
        obtain ⟨s1, s2⟩ := k.step v hv hfv
        rw [s2]
        refine ⟨?_, rfl⟩
        split <;> omega
    · intro v hv
      have := k.root v hv
      by_cases hva : r v = r a
      · rw [if_pos hva, hg, if_neg (fun e => he e.symm)]; exact hrb
      · rw [if_neg hva, hg, if_neg hva]; exact this
    · intro n hn hbd
      obtain ⟨⟨h1, h2⟩, hbd'⟩ := hbd.cons
      dsimp only at h1 h2
      have hp := partsP_out (p := (a, b)) (n := n) h1 h2 hnc
      rw [← k.cnt n hn hbd'] at hp
      have hran : r a < n := ((k.same a (r a) ha hra.1).1 (hrr a ha).symm).lt hbd' h1
      have := filter_less (l := List.range n) List.nodup_range (x := r a) (by rw [List.mem_range]; exact hran) (P := fun v => decide (r v = v)) (Q := fun v => decide ((if r v = r a then r b else r v) = v)) (by rw [decide_eq_true_eq]; exact hrr a ha) (fun v hv => ?_)
      · omega
      · rw [List.mem_range] at hv
        have e1 := hrr a ha
        have e2 := hrr b hb
        have e3 := hrr v (by omega)
        rw [Bool.eq_iff_iff, Bool.and_eq_true, Bool.not_eq_true', decide_eq_true_eq, decide_eq_true_eq, decide_eq_false_iff_not]
        constructor
        · intro hh
          split at hh
          · rename_i hva
            rw [← hh, e2] at hva; omega
          · exact ⟨hh, by omega⟩
        · rintro ⟨h3, h4⟩
          rw [if_neg (by omega)]; exact h3
/-- The next pair. -/
theorem Rp.snoc {ps : List (Nat × Nat)} {f : List Nat} {r h : Nat → Nat} (k : Rp ps f r h) {a b : Nat} (ha : a < 12) (hb : b < 12) : FR (ps ++ [(a, b)]) (f.set (r a) (r b)) :=
  (k.join ha hb).mem fun p => by simp [or_comm]
end Go.Proofs.YtplgbapbgcipdaaGreatDoor

