/-
  Texts of this claim, put together: HeapP, TreeQ, Cells, ForP, Results, BurnP.
-/
import Derived.Test.YtplgbapbgcipdaaGreatK01
import Derived.Test.YtplgbapbgcipdaaGreatRows
import Derived.Laws.Rows
import Derived.Laws.ResultCell
import Derived.Test.YtplgbapbgcipdaaGreatK02
/-! Heaps of ints in a list, as container/heap keeps them: sifting up and down. No program is in sight. -/
namespace Go.Proofs.YtplgbapbgcipdaaGreat

def hp (H : List Int) (k : Nat) : Int := H.getD k 0
def swp (H : List Int) (i j : Nat) : List Int := (H.set i (hp H j)).set j (hp H i)
theorem hp_set {H : List Int} {i : Nat} (h : i < H.length) (x : Int) (k : Nat) : hp (H.set i x) k = if k = i then x else hp H k := by
  unfold hp
  rw [List.getD_eq_getElem?_getD, List.getElem?_set]
  by_cases hk : k = i
  · subst hk; rw [if_pos rfl, if_pos rfl, if_pos h]; rfl
  · rw [if_neg (fun e => hk e.symm), if_neg hk, List.getD_eq_getElem?_getD]
theorem swp_length (H : List Int) (i j : Nat) : (swp H i j).length = H.length := by simp [swp]
theorem hp_swp {H : List Int} {i j : Nat} (hi : i < H.length) (hj : j < H.length) (k : Nat) : hp (swp H i j) k = if k = j then hp H i else if k = i then hp H j else hp H k := by
  unfold swp
  rw [hp_set (by simpa using hj), hp_set hi]
/-- The first n are a heap. -/
def HeapN (H : List Int) (n : Nat) : Prop := ∀ k, 0 < k → k < n → hp H ((k - 1) / 2) ≤ hp H k
/-- A heap but for one that may be too small. -/
structure UpI (H : List Int) (n j : Nat) : Prop where
  lt : j < n
  le : n ≤ H.length
  rest : ∀ k, 0 < k → k < n → k ≠ j → hp H ((k - 1) / 2) ≤ hp H k
  kids : ∀ k, 0 < k → k < n → (k - 1) / 2 = j → 0 < j → hp H ((j - 1) / 2) ≤ hp H k
theorem UpI.step {H : List Int} {n j : Nat} (h : UpI H n j) (hj : 0 < j) (hlt : hp H j < hp H ((j - 1) / 2)) : UpI (swp H ((j - 1) / 2) j) n ((j - 1) / 2) := by
  obtain ⟨h1, h2, h3, h4⟩ := h
  obtain ⟨i, hi⟩ : ∃ i, (j - 1) / 2 = i := ⟨_, rfl⟩
  have hs := hp_swp (H := H) (i := i) (j := j) (by omega) (by omega)
  rw [hi] at hlt h4 ⊢
  refine ⟨by omega, by rw [swp_length]; exact h2, fun k k0 k1 k2 => ?_, fun k k0 k1 k2 k3 => ?_⟩
  · rw [hs, hs]
    by_cases e1 : k = j
    · subst e1
      rw [if_pos rfl, hi, if_neg (by omega), if_pos rfl]; omega
    · rw [if_neg e1, if_neg k2]
      have h5 := h3 k k0 k1 e1
      by_cases e2 : (k - 1) / 2 = j
      · rw [if_pos e2]; exact h4 k k0 k1 e2 hj
      · rw [if_neg e2]
        by_cases e3 : (k - 1) / 2 = i
        · rw [if_pos e3]; rw [e3] at h5; omega
        · rw [if_neg e3]; exact h5
  · rw [hs, hs]
    have h6 := h3 i k3 (by omega) (by omega)
    rw [if_neg (by omega), if_neg (by omega)]
    by_cases e1 : k = j
    · rw [if_pos e1]; exact h6
    · rw [if_neg e1, if_neg (by omega)]
      have h5 := h3 k k0 k1 e1
      rw [k2] at h5; omega
theorem UpI.done {H : List Int} {n j : Nat} (h : UpI H n j) (hd : j = 0 ∨ hp H ((j - 1) / 2) ≤ hp H j) : HeapN H n := by
  intro k k0 k1
  by_cases e : k = j
  · subst e
    rcases hd with hd | hd
    · omega
    · exact hd
  · exact h.rest k k0 k1 e
theorem UpI.start {H : List Int} {x : Int} (h : HeapN H H.length) : UpI (H ++ [x]) (H.length + 1) H.length := by
  have hl : ∀ k, k < H.length → hp (H ++ [x]) k = hp H k := fun k hk => by
    unfold hp; rw [List.getD_eq_getElem?_getD, List.getD_eq_getElem?_getD, List.getElem?_append_left hk]
  refine ⟨by omega, by simp, fun k k0 k1 k2 => ?_, fun k k0 k1 k2 k3 => by omega⟩
  rw [hl _ (by omega), hl _ (by omega)]
  exact h k k0 (by omega)
/-- A heap but for one that may be too great. -/
structure DnI (H : List Int) (n i : Nat) : Prop where
  le : n ≤ H.length
  rest : ∀ k, 0 < k → k < n → (k - 1) / 2 ≠ i → hp H ((k - 1) / 2) ≤ hp H k
  kids : ∀ k, 0 < k → k < n → (k - 1) / 2 = i → 0 < i → hp H ((i - 1) / 2) ≤ hp H k
theorem DnI.step {H : List Int} {n i j : Nat} (h : DnI H n i) (hj : j < n) (hp1 : j = 2 * i + 1 ∨ j = 2 * i + 2) (hm : ∀ k, k < n → (k = 2 * i + 1 ∨ k = 2 * i + 2) → hp H j ≤ hp H k) (hlt : hp H j < hp H i) : DnI (swp H i j) n j := by
  obtain ⟨h2, h3, h4⟩ := h
  have hs := hp_swp (H := H) (i := i) (j := j) (by omega) (by omega)
  have hpj : (j - 1) / 2 = i := by omega
  refine ⟨by rw [swp_length]; exact h2, fun k k0 k1 k2 => ?_, fun k k0 k1 k2 k3 => ?_⟩
  · rw [hs, hs, if_neg k2]
    by_cases e1 : k = j
    · subst e1
      rw [if_pos rfl, if_pos hpj]; omega
    · rw [if_neg e1]
      by_cases e2 : k = i
      · subst e2
        rw [if_pos rfl, if_neg (by omega)]
        exact h4 j (by omega) hj hpj k0
      · rw [if_neg e2]
        by_cases e3 : (k - 1) / 2 = i
        · rw [if_pos e3]; exact hm k k1 (by omega)
        · rw [if_neg e3]; exact h3 k k0 k1 e3
  · rw [hs, hs, hpj, if_neg (by omega), if_pos rfl, if_neg (by omega), if_neg (by omega)]
    have := h3 k k0 k1 (by omega)
    rw [k2] at this; exact this
theorem DnI.done {H : List Int} {n i : Nat} (h : DnI H n i) (hd : ∀ k, k < n → (k = 2 * i + 1 ∨ k = 2 * i + 2) → hp H i ≤ hp H k) : HeapN H n := by
  intro k k0 k1
  by_cases e : (k - 1) / 2 = i
  · rw [e]; exact hd k k1 (by omega)
  · exact h.rest k k0 k1 e
/-- The last one comes to the top: the rest but for the top is a heap. -/
theorem DnI.start {H : List Int} {n : Nat} (h : HeapN H (n + 1)) (hl : H.length = n + 1) : DnI (swp H 0 n) n 0 := by
  have hs := hp_swp (H := H) (i := 0) (j := n) (by omega) (by omega)
  refine ⟨by rw [swp_length]; omega, fun k k0 k1 k2 => ?_, fun k k0 k1 k2 k3 => by omega⟩
  rw [hs, hs, if_neg (by omega), if_neg k2, if_neg (by omega), if_neg (by omega)]
  exact h k k0 (by omega)
end Go.Proofs.YtplgbapbgcipdaaGreat

/-! Plain laws of spanning trees as sets of single edges: what a single edge separates, paths, exchanges. No program is in sight. -/
namespace Go.Proofs.YtplgbapbgcipdaaGreat

/-- The ends of some single edges. -/
def pk (E : List (Nat × Nat)) (t : List Nat) : List (Nat × Nat) := t.map fun e => E.getD e (0, 0)
/-- A list without a number. -/
def lessL (t : List Nat) (e : Nat) : List Nat := t.filter fun x => !decide (x = e)
/-- A set of numbers below m, ascending. -/
def SetN (m : Nat) (t : List Nat) : Prop := t.Pairwise (· < ·) ∧ ∀ e ∈ t, e < m
/-- Single edges without a cycle, each once. -/
structure FoE (n : Nat) (E : List (Nat × Nat)) (t : List Nat) : Prop where
  bd : BdP n E
  nodup : t.Nodup
  lt : ∀ e ∈ t, e < E.length
  fo : Fo (pk E t)

section
variable {E : List (Nat × Nat)} {t u : List Nat} {n e f a b : Nat}
theorem SetN.nodup {m : Nat} (h : SetN m t) : t.Nodup := h.1.imp fun h => by omega
theorem mem_pk {p : Nat × Nat} : p ∈ pk E t ↔ ∃ e ∈ t, E.getD e (0, 0) = p := by simp [pk]
theorem pk_length : (pk E t).length = t.length := by simp [pk]
theorem getD_bd (hb : BdP n E) (he : e < E.length) : (E.getD e (0, 0)).1 < n ∧ (E.getD e (0, 0)).2 < n := by
  have : E.getD e (0, 0) ∈ E := by
    rw [List.getD_eq_getElem?_getD, List.getElem?_eq_getElem he]; exact List.getElem_mem he
  exact hb _ this
theorem bd_pk (hb : BdP n E) (h : ∀ e ∈ t, e < E.length) : BdP n (pk E t) := by
  intro p hp
  obtain ⟨e, he, rfl⟩ := mem_pk.1 hp
  exact getD_bd hb (h e he)
theorem mem_less {x : Nat} : x ∈ lessL t e ↔ x ∈ t ∧ x ≠ e := by simp [lessL]
theorem less_sub : (lessL t e).Sublist t := List.filter_sublist
theorem less_nodup (h : t.Nodup) : (lessL t e).Nodup := h.sublist less_sub
theorem pk_sub (h : t.Sublist u) : (pk E t).Sublist (pk E u) := h.map _
theorem cn_sub (h : ∀ x ∈ t, x ∈ u) (hc : Cn (pk E t) a b) : Cn (pk E u) a b := hc.mono fun p hp => by
  obtain ⟨e, he, rfl⟩ := mem_pk.1 hp
  exact mem_pk.2 ⟨e, h e he, rfl⟩
theorem FoE.less (h : FoE n E t) (e : Nat) : FoE n E (lessL t e) := ⟨h.bd, less_nodup h.nodup, fun x hx => h.lt x (mem_less.1 hx).1, h.fo.sub (pk_sub less_sub)⟩
theorem FoE.add (h : FoE n E t) (he : e < E.length) (hn : e ∉ t) (hc : ¬ Cn (pk E t) (E.getD e (0, 0)).1 (E.getD e (0, 0)).2) : FoE n E (e :: t) :=
  ⟨h.bd, List.nodup_cons.2 ⟨hn, h.nodup⟩, fun x hx => (List.mem_cons.1 hx).elim (fun h => h ▸ he) (h.lt x), ⟨h.fo, hc⟩⟩
/-- The other end of a single edge. -/
def oth (p : Nat × Nat) (v : Nat) : Nat := if p.1 = v then p.2 else p.1
/-- A single edge touches a vertex. -/
def Inc (E : List (Nat × Nat)) (e v : Nat) : Prop := (E.getD e (0, 0)).1 = v ∨ (E.getD e (0, 0)).2 = v
instance inc_dec (E : List (Nat × Nat)) (e v : Nat) : Decidable (Inc E e v) := inferInstanceAs (Decidable (_ ∨ _))
theorem inc_cases {v : Nat} (h : Inc E e v) : ((E.getD e (0, 0)).1 = v ∧ (E.getD e (0, 0)).2 = oth (E.getD e (0, 0)) v) ∨ ((E.getD e (0, 0)).2 = v ∧ (E.getD e (0, 0)).1 = oth (E.getD e (0, 0)) v) := by
  unfold oth
  by_cases h1 : (E.getD e (0, 0)).1 = v
  · exact .inl ⟨h1, by rw [if_pos h1]⟩
  · rcases h with h | h
    · exact absurd h h1
    · exact .inr ⟨h, by rw [if_neg h1]⟩
/-- Where a single edge is present, its ends are connected. -/
theorem inc_cn {v : Nat} (he : e ∈ t) (h : Inc E e v) : Cn (pk E t) v (oth (E.getD e (0, 0)) v) := by
  have hp : Cn (pk E t) (E.getD e (0, 0)).1 (E.getD e (0, 0)).2 := Cn.pair (mem_pk.2 ⟨e, he, rfl⟩)
  rcases inc_cases h with ⟨h1, h2⟩ | ⟨h1, h2⟩
  · rw [h1, h2] at hp; exact hp
  · rw [h1, h2] at hp; exact hp.symm
/-- A single edge that separates two vertices in a tree. -/
def Sep (E : List (Nat × Nat)) (t : List Nat) (a b e : Nat) : Prop := ¬ Cn (pk E (lessL t e)) a b
instance sep_dec (E : List (Nat × Nat)) (t : List Nat) (a b e : Nat) : Decidable (Sep E t a b e) := inferInstanceAs (Decidable (¬ _))
theorem Sep.symm (h : Sep E t a b e) : Sep E t b a e := fun hc => h hc.symm
end
end Go.Proofs.YtplgbapbgcipdaaGreat

/-! A forest of joined vertices as cells. -/
namespace Go.Proofs.YtplgbapbgcipdaaGreat
open Go.RowKit

/-- A forest as cells. -/
def fcells (f : List Nat) : Array Value := (f.map fun v : Nat => Value.int .i64 v).toArray
theorem fcells_get {f : List Nat} {v : Nat} (h : v < f.length) : (fcells f)[v]? = some (.int .i64 (f.getD v 0 : Nat)) := by
  simp [fcells, List.getD_eq_getElem?_getD, List.getElem?_eq_getElem h]
theorem fcells_set (f : List Nat) (i x : Nat) : (fcells f).setIfInBounds i (.int .i64 (x : Nat)) = fcells (f.set i x) := by simp [fcells, List.map_set]
theorem list12 {l : List Nat} (h : l.length = 12) : ∃ a0 a1 a2 a3 a4 a5 a6 a7 a8 a9 a10 a11, l = [a0, a1, a2, a3, a4, a5, a6, a7, a8, a9, a10, a11] := by
  match l, h with
  | [a0, a1, a2, a3, a4, a5, a6, a7, a8, a9, a10, a11], _ => exact ⟨_, _, _, _, _, _, _, _, _, _, _, _, rfl⟩
end Go.Proofs.YtplgbapbgcipdaaGreat

/-! Plain laws of a forest of joined vertices in which each vertex has any other one of its part: the roots. No program is in sight. -/
namespace Go.Proofs.YtplgbapbgcipdaaGreat

/-- What an array of 12 vertices says of some pairs: r v is the root of v, h v its height. -/
structure Rp (ps : List (Nat × Nat)) (f : List Nat) (r h : Nat → Nat) : Prop where
  len : f.length = 12
  lt : ∀ v, v < 12 → f.getD v 0 < 12
  fix : ∀ v, v < 12 → f.getD v 0 = v → r v = v
  step : ∀ v, v < 12 → f.getD v 0 ≠ v → h (f.getD v 0) < h v ∧ r (f.getD v 0) = r v
  root : ∀ v, v < 12 → r v < 12 ∧ f.getD (r v) 0 = r v
  same : ∀ u v, u < 12 → v < 12 → (r u = r v ↔ Cn ps u v)
  cnt : ∀ n, n ≤ 12 → BdP n ps → ((List.range n).filter fun v => decide (r v = v)).length = partsP n ps
def FR (ps : List (Nat × Nat)) (f : List Nat) : Prop := ∃ r h, Rp ps f r h
theorem getD_setN (f : List Nat) (i v x : Nat) : (f.set i x).getD v 0 = if v = i ∧ i < f.length then x else f.getD v 0 := by
  simp only [List.getD_eq_getElem?_getD, List.getElem?_set]
  by_cases h : i = v
  · subst h
    by_cases hl : i < f.length
    · simp [hl]
    · simp [hl]
  · simp [h, Ne.symm h]
theorem FR.mem {ps qs : List (Nat × Nat)} {f : List Nat} (h : FR ps f) (hm : ∀ p, p ∈ ps ↔ p ∈ qs) : FR qs f := by
  obtain ⟨r, hh, k⟩ := h
  refine ⟨r, hh, k.len, k.lt, k.fix, k.step, k.root, fun u v hu hv => (k.same u v hu hv).trans (cn_same hm), fun n hn hb => ?_⟩
  rw [k.cnt n hn (fun p hp => hb p ((hm p).1 hp))]
  exact partsP_congr fun _ _ => cn_same hm
theorem Rp.join {ps : List (Nat × Nat)} {f : List Nat} {r h : Nat → Nat} (k : Rp ps f r h) {a b : Nat} (ha : a < 12) (hb : b < 12) : FR ((a, b) :: ps) (f.set (r a) (r b)) := by
  have hra := k.root a ha
  have hrb := k.root b hb
  have hlen := k.len
  by_cases he : r a = r b
  · have hf : f.set (r a) (r b) = f := by
      apply List.ext_getElem?
      intro i
      by_cases hi : r a = i
      · subst hi
        rw [List.getElem?_set_self (by omega), ← he]
        have := hra.2
        rw [List.getD_eq_getElem?_getD, List.getElem?_eq_getElem (by omega)] at this
        rw [List.getElem?_eq_getElem (by omega)]
        simp only [Option.getD_some] at this
        rw [this]
      · rw [List.getElem?_set_ne hi]
    rw [hf]
    have hc : Cn ps a b := (k.same a b ha hb).1 he
    refine ⟨r, h, k.len, k.lt, k.fix, k.step, k.root, fun u v hu hv => (k.same u v hu hv).trans (cn_cons_of (p := (a, b)) hc).symm, fun n hn hbd => ?_⟩
    rw [k.cnt n hn hbd.cons.2, partsP_in (p := (a, b)) hc]
  · have hnc : ¬ Cn ps a b := fun hc => he ((k.same a b ha hb).2 hc)
    have hrr : ∀ v, v < 12 → r (r v) = r v := fun v hv => k.fix _ (k.root v hv).1 (k.root v hv).2
    have hg : ∀ v, (f.set (r a) (r b)).getD v 0 = if v = r a then r b else f.getD v 0 := fun v => by
      rw [getD_setN]
      by_cases hv : v = r a
      · rw [if_pos ⟨hv, by omega⟩, if_pos hv]
      · rw [if_neg (fun hc => hv hc.1), if_neg hv]
    have hrv : ∀ u v, u < 12 → v < 12 → (((if r u = r a then r b else r u) = (if r v = r a then r b else r v)) ↔ Cn ((a, b) :: ps) u v) := by
      intro u v hu hv
      rw [cn_cons]
      rw [← k.same u v hu hv, ← k.same u a hu ha, ← k.same b v hb hv, ← k.same u b hu hb, ← k.same a v ha hv]
      split <;> split <;> omega
    refine ⟨fun v => if r v = r a then r b else r v, fun v => if r v = r a then h v + h (r b) + 1 else h v, by simpa using hlen, ?_, ?_, ?_, ?_, hrv, ?_⟩
    · intro v hv
      rw [hg]
      split
      · exact hrb.1
      · exact k.lt v hv
    · intro v hv hfv
      rw [hg] at hfv
      split at hfv
      · omega
      · have := k.fix v hv hfv
        rw [if_neg (by omega)]; exact this
    · intro v hv hfv
      rw [hg] at hfv ⊢
      have e1 := hrr a ha
      have e2 := hrr b hb
      by_cases hva : v = r a
      · have hn : ¬ r b = r a := fun e => he e.symm
        rw [if_pos hva, hva]
        simp only [e1, e2, if_true, hn, if_false]
        exact ⟨by omega, trivial⟩
      · rw [if_neg hva] at hfv ⊢
        obtain ⟨s1, s2⟩ := k.step v hv hfv
        rw [s2]
        refine ⟨?_, rfl⟩
        split <;> omega
    · intro v hv
      have := k.root v hv
      by_cases hva : r v = r a
      · rw [if_pos hva, hg, if_neg (fun e => he e.symm)]; exact hrb
      · rw [if_neg hva, hg, if_neg hva]; exact this
    · intro n hn hbd
      obtain ⟨⟨h1, h2⟩, hbd'⟩ := hbd.cons
      dsimp only at h1 h2
      have hp := partsP_out (p := (a, b)) (n := n) h1 h2 hnc
      rw [← k.cnt n hn hbd'] at hp
      have hran : r a < n := ((k.same a (r a) ha hra.1).1 (hrr a ha).symm).lt hbd' h1
      have := filter_less (l := List.range n) List.nodup_range (x := r a) (by rw [List.mem_range]; exact hran) (P := fun v => decide (r v = v)) (Q := fun v => decide ((if r v = r a then r b else r v) = v)) (by rw [decide_eq_true_eq]; exact hrr a ha) (fun v hv => ?_)
      · omega
      · rw [List.mem_range] at hv
        have e1 := hrr a ha
        have e2 := hrr b hb
        have e3 := hrr v (by omega)
        rw [Bool.eq_iff_iff, Bool.and_eq_true, Bool.not_eq_true', decide_eq_true_eq, decide_eq_true_eq, decide_eq_false_iff_not]
        constructor
        · intro hh
          split at hh
          · rename_i hva
            rw [← hh, e2] at hva; omega
          · exact ⟨hh, by omega⟩
        · rintro ⟨h3, h4⟩
          rw [if_neg (by omega)]; exact h3
/-- The next pair. -/
theorem Rp.snoc {ps : List (Nat × Nat)} {f : List Nat} {r h : Nat → Nat} (k : Rp ps f r h) {a b : Nat} (ha : a < 12) (hb : b < 12) : FR (ps ++ [(a, b)]) (f.set (r a) (r b)) :=
  (k.join ha hb).mem fun p => by simp [or_comm]
end Go.Proofs.YtplgbapbgcipdaaGreat

/-! A struct that a function hands back: read out of its box. -/
namespace Go.Proofs.YtplgbapbgcipdaaGreat
open Go.RowKit
section
variable {fn : Func} {p u v : Tmp} {tmps : Array Value} {w : World} {g : Nat} {cs : Array Value}
theorem info_graph : (Tryz.prog.info? 24).map (·.size) = some 2 := by kernel_rfl
theorem results_g (h : fn.results = #[.cell p 24]) (hp : tmps.getD p undef = .pointer (some ⟨g, 0, none⟩)) (hg : Blk w g 24 cs) (hs : cs.size = 2) :
    (results fn tmps).run Tryz.prog w = .ok (.agg cs) w := by
  exact results_cell_row h tmps w g _ cs _ _ hp hg Tryz.underlying24 rfl (by rw [info_graph, hs])
end
end Go.Proofs.YtplgbapbgcipdaaGreat

/-! Plain laws of burning: the fire, whatever burns first, and the sets that block. No program is in sight. -/
namespace Go.Proofs.YtplgbapbgcipdaaGreat

/-- How many single edges join a vertex with those of a list. -/
def joinsN (es : List (Int × Int × Int)) (v : Nat) (l : List Nat) : Int := (l.map fun u : Nat => btw es v u).sum
/-- .. as the program counts them: over all vertices below k. -/
def flmTo (es : List (Int × Int × Int)) (l : List Nat) (v : Nat) : Nat → Int
  | 0 => 0
  | k + 1 => flmTo es l v k + if k ∈ l then tt es v k else 0
/-- Burnt vertices, each once. -/
def LOk (n : Nat) (l : List Nat) : Prop := l.Nodup ∧ ∀ u ∈ l, u < n
theorem joinsN_snoc (es : List (Int × Int × Int)) (v : Nat) (l : List Nat) (x : Nat) : joinsN es v (l ++ [x]) = joinsN es v l + btw es v x := by simp [joinsN]
theorem joinsN_nil (es : List (Int × Int × Int)) (v : Nat) : joinsN es v [] = 0 := rfl
theorem flmTo_bd {n : Int} {es : List (Int × Int × Int)} (h : ∀ e ∈ es, okE n e) (l : List Nat) (v k : Nat) : 0 ≤ flmTo es l v k ∧ flmTo es l v k ≤ 50 * k := by
  induction k with
  | zero => simp [flmTo]
  | succ k ih =>
    have := tt_bd h v k
    rw [flmTo]
    split <;> omega
theorem flmTo_snoc {es : List (Int × Int × Int)} {l : List Nat} {v x : Nat} (hx : x ∉ l) : ∀ k, flmTo es (l ++ [x]) v k = flmTo es l v k + if x < k then tt es v x else 0
  | 0 => by simp [flmTo]
  | k + 1 => by
    rw [flmTo, flmTo, flmTo_snoc hx k]
    by_cases hk : k = x
    · subst hk
      simp [hx]
    · have h1 : (k ∈ l ++ [x]) ↔ k ∈ l := by simp [hk]
      simp only [h1]
      by_cases h2 : x < k
      · have h3 : x < k + 1 := by omega
        simp only [h2, h3, if_true]; omega
      · have h3 : ¬ x < k + 1 := by omega
        simp only [h2, h3, if_false]; omega
theorem flmTo_nil (es : List (Int × Int × Int)) (v k : Nat) : flmTo es [] v k = 0 := by
  induction k with
  | zero => rfl
  | succ k ih => rw [flmTo, ih]; simp
theorem LOk.front {n : Nat} {l : List Nat} {x : Nat} (h : LOk n (l ++ [x])) : LOk n l ∧ x ∉ l ∧ x < n := by
  obtain ⟨h1, h2⟩ := h
  rw [List.nodup_append] at h1
  obtain ⟨a, b, c⟩ := h1
  exact ⟨⟨a, fun u hu => h2 u (by simp [hu])⟩, fun hx => c x hx x (by simp) rfl, h2 x (by simp)⟩
theorem LOk.snoc {n : Nat} {l : List Nat} {x : Nat} (h : LOk n l) (hx : x ∉ l) (hn : x < n) : LOk n (l ++ [x]) := by
  refine ⟨?_, ?_⟩
  · rw [List.nodup_append]
    exact ⟨h.1, by simp, fun a ha b hb e => by simp at hb; subst hb; subst e; exact hx ha⟩
  · intro u hu
    rcases List.mem_append.1 hu with hu | hu
    · exact h.2 u hu
    · simp at hu; omega
theorem snocRec {α : Type} {P : List α → Prop} (h0 : P []) (h1 : ∀ l x, P l → P (l ++ [x])) (l : List α) : P l := by
  obtain ⟨r, rfl⟩ : ∃ r, l = r.reverse := ⟨l.reverse, by simp⟩
  induction r with
  | nil => exact h0
  | cons x r ih => rw [List.reverse_cons]; exact h1 _ _ ih
theorem flm_joins {es : List (Int × Int × Int)} {n v : Nat} (l : List Nat) : LOk n l → v ∉ l → flmTo es l v n = joinsN es v l := by
  induction l using snocRec with
  | h0 => intro _ _; rw [flmTo_nil]; rfl
  | h1 l x ih =>
    intro h hv
    obtain ⟨h1, h2, h3⟩ := h.front
    rw [flmTo_snoc h2, joinsN_snoc, ih h1 (fun hc => hv (by simp [hc])), if_pos h3]
    unfold tt
    rw [if_neg (fun e => hv (by simp [e]))]

/-- More vertices, no fewer joints. -/
theorem joinsN_cons (es : List (Int × Int × Int)) (v x : Nat) (l : List Nat) : joinsN es v (x :: l) = btw es v x + joinsN es v l := by simp [joinsN]
theorem joinsN_erase (es : List (Int × Int × Int)) (v x : Nat) : ∀ {l : List Nat}, x ∈ l → joinsN es v l = btw es v x + joinsN es v (l.erase x)
  | [], h => by simp at h
  | y :: l, h => by
    by_cases hy : y = x
    · subst hy; rw [joinsN_cons, List.erase_cons_head]
    · rw [List.erase_cons_tail (by simpa using hy), joinsN_cons, joinsN_cons]
      rw [joinsN_erase es v x (l := l) (by
        rcases List.mem_cons.1 h with rfl | h
        · exact absurd rfl hy
        · exact h)]
      omega
theorem joinsN_nonneg {es : List (Int × Int × Int)} (he : ∀ a b, 0 ≤ btw es a b) (v : Nat) (l : List Nat) : 0 ≤ joinsN es v l := by
  induction l with
  | nil => exact Int.le_refl _
  | cons x l ih => rw [joinsN_cons]; have := he v x; omega
theorem joins_mono {es : List (Int × Int × Int)} {n m : Nat} (he : ∀ a b, 0 ≤ btw es a b) : ∀ {l l' : List Nat}, LOk n l → LOk m l' → (∀ u ∈ l, u ∈ l') → ∀ v, joinsN es v l ≤ joinsN es v l'
  | [], l', _, _, _, v => by rw [joinsN_nil]; exact joinsN_nonneg he v l'
  | x :: l, l', h, h', hs, v => by
    obtain ⟨h1, h2⟩ := h
    rw [List.nodup_cons] at h1
    have hx := hs x (by simp)
    rw [joinsN_cons, joinsN_erase es v x hx]
    have := joins_mono he (l := l) (l' := l'.erase x) ⟨h1.2, fun u hu => h2 u (by simp [hu])⟩ ⟨h'.1.erase x, fun u hu => h'.2 u (List.mem_of_mem_erase hu)⟩ (fun u hu => by
      rw [h'.1.mem_erase_iff]
      exact ⟨fun e => h1.1 (e ▸ hu), hs u (by simp [hu])⟩) v
    omega

/-- A vertex that is not burnt burns now. -/
def catL (es : List (Int × Int × Int)) (c : List Int) (l : List Nat) (v : Nat) : Bool := !decide (v ∈ l) && decide (c.getD v 0 < joinsN es v l)
def readyL (es : List (Int × Int × Int)) (c : List Int) (n : Nat) (l : List Nat) : List Nat := (List.range n).filter (catL es c l)
/-- The fire goes on: the least vertex that burns now, so many times. -/
def burnL (es : List (Int × Int × Int)) (c : List Int) (n : Nat) : Nat → List Nat → List Nat
  | 0, l => l
  | k + 1, l => match (readyL es c n l).head? with
    | none => l
    | some v => burnL es c n k (l ++ [v])
def burntL (es : List (Int × Int × Int)) (c : List Int) (n q : Nat) : List Nat := burnL es c n n [q]
def restL (n : Nat) (l : List Nat) : List Nat := (List.range n).filter fun v => !decide (v ∈ l)
section
variable {es : List (Int × Int × Int)} {c : List Int} {n : Nat} {l : List Nat} {v : Nat}
theorem catL_true : catL es c l v = true ↔ v ∉ l ∧ c.getD v 0 < joinsN es v l := by simp [catL]
theorem mem_ready : v ∈ readyL es c n l ↔ v < n ∧ v ∉ l ∧ c.getD v 0 < joinsN es v l := by
  unfold readyL; rw [List.mem_filter, List.mem_range, catL_true]
theorem mem_rest : v ∈ restL n l ↔ v < n ∧ v ∉ l := by
  unfold restL; rw [List.mem_filter, List.mem_range]; simp
theorem head_ready (h : (readyL es c n l).head? = some v) : v < n ∧ v ∉ l ∧ c.getD v 0 < joinsN es v l := mem_ready.1 (List.mem_of_mem_head? (by rw [h]; rfl))
theorem head_ready_of (hn : v < n) (hv : catL es c l v = true) (hlt : ∀ u, u < v → catL es c l u = false) : (readyL es c n l).head? = some v := by
  unfold readyL
  rw [List.head?_filter, List.find?_range_eq_some]
  exact ⟨hv, by simpa using hn, fun u hu => by simp [hlt u hu]⟩
theorem ready_none (h : ∀ u, u < n → catL es c l u = false) : readyL es c n l = [] := by
  unfold readyL
  rw [List.filter_eq_nil_iff]
  intro u hu
  rw [h u (by simpa using hu)]
  simp
theorem none_ready (h : (readyL es c n l).head? = none) : ∀ u, u < n → catL es c l u = false := by
  intro u hu
  have h0 : readyL es c n l = [] := by simpa using h
  unfold readyL at h0
  rw [List.filter_eq_nil_iff] at h0
  have := h0 u (by simpa using hu)
  simpa using this
theorem burnL_ok (k : Nat) : ∀ l, LOk n l → LOk n (burnL es c n k l) := by
  induction k with
  | zero => intro l h; exact h
  | succ k ih =>
    intro l h
    rw [burnL]
    rcases he : (readyL es c n l).head? with _ | v
    · exact h
    · obtain ⟨h1, h2, _⟩ := head_ready he
      exact ih _ (h.snoc h2 h1)
theorem burnL_pre (k : Nat) : ∀ l, l <+: burnL es c n k l := by
  induction k with
  | zero => intro l; exact List.prefix_rfl
  | succ k ih =>
    intro l
    rw [burnL]
    rcases he : (readyL es c n l).head? with _ | v
    · exact List.prefix_rfl
    · exact (List.prefix_append l [v]).trans (ih _)
/-- A list of numbers below n, each once, is not longer than n. -/
theorem nodup_len : ∀ {n : Nat} {l : List Nat}, LOk n l → l.length ≤ n
  | 0, l, h => by
    rcases l with _ | ⟨x, l⟩
    · simp
    · have := h.2 x (by simp); omega
  | n + 1, l, h => by
    by_cases hn : n ∈ l
    · have h1 : LOk n (l.erase n) := ⟨h.1.erase n, fun u hu => by
        have h2 := (h.1.mem_erase_iff).1 hu
        have := h.2 u h2.2
        have := h2.1
        omega⟩
      have := nodup_len h1
      rw [List.length_erase_of_mem hn] at this
      omega
    · have h1 : LOk n l := ⟨h.1, fun u hu => by
        have := h.2 u hu
        have : u ≠ n := fun e => hn (e ▸ hu)
        omega⟩
      have := nodup_len h1
      omega
theorem burnL_done {k : Nat} : ∀ {l : List Nat}, LOk n l → n ≤ l.length + k → ∀ u, u < n → catL es c (burnL es c n k l) u = false := by
  induction k with
  | zero =>
    intro l h hk u hu
    rw [burnL]
    by_cases hm : u ∈ l
    · simp [catL, hm]
    · have := nodup_len (h.snoc hm hu)
      simp at this
      omega
  | succ k ih =>
    intro l h hk u hu
    rw [burnL]
    rcases he : (readyL es c n l).head? with _ | v
    · exact none_ready he u hu
    · obtain ⟨h1, h2, _⟩ := head_ready he
      exact ih (h.snoc h2 h1) (by simp; omega) u hu
theorem burnL_stop (h : (readyL es c n l).head? = none) (k : Nat) : burnL es c n k l = l := by
  rcases k with _ | k
  · rfl
  · rw [burnL, h]
theorem burnL_step (h : (readyL es c n l).head? = some v) (k : Nat) : burnL es c n (k + 1) l = burnL es c n k (l ++ [v]) := by rw [burnL, h]
/-- Behind enough rounds the fire is over. -/
theorem burnL_more {k j : Nat} : ∀ {l : List Nat}, LOk n l → n ≤ l.length + k → n ≤ l.length + j → burnL es c n k l = burnL es c n j l := by
  induction k generalizing j with
  | zero =>
    intro l h hk hj
    have hnone : (readyL es c n l).head? = none := by
      rw [ready_none]
      · rfl
      · intro u hu
        have := burnL_done (es := es) (c := c) (k := 0) h hk u hu
        exact this
    rw [burnL_stop hnone, burnL_stop hnone]
  | succ k ih =>
    intro l h hk hj
    rcases he : (readyL es c n l).head? with _ | v
    · rw [burnL_stop he, burnL_stop he]
    · obtain ⟨h1, h2, _⟩ := head_ready he
      rcases j with _ | j
      · have := nodup_len (h.snoc h2 h1)
        simp at this
        omega
      · rw [burnL_step he, burnL_step he]
        exact ih (h.snoc h2 h1) (by simp; omega) (by simp; omega)
/-- A fire that burns any vertices that burn, in whatever order, burns no others; and at its end just those. -/
theorem burns_same {l' : List Nat} (hl : ∀ u ∈ l, u ∈ l') (hc : ∀ u, u < n → catL es c l' u = false) (hn : LOk n l') (he : ∀ a b, 0 ≤ btw es a b) (k : Nat) : LOk n l → ∀ u ∈ burnL es c n k l, u ∈ l' := by
  induction k generalizing l with
  | zero => intro _ u hu; exact hl u hu
  | succ k ih =>
    intro h0
    rw [burnL]
    rcases hv : (readyL es c n l).head? with _ | v
    · exact hl
    · obtain ⟨h1, h2, h3⟩ := head_ready hv
      refine ih (l := l ++ [v]) ?_ (h0.snoc h2 h1)
      intro u hu
      rcases List.mem_append.1 hu with hu | hu
      · exact hl u hu
      · simp at hu
        subst hu
        refine Classical.byContradiction fun hm => ?_
        have := hc u h1
        rw [← Bool.not_eq_true, catL_true] at this
        refine this ⟨hm, ?_⟩
        have hle : joinsN es u l ≤ joinsN es u l' := joins_mono he h0 hn hl u
        omega
end
end Go.Proofs.YtplgbapbgcipdaaGreat

/-! Plain laws of burning, more: what comes of the fire, and how much is left. No program is in sight. -/
namespace Go.Proofs.YtplgbapbgcipdaaGreat
section
variable {es : List (Int × Int × Int)} {c : List Int} {n : Nat} {l : List Nat} {v : Nat}
theorem restL_nodup (n : Nat) (l : List Nat) : (restL n l).Nodup := by unfold restL; exact List.Nodup.sublist List.filter_sublist List.nodup_range
theorem restL_snoc (n : Nat) (l : List Nat) (x : Nat) : restL n (l ++ [x]) = (restL n l).erase x := by
  rw [(restL_nodup n l).erase_eq_filter]
  unfold restL
  rw [List.filter_filter]
  apply List.filter_congr
  intro u _
  by_cases h : u = x <;> by_cases h2 : u ∈ l <;> simp [h, h2]
theorem rest_len (l : List Nat) : LOk n l → (restL n l).length + l.length = n := by
  induction l using snocRec with
  | h0 =>
    intro _
    unfold restL
    rw [List.filter_eq_self.2 (by simp)]
    simp
  | h1 l x ih =>
    intro h
    obtain ⟨h1, h2, h3⟩ := h.front
    have := ih h1
    have hm : x ∈ restL n l := mem_rest.2 ⟨h3, h2⟩
    have hp := List.length_pos_of_mem hm
    rw [restL_snoc, List.length_erase_of_mem hm, List.length_append, List.length_singleton]
    omega
theorem burnL_next (h : LOk n l) (hv : (readyL es c n l).head? = some v) : burnL es c n n l = burnL es c n n (l ++ [v]) := by
  obtain ⟨h1, h2, _⟩ := head_ready hv
  rcases n with _ | n
  · omega
  · rw [burnL_step hv, burnL_more (h.snoc h2 h1) (k := n) (j := n + 1) (by rw [List.length_append, List.length_singleton]; omega) (by rw [List.length_append, List.length_singleton]; omega)]
end
theorem tt_append {n : Int} {es fs : List (Int × Int × Int)} (h : (es ++ fs).Pairwise ltE) (hok : ∀ e ∈ es, okE n e) (x w : Nat) : tt (es ++ fs) x w = tt es x w + tt fs x w := by
  unfold tt
  split
  · rfl
  · exact btw_append h (fun e he => by have := hok e he; unfold okE at this; omega) _ _
theorem fewer_burn {n q : Nat} {es : List (Int × Int × Int)} (he : ∀ a b, 0 ≤ btw es a b) (hq : q < n) {cs ds : List Int} (h : ∀ v, v < n → ds.getD v 0 ≤ cs.getD v 0) : ∀ v, v ∈ burntL es cs n q → v ∈ burntL es ds n q := by
  have hl : LOk n [q] := ⟨by simp, by simpa using hq⟩
  have hdone := burnL_done (es := es) (c := ds) (n := n) (k := n) (l := [q]) hl (by simp)
  refine burns_same (es := es) (c := cs) (n := n) (l := [q]) (l' := burntL es ds n q) (fun u hu => (burnL_pre n [q]).subset hu) (fun u hu => ?_) (burnL_ok n _ hl) he n hl
  have h1 := hdone u hu
  change catL es ds (burntL es ds n q) u = false at h1
  rw [← Bool.not_eq_true, catL_true] at h1 ⊢
  rintro ⟨h2, h3⟩
  have := h u hu
  exact h1 ⟨h2, by omega⟩
end Go.Proofs.YtplgbapbgcipdaaGreat

