/-
  Texts of this claim, put together: DelF, ConnB, Sort, FireP, GridW, ContD.
-/
import Derived.Test.YtplgbapbgcipdaaGreatK12
import Derived.Test.YtplgbapbgcipdaaGreatK13
import Derived.Lib.SliceRun
import Derived.WalkKit
import Derived.Test.YtplgbapbgcipdaaGreatK02
import Derived.Test.YtplgbapbgcipdaaGreatK08
import Derived.Deep.QuietTactic
import Derived.BigQuiet
import Derived.Test.YtplgbapbgcipdaaGreatK09
/-! slices.DeleteFunc on ints, with a function that has captured one variable: the row of the call's own is cut to what is kept. -/
namespace Go.Proofs.YtplgbapbgcipdaaGreat
open Go.RowKit

theorem OwnI.cut {w : World} {base c g : Nat} {xs : List Int} (h : OwnI w base (some ⟨g, 0, none⟩) c xs) (k : Nat) (hk : k ≤ xs.length) : OwnI w base (some ⟨g, 0, none⟩) c (xs.take k) := by
  obtain ⟨h1, h2⟩ := h
  have e : (xs.take k).length = k := by simp; omega
  rcases h2 with ⟨h2, h3⟩ | ⟨g', cap, cur, hv, hg, hh, r1, r2, r3, r4⟩
  · simp at h2
  · injection hv with hv1 hv2 hv3
    refine ⟨by rw [ints_length]; simp, .inr ⟨g', cap, cur, by rw [hv1, hv3], hg, hh, by omega, r2, r3, ?_⟩⟩
    rw [e, Nat.mul_one]
    rw [Nat.mul_one] at r4
    have : (cur.toList.take xs.length).take k = (ints xs).take k := by rw [r4]
    rw [List.take_take, Nat.min_eq_left hk] at this
    rw [this]; simp [ints, List.map_take]
theorem OwnI.zero {base c g : Nat} {xs : List Int} : ∀ (n o : Nat) {w : World}, OwnI w base (some ⟨g, 0, none⟩) c xs → xs.length ≤ o → OwnI (w.setCells g o (List.replicate n (.int .i64 0))) base (some ⟨g, 0, none⟩) c xs
  | 0, _, _, h, _ => h
  | n + 1, o, w, h, ho => by
    rw [List.replicate_succ]
    refine OwnI.zero n (o + 1) (w := w.setCell ⟨g, o, none⟩ (.int .i64 0)) ?_ (by omega)
    have := h.put o 0
    rw [List.set_eq_of_length_le ho] at this
    exact this
theorem OwnI.cap {w : World} {base c g : Nat} {xs : List Int} (h : OwnI w base (some ⟨g, 0, none⟩) c xs) : xs.length ≤ c := by
  obtain ⟨h1, h2⟩ := h
  rcases h2 with ⟨h2, h3⟩ | ⟨g', cap, cur, hv, hg, hh, r1, r2, r3, r4⟩
  · simp at h2
  · injection hv with hv1 hv2 hv3
    omega

/-- The filter's own invariant: i elements are kept out of the first j. -/
def Kept (p : Int → Bool) (xs ks : List Int) (i j : Nat) : Prop := ks.length = xs.length ∧ i < j ∧ j ≤ xs.length ∧ ks.take i = (xs.take j).filter (fun x => !p x) ∧ ∀ q, j ≤ q → ks[q]? = xs[q]?
theorem Kept.start {p : Int → Bool} {xs : List Int} {k : Nat} {x : Int} (h1 : xs[k]? = some x) (h2 : p x = true) (h3 : ∀ x ∈ xs.take k, p x = false) : Kept p xs xs k (k + 1) := by
  obtain ⟨hk, e⟩ := List.getElem?_eq_some_iff.1 h1
  refine ⟨rfl, by omega, by omega, ?_, fun _ _ => rfl⟩
  rw [take_snoc h1, List.filter_append]
  have : (xs.take k).filter (fun x => !p x) = xs.take k := List.filter_eq_self.2 fun x hx => by simp [h3 x hx]
  rw [this]; simp [h2]
theorem Kept.skip {p : Int → Bool} {xs ks : List Int} {i j : Nat} {x : Int} (h : Kept p xs ks i j) (h1 : xs[j]? = some x) (h2 : p x = true) : Kept p xs ks i (j + 1) := by
  obtain ⟨hk, e⟩ := List.getElem?_eq_some_iff.1 h1
  obtain ⟨a, b, c, d, f⟩ := h
  refine ⟨a, by omega, by omega, ?_, fun q hq => f q (by omega)⟩
  rw [take_snoc h1, List.filter_append, d]; simp [h2]
theorem Kept.keep {p : Int → Bool} {xs ks : List Int} {i j : Nat} {x : Int} (h : Kept p xs ks i j) (h1 : xs[j]? = some x) (h2 : p x = false) : Kept p xs (ks.set i x) (i + 1) (j + 1) := by
  obtain ⟨hk, e⟩ := List.getElem?_eq_some_iff.1 h1
  obtain ⟨a, b, c, d, f⟩ := h
  refine ⟨by simpa using a, by omega, by omega, ?_, fun q hq => ?_⟩
  · have hs : (ks.set i x)[i]? = some x := by rw [List.getElem?_set_self (by omega)]
    rw [take_snoc hs, List.take_set_of_le (Nat.le_refl _), d, take_snoc h1, List.filter_append]; simp [h2]
  · rw [List.getElem?_set_ne (by omega)]; exact f q (by omega)
theorem Kept.done {p : Int → Bool} {xs ks : List Int} {i : Nat} (h : Kept p xs ks i xs.length) : ks.take i = xs.filter (fun x => !p x) := by
  obtain ⟨a, b, c, d, f⟩ := h
  rw [d, List.take_length]
end Go.Proofs.YtplgbapbgcipdaaGreat

/-! Connectedness, as a bool. -/
namespace Go.Proofs.YtplgbapbgcipdaaGreat
open Go.RowKit

/-- Is a right graph connected? -/
def connB (n : Nat) (es : List E3) : Bool := decide ((partsTo es n n).1 = 1)
theorem connB_iff {n : Nat} {es : List E3} (hG : RightG n es) : connB n es = true ↔ AllConn n es := by
  rw [← partsTo_connected hG]; simp [connB]
theorem connB_joins {n : Nat} {es : List E3} {f : List Nat} (hG : RightG n es) (h : Joins es f) : connB n es = decide (rootsTo f n = 1) := by
  rw [Bool.eq_iff_iff, connB_iff hG, ← joins_connected h hG]; simp

end Go.Proofs.YtplgbapbgcipdaaGreat

/-! slices.Sort on at most 12 ints of the call's own: they come out ascending. -/
namespace Go.Proofs.YtplgbapbgcipdaaGreat
open Go.RowKit

/-- All pairs up to i are in order, but for those whose second one is j. -/
def Srt (L : List Int) (i j : Nat) : Prop := ∀ p q, p < q → q ≤ i → q ≠ j → ∀ x y, L[p]? = some x → L[q]? = some y → x ≤ y
theorem Srt.done {L : List Int} {i m : Nat} {a b : Int} (hs : Srt L i (m + 1)) (_hi : m + 1 ≤ i) (ha : L[m]? = some a) (hb : L[m + 1]? = some b) (hab : a ≤ b) : Srt L i (i + 1) := by
  intro p q hpq hq _ x y hx hy
  by_cases h2 : q = m + 1
  · subst h2
    rw [hb] at hy; injection hy with hy; subst hy
    by_cases h3 : p = m
    · subst h3; rw [ha] at hx; injection hx with hx; omega
    · have := hs p m (by omega) (by omega) (by omega) x a hx ha; omega
  · exact hs p q hpq hq h2 x y hx hy
theorem Srt.zero {L : List Int} {i : Nat} (hs : Srt L i 0) : Srt L i (i + 1) := fun p q hpq hq _ x y hx hy => hs p q hpq hq (by omega) x y hx hy
theorem Srt.next {L : List Int} {i : Nat} (hs : Srt L i (i + 1)) : Srt L (i + 1) (i + 1) := fun p q hpq hq hne x y hx hy => hs p q hpq (by omega) hne x y hx hy

end Go.Proofs.YtplgbapbgcipdaaGreat

/-! Fires, plain laws: by a tree and by chips the same burns; what burns is a spanning tree. No program is in sight. -/
namespace Go.Proofs.YtplgbapbgcipdaaGreat

def fire1 (n q : Nat) : FireS := ⟨[], [q], [], List.replicate n 0⟩
def incB (E : List (Nat × Nat)) (v e : Nat) : Bool := decide (Inc E e v)
/-- How many single edges join a vertex with those of a list. -/
def degTo (E : List (Nat × Nat)) (v : Nat) (l : List Nat) : Nat := ((List.range E.length).filter fun e => incB E v e && decide (oth (E.getD e (0, 0)) v ∈ l)).length

/-- What holds of a fire. -/
structure FI (E : List (Nat × Nat)) (n q : Nat) (s : FireS) : Prop where
  nodup : s.steps.Nodup
  lt : ∀ e ∈ s.steps, e < E.length
  ond : s.order.Nodup
  olt : ∀ v ∈ s.order, v < n
  root : s.order.head? = some q
  tlen : s.times.length = n
  tsub : ∀ e ∈ s.tree, e ∈ s.steps
  tnd : s.tree.Nodup
  onum : s.order.length = s.tree.length + 1
  sum : (s.steps.length : Int) = s.tree.length + s.times.sum
  nn : ∀ v, 0 ≤ s.times.getD v 0
  cnt : ∀ v, v < n → v ∉ s.order → s.times.getD v 0 = ((s.steps.filter (incB E v)).length : Int)
  stend : ∀ e ∈ s.steps, ∀ v, Inc E e v → v ∉ s.order → oth (E.getD e (0, 0)) v ∈ s.order
  cn : ∀ v ∈ s.order, Cn (pk E s.tree) q v
  q0 : s.times.getD q 0 = 0
  par : ∀ v ∈ s.order, v ≠ q → ∃ e ∈ s.tree, Inc E e v ∧ ∃ pre post, s.order = pre ++ v :: post ∧ oth (E.getD e (0, 0)) v ∈ pre
  trend : ∀ e ∈ s.tree, (E.getD e (0, 0)).1 ∈ s.order ∧ (E.getD e (0, 0)).2 ∈ s.order
section
variable {E : List (Nat × Nat)} {lit lit' : Nat → Nat → Int → Bool} {n q e v : Nat} {s f : FireS}
theorem FI.qmem (h : FI E n q s) : q ∈ s.order := List.mem_of_mem_head? (by rw [h.root]; rfl)
/-- What the next single edge does. -/
theorem lead_facts (hb : BdP n E) (h : nextF E s = some e) : e < E.length ∧ e ∉ s.steps ∧ Inc E e (leadV E s e) ∧ leadV E s e ∉ s.order ∧ oth (E.getD e (0, 0)) (leadV E s e) ∈ s.order ∧ leadV E s e < n := by
  obtain ⟨h1, h2, _⟩ := next_some h
  have h3 := lead_new h2
  obtain ⟨h4, h5⟩ := cand_iff.1 h2
  have hbd := getD_bd hb h1
  refine ⟨h1, h4, ?_, h3, ?_, ?_⟩
  · unfold leadV Inc; split
    · exact .inr rfl
    · exact .inl rfl
  · unfold leadV at h3 ⊢
    split at h3
    · rename_i h6
      rw [if_pos h6]
      unfold oth
      by_cases hx : (E.getD e (0, 0)).1 = (E.getD e (0, 0)).2
      · rw [hx] at h6; exact absurd h6 h3
      · rw [if_neg hx]; exact h6
    · rename_i h6
      rw [if_neg h6]
      unfold oth
      rw [if_pos rfl]
      refine Classical.byContradiction fun h7 => h5 ⟨fun h => absurd h h6, fun h => absurd h h7⟩
  · unfold leadV; split
    · exact hbd.2
    · exact hbd.1
theorem sum_set : ∀ (l : List Int) (i : Nat) (x : Int), i < l.length → (l.set i x).sum = l.sum - l.getD i 0 + x
  | [], i, x, h => by simp at h
  | a :: l, 0, x, _ => by simp [List.set]; omega
  | a :: l, i + 1, x, h => by
    have := sum_set l i x (by simpa using h)
    simp only [List.set, List.sum_cons, List.getD_cons_succ, this]; omega
theorem FI.start (hq : q < n) : FI E n q (fire1 n q) := by
  refine { nodup := by simp [fire1], lt := by simp [fire1], ond := by simp [fire1], olt := by simp [fire1, hq], root := rfl, tlen := by simp [fire1], tsub := by simp [fire1], tnd := by simp [fire1], onum := rfl, sum := ?_, nn := ?_, cnt := ?_, stend := by simp [fire1], cn := ?_, q0 := ?_, par := ?_, trend := by simp [fire1] }
  · have : ∀ n : Nat, (List.replicate n (0 : Int)).sum = 0 := fun n => by
      induction n with
      | zero => rfl
      | succ n ih => rw [List.replicate_succ, List.sum_cons, ih]; rfl
    simp [fire1, this]
  · intro v; simp only [fire1, List.getD_eq_getElem?_getD, List.getElem?_replicate]; split <;> simp
  · intro v hv _; simp only [fire1, List.getD_eq_getElem?_getD, List.getElem?_replicate]; split <;> simp
  · intro v hv; simp [fire1] at hv; subst hv; exact .refl
  · simp only [fire1, List.getD_eq_getElem?_getD, List.getElem?_replicate]; split <;> simp
  · intro v hv hne; simp [fire1] at hv; exact absurd hv hne
theorem inc_oth_ne (hi : Inc E e v) {u : Nat} (hj : Inc E e u) (hne : u ≠ v) : u = oth (E.getD e (0, 0)) v := by
  unfold Inc at hi hj
  unfold oth
  rcases hi with hi | hi <;> rcases hj with hj | hj
  · exact absurd (hj.symm.trans hi) hne
  · rw [if_pos hi]; exact hj.symm
  · by_cases h : (E.getD e (0, 0)).1 = v
    · rw [if_pos h]; exact absurd (hj.symm.trans h) hne
    · rw [if_neg h]; exact hj.symm
  · exact absurd (hj.symm.trans hi) hne
theorem FI.one (hb : BdP n E) (h : FI E n q s) (hn : nextF E s = some e) : FI E n q (burnOne lit s e (leadV E s e)) := by
  obtain ⟨h1, h2, h3, h4, h5, h6⟩ := lead_facts hb hn
  obtain ⟨v, hv⟩ : ∃ v, leadV E s e = v := ⟨_, rfl⟩
  rw [hv] at h3 h4 h5 h6 ⊢
  have hnd : (s.steps ++ [e]).Nodup := by
    rw [List.nodup_append]
    exact ⟨h.nodup, by simp, fun a ha b hb => by rw [List.mem_singleton] at hb; subst hb; exact fun h => h2 (h ▸ ha)⟩
  have hlt : ∀ f ∈ s.steps ++ [e], f < E.length := fun f hf => by
    rcases List.mem_append.1 hf with hf | hf
    · exact h.lt f hf
    · rw [List.mem_singleton] at hf; exact hf ▸ h1
  have hstep : ∀ f ∈ s.steps ++ [e], ∀ u, Inc E f u → u ∉ s.order → u = v ∧ f = e ∨ oth (E.getD f (0, 0)) u ∈ s.order := fun f hf u hi hu => by
    rcases List.mem_append.1 hf with hf | hf
    · exact .inr (h.stend f hf u hi hu)
    · rw [List.mem_singleton] at hf; subst hf
      by_cases e1 : u = v
      · exact .inl ⟨e1, rfl⟩
      · have := inc_oth_ne h3 hi e1
        rw [this] at hu
        exact absurd h5 hu
  have hqm := h.qmem
  unfold burnOne
  split
  · refine { nodup := hnd, lt := hlt, ond := ?_, olt := ?_, root := ?_, tlen := h.tlen, tsub := ?_, tnd := ?_, onum := ?_, sum := ?_, nn := h.nn, cnt := ?_, stend := ?_, cn := ?_, q0 := h.q0, par := ?_, trend := ?_ }
    · rw [List.nodup_append]
      exact ⟨h.ond, by simp, fun a ha b hb => by rw [List.mem_singleton] at hb; subst hb; exact fun h => h4 (h ▸ ha)⟩
    · intro u hu
      rcases List.mem_append.1 hu with hu | hu
      · exact h.olt u hu
      · rw [List.mem_singleton] at hu; exact hu ▸ h6
    · show (s.order ++ [v]).head? = some q
      rw [List.head?_append, h.root]; rfl
    · intro f hf
      rcases List.mem_append.1 hf with hf | hf
      · exact List.mem_append_left _ (h.tsub f hf)
      · exact List.mem_append_right _ hf
    · show (s.tree ++ [e]).Nodup
      rw [List.nodup_append]
      exact ⟨h.tnd, by simp, fun a ha b hb => by rw [List.mem_singleton] at hb; subst hb; exact fun hx => h2 (hx ▸ h.tsub a ha)⟩
    · simp [h.onum]
    · have := h.sum; simp only [List.length_append, List.length_singleton]; omega
    · intro u hu hno
      have hno' : u ∉ s.order ∧ u ≠ v := by simpa [not_or] using hno
      have := h.cnt u hu hno'.1
      rw [List.filter_append, List.length_append]
      have he : incB E u e = false := by
        unfold incB; rw [decide_eq_false_iff_not]
        intro hi
        have := inc_oth_ne h3 hi hno'.2
        rw [this] at hno'
        exact hno'.1 h5
      rw [List.filter_cons, he, if_neg (by decide), List.filter_nil]
      exact this
    · intro f hf u hi hu
      have hu' : u ∉ s.order ∧ u ≠ v := by simpa [not_or] using hu
      rcases hstep f hf u hi hu'.1 with h7 | h7
      · exact absurd h7.1 hu'.2
      · exact List.mem_append_left _ h7
    · intro u hu
      have hsub : ∀ x ∈ s.tree, x ∈ s.tree ++ [e] := fun x hx => List.mem_append_left _ hx
      rcases List.mem_append.1 hu with hu | hu
      · exact cn_sub hsub (h.cn u hu)
      · rw [List.mem_singleton] at hu; subst hu
        exact (cn_sub hsub (h.cn _ h5)).trans (inc_cn (e := e) (by simp) h3).symm
    · intro u hu hne
      rcases List.mem_append.1 hu with hu | hu
      · obtain ⟨f, hf, hi, pre, post, hp, ho⟩ := h.par u hu hne
        exact ⟨f, List.mem_append_left _ hf, hi, pre, post ++ [v], by rw [hp]; simp, ho⟩
      · rw [List.mem_singleton] at hu; subst hu
        exact ⟨e, by simp, h3, s.order, [], rfl, h5⟩
    · intro f hf
      rcases List.mem_append.1 hf with hf | hf
      · exact ⟨List.mem_append_left _ (h.trend f hf).1, List.mem_append_left _ (h.trend f hf).2⟩
      · rw [List.mem_singleton] at hf; subst hf
        rcases inc_cases h3 with ⟨a, b⟩ | ⟨a, b⟩
        · rw [a, b]; exact ⟨by simp, List.mem_append_left _ h5⟩
        · rw [a, b]; exact ⟨List.mem_append_left _ h5, by simp⟩
  · have hvl : v < s.times.length := by rw [h.tlen]; exact h6
    have hget : ∀ u, (s.times.set v (s.times.getD v 0 + 1)).getD u 0 = if u = v then s.times.getD v 0 + 1 else s.times.getD u 0 := fun u => by
      rw [List.getD_eq_getElem?_getD, List.getElem?_set]
      by_cases hu : u = v
      · subst hu; rw [if_pos rfl, if_pos hvl, if_pos rfl]; rfl
      · rw [if_neg (fun e => hu e.symm), if_neg hu, List.getD_eq_getElem?_getD]
    refine { nodup := hnd, lt := hlt, ond := h.ond, olt := h.olt, root := h.root, tlen := by simp [h.tlen], tsub := fun f hf => List.mem_append_left _ (h.tsub f hf), tnd := h.tnd, onum := h.onum, sum := ?_, nn := ?_, cnt := ?_, stend := ?_, cn := h.cn, q0 := ?_, par := h.par, trend := h.trend }
    · have := h.sum
      have h7 := sum_set s.times v (s.times.getD v 0 + 1) hvl
      simp only [List.length_append, List.length_singleton]
      rw [h7]; omega
    · intro u
      show 0 ≤ (s.times.set v (s.times.getD v 0 + 1)).getD u 0
      rw [hget]
      have h7 := h.nn u
      have h8 := h.nn v
      split <;> omega
    · intro u hu hno
      show (s.times.set v (s.times.getD v 0 + 1)).getD u 0 = _
      rw [hget, List.filter_append, List.length_append]
      have := h.cnt u hu hno
      by_cases e1 : u = v
      · subst e1
        have he : incB E u e = true := by unfold incB; rw [decide_eq_true_eq]; exact h3
        rw [if_pos rfl, this, List.filter_cons, he, if_pos rfl, List.filter_nil]; simp
      · have he : incB E u e = false := by
          unfold incB; rw [decide_eq_false_iff_not]
          intro hi
          have := inc_oth_ne h3 hi e1
          rw [this] at hno
          exact hno h5
        rw [if_neg e1, this, List.filter_cons, he, if_neg (by decide), List.filter_nil]; simp
    · intro f hf u hi hu
      rcases hstep f hf u hi hu with ⟨h7, h8⟩ | h7
      · subst h7; subst h8; exact h5
      · exact h7
    · show (s.times.set v (s.times.getD v 0 + 1)).getD q 0 = 0
      rw [hget, if_neg (fun hx : q = v => h4 (hx ▸ hqm)), h.q0]
theorem run_inv {I : FireS → Prop} (hI : ∀ s e, I s → nextF E s = some e → I (burnOne lit s e (leadV E s e))) : ∀ (k : Nat) (s : FireS), I s → I (runF E lit k s)
  | 0, s, h => h
  | k + 1, s, h => by
    rw [runF]
    rcases hn : nextF E s with _ | e
    · have e1 : stepF E lit s = s := by unfold stepF; rw [hn]
      rw [e1]; exact run_inv hI k s h
    · rw [run_next hn]; exact run_inv hI k _ (hI s e h hn)
/-- Behind as many rounds as there are single edges nothing burns any more. -/
theorem run_end (hb : BdP n E) (h : FI E n q s) (hs : s.steps = []) : nextF E (runF E lit E.length s) = none := by
  have key : ∀ k, nextF E (runF E lit k s) = none ∨ (runF E lit k s).steps.length = k := by
    intro k
    induction k with
    | zero => right; simp [runF, hs]
    | succ k ih =>
      rw [runF_succ]
      rcases hn : nextF E (runF E lit k s) with _ | e
      · left; unfold stepF; rw [hn]; exact hn
      · right
        rw [run_next hn, one_steps, List.length_append]
        rcases ih with ih | ih
        · rw [hn] at ih; cases ih
        · simp [ih]
  rcases hn : nextF E (runF E lit E.length s) with _ | e
  · rfl
  · rcases key E.length with h1 | h1
    · rw [hn] at h1; cases h1
    · have hF := run_inv (lit := lit) (I := FI E n q) (fun s e h hn => h.one hb hn) E.length s h
      obtain ⟨h2, h3, _⟩ := lead_facts hb hn
      have h4 := nodup_sub_le (l := e :: (runF E lit E.length s).steps) (m := List.range E.length) (List.nodup_cons.2 ⟨h3, hF.nodup⟩) (fun x hx => List.mem_range.2 (by
        rcases List.mem_cons.1 hx with rfl | hx
        · exact h2
        · exact hF.lt x hx))
      rw [List.length_cons, h1, List.length_range] at h4; omega
/-- What comes later. -/
structure LaterF (s f : FireS) : Prop where
  times : ∀ v, s.times.getD v 0 ≤ f.times.getD v 0
  same : ∀ v ∈ s.order, f.times.getD v 0 = s.times.getD v 0
  order : ∀ v ∈ s.order, v ∈ f.order
  tree : ∀ e ∈ s.tree, e ∈ f.tree
  steps : ∀ e ∈ s.steps, e ∈ f.steps
  dark : ∀ e ∈ s.steps, e ∉ s.tree → e ∉ f.tree
theorem LaterF.refl (s : FireS) : LaterF s s := ⟨fun _ => Int.le_refl _, fun _ _ => rfl, fun _ h => h, fun _ h => h, fun _ h => h, fun _ _ h => h⟩
theorem LaterF.trans {t : FireS} (h : LaterF s f) (h' : LaterF f t) : LaterF s t :=
  ⟨fun v => Int.le_trans (h.times v) (h'.times v), fun v hv => (h'.same v (h.order v hv)).trans (h.same v hv), fun v hv => h'.order v (h.order v hv), fun e he => h'.tree e (h.tree e he), fun e he => h'.steps e (h.steps e he), fun e he hn => h'.dark e (h.steps e he) (h.dark e he hn)⟩
theorem FI.run (hb : BdP n E) (hq : q < n) : FI E n q (runF E lit E.length (fire1 n q)) ∧ nextF E (runF E lit E.length (fire1 n q)) = none :=
  ⟨run_inv (fun _ _ h hn => h.one hb hn) _ _ (.start hq), run_end hb (.start hq) rfl⟩
/-- A list of vertices with the sink, out of which nothing burns, has all. -/
def BurnsAll (E : List (Nat × Nat)) (n q : Nat) (c : List Int) : Prop := ∀ O : List Nat, q ∈ O → O.Nodup → (∀ v ∈ O, v < n) → (∀ v, v < n → v ∉ O → (degTo E v O : Int) ≤ c.getD v 0) → ∀ v, v < n → v ∈ O
end
end Go.Proofs.YtplgbapbgcipdaaGreat

/-! Tables: slices of slices of ints whose rows lie in blocks of their own. -/
namespace Go.Proofs.YtplgbapbgcipdaaGreat
open Go.RowKit

/-- A table of rows of n ints, each in a block of its own. -/
structure Grid (w : World) (base : Nat) (A : Option Addr) (c n : Nat) (gs : List Nat) (rows : List (List Int)) : Prop where
  outer : w.ownsRow base 25 1 (.slice A gs.length c) gs.length (gs.map fun g => .slice (some ⟨g, 0, none⟩) n n)
  len : rows.length = gs.length
  row : ∀ (i g : Nat) (r : List Int), gs[i]? = some g → rows[i]? = some r → Blk w g 3 (intCells r) ∧ r.length = n ∧ base ≤ g
  nodup : gs.Nodup

section
variable {w w' : World} {base : Nat} {A : Option Addr} {c n : Nat} {gs : List Nat} {rows : List (List Int)}
theorem Grid.nil_ (w : World) (base n : Nat) : Grid w base none 0 n [] [] := ⟨World.ownsRow_nil _ _ _ _, rfl, by simp, by simp⟩
theorem Grid.at_ (h : Grid w base A c n gs rows) {i : Nat} (hi : i < rows.length) : ∃ g r, gs[i]? = some g ∧ rows[i]? = some r ∧ Blk w g 3 (intCells r) ∧ r.length = n ∧ base ≤ g := by
  obtain ⟨r, hr⟩ := get_of_lt hi
  obtain ⟨g, hg⟩ := get_of_lt (xs := gs) (k := i) (by have := h.len; omega)
  obtain ⟨h1, h2, h3⟩ := h.row i g r hg hr
  exact ⟨g, r, hg, hr, h1, h2, h3⟩
theorem Grid.cell (h : Grid w base A c n gs rows) {i g : Nat} (hg : gs[i]? = some g) : ∃ b off, A = some ⟨b, off, none⟩ ∧ w.cell? ⟨b, off + i, none⟩ = some (.slice (some ⟨g, 0, none⟩) n n) := by
  obtain ⟨b, off, hA, _, hc⟩ := (Reads.of_own h.outer).at_ (k := i) (u := .slice (some ⟨g, 0, none⟩) n n) (by simp [hg])
  exact ⟨b, off, hA, hc⟩
theorem Grid.blk (h : Grid w base A c n gs rows) {g : Nat} (hg : g ∈ gs) : ∃ cs, Blk w g 3 cs ∧ base ≤ g := by
  obtain ⟨i, hi⟩ := List.getElem?_of_mem hg
  obtain ⟨r, hr⟩ := get_of_lt (xs := rows) (k := i) (by have := (List.getElem?_eq_some_iff.1 hi).1; have := h.len; omega)
  obtain ⟨h1, _, h3⟩ := h.row i g r hi hr
  exact ⟨_, h1, h3⟩
theorem Grid.kept (h : Grid w base A c n gs rows) (hA : ∀ k, blockOf A k → w'.heap[k]? = w.heap[k]?) (hg : ∀ g, g ∈ gs → w'.heap[g]? = w.heap[g]?) : Grid w' base A c n gs rows :=
  ⟨own_kept h.outer hA, h.len, fun i g r hi hr => by
    obtain ⟨h1, h2, h3⟩ := h.row i g r hi hr
    exact ⟨(hg g (List.mem_of_getElem? hi)).trans h1, h2, h3⟩, h.nodup⟩
theorem Grid.next (h : Grid w base A c n gs rows) (hb : Below w.heap.size w w') : Grid w' base A c n gs rows :=
  h.kept (fun k hk => hb.block k (own_lt h.outer hk).2) fun g hg => by
    obtain ⟨cs, hc, _⟩ := h.blk hg
    exact hb.block g hc.lt
theorem Grid.mono {base' : Nat} (h : Grid w base A c n gs rows) (hb : base' ≤ base) : Grid w base' A c n gs rows :=
  ⟨own_rebase h.outer fun k hk => Nat.le_trans hb (own_lt h.outer hk).1, h.len, fun i g r hi hr => by
    obtain ⟨h1, h2, h3⟩ := h.row i g r hi hr
    exact ⟨h1, h2, by omega⟩, h.nodup⟩
theorem Grid.drewN (h : Grid w base A c n gs rows) (m : Nat) : Grid (w.drewN m) base A c n gs rows := h.kept (fun _ _ => rfl) fun _ _ => rfl
theorem Grid.far (h : Grid w base A c n gs rows) {g : Nat} {t : TypeId} {cs : Array Value} (hg : Blk w g t cs) (h1 : 25 ≠ t) (h2 : 3 ≠ t) (o : Nat) (u : Value) : Grid (w.setCell ⟨g, o, none⟩ u) base A c n gs rows :=
  h.kept (fun k hk => Below.heap_setCell w ⟨g, o, none⟩ u k (own_blk h.outer hg h1 hk)) fun g' hg' => by
    obtain ⟨cs', hc, _⟩ := h.blk hg'
    exact Below.heap_setCell w ⟨g, o, none⟩ u g' (hc.ne_ hg h2)
/-- A store into a row. -/
theorem Grid.set (h : Grid w base A c n gs rows) {i j g : Nat} {r : List Int} (hi : gs[i]? = some g) (hr : rows[i]? = some r) (x : Int) : Grid (w.setCell ⟨g, j, none⟩ (.int .i64 x)) base A c n gs (rows.set i (r.set j x)) := by
  obtain ⟨h1, h2, h3⟩ := h.row i g r hi hr
  refine ⟨own_kept h.outer fun k hk => Below.heap_setCell w ⟨g, j, none⟩ _ k (own_blk h.outer h1 (by decide) hk), by rw [List.length_set]; exact h.len, fun i' g' r' hi' hr' => ?_, h.nodup⟩
  by_cases he : i' = i
  · subst he
    rw [hi] at hi'; cases hi'
    have hl : i' < rows.length := (List.getElem?_eq_some_iff.1 hr).1
    rw [List.getElem?_set_self hl] at hr'; cases hr'
    exact ⟨by rw [← intCells_set]; exact h1.set_ j _, by simpa using h2, h3⟩
  · rw [List.getElem?_set_ne (fun e => he e.symm)] at hr'
    obtain ⟨k1, k2, k3⟩ := h.row i' g' r' hi' hr'
    have hne : g' ≠ g := by
      rintro rfl
      obtain ⟨l1, e1⟩ := List.getElem?_eq_some_iff.1 hi
      obtain ⟨l2, e2⟩ := List.getElem?_eq_some_iff.1 hi'
      rcases Nat.lt_trichotomy i i' with hl | hl | hl
      · exact List.pairwise_iff_getElem.1 h.nodup i i' l1 l2 hl (e1.trans e2.symm)
      · exact he hl.symm
      · exact List.pairwise_iff_getElem.1 h.nodup i' i l2 l1 hl (e2.trans e1.symm)
    exact ⟨k1.far (by simpa using hne) _, k2, k3⟩
/-- One row more. -/
theorem Grid.push {A' : Option Addr} {c' g : Nat} {r : List Int} (h : Grid w base A c n gs rows) (hg : Blk w g 3 (intCells r)) (hr : r.length = n) (hb : base ≤ g) (hnew : ∀ g' ∈ gs, g' ≠ g)
    (hown : w'.ownsRow base 25 1 (.slice A' (gs.length + 1) c') (gs.length + 1) ((gs.map fun g => .slice (some ⟨g, 0, none⟩) n n) ++ [.slice (some ⟨g, 0, none⟩) n n]))
    (hgr : w.grownBy w' (Value.slice A gs.length c).ownBlock) : Grid w' base A' c' n (gs ++ [g]) (rows ++ [r]) := by
  have keep : ∀ {g' : Nat} {cs : Array Value}, Blk w g' 3 cs → Blk w' g' 3 cs := fun hc => hc.grown hgr (own_blk_ne h.outer hc (by decide))
  refine ⟨by rw [List.map_append, List.length_append]; exact hown, by simp [h.len], fun i g' r' hi hr' => ?_, ?_⟩
  · rcases Nat.lt_trichotomy i gs.length with hlt | rfl | hgt
    · rw [List.getElem?_append_left hlt] at hi
      rw [List.getElem?_append_left (by rw [h.len]; exact hlt)] at hr'
      obtain ⟨k1, k2, k3⟩ := h.row i g' r' hi hr'
      exact ⟨keep k1, k2, k3⟩
    · have e1 : g = g' := by simpa using hi
      have e2 : r = r' := by rw [← h.len] at hr'; simpa using hr'
      subst e1 e2
      exact ⟨keep hg, hr, hb⟩
    · rw [List.getElem?_eq_none (by simp; omega)] at hi; cases hi
  · rw [List.nodup_append]
    exact ⟨h.nodup, by simp, fun a ha b hb' => by rw [List.mem_singleton.1 hb']; exact hnew a ha⟩
theorem Grid.reads (h : Grid w base A c n gs rows) : RowsR w w.heap.size A rows :=
  ⟨gs.map fun g => .slice (some ⟨g, 0, none⟩) n n, by rw [h.len]; exact Reads.of_own h.outer, fun i r hi => by
    obtain ⟨g, hg⟩ := get_of_lt (xs := gs) (k := i) (by have := (List.getElem?_eq_some_iff.1 hi).1; have := h.len; omega)
    obtain ⟨h1, h2, h3⟩ := h.row i g r hg hi
    subst h2
    exact ⟨some ⟨g, 0, none⟩, r.length, by simp [hg], by simp [ints], fun _ => ⟨g, 0, rfl, h1.lt, fun j v hv => by rw [Nat.zero_add, h1.cell j]; simpa [intCells] using hv⟩⟩⟩
end

end Go.Proofs.YtplgbapbgcipdaaGreat

/-! slices.ContainsFunc over divisors, with the closure that compares with a captured one. -/
namespace Go.Proofs.YtplgbapbgcipdaaGreat
open Go.RowKit

set_option maxHeartbeats 1000000 in
theorem eqcap_any (A : Option Addr) (c : Nat) (x : List Int) (gc : Nat) (B : Option Addr) (d : Nat) (y : List Int) (hn : x.length ≤ 1048576) (w : World) (hc : w.cell? ⟨gc, 0, none⟩ = some (.slice B y.length d)) (h : Reads w w.heap.size 1 A x.length (ints x)) (h' : Reads w w.heap.size 1 B y.length (ints y)) :
    Calls Tryz.prog 20 #[.slice A x.length c, .pointer (some ⟨gc, 0, none⟩)] w fun e w' => e = .returned (.bool (decide (x = y))) ∧ Below w.heap.size w w' := by
  have EC := Lib.hid (dequal_any A c x B d y hn w h h')
  go_enter Tryz.func20, Tryz.ntmps20
  go_wp2_with fail
  refine (EC.out).mono ?_
  rintro e w2 ⟨rfl, hb⟩
  go_wp2
  go_ret
  exact ⟨rfl, hb⟩
set_option maxHeartbeats 2000000 in
theorem indexD_any (A : Option Addr) (c : Nat) (xss : List (List Int)) (gc : Nat) (B : Option Addr) (d : Nat) (y : List Int) (hn : ∀ xs ∈ xss, xs.length ≤ 1048576) (hl : xss.length ≤ 1048576) (w : World) (hg : gc < w.heap.size) (hc : w.cell? ⟨gc, 0, none⟩ = some (.slice B y.length d)) (h : RowsR w w.heap.size A xss) (h' : Reads w w.heap.size 1 B y.length (ints y)) (hex : y ∈ xss) :
    Calls Tryz.prog 49 #[.slice A xss.length c, .func (.func 20) #[] #[.pointer (some ⟨gc, 0, none⟩)]] w fun e w' => ∃ r : Int, e = .returned (.int .i64 r) ∧ 0 ≤ r ∧ Below w.heap.size w w' := by
  have eg : ∀ args w, (callFunc 20 args).run Tryz.prog w = .ok (.enter 20 args) w := enters_of Tryz.func20 (by kernel_rfl) rfl
  have HEX := Lib.hid hex
  have HN := Lib.hid hn
  obtain ⟨N, hN⟩ : ∃ N, xss.length = N := ⟨_, rfl⟩
  rw [hN] at hl ⊢
  have HL := Lib.hid hN
  clear hex hN hn
  go_enter Tryz.func49, Tryz.ntmps49
  go_wp2
  go_loopw [8] (fun i wr => ∃ k : Nat, k ≤ N ∧ i = .int .i64 k ∧ Hid (∀ x ∈ xss.take k, x ≠ y) ∧ Hid (Below w.heap.size w wr)) (fun i _ => N - (intOf i).toNat)
  case atStart => exact ⟨0, by omega, rfl, by simp [Hid], Below.refl _ _⟩
  case round =>
    obtain ⟨k, hk, rfl, HS, HB⟩ := hrel
    by_cases hlt : k < N
    · obtain ⟨x, hx⟩ := get_of_lt (xs := xss) (k := k) (by rw [HL.out]; exact hlt)
      obtain ⟨b, off, A1, c1, rfl, hb, hcell, hr⟩ := (h.below HB.out).at_ hx
      have hi : (k : Int) < (N : Int) := by omega
      have htk := take_snoc hx
      have PC := Lib.hid (eqcap_any A1 c1 x gc B d y (HN.out x (List.mem_of_getElem? hx)) wr ((HB.out.cell hg).trans hc) (hr.more HB.out.size) ((h'.below HB.out).more HB.out.size))
      by_cases hxy : x = y
      · rw [decide_eq_true hxy] at PC
        clear hx htk hxy h h' hr
        go_wp2_with fail
        refine (PC.out).mono ?_
        rintro e w2 ⟨rfl, hb2⟩
        have HB2 := Lib.hid (HB.out.trans (hb2.mono HB.out.size))
        go_wp2
        go_ret
        exact ⟨k, rfl, by omega, HB2.out⟩
      · rw [decide_eq_false hxy] at PC
        have HNx : Hid (∀ x ∈ xss.take (k + 1), x ≠ y) := by
          rw [htk]
          intro z hz
          rcases List.mem_append.1 hz with hz | hz
          · exact HS.out z hz
          · rw [List.mem_singleton.1 hz]; exact hxy
        clear hx htk hxy h h' hr
        go_wp2_with fail
        refine (PC.out).mono ?_
        rintro e w2 ⟨rfl, hb2⟩
        have HB2 := Lib.hid (HB.out.trans (hb2.mono HB.out.size))
        go_wp2
        go_roundw
        case rel => exact ⟨k + 1, by omega, by go_num, HNx, HB2⟩
        case measure => simp [intOf]; omega
    · obtain rfl : k = N := by omega
      have h1 := HS.out
      rw [List.take_of_length_le (by rw [HL.out]; exact Nat.le_refl _)] at h1
      exact absurd rfl (h1 y HEX.out)
set_option maxHeartbeats 1000000 in
theorem containsD_any (A : Option Addr) (c : Nat) (xss : List (List Int)) (gc : Nat) (B : Option Addr) (d : Nat) (y : List Int) (hn : ∀ xs ∈ xss, xs.length ≤ 1048576) (hl : xss.length ≤ 1048576) (w : World) (hg : gc < w.heap.size) (hc : w.cell? ⟨gc, 0, none⟩ = some (.slice B y.length d)) (h : RowsR w w.heap.size A xss) (h' : Reads w w.heap.size 1 B y.length (ints y)) (hex : y ∈ xss) :
    Calls Tryz.prog 19 #[.slice A xss.length c, .func (.func 20) #[] #[.pointer (some ⟨gc, 0, none⟩)]] w fun e w' => e = .returned (.bool true) ∧ Below w.heap.size w w' := by
  have IC := Lib.hid (indexD_any A c xss gc B d y hn hl w hg hc h h' hex)
  clear hex h h' hn hl
  go_enter Tryz.func19, Tryz.ntmps19
  go_wp2_with fail
  refine (IC.out).mono ?_
  rintro e w2 ⟨r, rfl, hr, hb⟩
  have hd := decide_eq_true hr
  go_wp2
  go_ret
  exact ⟨rfl, hb⟩
end Go.Proofs.YtplgbapbgcipdaaGreat

