/-
  Texts of this claim, put together: FireP, GridW, Joined.
-/
import Derived.Test.YtplgbapbgcipdaaGreatDoorK10
import Derived.Test.YtplgbapbgcipdaaGreatDoorK11
import Derived.Test.YtplgbapbgcipdaaGreatDoorK08
import Derived.Test.YtplgbapbgcipdaaGreatDoorK07
import Derived.Deep.RegionLaw
/-! Fires, plain laws: by a tree and by chips the same burns; what burns is a spanning tree. No program is in sight. -/
namespace Go.Proofs.YtplgbapbgcipdaaGreatDoor

def fire1 (n q : Nat) : FireS := ⟨[], [q], [], List.replicate n 0⟩
def incB (E : List (Nat × Nat)) (v e : Nat) : Bool := decide (Inc E e v)
/-- What holds of a fire. -/
structure FI (E : List (Nat × Nat)) (n q : Nat) (s : FireS) : Prop where
  nodup : s.steps.Nodup
  lt : ∀ e ∈ s.steps, e < E.length
  ond : s.order.Nodup
  olt : ∀ v ∈ s.order, v < n
  root : s.order.head? = some q
  tlen : s.times.length = n
  tsub : ∀ e ∈ s.tree, e ∈ s.steps
  tnd : s.tree.Nodup
  onum : s.order.length = s.tree.length + 1
  sum : (s.steps.length : Int) = s.tree.length + s.times.sum
  nn : ∀ v, 0 ≤ s.times.getD v 0
  cnt : ∀ v, v < n → v ∉ s.order → s.times.getD v 0 = ((s.steps.filter (incB E v)).length : Int)
  stend : ∀ e ∈ s.steps, ∀ v, Inc E e v → v ∉ s.order → oth (E.getD e (0, 0)) v ∈ s.order
  cn : ∀ v ∈ s.order, Cn (pk E s.tree) q v
  q0 : s.times.getD q 0 = 0
  par : ∀ v ∈ s.order, v ≠ q → ∃ e ∈ s.tree, Inc E e v ∧ ∃ pre post, s.order = pre ++ v :: post ∧ oth (E.getD e (0, 0)) v ∈ pre
  trend : ∀ e ∈ s.tree, (E.getD e (0, 0)).1 ∈ s.order ∧ (E.getD e (0, 0)).2 ∈ s.order
section
variable {E : List (Nat × Nat)} {lit lit' : Nat → Nat → Int → Bool} {n q e v : Nat} {s f : FireS}
theorem FI.qmem (h : FI E n q s) : q ∈ s.order := List.mem_of_mem_head? (by rw [h.root]; rfl)
/-- What the next single edge does. -/
theorem lead_facts (hb : BdP n E) (h : nextF E s = some e) : e < E.length ∧ e ∉ s.steps ∧ Inc E e (leadV E s e) ∧ leadV E s e ∉ s.order ∧ oth (E.getD e (0, 0)) (leadV E s e) ∈ s.order ∧ leadV E s e < n := by
  obtain ⟨h1, h2, _⟩ := next_some h
  have h3 := lead_new h2
  obtain ⟨h4, h5⟩ := cand_iff.1 h2
  have hbd := getD_bd hb h1
  refine ⟨h1, h4, ?_, h3, ?_, ?_⟩
  · unfold leadV Inc; split
    · exact .inr rfl
    · exact .inl rfl
  · unfold leadV at h3 ⊢
    split at h3
    · rename_i h6
      rw [if_pos h6]
      unfold oth
      by_cases hx : (E.getD e (0, 0)).1 = (E.getD e (0, 0)).2
      · rw [hx] at h6; exact absurd h6 h3
      · rw [if_neg hx]; exact h6
    · rename_i h6
      rw [if_neg h6]
      unfold oth
      rw [if_pos rfl]
      refine Classical.byContradiction fun h7 => h5 ⟨fun h => absurd h h6, fun h => absurd h h7⟩
  · unfold leadV; split
    · exact hbd.2
    · exact hbd.1
theorem sum_set : ∀ (l : List Int) (i : Nat) (x : Int), i < l.length → (l.set i x).sum = l.sum - l.getD i 0 + x
  | [], i, x, h => by simp at h
  | a :: l, 0, x, _ => by simp [List.set]; omega
  | a :: l, i + 1, x, h => by
    have := sum_set l i x (by simpa using h)
    simp only [List.set, List.sum_cons, List.getD_cons_succ, this]; omega
theorem FI.start (hq : q < n) : FI E n q (fire1 n q) := by
  refine { nodup := by simp [fire1], lt := by simp [fire1], ond := by simp [fire1], olt := by simp [fire1, hq], root := rfl, tlen := by simp [fire1], tsub := by simp [fire1], tnd := by simp [fire1], onum := rfl, sum := ?_, nn := ?_, cnt := ?_, stend := by simp [fire1], cn := ?_, q0 := ?_, par := ?_, trend := by simp [fire1] }
  · have : ∀ n : Nat, (List.replicate n (0 : Int)).sum = 0 := fun n => by
      induction n with
      | zero => rfl
      | succ n ih => rw [List.replicate_succ, List.sum_cons, ih]; rfl
    simp [fire1, this]
  · intro v; simp only [fire1, List.getD_eq_getElem?_getD, List.getElem?_replicate]; split <;> simp
  · intro v hv _; simp only [fire1, List.getD_eq_getElem?_getD, List.getElem?_replicate]; split <;> simp
  · intro v hv; simp [fire1] at hv; subst hv; exact .refl
  · simp only [fire1, List.getD_eq_getElem?_getD, List.getElem?_replicate]; split <;> simp
  · intro v hv hne; simp [fire1] at hv; exact absurd hv hne
theorem inc_oth_ne (hi : Inc E e v) {u : Nat} (hj : Inc E e u) (hne : u ≠ v) : u = oth (E.getD e (0, 0)) v := by
  unfold Inc at hi hj
  unfold oth
  rcases hi with hi | hi <;> rcases hj with hj | hj
  · exact absurd (hj.symm.trans hi) hne
  · rw [if_pos hi]; exact hj.symm
  · by_cases h : (E.getD e (0, 0)).1 = v
    · rw [if_pos h]; exact absurd (hj.symm.trans h) hne
    · rw [if_neg h]; exact hj.symm
  · exact absurd (hj.symm.trans hi) hne
theorem FI.one (hb : BdP n E) (h : FI E n q s) (hn : nextF E s = some e) : FI E n q (burnOne lit s e (leadV E s e)) := by
  obtain ⟨h1, h2, h3, h4, h5, h6⟩ := lead_facts hb hn
  obtain ⟨v, hv⟩ : ∃ v, leadV E s e = v := ⟨_, rfl⟩
  rw [hv] at h3 h4 h5 h6 ⊢
  have hnd : (s.steps ++ [e]).Nodup := by
    rw [List.nodup_append]
    exact ⟨h.nodup, by simp, fun a ha b hb => by rw [List.mem_singleton] at hb; subst hb; exact fun h => h2 (h ▸ ha)⟩
  have hlt : ∀ f ∈ s.steps ++ [e], f < E.length := fun f hf => by
    rcases List.mem_append.1 hf with hf | hf
    · exact h.lt f hf
    · rw [List.mem_singleton] at hf; exact hf ▸ h1
  have hstep : ∀ f ∈ s.steps ++ [e], ∀ u, Inc E f u → u ∉ s.order → u = v ∧ f = e ∨ oth (E.getD f (0, 0)) u ∈ s.order := fun f hf u hi hu => by
    rcases List.mem_append.1 hf with hf | hf
    · exact .inr (h.stend f hf u hi hu)
    · rw [List.mem_singleton] at hf; subst hf
      by_cases e1 : u = v
      · exact .inl ⟨e1, rfl⟩
      · have := inc_oth_ne h3 hi e1
        rw [this] at hu
        exact absurd h5 hu
  have hqm := h.qmem
  unfold burnOne
  split
  · refine { nodup := hnd, lt := hlt, ond := ?_, olt := ?_, root := ?_, tlen := h.tlen, tsub := ?_, tnd := ?_, onum := ?_, sum := ?_, nn := h.nn, cnt := ?_, stend := ?_, cn := ?_, q0 := h.q0, par := ?_, trend := ?_ }
    · rw [List.nodup_append]
      exact ⟨h.ond, by simp, fun a ha b hb => by rw [List.mem_singleton] at hb; subst hb; exact fun h => h4 (h ▸ ha)⟩
    · intro u hu
      rcases List.mem_append.1 hu with hu | hu
      · exact h.olt u hu
      · rw [List.mem_singleton] at hu; exact hu ▸ h6
    · show (s.order ++ [v]).head? = some q
      rw [List.head?_append, h.root]; rfl
    · intro f hf
      rcases List.mem_append.1 hf with hf | hf
      · exact List.mem_append_left _ (h.tsub f hf)
      · exact List.mem_append_right _ hf
    · show (s.tree ++ [e]).Nodup
      rw [List.nodup_append]
      exact ⟨h.tnd, by simp, fun a ha b hb => by rw [List.mem_singleton] at hb; subst hb; exact fun hx => h2 (hx ▸ h.tsub a ha)⟩
    · simp [h.onum]
    · have := h.sum; simp only [List.length_append, List.length_singleton]; omega
    · intro u hu hno
      have hno' : u ∉ s.order ∧ u ≠ v := by simpa [not_or] using hno
      have := h.cnt u hu hno'.1
      rw [List.filter_append, List.length_append]
      have he : incB E u e = false := by
        unfold incB; rw [decide_eq_false_iff_not]
        intro hi
        have := inc_oth_ne h3 hi hno'.2
        rw [this] at hno'
        exact hno'.1 h5
      rw [List.filter_cons, he, if_neg (by decide), List.filter_nil]
      exact this
    · intro f hf u hi hu
      have hu' : u ∉ s.order ∧ u ≠ v := by simpa [not_or] using hu
      rcases hstep f hf u hi hu'.1 with h7 | h7
      · exact absurd h7.1 hu'.2
      · exact List.mem_append_left _ h7
    · intro u hu
      have hsub : ∀ x ∈ s.tree, x ∈ s.tree ++ [e] := fun x hx => List.mem_append_left _ hx
      rcases List.mem_append.1 hu with hu | hu
      · exact cn_sub hsub (h.cn u hu)
      · rw [List.mem_singleton] at hu; subst hu
        exact (cn_sub hsub (h.cn _ h5)).trans (inc_cn (e := e) (by simp) h3).symm
    · intro u hu hne
      rcases List.mem_append.1 hu with hu | hu
      · obtain ⟨f, hf, hi, pre, post, hp, ho⟩ := h.par u hu hne
        exact ⟨f, List.mem_append_left _ hf, hi, pre, post ++ [v], by rw [hp]; simp, ho⟩
      · rw [List.mem_singleton] at hu; subst hu
        exact ⟨e, by simp, h3, s.order, [], rfl, h5⟩
    · intro f hf
      rcases List.mem_append.1 hf with hf | hf
      · exact ⟨List.mem_append_left _ (h.trend f hf).1, List.mem_append_left _ (h.trend f hf).2⟩
      · rw [List.mem_singleton] at hf; subst hf
        rcases inc_cases h3 with ⟨a, b⟩ | ⟨a, b⟩
        · rw [a, b]; exact ⟨by simp, List.mem_append_left _ h5⟩
        · rw [a, b]; exact ⟨List.mem_append_left _ h5, by simp⟩
  · have hvl : v < s.times.length := by rw [h.tlen]; exact h6
    have hget : ∀ u, (s.times.set v (s.times.getD v 0 + 1)).getD u 0 = if u = v then s.times.getD v 0 + 1 else s.times.getD u 0 := fun u => by
      rw [List.getD_eq_getElem?_getD, List.getElem?_set]
      by_cases hu : u = v
      · subst hu; rw [if_pos rfl, if_pos hvl, if_pos rfl]; rfl
      · rw [if_neg (fun e => hu e.symm), if_neg hu, List.getD_eq_getElem?_getD]
    refine { nodup := hnd, lt := hlt, ond := h.ond, olt := h.olt, root := h.root, tlen := by simp [h.tlen], tsub := fun f hf => List.mem_append_left _ (h.tsub f hf), tnd := h.tnd, onum := h.onum, sum := ?_, nn := ?_, cnt := ?_, stend := ?_, cn := h.cn, q0 := ?_, par := h.par, trend := h.trend }
    · have := h.sum
      have h7 := sum_set s.times v (s.times.getD v 0 + 1) hvl
      simp only [List.length_append, List.length_singleton]
      rw [h7]; omega
    · intro u
      show 0 ≤ (s.times.set v (s.times.getD v 0 + 1)).getD u 0
      rw [hget]
      have h7 := h.nn u
      have h8 := h.nn v
      split <;> omega
    · intro u hu hno
      show (s.times.set v (s.times.getD v 0 + 1)).getD u 0 = _
      rw [hget, List.filter_append, List.length_append]
      have := h.cnt u hu hno
      by_cases e1 : u = v
      · subst e1
        have he : incB E u e = true := by unfold incB; rw [decide_eq_true_eq]; exact h3
        rw [if_pos rfl, this, List.filter_cons, he, if_pos rfl, List.filter_nil]; simp
      · have he : incB E u e = false := by
          unfold incB; rw [decide_eq_false_iff_not]
          intro hi
          have := inc_oth_ne h3 hi e1
          rw [this] at hno
          exact hno h5
        rw [if_neg e1, this, List.filter_cons, he, if_neg (by decide), List.filter_nil]; simp
    · intro f hf u hi hu
      rcases hstep f hf u hi hu with ⟨h7, h8⟩ | h7
      · subst h7; subst h8; exact h5
      · exact h7
    · show (s.times.set v (s.times.getD v 0 + 1)).getD q 0 = 0
      rw [hget, if_neg (fun hx : q = v => h4 (hx ▸ hqm)), h.q0]
theorem run_inv {I : FireS → Prop} (hI : ∀ s e, I s → nextF E s = some e → I (burnOne lit s e (leadV E s e))) : ∀ (k : Nat) (s : FireS), I s → I (runF E lit k s)
  | 0, s, h => h
  | k + 1, s, h => by
    rw [runF]
    rcases hn : nextF E s with _ | e
    · have e1 : stepF E lit s = s := by unfold stepF; rw [hn]
      rw [e1]; exact run_inv hI k s h
    · rw [run_next hn]; exact run_inv hI k _ (hI s e h hn)
/-- Behind as many rounds as there are single edges nothing burns any more. -/
theorem run_end (hb : BdP n E) (h : FI E n q s) (hs : s.steps = []) : nextF E (runF E lit E.length s) = none := by
  have key : ∀ k, nextF E (runF E lit k s) = none ∨ (runF E lit k s).steps.length = k := by
    intro k
    induction k with
    | zero => right; simp [runF, hs]
    | succ k ih =>
      rw [runF_succ]
      rcases hn : nextF E (runF E lit k s) with _ | e
      · left; unfold stepF; rw [hn]; exact hn
      · right
        rw [run_next hn, one_steps, List.length_append]
        rcases ih with ih | ih
        · rw [hn] at ih; cases ih
        · simp [ih]
  rcases hn : nextF E (runF E lit E.length s) with _ | e
  · rfl
  · rcases key E.length with h1 | h1
    · rw [hn] at h1; cases h1
    · have hF := run_inv (lit := lit) (I := FI E n q) (fun s e h hn => h.one hb hn) E.length s h
      obtain ⟨h2, h3, _⟩ := lead_facts hb hn
      have h4 := nodup_sub_le (l := e :: (runF E lit E.length s).steps) (m := List.range E.length) (List.nodup_cons.2 ⟨h3, hF.nodup⟩) (fun x hx => List.mem_range.2 (by
        rcases List.mem_cons.1 hx with rfl | hx
        · exact h2
        · exact hF.lt x hx))
      rw [List.length_cons, h1, List.length_range] at h4; omega
/-- What comes later. -/
structure LaterF (s f : FireS) : Prop where
  times : ∀ v, s.times.getD v 0 ≤ f.times.getD v 0
  same : ∀ v ∈ s.order, f.times.getD v 0 = s.times.getD v 0
  order : ∀ v ∈ s.order, v ∈ f.order
  tree : ∀ e ∈ s.tree, e ∈ f.tree
  steps : ∀ e ∈ s.steps, e ∈ f.steps
  dark : ∀ e ∈ s.steps, e ∉ s.tree → e ∉ f.tree
theorem LaterF.refl (s : FireS) : LaterF s s := ⟨fun _ => Int.le_refl _, fun _ _ => rfl, fun _ h => h, fun _ h => h, fun _ h => h, fun _ _ h => h⟩
theorem LaterF.trans {t : FireS} (h : LaterF s f) (h' : LaterF f t) : LaterF s t :=
  ⟨fun v => Int.le_trans (h.times v) (h'.times v), fun v hv => (h'.same v (h.order v hv)).trans (h.same v hv), fun v hv => h'.order v (h.order v hv), fun e he => h'.tree e (h.tree e he), fun e he => h'.steps e (h.steps e he), fun e he hn => h'.dark e (h.steps e he) (h.dark e he hn)⟩
theorem FI.run (hb : BdP n E) (hq : q < n) : FI E n q (runF E lit E.length (fire1 n q)) ∧ nextF E (runF E lit E.length (fire1 n q)) = none :=
  ⟨run_inv (fun _ _ h hn => h.one hb hn) _ _ (.start hq), run_end hb (.start hq) rfl⟩
end
end Go.Proofs.YtplgbapbgcipdaaGreatDoor

/-! Tables: slices of slices of ints whose rows lie in blocks of their own. -/
namespace Go.Proofs.YtplgbapbgcipdaaGreatDoor
open Go.RowKit

/-- A table of rows of n ints, each in a block of its own. -/
structure Grid (w : World) (base : Nat) (A : Option Addr) (c n : Nat) (gs : List Nat) (rows : List (List Int)) : Prop where
  outer : w.ownsRow base 25 1 (.slice A gs.length c) gs.length (gs.map fun g => .slice (some ⟨g, 0, none⟩) n n)
  len : rows.length = gs.length
  row : ∀ (i g : Nat) (r : List Int), gs[i]? = some g → rows[i]? = some r → Blk w g 3 (intCells r) ∧ r.length = n ∧ base ≤ g
  nodup : gs.Nodup

section
variable {w w' : World} {base : Nat} {A : Option Addr} {c n : Nat} {gs : List Nat} {rows : List (List Int)}
theorem Grid.nil_ (w : World) (base n : Nat) : Grid w base none 0 n [] [] := ⟨World.ownsRow_nil _ _ _ _, rfl, by simp, by simp⟩
theorem Grid.at_ (h : Grid w base A c n gs rows) {i : Nat} (hi : i < rows.length) : ∃ g r, gs[i]? = some g ∧ rows[i]? = some r ∧ Blk w g 3 (intCells r) ∧ r.length = n ∧ base ≤ g := by
  obtain ⟨r, hr⟩ := get_of_lt hi
  obtain ⟨g, hg⟩ := get_of_lt (xs := gs) (k := i) (by have := h.len; omega)
  obtain ⟨h1, h2, h3⟩ := h.row i g r hg hr
  exact ⟨g, r, hg, hr, h1, h2, h3⟩
theorem Grid.cell (h : Grid w base A c n gs rows) {i g : Nat} (hg : gs[i]? = some g) : ∃ b off, A = some ⟨b, off, none⟩ ∧ w.cell? ⟨b, off + i, none⟩ = some (.slice (some ⟨g, 0, none⟩) n n) := by
  obtain ⟨b, off, hA, _, hc⟩ := (Reads.of_own h.outer).at_ (k := i) (u := .slice (some ⟨g, 0, none⟩) n n) (by simp [hg])
  exact ⟨b, off, hA, hc⟩
theorem Grid.blk (h : Grid w base A c n gs rows) {g : Nat} (hg : g ∈ gs) : ∃ cs, Blk w g 3 cs ∧ base ≤ g := by
  obtain ⟨i, hi⟩ := List.getElem?_of_mem hg
  obtain ⟨r, hr⟩ := get_of_lt (xs := rows) (k := i) (by have := (List.getElem?_eq_some_iff.1 hi).1; have := h.len; omega)
  obtain ⟨h1, _, h3⟩ := h.row i g r hi hr
  exact ⟨_, h1, h3⟩
theorem Grid.kept (h : Grid w base A c n gs rows) (hA : ∀ k, blockOf A k → w'.heap[k]? = w.heap[k]?) (hg : ∀ g, g ∈ gs → w'.heap[g]? = w.heap[g]?) : Grid w' base A c n gs rows :=
  ⟨own_kept h.outer hA, h.len, fun i g r hi hr => by
    obtain ⟨h1, h2, h3⟩ := h.row i g r hi hr
    exact ⟨(hg g (List.mem_of_getElem? hi)).trans h1, h2, h3⟩, h.nodup⟩
theorem Grid.next (h : Grid w base A c n gs rows) (hb : Below w.heap.size w w') : Grid w' base A c n gs rows :=
  h.kept (fun k hk => hb.block k (own_lt h.outer hk).2) fun g hg => by
    obtain ⟨cs, hc, _⟩ := h.blk hg
    exact hb.block g hc.lt
theorem Grid.mono {base' : Nat} (h : Grid w base A c n gs rows) (hb : base' ≤ base) : Grid w base' A c n gs rows :=
  ⟨own_rebase h.outer fun k hk => Nat.le_trans hb (own_lt h.outer hk).1, h.len, fun i g r hi hr => by
    obtain ⟨h1, h2, h3⟩ := h.row i g r hi hr
    exact ⟨h1, h2, by omega⟩, h.nodup⟩
theorem Grid.drewN (h : Grid w base A c n gs rows) (m : Nat) : Grid (w.drewN m) base A c n gs rows := h.kept (fun _ _ => rfl) fun _ _ => rfl
theorem Grid.far (h : Grid w base A c n gs rows) {g : Nat} {t : TypeId} {cs : Array Value} (hg : Blk w g t cs) (h1 : 25 ≠ t) (h2 : 3 ≠ t) (o : Nat) (u : Value) : Grid (w.setCell ⟨g, o, none⟩ u) base A c n gs rows :=
  h.kept (fun k hk => Below.heap_setCell w ⟨g, o, none⟩ u k (own_blk h.outer hg h1 hk)) fun g' hg' => by
    obtain ⟨cs', hc, _⟩ := h.blk hg'
    exact Below.heap_setCell w ⟨g, o, none⟩ u g' (hc.ne_ hg h2)
/-- A store into a row. -/
theorem Grid.set (h : Grid w base A c n gs rows) {i j g : Nat} {r : List Int} (hi : gs[i]? = some g) (hr : rows[i]? = some r) (x : Int) : Grid (w.setCell ⟨g, j, none⟩ (.int .i64 x)) base A c n gs (rows.set i (r.set j x)) := by
  obtain ⟨h1, h2, h3⟩ := h.row i g r hi hr
  refine ⟨own_kept h.outer fun k hk => Below.heap_setCell w ⟨g, j, none⟩ _ k (own_blk h.outer h1 (by decide) hk), by rw [List.length_set]; exact h.len, fun i' g' r' hi' hr' => ?_, h.nodup⟩
  by_cases he : i' = i
  · subst he
    rw [hi] at hi'; cases hi'
    have hl : i' < rows.length := (List.getElem?_eq_some_iff.1 hr).1
    rw [List.getElem?_set_self hl] at hr'; cases hr'
    exact ⟨by rw [← intCells_set]; exact h1.set_ j _, by simpa using h2, h3⟩
  · rw [List.getElem?_set_ne (fun e => he e.symm)] at hr'
    obtain ⟨k1, k2, k3⟩ := h.row i' g' r' hi' hr'
    have hne : g' ≠ g := by
      rintro rfl
      obtain ⟨l1, e1⟩ := List.getElem?_eq_some_iff.1 hi
      obtain ⟨l2, e2⟩ := List.getElem?_eq_some_iff.1 hi'
      rcases Nat.lt_trichotomy i i' with hl | hl | hl
      · exact List.pairwise_iff_getElem.1 h.nodup i i' l1 l2 hl (e1.trans e2.symm)
      · exact he hl.symm
      · exact List.pairwise_iff_getElem.1 h.nodup i' i l2 l1 hl (e2.trans e1.symm)
    exact ⟨k1.far (by simpa using hne) _, k2, k3⟩
/-- One row more. -/
theorem Grid.push {A' : Option Addr} {c' g : Nat} {r : List Int} (h : Grid w base A c n gs rows) (hg : Blk w g 3 (intCells r)) (hr : r.length = n) (hb : base ≤ g) (hnew : ∀ g' ∈ gs, g' ≠ g)
    (hown : w'.ownsRow base 25 1 (.slice A' (gs.length + 1) c') (gs.length + 1) ((gs.map fun g => .slice (some ⟨g, 0, none⟩) n n) ++ [.slice (some ⟨g, 0, none⟩) n n]))
    (hgr : w.grownBy w' (Value.slice A gs.length c).ownBlock) : Grid w' base A' c' n (gs ++ [g]) (rows ++ [r]) := by
  have keep : ∀ {g' : Nat} {cs : Array Value}, Blk w g' 3 cs → Blk w' g' 3 cs := fun hc => hc.grown hgr (own_blk_ne h.outer hc (by decide))
  refine ⟨by rw [List.map_append, List.length_append]; exact hown, by simp [h.len], fun i g' r' hi hr' => ?_, ?_⟩
  · rcases Nat.lt_trichotomy i gs.length with hlt | rfl | hgt
    · rw [List.getElem?_append_left hlt] at hi
      rw [List.getElem?_append_left (by rw [h.len]; exact hlt)] at hr'
      obtain ⟨k1, k2, k3⟩ := h.row i g' r' hi hr'
      exact ⟨keep k1, k2, k3⟩
    · have e1 : g = g' := by simpa using hi
      have e2 : r = r' := by rw [← h.len] at hr'; simpa using hr'
      subst e1 e2
      exact ⟨keep hg, hr, hb⟩
    · rw [List.getElem?_eq_none (by simp; omega)] at hi; cases hi
  · rw [List.nodup_append]
    exact ⟨h.nodup, by simp, fun a ha b hb' => by rw [List.mem_singleton.1 hb']; exact hnew a ha⟩
theorem Grid.reads (h : Grid w base A c n gs rows) : RowsR w w.heap.size A rows :=
  ⟨gs.map fun g => .slice (some ⟨g, 0, none⟩) n n, by rw [h.len]; exact Reads.of_own h.outer, fun i r hi => by
    obtain ⟨g, hg⟩ := get_of_lt (xs := gs) (k := i) (by have := (List.getElem?_eq_some_iff.1 hi).1; have := h.len; omega)
    obtain ⟨h1, h2, h3⟩ := h.row i g r hg hi
    subst h2
    exact ⟨some ⟨g, 0, none⟩, r.length, by simp [hg], by simp [ints], fun _ => ⟨g, 0, rfl, h1.lt, fun j v hv => by rw [Nat.zero_add, h1.cell j]; simpa [intCells] using hv⟩⟩⟩
end

end Go.Proofs.YtplgbapbgcipdaaGreatDoor

/-! ref08.Joined: the graph of a table of multiplicities. -/
namespace Go.Proofs.YtplgbapbgcipdaaGreatDoor
open Go.RowKit

def entry (rows : List (List Int)) (a b : Nat) : Int := ((rows[a]?.getD [])[b]?).getD 0
theorem entry_of {rows : List (List Int)} {a b : Nat} {r : List Int} {x : Int} (h : rows[a]? = some r) (h' : r[b]? = some x) : entry rows a b = x := by simp [entry, h, h']
def joinRow (f : Nat → Nat → Int) (a b : Nat) : List E3 := (List.range' a (b - a)).filterMap fun j : Nat => if 0 < f a j then some ((a : Int), (j : Int), f a j) else none
def joinTo (f : Nat → Nat → Int) (n a : Nat) : List E3 := (List.range a).flatMap fun i => joinRow f i n
def joined (f : Nat → Nat → Int) (n : Nat) : List E3 := joinTo f n n
theorem joinRow_none {f : Nat → Nat → Int} {a b : Nat} (h : b ≤ a) : joinRow f a b = [] := by
  unfold joinRow
  rw [show b - a = 0 from by omega]
  rfl
theorem joinRow_succ {f : Nat → Nat → Int} {a b : Nat} (h : a ≤ b) : joinRow f a (b + 1) = joinRow f a b ++ (if 0 < f a b then [((a : Int), (b : Int), f a b)] else []) := by
  unfold joinRow
  rw [show b + 1 - a = (b - a) + 1 from by omega, List.range'_1_concat, List.filterMap_append]
  congr 1
  rw [show a + (b - a) = b from by omega]
  by_cases hf : 0 < f a b <;> simp [hf]
theorem joinTo_succ (f : Nat → Nat → Int) (n a : Nat) : joinTo f n (a + 1) = joinTo f n a ++ joinRow f a n := by simp [joinTo, List.range_succ, List.flatMap_append]
theorem joinRow_length (f : Nat → Nat → Int) (a b : Nat) : (joinRow f a b).length ≤ b - a := by
  unfold joinRow
  have := List.length_filterMap_le (fun j : Nat => if 0 < f a j then some ((a : Int), (j : Int), f a j) else none) (List.range' a (b - a))
  simpa using this
theorem joinTo_length (f : Nat → Nat → Int) (n a : Nat) : (joinTo f n a).length ≤ a * n := by
  induction a with
  | zero => simp [joinTo]
  | succ a ih =>
    have := joinRow_length f a n
    rw [joinTo_succ, List.length_append, Nat.succ_mul]; omega

set_option maxRecDepth 100000 in
set_option maxHeartbeats 1000000 in
theorem rjoined_any (n : Nat) (hn : n ≤ 1000) (A : Option Addr) (c : Nat) (rows : List (List Int)) (hl : rows.length = n) (hr : ∀ r ∈ rows, r.length = n) (w : World) (h : RowsR w w.heap.size A rows) :
    Calls Tryz.prog 160 #[.int .i64 n, .slice A rows.length c] w fun e w' =>
      ∃ A1 c1, e = .returned (.agg #[.int .i64 n, .slice A1 (joined (entry rows) n).length c1]) ∧ OwnE w' w.heap.size A1 c1 (joined (entry rows) n) ∧ Below w.heap.size w w' := by
  have HR := Lib.hid hr
  have HL := Lib.hid hl
  clear hr hl
  go_enter Tryz.func160, Tryz.ntmps160
  go_wp2
  go_loopw [6] (fun i wr => ∃ (a : Nat) (A' : Option Addr) (c' : Nat), a ≤ n ∧ i = .int .i64 a ∧ Blk wr w.heap.size 24 #[.int .i64 0, .slice none 0 0] ∧ Blk wr (w.heap.size + 1) 24 #[.int .i64 n, .slice A' (joinTo (entry rows) n a).length c'] ∧
    OwnE wr w.heap.size A' c' (joinTo (entry rows) n a) ∧ Below w.heap.size w wr) (fun i _ => n - (intOf i).toNat)
  case atStart =>
    have := Blk.new (w.alloc (.cells #[.int .i64 0, .slice none 0 0] 24)) 24 #[.int .i64 n, .slice none 0 0]
    refine ⟨0, none, 0, by omega, rfl, (Blk.new _ _ _).alloc _, by simpa [joinTo] using this, OwnE.nil_ _ _, ((Below.refl _ _).alloc (Nat.le_refl _) _).alloc (by simp) _⟩
  case round =>
    obtain ⟨a, A', c', ha, rfl, g0, g1, hown, hbel⟩ := hrel
    have q0 := g1.cell 0
    have q1 := g1.cell 1
    by_cases hlt : a < n
    · have hi : (a : Int) < (n : Int) := by omega
      obtain ⟨wo, rfl⟩ : ∃ wo : World, wo = wr := ⟨_, rfl⟩
      go_wp2
      go_loopw [7] (fun i wr => ∃ (b : Nat) (A' : Option Addr) (c' : Nat), a ≤ b ∧ b ≤ n ∧ i = .int .i64 b ∧ Blk wr w.heap.size 24 #[.int .i64 0, .slice none 0 0] ∧ Blk wr (w.heap.size + 1) 24 #[.int .i64 n, .slice A' (joinTo (entry rows) n a ++ joinRow (entry rows) a b).length c'] ∧
        OwnE wr w.heap.size A' c' (joinTo (entry rows) n a ++ joinRow (entry rows) a b) ∧ Below w.heap.size w wr) (fun i _ => n - (intOf i).toNat)
      case atStart =>
        refine ⟨a, A', c', by omega, by omega, by go_num, g0, ?_, ?_, hbel⟩
        · rw [joinRow_none (Nat.le_refl _), List.append_nil]; exact g1
        · rw [joinRow_none (Nat.le_refl _), List.append_nil]; exact hown
      case round =>
        clear q0 q1 g0 g1 hown hbel
        obtain ⟨b, A', c', hab, hb, rfl, g0, g1, hown, hbel⟩ := hrel
        have q0 := g1.cell 0
        have q1 := g1.cell 1
        have hz := hbel.size
        have hl13 : (joinTo (entry rows) n a ++ joinRow (entry rows) a b).length ≤ 1048000 := by
          have h1 := joinTo_length (entry rows) n a
          have h2 := joinRow_length (entry rows) a b
          have : a * n ≤ 1000 * 1000 := Nat.mul_le_mul (by omega) (by omega)
          rw [List.length_append]; omega
        obtain ⟨es, hes⟩ : ∃ es, joinTo (entry rows) n a ++ joinRow (entry rows) a b = es := ⟨_, rfl⟩
        rw [hes] at g1 hown hl13 q1
        have HES := Lib.hid hes
        clear hes
        by_cases hlt2 : b < n
        · have hi2 : (b : Int) < (n : Int) := by omega
          obtain ⟨r, hrow⟩ := get_of_lt (xs := rows) (k := a) (by have := HL.out; omega)
          have hrl := HR.out r (List.mem_of_getElem? hrow)
          obtain ⟨x, hx⟩ := get_of_lt (xs := r) (k := b) (by omega)
          obtain ⟨b1, off, A5, c5, rfl, hb1, hc1, hrd⟩ := (h.below hbel).at_ hrow
          obtain ⟨b2, off2, rfl, hb2, hc2⟩ := hrd.at_ (ints_at hx)
          have HE := Lib.hid (entry_of hrow hx)
          have hi3 : (a : Int) < (rows.length : Int) := by have := HL.out; omega
          have hi4 : (b : Int) < (r.length : Int) := by omega
          have HX := Lib.hid hx
          have HW := Lib.hid hrow
          have HRL := Lib.hid hrl
          clear hx hrow hrl hrd
          by_cases h0 : 0 < x
          · have gN := g1.alloc (.cells #[.int .i64 a, .int .i64 b, .int .i64 x] 106)
            have n0 := gN.cell 0
            have n1 := gN.cell 1
            have g0N := g0.alloc (.cells #[.int .i64 a, .int .i64 b, .int .i64 x] 106)
            have hownN := OwnE.alloc hown (.cells #[.int .i64 a, .int .i64 b, .int .i64 x] 106)
            have hzN : w.heap.size ≤ (wr.alloc (.cells #[.int .i64 a, .int .i64 b, .int .i64 x] 106)).heap.size := by simp; omega
            have hlN : es.length + 1 ≤ 1048576 := by omega
            go_wp2
            go_region_law (refine append_step2 rfl (.tmp 30) (.tmp 41) _ _ rfl w.heap.size 106 106 Tryz.underlying22 Tryz.underlying22 info_edge rfl (by omega) A' c' es.length (edgeCells es) rfl hownN (wr.heap.size + 1) (edgeCells [((a : Int), (b : Int), x)]) rfl (Reads.boxN wr #[.int .i64 a, .int .i64 b, .int .i64 x] 106) edgeCells_one hlN hzN ?_; intro A3 c3 w3 hown3 hg3 hb3 _; have g3 := Blk.grown (h := by exact gN) hg3 (own_blk_ne hown g1 (by decide)); have p1 := g3.cell 1; have f3 := g3.frozen)
            all_goals (
              have gB : Below w.heap.size w w3 := hbel.trans (((Below.refl _ _).alloc (by exact hz) _).trans ⟨hb3.os, hb3.tape, hb3.output, hb3.size, hb3.block⟩)
              have g03 := Blk.grown (h := by exact g0N) hg3 (own_blk_ne hown g0 (by decide))
              have HR : joinTo (entry rows) n a ++ joinRow (entry rows) a (b + 1) = es ++ [((a : Int), (b : Int), x)] := by rw [joinRow_succ hab, HE.out, if_pos h0, ← List.append_assoc, HES.out]
              have HR := Lib.hid HR
              go_wp2
              go_roundw
              case rel =>
                refine ⟨b + 1, A3, c3, by omega, by omega, by go_num, g03.far (by simp) _, ?_, ?_, ?_⟩
                · rw [HR.out, List.length_append]; exact g3.set_ 1 _
                · rw [HR.out]; exact OwnE.set_blk (by unfold OwnE; rw [edgeCells_append, List.length_append]; exact hown3) g3 (by decide) 1 _
                · exact gB.setCell (by simp) _
              case measure => simp [intOf]; omega)
          · have h0' : (0 < x) = False := by simpa using h0
            go_wp2
            have HR : joinTo (entry rows) n a ++ joinRow (entry rows) a (b + 1) = es := by rw [joinRow_succ hab, HE.out, if_neg h0, List.append_nil, HES.out]
            have HR := Lib.hid HR
            go_roundw
            case rel =>
              refine ⟨b + 1, A', c', by omega, by omega, by go_num, g0, ?_, ?_, hbel⟩
              · rw [HR.out]; exact g1
              · rw [HR.out]; exact hown
            case measure => simp [intOf]; omega
        · have hi2 : ¬ (b : Int) < (n : Int) := by omega
          go_wp2
          have HR : es = joinTo (entry rows) n (a + 1) := by rw [joinTo_succ, ← HES.out, show b = n from by omega]
          have HR := Lib.hid HR
          go_roundw
          case rel =>
            refine ⟨a + 1, A', c', by omega, by go_num, g0, ?_, ?_, hbel⟩
            · rw [← HR.out]; exact g1
            · rw [← HR.out]; exact hown
          case measure => simp [intOf]; omega
    · have hi : ¬ (a : Int) < (n : Int) := by omega
      obtain rfl : a = n := by omega
      obtain ⟨es, hes⟩ : ∃ es, joinTo (entry rows) a a = es := ⟨_, rfl⟩
      have e : joined (entry rows) a = es := by rw [joined, hes]
      rw [hes] at g1 hown q1
      have HES := Lib.hid e
      clear hes e
      have f0 := g0.frozen
      have p0 := g0.cell 0
      have p1 := g0.cell 1
      go_wp2
      try simp only [Exit.inBlock, Exit.then]
      refine bodyPost_ret (results_g rfl rfl ((g0.set_ 0 _).set_ 1 _) rfl) rfl ?_
      refine ⟨A', c', by rw [HES.out]; rfl, ?_, (hbel.setCell (Nat.le_refl _) _).setCell (Nat.le_refl _) _⟩
      rw [HES.out]; exact (hown.set_blk g0 (by decide) _ _).set_blk (g0.set_ 0 _) (by decide) _ _
end Go.Proofs.YtplgbapbgcipdaaGreatDoor

