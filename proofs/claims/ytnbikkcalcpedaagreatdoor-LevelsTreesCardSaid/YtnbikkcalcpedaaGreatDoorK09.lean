/-
 Texts of this claim, put together: FireP.
-/
import Derived.Test.YtnbikkcalcpedaaGreatDoorK06
import Derived.Test.YtnbikkcalcpedaaGreatDoorK08
namespace Go.Proofs.YtnbikkcalcpedaaGreatDoor
def fire1 (n q : Nat) : FireS := ⟨[], [q], [], List.replicate n 0⟩
def incB (E : List (Nat × Nat)) (v e : Nat) : Bool := decide (Inc E e v)
def degTo (E : List (Nat × Nat)) (v : Nat) (l : List Nat) : Nat := ((List.range E.length).filter fun e => incB E v e && decide (oth (E.getD e (0, 0)) v ∈ l)).length
structure FI (E : List (Nat × Nat)) (n q : Nat) (s : FireS) : Prop where
 nodup : s.steps.Nodup
 lt : ∀ e ∈ s.steps, e < E.length
 ond : s.order.Nodup
 olt : ∀ v ∈ s.order, v < n
 root : s.order.head? = some q
 tlen : s.times.length = n
 tsub : ∀ e ∈ s.tree, e ∈ s.steps
 tnd : s.tree.Nodup
 onum : s.order.length = s.tree.length + 1
 sum : (s.steps.length : Int) = s.tree.length + s.times.sum
 nn : ∀ v, 0 ≤ s.times.getD v 0
 cnt : ∀ v, v < n → v ∉ s.order → s.times.getD v 0 = ((s.steps.filter (incB E v)).length : Int)
 stend : ∀ e ∈ s.steps, ∀ v, Inc E e v → v ∉ s.order → oth (E.getD e (0, 0)) v ∈ s.order
 cn : ∀ v ∈ s.order, Cn (pk E s.tree) q v
 q0 : s.times.getD q 0 = 0
 par : ∀ v ∈ s.order, v ≠ q → ∃ e ∈ s.tree, Inc E e v ∧ ∃ pre post, s.order = pre ++ v :: post ∧ oth (E.getD e (0, 0)) v ∈ pre
 trend : ∀ e ∈ s.tree, (E.getD e (0, 0)).1 ∈ s.order ∧ (E.getD e (0, 0)).2 ∈ s.order
section
variable {E : List (Nat × Nat)} {lit lit' : Nat → Nat → Int → Bool} {n q e v : Nat} {s f : FireS}
theorem FI.qmem (h : FI E n q s) : q ∈ s.order := List.mem_of_mem_head? (by rw [h.root]; rfl)
theorem lead_facts (hb : BdP n E) (h : nextF E s = some e) : e < E.length ∧ e ∉ s.steps ∧ Inc E e (leadV E s e) ∧ leadV E s e ∉ s.order ∧ oth (E.getD e (0, 0)) (leadV E s e) ∈ s.order ∧ leadV E s e < n := by
 obtain ⟨h1, h2, _⟩ := next_some h
 have h3 := lead_new h2
 obtain ⟨h4, h5⟩ := cand_iff.1 h2
 have hbd := getD_bd hb h1
 refine ⟨h1, h4, ?_, h3, ?_, ?_⟩
 ·unfold leadV Inc; split
  ·exact .inr rfl
  ·exact .inl rfl
 ·unfold leadV at h3 ⊢
  split at h3
  ·rename_i h6
   rw [if_pos h6]
   unfold oth
   by_cases hx : (E.getD e (0, 0)).1 = (E.getD e (0, 0)).2
   ·rw [hx] at h6; exact absurd h6 h3
   ·rw [if_neg hx]; exact h6
  ·rename_i h6
   rw [if_neg h6]
   unfold oth
   rw [if_pos rfl]
   refine Classical.byContradiction fun h7 => h5 ⟨fun h => absurd h h6, fun h => absurd h h7⟩
 ·unfold leadV; split
  ·exact hbd.2
  ·exact hbd.1
theorem sum_set : ∀ (l : List Int) (i : Nat) (x : Int), i < l.length → (l.set i x).sum = l.sum - l.getD i 0 + x
 | [], i, x, h => by simp at h
 | a :: l, 0, x, _ => by simp [List.set]; omega
 | a :: l, i + 1, x, h => by
   have := sum_set l i x (by simpa using h)
   simp only [List.set, List.sum_cons, List.getD_cons_succ, this]; omega
theorem FI.start (hq : q < n) : FI E n q (fire1 n q) := by
 refine { nodup := by simp [fire1], lt := by simp [fire1], ond := by simp [fire1], olt := by simp [fire1, hq], root := rfl, tlen := by simp [fire1], tsub := by simp [fire1], tnd := by simp [fire1], onum := rfl, sum := ?_, nn := ?_, cnt := ?_, stend := by simp [fire1], cn := ?_, q0 := ?_, par := ?_, trend := by simp [fire1] }
 ·have : ∀ n : Nat, (List.replicate n (0 : Int)).sum = 0 := fun n => by
   induction n with
   | zero => rfl
   | succ n ih => rw [List.replicate_succ, List.sum_cons, ih]; rfl
  simp [fire1, this]
 ·intro v; simp only [fire1, List.getD_eq_getElem?_getD, List.getElem?_replicate]; split <;> simp
 ·intro v hv _; simp only [fire1, List.getD_eq_getElem?_getD, List.getElem?_replicate]; split <;> simp
 ·intro v hv; simp [fire1] at hv; subst hv; exact .refl
 ·simp only [fire1, List.getD_eq_getElem?_getD, List.getElem?_replicate]; split <;> simp
 ·intro v hv hne; simp [fire1] at hv; exact absurd hv hne
theorem inc_oth_ne (hi : Inc E e v) {u : Nat} (hj : Inc E e u) (hne : u ≠ v) : u = oth (E.getD e (0, 0)) v := by
 unfold Inc at hi hj
 unfold oth
 rcases hi with hi | hi <;> rcases hj with hj | hj
 ·exact absurd (hj.symm.trans hi) hne
 ·rw [if_pos hi]; exact hj.symm
 ·by_cases h : (E.getD e (0, 0)).1 = v
  ·rw [if_pos h]; exact absurd (hj.symm.trans h) hne
  ·rw [if_neg h]; exact hj.symm
 ·exact absurd (hj.symm.trans hi) hne
theorem FI.one (hb : BdP n E) (h : FI E n q s) (hn : nextF E s = some e) : FI E n q (burnOne lit s e (leadV E s e)) := by
 obtain ⟨h1, h2, h3, h4, h5, h6⟩ := lead_facts hb hn
 obtain ⟨v, hv⟩ : ∃ v, leadV E s e = v := ⟨_, rfl⟩
 rw [hv] at h3 h4 h5 h6 ⊢
 have hnd : (s.steps ++ [e]).Nodup := by
  rw [List.nodup_append]
  exact ⟨h.nodup, by simp, fun a ha b hb => by rw [List.mem_singleton] at hb; subst hb; exact fun h => h2 (h ▸ ha)⟩
 have hlt : ∀ f ∈ s.steps ++ [e], f < E.length := fun f hf => by
  rcases List.mem_append.1 hf with hf | hf
  ·exact h.lt f hf
  ·rw [List.mem_singleton] at hf; exact hf ▸ h1
 have hstep : ∀ f ∈ s.steps ++ [e], ∀ u, Inc E f u → u ∉ s.order → u = v ∧ f = e ∨ oth (E.getD f (0, 0)) u ∈ s.order := fun f hf u hi hu => by
  rcases List.mem_append.1 hf with hf | hf
  ·exact .inr (h.stend f hf u hi hu)
  ·rw [List.mem_singleton] at hf; subst hf
   by_cases e1 : u = v
   ·exact .inl ⟨e1, rfl⟩
   ·have := inc_oth_ne h3 hi e1
    rw [this] at hu
    exact absurd h5 hu
 have hqm := h.qmem
 unfold burnOne
 split
 ·refine { nodup := hnd, lt := hlt, ond := ?_, olt := ?_, root := ?_, tlen := h.tlen, tsub := ?_, tnd := ?_, onum := ?_, sum := ?_, nn := h.nn, cnt := ?_, stend := ?_, cn := ?_, q0 := h.q0, par := ?_, trend := ?_ }
  ·rw [List.nodup_append]
   exact ⟨h.ond, by simp, fun a ha b hb => by rw [List.mem_singleton] at hb; subst hb; exact fun h => h4 (h ▸ ha)⟩
  ·intro u hu
   rcases List.mem_append.1 hu with hu | hu
   ·exact h.olt u hu
   ·rw [List.mem_singleton] at hu; exact hu ▸ h6
  ·show (s.order ++ [v]).head? = some q
   rw [List.head?_append, h.root]; rfl
  ·intro f hf
   rcases List.mem_append.1 hf with hf | hf
   ·exact List.mem_append_left _ (h.tsub f hf)
   ·exact List.mem_append_right _ hf
  ·show (s.tree ++ [e]).Nodup
   rw [List.nodup_append]
   exact ⟨h.tnd, by simp, fun a ha b hb => by rw [List.mem_singleton] at hb; subst hb; exact fun hx => h2 (hx ▸ h.tsub a ha)⟩
  ·simp [h.onum]
  ·have := h.sum; simp only [List.length_append, List.length_singleton]; omega
  ·intro u hu hno
   have hno' : u ∉ s.order ∧ u ≠ v := by simpa [not_or] using hno
   have := h.cnt u hu hno'.1
   rw [List.filter_append, List.length_append]
   have he : incB E u e = false := by
    unfold incB; rw [decide_eq_false_iff_not]
    intro hi
    have := inc_oth_ne h3 hi hno'.2
    rw [this] at hno'
    exact hno'.1 h5
   rw [List.filter_cons, he, if_neg (by decide), List.filter_nil]
   exact this
  ·intro f hf u hi hu
   have hu' : u ∉ s.order ∧ u ≠ v := by simpa [not_or] using hu
   rcases hstep f hf u hi hu'.1 with h7 | h7
   ·exact absurd h7.1 hu'.2
   ·exact List.mem_append_left _ h7
  ·intro u hu
   have hsub : ∀ x ∈ s.tree, x ∈ s.tree ++ [e] := fun x hx => List.mem_append_left _ hx
   rcases List.mem_append.1 hu with hu | hu
   ·exact cn_sub hsub (h.cn u hu)
   ·rw [List.mem_singleton] at hu; subst hu
    exact (cn_sub hsub (h.cn _ h5)).trans (inc_cn (e := e) (by simp) h3).symm
  ·intro u hu hne
   rcases List.mem_append.1 hu with hu | hu
   ·obtain ⟨f, hf, hi, pre, post, hp, ho⟩ := h.par u hu hne
    exact ⟨f, List.mem_append_left _ hf, hi, pre, post ++ [v], by rw [hp]; simp, ho⟩
   ·rw [List.mem_singleton] at hu; subst hu
    exact ⟨e, by simp, h3, s.order, [], rfl, h5⟩
  ·intro f hf
   rcases List.mem_append.1 hf with hf | hf
   ·exact ⟨List.mem_append_left _ (h.trend f hf).1, List.mem_append_left _ (h.trend f hf).2⟩
   ·rw [List.mem_singleton] at hf; subst hf
    rcases inc_cases h3 with ⟨a, b⟩ | ⟨a, b⟩
    ·rw [a, b]; exact ⟨by simp, List.mem_append_left _ h5⟩
    ·rw [a, b]; exact ⟨List.mem_append_left _ h5, by simp⟩
 ·have hvl : v < s.times.length := by rw [h.tlen]; exact h6
  have hget : ∀ u, (s.times.set v (s.times.getD v 0 + 1)).getD u 0 = if u = v then s.times.getD v 0 + 1 else s.times.getD u 0 := fun u => by
   rw [List.getD_eq_getElem?_getD, List.getElem?_set]
   by_cases hu : u = v
   ·subst hu; rw [if_pos rfl, if_pos hvl, if_pos rfl]; rfl
   ·rw [if_neg (fun e => hu e.symm), if_neg hu, List.getD_eq_getElem?_getD]
  refine { nodup := hnd, lt := hlt, ond := h.ond, olt := h.olt, root := h.root, tlen := by simp [h.tlen], tsub := fun f hf => List.mem_append_left _ (h.tsub f hf), tnd := h.tnd, onum := h.onum, sum := ?_, nn := ?_, cnt := ?_, stend := ?_, cn := h.cn, q0 := ?_, par := h.par, trend := h.trend }
  ·have := h.sum
   have h7 := sum_set s.times v (s.times.getD v 0 + 1) hvl
   simp only [List.length_append, List.length_singleton]
   rw [h7]; omega
  ·intro u
   show 0 ≤ (s.times.set v (s.times.getD v 0 + 1)).getD u 0
   rw [hget]
   have h7 := h.nn u
   have h8 := h.nn v
   split <;> omega
  ·intro u hu hno
   show (s.times.set v (s.times.getD v 0 + 1)).getD u 0 = _
   rw [hget, List.filter_append, List.length_append]
   have := h.cnt u hu hno
   by_cases e1 : u = v
   ·subst e1
    have he : incB E u e = true := by unfold incB; rw [decide_eq_true_eq]; exact h3
    rw [if_pos rfl, this, List.filter_cons, he, if_pos rfl, List.filter_nil]; simp
   ·have he : incB E u e = false := by
     unfold incB; rw [decide_eq_false_iff_not]
     intro hi
     have := inc_oth_ne h3 hi e1
     rw [this] at hno
     exact hno h5
    rw [if_neg e1, this, List.filter_cons, he, if_neg (by decide), List.filter_nil]; simp
  ·intro f hf u hi hu
   rcases hstep f hf u hi hu with ⟨h7, h8⟩ | h7
   ·subst h7; subst h8; exact h5
   ·exact h7
  ·show (s.times.set v (s.times.getD v 0 + 1)).getD q 0 = 0
   rw [hget, if_neg (fun hx : q = v => h4 (hx ▸ hqm)), h.q0]
theorem run_inv {I : FireS → Prop} (hI : ∀ s e, I s → nextF E s = some e → I (burnOne lit s e (leadV E s e))) : ∀ (k : Nat) (s : FireS), I s → I (runF E lit k s)
 | 0, s, h => h
 | k + 1, s, h => by
   rw [runF]
   rcases hn : nextF E s with _ | e
   ·have e1 : stepF E lit s = s := by unfold stepF; rw [hn]
    rw [e1]; exact run_inv hI k s h
   ·rw [run_next hn]; exact run_inv hI k _ (hI s e h hn)
theorem run_end (hb : BdP n E) (h : FI E n q s) (hs : s.steps = []) : nextF E (runF E lit E.length s) = none := by
 have key : ∀ k, nextF E (runF E lit k s) = none ∨ (runF E lit k s).steps.length = k := by
  intro k
  induction k with
  | zero => right; simp [runF, hs]
  | succ k ih =>
    rw [runF_succ]
    rcases hn : nextF E (runF E lit k s) with _ | e
    ·left; unfold stepF; rw [hn]; exact hn
    ·right
     rw [run_next hn, one_steps, List.length_append]
     rcases ih with ih | ih
     ·rw [hn] at ih; cases ih
     ·simp [ih]
 rcases hn : nextF E (runF E lit E.length s) with _ | e
 ·rfl
 ·rcases key E.length with h1 | h1
  ·rw [hn] at h1; cases h1
  ·have hF := run_inv (lit := lit) (I := FI E n q) (fun s e h hn => h.one hb hn) E.length s h
   obtain ⟨h2, h3, _⟩ := lead_facts hb hn
   have h4 := nodup_sub_le (l := e :: (runF E lit E.length s).steps) (m := List.range E.length) (List.nodup_cons.2 ⟨h3, hF.nodup⟩) (fun x hx => List.mem_range.2 (by
    rcases List.mem_cons.1 hx with rfl | hx
    ·exact h2
    ·exact hF.lt x hx))
   rw [List.length_cons, h1, List.length_range] at h4; omega
structure LaterF (s f : FireS) : Prop where
 times : ∀ v, s.times.getD v 0 ≤ f.times.getD v 0
 same : ∀ v ∈ s.order, f.times.getD v 0 = s.times.getD v 0
 order : ∀ v ∈ s.order, v ∈ f.order
 tree : ∀ e ∈ s.tree, e ∈ f.tree
 steps : ∀ e ∈ s.steps, e ∈ f.steps
 dark : ∀ e ∈ s.steps, e ∉ s.tree → e ∉ f.tree
theorem LaterF.refl (s : FireS) : LaterF s s := ⟨fun _ => Int.le_refl _, fun _ _ => rfl, fun _ h => h, fun _ h => h, fun _ h => h, fun _ _ h => h⟩
theorem LaterF.trans {t : FireS} (h : LaterF s f) (h' : LaterF f t) : LaterF s t :=
 ⟨fun v => Int.le_trans (h.times v) (h'.times v), fun v hv => (h'.same v (h.order v hv)).trans (h.same v hv), fun v hv => h'.order v (h.order v hv), fun e he => h'.tree e (h.tree e he), fun e he => h'.steps e (h.steps e he), fun e he hn => h'.dark e (h.steps e he) (h.dark e he hn)⟩
theorem later_one (hv : v ∉ s.order) (he : e ∉ s.steps) : LaterF s (burnOne lit s e v) := by
 unfold burnOne
 split
 ·refine ⟨fun _ => Int.le_refl _, fun _ _ => rfl, fun _ h => List.mem_append_left _ h, fun _ h => List.mem_append_left _ h, fun _ h => List.mem_append_left _ h, fun f hf hn h => ?_⟩
  rcases List.mem_append.1 h with h | h
  ·exact hn h
  ·rw [List.mem_singleton] at h; subst h; exact he hf
 ·have hget : ∀ u, (s.times.set v (s.times.getD v 0 + 1)).getD u 0 = s.times.getD u 0 ∨ (u = v ∧ (s.times.set v (s.times.getD v 0 + 1)).getD u 0 = s.times.getD u 0 + 1) := fun u => by
   rw [List.getD_eq_getElem?_getD, List.getElem?_set]
   by_cases hu : v = u
   ·subst hu
    by_cases hl : v < s.times.length
    ·right; rw [if_pos rfl, if_pos hl]; exact ⟨rfl, rfl⟩
    ·left; rw [if_pos rfl, if_neg hl, List.getD_eq_getElem?_getD, List.getElem?_eq_none (by omega)]
   ·left; rw [if_neg hu, List.getD_eq_getElem?_getD]
  refine ⟨fun u => ?_, fun u hu => ?_, fun _ h => h, fun _ h => h, fun _ h => List.mem_append_left _ h, fun _ _ h => h⟩
  ·show s.times.getD u 0 ≤ (s.times.set v (s.times.getD v 0 + 1)).getD u 0
   rcases hget u with h | h <;> omega
  ·show (s.times.set v (s.times.getD v 0 + 1)).getD u 0 = s.times.getD u 0
   rcases hget u with h | h
   ·exact h
   ·exact absurd (h.1 ▸ hu) hv
theorem later_run (hb : BdP n E) : ∀ (k : Nat) (s : FireS), LaterF s (runF E lit k s)
 | 0, s => .refl s
 | k + 1, s => by
   rw [runF]
   rcases hn : nextF E s with _ | e
   ·have e1 : stepF E lit s = s := by unfold stepF; rw [hn]
    rw [e1]; exact later_run hb k s
   ·rw [run_next hn]
    obtain ⟨_, h2, _, h4, _⟩ := lead_facts hb hn
    exact (later_one h4 h2).trans (later_run hb k _)
theorem runF_same (hb : BdP n E) {I : FireS → Prop} (hI : ∀ s e, I s → nextF E s = some e → I (burnOne lit s e (leadV E s e))) (f : FireS) (hend : nextF E f = none)
  (h : ∀ s e, I s → nextF E s = some e → LaterF (burnOne lit s e (leadV E s e)) f → lit (leadV E s e) e (s.times.getD (leadV E s e) 0) = lit' (leadV E s e) e (s.times.getD (leadV E s e) 0)) (k : Nat) (s : FireS) (hs : I s) (hf : f = runF E lit k s) :
  runF E lit k s = runF E lit' k s := by
 refine (run_congr (I := fun s => I s ∧ ∃ j, f = runF E lit j s) (fun s e hIs hn => ?_) k s ⟨hs, k, hf⟩).1
 obtain ⟨h1, j, hj⟩ := hIs
 rcases j with _ | j
 ·rw [hj] at hend; rw [runF] at hend; rw [hend] at hn; cases hn
 ·rw [runF, run_next hn] at hj
  have h2 := later_run (lit := lit) hb j (burnOne lit s e (leadV E s e))
  rw [← hj] at h2
  exact ⟨h s e h1 hn h2, hI s e h1 hn, j, hj⟩
def ltB (t : List Nat) (_ e : Nat) (_ : Int) : Bool := decide (e ∈ t)
def ltC (c : List Int) (v _ : Nat) (k : Int) : Bool := decide (c.getD v 0 ≤ k)
def ltQ (c : List Int) (v _ : Nat) (k : Int) : Bool := k == c.getD v 0
def fireB (E : List (Nat × Nat)) (n q : Nat) (t : List Nat) : FireS := runF E (ltB t) E.length (fire1 n q)
def fireC_ (E : List (Nat × Nat)) (n q : Nat) (c : List Int) : FireS := runF E (ltC c) E.length (fire1 n q)
theorem FI.run (hb : BdP n E) (hq : q < n) : FI E n q (runF E lit E.length (fire1 n q)) ∧ nextF E (runF E lit E.length (fire1 n q)) = none :=
 ⟨run_inv (fun _ _ h hn => h.one hb hn) _ _ (.start hq), run_end hb (.start hq) rfl⟩
theorem fire_ref (hb : BdP n E) (hq : q < n) {c : List Int} (hc : ∀ v, v < n → 0 ≤ c.getD v 0) : runF E (ltC c) E.length (fire1 n q) = runF E (ltQ c) E.length (fire1 n q) ∧ ∀ v, v ∉ (fireC_ E n q c).order → v < n → (fireC_ E n q c).times.getD v 0 ≤ c.getD v 0 := by
 have h0 : ∀ v, (fire1 n q).times.getD v 0 = 0 := fun v => by
  simp only [fire1, List.getD_eq_getElem?_getD, List.getElem?_replicate]; split <;> simp
 have := run_congr (E := E) (lit := ltC c) (lit' := ltQ c) (I := fun s => FI E n q s ∧ ∀ v, v ∉ s.order → v < n → s.times.getD v 0 ≤ c.getD v 0) (fun s e hI hn => ?_) E.length (fire1 n q) ⟨.start hq, fun v _ hv => by rw [h0]; exact hc v hv⟩
 ·exact ⟨this.1, this.2.2⟩
 ·obtain ⟨hI, hm⟩ := hI
  obtain ⟨h1, h2, h3, h4, h5, h6⟩ := lead_facts hb hn
  have h7 := hm _ h4 h6
  refine ⟨?_, hI.one hb hn, ?_⟩
  ·unfold ltC ltQ
   rw [Bool.eq_iff_iff, decide_eq_true_eq, beq_iff_eq]; omega
  ·intro u hu hun
   unfold burnOne at hu ⊢
   split at hu
   ·rename_i hl
    rw [if_pos hl]
    exact hm u (fun h => hu (List.mem_append_left _ h)) hun
   ·rename_i hl
    rw [if_neg hl]
    show (s.times.set (leadV E s e) (s.times.getD (leadV E s e) 0 + 1)).getD u 0 ≤ _
    rw [List.getD_eq_getElem?_getD, List.getElem?_set]
    have hl' : ¬ c.getD (leadV E s e) 0 ≤ s.times.getD (leadV E s e) 0 := by simpa [ltC] using hl
    by_cases hx : leadV E s e = u
    ·subst hx
     rw [if_pos rfl, if_pos (by rw [hI.tlen]; exact h6)]
     simp only [Option.getD_some]; omega
    ·rw [if_neg hx, ← List.getD_eq_getElem?_getD]; exact hm u hu hun
def BurnsAll (E : List (Nat × Nat)) (n q : Nat) (c : List Int) : Prop := ∀ O : List Nat, q ∈ O → O.Nodup → (∀ v ∈ O, v < n) → (∀ v, v < n → v ∉ O → (degTo E v O : Int) ≤ c.getD v 0) → ∀ v, v < n → v ∈ O
theorem deg_end (h : FI E n q s) (hn : nextF E s = none) (hv : v < n) (ho : v ∉ s.order) : s.times.getD v 0 = (degTo E v s.order : Int) := by
 rw [h.cnt v hv ho]
 congr 1
 refine List.Perm.length_eq (perm_of_mem (h.nodup.sublist List.filter_sublist) (List.nodup_range.sublist List.filter_sublist) fun e => ?_)
 rw [List.mem_filter, List.mem_filter, List.mem_range, Bool.and_eq_true, decide_eq_true_eq]
 constructor
 ·rintro ⟨h1, h2⟩
  exact ⟨h.lt e h1, h2, h.stend e h1 v (of_decide_eq_true h2) ho⟩
 ·rintro ⟨h1, h2, h3⟩
  refine ⟨?_, h2⟩
  have h4 := next_none hn e h1
  refine Classical.byContradiction fun h5 => ?_
  have : candB E s e = true := cand_iff.2 ⟨h5, fun h6 => ?_⟩
  ·rw [h4] at this; cases this
  ·have hi : Inc E e v := of_decide_eq_true h2
   rcases inc_cases hi with ⟨a, b⟩ | ⟨a, b⟩
   ·rw [a, b] at h6; exact ho (h6.2 h3)
   ·rw [a, b] at h6; exact ho (h6.1 h3)
theorem burns_of_fire (hb : BdP n E) (hq : q < n) {c : List Int} (h : ∀ v, v < n → v ∈ (fireC_ E n q c).order) : BurnsAll E n q c := by
 intro O hqO _ _ hcl
 have := run_inv (E := E) (lit := ltC c) (I := fun s => FI E n q s ∧ ∀ v ∈ s.order, v ∈ O) (fun s e hI hn => ?_) E.length (fire1 n q) ⟨.start hq, fun v hv => by simp [fire1] at hv; exact hv ▸ hqO⟩
 ·exact fun v hv => this.2 v (h v hv)
 ·obtain ⟨hI, hm⟩ := hI
  obtain ⟨h1, h2, h3, h4, h5, h6⟩ := lead_facts hb hn
  refine ⟨hI.one hb hn, ?_⟩
  unfold burnOne
  split
  ·rename_i hl
   intro v hv
   rcases List.mem_append.1 hv with hv | hv
   ·exact hm v hv
   ·rw [List.mem_singleton] at hv; subst hv
    refine Classical.byContradiction fun hno => ?_
    have h7 := hcl _ h6 hno
    have hl' : c.getD (leadV E s e) 0 ≤ s.times.getD (leadV E s e) 0 := by simpa [ltC] using hl
    have h8 : s.times.getD (leadV E s e) 0 + 1 ≤ (degTo E (leadV E s e) O : Int) := by
     rw [hI.cnt _ h6 h4]
     have h9 : ((e :: s.steps.filter (incB E (leadV E s e)))).length ≤ degTo E (leadV E s e) O := by
      unfold degTo
      refine nodup_sub_le (List.nodup_cons.2 ⟨fun h => h2 (List.mem_filter.1 h).1, hI.nodup.sublist List.filter_sublist⟩) fun x hx => ?_
      rw [List.mem_filter, List.mem_range, Bool.and_eq_true, decide_eq_true_eq]
      rcases List.mem_cons.1 hx with rfl | hx
      ·exact ⟨h1, decide_eq_true h3, hm _ h5⟩
      ·obtain ⟨a, b⟩ := List.mem_filter.1 hx
       exact ⟨hI.lt x a, b, hm _ (hI.stend x a _ (of_decide_eq_true b) h4)⟩
     simp at h9; omega
    omega
  ·exact hm
theorem fire_of_burns (hb : BdP n E) (hq : q < n) {c : List Int} (hc : ∀ v, v < n → 0 ≤ c.getD v 0) (h : BurnsAll E n q c) : ∀ v, v < n → v ∈ (fireC_ E n q c).order := by
 obtain ⟨h1, h2⟩ := FI.run (lit := ltC c) hb hq
 refine h _ h1.qmem h1.ond h1.olt fun v hv ho => ?_
 have h3 := deg_end h1 h2 hv ho
 have h4 := (fire_ref hb hq hc).2 v ho hv
 exact Int.le_trans (Int.le_of_eq h3.symm) h4
theorem fire_tree (hb : BdP n E) (h : FI E n q s) (hall : ∀ v, v < n → v ∈ s.order) : s.tree.length + 1 = n ∧ FoE n E s.tree := by
 have hl : s.order.length = n := by
  have h1 := nodup_sub_le h.ond (m := List.range n) (fun x hx => List.mem_range.2 (h.olt x hx))
  have h2 := nodup_sub_le (List.nodup_range (n := n)) (m := s.order) (fun x hx => hall x (List.mem_range.1 hx))
  simp at h1 h2; omega
 have hon := h.onum
 have hn : 0 < n := by omega
 have hlt : ∀ e ∈ s.tree, e < E.length := fun e he => h.lt e (h.tsub e he)
 refine ⟨by omega, hb, h.tnd, hlt, ?_⟩
 refine (tree_of_len (bd_pk hb hlt) (by rw [pk_length]; omega)).1 ((partsP_one hn).2 fun v hv => ?_)
 exact (h.cn 0 (hall 0 hn)).symm.trans (h.cn v (hall v hv))
theorem fireB_all (hb : BdP n E) (hq : q < n) {t : List Nat} (ht : IsTr n E t) : (∀ v, v < n → v ∈ (fireB E n q t).order) ∧ (fireB E n q t).tree.Perm t := by
 obtain ⟨h1, h2⟩ := FI.run (lit := ltB t) hb hq
 change FI E n q (fireB E n q t) at h1
 change nextF E (fireB E n q t) = none at h2
 have htr : ∀ e ∈ (fireB E n q t).tree, e ∈ t := by
  refine run_inv (E := E) (lit := ltB t) (I := fun s => ∀ e ∈ s.tree, e ∈ t) (fun s e hI _ => ?_) E.length (fire1 n q) (by simp [fire1])
  unfold burnOne
  split
  ·rename_i hl
   intro f hf
   rcases List.mem_append.1 hf with hf | hf
   ·exact hI f hf
   ·rw [List.mem_singleton] at hf; subst hf; simpa [ltB] using hl
  ·exact hI
 have hst : ∀ e ∈ (fireB E n q t).steps, e ∈ t → e ∈ (fireB E n q t).tree := by
  refine run_inv (E := E) (lit := ltB t) (I := fun s => ∀ e ∈ s.steps, e ∈ t → e ∈ s.tree) (fun s e hI _ => ?_) E.length (fire1 n q) (by simp [fire1])
  unfold burnOne
  split
  ·intro f hf hft
   rcases List.mem_append.1 hf with hf | hf
   ·exact List.mem_append_left _ (hI f hf hft)
   ·exact List.mem_append_right _ hf
  ·rename_i hl
   intro f hf hft
   rcases List.mem_append.1 hf with hf | hf
   ·exact hI f hf hft
   ·rw [List.mem_singleton] at hf; subst hf; exact absurd (by simpa [ltB] using hft) hl
 have hall : ∀ v, v < n → v ∈ (fireB E n q t).order := by
  have hcr : ∀ e ∈ t, ((E.getD e (0, 0)).1 ∈ (fireB E n q t).order ↔ (E.getD e (0, 0)).2 ∈ (fireB E n q t).order) := by
   intro e he
   have h3 := next_none h2 e (ht.set.2 e he)
   by_cases h4 : e ∈ (fireB E n q t).steps
   ·have h5 := h1.trend e (hst e h4 he)
    exact ⟨fun _ => h5.2, fun _ => h5.1⟩
   ·refine Classical.byContradiction fun h5 => ?_
    rw [cand_iff.2 ⟨h4, h5⟩] at h3; cases h3
  have hcl : ∀ a b, Cn (pk E t) a b → a ∈ (fireB E n q t).order → b ∈ (fireB E n q t).order := by
   intro a b hc
   induction hc with
   | refl => exact fun h => h
   | step _ hp ih =>
     intro ha
     have hx := ih ha
     rcases hp with hp | hp
     ·obtain ⟨e, he, hpe⟩ := mem_pk.1 hp
      have := hcr e he
      rw [hpe] at this; exact this.1 hx
     ·obtain ⟨e, he, hpe⟩ := mem_pk.1 hp
      have := hcr e he
      rw [hpe] at this; exact this.2 hx
  exact fun v hv => hcl q v (ht.cn hb hq hv) h1.qmem
 refine ⟨hall, ?_⟩
 have hle := fire_tree hb h1 hall
 have hlen : (fireB E n q t).tree.length = t.length := by have := hle.1; have := ht.len; omega
 refine perm_of_mem h1.tnd ht.set.nodup fun e => ⟨htr e, fun he => ?_⟩
 refine Classical.byContradiction fun hno => ?_
 have h3 := nodup_sub_le (l := e :: (fireB E n q t).tree) (m := t) (List.nodup_cons.2 ⟨hno, h1.tnd⟩) fun x hx => by
  rcases List.mem_cons.1 hx with rfl | hx
  ·exact he
  ·exact htr x hx
 rw [List.length_cons] at h3; omega
def ascN (m : Nat) (l : List Nat) : List Nat := (List.range m).filter fun e => decide (e ∈ l)
theorem mem_asc {m x : Nat} {l : List Nat} : x ∈ ascN m l ↔ x < m ∧ x ∈ l := by unfold ascN; rw [List.mem_filter, List.mem_range, decide_eq_true_eq]
theorem asc_set (m : Nat) (l : List Nat) : SetN m (ascN m l) := by
 refine ⟨?_, fun e he => (mem_asc.1 he).1⟩
 unfold ascN
 exact (List.pairwise_lt_range (n := m)).sublist List.filter_sublist
theorem setN_ext {m : Nat} {l k : List Nat} (h1 : SetN m l) (h2 : SetN m k) (h : ∀ x, x ∈ l ↔ x ∈ k) : l = k := by
 have hp := perm_of_mem h1.nodup h2.nodup h
 exact hp.eq_of_pairwise (fun a b _ _ h3 h4 => by omega) h1.1 h2.1
theorem asc_perm {m : Nat} {l : List Nat} (hn : l.Nodup) (hl : ∀ e ∈ l, e < m) : (ascN m l).Perm l :=
 perm_of_mem (asc_set m l).nodup hn fun x => ⟨fun h => (mem_asc.1 h).2, fun h => mem_asc.2 ⟨hl x h, h⟩⟩
def treeN (E : List (Nat × Nat)) (n q : Nat) (c : List Int) : List Nat := ascN E.length (fireC_ E n q c).tree
def confN (E : List (Nat × Nat)) (n q : Nat) (t : List Nat) : List Int := (fireB E n q t).times
theorem conf_same (hb : BdP n E) (hq : q < n) (t : List Nat) : fireC_ E n q (confN E n q t) = fireB E n q t := by
 obtain ⟨h1, h2⟩ := FI.run (lit := ltB t) hb hq
 refine (runF_same (lit := ltB t) (lit' := ltC (confN E n q t)) hb (I := FI E n q) (fun s e h hn => h.one hb hn) (fireB E n q t) h2 (fun s e hI hn hl => ?_) E.length (fire1 n q) (.start hq) rfl).symm
 obtain ⟨_, _, _, h6, _, h8⟩ := lead_facts hb hn
 by_cases hc : ltB t (leadV E s e) e (s.times.getD (leadV E s e) 0) = true
 ·have h3 := hl.same (leadV E s e) (by unfold burnOne; rw [if_pos hc]; simp)
  rw [hc]
  unfold ltC confN
  symm
  rw [decide_eq_true_eq, h3]
  unfold burnOne; rw [if_pos hc]; exact Int.le_refl _
 ·have h3 := hl.times (leadV E s e)
  have h4 : (burnOne (ltB t) s e (leadV E s e)).times.getD (leadV E s e) 0 = s.times.getD (leadV E s e) 0 + 1 := by
   unfold burnOne; rw [if_neg hc]
   show (s.times.set (leadV E s e) (s.times.getD (leadV E s e) 0 + 1)).getD (leadV E s e) 0 = _
   rw [List.getD_eq_getElem?_getD, List.getElem?_set, if_pos rfl, if_pos (by rw [hI.tlen]; exact h8)]
   rfl
  rw [h4] at h3
  have hc' : ltB t (leadV E s e) e (s.times.getD (leadV E s e) 0) = false := by simpa using hc
  rw [hc']
  unfold ltC confN
  symm
  rw [decide_eq_false_iff_not]; omega
theorem tree_same (hb : BdP n E) (hq : q < n) (c : List Int) : fireB E n q (treeN E n q c) = fireC_ E n q c := by
 obtain ⟨h1, h2⟩ := FI.run (lit := ltC c) hb hq
 refine (runF_same (lit := ltC c) (lit' := ltB (treeN E n q c)) hb (I := FI E n q) (fun s e h hn => h.one hb hn) (fireC_ E n q c) h2 (fun s e hI hn hl => ?_) E.length (fire1 n q) (.start hq) rfl).symm
 obtain ⟨h5, h7, _, h6, _, h8⟩ := lead_facts hb hn
 by_cases hc : ltC c (leadV E s e) e (s.times.getD (leadV E s e) 0) = true
 ·have h3 := hl.tree e (by unfold burnOne; rw [if_pos hc]; simp)
  rw [hc]
  unfold ltB treeN
  symm
  rw [decide_eq_true_eq, mem_asc]
  exact ⟨h5, h3⟩
 ·have hc' : ltC c (leadV E s e) e (s.times.getD (leadV E s e) 0) = false := by simpa using hc
  have h3 := hl.dark e (by rw [one_steps]; simp) (by unfold burnOne; rw [if_neg hc]; exact fun h => h7 (hI.tsub e h))
  rw [hc']
  unfold ltB treeN
  symm
  rw [decide_eq_false_iff_not, mem_asc]
  exact fun h => h3 h.2
theorem tree_conf (hb : BdP n E) (hq : q < n) {t : List Nat} (ht : IsTr n E t) : treeN E n q (confN E n q t) = t := by
 unfold treeN
 rw [conf_same hb hq]
 have h1 := (fireB_all hb hq ht).2
 exact setN_ext (asc_set _ _) ht.set fun x => ⟨fun h => h1.mem_iff.1 (mem_asc.1 h).2, fun h => mem_asc.2 ⟨ht.set.2 x h, h1.mem_iff.2 h⟩⟩
theorem conf_burns (hb : BdP n E) (hq : q < n) {t : List Nat} (ht : IsTr n E t) : BurnsAll E n q (confN E n q t) := by
 refine burns_of_fire hb hq fun v hv => ?_
 rw [conf_same hb hq]
 exact (fireB_all hb hq ht).1 v hv
theorem conf_facts (hb : BdP n E) (hq : q < n) (t : List Nat) : (confN E n q t).length = n ∧ (∀ v, 0 ≤ (confN E n q t).getD v 0) ∧ (confN E n q t).getD q 0 = 0 ∧ (confN E n q t).sum ≤ E.length := by
 obtain ⟨h1, _⟩ := FI.run (lit := ltB t) hb hq
 change FI E n q (fireB E n q t) at h1
 refine ⟨h1.tlen, h1.nn, h1.q0, ?_⟩
 have h2 := h1.sum
 have h3 := nodup_sub_le h1.nodup (m := List.range E.length) (fun x hx => List.mem_range.2 (h1.lt x hx))
 rw [List.length_range] at h3
 unfold confN; omega
theorem treeN_isTr (hb : BdP n E) (hq : q < n) {c : List Int} (hc : ∀ v, v < n → 0 ≤ c.getD v 0) (h : BurnsAll E n q c) : IsTr n E (treeN E n q c) := by
 obtain ⟨h1, _⟩ := FI.run (lit := ltC c) hb hq
 change FI E n q (fireC_ E n q c) at h1
 obtain ⟨h2, h3⟩ := fire_tree hb h1 (fire_of_burns hb hq hc h)
 have hp := asc_perm h3.nodup h3.lt
 exact ⟨asc_set _ _, by unfold treeN; rw [hp.length_eq]; exact h2, (h3.perm hp.symm).fo⟩
theorem conf_tree (hb : BdP n E) (hq : q < n) {c : List Int} (hl : c.length = n) (h0 : c.getD q 0 = 0) (hc : ∀ v, v < n → 0 ≤ c.getD v 0) (h : BurnsAll E n q c) : confN E n q (treeN E n q c) = c := by
 unfold confN
 rw [tree_same hb hq]
 have h1 : FI E n q (fireC_ E n q c) := (FI.run (lit := ltC c) hb hq).1
 have hall := fire_of_burns hb hq hc h
 have h2 : ∀ v ∈ (fireC_ E n q c).order, v ≠ q → (fireC_ E n q c).times.getD v 0 = c.getD v 0 := by
  have hr := (fire_ref hb hq hc).1
  unfold fireC_
  rw [hr]
  have := run_inv (E := E) (lit := ltQ c) (I := fun s => FI E n q s ∧ ∀ v ∈ s.order, v ≠ q → s.times.getD v 0 = c.getD v 0) (fun s e hI hn => ?_) E.length (fire1 n q) ⟨.start hq, fun v hv hne => by simp [fire1] at hv; exact absurd hv hne⟩
  ·exact this.2
  ·obtain ⟨hI, hm⟩ := hI
   obtain ⟨_, _, _, h4, _, h6⟩ := lead_facts hb hn
   refine ⟨hI.one hb hn, ?_⟩
   unfold burnOne
   split
   ·rename_i hl
    intro v hv hne
    rcases List.mem_append.1 hv with hv | hv
    ·exact hm v hv hne
    ·rw [List.mem_singleton] at hv; subst hv
     unfold ltQ at hl
     exact beq_iff_eq.1 hl
   ·intro v hv hne
    have hx : leadV E s e ≠ v := fun hx => h4 (hx ▸ hv)
    show (s.times.set (leadV E s e) (s.times.getD (leadV E s e) 0 + 1)).getD v 0 = _
    rw [List.getD_eq_getElem?_getD, List.getElem?_set, if_neg hx, ← List.getD_eq_getElem?_getD]
    exact hm v hv hne
 apply List.ext_getElem (by rw [h1.tlen, hl])
 intro i hi1 hi2
 have hin : i < n := by omega
 have h3 : (fireC_ E n q c).times.getD i 0 = c.getD i 0 := by
  by_cases hiq : i = q
  ·subst hiq; rw [h1.q0, h0]
  ·exact h2 i (hall i hin) hiq
 rw [List.getD_eq_getElem?_getD, List.getD_eq_getElem?_getD, List.getElem?_eq_getElem hi1, List.getElem?_eq_getElem hi2] at h3
 exact h3
def unusedN (E : List (Nat × Nat)) (n q : Nat) (t : List Nat) : List Nat := (List.range E.length).filter fun e => !decide (e ∈ (fireB E n q t).steps)
theorem unused_facts (hb : BdP n E) (hq : q < n) {t : List Nat} (ht : IsTr n E t) : ((unusedN E n q t).length : Int) = (E.length : Int) - n + 1 - (confN E n q t).sum ∧ (∀ e ∈ unusedN E n q t, e ∉ t) ∧ SetN E.length (unusedN E n q t) := by
 have h1 : FI E n q (fireB E n q t) := (FI.run (lit := ltB t) hb hq).1
 obtain ⟨h2, h3⟩ := fireB_all hb hq ht
 have h4 := fire_tree hb h1 h2
 refine ⟨?_, fun e he het => ?_, ?_, fun e he => List.mem_range.1 (List.mem_filter.1 he).1⟩
 ·have h5 : ((List.range E.length).filter fun e => decide (e ∈ (fireB E n q t).steps)).length = (fireB E n q t).steps.length := by
   refine List.Perm.length_eq (perm_of_mem (List.nodup_range.sublist List.filter_sublist) h1.nodup fun x => ?_)
   rw [List.mem_filter, List.mem_range, decide_eq_true_eq]
   exact ⟨fun h => h.2, fun h => ⟨h1.lt x h, h⟩⟩
  have h6 : ∀ (l : List Nat) (p : Nat → Bool), (l.filter fun e => !p e).length + (l.filter p).length = l.length := by
   intro l p
   induction l with
   | nil => rfl
   | cons a l ih => cases hp : p a <;> simp [hp] <;> omega
  have h7 := h6 (List.range E.length) fun e => decide (e ∈ (fireB E n q t).steps)
  have h8 := h1.sum
  rw [List.length_range] at h7
  unfold unusedN confN
  have := h4.1
  omega
 ·have := (List.mem_filter.1 he).2
  have h5 : e ∈ (fireB E n q t).steps := h1.tsub e (h3.mem_iff.2 het)
  simp [h5] at this
 ·unfold unusedN
  exact (List.pairwise_lt_range (n := E.length)).sublist List.filter_sublist
end
end Go.Proofs.YtnbikkcalcpedaaGreatDoor
