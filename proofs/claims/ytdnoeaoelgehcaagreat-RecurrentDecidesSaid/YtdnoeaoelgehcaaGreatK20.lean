/-
  Texts of this claim, put together: LeastP, PileL.
-/
import Derived.Test.YtdnoeaoelgehcaaGreatK19
import Derived.Test.YtdnoeaoelgehcaaGreatK17
import Derived.Test.YtdnoeaoelgehcaaGreatK07
/-! Plain laws of stabilization: legal firings, their order does not matter. No program is in sight. -/
namespace Go.Proofs.YtdnoeaoelgehcaaGreat

/-- How many single edges lead from a vertex to others. -/
def valS (es : List (Int × Int × Int)) (n v : Nat) : Int := sumTo (fun w => tt es v w) n
/-- A vertex fires some times. -/
def fireD (es : List (Int × Int × Int)) (n : Nat) (d : List Int) (v : Nat) (k : Int) : List Int := (List.range n).map fun u => d.getD u 0 + k * tt es v u - if u = v then k * valS es n v else 0
def runD (es : List (Int × Int × Int)) (n : Nat) (d : List Int) (l : List Nat) : List Int := l.foldl (fun d v => fireD es n d v 1) d
def cntD (n : Nat) (l : List Nat) : List Int := (List.range n).map fun u => (l.count u : Int)
def CalmD (es : List (Int × Int × Int)) (n q : Nat) (d : List Int) : Prop := ∀ v, v < n → v ≠ q → d.getD v 0 < valS es n v
/-- Legal firings. -/
inductive Leg (es : List (Int × Int × Int)) (n q : Nat) (d : List Int) : List Nat → Prop
  | nil : Leg es n q d []
  | snoc {l : List Nat} {v : Nat} : Leg es n q d l → v < n → v ≠ q → valS es n v ≤ (runD es n d l).getD v 0 → Leg es n q d (l ++ [v])

theorem sumTo_at (g : Nat → Int) (v : Nat) : ∀ n, sumTo (fun i => if i = v then g i else 0) n = if v < n then g v else 0
  | 0 => by simp [sumTo]
  | n + 1 => by
    rw [sumTo, sumTo_at g v n]
    by_cases h : n = v
    · subst h; simp
    · rw [if_neg h]
      by_cases h2 : v < n
      · rw [if_pos h2, if_pos (by omega)]; omega
      · rw [if_neg h2, if_neg (by omega)]; rfl
theorem sumTo_mul (k : Int) (f : Nat → Int) : ∀ n, sumTo (fun i => k * f i) n = k * sumTo f n
  | 0 => by simp [sumTo]
  | n + 1 => by rw [sumTo, sumTo, sumTo_mul k f n, Int.mul_add]
theorem sumTo_bd {f : Nat → Int} {M : Int} : ∀ {n : Nat}, (∀ i, i < n → -M ≤ f i) → (- (n * M) ≤ sumTo f n) ∧ ∀ u, u < n → f u ≤ sumTo f n + n * M - M
  | 0, _ => by simp [sumTo]
  | n + 1, h => by
    obtain ⟨h1, h2⟩ := sumTo_bd (f := f) (M := M) (n := n) fun i hi => h i (by omega)
    have h3 := h n (by omega)
    rw [sumTo]
    have e : ((n + 1 : Nat) : Int) * M = n * M + M := by rw [Int.natCast_add, Int.add_mul]; simp
    rw [e]
    refine ⟨by omega, fun u hu => ?_⟩
    by_cases hun : u = n
    · subst hun; omega
    · have := h2 u (by omega); omega

section
variable {es : List (Int × Int × Int)} {n q : Nat} {d : List Int} {l : List Nat} {v u : Nat} {k : Int}
theorem fireD_length : (fireD es n d v k).length = n := by simp [fireD]
theorem fireD_get (hu : u < n) : (fireD es n d v k).getD u 0 = d.getD u 0 + k * tt es v u - if u = v then k * valS es n v else 0 := by
  rw [List.getD_eq_getElem?_getD]; simp [fireD, hu]
theorem cntD_length : (cntD n l).length = n := by simp [cntD]
theorem cntD_get (hu : u < n) : (cntD n l).getD u 0 = l.count u := by
  rw [List.getD_eq_getElem?_getD]; simp [cntD, hu]
theorem runD_snoc : runD es n d (l ++ [v]) = fireD es n (runD es n d l) v 1 := by simp [runD, List.foldl_append]
theorem runD_length (hd : d.length = n) : (runD es n d l).length = n := by
  induction l using snocRec with
  | h0 => exact hd
  | h1 l x ih => rw [runD_snoc, fireD_length]
theorem count_snoc (l : List Nat) (x w : Nat) : ((l ++ [x]).count w : Int) = l.count w + if w = x then 1 else 0 := by
  rw [List.count_append]
  by_cases h : w = x
  · subst h; simp
  · rw [if_neg h, List.count_eq_zero_of_not_mem (l := [x]) (by simpa using h)]; simp
theorem runD_get (hl : ∀ x ∈ l, x < n) (hu : u < n) : (runD es n d l).getD u 0 = d.getD u 0 + sumTo (fun w => (l.count w : Int) * tt es w u) n - l.count u * valS es n u := by
  induction l using snocRec with
  | h0 => simp [runD, sumTo_zero]
  | h1 l x ih =>
    have hx : x < n := hl x (by simp)
    rw [runD_snoc, fireD_get hu, ih fun y hy => hl y (by simp [hy])]
    have e1 : sumTo (fun w => ((l ++ [x]).count w : Int) * tt es w u) n = sumTo (fun w => (l.count w : Int) * tt es w u) n + tt es x u := by
      rw [sumTo_congr (g := fun w => (l.count w : Int) * tt es w u + if w = x then tt es w u else 0) fun w _ => ?_, sumTo_add, sumTo_at (fun w => tt es w u) x n, if_pos hx]
      rw [count_snoc, Int.add_mul]
      congr 1
      split <;> simp
    rw [e1, count_snoc]
    by_cases h : u = x
    · subst h; rw [if_pos rfl, if_pos rfl, Int.add_mul]; simp; omega
    · rw [if_neg h, if_neg h]; simp; omega
theorem Leg.lt (h : Leg es n q d l) : ∀ x ∈ l, x < n ∧ x ≠ q := by
  induction h with
  | nil => intro x hx; simp at hx
  | snoc h1 h2 h3 h4 ih =>
    intro x hx
    rcases List.mem_append.1 hx with hx | hx
    · exact ih x hx
    · rw [List.mem_singleton.1 hx]; exact ⟨h2, h3⟩
/-- The least script: legal firings are no more than those of any that leave a stable configuration. -/
theorem Leg.least (he : ∀ a b, 0 ≤ tt es a b) (h : Leg es n q d l) {m : List Nat} (hm : ∀ x ∈ m, x < n) (hc : CalmD es n q (runD es n d m)) : ∀ v, l.count v ≤ m.count v := by
  induction h with
  | nil => intro v; simp
  | @snoc l v h1 h2 h3 h4 ih =>
    intro u
    have hs := count_snoc l v u
    by_cases huv : u = v
    · subst huv
      rw [if_pos rfl] at hs
      have h5 := hc u h2 h3
      rw [runD_get hm h2] at h5
      rw [runD_get (fun x hx => (h1.lt x hx).1) h2] at h4
      have h6 : sumTo (fun w => (l.count w : Int) * tt es w u) n ≤ sumTo (fun w => (m.count w : Int) * tt es w u) n := sumTo_le fun w _ => Int.mul_le_mul_of_nonneg_right (by have := ih w; omega) (he w u)
      have h7 := ih u
      by_cases h8 : l.count u = m.count u
      · rw [h8] at h4; omega
      · omega
    · rw [if_neg huv] at hs
      have := ih u
      omega
theorem count_length (hl : ∀ x ∈ l, x < n) : (l.length : Int) = sumTo (fun w => (l.count w : Int)) n := by
  induction l using snocRec with
  | h0 => simp [sumTo_zero]
  | h1 l x ih =>
    have hx : x < n := hl x (by simp)
    rw [sumTo_congr (g := fun w => (l.count w : Int) + if w = x then 1 else 0) fun w _ => count_snoc l x w, sumTo_add, sumTo_at (fun _ => 1) x n, if_pos hx, ← ih fun y hy => hl y (by simp [hy])]
    simp
theorem Leg.least_length (he : ∀ a b, 0 ≤ tt es a b) (h : Leg es n q d l) {m : List Nat} (hm : ∀ x ∈ m, x < n) (hc : CalmD es n q (runD es n d m)) : l.length ≤ m.length := by
  have h1 := count_length fun x hx => (h.lt x hx).1
  have h2 := count_length hm
  have h3 : sumTo (fun w => (l.count w : Int)) n ≤ sumTo (fun w => (m.count w : Int)) n := sumTo_le fun w _ => by have := h.least he hm hc w; omega
  omega
theorem run_same (hd : d.length = n) {m : List Nat} (hl : ∀ x ∈ l, x < n) (hm : ∀ x ∈ m, x < n) (h : ∀ v, l.count v = m.count v) : runD es n d l = runD es n d m := by
  apply List.ext_getElem (by rw [runD_length hd, runD_length hd])
  intro i h1 h2
  rw [runD_length hd] at h1
  have e1 := runD_get (es := es) (d := d) hl h1
  have e2 := runD_get (es := es) (d := d) hm h1
  simp only [h] at e1
  rw [← e2] at e1
  rw [List.getD_eq_getElem?_getD, List.getD_eq_getElem?_getD, List.getElem?_eq_getElem (by rw [runD_length hd]; exact h1), List.getElem?_eq_getElem (by rw [runD_length hd]; exact h1)] at e1
  simpa using e1
/-- What stabilization leaves: the configuration with the odometer, or nothing if there are too many firings. -/
def StabR (es : List (Int × Int × Int)) (n q : Nat) (d : List Int) : Option (List Int × List Int) → Prop
  | some (x, s) => ∃ l, Leg es n q d l ∧ l.length ≤ 1048576 ∧ CalmD es n q x ∧ x = runD es n d l ∧ s = cntD n l
  | none => ∃ l, Leg es n q d l ∧ 1048576 < l.length
theorem StabR.unique (he : ∀ a b, 0 ≤ tt es a b) (hd : d.length = n) : ∀ {r r' : Option (List Int × List Int)}, StabR es n q d r → StabR es n q d r' → r = r'
  | none, none, _, _ => rfl
  | none, some (x, s), ⟨l, h1, h2⟩, ⟨m, g1, g2, g3, gx, gs⟩ => by
    have := h1.least_length he (fun x hx => (g1.lt x hx).1) (gx ▸ g3)
    omega
  | some (x, s), none, ⟨m, g1, g2, g3, gx, gs⟩, ⟨l, h1, h2⟩ => by
    have := h1.least_length he (fun x hx => (g1.lt x hx).1) (gx ▸ g3)
    omega
  | some (x, s), some (y, t), ⟨l, h1, h2, h3, hx', hs'⟩, ⟨m, g1, g2, g3, gx, gs⟩ => by
    have hl := fun x hx => (h1.lt x hx).1
    have hm := fun x hx => (g1.lt x hx).1
    rw [hx'] at h3
    rw [gx] at g3
    have h4 : ∀ v, l.count v = m.count v := fun v => Nat.le_antisymm (h1.least he hm g3 v) (g1.least he hl h3 v)
    rw [hx', gx, hs', gs, run_same hd hl hm h4]
    have h5 : cntD n l = cntD n m := by unfold cntD; simp only [h4]
    rw [h5]
/-- A vertex fires as often as is legal at once. -/
theorem fireD_add (j : Int) : fireD es n (fireD es n d v k) v j = fireD es n d v (k + j) := by
  unfold fireD
  apply List.map_congr_left
  intro u hu
  have hu := List.mem_range.1 hu
  have := fireD_get (es := es) (d := d) (v := v) (k := k) hu
  unfold fireD at this
  rw [this, Int.add_mul, Int.add_mul]
  split <;> omega
theorem Leg.times (he : ∀ a, tt es a a = 0) (hd : d.length = n) (h : Leg es n q d l) (hv : v < n) (hq : v ≠ q) (hp : 0 ≤ valS es n v) : ∀ t : Nat, (t : Int) * valS es n v ≤ (runD es n d l).getD v 0 → Leg es n q d (l ++ List.replicate t v) ∧ runD es n d (l ++ List.replicate t v) = fireD es n (runD es n d l) v t
  | 0, _ => by
    refine ⟨by simpa using h, ?_⟩
    rw [List.replicate_zero, List.append_nil]
    apply List.ext_getElem (by rw [runD_length hd, fireD_length])
    intro i h1 h2
    rw [runD_length hd] at h1
    have e2 := fireD_get (es := es) (d := runD es n d l) (v := v) (k := 0) h1
    simp only [Int.zero_mul, ite_self, Int.sub_zero, Int.add_zero] at e2
    rw [List.getD_eq_getElem?_getD, List.getD_eq_getElem?_getD, List.getElem?_eq_getElem (by rw [fireD_length]; exact h1), List.getElem?_eq_getElem (by rw [runD_length hd]; exact h1)] at e2
    simpa using e2.symm
  | t + 1, ht => by
    have e : ((t + 1 : Nat) : Int) * valS es n v = t * valS es n v + valS es n v := by rw [Int.natCast_add, Int.add_mul]; simp
    rw [e] at ht
    obtain ⟨h1, h2⟩ := Leg.times he hd h hv hq hp t (by omega)
    have h3 : l ++ List.replicate (t + 1) v = (l ++ List.replicate t v) ++ [v] := by rw [List.replicate_succ', List.append_assoc]
    rw [h3]
    refine ⟨.snoc h1 hv hq ?_, ?_⟩
    · rw [h2, fireD_get hv, if_pos rfl, he v]; omega
    · rw [runD_snoc, h2, fireD_add 1]; rfl
theorem Leg.nonneg (he : ∀ a b, 0 ≤ tt es a b) (h : Leg es n q d l) (hu : u < n) (h0 : 0 ≤ d.getD u 0) : 0 ≤ (runD es n d l).getD u 0 := by
  induction h with
  | nil => exact h0
  | @snoc l v h1 h2 h3 h4 ih =>
    rw [runD_snoc, fireD_get hu]
    have := he v u
    split
    · rename_i e; subst e; omega
    · omega
theorem Leg.sink (he : ∀ a b, 0 ≤ tt es a b) (h : Leg es n q d l) (hq : q < n) : d.getD q 0 ≤ (runD es n d l).getD q 0 := by
  induction h with
  | nil => exact Int.le_refl _
  | @snoc l v h1 h2 h3 h4 ih =>
    rw [runD_snoc, fireD_get hq, if_neg (fun e => h3 e.symm)]
    have := he v q
    omega
theorem fireD_sum (hv : v < n) : sumTo (fun u => (fireD es n d v k).getD u 0) n = sumTo (fun u => d.getD u 0) n := by
  rw [sumTo_congr (g := fun u => d.getD u 0 + (k * tt es v u + if u = v then -(k * valS es n v) else 0)) fun u hu => ?_, sumTo_add, sumTo_add, sumTo_mul, sumTo_at (fun _ => -(k * valS es n v)) v n, if_pos hv]
  · show _ + (k * valS es n v + -(k * valS es n v)) = _
    omega
  · rw [fireD_get hu]; split <;> omega
theorem runD_sum (hl : ∀ x ∈ l, x < n) : sumTo (fun u => (runD es n d l).getD u 0) n = sumTo (fun u => d.getD u 0) n := by
  induction l using snocRec with
  | h0 => rfl
  | h1 l x ih => rw [runD_snoc, fireD_sum (hl x (by simp)), ih fun y hy => hl y (by simp [hy])]
/-- Bounds of what a legal firing leaves. -/
theorem Leg.bound {M : Int} (he : ∀ a b, 0 ≤ tt es a b) (h : Leg es n q d l) (hM : 0 ≤ M) (h0 : ∀ v, v < n → v ≠ q → 0 ≤ d.getD v 0) (hb : ∀ v, v < n → -M ≤ d.getD v 0 ∧ d.getD v 0 ≤ M) : ∀ v, v < n → -M ≤ (runD es n d l).getD v 0 ∧ (runD es n d l).getD v 0 ≤ 2 * (n * M) := by
  have h1 : ∀ v, v < n → -M ≤ (runD es n d l).getD v 0 := by
    intro v hv
    by_cases hvq : v = q
    · subst hvq; have := h.sink he hv; have := hb v hv; omega
    · have := h.nonneg he hv (h0 v hv hvq); omega
  have h2 := sumTo_bd h1
  rw [runD_sum fun x hx => (h.lt x hx).1] at h2
  have h3 := sumTo_bd (f := fun u => -(d.getD u 0)) (M := M) (n := n) fun i hi => by have := hb i hi; omega
  have h4 : sumTo (fun u => -(d.getD u 0)) n = - sumTo (fun u => d.getD u 0) n := by
    have := sumTo_mul (-1) (fun u => d.getD u 0) n
    simpa using this
  intro v hv
  refine ⟨h1 v hv, ?_⟩
  have := h2.2 v hv
  omega
end
end Go.Proofs.YtdnoeaoelgehcaaGreat

/-! Plain: the table of a pile holds the single edges, its valences are the valences. -/
namespace Go.Proofs.YtdnoeaoelgehcaaGreat
open Go.RowKit

theorem incE_get (xs : List Int) (i v : Nat) : (incE xs i).getD v 0 = xs.getD v 0 + if v = i ∧ i < xs.length then 1 else 0 := by
  unfold incE
  simp only [List.getD_eq_getElem?_getD, List.getElem?_set]
  by_cases h : i = v
  · subst h
    by_cases h2 : i < xs.length
    · simp [h2]
    · simp [h2]
  · rw [if_neg h, if_neg (fun e => h e.1.symm), Int.add_zero]
def indV (v : Nat) (p : Nat × Nat) : Int := if p.1 ≠ p.2 ∧ (p.1 = v ∨ p.2 = v) then 1 else 0
def indR (a b : Nat) (p : Nat × Nat) : Int := if p.1 ≠ p.2 ∧ ((p.1 = a ∧ p.2 = b) ∨ (p.1 = b ∧ p.2 = a)) then 1 else 0
theorem valL_at {n v : Nat} (ps : List (Nat × Nat)) : (∀ p ∈ ps, p.1 < n ∧ p.2 < n) → (valL n ps).getD v 0 = (ps.map (indV v)).sum := by
  induction ps using snocRec with
  | h0 =>
    intro _
    unfold valL
    rw [List.foldl_nil, List.getD_eq_getElem?_getD, List.getElem?_replicate]
    split <;> simp
  | h1 ps p ih =>
    intro h
    obtain ⟨h1, h2⟩ := h p (by simp)
    have hl := (valL_bd n ps).1
    have e : valL n (ps ++ [p]) = edgeV (valL n ps) p := by simp [valL, List.foldl_append]
    rw [e, List.map_append, List.sum_append, ← ih fun x hx => h x (by simp [hx])]
    unfold edgeV indV
    simp only [List.map_cons, List.map_nil, List.sum_cons, List.sum_nil, Int.add_zero]
    by_cases hp : p.1 = p.2
    · rw [if_pos hp, if_neg (fun e => e.1 hp)]; omega
    · rw [if_neg hp, incE_get, incE_get, incE_length]
      split <;> split <;> split <;> omega
theorem incR_get {n : Nat} {rows : List (List Int)} (hl : rows.length = n) (hr : ∀ r ∈ rows, r.length = n) {i j : Nat} (hi : i < n) (hj : j < n) (a b : Nat) : ((incR rows i j).getD a []).getD b 0 = (rows.getD a []).getD b 0 + if a = i ∧ b = j then 1 else 0 := by
  have hrow : (rows.getD i []).length = n := by
    rw [List.getD_eq_getElem?_getD, List.getElem?_eq_getElem (by omega)]
    exact hr _ (List.getElem_mem _)
  unfold incR
  by_cases h : a = i
  · subst h
    have e : (rows.set a (incE (rows.getD a []) j)).getD a [] = incE (rows.getD a []) j := by
      rw [List.getD_eq_getElem?_getD, List.getElem?_set_self (by omega)]; rfl
    rw [e, incE_get, hrow]
    by_cases hb : b = j
    · subst hb; rw [if_pos ⟨rfl, hj⟩, if_pos ⟨rfl, rfl⟩]
    · rw [if_neg (fun e => hb e.1), if_neg (fun e => hb e.2)]
  · have e : (rows.set i (incE (rows.getD i []) j)).getD a [] = rows.getD a [] := by
      rw [List.getD_eq_getElem?_getD, List.getElem?_set_ne (fun e => h e.symm), ← List.getD_eq_getElem?_getD]
    rw [e, if_neg (fun e => h e.1), Int.add_zero]
theorem rowsL_at {n a b : Nat} (ps : List (Nat × Nat)) : (∀ p ∈ ps, p.1 < n ∧ p.2 < n) → ((rowsL n ps).getD a []).getD b 0 = (ps.map (indR a b)).sum := by
  induction ps using snocRec with
  | h0 =>
    intro _
    unfold rowsL
    rw [List.foldl_nil]
    have e : (List.replicate n (List.replicate n (0 : Int))).getD a [] = if a < n then List.replicate n 0 else [] := by
      rw [List.getD_eq_getElem?_getD, List.getElem?_replicate]; split <;> rfl
    rw [e]
    split
    · rw [List.getD_eq_getElem?_getD, List.getElem?_replicate]; split <;> simp
    · simp
  | h1 ps p ih =>
    intro h
    obtain ⟨h1, h2⟩ := h p (by simp)
    have hps : ∀ x ∈ ps, x.1 < n ∧ x.2 < n := fun x hx => h x (by simp [hx])
    have hb := rowsL_bd n ps hps
    have e : rowsL n (ps ++ [p]) = edgeR (rowsL n ps) p := by simp [rowsL, List.foldl_append]
    rw [e, List.map_append, List.sum_append, ← ih hps]
    unfold edgeR indR
    simp only [List.map_cons, List.map_nil, List.sum_cons, List.sum_nil, Int.add_zero]
    by_cases hp : p.1 = p.2
    · rw [if_pos hp, if_neg (fun e => e.1 hp)]; omega
    · have hb1 := hb.inc (by omega) h1 p.2
      rw [if_neg hp, incR_get hb1.1 (fun r hr => (hb1.2 r hr).1) h2 h1, incR_get hb.1 (fun r hr => (hb.2 r hr).1) h1 h2]
      split <;> split <;> split <;> omega
theorem sum_rep (m : Nat) (x : Int) : (List.replicate m x).sum = m * x := by
  induction m with
  | zero => simp
  | succ m ih => rw [List.replicate_succ, List.sum_cons, ih, Int.natCast_add, Int.add_mul]; omega
theorem ends_sum {n : Nat} {es : List E3} (hok : ∀ e ∈ es, okE n e) (g : Nat × Nat → Int) : ((endsL es).map g).sum = (es.map fun e => e.2.2 * g (e.1.toNat, e.2.1.toNat)).sum := by
  induction es with
  | nil => rfl
  | cons e es ih =>
    have h := hok e (by simp)
    unfold okE at h
    have e1 : endsL (e :: es) = List.replicate e.2.2.toNat (e.1.toNat, e.2.1.toNat) ++ endsL es := by simp [endsL]
    rw [e1, List.map_append, List.sum_append, ih fun x hx => hok x (by simp [hx]), List.map_replicate, sum_rep, List.map_cons, List.sum_cons, Int.toNat_of_nonneg (by omega)]
theorem valL_val {n v : Nat} {es : List E3} (hok : ∀ e ∈ es, okE n e) : (valL n (endsL es)).getD v 0 = valE es v := by
  rw [valL_at _ (endsL_ok hok), ends_sum hok]
  unfold valE
  congr 1
  apply List.map_congr_left
  intro e he
  have h := hok e he
  unfold okE at h
  unfold indV valT
  dsimp only
  by_cases hc : e.1 ≠ e.2.1 ∧ (e.1 = v ∨ e.2.1 = v)
  · rw [if_pos hc, if_pos (by omega)]; omega
  · rw [if_neg hc, if_neg (by omega)]; omega
theorem jn_one {n a b : Nat} {es : List E3} (hG : RightG n es) (hb : b < n) : jnE es [b] a = tt es a b := by
  rw [jnE_flm hG]
  have : ∀ k, flmTo es [b] a k = if b < k then tt es a b else 0 := by
    intro k
    induction k with
    | zero => simp [flmTo]
    | succ k ih =>
      simp only [flmTo]
      rw [ih]
      by_cases h : k = b
      · subst h; simp
      · rw [if_neg (show ¬ k ∈ [b] by simpa using h)]
        by_cases h2 : b < k
        · rw [if_pos h2, if_pos (by omega)]; omega
        · rw [if_neg h2, if_neg (by omega)]; omega
  rw [this n, if_pos hb]
theorem rowsL_tt {n a b : Nat} {es : List E3} (hG : RightG n es) (hb : b < n) : ((rowsL n (endsL es)).getD a []).getD b 0 = tt es a b := by
  rw [rowsL_at _ (endsL_ok hG.ok), ends_sum hG.ok, ← jn_one hG hb]
  unfold jnE
  congr 1
  apply List.map_congr_left
  intro e he
  have h := hG.ok e he
  unfold okE at h
  unfold indR jnT
  dsimp only
  simp only [List.mem_singleton]
  by_cases hc : e.1 ≠ e.2.1 ∧ ((e.1 = (a : Int) ∧ e.2.1.toNat = b) ∨ (e.2.1 = (a : Int) ∧ e.1.toNat = b))
  · rw [if_pos hc, if_pos (by omega)]; omega
  · rw [if_neg hc, if_neg (by omega)]; omega
theorem valE_valS {n v : Nat} {es : List E3} (hG : RightG n es) : valE es v = valS es n v := by
  rw [valE_jn (n := n) hG.ok, jnE_flm hG]
  unfold valS
  have : ∀ k, k ≤ n → flmTo es (List.range n) v k = sumTo (fun w => tt es v w) k := by
    intro k hk
    induction k with
    | zero => rfl
    | succ k ih => simp only [flmTo, sumTo]; rw [ih (by omega), if_pos (List.mem_range.2 (by omega))]
  exact this n (Nat.le_refl _)
/-- In a connected graph each vertex has neighbours. -/
theorem conn_edge {v : Nat} {es : List E3} {c : Nat} (h : Conn es v c) : c = v ∨ ∃ e ∈ es, e.1 ≠ e.2.1 ∧ (e.1 = v ∨ e.2.1 = v) := by
  induction h with
  | refl => exact .inl rfl
  | @step b c _ hbc ih =>
    rcases ih with rfl | ih
    · obtain ⟨e, he, h⟩ := hbc
      by_cases hcb : c = b
      · exact .inl hcb
      · exact .inr ⟨e, he, by omega, by omega⟩
    · exact .inr ih
theorem valE_mem {n : Int} {es : List E3} (hok : ∀ e ∈ es, okE n e) {v : Int} {e : E3} (he : e ∈ es) (hne : e.1 ≠ e.2.1) (hv : e.1 = v ∨ e.2.1 = v) : 1 ≤ valE es v := by
  induction es with
  | nil => cases he
  | cons x es ih =>
    have h1 := valE_bd (fun y hy => hok y (List.mem_cons_of_mem _ hy)) v
    have h2 := valT_bd (hok x (by simp)) v
    have e1 : valE (x :: es) v = valT v x + valE es v := by simp [valE]
    rw [e1]
    rcases List.mem_cons.1 he with rfl | he
    · have h3 := hok e (by simp)
      unfold okE at h3
      unfold valT
      rw [if_pos ⟨hne, hv⟩]
      omega
    · have := ih (fun y hy => hok y (List.mem_cons_of_mem _ hy)) he
      omega
theorem val_pos {n v q : Nat} {es : List E3} (hG : RightG n es) (hC : AllConn n es) (hv : v < n) (hq : q < n) (hvq : v ≠ q) : 1 ≤ valE es v := by
  rcases conn_edge ((hC v hv).symm.trans (hC q hq)) with h | ⟨e, he, h1, h2⟩
  · exact absurd h.symm hvq
  · exact valE_mem hG.ok he h1 h2
theorem root_zero {n q : Nat} {es : List E3} (hx : rootErr n es q = 0) : checkG n es = 0 ∧ RightG n es ∧ AllConn n es ∧ q < n := by
  rcases root_cases n es q with ⟨h1, h2⟩ | ⟨_, _, h2⟩ | ⟨_, _, _, h2⟩ | ⟨h1, h2, h3, _⟩
  · rw [hx] at h2; exact absurd h2.symm h1
  · rw [hx] at h2; cases h2
  · rw [hx] at h2; cases h2
  · have hG := right_of h1
    rw [Int.toNat_natCast] at h2
    have := vertB_true.1 h3
    exact ⟨h1, hG, (connB_iff hG).1 h2, by omega⟩
end Go.Proofs.YtdnoeaoelgehcaaGreat

