/-
  Texts of this claim, put together: CloneI, LeastP, ConnB, GridW, LawG.
-/
import Derived.Test.YtplgbapbgcipdaaGreatK06
import Derived.Test.YtplgbapbgcipdaaGreatK07
import Derived.Test.YtplgbapbgcipdaaGreatK08
import Derived.Test.YtplgbapbgcipdaaGreatK02
import Derived.Test.YtplgbapbgcipdaaGreatK05
import Derived.Deep.Slices
/-! slices.Clone on ints. -/
namespace Go.Proofs.YtplgbapbgcipdaaGreat
open Go.RowKit

set_option maxHeartbeats 400000 in
/-- slices.Clone on ints. -/
theorem clone_any (A : Option Addr) (c : Nat) (xs : List Int) (hn : xs.length ≤ 1048000) (w : World) (h : Reads w w.heap.size 1 A xs.length (ints xs)) :
    Calls Tryz.prog 114 #[.slice A xs.length c] w fun e w' =>
      ∃ A' c', e = .returned (.slice A' xs.length c') ∧ OwnI w' w.heap.size A' c' xs ∧ Below w.heap.size w w' := by
  have q22 : ∀ (w : World) (a : Option Addr) (n c n' c' : Nat), (binOp .eql 25 (.slice a n c) (.slice none n' c')).run Tryz.prog w = .ok (.bool a.isNone) w := fun w a n c n' c' => Lib.run_eql_slice_nil w _ _ a n c n' c' Tryz.underlying25
  rcases A with _ | ad
  · have hx : xs = [] := by
      rcases xs with _ | ⟨x, xs⟩
      · rfl
      · obtain ⟨_, _, h, _⟩ := h.2 (by simp)
        cases h
    subst hx
    go_enter Tryz.func114, Tryz.ntmps114
    go_wp2
    go_ret
    exact ⟨none, 0, rfl, OwnI.nil_ _ _, Below.refl _ _⟩
  · go_enter Tryz.func114, Tryz.ntmps114
    have hown0 : (w.alloc (.cells #[] 3)).ownsRow w.heap.size 3 1 (.slice (some ⟨w.heap.size, 0, none⟩) 0 0) 0 [] := World.ownsRow_made w #[] 0 (Nat.le_refl _) (by simp [maxLen]) (by simp)
    have hr := h.alloc (Nat.le_refl _) (.cells #[] 3)
    go_wp2_with (at_builtin; refine append_go rfl (.tmp 5) (.tmp 6) _ rfl w.heap.size 3 Tryz.underlying25 info_int rfl (by omega) (some ⟨w.heap.size, 0, none⟩) 0 0 [] rfl hown0 w.heap.size (ints xs) rfl hr (by simp [ints, Value.oneCell']) (by omega) (by simp) ?_; intro A' c' w' hown' _ hb' _)
    go_ret
    refine ⟨A', c', rfl, ?_, ((Below.refl _ _).alloc (Nat.le_refl _) _).trans hb'⟩
    rw [Nat.zero_add, List.nil_append] at hown'
    exact hown'

end Go.Proofs.YtplgbapbgcipdaaGreat

/-! Plain laws of stabilization: legal firings, their order does not matter. No program is in sight. -/
namespace Go.Proofs.YtplgbapbgcipdaaGreat

/-- How many single edges lead from a vertex to others. -/
def valS (es : List (Int × Int × Int)) (n v : Nat) : Int := sumTo (fun w => tt es v w) n
/-- A vertex fires some times. -/
def fireD (es : List (Int × Int × Int)) (n : Nat) (d : List Int) (v : Nat) (k : Int) : List Int := (List.range n).map fun u => d.getD u 0 + k * tt es v u - if u = v then k * valS es n v else 0
def runD (es : List (Int × Int × Int)) (n : Nat) (d : List Int) (l : List Nat) : List Int := l.foldl (fun d v => fireD es n d v 1) d
def cntD (n : Nat) (l : List Nat) : List Int := (List.range n).map fun u => (l.count u : Int)
def CalmD (es : List (Int × Int × Int)) (n q : Nat) (d : List Int) : Prop := ∀ v, v < n → v ≠ q → d.getD v 0 < valS es n v
/-- Legal firings. -/
inductive Leg (es : List (Int × Int × Int)) (n q : Nat) (d : List Int) : List Nat → Prop
  | nil : Leg es n q d []
  | snoc {l : List Nat} {v : Nat} : Leg es n q d l → v < n → v ≠ q → valS es n v ≤ (runD es n d l).getD v 0 → Leg es n q d (l ++ [v])

theorem sumTo_at (g : Nat → Int) (v : Nat) : ∀ n, sumTo (fun i => if i = v then g i else 0) n = if v < n then g v else 0
  | 0 => by simp [sumTo]
  | n + 1 => by
    rw [sumTo, sumTo_at g v n]
    by_cases h : n = v
    · subst h; simp
    · rw [if_neg h]
      by_cases h2 : v < n
      · rw [if_pos h2, if_pos (by omega)]; omega
      · rw [if_neg h2, if_neg (by omega)]; rfl
theorem sumTo_mul (k : Int) (f : Nat → Int) : ∀ n, sumTo (fun i => k * f i) n = k * sumTo f n
  | 0 => by simp [sumTo]
  | n + 1 => by rw [sumTo, sumTo, sumTo_mul k f n, Int.mul_add]
theorem sumTo_bd {f : Nat → Int} {M : Int} : ∀ {n : Nat}, (∀ i, i < n → -M ≤ f i) → (- (n * M) ≤ sumTo f n) ∧ ∀ u, u < n → f u ≤ sumTo f n + n * M - M
  | 0, _ => by simp [sumTo]
  | n + 1, h => by
    obtain ⟨h1, h2⟩ := sumTo_bd (f := f) (M := M) (n := n) fun i hi => h i (by omega)
    have h3 := h n (by omega)
    rw [sumTo]
    have e : ((n + 1 : Nat) : Int) * M = n * M + M := by rw [Int.natCast_add, Int.add_mul]; simp
    rw [e]
    refine ⟨by omega, fun u hu => ?_⟩
    by_cases hun : u = n
    · subst hun; omega
    · have := h2 u (by omega); omega

section
variable {es : List (Int × Int × Int)} {n q : Nat} {d : List Int} {l : List Nat} {v u : Nat} {k : Int}
theorem fireD_length : (fireD es n d v k).length = n := by simp [fireD]
theorem fireD_get (hu : u < n) : (fireD es n d v k).getD u 0 = d.getD u 0 + k * tt es v u - if u = v then k * valS es n v else 0 := by
  rw [List.getD_eq_getElem?_getD]; simp [fireD, hu]
theorem cntD_length : (cntD n l).length = n := by simp [cntD]
theorem cntD_get (hu : u < n) : (cntD n l).getD u 0 = l.count u := by
  rw [List.getD_eq_getElem?_getD]; simp [cntD, hu]
theorem runD_snoc : runD es n d (l ++ [v]) = fireD es n (runD es n d l) v 1 := by simp [runD, List.foldl_append]
theorem runD_length (hd : d.length = n) : (runD es n d l).length = n := by
  induction l using snocRec with
  | h0 => exact hd
  | h1 l x ih => rw [runD_snoc, fireD_length]
theorem count_snoc (l : List Nat) (x w : Nat) : ((l ++ [x]).count w : Int) = l.count w + if w = x then 1 else 0 := by
  rw [List.count_append]
  by_cases h : w = x
  · subst h; simp
  · rw [if_neg h, List.count_eq_zero_of_not_mem (l := [x]) (by simpa using h)]; simp
theorem runD_get (hl : ∀ x ∈ l, x < n) (hu : u < n) : (runD es n d l).getD u 0 = d.getD u 0 + sumTo (fun w => (l.count w : Int) * tt es w u) n - l.count u * valS es n u := by
  induction l using snocRec with
  | h0 => simp [runD, sumTo_zero]
  | h1 l x ih =>
    have hx : x < n := hl x (by simp)
    rw [runD_snoc, fireD_get hu, ih fun y hy => hl y (by simp [hy])]
    have e1 : sumTo (fun w => ((l ++ [x]).count w : Int) * tt es w u) n = sumTo (fun w => (l.count w : Int) * tt es w u) n + tt es x u := by
      rw [sumTo_congr (g := fun w => (l.count w : Int) * tt es w u + if w = x then tt es w u else 0) fun w _ => ?_, sumTo_add, sumTo_at (fun w => tt es w u) x n, if_pos hx]
      rw [count_snoc, Int.add_mul]
      congr 1
      split <;> simp
    rw [e1, count_snoc]
    by_cases h : u = x
    · subst h; rw [if_pos rfl, if_pos rfl, Int.add_mul]; simp; omega
    · rw [if_neg h, if_neg h]; simp; omega
theorem Leg.lt (h : Leg es n q d l) : ∀ x ∈ l, x < n ∧ x ≠ q := by
  induction h with
  | nil => intro x hx; simp at hx
  | snoc h1 h2 h3 h4 ih =>
    intro x hx
    rcases List.mem_append.1 hx with hx | hx
    · exact ih x hx
    · rw [List.mem_singleton.1 hx]; exact ⟨h2, h3⟩
/-- The least script: legal firings are no more than those of any that leave a stable configuration. -/
theorem Leg.least (he : ∀ a b, 0 ≤ tt es a b) (h : Leg es n q d l) {m : List Nat} (hm : ∀ x ∈ m, x < n) (hc : CalmD es n q (runD es n d m)) : ∀ v, l.count v ≤ m.count v := by
  induction h with
  | nil => intro v; simp
  | @snoc l v h1 h2 h3 h4 ih =>
    intro u
    have hs := count_snoc l v u
    by_cases huv : u = v
    · subst huv
      rw [if_pos rfl] at hs
      have h5 := hc u h2 h3
      rw [runD_get hm h2] at h5
      rw [runD_get (fun x hx => (h1.lt x hx).1) h2] at h4
      have h6 : sumTo (fun w => (l.count w : Int) * tt es w u) n ≤ sumTo (fun w => (m.count w : Int) * tt es w u) n := sumTo_le fun w _ => Int.mul_le_mul_of_nonneg_right (by have := ih w; omega) (he w u)
      have h7 := ih u
      by_cases h8 : l.count u = m.count u
      · rw [h8] at h4; omega
      · omega
    · rw [if_neg huv] at hs
      have := ih u
      omega
theorem count_length (hl : ∀ x ∈ l, x < n) : (l.length : Int) = sumTo (fun w => (l.count w : Int)) n := by
  induction l using snocRec with
  | h0 => simp [sumTo_zero]
  | h1 l x ih =>
    have hx : x < n := hl x (by simp)
    rw [sumTo_congr (g := fun w => (l.count w : Int) + if w = x then 1 else 0) fun w _ => count_snoc l x w, sumTo_add, sumTo_at (fun _ => 1) x n, if_pos hx, ← ih fun y hy => hl y (by simp [hy])]
    simp
theorem Leg.least_length (he : ∀ a b, 0 ≤ tt es a b) (h : Leg es n q d l) {m : List Nat} (hm : ∀ x ∈ m, x < n) (hc : CalmD es n q (runD es n d m)) : l.length ≤ m.length := by
  have h1 := count_length fun x hx => (h.lt x hx).1
  have h2 := count_length hm
  have h3 : sumTo (fun w => (l.count w : Int)) n ≤ sumTo (fun w => (m.count w : Int)) n := sumTo_le fun w _ => by have := h.least he hm hc w; omega
  omega
theorem run_same (hd : d.length = n) {m : List Nat} (hl : ∀ x ∈ l, x < n) (hm : ∀ x ∈ m, x < n) (h : ∀ v, l.count v = m.count v) : runD es n d l = runD es n d m := by
  apply List.ext_getElem (by rw [runD_length hd, runD_length hd])
  intro i h1 h2
  rw [runD_length hd] at h1
  have e1 := runD_get (es := es) (d := d) hl h1
  have e2 := runD_get (es := es) (d := d) hm h1
  simp only [h] at e1
  rw [← e2] at e1
  rw [List.getD_eq_getElem?_getD, List.getD_eq_getElem?_getD, List.getElem?_eq_getElem (by rw [runD_length hd]; exact h1), List.getElem?_eq_getElem (by rw [runD_length hd]; exact h1)] at e1
  simpa using e1
/-- What stabilization leaves: the configuration with the odometer, or nothing if there are too many firings. -/
def StabR (es : List (Int × Int × Int)) (n q : Nat) (d : List Int) : Option (List Int × List Int) → Prop
  | some (x, s) => ∃ l, Leg es n q d l ∧ l.length ≤ 1048576 ∧ CalmD es n q x ∧ x = runD es n d l ∧ s = cntD n l
  | none => ∃ l, Leg es n q d l ∧ 1048576 < l.length
theorem StabR.unique (he : ∀ a b, 0 ≤ tt es a b) (hd : d.length = n) : ∀ {r r' : Option (List Int × List Int)}, StabR es n q d r → StabR es n q d r' → r = r'
  | none, none, _, _ => rfl
  | none, some (x, s), ⟨l, h1, h2⟩, ⟨m, g1, g2, g3, gx, gs⟩ => by
    have := h1.least_length he (fun x hx => (g1.lt x hx).1) (gx ▸ g3)
    omega
  | some (x, s), none, ⟨m, g1, g2, g3, gx, gs⟩, ⟨l, h1, h2⟩ => by
    have := h1.least_length he (fun x hx => (g1.lt x hx).1) (gx ▸ g3)
    omega
  | some (x, s), some (y, t), ⟨l, h1, h2, h3, hx', hs'⟩, ⟨m, g1, g2, g3, gx, gs⟩ => by
    have hl := fun x hx => (h1.lt x hx).1
    have hm := fun x hx => (g1.lt x hx).1
    rw [hx'] at h3
    rw [gx] at g3
    have h4 : ∀ v, l.count v = m.count v := fun v => Nat.le_antisymm (h1.least he hm g3 v) (g1.least he hl h3 v)
    rw [hx', gx, hs', gs, run_same hd hl hm h4]
    have h5 : cntD n l = cntD n m := by unfold cntD; simp only [h4]
    rw [h5]
/-- A vertex fires as often as is legal at once. -/
theorem fireD_add (j : Int) : fireD es n (fireD es n d v k) v j = fireD es n d v (k + j) := by
  unfold fireD
  apply List.map_congr_left
  intro u hu
  have hu := List.mem_range.1 hu
  have := fireD_get (es := es) (d := d) (v := v) (k := k) hu
  unfold fireD at this
  rw [this, Int.add_mul, Int.add_mul]
  split <;> omega
theorem Leg.times (he : ∀ a, tt es a a = 0) (hd : d.length = n) (h : Leg es n q d l) (hv : v < n) (hq : v ≠ q) (hp : 0 ≤ valS es n v) : ∀ t : Nat, (t : Int) * valS es n v ≤ (runD es n d l).getD v 0 → Leg es n q d (l ++ List.replicate t v) ∧ runD es n d (l ++ List.replicate t v) = fireD es n (runD es n d l) v t
  | 0, _ => by
    refine ⟨by simpa using h, ?_⟩
    rw [List.replicate_zero, List.append_nil]
    apply List.ext_getElem (by rw [runD_length hd, fireD_length])
    intro i h1 h2
    rw [runD_length hd] at h1
    have e2 := fireD_get (es := es) (d := runD es n d l) (v := v) (k := 0) h1
    simp only [Int.zero_mul, ite_self, Int.sub_zero, Int.add_zero] at e2
    rw [List.getD_eq_getElem?_getD, List.getD_eq_getElem?_getD, List.getElem?_eq_getElem (by rw [fireD_length]; exact h1), List.getElem?_eq_getElem (by rw [runD_length hd]; exact h1)] at e2
    simpa using e2.symm
  | t + 1, ht => by
    have e : ((t + 1 : Nat) : Int) * valS es n v = t * valS es n v + valS es n v := by rw [Int.natCast_add, Int.add_mul]; simp
    rw [e] at ht
    obtain ⟨h1, h2⟩ := Leg.times he hd h hv hq hp t (by omega)
    have h3 : l ++ List.replicate (t + 1) v = (l ++ List.replicate t v) ++ [v] := by rw [List.replicate_succ', List.append_assoc]
    rw [h3]
    refine ⟨.snoc h1 hv hq ?_, ?_⟩
    · rw [h2, fireD_get hv, if_pos rfl, he v]; omega
    · rw [runD_snoc, h2, fireD_add 1]; rfl
theorem Leg.nonneg (he : ∀ a b, 0 ≤ tt es a b) (h : Leg es n q d l) (hu : u < n) (h0 : 0 ≤ d.getD u 0) : 0 ≤ (runD es n d l).getD u 0 := by
  induction h with
  | nil => exact h0
  | @snoc l v h1 h2 h3 h4 ih =>
    rw [runD_snoc, fireD_get hu]
    have := he v u
    split
    · rename_i e; subst e; omega
    · omega
theorem Leg.sink (he : ∀ a b, 0 ≤ tt es a b) (h : Leg es n q d l) (hq : q < n) : d.getD q 0 ≤ (runD es n d l).getD q 0 := by
  induction h with
  | nil => exact Int.le_refl _
  | @snoc l v h1 h2 h3 h4 ih =>
    rw [runD_snoc, fireD_get hq, if_neg (fun e => h3 e.symm)]
    have := he v q
    omega
theorem fireD_sum (hv : v < n) : sumTo (fun u => (fireD es n d v k).getD u 0) n = sumTo (fun u => d.getD u 0) n := by
  rw [sumTo_congr (g := fun u => d.getD u 0 + (k * tt es v u + if u = v then -(k * valS es n v) else 0)) fun u hu => ?_, sumTo_add, sumTo_add, sumTo_mul, sumTo_at (fun _ => -(k * valS es n v)) v n, if_pos hv]
  · show _ + (k * valS es n v + -(k * valS es n v)) = _
    omega
  · rw [fireD_get hu]; split <;> omega
theorem runD_sum (hl : ∀ x ∈ l, x < n) : sumTo (fun u => (runD es n d l).getD u 0) n = sumTo (fun u => d.getD u 0) n := by
  induction l using snocRec with
  | h0 => rfl
  | h1 l x ih => rw [runD_snoc, fireD_sum (hl x (by simp)), ih fun y hy => hl y (by simp [hy])]
/-- Bounds of what a legal firing leaves. -/
theorem Leg.bound {M : Int} (he : ∀ a b, 0 ≤ tt es a b) (h : Leg es n q d l) (hM : 0 ≤ M) (h0 : ∀ v, v < n → v ≠ q → 0 ≤ d.getD v 0) (hb : ∀ v, v < n → -M ≤ d.getD v 0 ∧ d.getD v 0 ≤ M) : ∀ v, v < n → -M ≤ (runD es n d l).getD v 0 ∧ (runD es n d l).getD v 0 ≤ 2 * (n * M) := by
  have h1 : ∀ v, v < n → -M ≤ (runD es n d l).getD v 0 := by
    intro v hv
    by_cases hvq : v = q
    · subst hvq; have := h.sink he hv; have := hb v hv; omega
    · have := h.nonneg he hv (h0 v hv hvq); omega
  have h2 := sumTo_bd h1
  rw [runD_sum fun x hx => (h.lt x hx).1] at h2
  have h3 := sumTo_bd (f := fun u => -(d.getD u 0)) (M := M) (n := n) fun i hi => by have := hb i hi; omega
  have h4 : sumTo (fun u => -(d.getD u 0)) n = - sumTo (fun u => d.getD u 0) n := by
    have := sumTo_mul (-1) (fun u => d.getD u 0) n
    simpa using this
  intro v hv
  refine ⟨h1 v hv, ?_⟩
  have := h2.2 v hv
  omega
end
end Go.Proofs.YtplgbapbgcipdaaGreat

/-! Connectedness, as a bool. -/
namespace Go.Proofs.YtplgbapbgcipdaaGreat
open Go.RowKit

/-- Is a right graph connected? -/
def connB (n : Nat) (es : List E3) : Bool := decide ((partsTo es n n).1 = 1)
theorem connB_iff {n : Nat} {es : List E3} (hG : RightG n es) : connB n es = true ↔ AllConn n es := by
  rw [← partsTo_connected hG]; simp [connB]
theorem connB_joins {n : Nat} {es : List E3} {f : List Nat} (hG : RightG n es) (h : Joins es f) : connB n es = decide (rootsTo f n = 1) := by
  rw [Bool.eq_iff_iff, connB_iff hG, ← joins_connected h hG]; simp

end Go.Proofs.YtplgbapbgcipdaaGreat

/-! Tables: slices of slices of ints whose rows lie in blocks of their own. -/
namespace Go.Proofs.YtplgbapbgcipdaaGreat
open Go.RowKit

/-- A table of rows of n ints, each in a block of its own. -/
structure Grid (w : World) (base : Nat) (A : Option Addr) (c n : Nat) (gs : List Nat) (rows : List (List Int)) : Prop where
  outer : w.ownsRow base 25 1 (.slice A gs.length c) gs.length (gs.map fun g => .slice (some ⟨g, 0, none⟩) n n)
  len : rows.length = gs.length
  row : ∀ (i g : Nat) (r : List Int), gs[i]? = some g → rows[i]? = some r → Blk w g 3 (intCells r) ∧ r.length = n ∧ base ≤ g
  nodup : gs.Nodup

section
variable {w w' : World} {base : Nat} {A : Option Addr} {c n : Nat} {gs : List Nat} {rows : List (List Int)}
theorem Grid.nil_ (w : World) (base n : Nat) : Grid w base none 0 n [] [] := ⟨World.ownsRow_nil _ _ _ _, rfl, by simp, by simp⟩
theorem Grid.at_ (h : Grid w base A c n gs rows) {i : Nat} (hi : i < rows.length) : ∃ g r, gs[i]? = some g ∧ rows[i]? = some r ∧ Blk w g 3 (intCells r) ∧ r.length = n ∧ base ≤ g := by
  obtain ⟨r, hr⟩ := get_of_lt hi
  obtain ⟨g, hg⟩ := get_of_lt (xs := gs) (k := i) (by have := h.len; omega)
  obtain ⟨h1, h2, h3⟩ := h.row i g r hg hr
  exact ⟨g, r, hg, hr, h1, h2, h3⟩
theorem Grid.cell (h : Grid w base A c n gs rows) {i g : Nat} (hg : gs[i]? = some g) : ∃ b off, A = some ⟨b, off, none⟩ ∧ w.cell? ⟨b, off + i, none⟩ = some (.slice (some ⟨g, 0, none⟩) n n) := by
  obtain ⟨b, off, hA, _, hc⟩ := (Reads.of_own h.outer).at_ (k := i) (u := .slice (some ⟨g, 0, none⟩) n n) (by simp [hg])
  exact ⟨b, off, hA, hc⟩
theorem Grid.blk (h : Grid w base A c n gs rows) {g : Nat} (hg : g ∈ gs) : ∃ cs, Blk w g 3 cs ∧ base ≤ g := by
  obtain ⟨i, hi⟩ := List.getElem?_of_mem hg
  obtain ⟨r, hr⟩ := get_of_lt (xs := rows) (k := i) (by have := (List.getElem?_eq_some_iff.1 hi).1; have := h.len; omega)
  obtain ⟨h1, _, h3⟩ := h.row i g r hi hr
  exact ⟨_, h1, h3⟩
theorem Grid.kept (h : Grid w base A c n gs rows) (hA : ∀ k, blockOf A k → w'.heap[k]? = w.heap[k]?) (hg : ∀ g, g ∈ gs → w'.heap[g]? = w.heap[g]?) : Grid w' base A c n gs rows :=
  ⟨own_kept h.outer hA, h.len, fun i g r hi hr => by
    obtain ⟨h1, h2, h3⟩ := h.row i g r hi hr
    exact ⟨(hg g (List.mem_of_getElem? hi)).trans h1, h2, h3⟩, h.nodup⟩
theorem Grid.next (h : Grid w base A c n gs rows) (hb : Below w.heap.size w w') : Grid w' base A c n gs rows :=
  h.kept (fun k hk => hb.block k (own_lt h.outer hk).2) fun g hg => by
    obtain ⟨cs, hc, _⟩ := h.blk hg
    exact hb.block g hc.lt
theorem Grid.mono {base' : Nat} (h : Grid w base A c n gs rows) (hb : base' ≤ base) : Grid w base' A c n gs rows :=
  ⟨own_rebase h.outer fun k hk => Nat.le_trans hb (own_lt h.outer hk).1, h.len, fun i g r hi hr => by
    obtain ⟨h1, h2, h3⟩ := h.row i g r hi hr
    exact ⟨h1, h2, by omega⟩, h.nodup⟩
theorem Grid.drewN (h : Grid w base A c n gs rows) (m : Nat) : Grid (w.drewN m) base A c n gs rows := h.kept (fun _ _ => rfl) fun _ _ => rfl
theorem Grid.far (h : Grid w base A c n gs rows) {g : Nat} {t : TypeId} {cs : Array Value} (hg : Blk w g t cs) (h1 : 25 ≠ t) (h2 : 3 ≠ t) (o : Nat) (u : Value) : Grid (w.setCell ⟨g, o, none⟩ u) base A c n gs rows :=
  h.kept (fun k hk => Below.heap_setCell w ⟨g, o, none⟩ u k (own_blk h.outer hg h1 hk)) fun g' hg' => by
    obtain ⟨cs', hc, _⟩ := h.blk hg'
    exact Below.heap_setCell w ⟨g, o, none⟩ u g' (hc.ne_ hg h2)
/-- A store into a row. -/
theorem Grid.set (h : Grid w base A c n gs rows) {i j g : Nat} {r : List Int} (hi : gs[i]? = some g) (hr : rows[i]? = some r) (x : Int) : Grid (w.setCell ⟨g, j, none⟩ (.int .i64 x)) base A c n gs (rows.set i (r.set j x)) := by
  obtain ⟨h1, h2, h3⟩ := h.row i g r hi hr
  refine ⟨own_kept h.outer fun k hk => Below.heap_setCell w ⟨g, j, none⟩ _ k (own_blk h.outer h1 (by decide) hk), by rw [List.length_set]; exact h.len, fun i' g' r' hi' hr' => ?_, h.nodup⟩
  by_cases he : i' = i
  · subst he
    rw [hi] at hi'; cases hi'
    have hl : i' < rows.length := (List.getElem?_eq_some_iff.1 hr).1
    rw [List.getElem?_set_self hl] at hr'; cases hr'
    exact ⟨by rw [← intCells_set]; exact h1.set_ j _, by simpa using h2, h3⟩
  · rw [List.getElem?_set_ne (fun e => he e.symm)] at hr'
    obtain ⟨k1, k2, k3⟩ := h.row i' g' r' hi' hr'
    have hne : g' ≠ g := by
      rintro rfl
      obtain ⟨l1, e1⟩ := List.getElem?_eq_some_iff.1 hi
      obtain ⟨l2, e2⟩ := List.getElem?_eq_some_iff.1 hi'
      rcases Nat.lt_trichotomy i i' with hl | hl | hl
      · exact List.pairwise_iff_getElem.1 h.nodup i i' l1 l2 hl (e1.trans e2.symm)
      · exact he hl.symm
      · exact List.pairwise_iff_getElem.1 h.nodup i' i l2 l1 hl (e2.trans e1.symm)
    exact ⟨k1.far (by simpa using hne) _, k2, k3⟩
/-- One row more. -/
theorem Grid.push {A' : Option Addr} {c' g : Nat} {r : List Int} (h : Grid w base A c n gs rows) (hg : Blk w g 3 (intCells r)) (hr : r.length = n) (hb : base ≤ g) (hnew : ∀ g' ∈ gs, g' ≠ g)
    (hown : w'.ownsRow base 25 1 (.slice A' (gs.length + 1) c') (gs.length + 1) ((gs.map fun g => .slice (some ⟨g, 0, none⟩) n n) ++ [.slice (some ⟨g, 0, none⟩) n n]))
    (hgr : w.grownBy w' (Value.slice A gs.length c).ownBlock) : Grid w' base A' c' n (gs ++ [g]) (rows ++ [r]) := by
  have keep : ∀ {g' : Nat} {cs : Array Value}, Blk w g' 3 cs → Blk w' g' 3 cs := fun hc => hc.grown hgr (own_blk_ne h.outer hc (by decide))
  refine ⟨by rw [List.map_append, List.length_append]; exact hown, by simp [h.len], fun i g' r' hi hr' => ?_, ?_⟩
  · rcases Nat.lt_trichotomy i gs.length with hlt | rfl | hgt
    · rw [List.getElem?_append_left hlt] at hi
      rw [List.getElem?_append_left (by rw [h.len]; exact hlt)] at hr'
      obtain ⟨k1, k2, k3⟩ := h.row i g' r' hi hr'
      exact ⟨keep k1, k2, k3⟩
    · have e1 : g = g' := by simpa using hi
      have e2 : r = r' := by rw [← h.len] at hr'; simpa using hr'
      subst e1 e2
      exact ⟨keep hg, hr, hb⟩
    · rw [List.getElem?_eq_none (by simp; omega)] at hi; cases hi
  · rw [List.nodup_append]
    exact ⟨h.nodup, by simp, fun a ha b hb' => by rw [List.mem_singleton.1 hb']; exact hnew a ha⟩
theorem Grid.reads (h : Grid w base A c n gs rows) : RowsR w w.heap.size A rows :=
  ⟨gs.map fun g => .slice (some ⟨g, 0, none⟩) n n, by rw [h.len]; exact Reads.of_own h.outer, fun i r hi => by
    obtain ⟨g, hg⟩ := get_of_lt (xs := gs) (k := i) (by have := (List.getElem?_eq_some_iff.1 hi).1; have := h.len; omega)
    obtain ⟨h1, h2, h3⟩ := h.row i g r hg hi
    subst h2
    exact ⟨some ⟨g, 0, none⟩, r.length, by simp [hg], by simp [ints], fun _ => ⟨g, 0, rfl, h1.lt, fun j v hv => by rw [Nat.zero_add, h1.cell j]; simpa [intCells] using hv⟩⟩⟩
end

end Go.Proofs.YtplgbapbgcipdaaGreat

/-! What the frames of the graph laws share: a graph that came in, a list of ints of whatever name. -/
namespace Go.Proofs.YtplgbapbgcipdaaGreat
open Go.ChangeShapes Go.WideShapes Go.ChangeAt Go.RowKit Go.Deep

section
variable {H : Type} {enc : TypeId × Value → H} {W : World}

/-- A slice of ints, whatever its type is called. -/
theorem open_row {t : TypeId} (ht : Tryz.prog.underlying t = some (.slice 3)) {fuel : Nat} {cs : List Value} {x : DataW H × List MemPlace} (h : DataW.trod enc Tryz.prog W 0 (fun _ => true) true fuel t cs = some x) :
    ∃ (a : Option Addr) (cap : Nat) (xs : List Int), cs = [.slice a xs.length cap] ∧ xs.length ≤ maxLen ∧ Reads W W.heap.size 1 a xs.length (ints xs) ∧ ∀ x ∈ xs, (Lit.int .i64 x).wf = true := by
  obtain ⟨a, len, cap, zs, hcs, hz⟩ : ∃ a len cap zs, cs = [.slice a len cap] ∧ IsRow .i64 W a len cap zs := by
    rcases open_ints ht Tryz.underlying3 (by kernel_rfl) h with ⟨hcs, _⟩ | ⟨x, l, c, zs, hcs, _, hl, hm, hz, _, hcell, hwz⟩
    · exact ⟨none, 0, 0, [], hcs, .inl ⟨rfl, rfl, rfl, rfl⟩⟩
    · exact ⟨_, _, _, zs, hcs, .inr ⟨_, rfl, hl, hm, by simpa using hz, hcell, hwz⟩⟩
  obtain ⟨xs, rfl, hm, hr, hw⟩ := hz.reads
  exact ⟨a, cap, xs, hcs, hm, hr, hw⟩

set_option maxRecDepth 100000 in
/-- A graph. -/
theorem open_graph {fuel : Nat} {cs : List Value} {x : DataW H × List MemPlace} (h : DataW.trod enc Tryz.prog W 0 (fun _ => true) true fuel 24 cs = some x) :
    ∃ (n : Int) (a : Option Addr) (cap : Nat) (es : List E3), cs = [.int .i64 n, .slice a es.length cap] ∧ es.length ≤ maxLen ∧ Reads W W.heap.size 3 a es.length (edgeCells es) ∧ (Lit.int .i64 n).wf = true := by
  obtain ⟨ys, m, rfl, _, hlen, hys, hf⟩ := DataW.trod_struct Tryz.underlying24 h
  rw [show Tryz.prog.cellsOf 24 = 2 from by kernel_rfl] at hlen
  match cs, hlen with
  | [u0, u1], _ =>
    have f0 := hf 0 _ rfl
    have f1 := hf 1 _ rfl
    have hsz : ys.length = 2 := hys
    obtain ⟨y0, hy0⟩ : ∃ y, ys[0]? = some y := ⟨_, List.getElem?_eq_getElem (by omega)⟩
    obtain ⟨y1, hy1⟩ : ∃ y, ys[1]? = some y := ⟨_, List.getElem?_eq_getElem (by omega)⟩
    rw [hy0] at f0
    rw [hy1] at f1
    have ci : Tryz.prog.cellsOf 3 = 1 := by kernel_rfl
    have cl : Tryz.prog.cellsOf 22 = 1 := by kernel_rfl
    simp [ci, cl] at f0 f1
    obtain ⟨n, hn, _, hw⟩ := DataW.trod_int Tryz.underlying3 f0
    injection hn with hn
    subst hn
    rcases open_slice Tryz.underlying22 f1 with ⟨hcs, _⟩ | ⟨a, len, cap, k, fu, D, Pl, hcs, hb, hl, hm, hk, _, hx⟩
    · injection hcs with hcs
      subst hcs
      exact ⟨n, none, 0, [], rfl, by simp, Reads.nil_, hw⟩
    · injection hcs with hcs
      subst hcs
      have hk : k = cap := by simpa using hk
      have ce : Tryz.prog.cellsOf 73 = 3 := by kernel_rfl
      have each : ∀ i, i < len → ∃ e : E3, W.cell? (a.add (i * 3)) = some (.int .i64 e.1) ∧ W.cell? (a.add (i * 3 + 1)) = some (.int .i64 e.2.1) ∧ W.cell? (a.add (i * 3 + 2)) = some (.int .i64 e.2.2) := by
        intro i hi
        obtain ⟨cs', h1, h2⟩ := hx i (by omega)
        rw [ce] at h1
        obtain ⟨_, hlen, hcell⟩ := World.cells?_some h1
        obtain ⟨xs, k, _, _, _, hxl, hf⟩ := DataW.trod_struct Tryz.underlying73 h2
        match xs, hxl, cs', hlen with
        | [y0, y1, y2], _, [v0, v1, v2], _ =>
          have g0 := hf 0 _ rfl
          have g1 := hf 1 _ rfl
          have g2 := hf 2 _ rfl
          simp [ci] at g0 g1 g2
          have e0 := hcell 0 (by omega)
          have e1 := hcell 1 (by omega)
          have e2 := hcell 2 (by omega)
          rw [add_add] at e0 e1 e2
          obtain ⟨n0, q0, _, _⟩ := DataW.trod_int Tryz.underlying3 g0
          obtain ⟨n1, q1, _, _⟩ := DataW.trod_int Tryz.underlying3 g1
          obtain ⟨n2, q2, _, _⟩ := DataW.trod_int Tryz.underlying3 g2
          injection q0 with q0
          injection q1 with q1
          injection q2 with q2
          subst q0 q1 q2
          exact ⟨(n0, n1, n2), by simpa using e0, by simpa using e1, by simpa using e2⟩
      obtain ⟨F, hF⟩ := choose_lt each
      have hlen : ((List.range len).map F).length = len := by simp
      have hspot : 0 < len → ∃ b off, a = ⟨b, off, none⟩ ∧ b < W.heap.size := by
        intro h0
        have hc := (hF 0 h0).1
        obtain ⟨b, off, spot⟩ := a
        obtain rfl : spot = none := by simpa [Addr.add] using World.cell?_spot hc
        have := World.block_lt_of_cell? W _ hc
        exact ⟨b, off, rfl, by simpa [Addr.add] using this⟩
      refine ⟨n, some a, cap, (List.range len).map F, by rw [hlen], by rw [hlen]; omega, ⟨edgeCells_length _, fun hn => ?_⟩, hw⟩
      rw [hlen] at hn
      obtain ⟨b, off, rfl, hb2⟩ := hspot hn
      refine ⟨b, off, rfl, hb2, fun j u hu => ?_⟩
      have hj : j < (edgeCells ((List.range len).map F)).length := (List.getElem?_eq_some_iff.1 hu).1
      rw [edgeCells_length, hlen] at hj
      have hi : j / 3 < len := by omega
      have hget : ((List.range len).map F)[j / 3]? = some (F (j / 3)) := by rw [List.getElem?_map, List.getElem?_range hi]; rfl
      obtain ⟨k0, k1, k2⟩ := edgeCells_at hget
      obtain ⟨m0, m1, m2⟩ := hF _ hi
      rw [add_plain] at m0 m1 m2
      have h3 : j = j / 3 * 3 ∨ j = j / 3 * 3 + 1 ∨ j = j / 3 * 3 + 2 := by omega
      rcases h3 with h3 | h3 | h3
      · rw [h3, k0] at hu; injection hu with hu; rw [show off + j = off + (j / 3 * 3) from by omega, ← hu]; exact m0
      · rw [h3, k1] at hu; injection hu with hu; rw [show off + j = off + (j / 3 * 3 + 1) from by omega, ← hu]; exact m1
      · rw [h3, k2] at hu; injection hu with hu; rw [show off + j = off + (j / 3 * 3 + 2) from by omega, ← hu]; exact m2
end
end Go.Proofs.YtplgbapbgcipdaaGreat

