/-
  Texts of this claim, put together: CloneI, TreeS, LeastP, RowsD, Has, BelP, ConnB, Park3, HeapW, DelF, Sort.
-/
import Derived.Test.YtplgbapbgcipdaaGreatK06
import Derived.Test.YtplgbapbgcipdaaGreatK07
import Derived.Test.YtplgbapbgcipdaaGreatK09
import Derived.Deep.QuietTactic
import Derived.BigQuiet
import Derived.BigRegion
import Derived.Test.YtplgbapbgcipdaaGreatK10
import Derived.Test.YtplgbapbgcipdaaGreatK11
import Derived.Test.YtplgbapbgcipdaaGreatK02
import Derived.Test.YtplgbapbgcipdaaGreatK05
import Derived.Test.YtplgbapbgcipdaaGreatK03
import Derived.Deep.RegionLaw
import Derived.Deep.RegionHeld3
import Derived.Lib.SliceRun
import Derived.WalkKit
/-! slices.Clone on ints. -/
namespace Go.Proofs.YtplgbapbgcipdaaGreat
open Go.RowKit

set_option maxHeartbeats 400000 in
/-- slices.Clone on ints. -/
theorem clone_any (A : Option Addr) (c : Nat) (xs : List Int) (hn : xs.length ≤ 1048000) (w : World) (h : Reads w w.heap.size 1 A xs.length (ints xs)) :
    Calls Tryz.prog 114 #[.slice A xs.length c] w fun e w' =>
      ∃ A' c', e = .returned (.slice A' xs.length c') ∧ OwnI w' w.heap.size A' c' xs ∧ Below w.heap.size w w' := by
  have q22 : ∀ (w : World) (a : Option Addr) (n c n' c' : Nat), (binOp .eql 25 (.slice a n c) (.slice none n' c')).run Tryz.prog w = .ok (.bool a.isNone) w := fun w a n c n' c' => Lib.run_eql_slice_nil w _ _ a n c n' c' Tryz.underlying25
  rcases A with _ | ad
  · have hx : xs = [] := by
      rcases xs with _ | ⟨x, xs⟩
      · rfl
      · obtain ⟨_, _, h, _⟩ := h.2 (by simp)
        cases h
    subst hx
    go_enter Tryz.func114, Tryz.ntmps114
    go_wp2
    go_ret
    exact ⟨none, 0, rfl, OwnI.nil_ _ _, Below.refl _ _⟩
  · go_enter Tryz.func114, Tryz.ntmps114
    have hown0 : (w.alloc (.cells #[] 3)).ownsRow w.heap.size 3 1 (.slice (some ⟨w.heap.size, 0, none⟩) 0 0) 0 [] := World.ownsRow_made w #[] 0 (Nat.le_refl _) (by simp [maxLen]) (by simp)
    have hr := h.alloc (Nat.le_refl _) (.cells #[] 3)
    go_wp2_with (at_builtin; refine append_go rfl (.tmp 5) (.tmp 6) _ rfl w.heap.size 3 Tryz.underlying25 info_int rfl (by omega) (some ⟨w.heap.size, 0, none⟩) 0 0 [] rfl hown0 w.heap.size (ints xs) rfl hr (by simp [ints, Value.oneCell']) (by omega) (by simp) ?_; intro A' c' w' hown' _ hb' _)
    go_ret
    refine ⟨A', c', rfl, ?_, ((Below.refl _ _).alloc (Nat.le_refl _) _).trans hb'⟩
    rw [Nat.zero_add, List.nil_append] at hown'
    exact hown'

end Go.Proofs.YtplgbapbgcipdaaGreat

/-! Plain laws of paths in spanning trees: the parents found by rounds, a search in depth, and the cycle of a single edge. No program is in sight. -/
namespace Go.Proofs.YtplgbapbgcipdaaGreat

section
variable {E : List (Nat × Nat)} {t : List Nat} {n e f a b v w r : Nat}

/-! The parents, by rounds. -/
/-! The search in depth: behind 'from' (a single edge, or none). -/
/-! The cycle of a single edge. -/
end
end Go.Proofs.YtplgbapbgcipdaaGreat

/-! Plain laws of stabilization: legal firings, their order does not matter. No program is in sight. -/
namespace Go.Proofs.YtplgbapbgcipdaaGreat

/-- How many single edges lead from a vertex to others. -/
def valS (es : List (Int × Int × Int)) (n v : Nat) : Int := sumTo (fun w => tt es v w) n
/-- A vertex fires some times. -/
def fireD (es : List (Int × Int × Int)) (n : Nat) (d : List Int) (v : Nat) (k : Int) : List Int := (List.range n).map fun u => d.getD u 0 + k * tt es v u - if u = v then k * valS es n v else 0
def runD (es : List (Int × Int × Int)) (n : Nat) (d : List Int) (l : List Nat) : List Int := l.foldl (fun d v => fireD es n d v 1) d
def cntD (n : Nat) (l : List Nat) : List Int := (List.range n).map fun u => (l.count u : Int)
def CalmD (es : List (Int × Int × Int)) (n q : Nat) (d : List Int) : Prop := ∀ v, v < n → v ≠ q → d.getD v 0 < valS es n v
/-- Legal firings. -/
inductive Leg (es : List (Int × Int × Int)) (n q : Nat) (d : List Int) : List Nat → Prop
  | nil : Leg es n q d []
  | snoc {l : List Nat} {v : Nat} : Leg es n q d l → v < n → v ≠ q → valS es n v ≤ (runD es n d l).getD v 0 → Leg es n q d (l ++ [v])

theorem sumTo_at (g : Nat → Int) (v : Nat) : ∀ n, sumTo (fun i => if i = v then g i else 0) n = if v < n then g v else 0
  | 0 => by simp [sumTo]
  | n + 1 => by
    rw [sumTo, sumTo_at g v n]
    by_cases h : n = v
    · subst h; simp
    · rw [if_neg h]
      by_cases h2 : v < n
      · rw [if_pos h2, if_pos (by omega)]; omega
      · rw [if_neg h2, if_neg (by omega)]; rfl
theorem sumTo_mul (k : Int) (f : Nat → Int) : ∀ n, sumTo (fun i => k * f i) n = k * sumTo f n
  | 0 => by simp [sumTo]
  | n + 1 => by rw [sumTo, sumTo, sumTo_mul k f n, Int.mul_add]
theorem sumTo_bd {f : Nat → Int} {M : Int} : ∀ {n : Nat}, (∀ i, i < n → -M ≤ f i) → (- (n * M) ≤ sumTo f n) ∧ ∀ u, u < n → f u ≤ sumTo f n + n * M - M
  | 0, _ => by simp [sumTo]
  | n + 1, h => by
    obtain ⟨h1, h2⟩ := sumTo_bd (f := f) (M := M) (n := n) fun i hi => h i (by omega)
    have h3 := h n (by omega)
    rw [sumTo]
    have e : ((n + 1 : Nat) : Int) * M = n * M + M := by rw [Int.natCast_add, Int.add_mul]; simp
    rw [e]
    refine ⟨by omega, fun u hu => ?_⟩
    by_cases hun : u = n
    · subst hun; omega
    · have := h2 u (by omega); omega

section
variable {es : List (Int × Int × Int)} {n q : Nat} {d : List Int} {l : List Nat} {v u : Nat} {k : Int}
theorem fireD_length : (fireD es n d v k).length = n := by simp [fireD]
theorem fireD_get (hu : u < n) : (fireD es n d v k).getD u 0 = d.getD u 0 + k * tt es v u - if u = v then k * valS es n v else 0 := by
  rw [List.getD_eq_getElem?_getD]; simp [fireD, hu]
theorem cntD_length : (cntD n l).length = n := by simp [cntD]
theorem cntD_get (hu : u < n) : (cntD n l).getD u 0 = l.count u := by
  rw [List.getD_eq_getElem?_getD]; simp [cntD, hu]
theorem runD_snoc : runD es n d (l ++ [v]) = fireD es n (runD es n d l) v 1 := by simp [runD, List.foldl_append]
theorem runD_length (hd : d.length = n) : (runD es n d l).length = n := by
  induction l using snocRec with
  | h0 => exact hd
  | h1 l x ih => rw [runD_snoc, fireD_length]
theorem count_snoc (l : List Nat) (x w : Nat) : ((l ++ [x]).count w : Int) = l.count w + if w = x then 1 else 0 := by
  rw [List.count_append]
  by_cases h : w = x
  · subst h; simp
  · rw [if_neg h, List.count_eq_zero_of_not_mem (l := [x]) (by simpa using h)]; simp
theorem runD_get (hl : ∀ x ∈ l, x < n) (hu : u < n) : (runD es n d l).getD u 0 = d.getD u 0 + sumTo (fun w => (l.count w : Int) * tt es w u) n - l.count u * valS es n u := by
  induction l using snocRec with
  | h0 => simp [runD, sumTo_zero]
  | h1 l x ih =>
    have hx : x < n := hl x (by simp)
    rw [runD_snoc, fireD_get hu, ih fun y hy => hl y (by simp [hy])]
    have e1 : sumTo (fun w => ((l ++ [x]).count w : Int) * tt es w u) n = sumTo (fun w => (l.count w : Int) * tt es w u) n + tt es x u := by
      rw [sumTo_congr (g := fun w => (l.count w : Int) * tt es w u + if w = x then tt es w u else 0) fun w _ => ?_, sumTo_add, sumTo_at (fun w => tt es w u) x n, if_pos hx]
      rw [count_snoc, Int.add_mul]
      congr 1
      split <;> simp
    rw [e1, count_snoc]
    by_cases h : u = x
    · subst h; rw [if_pos rfl, if_pos rfl, Int.add_mul]; simp; omega
    · rw [if_neg h, if_neg h]; simp; omega
theorem Leg.lt (h : Leg es n q d l) : ∀ x ∈ l, x < n ∧ x ≠ q := by
  induction h with
  | nil => intro x hx; simp at hx
  | snoc h1 h2 h3 h4 ih =>
    intro x hx
    rcases List.mem_append.1 hx with hx | hx
    · exact ih x hx
    · rw [List.mem_singleton.1 hx]; exact ⟨h2, h3⟩
/-- The least script: legal firings are no more than those of any that leave a stable configuration. -/
theorem Leg.least (he : ∀ a b, 0 ≤ tt es a b) (h : Leg es n q d l) {m : List Nat} (hm : ∀ x ∈ m, x < n) (hc : CalmD es n q (runD es n d m)) : ∀ v, l.count v ≤ m.count v := by
  induction h with
  | nil => intro v; simp
  | @snoc l v h1 h2 h3 h4 ih =>
    intro u
    have hs := count_snoc l v u
    by_cases huv : u = v
    · subst huv
      rw [if_pos rfl] at hs
      have h5 := hc u h2 h3
      rw [runD_get hm h2] at h5
      rw [runD_get (fun x hx => (h1.lt x hx).1) h2] at h4
      have h6 : sumTo (fun w => (l.count w : Int) * tt es w u) n ≤ sumTo (fun w => (m.count w : Int) * tt es w u) n := sumTo_le fun w _ => Int.mul_le_mul_of_nonneg_right (by have := ih w; omega) (he w u)
      have h7 := ih u
      by_cases h8 : l.count u = m.count u
      · rw [h8] at h4; omega
      · omega
    · rw [if_neg huv] at hs
      have := ih u
      omega
theorem count_length (hl : ∀ x ∈ l, x < n) : (l.length : Int) = sumTo (fun w => (l.count w : Int)) n := by
  induction l using snocRec with
  | h0 => simp [sumTo_zero]
  | h1 l x ih =>
    have hx : x < n := hl x (by simp)
    rw [sumTo_congr (g := fun w => (l.count w : Int) + if w = x then 1 else 0) fun w _ => count_snoc l x w, sumTo_add, sumTo_at (fun _ => 1) x n, if_pos hx, ← ih fun y hy => hl y (by simp [hy])]
    simp
theorem Leg.least_length (he : ∀ a b, 0 ≤ tt es a b) (h : Leg es n q d l) {m : List Nat} (hm : ∀ x ∈ m, x < n) (hc : CalmD es n q (runD es n d m)) : l.length ≤ m.length := by
  have h1 := count_length fun x hx => (h.lt x hx).1
  have h2 := count_length hm
  have h3 : sumTo (fun w => (l.count w : Int)) n ≤ sumTo (fun w => (m.count w : Int)) n := sumTo_le fun w _ => by have := h.least he hm hc w; omega
  omega
theorem run_same (hd : d.length = n) {m : List Nat} (hl : ∀ x ∈ l, x < n) (hm : ∀ x ∈ m, x < n) (h : ∀ v, l.count v = m.count v) : runD es n d l = runD es n d m := by
  apply List.ext_getElem (by rw [runD_length hd, runD_length hd])
  intro i h1 h2
  rw [runD_length hd] at h1
  have e1 := runD_get (es := es) (d := d) hl h1
  have e2 := runD_get (es := es) (d := d) hm h1
  simp only [h] at e1
  rw [← e2] at e1
  rw [List.getD_eq_getElem?_getD, List.getD_eq_getElem?_getD, List.getElem?_eq_getElem (by rw [runD_length hd]; exact h1), List.getElem?_eq_getElem (by rw [runD_length hd]; exact h1)] at e1
  simpa using e1
/-- What stabilization leaves: the configuration with the odometer, or nothing if there are too many firings. -/
def StabR (es : List (Int × Int × Int)) (n q : Nat) (d : List Int) : Option (List Int × List Int) → Prop
  | some (x, s) => ∃ l, Leg es n q d l ∧ l.length ≤ 1048576 ∧ CalmD es n q x ∧ x = runD es n d l ∧ s = cntD n l
  | none => ∃ l, Leg es n q d l ∧ 1048576 < l.length
theorem StabR.unique (he : ∀ a b, 0 ≤ tt es a b) (hd : d.length = n) : ∀ {r r' : Option (List Int × List Int)}, StabR es n q d r → StabR es n q d r' → r = r'
  | none, none, _, _ => rfl
  | none, some (x, s), ⟨l, h1, h2⟩, ⟨m, g1, g2, g3, gx, gs⟩ => by
    have := h1.least_length he (fun x hx => (g1.lt x hx).1) (gx ▸ g3)
    omega
  | some (x, s), none, ⟨m, g1, g2, g3, gx, gs⟩, ⟨l, h1, h2⟩ => by
    have := h1.least_length he (fun x hx => (g1.lt x hx).1) (gx ▸ g3)
    omega
  | some (x, s), some (y, t), ⟨l, h1, h2, h3, hx', hs'⟩, ⟨m, g1, g2, g3, gx, gs⟩ => by
    have hl := fun x hx => (h1.lt x hx).1
    have hm := fun x hx => (g1.lt x hx).1
    rw [hx'] at h3
    rw [gx] at g3
    have h4 : ∀ v, l.count v = m.count v := fun v => Nat.le_antisymm (h1.least he hm g3 v) (g1.least he hl h3 v)
    rw [hx', gx, hs', gs, run_same hd hl hm h4]
    have h5 : cntD n l = cntD n m := by unfold cntD; simp only [h4]
    rw [h5]
/-- A vertex fires as often as is legal at once. -/
theorem fireD_add (j : Int) : fireD es n (fireD es n d v k) v j = fireD es n d v (k + j) := by
  unfold fireD
  apply List.map_congr_left
  intro u hu
  have hu := List.mem_range.1 hu
  have := fireD_get (es := es) (d := d) (v := v) (k := k) hu
  unfold fireD at this
  rw [this, Int.add_mul, Int.add_mul]
  split <;> omega
theorem Leg.times (he : ∀ a, tt es a a = 0) (hd : d.length = n) (h : Leg es n q d l) (hv : v < n) (hq : v ≠ q) (hp : 0 ≤ valS es n v) : ∀ t : Nat, (t : Int) * valS es n v ≤ (runD es n d l).getD v 0 → Leg es n q d (l ++ List.replicate t v) ∧ runD es n d (l ++ List.replicate t v) = fireD es n (runD es n d l) v t
  | 0, _ => by
    refine ⟨by simpa using h, ?_⟩
    rw [List.replicate_zero, List.append_nil]
    apply List.ext_getElem (by rw [runD_length hd, fireD_length])
    intro i h1 h2
    rw [runD_length hd] at h1
    have e2 := fireD_get (es := es) (d := runD es n d l) (v := v) (k := 0) h1
    simp only [Int.zero_mul, ite_self, Int.sub_zero, Int.add_zero] at e2
    rw [List.getD_eq_getElem?_getD, List.getD_eq_getElem?_getD, List.getElem?_eq_getElem (by rw [fireD_length]; exact h1), List.getElem?_eq_getElem (by rw [runD_length hd]; exact h1)] at e2
    simpa using e2.symm
  | t + 1, ht => by
    have e : ((t + 1 : Nat) : Int) * valS es n v = t * valS es n v + valS es n v := by rw [Int.natCast_add, Int.add_mul]; simp
    rw [e] at ht
    obtain ⟨h1, h2⟩ := Leg.times he hd h hv hq hp t (by omega)
    have h3 : l ++ List.replicate (t + 1) v = (l ++ List.replicate t v) ++ [v] := by rw [List.replicate_succ', List.append_assoc]
    rw [h3]
    refine ⟨.snoc h1 hv hq ?_, ?_⟩
    · rw [h2, fireD_get hv, if_pos rfl, he v]; omega
    · rw [runD_snoc, h2, fireD_add 1]; rfl
theorem Leg.nonneg (he : ∀ a b, 0 ≤ tt es a b) (h : Leg es n q d l) (hu : u < n) (h0 : 0 ≤ d.getD u 0) : 0 ≤ (runD es n d l).getD u 0 := by
  induction h with
  | nil => exact h0
  | @snoc l v h1 h2 h3 h4 ih =>
    rw [runD_snoc, fireD_get hu]
    have := he v u
    split
    · rename_i e; subst e; omega
    · omega
theorem Leg.sink (he : ∀ a b, 0 ≤ tt es a b) (h : Leg es n q d l) (hq : q < n) : d.getD q 0 ≤ (runD es n d l).getD q 0 := by
  induction h with
  | nil => exact Int.le_refl _
  | @snoc l v h1 h2 h3 h4 ih =>
    rw [runD_snoc, fireD_get hq, if_neg (fun e => h3 e.symm)]
    have := he v q
    omega
theorem fireD_sum (hv : v < n) : sumTo (fun u => (fireD es n d v k).getD u 0) n = sumTo (fun u => d.getD u 0) n := by
  rw [sumTo_congr (g := fun u => d.getD u 0 + (k * tt es v u + if u = v then -(k * valS es n v) else 0)) fun u hu => ?_, sumTo_add, sumTo_add, sumTo_mul, sumTo_at (fun _ => -(k * valS es n v)) v n, if_pos hv]
  · show _ + (k * valS es n v + -(k * valS es n v)) = _
    omega
  · rw [fireD_get hu]; split <;> omega
theorem runD_sum (hl : ∀ x ∈ l, x < n) : sumTo (fun u => (runD es n d l).getD u 0) n = sumTo (fun u => d.getD u 0) n := by
  induction l using snocRec with
  | h0 => rfl
  | h1 l x ih => rw [runD_snoc, fireD_sum (hl x (by simp)), ih fun y hy => hl y (by simp [hy])]
/-- Bounds of what a legal firing leaves. -/
theorem Leg.bound {M : Int} (he : ∀ a b, 0 ≤ tt es a b) (h : Leg es n q d l) (hM : 0 ≤ M) (h0 : ∀ v, v < n → v ≠ q → 0 ≤ d.getD v 0) (hb : ∀ v, v < n → -M ≤ d.getD v 0 ∧ d.getD v 0 ≤ M) : ∀ v, v < n → -M ≤ (runD es n d l).getD v 0 ∧ (runD es n d l).getD v 0 ≤ 2 * (n * M) := by
  have h1 : ∀ v, v < n → -M ≤ (runD es n d l).getD v 0 := by
    intro v hv
    by_cases hvq : v = q
    · subst hvq; have := h.sink he hv; have := hb v hv; omega
    · have := h.nonneg he hv (h0 v hv hvq); omega
  have h2 := sumTo_bd h1
  rw [runD_sum fun x hx => (h.lt x hx).1] at h2
  have h3 := sumTo_bd (f := fun u => -(d.getD u 0)) (M := M) (n := n) fun i hi => by have := hb i hi; omega
  have h4 : sumTo (fun u => -(d.getD u 0)) n = - sumTo (fun u => d.getD u 0) n := by
    have := sumTo_mul (-1) (fun u => d.getD u 0) n
    simpa using this
  intro v hv
  refine ⟨h1 v hv, ?_⟩
  have := h2.2 v hv
  omega
end
end Go.Proofs.YtplgbapbgcipdaaGreat

/-! Slices of divisors, of the call's own. -/
namespace Go.Proofs.YtplgbapbgcipdaaGreat
open Go.RowKit

theorem info_divs : (Tryz.prog.info? 26).map (fun i => (i.zero, i.size, i.bytes)) = some (some (.slice none 0 0), 1, 24) := by kernel_rfl
/-- The slice value is the call's own, and so is each of its rows; they read as the lists. -/
def OwnDivs (w : World) (base : Nat) (A : Option Addr) (c : Nat) (vs : List Value) (xss : List (List Int)) : Prop :=
  w.ownsRow base 26 1 (.slice A xss.length c) xss.length vs ∧ (∀ u ∈ vs, u.oneCell' = true) ∧
  ∀ (i : Nat) (xs : List Int), xss[i]? = some xs → ∃ A' c', vs[i]? = some (.slice A' xs.length c') ∧ OwnI w base A' c' xs
section
variable {w w' : World} {base : Nat} {A : Option Addr} {c : Nat} {vs : List Value} {xss : List (List Int)}
theorem OwnDivs.nil_ (w : World) (base : Nat) : OwnDivs w base none 0 [] [] := ⟨World.ownsRow_nil _ _ _ _, by simp, by simp⟩
theorem OwnDivs.len (h : OwnDivs w base A c vs xss) : vs.length = xss.length := by have := h.1.1; omega
theorem OwnDivs.kept (h : OwnDivs w base A c vs xss) (hk : ∀ k, rowBlock A vs k → w'.heap[k]? = w.heap[k]?) : OwnDivs w' base A c vs xss := by
  refine ⟨own_kept h.1 fun k hb => hk k (.inl hb), h.2.1, fun i xs hi => ?_⟩
  obtain ⟨A', c', hv, ho⟩ := h.2.2 i xs hi
  exact ⟨A', c', hv, own_kept ho fun k hb => hk k (.inr ⟨_, List.mem_of_getElem? hv, blockOf_own.2 hb⟩)⟩
theorem OwnDivs.lt (h : OwnDivs w base A c vs xss) {k : Nat} (hk : rowBlock A vs k) : base ≤ k ∧ k < w.heap.size := by
  rcases hk with hk | ⟨v, hv, hk⟩
  · exact own_lt h.1 hk
  · obtain ⟨i, hi⟩ := List.getElem?_of_mem hv
    have hil : i < xss.length := by
      have := (List.getElem?_eq_some_iff.1 hi).1
      rw [h.len] at this; exact this
    obtain ⟨xs, hxs⟩ := get_of_lt hil
    obtain ⟨A', c', hv', ho⟩ := h.2.2 i xs hxs
    rw [hi] at hv'
    injection hv' with hv'
    subst hv'
    exact own_lt ho (blockOf_own.1 hk)
theorem OwnDivs.next (h : OwnDivs w base A c vs xss) (hb : Below w.heap.size w w') : OwnDivs w' base A c vs xss := h.kept fun k hk => hb.block k (h.lt hk).2
theorem OwnDivs.mono {base' : Nat} (h : OwnDivs w base A c vs xss) (hb : base' ≤ base) : OwnDivs w base' A c vs xss := by
  refine ⟨own_rebase h.1 fun k hk => Nat.le_trans hb (own_lt h.1 hk).1, h.2.1, fun i xs hi => ?_⟩
  obtain ⟨A', c', hv, ho⟩ := h.2.2 i xs hi
  exact ⟨A', c', hv, ho.mono hb⟩
end

theorem OwnDivs.ne_blk {w : World} {base : Nat} {A : Option Addr} {c : Nat} {vs : List Value} {xss : List (List Int)} (h : OwnDivs w base A c vs xss) {g : Nat} {t : TypeId} {cs : Array Value} (hg : Blk w g t cs) (h1 : 26 ≠ t) (h2 : 3 ≠ t) {k : Nat} (hk : rowBlock A vs k) : k ≠ g := by
  rcases hk with hk | ⟨v, hv, hk⟩
  · exact own_blk h.1 hg h1 hk
  · obtain ⟨i, hi⟩ := List.getElem?_of_mem hv
    have hil : i < xss.length := by
      have := (List.getElem?_eq_some_iff.1 hi).1
      rw [h.len] at this; exact this
    obtain ⟨xs, hxs⟩ := get_of_lt hil
    obtain ⟨A', c', hv', ho⟩ := h.2.2 i xs hxs
    rw [hi] at hv'
    injection hv' with hv'
    subst hv'
    exact own_blk ho hg h2 (blockOf_own.1 hk)
theorem OwnDivs.set_blk {w : World} {base : Nat} {A : Option Addr} {c : Nat} {vs : List Value} {xss : List (List Int)} (h : OwnDivs w base A c vs xss) {g : Nat} {t : TypeId} {cs : Array Value} (hg : Blk w g t cs) (h1 : 26 ≠ t) (h2 : 3 ≠ t) (o : Nat) (u : Value) : OwnDivs (w.setCell ⟨g, o, none⟩ u) base A c vs xss :=
  h.kept fun _ hk => Below.heap_setCell w ⟨g, o, none⟩ u _ (h.ne_blk hg h1 h2 hk)
/-- One row more. -/
theorem OwnDivs.push {w w' : World} {base : Nat} {A A' A8 : Option Addr} {c c' c8 : Nat} {vs : List Value} {xss : List (List Int)} {x : List Int} (h : OwnDivs w base A c vs xss) (h8 : OwnI w base A8 c8 x)
    (hown : w'.ownsRow base 26 1 (.slice A' (xss.length + 1) c') (xss.length + 1) (vs ++ [.slice A8 x.length c8])) (hg : w.grownBy w' (Value.slice A xss.length c).ownBlock) : OwnDivs w' base A' c' (vs ++ [.slice A8 x.length c8]) (xss ++ [x]) := by
  have keep : ∀ {A1 : Option Addr} {c1 : Nat} {y : List Int}, OwnI w base A1 c1 y → OwnI w' base A1 c1 y := fun {A1 c1 y} ho => own_kept ho fun k hk => hg.block k (own_lt ho hk).2 fun e => by
    exact own_ne ho h.1 (by decide) hk (blockOf_own.1 e.symm) rfl
  refine ⟨by rw [List.length_append]; exact hown, ?_, fun i xs hi => ?_⟩
  · intro u hu
    rcases List.mem_append.1 hu with hu | hu
    · exact h.2.1 u hu
    · rw [List.mem_singleton.1 hu]; rfl
  · have hl := h.len
    rcases Nat.lt_trichotomy i xss.length with hlt | rfl | hgt
    · rw [List.getElem?_append_left hlt] at hi
      obtain ⟨A1, c1, hv, ho⟩ := h.2.2 i xs hi
      exact ⟨A1, c1, by rw [List.getElem?_append_left (by omega)]; exact hv, keep ho⟩
    · have : xs = x := by simpa using hi.symm
      subst this
      exact ⟨A8, c8, by rw [← hl]; simp, keep h8⟩
    · rw [List.getElem?_eq_none (by simp; omega)] at hi; cases hi

theorem OwnDivs.reads {w : World} {base : Nat} {A : Option Addr} {c : Nat} {vs : List Value} {xss : List (List Int)} (h : OwnDivs w base A c vs xss) : RowsR w w.heap.size A xss :=
  ⟨vs, Reads.of_own h.1, fun i xs hi => by
    obtain ⟨A', c', hv, ho⟩ := h.2.2 i xs hi
    exact ⟨A', c', hv, ho.reads⟩⟩
/-- The argument of a round is a slice of its own. -/
def ArgD (xs : List Int) (args : Array Value) (O : Nat → Prop) (W : World) : Prop := ∃ A c, args = #[.slice A xs.length c] ∧ OwnI W 0 A c xs ∧ ∀ k, blockOf A k → O k
end Go.Proofs.YtplgbapbgcipdaaGreat

/-! slices.Index and Contains on ints (from XLegal, for programs without firing). -/
namespace Go.Proofs.YtplgbapbgcipdaaGreat
open Go.RowKit

end Go.Proofs.YtplgbapbgcipdaaGreat

/-! Plain: what ref24.Below has built on its way. -/
namespace Go.Proofs.YtplgbapbgcipdaaGreat

end Go.Proofs.YtplgbapbgcipdaaGreat

/-! Connectedness, as a bool. -/
namespace Go.Proofs.YtplgbapbgcipdaaGreat
open Go.RowKit

/-- Is a right graph connected? -/
def connB (n : Nat) (es : List E3) : Bool := decide ((partsTo es n n).1 = 1)
theorem connB_iff {n : Nat} {es : List E3} (hG : RightG n es) : connB n es = true ↔ AllConn n es := by
  rw [← partsTo_connected hG]; simp [connB]
theorem connB_joins {n : Nat} {es : List E3} {f : List Nat} (hG : RightG n es) (h : Joins es f) : connB n es = decide (rootsTo f n = 1) := by
  rw [Bool.eq_iff_iff, connB_iff hG, ← joins_connected h hG]; simp

end Go.Proofs.YtplgbapbgcipdaaGreat

/-! The contracts of slices.Index on bools, Rotation, and the reference's SameInts and SameLists. -/
namespace Go.Proofs.YtplgbapbgcipdaaGreat
open Go.RowKit

def boolCells (l : List Bool) : List Value := l.map Value.bool
theorem boolCells_at {l : List Bool} {k : Nat} {b : Bool} (h : l[k]? = some b) : (boolCells l)[k]? = some (.bool b) := by simp [boolCells, h]

end Go.Proofs.YtplgbapbgcipdaaGreat

/-! container/heap over treebijection.queue: the methods, sifting, Push and Pop. -/
namespace Go.Proofs.YtplgbapbgcipdaaGreat
open Go.RowKit

theorem UpI.hpl {H : List Int} {n j : Nat} (h : UpI H n j) : j < n := h.lt
end Go.Proofs.YtplgbapbgcipdaaGreat

/-! slices.DeleteFunc on ints, with a function that has captured one variable: the row of the call's own is cut to what is kept. -/
namespace Go.Proofs.YtplgbapbgcipdaaGreat
open Go.RowKit

theorem OwnI.cut {w : World} {base c g : Nat} {xs : List Int} (h : OwnI w base (some ⟨g, 0, none⟩) c xs) (k : Nat) (hk : k ≤ xs.length) : OwnI w base (some ⟨g, 0, none⟩) c (xs.take k) := by
  obtain ⟨h1, h2⟩ := h
  have e : (xs.take k).length = k := by simp; omega
  rcases h2 with ⟨h2, h3⟩ | ⟨g', cap, cur, hv, hg, hh, r1, r2, r3, r4⟩
  · simp at h2
  · injection hv with hv1 hv2 hv3
    refine ⟨by rw [ints_length]; simp, .inr ⟨g', cap, cur, by rw [hv1, hv3], hg, hh, by omega, r2, r3, ?_⟩⟩
    rw [e, Nat.mul_one]
    rw [Nat.mul_one] at r4
    have : (cur.toList.take xs.length).take k = (ints xs).take k := by rw [r4]
    rw [List.take_take, Nat.min_eq_left hk] at this
    rw [this]; simp [ints, List.map_take]
theorem OwnI.zero {base c g : Nat} {xs : List Int} : ∀ (n o : Nat) {w : World}, OwnI w base (some ⟨g, 0, none⟩) c xs → xs.length ≤ o → OwnI (w.setCells g o (List.replicate n (.int .i64 0))) base (some ⟨g, 0, none⟩) c xs
  | 0, _, _, h, _ => h
  | n + 1, o, w, h, ho => by
    rw [List.replicate_succ]
    refine OwnI.zero n (o + 1) (w := w.setCell ⟨g, o, none⟩ (.int .i64 0)) ?_ (by omega)
    have := h.put o 0
    rw [List.set_eq_of_length_le ho] at this
    exact this
theorem OwnI.cap {w : World} {base c g : Nat} {xs : List Int} (h : OwnI w base (some ⟨g, 0, none⟩) c xs) : xs.length ≤ c := by
  obtain ⟨h1, h2⟩ := h
  rcases h2 with ⟨h2, h3⟩ | ⟨g', cap, cur, hv, hg, hh, r1, r2, r3, r4⟩
  · simp at h2
  · injection hv with hv1 hv2 hv3
    omega

/-- The filter's own invariant: i elements are kept out of the first j. -/
def Kept (p : Int → Bool) (xs ks : List Int) (i j : Nat) : Prop := ks.length = xs.length ∧ i < j ∧ j ≤ xs.length ∧ ks.take i = (xs.take j).filter (fun x => !p x) ∧ ∀ q, j ≤ q → ks[q]? = xs[q]?
theorem Kept.start {p : Int → Bool} {xs : List Int} {k : Nat} {x : Int} (h1 : xs[k]? = some x) (h2 : p x = true) (h3 : ∀ x ∈ xs.take k, p x = false) : Kept p xs xs k (k + 1) := by
  obtain ⟨hk, e⟩ := List.getElem?_eq_some_iff.1 h1
  refine ⟨rfl, by omega, by omega, ?_, fun _ _ => rfl⟩
  rw [take_snoc h1, List.filter_append]
  have : (xs.take k).filter (fun x => !p x) = xs.take k := List.filter_eq_self.2 fun x hx => by simp [h3 x hx]
  rw [this]; simp [h2]
theorem Kept.skip {p : Int → Bool} {xs ks : List Int} {i j : Nat} {x : Int} (h : Kept p xs ks i j) (h1 : xs[j]? = some x) (h2 : p x = true) : Kept p xs ks i (j + 1) := by
  obtain ⟨hk, e⟩ := List.getElem?_eq_some_iff.1 h1
  obtain ⟨a, b, c, d, f⟩ := h
  refine ⟨a, by omega, by omega, ?_, fun q hq => f q (by omega)⟩
  rw [take_snoc h1, List.filter_append, d]; simp [h2]
theorem Kept.keep {p : Int → Bool} {xs ks : List Int} {i j : Nat} {x : Int} (h : Kept p xs ks i j) (h1 : xs[j]? = some x) (h2 : p x = false) : Kept p xs (ks.set i x) (i + 1) (j + 1) := by
  obtain ⟨hk, e⟩ := List.getElem?_eq_some_iff.1 h1
  obtain ⟨a, b, c, d, f⟩ := h
  refine ⟨by simpa using a, by omega, by omega, ?_, fun q hq => ?_⟩
  · have hs : (ks.set i x)[i]? = some x := by rw [List.getElem?_set_self (by omega)]
    rw [take_snoc hs, List.take_set_of_le (Nat.le_refl _), d, take_snoc h1, List.filter_append]; simp [h2]
  · rw [List.getElem?_set_ne (by omega)]; exact f q (by omega)
theorem Kept.done {p : Int → Bool} {xs ks : List Int} {i : Nat} (h : Kept p xs ks i xs.length) : ks.take i = xs.filter (fun x => !p x) := by
  obtain ⟨a, b, c, d, f⟩ := h
  rw [d, List.take_length]
end Go.Proofs.YtplgbapbgcipdaaGreat

/-! slices.Sort on at most 12 ints of the call's own: they come out ascending. -/
namespace Go.Proofs.YtplgbapbgcipdaaGreat
open Go.RowKit

/-- All pairs up to i are in order, but for those whose second one is j. -/
def Srt (L : List Int) (i j : Nat) : Prop := ∀ p q, p < q → q ≤ i → q ≠ j → ∀ x y, L[p]? = some x → L[q]? = some y → x ≤ y
theorem Srt.done {L : List Int} {i m : Nat} {a b : Int} (hs : Srt L i (m + 1)) (_hi : m + 1 ≤ i) (ha : L[m]? = some a) (hb : L[m + 1]? = some b) (hab : a ≤ b) : Srt L i (i + 1) := by
  intro p q hpq hq _ x y hx hy
  by_cases h2 : q = m + 1
  · subst h2
    rw [hb] at hy; injection hy with hy; subst hy
    by_cases h3 : p = m
    · subst h3; rw [ha] at hx; injection hx with hx; omega
    · have := hs p m (by omega) (by omega) (by omega) x a hx ha; omega
  · exact hs p q hpq hq h2 x y hx hy
theorem Srt.zero {L : List Int} {i : Nat} (hs : Srt L i 0) : Srt L i (i + 1) := fun p q hpq hq _ x y hx hy => hs p q hpq hq (by omega) x y hx hy
theorem Srt.next {L : List Int} {i : Nat} (hs : Srt L i (i + 1)) : Srt L (i + 1) (i + 1) := fun p q hpq hq hne x y hx hy => hs p q hpq (by omega) hne x y hx hy

end Go.Proofs.YtplgbapbgcipdaaGreat

