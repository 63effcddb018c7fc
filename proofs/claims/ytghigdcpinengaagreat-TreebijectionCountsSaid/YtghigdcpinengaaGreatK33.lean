/-
  Texts of this claim, put together: PushP, LeastP, PileL, SFire, SNext, Settle.
-/
import Derived.Test.YtghigdcpinengaaGreatK24
import Derived.Test.YtghigdcpinengaaGreatK09
import Derived.Test.YtghigdcpinengaaGreatK31
import Derived.Test.YtghigdcpinengaaGreatK29
import Derived.Test.YtghigdcpinengaaGreatK32
import Derived.Deep.RegionHeld3
/-! Plain laws of pushing: what one round does to the chips, as the program and as the reference count it. No program is in sight. -/
namespace Go.Proofs.YtghigdcpinengaaGreat

/-- More at a place of a list. -/
def addAt (xs : List Int) (i : Nat) (d : Int) : List Int := xs.set i (xs.getD i 0 + d)
theorem addAt_length (xs : List Int) (i : Nat) (d : Int) : (addAt xs i d).length = xs.length := by simp [addAt]
/-- All numbers of a list are from -M to M. -/
def Bd (M : Int) (xs : List Int) : Prop := ∀ x ∈ xs, -M ≤ x ∧ x ≤ M
theorem Bd.at_ {M : Int} {xs : List Int} (h : Bd M xs) {i : Nat} {x : Int} (hi : xs[i]? = some x) : -M ≤ x ∧ x ≤ M := h x (List.mem_of_getElem? hi)
theorem Bd.getD_ {M : Int} {xs : List Int} (h : Bd M xs) (hM : 0 ≤ M) (i : Nat) : -M ≤ xs.getD i 0 ∧ xs.getD i 0 ≤ M := by
  rw [List.getD_eq_getElem?_getD]
  cases he : xs[i]? with
  | none => simp; omega
  | some x => exact h.at_ he
theorem Bd.mono {M M' : Int} {xs : List Int} (h : Bd M xs) (hm : M ≤ M') : Bd M' xs := fun x hx => by have := h x hx; omega
theorem Bd.set_ {M : Int} {xs : List Int} (h : Bd M xs) (i : Nat) {y : Int} (hy : -M ≤ y ∧ y ≤ M) : Bd M (xs.set i y) := by
  intro x hx
  rcases List.mem_or_eq_of_mem_set hx with h1 | h1
  · exact h x h1
  · subst h1; exact hy
theorem Bd.addAt_ {M D : Int} {xs : List Int} (h : Bd M xs) (hM : 0 ≤ M) (i : Nat) {d : Int} (hd : -D ≤ d ∧ d ≤ D) (hD : 0 ≤ D) : Bd (M + D) (addAt xs i d) := by
  unfold addAt
  have := h.getD_ hM i
  exact (h.mono (by omega)).set_ i ⟨by omega, by omega⟩

/-- What a vertex gives to the burnt ones below k. -/
def giveTo (es : List (Int × Int × Int)) (b : List Nat) (v : Nat) (xs : List Int) : Nat → List Int
  | 0 => xs
  | k + 1 => if k ∈ b then addAt (giveTo es b v xs k) k (tt es v k) else giveTo es b v xs k
def fireV (es : List (Int × Int × Int)) (b : List Nat) (n : Nat) (xs : List Int) (v : Nat) : List Int := giveTo es b v (addAt xs v (-(flmTo es b v n))) n
def fireL (es : List (Int × Int × Int)) (b : List Nat) (n : Nat) (xs : List Int) (l : List Nat) : List Int := l.foldl (fireV es b n) xs
def bumpL (xs : List Int) (l : List Nat) : List Int := l.foldl (fun s v => addAt s v 1) xs
section
variable {es : List (Int × Int × Int)} {b : List Nat} {n v : Nat} {xs : List Int} {N : Int}
theorem giveTo_length (k : Nat) : (giveTo es b v xs k).length = xs.length := by
  induction k with
  | zero => rfl
  | succ k ih => rw [giveTo]; split <;> simp [addAt_length, ih]
theorem giveTo_bd (hok : ∀ e ∈ es, okE N e) {M : Int} (hM : 0 ≤ M) (h : Bd M xs) (k : Nat) : Bd (M + 50 * k) (giveTo es b v xs k) := by
  induction k with
  | zero => simpa [giveTo] using h
  | succ k ih =>
    have ht := tt_bd hok v k
    rw [giveTo]
    split
    · exact (ih.addAt_ (by omega) k (D := 50) ⟨by omega, by omega⟩ (by omega)).mono (by push_cast; omega)
    · exact ih.mono (by push_cast; omega)
theorem fireV_length : (fireV es b n xs v).length = xs.length := by unfold fireV; rw [giveTo_length, addAt_length]
theorem fireV_bd (hok : ∀ e ∈ es, okE N e) (hn : n ≤ 12) {M : Int} (hM : 0 ≤ M) (h : Bd M xs) : Bd (M + 1200) (fireV es b n xs v) := by
  unfold fireV
  have hf := flmTo_bd hok b v n
  exact (giveTo_bd hok (M := M + 600) (by omega) (h.addAt_ hM v (D := 600) ⟨by omega, by omega⟩ (by omega)) n).mono (by omega)
theorem fireL_snoc (l : List Nat) (v : Nat) : fireL es b n xs (l ++ [v]) = fireV es b n (fireL es b n xs l) v := by simp [fireL, List.foldl_append]
theorem fireL_length (l : List Nat) : (fireL es b n xs l).length = xs.length := by
  induction l using snocRec with
  | h0 => rfl
  | h1 l x ih => rw [fireL_snoc, fireV_length, ih]
theorem fireL_bd (hok : ∀ e ∈ es, okE N e) (hn : n ≤ 12) {M : Int} (hM : 0 ≤ M) (h : Bd M xs) (l : List Nat) : Bd (M + 1200 * l.length) (fireL es b n xs l) := by
  induction l using snocRec with
  | h0 => simpa [fireL] using h
  | h1 l x ih =>
    rw [fireL_snoc]
    exact (fireV_bd hok hn (M := M + 1200 * l.length) (by omega) ih).mono (by simp; omega)
theorem bumpL_snoc (l : List Nat) (v : Nat) : bumpL xs (l ++ [v]) = addAt (bumpL xs l) v 1 := by simp [bumpL, List.foldl_append]
theorem bumpL_length (l : List Nat) : (bumpL xs l).length = xs.length := by
  induction l using snocRec with
  | h0 => rfl
  | h1 l x ih => rw [bumpL_snoc, addAt_length, ih]
theorem bumpL_bd {M : Int} (hM : 0 ≤ M) (h : Bd M xs) (l : List Nat) : Bd (M + l.length) (bumpL xs l) := by
  induction l using snocRec with
  | h0 => simpa [bumpL] using h
  | h1 l x ih =>
    rw [bumpL_snoc]
    exact (Bd.addAt_ (M := M + l.length) ih (by omega) x (D := 1) (d := 1) ⟨by omega, by omega⟩ (by omega)).mono (by simp; omega)
end

/-- What one round makes of the chips. -/
def stepC (es : List (Int × Int × Int)) (n q : Nat) (c : List Int) : List Int := (fireL es (burntL es c n q) n c (restL n (burntL es c n q))).set q 0
def leftC (es : List (Int × Int × Int)) (n q : Nat) (c : List Int) : List Nat := restL n (burntL es c n q)
theorem stepC_length (es : List (Int × Int × Int)) (n q : Nat) (c : List Int) : (stepC es n q c).length = c.length := by
  unfold stepC; rw [List.length_set, fireL_length]
theorem leftC_len (es : List (Int × Int × Int)) (n q : Nat) (c : List Int) : (leftC es n q c).length ≤ n := by
  unfold leftC restL; exact Nat.le_trans (List.length_filter_le _ _) (by simp)
theorem stepC_bd {es : List (Int × Int × Int)} {N : Int} (hok : ∀ e ∈ es, okE N e) {n q : Nat} (hn : n ≤ 12) {c : List Int} {M : Int} (hM : 0 ≤ M) (h : Bd M c) : Bd (M + 14400) (stepC es n q c) := by
  unfold stepC
  have hl := leftC_len es n q c
  unfold leftC at hl
  exact ((fireL_bd hok hn hM h _).mono (by omega)).set_ q ⟨by omega, by omega⟩

/-- All rounds: none if there are too many. -/
inductive PushR (es : List (Int × Int × Int)) (n q : Nat) : List Int → List Int → Nat → Option (List Int × List Int) → Prop
  | done {c s m} : leftC es n q c = [] → PushR es n q c s m (some (c, s))
  | over {c s m} : leftC es n q c ≠ [] → 1048576 < m + (leftC es n q c).length → PushR es n q c s m none
  | step {c s m r} : leftC es n q c ≠ [] → m + (leftC es n q c).length ≤ 1048576 → PushR es n q (stepC es n q c) (bumpL s (leftC es n q c)) (m + (leftC es n q c).length) r → PushR es n q c s m r
theorem PushR.total (es : List (Int × Int × Int)) (n q : Nat) (f : Nat) : ∀ c s m, 1048576 < m + f → ∃ r, PushR es n q c s m r := by
  induction f with
  | zero =>
    intro c s m h
    by_cases h1 : leftC es n q c = []
    · exact ⟨_, .done h1⟩
    · exact ⟨_, .over h1 (by omega)⟩
  | succ f ih =>
    intro c s m h
    by_cases h1 : leftC es n q c = []
    · exact ⟨_, .done h1⟩
    · have hp := List.length_pos_iff.2 h1
      by_cases h2 : m + (leftC es n q c).length ≤ 1048576
      · obtain ⟨r, hr⟩ := ih (stepC es n q c) (bumpL s (leftC es n q c)) (m + (leftC es n q c).length) (by omega)
        exact ⟨r, .step h1 h2 hr⟩
      · exact ⟨_, .over h1 (by omega)⟩
theorem PushR.over_inv {es : List (Int × Int × Int)} {n q : Nat} {c s : List Int} {m : Nat} {r} (h : PushR es n q c s m r) (h1 : leftC es n q c ≠ []) (h2 : 1048576 < m + (leftC es n q c).length) : r = none := by
  cases h with
  | done h3 => exact absurd h3 h1
  | over _ _ => rfl
  | step _ h3 _ => omega
theorem PushR.step_inv {es : List (Int × Int × Int)} {n q : Nat} {c s : List Int} {m : Nat} {r} (h : PushR es n q c s m r) (h1 : leftC es n q c ≠ []) (h2 : m + (leftC es n q c).length ≤ 1048576) : PushR es n q (stepC es n q c) (bumpL s (leftC es n q c)) (m + (leftC es n q c).length) r := by
  cases h with
  | done h3 => exact absurd h3 h1
  | over _ h3 => omega
  | step _ _ h3 => exact h3

def sumTo (f : Nat → Int) : Nat → Int
  | 0 => 0
  | k + 1 => sumTo f k + f k
theorem sumTo_congr {f g : Nat → Int} : ∀ {k : Nat}, (∀ i, i < k → f i = g i) → sumTo f k = sumTo g k
  | 0, _ => rfl
  | k + 1, h => by rw [sumTo, sumTo, sumTo_congr (k := k) fun i hi => h i (by omega), h k (by omega)]
section
variable {es : List (Int × Int × Int)} {s : List Int} {n v : Nat} {xs : List Int} {N : Int}
end
end Go.Proofs.YtghigdcpinengaaGreat

/-! Plain laws of pushing: what a script has moved; there is one superstable configuration at most that a script leads to. No program is in sight. -/
namespace Go.Proofs.YtghigdcpinengaaGreat

theorem sumTo_add (f g : Nat → Int) : ∀ k, sumTo (fun i => f i + g i) k = sumTo f k + sumTo g k
  | 0 => rfl
  | k + 1 => by rw [sumTo, sumTo, sumTo, sumTo_add f g k]; omega
theorem sumTo_zero {f : Nat → Int} {k : Nat} (h : ∀ i, i < k → f i = 0) : sumTo f k = 0 := by
  induction k with
  | zero => rfl
  | succ k ih => rw [sumTo, ih fun i hi => h i (by omega), h k (by omega)]; rfl
theorem sumTo_le {f g : Nat → Int} {k : Nat} (h : ∀ i, i < k → f i ≤ g i) : sumTo f k ≤ sumTo g k := by
  induction k with
  | zero => exact Int.le_refl _
  | succ k ih => rw [sumTo, sumTo]; have := ih fun i hi => h i (by omega); have := h k (by omega); omega
end Go.Proofs.YtghigdcpinengaaGreat

/-! Plain laws of pushing: how often vertices fire. No program is in sight. -/
namespace Go.Proofs.YtghigdcpinengaaGreat

section
variable {es : List (Int × Int × Int)} {n q : Nat} {c d s : List Int} {T : Int}
end
end Go.Proofs.YtghigdcpinengaaGreat

/-! Plain laws of stabilization: legal firings, their order does not matter. No program is in sight. -/
namespace Go.Proofs.YtghigdcpinengaaGreat

/-- How many single edges lead from a vertex to others. -/
def valS (es : List (Int × Int × Int)) (n v : Nat) : Int := sumTo (fun w => tt es v w) n
/-- A vertex fires some times. -/
def fireD (es : List (Int × Int × Int)) (n : Nat) (d : List Int) (v : Nat) (k : Int) : List Int := (List.range n).map fun u => d.getD u 0 + k * tt es v u - if u = v then k * valS es n v else 0
def runD (es : List (Int × Int × Int)) (n : Nat) (d : List Int) (l : List Nat) : List Int := l.foldl (fun d v => fireD es n d v 1) d
def CalmD (es : List (Int × Int × Int)) (n q : Nat) (d : List Int) : Prop := ∀ v, v < n → v ≠ q → d.getD v 0 < valS es n v
/-- Legal firings. -/
inductive Leg (es : List (Int × Int × Int)) (n q : Nat) (d : List Int) : List Nat → Prop
  | nil : Leg es n q d []
  | snoc {l : List Nat} {v : Nat} : Leg es n q d l → v < n → v ≠ q → valS es n v ≤ (runD es n d l).getD v 0 → Leg es n q d (l ++ [v])

theorem sumTo_at (g : Nat → Int) (v : Nat) : ∀ n, sumTo (fun i => if i = v then g i else 0) n = if v < n then g v else 0
  | 0 => by simp [sumTo]
  | n + 1 => by
    rw [sumTo, sumTo_at g v n]
    by_cases h : n = v
    · subst h; simp
    · rw [if_neg h]
      by_cases h2 : v < n
      · rw [if_pos h2, if_pos (by omega)]; omega
      · rw [if_neg h2, if_neg (by omega)]; rfl
section
variable {es : List (Int × Int × Int)} {n q : Nat} {d : List Int} {l : List Nat} {v u : Nat} {k : Int}
theorem fireD_length : (fireD es n d v k).length = n := by simp [fireD]
theorem fireD_get (hu : u < n) : (fireD es n d v k).getD u 0 = d.getD u 0 + k * tt es v u - if u = v then k * valS es n v else 0 := by
  rw [List.getD_eq_getElem?_getD]; simp [fireD, hu]
theorem runD_snoc : runD es n d (l ++ [v]) = fireD es n (runD es n d l) v 1 := by simp [runD, List.foldl_append]
theorem runD_length (hd : d.length = n) : (runD es n d l).length = n := by
  induction l using snocRec with
  | h0 => exact hd
  | h1 l x ih => rw [runD_snoc, fireD_length]
theorem count_snoc (l : List Nat) (x w : Nat) : ((l ++ [x]).count w : Int) = l.count w + if w = x then 1 else 0 := by
  rw [List.count_append]
  by_cases h : w = x
  · subst h; simp
  · rw [if_neg h, List.count_eq_zero_of_not_mem (l := [x]) (by simpa using h)]; simp
theorem runD_get (hl : ∀ x ∈ l, x < n) (hu : u < n) : (runD es n d l).getD u 0 = d.getD u 0 + sumTo (fun w => (l.count w : Int) * tt es w u) n - l.count u * valS es n u := by
  induction l using snocRec with
  | h0 => simp [runD, sumTo_zero]
  | h1 l x ih =>
    have hx : x < n := hl x (by simp)
    rw [runD_snoc, fireD_get hu, ih fun y hy => hl y (by simp [hy])]
    have e1 : sumTo (fun w => ((l ++ [x]).count w : Int) * tt es w u) n = sumTo (fun w => (l.count w : Int) * tt es w u) n + tt es x u := by
      rw [sumTo_congr (g := fun w => (l.count w : Int) * tt es w u + if w = x then tt es w u else 0) fun w _ => ?_, sumTo_add, sumTo_at (fun w => tt es w u) x n, if_pos hx]
      rw [count_snoc, Int.add_mul]
      congr 1
      split <;> simp
    rw [e1, count_snoc]
    by_cases h : u = x
    · subst h; rw [if_pos rfl, if_pos rfl, Int.add_mul]; simp; omega
    · rw [if_neg h, if_neg h]; simp; omega
theorem Leg.lt (h : Leg es n q d l) : ∀ x ∈ l, x < n ∧ x ≠ q := by
  induction h with
  | nil => intro x hx; simp at hx
  | snoc h1 h2 h3 h4 ih =>
    intro x hx
    rcases List.mem_append.1 hx with hx | hx
    · exact ih x hx
    · rw [List.mem_singleton.1 hx]; exact ⟨h2, h3⟩
/-- The least script: legal firings are no more than those of any that leave a stable configuration. -/
theorem Leg.least (he : ∀ a b, 0 ≤ tt es a b) (h : Leg es n q d l) {m : List Nat} (hm : ∀ x ∈ m, x < n) (hc : CalmD es n q (runD es n d m)) : ∀ v, l.count v ≤ m.count v := by
  induction h with
  | nil => intro v; simp
  | @snoc l v h1 h2 h3 h4 ih =>
    intro u
    have hs := count_snoc l v u
    by_cases huv : u = v
    · subst huv
      rw [if_pos rfl] at hs
      have h5 := hc u h2 h3
      rw [runD_get hm h2] at h5
      rw [runD_get (fun x hx => (h1.lt x hx).1) h2] at h4
      have h6 : sumTo (fun w => (l.count w : Int) * tt es w u) n ≤ sumTo (fun w => (m.count w : Int) * tt es w u) n := sumTo_le fun w _ => Int.mul_le_mul_of_nonneg_right (by have := ih w; omega) (he w u)
      have h7 := ih u
      by_cases h8 : l.count u = m.count u
      · rw [h8] at h4; omega
      · omega
    · rw [if_neg huv] at hs
      have := ih u
      omega
/-- A vertex fires as often as is legal at once. -/
theorem fireD_add (j : Int) : fireD es n (fireD es n d v k) v j = fireD es n d v (k + j) := by
  unfold fireD
  apply List.map_congr_left
  intro u hu
  have hu := List.mem_range.1 hu
  have := fireD_get (es := es) (d := d) (v := v) (k := k) hu
  unfold fireD at this
  rw [this, Int.add_mul, Int.add_mul]
  split <;> omega
theorem Leg.times (he : ∀ a, tt es a a = 0) (hd : d.length = n) (h : Leg es n q d l) (hv : v < n) (hq : v ≠ q) (hp : 0 ≤ valS es n v) : ∀ t : Nat, (t : Int) * valS es n v ≤ (runD es n d l).getD v 0 → Leg es n q d (l ++ List.replicate t v) ∧ runD es n d (l ++ List.replicate t v) = fireD es n (runD es n d l) v t
  | 0, _ => by
    refine ⟨by simpa using h, ?_⟩
    rw [List.replicate_zero, List.append_nil]
    apply List.ext_getElem (by rw [runD_length hd, fireD_length])
    intro i h1 h2
    rw [runD_length hd] at h1
    have e2 := fireD_get (es := es) (d := runD es n d l) (v := v) (k := 0) h1
    simp only [Int.zero_mul, ite_self, Int.sub_zero, Int.add_zero] at e2
    rw [List.getD_eq_getElem?_getD, List.getD_eq_getElem?_getD, List.getElem?_eq_getElem (by rw [fireD_length]; exact h1), List.getElem?_eq_getElem (by rw [runD_length hd]; exact h1)] at e2
    simpa using e2.symm
  | t + 1, ht => by
    have e : ((t + 1 : Nat) : Int) * valS es n v = t * valS es n v + valS es n v := by rw [Int.natCast_add, Int.add_mul]; simp
    rw [e] at ht
    obtain ⟨h1, h2⟩ := Leg.times he hd h hv hq hp t (by omega)
    have h3 : l ++ List.replicate (t + 1) v = (l ++ List.replicate t v) ++ [v] := by rw [List.replicate_succ', List.append_assoc]
    rw [h3]
    refine ⟨.snoc h1 hv hq ?_, ?_⟩
    · rw [h2, fireD_get hv, if_pos rfl, he v]; omega
    · rw [runD_snoc, h2, fireD_add 1]; rfl
theorem Leg.sink (he : ∀ a b, 0 ≤ tt es a b) (h : Leg es n q d l) (hq : q < n) : d.getD q 0 ≤ (runD es n d l).getD q 0 := by
  induction h with
  | nil => exact Int.le_refl _
  | @snoc l v h1 h2 h3 h4 ih =>
    rw [runD_snoc, fireD_get hq, if_neg (fun e => h3 e.symm)]
    have := he v q
    omega
end
end Go.Proofs.YtghigdcpinengaaGreat

/-! Plain: the table of a pile holds the single edges, its valences are the valences. -/
namespace Go.Proofs.YtghigdcpinengaaGreat
open Go.RowKit

theorem incE_get (xs : List Int) (i v : Nat) : (incE xs i).getD v 0 = xs.getD v 0 + if v = i ∧ i < xs.length then 1 else 0 := by
  unfold incE
  simp only [List.getD_eq_getElem?_getD, List.getElem?_set]
  by_cases h : i = v
  · subst h
    by_cases h2 : i < xs.length
    · simp [h2]
    · simp [h2]
  · rw [if_neg h, if_neg (fun e => h e.1.symm), Int.add_zero]
def indV (v : Nat) (p : Nat × Nat) : Int := if p.1 ≠ p.2 ∧ (p.1 = v ∨ p.2 = v) then 1 else 0
theorem valL_at {n v : Nat} (ps : List (Nat × Nat)) : (∀ p ∈ ps, p.1 < n ∧ p.2 < n) → (valL n ps).getD v 0 = (ps.map (indV v)).sum := by
  induction ps using snocRec with
  | h0 =>
    intro _
    unfold valL
    rw [List.foldl_nil, List.getD_eq_getElem?_getD, List.getElem?_replicate]
    split <;> simp
  | h1 ps p ih =>
    intro h
    obtain ⟨h1, h2⟩ := h p (by simp)
    have hl := (valL_bd n ps).1
    have e : valL n (ps ++ [p]) = edgeV (valL n ps) p := by simp [valL, List.foldl_append]
    rw [e, List.map_append, List.sum_append, ← ih fun x hx => h x (by simp [hx])]
    unfold edgeV indV
    simp only [List.map_cons, List.map_nil, List.sum_cons, List.sum_nil, Int.add_zero]
    by_cases hp : p.1 = p.2
    · rw [if_pos hp, if_neg (fun e => e.1 hp)]; omega
    · rw [if_neg hp, incE_get, incE_get, incE_length]
      split <;> split <;> split <;> omega
theorem sum_rep (m : Nat) (x : Int) : (List.replicate m x).sum = m * x := by
  induction m with
  | zero => simp
  | succ m ih => rw [List.replicate_succ, List.sum_cons, ih, Int.natCast_add, Int.add_mul]; omega
theorem ends_sum {n : Nat} {es : List E3} (hok : ∀ e ∈ es, okE n e) (g : Nat × Nat → Int) : ((endsL es).map g).sum = (es.map fun e => e.2.2 * g (e.1.toNat, e.2.1.toNat)).sum := by
  induction es with
  | nil => rfl
  | cons e es ih =>
    have h := hok e (by simp)
    unfold okE at h
    have e1 : endsL (e :: es) = List.replicate e.2.2.toNat (e.1.toNat, e.2.1.toNat) ++ endsL es := by simp [endsL]
    rw [e1, List.map_append, List.sum_append, ih fun x hx => hok x (by simp [hx]), List.map_replicate, sum_rep, List.map_cons, List.sum_cons, Int.toNat_of_nonneg (by omega)]
theorem valL_val {n v : Nat} {es : List E3} (hok : ∀ e ∈ es, okE n e) : (valL n (endsL es)).getD v 0 = valE es v := by
  rw [valL_at _ (endsL_ok hok), ends_sum hok]
  unfold valE
  congr 1
  apply List.map_congr_left
  intro e he
  have h := hok e he
  unfold okE at h
  unfold indV valT
  dsimp only
  by_cases hc : e.1 ≠ e.2.1 ∧ (e.1 = v ∨ e.2.1 = v)
  · rw [if_pos hc, if_pos (by omega)]; omega
  · rw [if_neg hc, if_neg (by omega)]; omega
theorem valE_valS {n v : Nat} {es : List E3} (hG : RightG n es) : valE es v = valS es n v := by
  rw [valE_jn (n := n) hG.ok, jnE_flm hG]
  unfold valS
  have : ∀ k, k ≤ n → flmTo es (List.range n) v k = sumTo (fun w => tt es v w) k := by
    intro k hk
    induction k with
    | zero => rfl
    | succ k ih => simp only [flmTo, sumTo]; rw [ih (by omega), if_pos (List.mem_range.2 (by omega))]
  exact this n (Nat.le_refl _)
theorem root_zero {n q : Nat} {es : List E3} (hx : rootErr n es q = 0) : checkG n es = 0 ∧ RightG n es ∧ AllConn n es ∧ q < n := by
  rcases root_cases n es q with ⟨h1, h2⟩ | ⟨_, _, h2⟩ | ⟨_, _, _, h2⟩ | ⟨h1, h2, h3, _⟩
  · rw [hx] at h2; exact absurd h2.symm h1
  · rw [hx] at h2; cases h2
  · rw [hx] at h2; cases h2
  · have hG := right_of h1
    rw [Int.toNat_natCast] at h2
    have := vertB_true.1 h3
    exact ⟨h1, hG, (connB_iff hG).1 h2, by omega⟩
end Go.Proofs.YtghigdcpinengaaGreat

/-! Package stabilize: next, fire. -/
namespace Go.Proofs.YtghigdcpinengaaGreat
open Go.RowKit

end Go.Proofs.YtghigdcpinengaaGreat

/-! Package stabilize: next: the least vertex that waits. -/
namespace Go.Proofs.YtghigdcpinengaaGreat
open Go.RowKit

/-- The first place with true from k places on, or -1. -/
def firstT (ws : List Bool) : Int := match (List.range ws.length).find? fun v => ws.getD v false with
  | some v => v
  | none => -1
theorem firstT_some {ws : List Bool} {k : Nat} (hk : k < ws.length) (h : ws[k]? = some true) (hl : ∀ j, j < k → ws.getD j false = false) : firstT ws = k := by
  unfold firstT
  have : (List.range ws.length).find? (fun v => ws.getD v false) = some k := by
    rw [List.find?_range_eq_some]
    refine ⟨by rw [List.getD_eq_getElem?_getD, h]; rfl, by simpa using hk, fun j hj => ?_⟩
    rw [hl j hj]; rfl
  rw [this]
theorem firstT_none {ws : List Bool} (h : ∀ j, j < ws.length → ws.getD j false = false) : firstT ws = -1 := by
  unfold firstT
  have : (List.range ws.length).find? (fun v => ws.getD v false) = none := by
    rw [List.find?_eq_none]
    intro x hx
    rw [h x (List.mem_range.1 hx)]
    simp
  rw [this]
set_option maxHeartbeats 2000000 in
theorem indexB_any (g o c : Nat) (ws : List Bool) (w : World) (hl : ws.length ≤ 1048576) (h : ∀ k b, ws[k]? = some b → w.cell? ⟨g, o + k, none⟩ = some (.bool b)) :
    Calls Tryz.prog 145 #[.slice (some ⟨g, o, none⟩) ws.length c, .bool true] w fun e w' => e = .returned (.int .i64 (firstT ws)) ∧ w' = w := by
  have HC := Lib.hid h
  clear h
  go_enter Tryz.func145, Tryz.ntmps145
  go_wp2_with fail
  go_loop [5, 8] (fun _ i => ∃ k : Nat, i = .int .i64 k ∧ k ≤ ws.length ∧ Hid (∀ j, j < k → ws.getD j false = false)) (fun _ i => ws.length - (intOf i).toNat)
  case atStart => exact ⟨0, rfl, by omega, fun j hj => by omega⟩
  case round =>
    obtain ⟨k, rfl, hk, HN⟩ := hrel
    by_cases hlt : k < ws.length
    · obtain ⟨b, hb⟩ := get_of_lt hlt
      have hi : (k : Int) < (ws.length : Int) := by omega
      have c0 := HC.out k b hb
      have HB := Lib.hid hb
      clear hb
      cases b
      · go_wp2
        go_round
        case rel => exact ⟨k + 1, by go_num, by omega, fun j hj => by
          by_cases e : j = k
          · subst e; rw [List.getD_eq_getElem?_getD, HB.out]; rfl
          · exact HN.out j (by omega)⟩
        case measure => simp [intOf]; omega
      · go_wp2
        go_ret
        exact ⟨ret_int (firstT_some hlt HB.out HN.out).symm, rfl⟩
    · obtain rfl : k = ws.length := by omega
      go_wp2
      go_ret
      exact ⟨ret_int (firstT_none HN.out).symm, rfl⟩

set_option maxHeartbeats 2000000 in
theorem pnext_any (base bp n : Nat) (a : PA) (d : List Int) (q : Int) (rows : List (List Int)) (val fired : List Int) (total : Int) (ws : List Bool) (w : World) (h : PileW w base bp n a d q rows val fired total ws) :
    Calls Tryz.prog 121 #[.pointer (some ⟨bp, 0, none⟩)] w fun e w' => e = .returned (.int .i64 (firstT ws)) ∧ w' = w := by
  have hwl := h.wl
  have IB := Lib.hid (indexB_any bp 6 12 ws w (by omega) (fun k b hb => (h.blk.cell (6 + k)).trans (by rw [Nat.add_comm]; simp [pileCells, hb])))
  rw [hwl] at IB
  clear h
  go_enter Tryz.func121, Tryz.ntmps121
  go_wp2_with fail
  refine (IB.out).mono ?_
  rintro e w' ⟨rfl, rfl⟩
  go_wp2
  go_ret
  exact ⟨rfl, rfl⟩
end Go.Proofs.YtghigdcpinengaaGreat

/-! Package stabilize: settle, settled, given, Stabilize. -/
namespace Go.Proofs.YtghigdcpinengaaGreat
open Go.RowKit

section
variable {n q : Nat} {es : List E3}
end
/-- What stabilization needs of its configuration. -/
structure SArgs (n q : Nat) (es : List E3) (d : List Int) : Prop where
  hlen : es.length ≤ 10000
  hz : checkG n es = 0
  hC : AllConn n es
  hq : q < n
  dl : d.length = n
  db : ∀ v, v < n → -1048576 ≤ d.getD v 0 ∧ d.getD v 0 ≤ 1048576
  d0 : ∀ v, v < n → v ≠ q → 0 ≤ d.getD v 0

end Go.Proofs.YtghigdcpinengaaGreat

