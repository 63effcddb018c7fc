/-
 Texts of this claim, put together: PushP, REnumP, RLess.
-/
import Derived.Test.YtnbikkcalcpedaaGreatDoorK04
import Derived.Test.YtnbikkcalcpedaaGreatDoorK01
import Derived.Test.YtnbikkcalcpedaaGreatDoorK02
namespace Go.Proofs.YtnbikkcalcpedaaGreatDoor
def addAt (xs : List Int) (i : Nat) (d : Int) : List Int := xs.set i (xs.getD i 0 + d)
theorem addAt_length (xs : List Int) (i : Nat) (d : Int) : (addAt xs i d).length = xs.length := by simp [addAt]
theorem addAt_getD (xs : List Int) (i : Nat) (d : Int) (hi : i < xs.length) (x : Nat) : (addAt xs i d).getD x 0 = xs.getD x 0 + if x = i then d else 0 := by
 unfold addAt
 rw [List.getD_eq_getElem?_getD, List.getD_eq_getElem?_getD, List.getD_eq_getElem?_getD, List.getElem?_set]
 by_cases h : i = x
 ·subst h; simp [hi]
 ·rw [if_neg h, if_neg (fun e => h e.symm)]; omega
def Bd (M : Int) (xs : List Int) : Prop := ∀ x ∈ xs, -M ≤ x ∧ x ≤ M
theorem Bd.at_ {M : Int} {xs : List Int} (h : Bd M xs) {i : Nat} {x : Int} (hi : xs[i]? = some x) : -M ≤ x ∧ x ≤ M := h x (List.mem_of_getElem? hi)
theorem Bd.getD_ {M : Int} {xs : List Int} (h : Bd M xs) (hM : 0 ≤ M) (i : Nat) : -M ≤ xs.getD i 0 ∧ xs.getD i 0 ≤ M := by
 rw [List.getD_eq_getElem?_getD]
 cases he : xs[i]? with
 | none => simp; omega
 | some x => exact h.at_ he
theorem Bd.mono {M M' : Int} {xs : List Int} (h : Bd M xs) (hm : M ≤ M') : Bd M' xs := fun x hx => by have := h x hx; omega
theorem Bd.set_ {M : Int} {xs : List Int} (h : Bd M xs) (i : Nat) {y : Int} (hy : -M ≤ y ∧ y ≤ M) : Bd M (xs.set i y) := by
 intro x hx
 rcases List.mem_or_eq_of_mem_set hx with h1 | h1
 ·exact h x h1
 ·subst h1; exact hy
theorem Bd.addAt_ {M D : Int} {xs : List Int} (h : Bd M xs) (hM : 0 ≤ M) (i : Nat) {d : Int} (hd : -D ≤ d ∧ d ≤ D) (hD : 0 ≤ D) : Bd (M + D) (addAt xs i d) := by
 unfold addAt
 have := h.getD_ hM i
 exact (h.mono (by omega)).set_ i ⟨by omega, by omega⟩
def giveTo (es : List (Int × Int × Int)) (b : List Nat) (v : Nat) (xs : List Int) : Nat → List Int
 | 0 => xs
 | k + 1 => if k ∈ b then addAt (giveTo es b v xs k) k (tt es v k) else giveTo es b v xs k
def fireV (es : List (Int × Int × Int)) (b : List Nat) (n : Nat) (xs : List Int) (v : Nat) : List Int := giveTo es b v (addAt xs v (-(flmTo es b v n))) n
def fireL (es : List (Int × Int × Int)) (b : List Nat) (n : Nat) (xs : List Int) (l : List Nat) : List Int := l.foldl (fireV es b n) xs
def bumpL (xs : List Int) (l : List Nat) : List Int := l.foldl (fun s v => addAt s v 1) xs
section
variable {es : List (Int × Int × Int)} {b : List Nat} {n v : Nat} {xs : List Int} {N : Int}
theorem giveTo_length (k : Nat) : (giveTo es b v xs k).length = xs.length := by
 induction k with
 | zero => rfl
 | succ k ih => rw [giveTo]; split <;> simp [addAt_length, ih]
theorem giveTo_getD (k : Nat) (hk : k ≤ xs.length) (x : Nat) : (giveTo es b v xs k).getD x 0 = xs.getD x 0 + if x < k ∧ x ∈ b then tt es v x else 0 := by
 induction k with
 | zero => simp [giveTo]
 | succ k ih =>
   have ih := ih (by omega)
   rw [giveTo]
   by_cases hb : k ∈ b
   ·rw [if_pos hb, addAt_getD _ _ _ (by rw [giveTo_length]; omega), ih]
    by_cases hx : x = k
    ·subst hx; simp [hb]
    ·rw [if_neg hx]
     by_cases h2 : x ∈ b
     ·by_cases h3 : x < k
      ·rw [if_pos ⟨h3, h2⟩, if_pos ⟨by omega, h2⟩]; omega
      ·rw [if_neg (fun h => h3 h.1), if_neg (fun h => h3 (by omega))]; omega
     ·rw [if_neg (fun h => h2 h.2), if_neg (fun h => h2 h.2)]; omega
   ·rw [if_neg hb, ih]
    by_cases hx : x = k
    ·subst hx; simp [hb]
    ·by_cases h2 : x ∈ b
     ·by_cases h3 : x < k
      ·rw [if_pos ⟨h3, h2⟩, if_pos ⟨by omega, h2⟩]
      ·rw [if_neg (fun h => h3 h.1), if_neg (fun h => h3 (by omega))]
     ·rw [if_neg (fun h => h2 h.2), if_neg (fun h => h2 h.2)]
theorem giveTo_bd (hok : ∀ e ∈ es, okE N e) {M : Int} (hM : 0 ≤ M) (h : Bd M xs) (k : Nat) : Bd (M + 50 * k) (giveTo es b v xs k) := by
 induction k with
 | zero => simpa [giveTo] using h
 | succ k ih =>
   have ht := tt_bd hok v k
   rw [giveTo]
   split
   ·exact (ih.addAt_ (by omega) k (D := 50) ⟨by omega, by omega⟩ (by omega)).mono (by push_cast; omega)
   ·exact ih.mono (by push_cast; omega)
theorem fireV_length : (fireV es b n xs v).length = xs.length := by unfold fireV; rw [giveTo_length, addAt_length]
theorem fireV_getD (hn : xs.length = n) (hv : v < n) (x : Nat) : (fireV es b n xs v).getD x 0 = xs.getD x 0 + (if x = v then -(flmTo es b v n) else 0) + if x < n ∧ x ∈ b then tt es v x else 0 := by
 unfold fireV
 rw [giveTo_getD _ (by rw [addAt_length]; omega), addAt_getD _ _ _ (by omega)]
theorem fireV_bd (hok : ∀ e ∈ es, okE N e) (hn : n ≤ 12) {M : Int} (hM : 0 ≤ M) (h : Bd M xs) : Bd (M + 1200) (fireV es b n xs v) := by
 unfold fireV
 have hf := flmTo_bd hok b v n
 exact (giveTo_bd hok (M := M + 600) (by omega) (h.addAt_ hM v (D := 600) ⟨by omega, by omega⟩ (by omega)) n).mono (by omega)
theorem fireL_snoc (l : List Nat) (v : Nat) : fireL es b n xs (l ++ [v]) = fireV es b n (fireL es b n xs l) v := by simp [fireL, List.foldl_append]
theorem fireL_length (l : List Nat) : (fireL es b n xs l).length = xs.length := by
 induction l using snocRec with
 | h0 => rfl
 | h1 l x ih => rw [fireL_snoc, fireV_length, ih]
theorem fireL_bd (hok : ∀ e ∈ es, okE N e) (hn : n ≤ 12) {M : Int} (hM : 0 ≤ M) (h : Bd M xs) (l : List Nat) : Bd (M + 1200 * l.length) (fireL es b n xs l) := by
 induction l using snocRec with
 | h0 => simpa [fireL] using h
 | h1 l x ih =>
   rw [fireL_snoc]
   exact (fireV_bd hok hn (M := M + 1200 * l.length) (by omega) ih).mono (by simp; omega)
theorem fireL_getD (hn : xs.length = n) (l : List Nat) : LOk n l → ∀ x, (fireL es b n xs l).getD x 0 = xs.getD x 0 + (if x ∈ l then -(flmTo es b x n) else 0) + if x < n ∧ x ∈ b then (l.map fun v => tt es v x).sum else 0 := by
 induction l using snocRec with
 | h0 => intro _ x; simp [fireL]
 | h1 l v ih =>
   intro h x
   obtain ⟨h1, h2, h3⟩ := h.front
   rw [fireL_snoc, fireV_getD (by rw [fireL_length]; exact hn) h3, ih h1]
   by_cases hx : x = v
   ·subst hx
    simp only [h2, if_true, if_false, List.mem_append, List.mem_singleton, or_true, List.map_append, List.sum_append, List.map_cons, List.map_nil, List.sum_cons, List.sum_nil]
    split <;> omega
   ·simp only [hx, if_false, List.mem_append, List.mem_singleton, or_false, List.map_append, List.sum_append, List.map_cons, List.map_nil, List.sum_cons, List.sum_nil]
    split <;> split <;> omega
theorem bumpL_snoc (l : List Nat) (v : Nat) : bumpL xs (l ++ [v]) = addAt (bumpL xs l) v 1 := by simp [bumpL, List.foldl_append]
theorem bumpL_length (l : List Nat) : (bumpL xs l).length = xs.length := by
 induction l using snocRec with
 | h0 => rfl
 | h1 l x ih => rw [bumpL_snoc, addAt_length, ih]
theorem bumpL_bd {M : Int} (hM : 0 ≤ M) (h : Bd M xs) (l : List Nat) : Bd (M + l.length) (bumpL xs l) := by
 induction l using snocRec with
 | h0 => simpa [bumpL] using h
 | h1 l x ih =>
   rw [bumpL_snoc]
   exact (Bd.addAt_ (M := M + l.length) ih (by omega) x (D := 1) (d := 1) ⟨by omega, by omega⟩ (by omega)).mono (by simp; omega)
end
def stepC (es : List (Int × Int × Int)) (n q : Nat) (c : List Int) : List Int := (fireL es (burntL es c n q) n c (restL n (burntL es c n q))).set q 0
def leftC (es : List (Int × Int × Int)) (n q : Nat) (c : List Int) : List Nat := restL n (burntL es c n q)
theorem stepC_length (es : List (Int × Int × Int)) (n q : Nat) (c : List Int) : (stepC es n q c).length = c.length := by
 unfold stepC; rw [List.length_set, fireL_length]
theorem leftC_len (es : List (Int × Int × Int)) (n q : Nat) (c : List Int) : (leftC es n q c).length ≤ n := by
 unfold leftC restL; exact Nat.le_trans (List.length_filter_le _ _) (by simp)
theorem stepC_bd {es : List (Int × Int × Int)} {N : Int} (hok : ∀ e ∈ es, okE N e) {n q : Nat} (hn : n ≤ 12) {c : List Int} {M : Int} (hM : 0 ≤ M) (h : Bd M c) : Bd (M + 14400) (stepC es n q c) := by
 unfold stepC
 have hl := leftC_len es n q c
 unfold leftC at hl
 exact ((fireL_bd hok hn hM h _).mono (by omega)).set_ q ⟨by omega, by omega⟩
inductive PushR (es : List (Int × Int × Int)) (n q : Nat) : List Int → List Int → Nat → Option (List Int × List Int) → Prop
 | done {c s m} : leftC es n q c = [] → PushR es n q c s m (some (c, s))
 | over {c s m} : leftC es n q c ≠ [] → 1048576 < m + (leftC es n q c).length → PushR es n q c s m none
 | step {c s m r} : leftC es n q c ≠ [] → m + (leftC es n q c).length ≤ 1048576 → PushR es n q (stepC es n q c) (bumpL s (leftC es n q c)) (m + (leftC es n q c).length) r → PushR es n q c s m r
theorem PushR.total (es : List (Int × Int × Int)) (n q : Nat) (f : Nat) : ∀ c s m, 1048576 < m + f → ∃ r, PushR es n q c s m r := by
 induction f with
 | zero =>
   intro c s m h
   by_cases h1 : leftC es n q c = []
   ·exact ⟨_, .done h1⟩
   ·exact ⟨_, .over h1 (by omega)⟩
 | succ f ih =>
   intro c s m h
   by_cases h1 : leftC es n q c = []
   ·exact ⟨_, .done h1⟩
   ·have hp := List.length_pos_iff.2 h1
    by_cases h2 : m + (leftC es n q c).length ≤ 1048576
    ·obtain ⟨r, hr⟩ := ih (stepC es n q c) (bumpL s (leftC es n q c)) (m + (leftC es n q c).length) (by omega)
     exact ⟨r, .step h1 h2 hr⟩
    ·exact ⟨_, .over h1 (by omega)⟩
theorem PushR.over_inv {es : List (Int × Int × Int)} {n q : Nat} {c s : List Int} {m : Nat} {r} (h : PushR es n q c s m r) (h1 : leftC es n q c ≠ []) (h2 : 1048576 < m + (leftC es n q c).length) : r = none := by
 cases h with
 | done h3 => exact absurd h3 h1
 | over _ _ => rfl
 | step _ h3 _ => omega
theorem PushR.step_inv {es : List (Int × Int × Int)} {n q : Nat} {c s : List Int} {m : Nat} {r} (h : PushR es n q c s m r) (h1 : leftC es n q c ≠ []) (h2 : m + (leftC es n q c).length ≤ 1048576) : PushR es n q (stepC es n q c) (bumpL s (leftC es n q c)) (m + (leftC es n q c).length) r := by
 cases h with
 | done h3 => exact absurd h3 h1
 | over _ h3 => omega
 | step _ _ h3 => exact h3
def sendTo (es : List (Int × Int × Int)) (s : List Int) (v : Nat) (xs : List Int) : Nat → List Int
 | 0 => xs
 | k + 1 => if v = k then sendTo es s v xs k else addAt (sendTo es s v xs k) v (btw es v k * (s.getD k 0 - s.getD v 0))
def moveTo (es : List (Int × Int × Int)) (s : List Int) (n : Nat) (xs : List Int) : Nat → List Int
 | 0 => xs
 | k + 1 => sendTo es s k (moveTo es s n xs k) n
def sumTo (f : Nat → Int) : Nat → Int
 | 0 => 0
 | k + 1 => sumTo f k + f k
theorem sumTo_congr {f g : Nat → Int} : ∀ {k : Nat}, (∀ i, i < k → f i = g i) → sumTo f k = sumTo g k
 | 0, _ => rfl
 | k + 1, h => by rw [sumTo, sumTo, sumTo_congr (k := k) fun i hi => h i (by omega), h k (by omega)]
section
variable {es : List (Int × Int × Int)} {s : List Int} {n v : Nat} {xs : List Int} {N : Int}
theorem sendTo_length (k : Nat) : (sendTo es s v xs k).length = xs.length := by
 induction k with
 | zero => rfl
 | succ k ih => rw [sendTo]; split <;> simp [addAt_length, ih]
theorem sendTo_getD (hv : v < xs.length) (k x : Nat) : (sendTo es s v xs k).getD x 0 = xs.getD x 0 + if x = v then sumTo (fun w => tt es v w * (s.getD w 0 - s.getD v 0)) k else 0 := by
 induction k with
 | zero => simp [sendTo, sumTo]
 | succ k ih =>
   rw [sendTo]
   by_cases hk : v = k
   ·rw [if_pos hk, ih]
    subst hk
    by_cases hx : x = v
    ·subst hx; simp [sumTo, tt]
    ·simp [hx]
   ·rw [if_neg hk, addAt_getD _ _ _ (by rw [sendTo_length]; exact hv), ih]
    by_cases hx : x = v
    ·subst hx
     rw [if_pos rfl, if_pos rfl, if_pos rfl, sumTo]
     unfold tt
     rw [if_neg hk]
     omega
    ·simp [hx]
theorem moveTo_length (k : Nat) : (moveTo es s n xs k).length = xs.length := by
 induction k with
 | zero => rfl
 | succ k ih => rw [moveTo, sendTo_length, ih]
theorem moveTo_getD (k : Nat) (hk : k ≤ xs.length) (x : Nat) : (moveTo es s n xs k).getD x 0 = xs.getD x 0 + if x < k then sumTo (fun w => tt es x w * (s.getD w 0 - s.getD x 0)) n else 0 := by
 induction k with
 | zero => simp [moveTo]
 | succ k ih =>
   rw [moveTo, sendTo_getD (by rw [moveTo_length]; omega), ih (by omega)]
   by_cases hx : x = k
   ·subst hx; simp
   ·rw [if_neg hx]
    by_cases h2 : x < k
    ·rw [if_pos h2, if_pos (by omega)]; omega
    ·rw [if_neg h2, if_neg (by omega)]; omega
end
def ofL (n : Nat) (l : List Nat) : List Int := l.foldl (fun s v => s.set v 1) (List.replicate n 0)
theorem ofL_snoc (n : Nat) (l : List Nat) (v : Nat) : ofL n (l ++ [v]) = (ofL n l).set v 1 := by simp [ofL, List.foldl_append]
theorem ofL_length (n : Nat) (l : List Nat) : (ofL n l).length = n := by
 induction l using snocRec with
 | h0 => simp [ofL]
 | h1 l x ih => rw [ofL_snoc, List.length_set, ih]
theorem ofL_getD (n : Nat) (l : List Nat) : (∀ u ∈ l, u < n) → ∀ x, (ofL n l).getD x 0 = if x ∈ l then 1 else 0 := by
 induction l using snocRec with
 | h0 => intro _ x; simp [ofL, List.getD_eq_getElem?_getD, List.getElem?_replicate]; split <;> rfl
 | h1 l v ih =>
   intro h x
   have ih := ih (fun u hu => h u (by simp [hu])) x
   have hv := h v (by simp)
   rw [ofL_snoc, List.getD_eq_getElem?_getD, List.getElem?_set]
   by_cases hx : v = x
   ·subst hx; simp [ofL_length, hv]
   ·rw [if_neg hx, ← List.getD_eq_getElem?_getD, ih]
    have : (x ∈ l ++ [v]) ↔ x ∈ l := by simp [Ne.symm hx]
    simp only [this]
theorem sum_flm {es : List (Int × Int × Int)} {b : List Nat} {x : Nat} : ∀ k, sumTo (fun w => tt es x w * (if w ∈ b then 0 - 1 else 1 - 1)) k = -(flmTo es b x k)
 | 0 => rfl
 | k + 1 => by
   rw [sumTo, flmTo, sum_flm k]
   split <;> omega
theorem sum_give {es : List (Int × Int × Int)} {b : List Nat} {x : Nat} : ∀ k, sumTo (fun w => tt es x w * (if w ∈ b then 0 - 0 else 1 - 0)) k = ((restL k b).map fun v => tt es v x).sum
 | 0 => rfl
 | k + 1 => by
   have hs : restL (k + 1) b = if k ∈ b then restL k b else restL k b ++ [k] := by
    unfold restL
    rw [List.range_succ, List.filter_append]
    by_cases h : k ∈ b <;> simp [h]
   rw [sumTo, sum_give k, hs]
   split
   ·omega
   ·rw [List.map_append, List.sum_append, tt_comm]; simp
theorem move_fire {es : List (Int × Int × Int)} {b : List Nat} {n : Nat} {xs : List Int} (hn : xs.length = n) : moveTo es (ofL n (restL n b)) n xs n = fireL es b n xs (restL n b) := by
 have hr : LOk n (restL n b) := ⟨restL_nodup n b, fun u hu => (mem_rest.1 hu).1⟩
 apply List.ext_getElem?
 intro x
 by_cases hx : x < n
 ·have h1 := moveTo_getD (es := es) (s := ofL n (restL n b)) (n := n) (xs := xs) n (by omega) x
  have h2 := fireL_getD (es := es) (b := b) hn (restL n b) hr x
  rw [if_pos hx] at h1
  have hsum : sumTo (fun w => tt es x w * ((ofL n (restL n b)).getD w 0 - (ofL n (restL n b)).getD x 0)) n = (if x ∈ restL n b then -(flmTo es b x n) else 0) + if x < n ∧ x ∈ b then ((restL n b).map fun v => tt es v x).sum else 0 := by
   by_cases hb : x ∈ b
   ·have hxr : x ∉ restL n b := fun h => (mem_rest.1 h).2 hb
    rw [if_neg hxr, if_pos ⟨hx, hb⟩, ← sum_give, Int.zero_add]
    refine sumTo_congr fun w hw => ?_
    rw [ofL_getD n _ hr.2, ofL_getD n _ hr.2, if_neg hxr]
    congr 1
    by_cases hwb : w ∈ b
    ·rw [if_pos hwb, if_neg (fun h => (mem_rest.1 h).2 hwb)]
    ·rw [if_neg hwb, if_pos (mem_rest.2 ⟨hw, hwb⟩)]
   ·have hxr : x ∈ restL n b := mem_rest.2 ⟨hx, hb⟩
    rw [if_pos hxr, if_neg (fun h => hb h.2), ← sum_flm, Int.add_zero]
    refine sumTo_congr fun w hw => ?_
    rw [ofL_getD n _ hr.2, ofL_getD n _ hr.2, if_pos hxr]
    congr 1
    by_cases hwb : w ∈ b
    ·rw [if_pos hwb, if_neg (fun h => (mem_rest.1 h).2 hwb)]
    ·rw [if_neg hwb, if_pos (mem_rest.2 ⟨hw, hwb⟩)]
  rw [hsum] at h1
  have e1 : x < (moveTo es (ofL n (restL n b)) n xs n).length := by rw [moveTo_length]; omega
  have e2 : x < (fireL es b n xs (restL n b)).length := by rw [fireL_length]; omega
  rw [List.getD_eq_getElem?_getD, List.getElem?_eq_getElem e1, Option.getD_some] at h1
  rw [List.getD_eq_getElem?_getD, List.getElem?_eq_getElem e2, Option.getD_some] at h2
  rw [List.getElem?_eq_getElem e1, List.getElem?_eq_getElem e2, h1, h2]
  congr 1; omega
 ·rw [List.getElem?_eq_none (by rw [moveTo_length]; omega), List.getElem?_eq_none (by rw [fireL_length]; omega)]
end Go.Proofs.YtnbikkcalcpedaaGreatDoor
namespace Go.Proofs.YtnbikkcalcpedaaGreatDoor
def ByS (es : List (Int × Int × Int)) (n q : Nat) (c d s : List Int) : Prop :=
 ∀ x, x < n → x ≠ q → d.getD x 0 = c.getD x 0 + sumTo (fun w => tt es x w * (s.getD w 0 - s.getD x 0)) n
theorem sumTo_add (f g : Nat → Int) : ∀ k, sumTo (fun i => f i + g i) k = sumTo f k + sumTo g k
 | 0 => rfl
 | k + 1 => by rw [sumTo, sumTo, sumTo, sumTo_add f g k]; omega
theorem sumTo_zero {f : Nat → Int} {k : Nat} (h : ∀ i, i < k → f i = 0) : sumTo f k = 0 := by
 induction k with
 | zero => rfl
 | succ k ih => rw [sumTo, ih fun i hi => h i (by omega), h k (by omega)]; rfl
theorem sumTo_le {f g : Nat → Int} {k : Nat} (h : ∀ i, i < k → f i ≤ g i) : sumTo f k ≤ sumTo g k := by
 induction k with
 | zero => exact Int.le_refl _
 | succ k ih => rw [sumTo, sumTo]; have := ih fun i hi => h i (by omega); have := h k (by omega); omega
theorem stepC_getD {es : List (Int × Int × Int)} {n q : Nat} {c : List Int} (hn : c.length = n) {x : Nat} (hx : x < n) (hq : x ≠ q) :
  (stepC es n q c).getD x 0 = c.getD x 0 + sumTo (fun w => tt es x w * ((ofL n (leftC es n q c)).getD w 0 - (ofL n (leftC es n q c)).getD x 0)) n := by
 unfold stepC
 rw [← move_fire hn, List.getD_eq_getElem?_getD, List.getElem?_set_ne (fun e => hq e.symm), ← List.getD_eq_getElem?_getD, moveTo_getD n (by omega), if_pos hx]
 rfl
theorem bumpL_getD {xs : List Int} (l : List Nat) : (∀ u ∈ l, u < xs.length) → l.Nodup → ∀ x, (bumpL xs l).getD x 0 = xs.getD x 0 + if x ∈ l then 1 else 0 := by
 induction l using snocRec with
 | h0 => intro _ _ x; simp [bumpL]
 | h1 l v ih =>
   intro h hnd x
   rw [List.nodup_append] at hnd
   have hv : v ∉ l := fun hc => hnd.2.2 v hc v (by simp) rfl
   rw [bumpL_snoc, addAt_getD _ _ _ (by rw [bumpL_length]; exact h v (by simp)), ih (fun u hu => h u (by simp [hu])) hnd.1]
   by_cases hx : x = v
   ·subst hx; simp [hv]
   ·have : (x ∈ l ++ [v]) ↔ x ∈ l := by simp [hx]
    simp only [this, if_neg hx]; omega
theorem leftC_lt {es : List (Int × Int × Int)} {n q : Nat} {c : List Int} : ∀ u ∈ leftC es n q c, u < n := fun _ hu => (mem_rest.1 hu).1
theorem leftC_nodup {es : List (Int × Int × Int)} {n q : Nat} {c : List Int} : (leftC es n q c).Nodup := restL_nodup _ _
theorem leftC_sink {es : List (Int × Int × Int)} {n q : Nat} {c : List Int} : q ∉ leftC es n q c := fun h => (mem_rest.1 h).2 ((burnL_pre n [q]).subset (by simp))
end Go.Proofs.YtnbikkcalcpedaaGreatDoor
namespace Go.Proofs.YtnbikkcalcpedaaGreatDoor
theorem sumTo_neg (f : Nat → Int) : ∀ k, sumTo (fun i => - f i) k = - sumTo f k
 | 0 => rfl
 | k + 1 => by rw [sumTo, sumTo, sumTo_neg f k]; omega
theorem sumTo_swap (g : Nat → Nat → Int) (m : Nat) : ∀ k, sumTo (fun x => sumTo (fun w => g x w) m) k = sumTo (fun w => sumTo (fun x => g x w) k) m
 | 0 => (sumTo_zero fun _ _ => rfl).symm
 | k + 1 => by
   rw [sumTo, sumTo_swap g m k, ← sumTo_add]
   exact sumTo_congr fun _ _ => rfl
theorem sumTo_anti {g : Nat → Nat → Int} (h : ∀ x w, g x w = - g w x) (n : Nat) : sumTo (fun x => sumTo (fun w => g x w) n) n = 0 := by
 have h1 := sumTo_swap g n n
 have h2 : sumTo (fun w => sumTo (fun x => g x w) n) n = - sumTo (fun x => sumTo (fun w => g x w) n) n := by
  rw [← sumTo_neg]
  refine sumTo_congr fun w _ => ?_
  rw [← sumTo_neg]
  exact sumTo_congr fun x _ => h x w
 omega
theorem sumTo_nonneg {f : Nat → Int} {k : Nat} (h : ∀ i, i < k → 0 ≤ f i) : 0 ≤ sumTo f k := by
 rw [← sumTo_zero (f := fun _ => 0) (k := k) fun _ _ => rfl]
 exact sumTo_le h
theorem sumTo_one {f : Nat → Int} {k : Nat} (h : ∀ i, i < k → 0 ≤ f i) : ∀ i, i < k → f i ≤ sumTo f k := by
 induction k with
 | zero => intro i hi; omega
 | succ k ih =>
   intro i hi
   rw [sumTo]
   by_cases hik : i = k
   ·subst hik; have := sumTo_nonneg (f := f) (k := i) fun j hj => h j (by omega); omega
   ·have := ih (fun j hj => h j (by omega)) i (by omega); have := h k (by omega); omega
theorem sumTo_const (T : Int) : ∀ k : Nat, sumTo (fun _ => T) k = k * T
 | 0 => by simp [sumTo]
 | k + 1 => by rw [sumTo, sumTo_const T k]; push_cast; rw [Int.add_mul]; omega
section
variable {es : List (Int × Int × Int)} {n q : Nat} {c d s : List Int} {T : Int}
theorem edge_gap (he : ∀ a b, 0 ≤ btw es a b) (hb : ByS es n q c d s) (hs0 : s.getD q 0 = 0) (hd : ∀ x, x < n → x ≠ q → 0 ≤ d.getD x 0) (hc : ∀ x, 0 ≤ c.getD x 0) (hT : sumTo (fun x => c.getD x 0) n ≤ T)
  {t : Int} (ht : 0 < t) {x w : Nat} (hx : x < n) (hw : w < n) (hxt : t ≤ s.getD x 0) (hwt : s.getD w 0 < t) (hj : 1 ≤ tt es x w) : s.getD x 0 - s.getD w 0 ≤ T := by
 have htt : ∀ a b, 0 ≤ tt es a b := fun a b => by unfold tt; split; (· omega); exact he _ _
 -- what leaves
 let out : Nat → Nat → Int := fun a b => if t ≤ s.getD a 0 ∧ ¬ t ≤ s.getD b 0 then tt es a b * (s.getD a 0 - s.getD b 0) else 0
 have hout : ∀ a b, 0 ≤ out a b := fun a b => by
  show 0 ≤ (if t ≤ s.getD a 0 ∧ ¬ t ≤ s.getD b 0 then tt es a b * (s.getD a 0 - s.getD b 0) else 0)
  split
  ·exact Int.mul_nonneg (htt a b) (by omega)
  ·omega
 let inn : Nat → Nat → Int := fun a b => if t ≤ s.getD a 0 ∧ t ≤ s.getD b 0 then tt es a b * (s.getD b 0 - s.getD a 0) else 0
 have hanti : sumTo (fun a => sumTo (fun b => inn a b) n) n = 0 := by
  refine sumTo_anti (fun a b => ?_) n
  show (if t ≤ s.getD a 0 ∧ t ≤ s.getD b 0 then tt es a b * (s.getD b 0 - s.getD a 0) else 0) = - (if t ≤ s.getD b 0 ∧ t ≤ s.getD a 0 then tt es b a * (s.getD a 0 - s.getD b 0) else 0)
  by_cases h : t ≤ s.getD a 0 ∧ t ≤ s.getD b 0
  ·rw [if_pos h, if_pos h.symm, tt_comm es b a, ← Int.mul_neg]; congr 1; omega
  ·rw [if_neg h, if_neg (fun h' => h h'.symm)]; rfl
 have key : ∀ a, a < n → sumTo (fun b => out a b) n ≤ c.getD a 0 + sumTo (fun b => inn a b) n := by
  intro a ha
  by_cases hat : t ≤ s.getD a 0
  ·have haq : a ≠ q := fun e => by subst e; omega
   have h1 := hb a ha haq
   have h2 := hd a ha haq
   have h3 : sumTo (fun w => tt es a w * (s.getD w 0 - s.getD a 0)) n + sumTo (fun b => out a b) n = sumTo (fun b => inn a b) n := by
    rw [← sumTo_add]
    refine sumTo_congr fun b _ => ?_
    show tt es a b * (s.getD b 0 - s.getD a 0) + (if t ≤ s.getD a 0 ∧ ¬ t ≤ s.getD b 0 then tt es a b * (s.getD a 0 - s.getD b 0) else 0) = if t ≤ s.getD a 0 ∧ t ≤ s.getD b 0 then tt es a b * (s.getD b 0 - s.getD a 0) else 0
    by_cases hbt : t ≤ s.getD b 0
    ·rw [if_neg (fun h => h.2 hbt), if_pos ⟨hat, hbt⟩]; omega
    ·rw [if_pos ⟨hat, hbt⟩, if_neg (fun h => hbt h.2), ← Int.mul_add, show s.getD b 0 - s.getD a 0 + (s.getD a 0 - s.getD b 0) = 0 from by omega, Int.mul_zero]
   omega
  ·have h1 : sumTo (fun b => out a b) n = 0 := sumTo_zero fun b _ => if_neg (fun h => hat h.1)
   have h2 : sumTo (fun b => inn a b) n = 0 := sumTo_zero fun b _ => if_neg (fun h => hat h.1)
   have := hc a
   omega
 have h1 : sumTo (fun a => sumTo (fun b => out a b) n) n ≤ T := by
  have := sumTo_le key
  rw [sumTo_add, hanti] at this
  omega
 have h2 := sumTo_one (f := fun a => sumTo (fun b => out a b) n) (fun a _ => sumTo_nonneg fun b _ => hout a b) x hx
 have h3 := sumTo_one (f := fun b => out x b) (fun b _ => hout x b) w hw
 have h4 : out x w = tt es x w * (s.getD x 0 - s.getD w 0) := if_pos ⟨hxt, by omega⟩
 have h5 : 1 * (s.getD x 0 - s.getD w 0) ≤ tt es x w * (s.getD x 0 - s.getD w 0) := Int.mul_le_mul_of_nonneg_right hj (by omega)
 omega
def lessN (s : List Int) (n : Nat) (t : Int) : Nat := ((List.range n).filter fun x => decide (s.getD x 0 < t)).length
theorem less_lt {w : Nat} (hw : w < n) {t : Int} (ht : s.getD w 0 < t) : lessN s n (s.getD w 0) < lessN s n t := by
 unfold lessN
 have h1 : ((List.range n).filter fun x => decide (s.getD x 0 < s.getD w 0)).length ≤ (((List.range n).filter fun x => decide (s.getD x 0 < t)).filter fun x => decide (s.getD x 0 < s.getD w 0)).length := by
  rw [List.filter_filter]
  refine Nat.le_of_eq (congrArg List.length (List.filter_congr fun x _ => ?_))
  rw [Bool.eq_iff_iff, Bool.and_eq_true, decide_eq_true_eq, decide_eq_true_eq]
  exact ⟨fun h => ⟨h, by omega⟩, fun h => h.1⟩
 refine Nat.lt_of_le_of_lt h1 ?_
 refine Nat.lt_of_le_of_ne (List.length_filter_le _ _) fun e => ?_
 have := (List.length_filter_eq_length_iff.1 e) w (List.mem_filter.2 ⟨by simpa using hw, by simpa using ht⟩)
 simp at this
theorem script_bd (hG : RightG n es) (hC : AllConn n es) (hq : q < n) (hb : ByS es n q c d s) (hs0 : s.getD q 0 = 0) (hd : ∀ x, x < n → x ≠ q → 0 ≤ d.getD x 0) (hc : ∀ x, 0 ≤ c.getD x 0) (hT : sumTo (fun x => c.getD x 0) n ≤ T) (hT0 : 0 ≤ T) :
  ∀ k t, lessN s n t ≤ k → (∃ v, v < n ∧ t ≤ s.getD v 0) → t ≤ k * T := by
 have he : ∀ a b, 0 ≤ btw es a b := fun a b => (btw_bd hG.ok a b).1
 intro k
 induction k with
 | zero =>
   intro t h _
   refine Classical.byContradiction fun hc => ?_
   have h0 : lessN s n t = 0 := by omega
   unfold lessN at h0
   rw [List.length_eq_zero_iff, List.filter_eq_nil_iff] at h0
   have h1 := h0 q (by simpa using hq)
   rw [decide_eq_true_eq] at h1
   omega
 | succ k ih =>
   rintro t hk ⟨v, hv, hvt⟩
   by_cases ht : 0 < t
   ·-- an edge that leads out
    have hconn : Conn es q v := (hC q hq).symm.trans (hC v hv)
    have key : ∀ x, Conn es q x → t ≤ s.getD x 0 → ∃ y z, s.getD y 0 < t ∧ t ≤ s.getD z 0 ∧ adjE es y z := by
     intro x hx
     induction hx with
     | refl => intro h; omega
     | @step y z h1 h2 ih =>
       intro hz
       by_cases hy : t ≤ s.getD y 0
       ·exact ih hy
       ·exact ⟨y, z, by omega, hz, h2⟩
    obtain ⟨y, z, hy, hz, e, hem, hyz⟩ := key v hconn hvt
    have hok := hG.ok e hem
    have hbm := btw_mem hG.sorted hem hok.2.1
    unfold okE at hok
    have hyn : y < n := by omega
    have hzn : z < n := by omega
    have hne : z ≠ y := fun h => by subst h; omega
    have hj : 1 ≤ tt es z y := by
     unfold tt
     rw [if_neg hne]
     rcases hyz with ⟨h1, h2⟩ | ⟨h1, h2⟩
     ·rw [btw_comm, ← h1, ← h2, hbm]; omega
     ·rw [← h1, ← h2, hbm]; omega
    have hgap := edge_gap he hb hs0 hd hc hT ht hzn hyn hz hy hj
    have h1 := ih (s.getD y 0) (by have := less_lt (s := s) hyn hy; omega) ⟨y, hyn, Int.le_refl _⟩
    push_cast
    rw [Int.add_mul]
    omega
   ·have : 0 ≤ ((k + 1 : Nat) : Int) * T := Int.mul_nonneg (by omega) hT0
    omega
theorem script_sum (hG : RightG n es) (hC : AllConn n es) (hq : q < n) (hb : ByS es n q c d s) (hs0 : s.getD q 0 = 0) (hd : ∀ x, x < n → x ≠ q → 0 ≤ d.getD x 0) (hc : ∀ x, 0 ≤ c.getD x 0) (hT : sumTo (fun x => c.getD x 0) n ≤ T) (hT0 : 0 ≤ T) :
  sumTo (fun x => s.getD x 0) n ≤ n * (n * T) := by
 rw [← sumTo_const]
 refine sumTo_le fun x hx => ?_
 refine script_bd hG hC hq hb hs0 hd hc hT hT0 n _ ?_ ⟨x, hx, Int.le_refl _⟩
 unfold lessN
 exact Nat.le_trans (List.length_filter_le _ _) (by simp)
theorem step_nonneg (he : ∀ a b, 0 ≤ btw es a b) (hq : q < n) (hn : c.length = n) (hc : ∀ x, x < n → x ≠ q → 0 ≤ c.getD x 0) : ∀ x, x < n → x ≠ q → 0 ≤ (stepC es n q c).getD x 0 := by
 intro x hx hxq
 have hl : LOk n (burntL es c n q) := burnL_ok n _ ⟨by simp, by simpa using hq⟩
 have hdone := burnL_done (es := es) (c := c) (n := n) (k := n) (l := [q]) ⟨by simp, by simpa using hq⟩ (by simp)
 change ∀ u, u < n → catL es c (burntL es c n q) u = false at hdone
 rw [stepC_getD hn hx hxq]
 unfold leftC
 obtain ⟨b, hb⟩ : ∃ b, burntL es c n q = b := ⟨_, rfl⟩
 rw [hb] at hl hdone ⊢
 have hr : ∀ u ∈ restL n b, u < n := fun u hu => (mem_rest.1 hu).1
 have h0 := hc x hx hxq
 have htt : ∀ a b, 0 ≤ tt es a b := fun a b => by unfold tt; split; (· omega); exact he _ _
 by_cases hxb : x ∈ b
 ·have : 0 ≤ sumTo (fun w => tt es x w * ((ofL n (restL n b)).getD w 0 - (ofL n (restL n b)).getD x 0)) n := by
   refine sumTo_nonneg fun w hw => Int.mul_nonneg (htt _ _) ?_
   rw [ofL_getD n _ hr, ofL_getD n _ hr, if_neg (c := x ∈ restL n b) (fun h => (mem_rest.1 h).2 hxb)]
   split <;> omega
  omega
 ·have hcat := hdone x hx
  rw [← Bool.not_eq_true, catL_true] at hcat
  have hle : joinsN es x b ≤ c.getD x 0 := by
   refine Classical.byContradiction fun h => hcat ⟨hxb, by omega⟩
  rw [← flm_joins b hl hxb] at hle
  have : sumTo (fun w => tt es x w * ((ofL n (restL n b)).getD w 0 - (ofL n (restL n b)).getD x 0)) n = -(flmTo es b x n) := by
   rw [← sum_flm]
   refine sumTo_congr fun w hw => ?_
   rw [ofL_getD n _ hr, ofL_getD n _ hr, if_pos (c := x ∈ restL n b) (mem_rest.2 ⟨hx, hxb⟩)]
   congr 1
   by_cases hwb : w ∈ b
   ·rw [if_pos hwb, if_neg (fun h => (mem_rest.1 h).2 hwb)]
   ·rw [if_neg hwb, if_pos (mem_rest.2 ⟨hw, hwb⟩)]
  omega
theorem sumTo_mem {l : List Nat} (n : Nat) : LOk n l → sumTo (fun x => if x ∈ l then 1 else 0) n = l.length := by
 induction l using snocRec with
 | h0 => intro _; simp; exact sumTo_zero fun _ _ => rfl
 | h1 l v ih =>
   intro h
   obtain ⟨h1, h2, h3⟩ := h.front
   have hone : ∀ k, sumTo (fun x => if x = v then (1 : Int) else 0) k = if v < k then 1 else 0 := by
    intro k
    induction k with
    | zero => rfl
    | succ k ih =>
      rw [sumTo, ih]
      by_cases hk : k = v
      ·subst hk; simp
      ·rw [if_neg hk]
       by_cases hv : v < k
       ·rw [if_pos hv, if_pos (by omega)]; rfl
       ·rw [if_neg hv, if_neg (by omega)]; rfl
   have : sumTo (fun x => if x ∈ l ++ [v] then (1 : Int) else 0) n = sumTo (fun x => (if x ∈ l then (1 : Int) else 0) + if x = v then 1 else 0) n := by
    refine sumTo_congr fun x _ => ?_
    by_cases hx : x = v
    ·subst hx; simp [h2]
    ·simp [hx]
   rw [this, sumTo_add, ih h1, hone, if_pos h3]
   simp
theorem PushR.ends (hG : RightG n es) (hC : AllConn n es) (hq : q < n) {c0 : List Int} (h0 : ∀ x, 0 ≤ c0.getD x 0) (hT : sumTo (fun x => c0.getD x 0) n ≤ T) (hT0 : 0 ≤ T) (hbig : (n : Int) * (n * T) ≤ 1048576) {m : Nat} {r} (h : PushR es n q c s m r) :
  c.length = n → s.length = n → s.getD q 0 = 0 → (∀ x, x < n → x ≠ q → 0 ≤ c.getD x 0) → ByS es n q c0 c s → sumTo (fun x => s.getD x 0) n = m → r ≠ none := by
 have he : ∀ a b, 0 ≤ btw es a b := fun a b => (btw_bd hG.ok a b).1
 have next : ∀ {c s : List Int} {m : Nat}, c.length = n → s.length = n → s.getD q 0 = 0 → (∀ x, x < n → x ≠ q → 0 ≤ c.getD x 0) → ByS es n q c0 c s → sumTo (fun x => s.getD x 0) n = m →
   (bumpL s (leftC es n q c)).getD q 0 = 0 ∧ (∀ x, x < n → x ≠ q → 0 ≤ (stepC es n q c).getD x 0) ∧ ByS es n q c0 (stepC es n q c) (bumpL s (leftC es n q c)) ∧ sumTo (fun x => (bumpL s (leftC es n q c)).getD x 0) n = (m + (leftC es n q c).length : Nat) := by
  intro c s m hc hs hsq hpos hb hm
  have hbl := bumpL_getD (xs := s) (leftC es n q c) (fun u hu => by rw [hs]; exact leftC_lt u hu) leftC_nodup
  refine ⟨?_, step_nonneg he hq hc hpos, ?_, ?_⟩
  ·rw [hbl, hsq, if_neg leftC_sink]; rfl
  ·intro x hx hxq
   rw [stepC_getD hc hx hxq, hb x hx hxq, Int.add_assoc, ← sumTo_add]
   congr 1
   refine sumTo_congr fun w hw => ?_
   rw [hbl, hbl, ofL_getD n _ leftC_lt, ofL_getD n _ leftC_lt, ← Int.mul_add]
   congr 1
   omega
  ·rw [sumTo_congr (g := fun x => s.getD x 0 + if x ∈ leftC es n q c then 1 else 0) fun x _ => hbl x, sumTo_add, hm, sumTo_mem n ⟨leftC_nodup, leftC_lt⟩]
   push_cast; rfl
 induction h with
 | done _ => intro _ _ _ _ _ _ e; cases e
 | @over c s m h1 h2 =>
   intro hc hs hsq hpos hb hm
   obtain ⟨n1, n2, n3, n4⟩ := next hc hs hsq hpos hb hm
   have := script_sum hG hC hq n3 n1 n2 h0 hT hT0
   omega
 | @step c s m r h1 h2 h3 ih =>
   intro hc hs hsq hpos hb hm
   obtain ⟨n1, n2, n3, n4⟩ := next hc hs hsq hpos hb hm
   exact ih (by rw [stepC_length]; exact hc) (by rw [bumpL_length]; exact hs) n1 n2 n3 n4
end
end Go.Proofs.YtnbikkcalcpedaaGreatDoor
namespace Go.Proofs.YtnbikkcalcpedaaGreatDoor
def enumR (rec : List Int → Bool) (top : List Int) (n : Nat) : Nat → List Int → List (List Int)
 | 0, c => if rec c then [c] else []
 | f + 1, c => if rec c then (List.range ((top.getD (n - (f + 1)) 0) + 1).toNat).flatMap fun k : Nat => enumR rec top n f (c.set (n - (f + 1)) (k : Int)) else []
def remR (rec : List Int → Bool) (top : List Int) (n f : Nat) (c : List Int) (k : Nat) : List (List Int) := ((List.range ((top.getD (n - (f + 1)) 0) + 1).toNat).drop k).flatMap fun k : Nat => enumR rec top n f (c.set (n - (f + 1)) (k : Int))
def extL (top : List Int) (n : Nat) : Nat → List Int → List (List Int)
 | 0, c => [c]
 | f + 1, c => (List.range ((top.getD (n - (f + 1)) 0) + 1).toNat).flatMap fun k : Nat => extL top n f (c.set (n - (f + 1)) (k : Int))
def belL (top : List Int) : Nat → List (List Int)
 | 0 => [[]]
 | v + 1 => (belL top v).flatMap fun p => (List.range ((top.getD v 0) + 1).toNat).map fun k : Nat => p ++ [(k : Int)]
theorem flat_congr {α β : Type} {f g : α → List β} : ∀ {l : List α}, (∀ a ∈ l, f a = g a) → l.flatMap f = l.flatMap g
 | [], _ => rfl
 | a :: l, h => by rw [List.flatMap_cons, List.flatMap_cons, h a (by simp), flat_congr fun b hb => h b (by simp [hb])]
section
variable {rec : List Int → Bool} {top : List Int} {n f v k : Nat} {c : List Int}
theorem enumR_no (h : rec c = false) : enumR rec top n f c = [] := by
 cases f <;> simp [enumR, h]
theorem enumR_succ (h : rec c = true) : enumR rec top n (f + 1) c = remR rec top n f c 0 := by simp [enumR, remR, h]
theorem remR_step (hv : v + (f + 1) = n) (hk : (k : Int) ≤ top.getD v 0) : remR rec top n f c k = enumR rec top n f (c.set v (k : Int)) ++ remR rec top n f c (k + 1) := by
 unfold remR
 obtain rfl : n - (f + 1) = v := by omega
 rw [List.drop_eq_getElem_cons (by rw [List.length_range]; omega), List.flatMap_cons]
 simp
theorem remR_end (hv : v + (f + 1) = n) (hk : top.getD v 0 < (k : Int)) : remR rec top n f c k = [] := by
 unfold remR
 obtain rfl : n - (f + 1) = v := by omega
 rw [List.drop_eq_nil_of_le (by rw [List.length_range]; omega)]
 rfl
theorem extL_some (hv : v + (f + 1) = n) : extL top n (f + 1) c = (List.range ((top.getD v 0) + 1).toNat).flatMap fun k : Nat => extL top n f (c.set v (k : Int)) := by
 obtain rfl : n - (f + 1) = v := by omega
 rfl
theorem set_drop {p : List Int} (hv : v < top.length) (hp : p.length = v) (x : Int) : (p ++ top.drop v).set v x = (p ++ [x]) ++ top.drop (v + 1) := by
 rw [List.set_append_right _ _ (by omega), hp, Nat.sub_self, List.drop_eq_getElem_cons hv, List.set_cons_zero, List.append_assoc]
 rfl
theorem belL_length : ∀ v, ∀ p ∈ belL top v, p.length = v
 | 0, p, h => by simp [belL] at h; simp [h]
 | v + 1, p, h => by
   rw [belL, List.mem_flatMap] at h
   obtain ⟨x, hx, h⟩ := h
   rw [List.mem_map] at h
   obtain ⟨k, _, rfl⟩ := h
   simp [belL_length v x hx]
theorem ext_bel (hn : top.length = n) : ∀ f v, v + f = n → ((belL top v).flatMap fun p => extL top n f (p ++ top.drop v)) = belL top n
 | 0, v, h => by
   obtain rfl : v = n := by omega
   have h1 : ∀ p, p ++ top.drop v = p := fun p => by rw [List.drop_eq_nil_of_le (by omega), List.append_nil]
   simp only [h1, extL]
   simp
 | f + 1, v, h => by
   rw [← ext_bel hn f (v + 1) (by omega), belL, List.flatMap_assoc]
   apply flat_congr
   intro p hp
   rw [extL_some h, List.flatMap_map]
   apply flat_congr
   intro k hk
   rw [set_drop (by omega) (belL_length v p hp)]
theorem bel_ext (hn : top.length = n) : belL top n = extL top n n top := by
 have := ext_bel hn n 0 (by omega)
 simpa [belL] using this.symm
theorem ext_le : ∀ f, f ≤ n → ∀ c : List Int, c.length = n → (∀ i, n - f ≤ i → i < n → c.getD i 0 = top.getD i 0) → ∀ x ∈ extL top n f c, x.length = n ∧ ∀ i, i < n → x.getD i 0 ≤ c.getD i 0
 | 0, _, c, hc, _, x, hx => by
   simp [extL] at hx; subst hx; exact ⟨hc, fun i _ => Int.le_refl _⟩
 | f + 1, hf, c, hc, ht, x, hx => by
   rw [extL_some (v := n - (f + 1)) (by omega), List.mem_flatMap] at hx
   obtain ⟨k, hk, hx⟩ := hx
   have hk := List.mem_range.1 hk
   have hset : ∀ i, (c.set (n - (f + 1)) (k : Int)).getD i 0 = if i = n - (f + 1) then (k : Int) else c.getD i 0 := by
    intro i
    rw [List.getD_eq_getElem?_getD, List.getElem?_set]
    by_cases h : n - (f + 1) = i
    ·rw [if_pos h, if_pos (by omega), if_pos h.symm]; rfl
    ·rw [if_neg h, if_neg (fun e => h e.symm), ← List.getD_eq_getElem?_getD]
   obtain ⟨h1, h2⟩ := ext_le f (by omega) (c.set (n - (f + 1)) (k : Int)) (by simpa using hc) (fun i h1 h2 => by rw [hset, if_neg (by omega)]; exact ht i (by omega) h2) x hx
   refine ⟨h1, fun i hi => ?_⟩
   have h3 := h2 i hi
   rw [hset] at h3
   by_cases h : i = n - (f + 1)
   ·rw [if_pos h] at h3
    have := ht i (by omega) hi
    rw [← h] at hk
    omega
   ·rw [if_neg h] at h3; exact h3
theorem enum_filter (hm : ∀ x y : List Int, x.length = n → (∀ i, i < n → x.getD i 0 ≤ y.getD i 0) → (∀ i, i < n → y.getD i 0 ≤ top.getD i 0) → rec x = true → rec y = true) :
  ∀ f, f ≤ n → ∀ c : List Int, c.length = n → (∀ i, n - f ≤ i → i < n → c.getD i 0 = top.getD i 0) → (∀ i, i < n → c.getD i 0 ≤ top.getD i 0) → enumR rec top n f c = (extL top n f c).filter rec
 | 0, _, c, _, _, _ => by
   simp only [enumR, extL, List.filter_cons, List.filter_nil]
 | f + 1, hf, c, hc, ht, hl => by
   cases h : rec c
   ·rw [enumR_no h]
    symm
    rw [List.filter_eq_nil_iff]
    intro x hx hr
    obtain ⟨h1, h2⟩ := ext_le (f + 1) hf c hc ht x hx
    rw [hm x c h1 h2 hl hr] at h
    cases h
   ·rw [enumR, if_pos h, extL, List.filter_flatMap]
    apply flat_congr
    intro k hk
    have hk := List.mem_range.1 hk
    have hset : ∀ i, (c.set (n - (f + 1)) (k : Int)).getD i 0 = if i = n - (f + 1) then (k : Int) else c.getD i 0 := by
     intro i
     rw [List.getD_eq_getElem?_getD, List.getElem?_set]
     by_cases h : n - (f + 1) = i
     ·rw [if_pos h, if_pos (by omega), if_pos h.symm]; rfl
     ·rw [if_neg h, if_neg (fun e => h e.symm), ← List.getD_eq_getElem?_getD]
    refine enum_filter hm f (by omega) _ (by simpa using hc) (fun i h1 h2 => by rw [hset, if_neg (by omega)]; exact ht i (by omega) h2) (fun i hi => ?_)
    rw [hset]
    split
    ·rename_i e; subst e; omega
    ·exact hl i hi
theorem enum_bel (hm : ∀ x y : List Int, x.length = n → (∀ i, i < n → x.getD i 0 ≤ y.getD i 0) → (∀ i, i < n → y.getD i 0 ≤ top.getD i 0) → rec x = true → rec y = true) (hn : top.length = n) : enumR rec top n n top = (belL top n).filter rec := by
 rw [bel_ext hn]
 exact enum_filter hm n (Nat.le_refl _) top hn (fun _ _ _ => rfl) (fun _ _ => Int.le_refl _)
end
end Go.Proofs.YtnbikkcalcpedaaGreatDoor
namespace Go.Proofs.YtnbikkcalcpedaaGreatDoor
open Go.RowKit
end Go.Proofs.YtnbikkcalcpedaaGreatDoor
