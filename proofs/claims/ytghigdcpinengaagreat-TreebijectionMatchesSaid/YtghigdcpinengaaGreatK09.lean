/-
  Texts of this claim, put together: ValP, PushP, REnumP, RBefore, DEqual, OwnSet, CloneI, Edge.
-/
import Derived.Test.YtghigdcpinengaaGreatK06
import Derived.Test.YtghigdcpinengaaGreatK02
import Derived.Test.YtghigdcpinengaaGreatK03
import Derived.Test.YtghigdcpinengaaGreatK01
import Derived.Deep.QuietTactic
import Derived.BigQuiet
/-! Plain: how many single edges lead from a vertex to others, and to marked ones; by edges and by vertices. -/
namespace Go.Proofs.YtghigdcpinengaaGreat

/-- What an edge gives. -/
def valT (v : Int) (e : Int × Int × Int) : Int := if e.1 ≠ e.2.1 ∧ (e.1 = v ∨ e.2.1 = v) then e.2.2 else 0
def valE (es : List (Int × Int × Int)) (v : Int) : Int := (es.map (valT v)).sum
def jnT (l : List Nat) (v : Int) (e : Int × Int × Int) : Int := if e.1 ≠ e.2.1 ∧ ((e.1 = v ∧ e.2.1.toNat ∈ l) ∨ (e.2.1 = v ∧ e.1.toNat ∈ l)) then e.2.2 else 0
def jnE (es : List (Int × Int × Int)) (l : List Nat) (v : Int) : Int := (es.map (jnT l v)).sum
theorem valT_bd {n : Int} {e : Int × Int × Int} (h : okE n e) (v : Int) : 0 ≤ valT v e ∧ valT v e ≤ 50 := by
  unfold okE at h; unfold valT; split <;> omega
theorem jnT_bd {n : Int} {e : Int × Int × Int} (h : okE n e) (l : List Nat) (v : Int) : 0 ≤ jnT l v e ∧ jnT l v e ≤ 50 := by
  unfold okE at h; unfold jnT; split <;> omega
theorem valE_bd {n : Int} {es : List (Int × Int × Int)} (h : ∀ e ∈ es, okE n e) (v : Int) : 0 ≤ valE es v ∧ valE es v ≤ 50 * es.length := by
  induction es with
  | nil => simp [valE]
  | cons e es ih =>
    have h1 := ih fun x hx => h x (by simp [hx])
    have h2 := valT_bd (h e (by simp)) v
    simp only [valE, List.map_cons, List.sum_cons, List.length_cons] at *
    omega
/-- The sum over the vertices below k that are in the list. -/
theorem flmTo_append {n : Int} {es fs : List (Int × Int × Int)} (h : (es ++ fs).Pairwise ltE) (hok : ∀ e ∈ es, okE n e) (l : List Nat) (v k : Nat) : flmTo (es ++ fs) l v k = flmTo es l v k + flmTo fs l v k := by
  induction k with
  | zero => rfl
  | succ k ih =>
    simp only [flmTo]
    rw [ih, tt_append h hok]
    split <;> omega
theorem flmTo_one {n : Nat} {e : Int × Int × Int} (hok : okE n e) (l : List Nat) (v k : Nat) : flmTo [e] l v k = if e.1 ≠ e.2.1 ∧ ((e.1 = v ∧ e.2.1.toNat ∈ l ∧ e.2.1.toNat < k) ∨ (e.2.1 = v ∧ e.1.toNat ∈ l ∧ e.1.toNat < k)) then e.2.2 else 0 := by
  unfold okE at hok
  induction k with
  | zero => simp [flmTo]
  | succ k ih =>
    simp only [flmTo]
    rw [ih]
    have ht : tt [e] v k = if e.1 ≠ e.2.1 ∧ ((e.1 = v ∧ e.2.1.toNat = k) ∨ (e.2.1 = v ∧ e.1.toNat = k)) then e.2.2 else 0 := by
      unfold tt
      rw [btw_cons, btw_nil]
      by_cases hvk : v = k
      · subst hvk
        rw [if_pos rfl, if_neg (by omega)]
      · rw [if_neg hvk]
        by_cases h2 : e.1 = min (v : Int) (k : Int) ∧ e.2.1 = max (v : Int) (k : Int)
        · rw [if_pos h2, if_pos (by omega)]
        · rw [if_neg h2, if_neg (by omega)]
    rw [ht]
    by_cases hk : k ∈ l
    · rw [if_pos hk]
      by_cases h1 : e.1 ≠ e.2.1 ∧ ((e.1 = v ∧ e.2.1.toNat ∈ l ∧ e.2.1.toNat < k) ∨ (e.2.1 = v ∧ e.1.toNat ∈ l ∧ e.1.toNat < k))
      · rw [if_pos h1, if_neg (by omega), if_pos (match h1 with | ⟨h0, .inl ⟨h2, h3, h4⟩⟩ => ⟨h0, .inl ⟨h2, h3, by omega⟩⟩ | ⟨h0, .inr ⟨h2, h3, h4⟩⟩ => ⟨h0, .inr ⟨h2, h3, by omega⟩⟩)]
        omega
      · rw [if_neg h1]
        by_cases h5 : e.1 ≠ e.2.1 ∧ ((e.1 = v ∧ e.2.1.toNat = k) ∨ (e.2.1 = v ∧ e.1.toNat = k))
        · rw [if_pos h5, if_pos (match h5 with | ⟨h0, .inl ⟨h2, h3⟩⟩ => ⟨h0, .inl ⟨h2, by rw [h3]; exact hk, by omega⟩⟩ | ⟨h0, .inr ⟨h2, h3⟩⟩ => ⟨h0, .inr ⟨h2, by rw [h3]; exact hk, by omega⟩⟩)]
          omega
        · rw [if_neg h5, if_neg (fun ⟨h0, h6⟩ => by
            rcases h6 with ⟨h2, h3, h4⟩ | ⟨h2, h3, h4⟩
            · rcases Nat.lt_or_ge e.2.1.toNat k with h7 | h7
              · exact h1 ⟨h0, .inl ⟨h2, h3, h7⟩⟩
              · exact h5 ⟨h0, .inl ⟨h2, by omega⟩⟩
            · rcases Nat.lt_or_ge e.1.toNat k with h7 | h7
              · exact h1 ⟨h0, .inr ⟨h2, h3, h7⟩⟩
              · exact h5 ⟨h0, .inr ⟨h2, by omega⟩⟩)]
          omega
    · rw [if_neg hk]
      have : (e.1 ≠ e.2.1 ∧ ((e.1 = v ∧ e.2.1.toNat ∈ l ∧ e.2.1.toNat < k + 1) ∨ (e.2.1 = v ∧ e.1.toNat ∈ l ∧ e.1.toNat < k + 1))) ↔ (e.1 ≠ e.2.1 ∧ ((e.1 = v ∧ e.2.1.toNat ∈ l ∧ e.2.1.toNat < k) ∨ (e.2.1 = v ∧ e.1.toNat ∈ l ∧ e.1.toNat < k))) := by
        constructor
        · rintro ⟨h0, ⟨h2, h3, h4⟩ | ⟨h2, h3, h4⟩⟩
          · refine ⟨h0, .inl ⟨h2, h3, ?_⟩⟩
            rcases Nat.lt_or_ge e.2.1.toNat k with h7 | h7
            · exact h7
            · rw [show e.2.1.toNat = k by omega] at h3; exact absurd h3 hk
          · refine ⟨h0, .inr ⟨h2, h3, ?_⟩⟩
            rcases Nat.lt_or_ge e.1.toNat k with h7 | h7
            · exact h7
            · rw [show e.1.toNat = k by omega] at h3; exact absurd h3 hk
        · rintro ⟨h0, ⟨h2, h3, h4⟩ | ⟨h2, h3, h4⟩⟩
          · exact ⟨h0, .inl ⟨h2, h3, by omega⟩⟩
          · exact ⟨h0, .inr ⟨h2, h3, by omega⟩⟩
      simp only [this]
      omega
theorem jnE_flm {n : Nat} {es : List (Int × Int × Int)} (h : RightG n es) (l : List Nat) (v : Nat) : jnE es l v = flmTo es l v n := by
  have hs := h.sorted
  have hok := h.ok
  clear h
  induction es using snocRec with
  | h0 =>
    have : ∀ k, flmTo [] l v k = 0 := fun k => by
      induction k with
      | zero => rfl
      | succ k ih => simp only [flmTo]; rw [ih]; simp [tt, btw]
    rw [this]; rfl
  | h1 es e ih =>
    have hs1 : es.Pairwise ltE := (List.pairwise_append.1 hs).1
    have ho1 : ∀ x ∈ es, okE n x := fun x hx => hok x (by simp [hx])
    have hoe := hok e (by simp)
    rw [flmTo_append hs ho1, ← ih hs1 ho1, flmTo_one hoe]
    unfold jnE
    rw [List.map_append, List.sum_append]
    simp only [List.map_cons, List.map_nil, List.sum_cons, List.sum_nil, Int.add_zero]
    congr 1
    unfold jnT
    unfold okE at hoe
    have : (e.1 ≠ e.2.1 ∧ ((e.1 = (v : Int) ∧ e.2.1.toNat ∈ l) ∨ (e.2.1 = (v : Int) ∧ e.1.toNat ∈ l))) ↔ (e.1 ≠ e.2.1 ∧ ((e.1 = (v : Int) ∧ e.2.1.toNat ∈ l ∧ e.2.1.toNat < n) ∨ (e.2.1 = (v : Int) ∧ e.1.toNat ∈ l ∧ e.1.toNat < n))) := by
      constructor
      · rintro ⟨h0, ⟨h2, h3⟩ | ⟨h2, h3⟩⟩
        · exact ⟨h0, .inl ⟨h2, h3, by omega⟩⟩
        · exact ⟨h0, .inr ⟨h2, h3, by omega⟩⟩
      · rintro ⟨h0, ⟨h2, h3, _⟩ | ⟨h2, h3, _⟩⟩
        · exact ⟨h0, .inl ⟨h2, h3⟩⟩
        · exact ⟨h0, .inr ⟨h2, h3⟩⟩
    simp only [this]
theorem valE_jn {n : Nat} {es : List (Int × Int × Int)} (hok : ∀ e ∈ es, okE n e) (v : Int) : valE es v = jnE es (List.range n) v := by
  induction es with
  | nil => rfl
  | cons e es ih =>
    have h1 := ih fun x hx => hok x (by simp [hx])
    have h2 := hok e (by simp)
    unfold okE at h2
    unfold valE jnE at *
    simp only [List.map_cons, List.sum_cons]
    rw [h1]
    congr 1
    unfold valT jnT
    have : (e.1 ≠ e.2.1 ∧ (e.1 = v ∨ e.2.1 = v)) ↔ (e.1 ≠ e.2.1 ∧ ((e.1 = v ∧ e.2.1.toNat ∈ List.range n) ∨ (e.2.1 = v ∧ e.1.toNat ∈ List.range n))) := by
      simp only [List.mem_range]
      constructor
      · rintro ⟨h0, h | h⟩
        · exact ⟨h0, .inl ⟨h, by omega⟩⟩
        · exact ⟨h0, .inr ⟨h, by omega⟩⟩
      · rintro ⟨h0, ⟨h, _⟩ | ⟨h, _⟩⟩
        · exact ⟨h0, .inl h⟩
        · exact ⟨h0, .inr h⟩
    simp only [this]
end Go.Proofs.YtghigdcpinengaaGreat

/-! Plain laws of pushing: what one round does to the chips, as the program and as the reference count it. No program is in sight. -/
namespace Go.Proofs.YtghigdcpinengaaGreat

/-- More at a place of a list. -/
def addAt (xs : List Int) (i : Nat) (d : Int) : List Int := xs.set i (xs.getD i 0 + d)
/-- All numbers of a list are from -M to M. -/
def Bd (M : Int) (xs : List Int) : Prop := ∀ x ∈ xs, -M ≤ x ∧ x ≤ M
theorem Bd.at_ {M : Int} {xs : List Int} (h : Bd M xs) {i : Nat} {x : Int} (hi : xs[i]? = some x) : -M ≤ x ∧ x ≤ M := h x (List.mem_of_getElem? hi)
theorem Bd.mono {M M' : Int} {xs : List Int} (h : Bd M xs) (hm : M ≤ M') : Bd M' xs := fun x hx => by have := h x hx; omega
theorem Bd.set_ {M : Int} {xs : List Int} (h : Bd M xs) (i : Nat) {y : Int} (hy : -M ≤ y ∧ y ≤ M) : Bd M (xs.set i y) := by
  intro x hx
  rcases List.mem_or_eq_of_mem_set hx with h1 | h1
  · exact h x h1
  · subst h1; exact hy
/-- What a vertex gives to the burnt ones below k. -/
def giveTo (es : List (Int × Int × Int)) (b : List Nat) (v : Nat) (xs : List Int) : Nat → List Int
  | 0 => xs
  | k + 1 => if k ∈ b then addAt (giveTo es b v xs k) k (tt es v k) else giveTo es b v xs k
def fireV (es : List (Int × Int × Int)) (b : List Nat) (n : Nat) (xs : List Int) (v : Nat) : List Int := giveTo es b v (addAt xs v (-(flmTo es b v n))) n
def fireL (es : List (Int × Int × Int)) (b : List Nat) (n : Nat) (xs : List Int) (l : List Nat) : List Int := l.foldl (fireV es b n) xs
def bumpL (xs : List Int) (l : List Nat) : List Int := l.foldl (fun s v => addAt s v 1) xs
section
variable {es : List (Int × Int × Int)} {b : List Nat} {n v : Nat} {xs : List Int} {N : Int}
end

/-- What one round makes of the chips. -/
def stepC (es : List (Int × Int × Int)) (n q : Nat) (c : List Int) : List Int := (fireL es (burntL es c n q) n c (restL n (burntL es c n q))).set q 0
def leftC (es : List (Int × Int × Int)) (n q : Nat) (c : List Int) : List Nat := restL n (burntL es c n q)
/-- All rounds: none if there are too many. -/
inductive PushR (es : List (Int × Int × Int)) (n q : Nat) : List Int → List Int → Nat → Option (List Int × List Int) → Prop
  | done {c s m} : leftC es n q c = [] → PushR es n q c s m (some (c, s))
  | over {c s m} : leftC es n q c ≠ [] → 1048576 < m + (leftC es n q c).length → PushR es n q c s m none
  | step {c s m r} : leftC es n q c ≠ [] → m + (leftC es n q c).length ≤ 1048576 → PushR es n q (stepC es n q c) (bumpL s (leftC es n q c)) (m + (leftC es n q c).length) r → PushR es n q c s m r
theorem PushR.total (es : List (Int × Int × Int)) (n q : Nat) (f : Nat) : ∀ c s m, 1048576 < m + f → ∃ r, PushR es n q c s m r := by
  induction f with
  | zero =>
    intro c s m h
    by_cases h1 : leftC es n q c = []
    · exact ⟨_, .done h1⟩
    · exact ⟨_, .over h1 (by omega)⟩
  | succ f ih =>
    intro c s m h
    by_cases h1 : leftC es n q c = []
    · exact ⟨_, .done h1⟩
    · have hp := List.length_pos_iff.2 h1
      by_cases h2 : m + (leftC es n q c).length ≤ 1048576
      · obtain ⟨r, hr⟩ := ih (stepC es n q c) (bumpL s (leftC es n q c)) (m + (leftC es n q c).length) (by omega)
        exact ⟨r, .step h1 h2 hr⟩
      · exact ⟨_, .over h1 (by omega)⟩
def sumTo (f : Nat → Int) : Nat → Int
  | 0 => 0
  | k + 1 => sumTo f k + f k
theorem sumTo_congr {f g : Nat → Int} : ∀ {k : Nat}, (∀ i, i < k → f i = g i) → sumTo f k = sumTo g k
  | 0, _ => rfl
  | k + 1, h => by rw [sumTo, sumTo, sumTo_congr (k := k) fun i hi => h i (by omega), h k (by omega)]
section
variable {es : List (Int × Int × Int)} {s : List Int} {n v : Nat} {xs : List Int} {N : Int}
end
end Go.Proofs.YtghigdcpinengaaGreat

/-! Plain laws of pushing: what a script has moved; there is one superstable configuration at most that a script leads to. No program is in sight. -/
namespace Go.Proofs.YtghigdcpinengaaGreat

theorem sumTo_add (f g : Nat → Int) : ∀ k, sumTo (fun i => f i + g i) k = sumTo f k + sumTo g k
  | 0 => rfl
  | k + 1 => by rw [sumTo, sumTo, sumTo, sumTo_add f g k]; omega
theorem sumTo_zero {f : Nat → Int} {k : Nat} (h : ∀ i, i < k → f i = 0) : sumTo f k = 0 := by
  induction k with
  | zero => rfl
  | succ k ih => rw [sumTo, ih fun i hi => h i (by omega), h k (by omega)]; rfl
theorem sumTo_le {f g : Nat → Int} {k : Nat} (h : ∀ i, i < k → f i ≤ g i) : sumTo f k ≤ sumTo g k := by
  induction k with
  | zero => exact Int.le_refl _
  | succ k ih => rw [sumTo, sumTo]; have := ih fun i hi => h i (by omega); have := h k (by omega); omega
end Go.Proofs.YtghigdcpinengaaGreat

/-! Plain laws of pushing: how often vertices fire. No program is in sight. -/
namespace Go.Proofs.YtghigdcpinengaaGreat

section
variable {es : List (Int × Int × Int)} {n q : Nat} {c d s : List Int} {T : Int}
end
end Go.Proofs.YtghigdcpinengaaGreat

/-! Plain: lists below a list, in lexicographic order; those with a property that what is more has too. No program is in sight. -/
namespace Go.Proofs.YtghigdcpinengaaGreat

/-- All lists that go on like this. -/
def extL (top : List Int) (n : Nat) : Nat → List Int → List (List Int)
  | 0, c => [c]
  | f + 1, c => (List.range ((top.getD (n - (f + 1)) 0) + 1).toNat).flatMap fun k : Nat => extL top n f (c.set (n - (f + 1)) (k : Int))
/-- The lists of v numbers below. -/
def belL (top : List Int) : Nat → List (List Int)
  | 0 => [[]]
  | v + 1 => (belL top v).flatMap fun p => (List.range ((top.getD v 0) + 1).toNat).map fun k : Nat => p ++ [(k : Int)]
theorem flat_congr {α β : Type} {f g : α → List β} : ∀ {l : List α}, (∀ a ∈ l, f a = g a) → l.flatMap f = l.flatMap g
  | [], _ => rfl
  | a :: l, h => by rw [List.flatMap_cons, List.flatMap_cons, h a (by simp), flat_congr fun b hb => h b (by simp [hb])]
section
variable {rec : List Int → Bool} {top : List Int} {n f v k : Nat} {c : List Int}
theorem extL_some (hv : v + (f + 1) = n) : extL top n (f + 1) c = (List.range ((top.getD v 0) + 1).toNat).flatMap fun k : Nat => extL top n f (c.set v (k : Int)) := by
  obtain rfl : n - (f + 1) = v := by omega
  rfl
theorem set_drop {p : List Int} (hv : v < top.length) (hp : p.length = v) (x : Int) : (p ++ top.drop v).set v x = (p ++ [x]) ++ top.drop (v + 1) := by
  rw [List.set_append_right _ _ (by omega), hp, Nat.sub_self, List.drop_eq_getElem_cons hv, List.set_cons_zero, List.append_assoc]
  rfl
theorem belL_length : ∀ v, ∀ p ∈ belL top v, p.length = v
  | 0, p, h => by simp [belL] at h; simp [h]
  | v + 1, p, h => by
    rw [belL, List.mem_flatMap] at h
    obtain ⟨x, hx, h⟩ := h
    rw [List.mem_map] at h
    obtain ⟨k, _, rfl⟩ := h
    simp [belL_length v x hx]
theorem ext_bel (hn : top.length = n) : ∀ f v, v + f = n → ((belL top v).flatMap fun p => extL top n f (p ++ top.drop v)) = belL top n
  | 0, v, h => by
    obtain rfl : v = n := by omega
    have h1 : ∀ p, p ++ top.drop v = p := fun p => by rw [List.drop_eq_nil_of_le (by omega), List.append_nil]
    simp only [h1, extL]
    simp
  | f + 1, v, h => by
    rw [← ext_bel hn f (v + 1) (by omega), belL, List.flatMap_assoc]
    apply flat_congr
    intro p hp
    rw [extL_some h, List.flatMap_map]
    apply flat_congr
    intro k hk
    rw [set_drop (by omega) (belL_length v p hp)]
theorem bel_ext (hn : top.length = n) : belL top n = extL top n n top := by
  have := ext_bel hn n 0 (by omega)
  simpa [belL] using this.symm
end
end Go.Proofs.YtghigdcpinengaaGreat

/-! ref10.Before: the order of lists of ints. -/
namespace Go.Proofs.YtghigdcpinengaaGreat
open Go.RowKit

theorem bfI_drop {xs ys : List Int} {k : Nat} {x y : Int} (h : xs[k]? = some x) (h' : ys[k]? = some y) : bfI (xs.drop k) (ys.drop k) = if x = y then bfI (xs.drop (k + 1)) (ys.drop (k + 1)) else decide (x < y) := by
  obtain ⟨l1, e1⟩ := List.getElem?_eq_some_iff.1 h
  obtain ⟨l2, e2⟩ := List.getElem?_eq_some_iff.1 h'
  rw [List.drop_eq_getElem_cons l1, List.drop_eq_getElem_cons l2, e1, e2, bfI]

set_option maxHeartbeats 1000000 in
theorem rbefore_any (A : Option Addr) (c : Nat) (xs : List Int) (B : Option Addr) (d : Nat) (ys : List Int) (hn : xs.length ≤ 1048576) (w : World) (h : Reads w w.heap.size 1 A xs.length (ints xs)) (h' : Reads w w.heap.size 1 B ys.length (ints ys)) :
    Calls Tryz.prog 80 #[.slice A xs.length c, .slice B ys.length d] w fun e w' => e = .returned (.bool (bfI xs ys)) ∧ Below w.heap.size w w' := by
  go_enter Tryz.func80, Tryz.ntmps80
  go_wp2_with fail
  go_loopw [5] (fun i wr => ∃ k : Nat, k ≤ xs.length ∧ k ≤ ys.length ∧ i = .int .i64 k ∧ Hid (Below w.heap.size w wr) ∧ Hid (bfI xs ys = bfI (xs.drop k) (ys.drop k))) (fun i _ => xs.length - (intOf i).toNat)
  case atStart => exact ⟨0, by omega, by omega, rfl, Below.refl _ _, by simp [Hid]⟩
  case round =>
    obtain ⟨k, hk, hk', rfl, HW, HS⟩ := hrel
    by_cases hlt : k < xs.length
    · by_cases hlt' : k < ys.length
      · obtain ⟨x, hx⟩ := get_of_lt hlt
        obtain ⟨y, hy⟩ := get_of_lt hlt'
        have hd := bfI_drop hx hy
        obtain ⟨b, off, rfl, hb, hcell⟩ := (h.below HW.out).at_ (ints_at hx)
        obtain ⟨b', off', rfl, hb', hcell'⟩ := (h'.below HW.out).at_ (ints_at hy)
        have hi : (k : Int) < (xs.length : Int) := by omega
        have hi' : (k : Int) < (ys.length : Int) := by omega
        have HD := Lib.hid hd
        clear hx hy hd h h'
        by_cases hxy : x = y
        · have hq : (x != y) = false := by simp [hxy]
          have HN := Lib.hid (HS.out.trans (HD.out.trans (if_pos hxy)))
          clear hxy
          go_wp2
          go_quiet (fail)
          go_wp2
          go_roundw
          case rel => exact ⟨k + 1, by omega, by omega, by go_num, below_drewN HW.out _, HN⟩
          case measure => simp [intOf]; omega
        · have hq : (x != y) = true := by simpa using hxy
          have HN := Lib.hid (HS.out.trans (HD.out.trans (if_neg hxy)))
          clear hxy
          go_wp2
          go_quiet (fail)
          go_wp2
          go_quiet (fail)
          go_wp2
          go_ret
          exact ⟨ret_bool HN.out.symm, by exact below_drewN (below_drewN HW.out _) _⟩
      · obtain rfl : k = ys.length := by omega
        have HN : Hid (bfI xs ys = false) := by
          rw [Hid, HS.out, List.drop_length]
          cases xs.drop ys.length <;> rfl
        have hi : ((ys.length : Nat) : Int) < (xs.length : Int) := by omega
        have hq : ¬ (xs.length : Int) < (ys.length : Int) := by omega
        go_wp2
        go_ret
        exact ⟨ret_bool (by rw [HN.out]), HW.out⟩
    · obtain rfl : k = xs.length := by omega
      have HN : Hid (bfI xs ys = decide ((xs.length : Int) < (ys.length : Int))) := by
        rw [Hid, HS.out, List.drop_length]
        cases hd : ys.drop xs.length with
        | nil =>
          have := congrArg List.length hd
          rw [List.length_drop] at this
          simp at this
          simp [bfI]; omega
        | cons y l =>
          have := congrArg List.length hd
          rw [List.length_drop] at this
          simp at this
          simp [bfI]; omega
      go_wp2
      go_ret
      exact ⟨ret_bool (by rw [HN.out, decide_eq_decide]; omega), HW.out⟩
end Go.Proofs.YtghigdcpinengaaGreat

/-! slices.Equal on divisors. -/
namespace Go.Proofs.YtghigdcpinengaaGreat
open Go.RowKit

set_option maxHeartbeats 800000 in
theorem dequal_any (A : Option Addr) (c : Nat) (xs : List Int) (B : Option Addr) (d : Nat) (ys : List Int) (hn : xs.length ≤ 1048576) (w : World) (h : Reads w w.heap.size 1 A xs.length (ints xs)) (h' : Reads w w.heap.size 1 B ys.length (ints ys)) :
    Calls Tryz.prog 28 #[.slice A xs.length c, .slice B ys.length d] w fun e w' => e = .returned (.bool (decide (xs = ys))) ∧ Below w.heap.size w w' := by
  by_cases hl : xs.length = ys.length
  · have HL := Lib.hid hl
    have hb : ((xs.length : Int) != (ys.length : Int)) = false := by simp; omega
    clear hl
    go_enter Tryz.func28, Tryz.ntmps28
    go_wp2
    clear hb
    go_loopw [13] (fun i wr => ∃ k : Nat, k ≤ xs.length ∧ i = .int .i64 k ∧ Below w.heap.size w wr ∧ Hid (xs.take k = ys.take k)) (fun i _ => xs.length - (intOf i).toNat)
    case atStart => exact ⟨0, by omega, rfl, Below.refl _ _, by simp [Hid]⟩
    case round =>
      obtain ⟨k, hk, rfl, hbel, HS⟩ := hrel
      by_cases hlt : k < xs.length
      · obtain ⟨x, hx⟩ := get_of_lt hlt
        obtain ⟨y, hy⟩ := get_of_lt (xs := ys) (k := k) (by have := HL.out; omega)
        have HX := Lib.hid hx
        have HY := Lib.hid hy
        obtain ⟨b, off, rfl, hb, hcell⟩ := (h.below hbel).at_ (ints_at hx)
        obtain ⟨b', off', rfl, hb', hcell'⟩ := (h'.below hbel).at_ (ints_at hy)
        have hi : (k : Int) < (xs.length : Int) := by omega
        have hi' : (k : Int) < (ys.length : Int) := by have := HL.out; omega
        clear hx hy h h'
        by_cases hxy : x = y
        · subst hxy
          go_wp2
          go_quiet (fail)
          go_wp2
          go_roundw
          case rel => exact ⟨k + 1, by omega, by go_num, below_drewN hbel _, by rw [Hid, take_snoc HX.out, take_snoc HY.out, HS.out]⟩
          case measure => simp [intOf]; omega
        · have hbx : (x != y) = true := by simpa using hxy
          go_wp2
          go_quiet (fail)
          go_wp2
          go_ret
          refine ⟨ret_bool ?_, below_drewN hbel _⟩
          have : ¬ xs = ys := fun e => hxy (by have h1 := HX.out; rw [e, HY.out] at h1; injection h1 with h1; exact h1.symm)
          simp [this]
      · go_wp2
        go_ret
        refine ⟨ret_bool ?_, hbel⟩
        have e : xs = ys := by have h1 := HS.out; rw [show k = xs.length from by omega, List.take_length, HL.out, List.take_length] at h1; exact h1
        simp [e]
  · have hb : ((xs.length : Int) != (ys.length : Int)) = true := by simp; omega
    go_enter Tryz.func28, Tryz.ntmps28
    go_wp2
    go_ret
    have : ¬ xs = ys := fun e => hl (by rw [e])
    exact ⟨ret_bool (by simp [this]), Below.refl _ _⟩
end Go.Proofs.YtghigdcpinengaaGreat

/-! slices.Equal on ints and on scripts. -/
namespace Go.Proofs.YtghigdcpinengaaGreat
open Go.RowKit

end Go.Proofs.YtghigdcpinengaaGreat

/-! A slice of ints of the call's own: its block, and a store into it. -/
namespace Go.Proofs.YtghigdcpinengaaGreat
open Go.RowKit

theorem OwnI.block {w : World} {base : Nat} {A : Option Addr} {c : Nat} {xs : List Int} (h : OwnI w base A c xs) (hn : 0 < xs.length) : ∃ g, A = some ⟨g, 0, none⟩ ∧ base ≤ g ∧ (∀ i, w.frozen? ⟨g, i, none⟩ = false) ∧ ∀ (k : Nat) (x : Int), xs[k]? = some x → w.cell? ⟨g, k, none⟩ = some (.int .i64 x) := by
  obtain ⟨h1, h2⟩ := h
  rcases h2 with ⟨h2, h3⟩ | ⟨g, cap, cur, hv, hg, hh, r1, r2, r3, r4⟩
  · simp at h2; omega
  · injection hv with hv1 hv2 hv3
    have hb : Blk w g 3 cur := hh
    refine ⟨g, hv1, hg, hb.frozen, fun k x hk => ?_⟩
    rw [hb.cell k]
    have hk' : k < xs.length := (List.getElem?_eq_some_iff.1 hk).1
    have e1 : (cur.toList.take (xs.length * 1))[k]? = some (.int .i64 x) := by rw [r4, ints_at hk]
    rw [Nat.mul_one, List.getElem?_take_of_lt hk', Array.getElem?_toList] at e1
    exact e1
theorem OwnI.set {w : World} {base : Nat} {A : Option Addr} {c g : Nat} {xs : List Int} (h : OwnI w base A c xs) (hA : A = some ⟨g, 0, none⟩) (k : Nat) (x : Int) : OwnI (w.setCell ⟨g, k, none⟩ (.int .i64 x)) base A c (xs.set k x) := by
  obtain ⟨h1, h2⟩ := h
  rcases h2 with ⟨h2, h3⟩ | ⟨g', cap, cur, hv, hg, hh, r1, r2, r3, r4⟩
  · simp at h2; rw [hA] at h2; simp at h2
  · have hv1 : A = some ⟨g', 0, none⟩ := by injection hv
    rw [hA] at hv1
    have hgg : g = g' := by injection hv1 with hv1; injection hv1
    subst hgg
    refine ⟨by rw [ints_length]; simp, .inr ⟨g, cap, cur.setIfInBounds k (.int .i64 x), by rw [List.length_set]; exact hv, hg, (Blk.set_ (show Blk w g 3 cur from hh) k _), by rw [List.length_set]; exact r1, r2, by simpa using r3, ?_⟩⟩
    rw [Array.toList_setIfInBounds, List.take_set, List.length_set, r4]
    simp [ints, List.map_set]
theorem OwnI.at_ {w : World} {base c g : Nat} {xs : List Int} (h : OwnI w base (some ⟨g, 0, none⟩) c xs) (hn : 0 < xs.length) : base ≤ g ∧ g < w.heap.size ∧ (∀ i, w.frozen? ⟨g, i, none⟩ = false) ∧ ∀ (k : Nat) (x : Int), xs[k]? = some x → w.cell? ⟨g, k, none⟩ = some (.int .i64 x) := by
  obtain ⟨g', e, h1, h2, h3⟩ := h.block hn
  injection e with e
  injection e with e
  subst e
  exact ⟨h1, (own_lt h ⟨_, rfl, rfl⟩).2, h2, h3⟩
theorem OwnI.put {w : World} {base c g : Nat} {xs : List Int} (h : OwnI w base (some ⟨g, 0, none⟩) c xs) (k : Nat) (x : Int) : OwnI (w.setCell ⟨g, k, none⟩ (.int .i64 x)) base (some ⟨g, 0, none⟩) c (xs.set k x) := h.set rfl k x
theorem OwnI.other {w : World} {base c g : Nat} {xs : List Int} (h : OwnI w base (some ⟨g, 0, none⟩) c xs) {p : Addr} (hp : p.block ≠ g) (u : Value) : OwnI (w.setCell p u) base (some ⟨g, 0, none⟩) c xs :=
  own_kept h fun k hk => by
    obtain ⟨a, ha, hk⟩ := hk
    injection ha with ha
    subst ha
    exact Below.heap_setCell w p u k (fun e => hp (by rw [← e, ← hk]))
theorem OwnI.kept {w w' : World} {base c g : Nat} {xs : List Int} (h : OwnI w base (some ⟨g, 0, none⟩) c xs) (hp : w'.heap[g]? = w.heap[g]?) : OwnI w' base (some ⟨g, 0, none⟩) c xs :=
  own_kept h fun k hk => by
    obtain ⟨a, ha, hk⟩ := hk
    injection ha with ha
    subst ha
    subst hk
    exact hp
end Go.Proofs.YtghigdcpinengaaGreat

/-! slices.Clone on ints. -/
namespace Go.Proofs.YtghigdcpinengaaGreat
open Go.RowKit

set_option maxHeartbeats 400000 in
/-- slices.Clone on ints. -/
theorem clone_any (A : Option Addr) (c : Nat) (xs : List Int) (hn : xs.length ≤ 1048000) (w : World) (h : Reads w w.heap.size 1 A xs.length (ints xs)) :
    Calls Tryz.prog 108 #[.slice A xs.length c] w fun e w' =>
      ∃ A' c', e = .returned (.slice A' xs.length c') ∧ OwnI w' w.heap.size A' c' xs ∧ Below w.heap.size w w' := by
  have q22 : ∀ (w : World) (a : Option Addr) (n c n' c' : Nat), (binOp .eql 25 (.slice a n c) (.slice none n' c')).run Tryz.prog w = .ok (.bool a.isNone) w := fun w a n c n' c' => Lib.run_eql_slice_nil w _ _ a n c n' c' Tryz.underlying25
  rcases A with _ | ad
  · have hx : xs = [] := by
      rcases xs with _ | ⟨x, xs⟩
      · rfl
      · obtain ⟨_, _, h, _⟩ := h.2 (by simp)
        cases h
    subst hx
    go_enter Tryz.func108, Tryz.ntmps108
    go_wp2
    go_ret
    exact ⟨none, 0, rfl, OwnI.nil_ _ _, Below.refl _ _⟩
  · go_enter Tryz.func108, Tryz.ntmps108
    have hown0 : (w.alloc (.cells #[] 3)).ownsRow w.heap.size 3 1 (.slice (some ⟨w.heap.size, 0, none⟩) 0 0) 0 [] := World.ownsRow_made w #[] 0 (Nat.le_refl _) (by simp [maxLen]) (by simp)
    have hr := h.alloc (Nat.le_refl _) (.cells #[] 3)
    go_wp2_with (at_builtin; refine append_go rfl (.tmp 5) (.tmp 6) _ rfl w.heap.size 3 Tryz.underlying25 info_int rfl (by omega) (some ⟨w.heap.size, 0, none⟩) 0 0 [] rfl hown0 w.heap.size (ints xs) rfl hr (by simp [ints, Value.oneCell']) (by omega) (by simp) ?_; intro A' c' w' hown' _ hb' _)
    go_ret
    refine ⟨A', c', rfl, ?_, ((Below.refl _ _).alloc (Nat.le_refl _) _).trans hb'⟩
    rw [Nat.zero_add, List.nil_append] at hown'
    exact hown'

end Go.Proofs.YtghigdcpinengaaGreat

/-! Graphs: slices of edges (three cells each) and of pairs (two cells each); the reference's equality of graphs. -/
namespace Go.Proofs.YtghigdcpinengaaGreat
open Go.RowKit

/-- An edge: its ends, and how often. -/
abbrev E3 := Int × Int × Int
def edgeCells : List E3 → List Value
  | [] => []
  | e :: es => .int .i64 e.1 :: .int .i64 e.2.1 :: .int .i64 e.2.2 :: edgeCells es
theorem edgeCells_length (es : List E3) : (edgeCells es).length = es.length * 3 := by
  induction es with
  | nil => rfl
  | cons e es ih => simp [edgeCells, ih]; omega
theorem edgeCells_at {es : List E3} {k : Nat} {e : E3} (h : es[k]? = some e) :
    (edgeCells es)[k * 3]? = some (.int .i64 e.1) ∧ (edgeCells es)[k * 3 + 1]? = some (.int .i64 e.2.1) ∧ (edgeCells es)[k * 3 + 2]? = some (.int .i64 e.2.2) := by
  induction es generalizing k with
  | nil => simp at h
  | cons f es ih =>
    rcases k with _ | k
    · simp at h; subst h; simp [edgeCells]
    · have := ih (k := k) (by simpa using h)
      rw [show (k + 1) * 3 = k * 3 + 1 + 1 + 1 from by omega, show k * 3 + 1 + 1 + 1 + 1 = (k * 3 + 1) + 1 + 1 + 1 from by omega, show k * 3 + 1 + 1 + 1 + 2 = (k * 3 + 2) + 1 + 1 + 1 from by omega]
      simpa [edgeCells] using this
theorem Reads.edge {w : World} {B n : Nat} {A : Option Addr} {es : List E3} {k : Nat} {e : E3} (h : Reads w B 3 A n (edgeCells es)) (he : es[k]? = some e) :
    ∃ b off, A = some ⟨b, off, none⟩ ∧ b < B ∧ w.cell? ⟨b, off + k * 3, none⟩ = some (.int .i64 e.1) ∧ w.cell? ⟨b, off + k * 3 + 1, none⟩ = some (.int .i64 e.2.1) ∧ w.cell? ⟨b, off + k * 3 + 1 + 1, none⟩ = some (.int .i64 e.2.2) := by
  have hk : k < es.length := (List.getElem?_eq_some_iff.1 he).1
  have hl := h.1
  rw [edgeCells_length] at hl
  obtain ⟨b, off, hA, hb, hc⟩ := h.2 (by omega)
  obtain ⟨h1, h2, h3⟩ := edgeCells_at he
  exact ⟨b, off, hA, hb, hc _ _ h1, by have := hc _ _ h2; rwa [show off + (k * 3 + 1) = off + k * 3 + 1 from by omega] at this, by have := hc _ _ h3; rwa [show off + (k * 3 + 2) = off + k * 3 + 1 + 1 from by omega] at this⟩

/-- The slice value is the call's own row of edges. -/
def OwnE (w : World) (base : Nat) (A : Option Addr) (c : Nat) (es : List E3) : Prop := w.ownsRow base 104 3 (.slice A es.length c) es.length (edgeCells es)
section
variable {w w' : World} {base : Nat} {A : Option Addr} {c : Nat} {es : List E3}
theorem OwnE.nil_ (w : World) (base : Nat) : OwnE w base none 0 [] := World.ownsRow_nil _ _ _ _
theorem OwnE.reads (h : OwnE w base A c es) : Reads w w.heap.size 3 A es.length (edgeCells es) := Reads.of_own h
theorem OwnE.alloc (h : OwnE w base A c es) (o : Obj) : OwnE (w.alloc o) base A c es := World.ownsRow.alloc h o
theorem OwnE.drewN (h : OwnE w base A c es) (n : Nat) : OwnE (w.drewN n) base A c es := h
theorem OwnE.lt (h : OwnE w base A c es) : ∀ k, blockOf A k → base ≤ k ∧ k < w.heap.size := fun k hk => World.ownsRow.lt h k (blockOf_own.2 hk)
theorem OwnE.kept (h : OwnE w base A c es) (hk : ∀ k, blockOf A k → w'.heap[k]? = w.heap[k]?) : OwnE w' base A c es := by
  obtain ⟨h1, h2⟩ := h
  refine ⟨h1, ?_⟩
  rcases h2 with h2 | ⟨g, cap, cur, hv, hg, hh, r⟩
  · exact .inl h2
  · have hgb : (Value.slice A es.length c).ownBlock = some g := by rw [hv]; rfl
    exact .inr ⟨g, cap, cur, hv, hg, (hk g (blockOf_own.1 hgb)).trans hh, r⟩
theorem OwnE.next (h : OwnE w base A c es) (hb : Below w.heap.size w w') : OwnE w' base A c es := h.kept fun k hk => hb.block k (h.lt k hk).2
theorem OwnE.mono {base' : Nat} (h : OwnE w base A c es) (hb : base' ≤ base) : OwnE w base' A c es := by
  obtain ⟨h1, h2⟩ := h
  refine ⟨h1, ?_⟩
  rcases h2 with h2 | ⟨g, cap, cur, hv, hg, r⟩
  · exact .inl h2
  · exact .inr ⟨g, cap, cur, hv, by omega, r⟩
theorem OwnE.set_blk {g : Nat} {t : TypeId} {cs : Array Value} (h : OwnE w base A c es) (hg : Blk w g t cs) (ht : 104 ≠ t) (o : Nat) (u : Value) : OwnE (w.setCell ⟨g, o, none⟩ u) base A c es := by
  have hne := own_blk_ne h hg ht
  refine h.kept fun k hk => Below.heap_setCell w ⟨g, o, none⟩ u k ?_
  rintro rfl
  exact hne (blockOf_own.2 hk).symm
end
end Go.Proofs.YtghigdcpinengaaGreat

