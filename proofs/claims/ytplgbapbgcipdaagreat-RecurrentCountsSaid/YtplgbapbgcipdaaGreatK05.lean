/-
  Texts of this claim, put together: HeapP, Results, BurnP, RegHeld, BitP, RegTake, Law.
-/
import Derived.Test.YtplgbapbgcipdaaGreatK03
import Derived.Test.YtplgbapbgcipdaaGreatRows
import Derived.Test.YtplgbapbgcipdaaGreatK01
import Derived.Laws.Rows
import Derived.Laws.ResultCell
import Derived.Test.YtplgbapbgcipdaaGreatK02
import Derived.Deep.RegionHeld
import Derived.Deep.RegionLaw
import Derived.WalkKit
import Derived.ProofKit
import Derived.OpenShut
import Derived.ShutString
import Derived.ChangeOld
import Derived.Below
/-! Heaps of ints in a list, as container/heap keeps them: sifting up and down. No program is in sight. -/
namespace Go.Proofs.YtplgbapbgcipdaaGreat

def hp (H : List Int) (k : Nat) : Int := H.getD k 0
def swp (H : List Int) (i j : Nat) : List Int := (H.set i (hp H j)).set j (hp H i)
theorem hp_set {H : List Int} {i : Nat} (h : i < H.length) (x : Int) (k : Nat) : hp (H.set i x) k = if k = i then x else hp H k := by
  unfold hp
  rw [List.getD_eq_getElem?_getD, List.getElem?_set]
  by_cases hk : k = i
  · subst hk; rw [if_pos rfl, if_pos rfl, if_pos h]; rfl
  · rw [if_neg (fun e => hk e.symm), if_neg hk, List.getD_eq_getElem?_getD]
theorem swp_length (H : List Int) (i j : Nat) : (swp H i j).length = H.length := by simp [swp]
theorem hp_swp {H : List Int} {i j : Nat} (hi : i < H.length) (hj : j < H.length) (k : Nat) : hp (swp H i j) k = if k = j then hp H i else if k = i then hp H j else hp H k := by
  unfold swp
  rw [hp_set (by simpa using hj), hp_set hi]
/-- The first n are a heap. -/
def HeapN (H : List Int) (n : Nat) : Prop := ∀ k, 0 < k → k < n → hp H ((k - 1) / 2) ≤ hp H k
/-- A heap but for one that may be too small. -/
structure UpI (H : List Int) (n j : Nat) : Prop where
  lt : j < n
  le : n ≤ H.length
  rest : ∀ k, 0 < k → k < n → k ≠ j → hp H ((k - 1) / 2) ≤ hp H k
  kids : ∀ k, 0 < k → k < n → (k - 1) / 2 = j → 0 < j → hp H ((j - 1) / 2) ≤ hp H k
theorem UpI.step {H : List Int} {n j : Nat} (h : UpI H n j) (hj : 0 < j) (hlt : hp H j < hp H ((j - 1) / 2)) : UpI (swp H ((j - 1) / 2) j) n ((j - 1) / 2) := by
  obtain ⟨h1, h2, h3, h4⟩ := h
  obtain ⟨i, hi⟩ : ∃ i, (j - 1) / 2 = i := ⟨_, rfl⟩
  have hs := hp_swp (H := H) (i := i) (j := j) (by omega) (by omega)
  rw [hi] at hlt h4 ⊢
  refine ⟨by omega, by rw [swp_length]; exact h2, fun k k0 k1 k2 => ?_, fun k k0 k1 k2 k3 => ?_⟩
  · rw [hs, hs]
    by_cases e1 : k = j
    · subst e1
      rw [if_pos rfl, hi, if_neg (by omega), if_pos rfl]; omega
    · rw [if_neg e1, if_neg k2]
      have h5 := h3 k k0 k1 e1
      by_cases e2 : (k - 1) / 2 = j
      · rw [if_pos e2]; exact h4 k k0 k1 e2 hj
      · rw [if_neg e2]
        by_cases e3 : (k - 1) / 2 = i
        · rw [if_pos e3]; rw [e3] at h5; omega
        · rw [if_neg e3]; exact h5
  · rw [hs, hs]
    have h6 := h3 i k3 (by omega) (by omega)
    rw [if_neg (by omega), if_neg (by omega)]
    by_cases e1 : k = j
    · rw [if_pos e1]; exact h6
    · rw [if_neg e1, if_neg (by omega)]
      have h5 := h3 k k0 k1 e1
      rw [k2] at h5; omega
theorem UpI.done {H : List Int} {n j : Nat} (h : UpI H n j) (hd : j = 0 ∨ hp H ((j - 1) / 2) ≤ hp H j) : HeapN H n := by
  intro k k0 k1
  by_cases e : k = j
  · subst e
    rcases hd with hd | hd
    · omega
    · exact hd
  · exact h.rest k k0 k1 e
theorem UpI.start {H : List Int} {x : Int} (h : HeapN H H.length) : UpI (H ++ [x]) (H.length + 1) H.length := by
  have hl : ∀ k, k < H.length → hp (H ++ [x]) k = hp H k := fun k hk => by
    unfold hp; rw [List.getD_eq_getElem?_getD, List.getD_eq_getElem?_getD, List.getElem?_append_left hk]
  refine ⟨by omega, by simp, fun k k0 k1 k2 => ?_, fun k k0 k1 k2 k3 => by omega⟩
  rw [hl _ (by omega), hl _ (by omega)]
  exact h k k0 (by omega)
/-- A heap but for one that may be too great. -/
structure DnI (H : List Int) (n i : Nat) : Prop where
  le : n ≤ H.length
  rest : ∀ k, 0 < k → k < n → (k - 1) / 2 ≠ i → hp H ((k - 1) / 2) ≤ hp H k
  kids : ∀ k, 0 < k → k < n → (k - 1) / 2 = i → 0 < i → hp H ((i - 1) / 2) ≤ hp H k
theorem DnI.step {H : List Int} {n i j : Nat} (h : DnI H n i) (hj : j < n) (hp1 : j = 2 * i + 1 ∨ j = 2 * i + 2) (hm : ∀ k, k < n → (k = 2 * i + 1 ∨ k = 2 * i + 2) → hp H j ≤ hp H k) (hlt : hp H j < hp H i) : DnI (swp H i j) n j := by
  obtain ⟨h2, h3, h4⟩ := h
  have hs := hp_swp (H := H) (i := i) (j := j) (by omega) (by omega)
  have hpj : (j - 1) / 2 = i := by omega
  refine ⟨by rw [swp_length]; exact h2, fun k k0 k1 k2 => ?_, fun k k0 k1 k2 k3 => ?_⟩
  · rw [hs, hs, if_neg k2]
    by_cases e1 : k = j
    · subst e1
      rw [if_pos rfl, if_pos hpj]; omega
    · rw [if_neg e1]
      by_cases e2 : k = i
      · subst e2
        rw [if_pos rfl, if_neg (by omega)]
        exact h4 j (by omega) hj hpj k0
      · rw [if_neg e2]
        by_cases e3 : (k - 1) / 2 = i
        · rw [if_pos e3]; exact hm k k1 (by omega)
        · rw [if_neg e3]; exact h3 k k0 k1 e3
  · rw [hs, hs, hpj, if_neg (by omega), if_pos rfl, if_neg (by omega), if_neg (by omega)]
    have := h3 k k0 k1 (by omega)
    rw [k2] at this; exact this
theorem DnI.done {H : List Int} {n i : Nat} (h : DnI H n i) (hd : ∀ k, k < n → (k = 2 * i + 1 ∨ k = 2 * i + 2) → hp H i ≤ hp H k) : HeapN H n := by
  intro k k0 k1
  by_cases e : (k - 1) / 2 = i
  · rw [e]; exact hd k k1 (by omega)
  · exact h.rest k k0 k1 e
/-- The last one comes to the top: the rest but for the top is a heap. -/
theorem DnI.start {H : List Int} {n : Nat} (h : HeapN H (n + 1)) (hl : H.length = n + 1) : DnI (swp H 0 n) n 0 := by
  have hs := hp_swp (H := H) (i := 0) (j := n) (by omega) (by omega)
  refine ⟨by rw [swp_length]; omega, fun k k0 k1 k2 => ?_, fun k k0 k1 k2 k3 => by omega⟩
  rw [hs, hs, if_neg (by omega), if_neg k2, if_neg (by omega), if_neg (by omega)]
  exact h k k0 (by omega)
end Go.Proofs.YtplgbapbgcipdaaGreat

/-! A struct that a function hands back: read out of its box. -/
namespace Go.Proofs.YtplgbapbgcipdaaGreat
open Go.RowKit
section
variable {fn : Func} {p u v : Tmp} {tmps : Array Value} {w : World} {g : Nat} {cs : Array Value}
theorem info_graph : (Tryz.prog.info? 24).map (·.size) = some 2 := by kernel_rfl
theorem results_g (h : fn.results = #[.cell p 24]) (hp : tmps.getD p undef = .pointer (some ⟨g, 0, none⟩)) (hg : Blk w g 24 cs) (hs : cs.size = 2) :
    (results fn tmps).run Tryz.prog w = .ok (.agg cs) w := by
  exact results_cell_row h tmps w g _ cs _ _ hp hg Tryz.underlying24 rfl (by rw [info_graph, hs])
end
end Go.Proofs.YtplgbapbgcipdaaGreat

/-! Plain laws of burning: the fire, whatever burns first, and the sets that block. No program is in sight. -/
namespace Go.Proofs.YtplgbapbgcipdaaGreat

/-- How many single edges join a vertex with those of a list. -/
def joinsN (es : List (Int × Int × Int)) (v : Nat) (l : List Nat) : Int := (l.map fun u : Nat => btw es v u).sum
/-- .. as the program counts them: over all vertices below k. -/
def flmTo (es : List (Int × Int × Int)) (l : List Nat) (v : Nat) : Nat → Int
  | 0 => 0
  | k + 1 => flmTo es l v k + if k ∈ l then tt es v k else 0
/-- Burnt vertices, each once. -/
def LOk (n : Nat) (l : List Nat) : Prop := l.Nodup ∧ ∀ u ∈ l, u < n
theorem joinsN_snoc (es : List (Int × Int × Int)) (v : Nat) (l : List Nat) (x : Nat) : joinsN es v (l ++ [x]) = joinsN es v l + btw es v x := by simp [joinsN]
theorem joinsN_nil (es : List (Int × Int × Int)) (v : Nat) : joinsN es v [] = 0 := rfl
theorem flmTo_bd {n : Int} {es : List (Int × Int × Int)} (h : ∀ e ∈ es, okE n e) (l : List Nat) (v k : Nat) : 0 ≤ flmTo es l v k ∧ flmTo es l v k ≤ 50 * k := by
  induction k with
  | zero => simp [flmTo]
  | succ k ih =>
    have := tt_bd h v k
    rw [flmTo]
    split <;> omega
theorem flmTo_snoc {es : List (Int × Int × Int)} {l : List Nat} {v x : Nat} (hx : x ∉ l) : ∀ k, flmTo es (l ++ [x]) v k = flmTo es l v k + if x < k then tt es v x else 0
  | 0 => by simp [flmTo]
  | k + 1 => by
    rw [flmTo, flmTo, flmTo_snoc hx k]
    by_cases hk : k = x
    · subst hk
      simp [hx]
    · have h1 : (k ∈ l ++ [x]) ↔ k ∈ l := by simp [hk]
      simp only [h1]
      by_cases h2 : x < k
      · have h3 : x < k + 1 := by omega
        simp only [h2, h3, if_true]; omega
      · have h3 : ¬ x < k + 1 := by omega
        simp only [h2, h3, if_false]; omega
theorem flmTo_nil (es : List (Int × Int × Int)) (v k : Nat) : flmTo es [] v k = 0 := by
  induction k with
  | zero => rfl
  | succ k ih => rw [flmTo, ih]; simp
theorem LOk.front {n : Nat} {l : List Nat} {x : Nat} (h : LOk n (l ++ [x])) : LOk n l ∧ x ∉ l ∧ x < n := by
  obtain ⟨h1, h2⟩ := h
  rw [List.nodup_append] at h1
  obtain ⟨a, b, c⟩ := h1
  exact ⟨⟨a, fun u hu => h2 u (by simp [hu])⟩, fun hx => c x hx x (by simp) rfl, h2 x (by simp)⟩
theorem LOk.snoc {n : Nat} {l : List Nat} {x : Nat} (h : LOk n l) (hx : x ∉ l) (hn : x < n) : LOk n (l ++ [x]) := by
  refine ⟨?_, ?_⟩
  · rw [List.nodup_append]
    exact ⟨h.1, by simp, fun a ha b hb e => by simp at hb; subst hb; subst e; exact hx ha⟩
  · intro u hu
    rcases List.mem_append.1 hu with hu | hu
    · exact h.2 u hu
    · simp at hu; omega
theorem snocRec {α : Type} {P : List α → Prop} (h0 : P []) (h1 : ∀ l x, P l → P (l ++ [x])) (l : List α) : P l := by
  obtain ⟨r, rfl⟩ : ∃ r, l = r.reverse := ⟨l.reverse, by simp⟩
  induction r with
  | nil => exact h0
  | cons x r ih => rw [List.reverse_cons]; exact h1 _ _ ih
theorem flm_joins {es : List (Int × Int × Int)} {n v : Nat} (l : List Nat) : LOk n l → v ∉ l → flmTo es l v n = joinsN es v l := by
  induction l using snocRec with
  | h0 => intro _ _; rw [flmTo_nil]; rfl
  | h1 l x ih =>
    intro h hv
    obtain ⟨h1, h2, h3⟩ := h.front
    rw [flmTo_snoc h2, joinsN_snoc, ih h1 (fun hc => hv (by simp [hc])), if_pos h3]
    unfold tt
    rw [if_neg (fun e => hv (by simp [e]))]

/-- More vertices, no fewer joints. -/
theorem joinsN_cons (es : List (Int × Int × Int)) (v x : Nat) (l : List Nat) : joinsN es v (x :: l) = btw es v x + joinsN es v l := by simp [joinsN]
theorem joinsN_erase (es : List (Int × Int × Int)) (v x : Nat) : ∀ {l : List Nat}, x ∈ l → joinsN es v l = btw es v x + joinsN es v (l.erase x)
  | [], h => by simp at h
  | y :: l, h => by
    by_cases hy : y = x
    · subst hy; rw [joinsN_cons, List.erase_cons_head]
    · rw [List.erase_cons_tail (by simpa using hy), joinsN_cons, joinsN_cons]
      rw [joinsN_erase es v x (l := l) (by
        rcases List.mem_cons.1 h with rfl | h
        · exact absurd rfl hy
        · exact h)]
      omega
theorem joinsN_nonneg {es : List (Int × Int × Int)} (he : ∀ a b, 0 ≤ btw es a b) (v : Nat) (l : List Nat) : 0 ≤ joinsN es v l := by
  induction l with
  | nil => exact Int.le_refl _
  | cons x l ih => rw [joinsN_cons]; have := he v x; omega
theorem joins_mono {es : List (Int × Int × Int)} {n m : Nat} (he : ∀ a b, 0 ≤ btw es a b) : ∀ {l l' : List Nat}, LOk n l → LOk m l' → (∀ u ∈ l, u ∈ l') → ∀ v, joinsN es v l ≤ joinsN es v l'
  | [], l', _, _, _, v => by rw [joinsN_nil]; exact joinsN_nonneg he v l'
  | x :: l, l', h, h', hs, v => by
    obtain ⟨h1, h2⟩ := h
    rw [List.nodup_cons] at h1
    have hx := hs x (by simp)
    rw [joinsN_cons, joinsN_erase es v x hx]
    have := joins_mono he (l := l) (l' := l'.erase x) ⟨h1.2, fun u hu => h2 u (by simp [hu])⟩ ⟨h'.1.erase x, fun u hu => h'.2 u (List.mem_of_mem_erase hu)⟩ (fun u hu => by
      rw [h'.1.mem_erase_iff]
      exact ⟨fun e => h1.1 (e ▸ hu), hs u (by simp [hu])⟩) v
    omega

/-- A vertex that is not burnt burns now. -/
def catL (es : List (Int × Int × Int)) (c : List Int) (l : List Nat) (v : Nat) : Bool := !decide (v ∈ l) && decide (c.getD v 0 < joinsN es v l)
def readyL (es : List (Int × Int × Int)) (c : List Int) (n : Nat) (l : List Nat) : List Nat := (List.range n).filter (catL es c l)
/-- The fire goes on: the least vertex that burns now, so many times. -/
def burnL (es : List (Int × Int × Int)) (c : List Int) (n : Nat) : Nat → List Nat → List Nat
  | 0, l => l
  | k + 1, l => match (readyL es c n l).head? with
    | none => l
    | some v => burnL es c n k (l ++ [v])
def burntL (es : List (Int × Int × Int)) (c : List Int) (n q : Nat) : List Nat := burnL es c n n [q]
def restL (n : Nat) (l : List Nat) : List Nat := (List.range n).filter fun v => !decide (v ∈ l)
section
variable {es : List (Int × Int × Int)} {c : List Int} {n : Nat} {l : List Nat} {v : Nat}
theorem catL_true : catL es c l v = true ↔ v ∉ l ∧ c.getD v 0 < joinsN es v l := by simp [catL]
theorem mem_ready : v ∈ readyL es c n l ↔ v < n ∧ v ∉ l ∧ c.getD v 0 < joinsN es v l := by
  unfold readyL; rw [List.mem_filter, List.mem_range, catL_true]
theorem mem_rest : v ∈ restL n l ↔ v < n ∧ v ∉ l := by
  unfold restL; rw [List.mem_filter, List.mem_range]; simp
theorem head_ready (h : (readyL es c n l).head? = some v) : v < n ∧ v ∉ l ∧ c.getD v 0 < joinsN es v l := mem_ready.1 (List.mem_of_mem_head? (by rw [h]; rfl))
theorem head_ready_of (hn : v < n) (hv : catL es c l v = true) (hlt : ∀ u, u < v → catL es c l u = false) : (readyL es c n l).head? = some v := by
  unfold readyL
  rw [List.head?_filter, List.find?_range_eq_some]
  exact ⟨hv, by simpa using hn, fun u hu => by simp [hlt u hu]⟩
theorem ready_none (h : ∀ u, u < n → catL es c l u = false) : readyL es c n l = [] := by
  unfold readyL
  rw [List.filter_eq_nil_iff]
  intro u hu
  rw [h u (by simpa using hu)]
  simp
theorem none_ready (h : (readyL es c n l).head? = none) : ∀ u, u < n → catL es c l u = false := by
  intro u hu
  have h0 : readyL es c n l = [] := by simpa using h
  unfold readyL at h0
  rw [List.filter_eq_nil_iff] at h0
  have := h0 u (by simpa using hu)
  simpa using this
theorem burnL_ok (k : Nat) : ∀ l, LOk n l → LOk n (burnL es c n k l) := by
  induction k with
  | zero => intro l h; exact h
  | succ k ih =>
    intro l h
    rw [burnL]
    rcases he : (readyL es c n l).head? with _ | v
    · exact h
    · obtain ⟨h1, h2, _⟩ := head_ready he
      exact ih _ (h.snoc h2 h1)
theorem burnL_pre (k : Nat) : ∀ l, l <+: burnL es c n k l := by
  induction k with
  | zero => intro l; exact List.prefix_rfl
  | succ k ih =>
    intro l
    rw [burnL]
    rcases he : (readyL es c n l).head? with _ | v
    · exact List.prefix_rfl
    · exact (List.prefix_append l [v]).trans (ih _)
/-- A list of numbers below n, each once, is not longer than n. -/
theorem nodup_len : ∀ {n : Nat} {l : List Nat}, LOk n l → l.length ≤ n
  | 0, l, h => by
    rcases l with _ | ⟨x, l⟩
    · simp
    · have := h.2 x (by simp); omega
  | n + 1, l, h => by
    by_cases hn : n ∈ l
    · have h1 : LOk n (l.erase n) := ⟨h.1.erase n, fun u hu => by
        have h2 := (h.1.mem_erase_iff).1 hu
        have := h.2 u h2.2
        have := h2.1
        omega⟩
      have := nodup_len h1
      rw [List.length_erase_of_mem hn] at this
      omega
    · have h1 : LOk n l := ⟨h.1, fun u hu => by
        have := h.2 u hu
        have : u ≠ n := fun e => hn (e ▸ hu)
        omega⟩
      have := nodup_len h1
      omega
theorem burnL_done {k : Nat} : ∀ {l : List Nat}, LOk n l → n ≤ l.length + k → ∀ u, u < n → catL es c (burnL es c n k l) u = false := by
  induction k with
  | zero =>
    intro l h hk u hu
    rw [burnL]
    by_cases hm : u ∈ l
    · simp [catL, hm]
    · have := nodup_len (h.snoc hm hu)
      simp at this
      omega
  | succ k ih =>
    intro l h hk u hu
    rw [burnL]
    rcases he : (readyL es c n l).head? with _ | v
    · exact none_ready he u hu
    · obtain ⟨h1, h2, _⟩ := head_ready he
      exact ih (h.snoc h2 h1) (by simp; omega) u hu
theorem burnL_stop (h : (readyL es c n l).head? = none) (k : Nat) : burnL es c n k l = l := by
  rcases k with _ | k
  · rfl
  · rw [burnL, h]
theorem burnL_step (h : (readyL es c n l).head? = some v) (k : Nat) : burnL es c n (k + 1) l = burnL es c n k (l ++ [v]) := by rw [burnL, h]
/-- Behind enough rounds the fire is over. -/
theorem burnL_more {k j : Nat} : ∀ {l : List Nat}, LOk n l → n ≤ l.length + k → n ≤ l.length + j → burnL es c n k l = burnL es c n j l := by
  induction k generalizing j with
  | zero =>
    intro l h hk hj
    have hnone : (readyL es c n l).head? = none := by
      rw [ready_none]
      · rfl
      · intro u hu
        have := burnL_done (es := es) (c := c) (k := 0) h hk u hu
        exact this
    rw [burnL_stop hnone, burnL_stop hnone]
  | succ k ih =>
    intro l h hk hj
    rcases he : (readyL es c n l).head? with _ | v
    · rw [burnL_stop he, burnL_stop he]
    · obtain ⟨h1, h2, _⟩ := head_ready he
      rcases j with _ | j
      · have := nodup_len (h.snoc h2 h1)
        simp at this
        omega
      · rw [burnL_step he, burnL_step he]
        exact ih (h.snoc h2 h1) (by simp; omega) (by simp; omega)
/-- A fire that burns any vertices that burn, in whatever order, burns no others; and at its end just those. -/
theorem burns_same {l' : List Nat} (hl : ∀ u ∈ l, u ∈ l') (hc : ∀ u, u < n → catL es c l' u = false) (hn : LOk n l') (he : ∀ a b, 0 ≤ btw es a b) (k : Nat) : LOk n l → ∀ u ∈ burnL es c n k l, u ∈ l' := by
  induction k generalizing l with
  | zero => intro _ u hu; exact hl u hu
  | succ k ih =>
    intro h0
    rw [burnL]
    rcases hv : (readyL es c n l).head? with _ | v
    · exact hl
    · obtain ⟨h1, h2, h3⟩ := head_ready hv
      refine ih (l := l ++ [v]) ?_ (h0.snoc h2 h1)
      intro u hu
      rcases List.mem_append.1 hu with hu | hu
      · exact hl u hu
      · simp at hu
        subst hu
        refine Classical.byContradiction fun hm => ?_
        have := hc u h1
        rw [← Bool.not_eq_true, catL_true] at this
        refine this ⟨hm, ?_⟩
        have hle : joinsN es u l ≤ joinsN es u l' := joins_mono he h0 hn hl u
        omega
end
end Go.Proofs.YtplgbapbgcipdaaGreat

/-! Plain laws of burning, more: what comes of the fire, and how much is left. No program is in sight. -/
namespace Go.Proofs.YtplgbapbgcipdaaGreat
section
variable {es : List (Int × Int × Int)} {c : List Int} {n : Nat} {l : List Nat} {v : Nat}
theorem restL_nodup (n : Nat) (l : List Nat) : (restL n l).Nodup := by unfold restL; exact List.Nodup.sublist List.filter_sublist List.nodup_range
theorem restL_snoc (n : Nat) (l : List Nat) (x : Nat) : restL n (l ++ [x]) = (restL n l).erase x := by
  rw [(restL_nodup n l).erase_eq_filter]
  unfold restL
  rw [List.filter_filter]
  apply List.filter_congr
  intro u _
  by_cases h : u = x <;> by_cases h2 : u ∈ l <;> simp [h, h2]
theorem rest_len (l : List Nat) : LOk n l → (restL n l).length + l.length = n := by
  induction l using snocRec with
  | h0 =>
    intro _
    unfold restL
    rw [List.filter_eq_self.2 (by simp)]
    simp
  | h1 l x ih =>
    intro h
    obtain ⟨h1, h2, h3⟩ := h.front
    have := ih h1
    have hm : x ∈ restL n l := mem_rest.2 ⟨h3, h2⟩
    have hp := List.length_pos_of_mem hm
    rw [restL_snoc, List.length_erase_of_mem hm, List.length_append, List.length_singleton]
    omega
theorem burnL_next (h : LOk n l) (hv : (readyL es c n l).head? = some v) : burnL es c n n l = burnL es c n n (l ++ [v]) := by
  obtain ⟨h1, h2, _⟩ := head_ready hv
  rcases n with _ | n
  · omega
  · rw [burnL_step hv, burnL_more (h.snoc h2 h1) (k := n) (j := n + 1) (by rw [List.length_append, List.length_singleton]; omega) (by rw [List.length_append, List.length_singleton]; omega)]
end
theorem tt_append {n : Int} {es fs : List (Int × Int × Int)} (h : (es ++ fs).Pairwise ltE) (hok : ∀ e ∈ es, okE n e) (x w : Nat) : tt (es ++ fs) x w = tt es x w + tt fs x w := by
  unfold tt
  split
  · rfl
  · exact btw_append h (fun e he => by have := hok e he; unfold okE at this; omega) _ _
theorem fewer_burn {n q : Nat} {es : List (Int × Int × Int)} (he : ∀ a b, 0 ≤ btw es a b) (hq : q < n) {cs ds : List Int} (h : ∀ v, v < n → ds.getD v 0 ≤ cs.getD v 0) : ∀ v, v ∈ burntL es cs n q → v ∈ burntL es ds n q := by
  have hl : LOk n [q] := ⟨by simp, by simpa using hq⟩
  have hdone := burnL_done (es := es) (c := ds) (n := n) (k := n) (l := [q]) hl (by simp)
  refine burns_same (es := es) (c := cs) (n := n) (l := [q]) (l' := burntL es ds n q) (fun u hu => (burnL_pre n [q]).subset hu) (fun u hu => ?_) (burnL_ok n _ hl) he n hl
  have h1 := hdone u hu
  change catL es ds (burntL es ds n q) u = false at h1
  rw [← Bool.not_eq_true, catL_true] at h1 ⊢
  rintro ⟨h2, h3⟩
  have := h u hu
  exact h1 ⟨h2, by omega⟩
end Go.Proofs.YtplgbapbgcipdaaGreat

/-! A drawn region walked step by step, where the worlds meet a condition: an operation that is taken first (a load too), one that is left out since its guard says so, one that alone may come. -/
namespace Go.Proofs.YtplgbapbgcipdaaGreat
open Go

section
variable {P : Program} {md : Region.Mode} {Q : Exit → Act → World → Prop} {S : World → Prop} {l : List Oper} {i : Nat} {o : Oper} {v : Value} {fuel : Nat} {listed : Array Bool} {a : Act} {w : World}
theorem h_take (v : Value) (hi : l[i]? = some o) (hs : Region.noSelect l.toArray = true) (hf : Region.free md l.toArray listed i = true) (hr : (Region.ready md l.toArray listed).contains i = true)
    (hQ : ∀ c a w, Q (.panic c) (a.put o.dst v) w → Q (.panic c) a w) (hw : Region.wanted o (yielded l.toArray a.tmps) = true) (hS : S w) (hv : ∀ w, S w → (execOp a.eval o).run P w = .ok (.value v) w)
    (h : wpAnyH P md l.toArray Q S fuel (listed.setIfInBounds i true) (a.put o.dst v) w) : wpAnyH P md l.toArray Q S (fuel + 1) listed a w :=
  wpAnyH_take (by rw [List.getElem?_toArray]; exact hi) hs hf hr hQ (.inl ⟨hw, hv⟩) hS h
theorem h_skip (hi : l[i]? = some o) (hs : Region.noSelect l.toArray = true) (hf : Region.free md l.toArray listed i = true) (hr : (Region.ready md l.toArray listed).contains i = true)
    (hQ : ∀ c a w, Q (.panic c) (a.put o.dst undef) w → Q (.panic c) a w) (hw : Region.wanted o (yielded l.toArray a.tmps) = false) (hS : S w)
    (h : wpAnyH P md l.toArray Q S fuel (listed.setIfInBounds i true) (a.put o.dst undef) w) : wpAnyH P md l.toArray Q S (fuel + 1) listed a w :=
  wpAnyH_take (by rw [List.getElem?_toArray]; exact hi) hs hf hr hQ (.inr ⟨hw, rfl⟩) hS h
theorem h_step (hi : l[i]? = some o) (hr : Region.ready md l.toArray listed = [i]) (hw : Region.wanted o (yielded l.toArray a.tmps) = true)
    (h : ∀ K : Act → World → Prop, (∀ a w, S w → wpAnyH P md l.toArray Q S fuel (listed.setIfInBounds i true) a w → K a w) → Oper.wp P o a w K Q) : wpAnyH P md l.toArray Q S (fuel + 1) listed a w :=
  wpAnyH_all hr (by simp) fun j hj => by
    have hji : j = i := by simpa using hj
    subst hji
    unfold Go.wpOp
    simp only [List.getElem?_toArray, hi]
    rw [if_pos hw]
    exact .inl (h _ fun a w h1 h2 => ⟨h1, h2⟩)
end
end Go.Proofs.YtplgbapbgcipdaaGreat

/-! Binary counting: lists of truths in lexicographic order. No program is in sight. -/
namespace Go.Proofs.YtplgbapbgcipdaaGreat

/-- The n lowest bits, the lowest first. -/
def lowB : Nat → Nat → List Bool
  | 0, _ => []
  | n + 1, k => decide (k % 2 = 1) :: lowB n (k / 2)
def unbits : List Bool → Nat
  | [] => 0
  | b :: l => (if b then 1 else 0) + 2 * unbits l
def succB : List Bool → List Bool
  | [] => []
  | false :: l => true :: l
  | true :: l => false :: succB l
theorem lowB_length : ∀ (n k : Nat), (lowB n k).length = n
  | 0, _ => rfl
  | n + 1, k => by rw [lowB, List.length_cons, lowB_length n]
theorem lowB_succ : ∀ (n k : Nat), lowB n (k + 1) = succB (lowB n k)
  | 0, _ => rfl
  | n + 1, k => by
    rw [lowB, lowB]
    by_cases h : k % 2 = 1
    · rw [decide_eq_true h, decide_eq_false (show ¬ (k + 1) % 2 = 1 by omega), show (k + 1) / 2 = k / 2 + 1 by omega, lowB_succ n]
      rfl
    · rw [decide_eq_false h, decide_eq_true (show (k + 1) % 2 = 1 by omega), show (k + 1) / 2 = k / 2 by omega]
      rfl
theorem unbits_bits : ∀ {n k : Nat}, k < 2 ^ n → unbits (lowB n k) = k
  | 0, k, h => by simp at h; subst h; rfl
  | n + 1, k, h => by
    have h2 : k / 2 < 2 ^ n := by rw [Nat.pow_succ] at h; omega
    rw [lowB, unbits, unbits_bits h2]
    by_cases h1 : k % 2 = 1
    · rw [decide_eq_true h1, if_pos rfl]; omega
    · rw [decide_eq_false h1, if_neg (by decide)]; omega
theorem unbits_lt : ∀ (l : List Bool), unbits l < 2 ^ l.length
  | [] => by simp [unbits]
  | b :: l => by
    have := unbits_lt l
    rw [unbits, List.length_cons, Nat.pow_succ]
    split <;> omega
theorem bits_unbits : ∀ (l : List Bool), lowB l.length (unbits l) = l
  | [] => rfl
  | b :: l => by
    have ih := bits_unbits l
    rw [List.length_cons, unbits, lowB]
    cases b
    · rw [if_neg (by decide), show (0 + 2 * unbits l) / 2 = unbits l by omega, ih, decide_eq_false (by omega)]
    · rw [if_pos rfl, show (1 + 2 * unbits l) / 2 = unbits l by omega, ih, decide_eq_true (by omega)]
theorem succB_rep : ∀ (j : Nat) (l : List Bool), succB (List.replicate j true ++ false :: l) = List.replicate j false ++ true :: l
  | 0, l => rfl
  | j + 1, l => by rw [List.replicate_succ, List.replicate_succ, List.cons_append, List.cons_append, succB, succB_rep j]
theorem unbits_ones : ∀ (j : Nat), unbits (List.replicate j true) + 1 = 2 ^ j
  | 0 => rfl
  | j + 1 => by
    have := unbits_ones j
    rw [List.replicate_succ, unbits, if_pos rfl, Nat.pow_succ]
    omega
/-- The lists of n truths, ascending. -/
def orL (n k : Nat) : List Bool := (lowB n k).reverse
def orsL (n : Nat) : List (List Bool) := (List.range (2 ^ n)).map (orL n)
theorem orL_length (n k : Nat) : (orL n k).length = n := by rw [orL, List.length_reverse, lowB_length]
theorem orsL_length (n : Nat) : (orsL n).length = 2 ^ n := by simp [orsL]
theorem orsL_at {n k : Nat} (h : k < 2 ^ n) : (orsL n)[k]? = some (orL n k) := by simp [orsL, h]
theorem mem_orsL {n : Nat} {o : List Bool} : o ∈ orsL n ↔ o.length = n := by
  constructor
  · intro h
    obtain ⟨k, _, rfl⟩ := List.mem_map.1 h
    exact orL_length n k
  · intro h
    have hl : o.reverse.length = n := by rw [List.length_reverse]; exact h
    refine List.mem_map.2 ⟨unbits o.reverse, ?_, ?_⟩
    · have := unbits_lt o.reverse
      rw [hl] at this
      exact List.mem_range.2 this
    · rw [orL, ← hl, bits_unbits, List.reverse_reverse]
theorem orsL_nodup (n : Nat) : (orsL n).Nodup := by
  unfold orsL
  rw [List.nodup_iff_pairwise_ne, List.pairwise_map]
  refine List.Pairwise.imp_of_mem ?_ List.pairwise_lt_range
  intro a b ha hb hab e
  have ha := List.mem_range.1 ha
  have hb := List.mem_range.1 hb
  have := congrArg (fun l => unbits l.reverse) e
  simp only [orL, List.reverse_reverse, unbits_bits ha, unbits_bits hb] at this
  omega
end Go.Proofs.YtplgbapbgcipdaaGreat

/-! A drawn region walked step by step: an operation that is taken first, one that is left out since its guard says so, one that alone may come. -/
namespace Go.Proofs.YtplgbapbgcipdaaGreat
open Go

section
variable {P : Program} {md : Region.Mode} {Q : Exit → Act → World → Prop} {l : List Oper} {i : Nat} {o : Oper} {v : Value} {fuel : Nat} {listed : Array Bool} {a : Act} {w : World}
theorem any_take (v : Value) (hi : l[i]? = some o) (hs : Region.noSelect l.toArray = true) (hf : Region.free md l.toArray listed i = true) (hr : (Region.ready md l.toArray listed).contains i = true)
    (hQ : ∀ c a w, Q (.panic c) (a.put o.dst v) w → Q (.panic c) a w) (hw : Region.wanted o (yielded l.toArray a.tmps) = true) (hv : ∀ w, (execOp a.eval o).run P w = .ok (.value v) w)
    (h : wpAny P md l.toArray Q fuel (listed.setIfInBounds i true) (a.put o.dst v) w) : wpAny P md l.toArray Q (fuel + 1) listed a w :=
  wpAny_take (by rw [List.getElem?_toArray]; exact hi) hs hf hr hQ (.inl ⟨hw, hv⟩) h
theorem any_skip (hi : l[i]? = some o) (hs : Region.noSelect l.toArray = true) (hf : Region.free md l.toArray listed i = true) (hr : (Region.ready md l.toArray listed).contains i = true)
    (hQ : ∀ c a w, Q (.panic c) (a.put o.dst undef) w → Q (.panic c) a w) (hw : Region.wanted o (yielded l.toArray a.tmps) = false)
    (h : wpAny P md l.toArray Q fuel (listed.setIfInBounds i true) (a.put o.dst undef) w) : wpAny P md l.toArray Q (fuel + 1) listed a w :=
  wpAny_take (by rw [List.getElem?_toArray]; exact hi) hs hf hr hQ (.inr ⟨hw, rfl⟩) h
theorem any_step (hi : l[i]? = some o) (hr : Region.ready md l.toArray listed = [i]) (hw : Region.wanted o (yielded l.toArray a.tmps) = true)
    (h : ∀ K : Act → World → Prop, (∀ a w, wpAny P md l.toArray Q fuel (listed.setIfInBounds i true) a w → K a w) → Oper.wp P o a w K Q) : wpAny P md l.toArray Q (fuel + 1) listed a w :=
  wpAny_ready hr (by simp) (AllReady.cons (by rw [List.getElem?_toArray]; exact hi) (fun K hK => by rw [if_pos hw]; exact h K hK) AllReady.nil)
end
end Go.Proofs.YtplgbapbgcipdaaGreat

/-! What the laws' proofs share: a slice of ints that came in reads as a list. -/
namespace Go.Proofs.YtplgbapbgcipdaaGreat
open Go.ChangeShapes Go.WideShapes Go.ChangeAt Go.RowKit

theorem own : ownKnob Tryz.prog.godebug = none := by kernel_rfl
theorem laidOut : laidOutB Tryz.prog = true := by kernel_rfl

/-- A slice of integers that came in: nil, or a row of 'cap' cells. -/
def IsRow (k : IntKind) (w : World) (a : Option Addr) (len cap : Nat) (zs : List Int) : Prop :=
  (a = none ∧ len = 0 ∧ cap = 0 ∧ zs = []) ∨
  ∃ x, a = some x ∧ len ≤ cap ∧ cap ≤ maxLen ∧ zs.length = cap ∧ (∀ i, i < zs.length → w.cell? (x.add i) = some (.int k (zs.getD i 0))) ∧ ∀ n ∈ zs, (Lit.int k n).wf = true

theorem IsRow.reads {w : World} {a : Option Addr} {len cap : Nat} {zs : List Int} (h : IsRow .i64 w a len cap zs) :
    ∃ xs : List Int, xs.length = len ∧ len ≤ maxLen ∧ Reads w w.heap.size 1 a xs.length (ints xs) ∧ ∀ x ∈ xs, (Lit.int .i64 x).wf = true := by
  rcases h with ⟨rfl, rfl, rfl, rfl⟩ | ⟨x, rfl, hl, hm, hz, hc, hw⟩
  · exact ⟨[], rfl, by simp [maxLen], Reads.nil_, by simp⟩
  · have hlen : (zs.take len).length = len := by simp; omega
    refine ⟨zs.take len, hlen, Nat.le_trans hl hm, ⟨by rw [ints_length, Nat.mul_one], fun hn => ?_⟩, fun y hy => hw y (List.mem_of_mem_take hy)⟩
    obtain ⟨b, off, spot⟩ := x
    have h0 := hc 0 (by omega)
    obtain rfl : spot = none := by simpa [Addr.add] using World.cell?_spot h0
    refine ⟨b, off, rfl, ?_, fun j u hu => ?_⟩
    · have := World.block_lt_of_cell? w _ h0
      simpa [Addr.add] using this
    · obtain ⟨hj, hju⟩ := List.getElem?_eq_some_iff.1 hu
      rw [ints_length, hlen] at hj
      have h1 := hc j (by omega)
      have h2 : (zs.take len)[j]? = some (zs.getD j 0) := by
        rw [List.getElem?_take_of_lt hj, List.getD_eq_getElem?_getD, List.getElem?_eq_getElem (by omega)]
        rfl
      rw [ints_at h2] at hu
      injection hu with hu
      rw [← hu, ← h1]
      by_cases e : j = 0
      · subst e; simp [Addr.add]
      · simp [Addr.add, e]
end Go.Proofs.YtplgbapbgcipdaaGreat

