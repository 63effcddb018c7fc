/-
  Texts of this claim, put together: PileP.
-/
import Derived.Test.YtghigdcpinengaaGreatK30
/-! What pileOf lays down: the table of single edges, the valences, the unstable vertices. -/
namespace Go.Proofs.YtghigdcpinengaaGreat
open Go.RowKit

def incE (xs : List Int) (i : Nat) : List Int := xs.set i (xs.getD i 0 + 1)
def incR (rows : List (List Int)) (a b : Nat) : List (List Int) := rows.set a (incE (rows.getD a []) b)
def edgeR (rows : List (List Int)) (p : Nat × Nat) : List (List Int) := if p.1 = p.2 then rows else incR (incR rows p.1 p.2) p.2 p.1
def edgeV (val : List Int) (p : Nat × Nat) : List Int := if p.1 = p.2 then val else incE (incE val p.1) p.2
def rowsL (n : Nat) (ps : List (Nat × Nat)) : List (List Int) := ps.foldl edgeR (List.replicate n (List.replicate n 0))
def valL (n : Nat) (ps : List (Nat × Nat)) : List Int := ps.foldl edgeV (List.replicate n 0)
def waitL (k : Nat) (q : Int) (d val : List Int) : List Bool := (List.range 12).map fun v => decide (v < k) && unst q d val v
theorem rowsL_snoc (n : Nat) {ps : List (Nat × Nat)} {k : Nat} {p : Nat × Nat} (h : ps[k]? = some p) : rowsL n (ps.take (k + 1)) = edgeR (rowsL n (ps.take k)) p := by rw [take_snoc h]; simp [rowsL]
theorem valL_snoc (n : Nat) {ps : List (Nat × Nat)} {k : Nat} {p : Nat × Nat} (h : ps[k]? = some p) : valL n (ps.take (k + 1)) = edgeV (valL n (ps.take k)) p := by rw [take_snoc h]; simp [valL]
theorem incE_length (xs : List Int) (i : Nat) : (incE xs i).length = xs.length := by simp [incE]
/-- Bounds of a table. -/
def TabBd (n : Nat) (K : Int) (rows : List (List Int)) : Prop := rows.length = n ∧ ∀ r ∈ rows, r.length = n ∧ ∀ x ∈ r, 0 ≤ x ∧ x ≤ K
def ValBd (n : Nat) (K : Int) (val : List Int) : Prop := val.length = n ∧ ∀ x ∈ val, 0 ≤ x ∧ x ≤ K
theorem ValBd.inc {n : Nat} {K : Int} {xs : List Int} (h : ValBd n K xs) (hK : 0 ≤ K) (i : Nat) : ValBd n (K + 1) (incE xs i) := by
  refine ⟨by rw [incE_length]; exact h.1, fun x hx => ?_⟩
  unfold incE at hx
  rcases List.mem_or_eq_of_mem_set hx with hx | rfl
  · have := h.2 x hx; omega
  · by_cases hi : i < xs.length
    · rw [List.getD_eq_getElem?_getD, List.getElem?_eq_getElem hi, Option.getD_some]
      have := h.2 _ (List.getElem_mem hi); omega
    · rw [List.getD_eq_getElem?_getD, List.getElem?_eq_none (by omega), Option.getD_none]; omega
theorem TabBd.inc {n : Nat} {K : Int} {rows : List (List Int)} (h : TabBd n K rows) (hK : 0 ≤ K) {a : Nat} (ha : a < n) (b : Nat) : TabBd n (K + 1) (incR rows a b) := by
  refine ⟨by unfold incR; rw [List.length_set]; exact h.1, fun r hr => ?_⟩
  unfold incR at hr
  rcases List.mem_or_eq_of_mem_set hr with hr | rfl
  · have := h.2 r hr
    exact ⟨this.1, fun x hx => by have := this.2 x hx; omega⟩
  · have hi : a < rows.length := by rw [h.1]; exact ha
    rw [List.getD_eq_getElem?_getD, List.getElem?_eq_getElem hi, Option.getD_some]
    exact ValBd.inc (h.2 _ (List.getElem_mem hi)) hK b
theorem edgeV_bd {n : Nat} {K : Int} {xs : List Int} (h : ValBd n K xs) (hK : 0 ≤ K) (p : Nat × Nat) : ValBd n (K + 2) (edgeV xs p) := by
  unfold edgeV
  split
  · exact ⟨h.1, fun x hx => by have := h.2 x hx; omega⟩
  · have := (h.inc hK p.1).inc (by omega) p.2
    exact ⟨this.1, fun x hx => by have := this.2 x hx; omega⟩
theorem edgeR_bd {n : Nat} {K : Int} {rows : List (List Int)} (h : TabBd n K rows) (hK : 0 ≤ K) {p : Nat × Nat} (h1 : p.1 < n) (h2 : p.2 < n) : TabBd n (K + 2) (edgeR rows p) := by
  unfold edgeR
  split
  · exact ⟨h.1, fun r hr => ⟨(h.2 r hr).1, fun x hx => by have := (h.2 r hr).2 x hx; omega⟩⟩
  · have := (h.inc hK h1 p.2).inc (by omega) h2 p.1
    exact ⟨this.1, fun r hr => ⟨(this.2 r hr).1, fun x hx => by have := (this.2 r hr).2 x hx; omega⟩⟩
theorem rep_bd (n : Nat) : ValBd n 0 (List.replicate n 0) := ⟨by simp, fun x hx => by rw [(List.mem_replicate.1 hx).2]; omega⟩
theorem valL_bd (n : Nat) (ps : List (Nat × Nat)) : ValBd n (2 * ps.length) (valL n ps) := by
  suffices h : ∀ (ps : List (Nat × Nat)) (K : Int) (xs : List Int), 0 ≤ K → ValBd n K xs → ValBd n (K + 2 * ps.length) (ps.foldl edgeV xs) by
    have := h ps 0 _ (Int.le_refl _) (rep_bd n)
    rwa [Int.zero_add] at this
  intro ps
  induction ps with
  | nil => intro K xs hK h; simpa using h
  | cons p ps ih =>
    intro K xs hK h
    have := ih (K + 2) _ (by omega) (edgeV_bd h hK p)
    rw [List.foldl_cons, List.length_cons]
    rwa [show K + 2 + 2 * (ps.length : Int) = K + 2 * ((ps.length + 1 : Nat) : Int) by omega] at this
theorem rowsL_bd (n : Nat) (ps : List (Nat × Nat)) (hp : ∀ p ∈ ps, p.1 < n ∧ p.2 < n) : TabBd n (2 * ps.length) (rowsL n ps) := by
  suffices h : ∀ (ps : List (Nat × Nat)) (K : Int) (xs : List (List Int)), (∀ p ∈ ps, p.1 < n ∧ p.2 < n) → 0 ≤ K → TabBd n K xs → TabBd n (K + 2 * ps.length) (ps.foldl edgeR xs) by
    have := h ps 0 (List.replicate n (List.replicate n 0)) hp (Int.le_refl _) ⟨by simp, fun r hr => by rw [(List.mem_replicate.1 hr).2]; exact rep_bd n⟩
    rwa [Int.zero_add] at this
  intro ps
  induction ps with
  | nil => intro K xs _ hK h; simpa using h
  | cons p ps ih =>
    intro K xs hp hK h
    have := ih (K + 2) _ (fun x hx => hp x (List.mem_cons_of_mem _ hx)) (by omega) (edgeR_bd h hK (hp p (List.mem_cons_self ..)).1 (hp p (List.mem_cons_self ..)).2)
    rw [List.foldl_cons, List.length_cons]
    rwa [show K + 2 + 2 * (ps.length : Int) = K + 2 * ((ps.length + 1 : Nat) : Int) by omega] at this
theorem endsL_ok {n : Nat} {es : List E3} (hok : ∀ e ∈ es, okE n e) : ∀ p ∈ endsL es, p.1 < n ∧ p.2 < n := by
  intro p hp
  unfold endsL at hp
  rw [List.mem_flatMap] at hp
  obtain ⟨e, he, hp⟩ := hp
  have h := hok e he
  unfold okE at h
  rw [(List.mem_replicate.1 hp).2]
  dsimp only
  omega
theorem waitL_succ (k : Nat) (hk : k < 12) (q : Int) (d val : List Int) : (waitL k q d val).set k (unst q d val k) = waitL (k + 1) q d val := by
  apply List.ext_getElem?
  intro i
  unfold waitL
  by_cases hi : i = k
  · subst hi
    rw [List.getElem?_set_self (by simp; exact hk)]
    simp [hk]
  · rw [List.getElem?_set_ne (fun e => hi e.symm), List.getElem?_map, List.getElem?_map]
    by_cases h12 : i < 12
    · rw [List.getElem?_range h12]
      simp only [Option.map_some]
      rw [show decide (i < k) = decide (i < k + 1) by rw [decide_eq_decide]; omega]
    · rw [List.getElem?_eq_none (by simp; omega)]; rfl
theorem waitL_zero (q : Int) (d val : List Int) : waitL 0 q d val = List.replicate 12 false := by
  unfold waitL
  simp [List.range_succ]
end Go.Proofs.YtghigdcpinengaaGreat

