/-
  Plain: what proves that a configuration is superstable; the part of a slice.
-/
import Derived.Test.YthbannpmfdflaaaGraph
import Derived.Test.YthbannpmfdflaaaBurnP
import Derived.Test.YthbannpmfdflaaaRBurn
namespace Go.Proofs.Ythbannpmfdflaaa
open Go.RowKit

theorem Reads.from_ {w : World} {B b off : Nat} {xs : List Int} (h : Reads w B 1 (some ⟨b, off, none⟩) xs.length (ints xs)) (k : Nat) (hk : k < xs.length) : Reads w B 1 (some ⟨b, off + k, none⟩) (xs.length - k) (ints (xs.drop k)) := by
  refine ⟨by simp [ints], fun _ => ?_⟩
  obtain ⟨b', off', hA, hb, hc⟩ := h.2 (by omega)
  injection hA with hA; injection hA with e1 e2; subst e1 e2
  refine ⟨b, off + k, rfl, hb, fun j v hv => ?_⟩
  rw [show off + k + j = off + (k + j) from by omega]
  exact hc (k + j) v (by rw [← hv]; simp [ints])
theorem Reads.upto {w : World} {B b off : Nat} {xs : List Int} (h : Reads w B 1 (some ⟨b, off, none⟩) xs.length (ints xs)) (k : Nat) (hk : k < xs.length) : Reads w B 1 (some ⟨b, off, none⟩) k (ints (xs.take k)) := by
  refine ⟨by simp [ints]; omega, fun _ => ?_⟩
  obtain ⟨b', off', hA, hb, hc⟩ := h.2 (by omega)
  injection hA with hA; injection hA with e1 e2; subst e1 e2
  refine ⟨b, off, rfl, hb, fun j v hv => hc j v ?_⟩
  have hj : j < k := by
    have := (List.getElem?_eq_some_iff.1 hv).1
    simp [ints] at this; omega
  rw [← hv]
  simp [ints, List.getElem?_take_of_lt hj]

/-- The error of a list that is to rename the numbers below n. -/
def renFrom (n : Int) : List Int → List Int → Int
  | _, [] => 0
  | s, x :: r => if x < 0 ∨ n ≤ x then 2 else if x ∈ s then 7 else renFrom n (s ++ [x]) r
def renErr (n : Int) (xs : List Int) : Int := if (xs.length : Int) ≠ n then 8 else renFrom n [] xs
theorem renFrom_at {n : Int} {xs : List Int} {k : Nat} {x : Int} (h : xs[k]? = some x) :
    renFrom n (xs.take k) (xs.drop k) = if x < 0 ∨ n ≤ x then 2 else if x ∈ xs.take k then 7 else renFrom n (xs.take (k + 1)) (xs.drop (k + 1)) := by
  obtain ⟨l1, e1⟩ := List.getElem?_eq_some_iff.1 h
  rw [List.drop_eq_getElem_cons l1, e1, renFrom, take_snoc h]
theorem renFrom_end (n : Int) (xs : List Int) : renFrom n (xs.take xs.length) (xs.drop xs.length) = 0 := by rw [List.drop_length]; rfl
theorem renFrom_zero {n : Int} : ∀ {r s : List Int}, renFrom n s r = 0 → (∀ x ∈ r, 0 ≤ x ∧ x < n ∧ x ∉ s) ∧ r.Nodup
  | [], _, _ => ⟨by simp, List.nodup_nil⟩
  | x :: r, s, h => by
    rw [renFrom] at h
    split at h
    · omega
    · split at h
      · omega
      · rename_i h1 h2
        obtain ⟨h3, h4⟩ := renFrom_zero h
        refine ⟨fun y hy => ?_, List.nodup_cons.2 ⟨fun hx => (h3 x hx).2.2 (by simp), h4⟩⟩
        rcases List.mem_cons.1 hy with rfl | hy
        · exact ⟨by omega, by omega, h2⟩
        · have := h3 y hy
          exact ⟨this.1, this.2.1, fun hc => this.2.2 (by simp [hc])⟩
/-- A list that renames is one of natural numbers, each below n once. -/
theorem ren_nats {n : Nat} {xs : List Int} (h : renErr n xs = 0) : ∃ l : List Nat, xs = natsI l ∧ LOk n l ∧ l.length = n := by
  unfold renErr at h
  split at h
  · omega
  · rename_i hl
    obtain ⟨h1, h2⟩ := renFrom_zero h
    refine ⟨xs.map Int.toNat, ?_, ⟨?_, ?_⟩, by rw [List.length_map]; omega⟩
    · unfold natsI
      rw [List.map_map]
      have hid : xs.map ((fun u : Nat => (u : Int)) ∘ Int.toNat) = xs.map id := List.map_congr_left fun x hx => by
        have := h1 x hx
        simp only [Function.comp, id]
        omega
      rw [hid, List.map_id]
    · rw [List.nodup_iff_pairwise_ne, List.pairwise_map]
      refine List.Pairwise.imp_of_mem ?_ (List.nodup_iff_pairwise_ne.1 h2)
      intro a b ha hb hab
      have := h1 a ha
      have := h1 b hb
      omega
    · intro u hu
      obtain ⟨x, hx, rfl⟩ := List.mem_map.1 hu
      have := h1 x hx
      omega

/-- Does each vertex of a list burn when the earlier ones are burnt? -/
def provFrom (es : List E3) (cs : List Int) : List Nat → List Nat → Bool
  | _, [] => true
  | s, x :: r => decide (cs.getD x 0 < joinsN es x s) && provFrom es cs (s ++ [x]) r
def provL (es : List E3) (cs : List Int) (l : List Nat) : Bool := provFrom es cs (l.take 1) (l.drop 1)
theorem provFrom_at {es : List E3} {cs : List Int} {l : List Nat} {k x : Nat} (h : l[k]? = some x) :
    provFrom es cs (l.take k) (l.drop k) = (decide (cs.getD x 0 < joinsN es x (l.take k)) && provFrom es cs (l.take (k + 1)) (l.drop (k + 1))) := by
  obtain ⟨l1, e1⟩ := List.getElem?_eq_some_iff.1 h
  rw [List.drop_eq_getElem_cons l1, e1, provFrom, take_snoc h]
/-- What Verify returns. -/
def verErr (n : Int) (es : List E3) (q : Int) (cs xs : List Int) : Int := if burnErr n es q cs ≠ 0 then burnErr n es q cs else renErr n xs
def verB (n : Int) (es : List E3) (q : Int) (cs xs : List Int) : Bool := if verErr n es q cs xs = 0 then decide (xs.getD 0 0 = q) && provL es cs (xs.map Int.toNat) else false
theorem nats_toNat (l : List Nat) : (natsI l).map Int.toNat = l := by
  unfold natsI
  rw [List.map_map]
  have : l.map (Int.toNat ∘ fun u : Nat => (u : Int)) = l.map id := List.map_congr_left fun _ _ => rfl
  rw [this, List.map_id]
theorem natsI_getD (l : List Nat) (k : Nat) : (natsI l).getD k 0 = ((l.getD k 0 : Nat) : Int) := by
  simp only [List.getD_eq_getElem?_getD, natsI, List.getElem?_map]
  cases l[k]? <;> rfl
theorem cat_fresh {es : List E3} {cs : List Int} {l : List Nat} {v : Nat} (h : v ∉ l) : catL es cs l v = decide (cs.getD v 0 < joinsN es v l) := by simp [catL, h]
end Go.Proofs.Ythbannpmfdflaaa
