/-
  A slice of ints of the call's own: its block, and a store into it.
-/
import Derived.Test.YthbannpmfdflaaaOwn
import Derived.Test.YthbannpmfdflaaaRows2
namespace Go.Proofs.Ythbannpmfdflaaa
open Go.RowKit

theorem OwnI.block {w : World} {base : Nat} {A : Option Addr} {c : Nat} {xs : List Int} (h : OwnI w base A c xs) (hn : 0 < xs.length) : ∃ g, A = some ⟨g, 0, none⟩ ∧ base ≤ g ∧ (∀ i, w.frozen? ⟨g, i, none⟩ = false) ∧ ∀ (k : Nat) (x : Int), xs[k]? = some x → w.cell? ⟨g, k, none⟩ = some (.int .i64 x) := by
  obtain ⟨h1, h2⟩ := h
  rcases h2 with ⟨h2, h3⟩ | ⟨g, cap, cur, hv, hg, hh, r1, r2, r3, r4⟩
  · simp at h2; omega
  · injection hv with hv1 hv2 hv3
    have hb : Blk w g 3 cur := hh
    refine ⟨g, hv1, hg, hb.frozen, fun k x hk => ?_⟩
    rw [hb.cell k]
    have hk' : k < xs.length := (List.getElem?_eq_some_iff.1 hk).1
    have e1 : (cur.toList.take (xs.length * 1))[k]? = some (.int .i64 x) := by rw [r4, ints_at hk]
    rw [Nat.mul_one, List.getElem?_take_of_lt hk', Array.getElem?_toList] at e1
    exact e1
theorem OwnI.set {w : World} {base : Nat} {A : Option Addr} {c g : Nat} {xs : List Int} (h : OwnI w base A c xs) (hA : A = some ⟨g, 0, none⟩) (k : Nat) (x : Int) : OwnI (w.setCell ⟨g, k, none⟩ (.int .i64 x)) base A c (xs.set k x) := by
  obtain ⟨h1, h2⟩ := h
  rcases h2 with ⟨h2, h3⟩ | ⟨g', cap, cur, hv, hg, hh, r1, r2, r3, r4⟩
  · simp at h2; rw [hA] at h2; simp at h2
  · have hv1 : A = some ⟨g', 0, none⟩ := by injection hv
    rw [hA] at hv1
    have hgg : g = g' := by injection hv1 with hv1; injection hv1
    subst hgg
    refine ⟨by rw [ints_length]; simp, .inr ⟨g, cap, cur.setIfInBounds k (.int .i64 x), by rw [List.length_set]; exact hv, hg, (Blk.set_ (show Blk w g 3 cur from hh) k _), by rw [List.length_set]; exact r1, r2, by simpa using r3, ?_⟩⟩
    rw [Array.toList_setIfInBounds, List.take_set, List.length_set, r4]
    simp [ints, List.map_set]
theorem OwnI.at_ {w : World} {base c g : Nat} {xs : List Int} (h : OwnI w base (some ⟨g, 0, none⟩) c xs) (hn : 0 < xs.length) : base ≤ g ∧ g < w.heap.size ∧ (∀ i, w.frozen? ⟨g, i, none⟩ = false) ∧ ∀ (k : Nat) (x : Int), xs[k]? = some x → w.cell? ⟨g, k, none⟩ = some (.int .i64 x) := by
  obtain ⟨g', e, h1, h2, h3⟩ := h.block hn
  injection e with e
  injection e with e
  subst e
  exact ⟨h1, (own_lt h ⟨_, rfl, rfl⟩).2, h2, h3⟩
theorem OwnI.put {w : World} {base c g : Nat} {xs : List Int} (h : OwnI w base (some ⟨g, 0, none⟩) c xs) (k : Nat) (x : Int) : OwnI (w.setCell ⟨g, k, none⟩ (.int .i64 x)) base (some ⟨g, 0, none⟩) c (xs.set k x) := h.set rfl k x
theorem OwnI.other {w : World} {base c g : Nat} {xs : List Int} (h : OwnI w base (some ⟨g, 0, none⟩) c xs) {p : Addr} (hp : p.block ≠ g) (u : Value) : OwnI (w.setCell p u) base (some ⟨g, 0, none⟩) c xs :=
  own_kept h fun k hk => by
    obtain ⟨a, ha, hk⟩ := hk
    injection ha with ha
    subst ha
    exact Below.heap_setCell w p u k (fun e => hp (by rw [← e, ← hk]))
theorem OwnI.kept {w w' : World} {base c g : Nat} {xs : List Int} (h : OwnI w base (some ⟨g, 0, none⟩) c xs) (hp : w'.heap[g]? = w.heap[g]?) : OwnI w' base (some ⟨g, 0, none⟩) c xs :=
  own_kept h fun k hk => by
    obtain ⟨a, ha, hk⟩ := hk
    injection ha with ha
    subst ha
    subst hk
    exact hp
end Go.Proofs.Ythbannpmfdflaaa
