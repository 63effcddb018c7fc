/-
  Plain laws: the complete graph burns exactly if preferences are a parking function.
-/
import Derived.Test.YtjeggocindcgaaaConfig
import Derived.Test.YtjeggocindcgaaaRef29
import Derived.Test.YtjeggocindcgaaaBurnQ
import Derived.Test.YtjeggocindcgaaaErr
namespace Go.Proofs.Ytjeggocindcgaaa

theorem compl_ok : ∀ N : Nat, N < 13 → 1 ≤ N → checkG N (compl N) = 0 := by decide +kernel
theorem compl_btw : ∀ N : Nat, N < 13 → ∀ u : Nat, u < N → ∀ v : Nat, v < N → btw (compl N) u v = if u = v then 0 else 1 := by decide +kernel
theorem nodup_sub_len : ∀ {l m : List Nat}, l.Nodup → (∀ x ∈ l, x ∈ m) → l.length ≤ m.length
  | [], m, _, _ => by simp
  | x :: l, m, h, hs => by
    rw [List.nodup_cons] at h
    have hx := hs x (by simp)
    have := nodup_sub_len (l := l) (m := m.erase x) h.2 (fun y hy => by
      have hne : y ≠ x := fun e => h.1 (e ▸ hy)
      exact (List.mem_erase_of_ne hne).2 (hs y (by simp [hy])))
    rw [List.length_erase_of_mem hx] at this
    have hp := List.length_pos_of_mem hx
    simp
    omega
theorem compl_joins {N : Nat} (hN : N < 13) {v : Nat} (hv : v < N) : ∀ {l : List Nat}, LOk N l → v ∉ l → joinsN (compl N) v l = l.length
  | [], _, _ => rfl
  | x :: l, h, hn => by
    have h1 := h.1
    rw [List.nodup_cons] at h1
    rw [joinsN_cons, compl_joins hN hv (l := l) ⟨h1.2, fun u hu => h.2 u (by simp [hu])⟩ (fun hc => hn (by simp [hc])), compl_btw N hN v hv x (h.2 x (by simp)), if_neg (fun e => hn (by simp [e]))]
    simp; omega
/-- The vertex at each place burnt when so many were burnt. -/
def InTurn (c : List Int) (l : List Nat) : Prop := ∀ (j x : Nat), l[j]? = some x → 1 ≤ j → c.getD x 0 < j
theorem inTurn_burnL {N : Nat} (hN : N < 13) (c : List Int) : ∀ (k : Nat) {l : List Nat}, LOk N l → InTurn c l → InTurn c (burnL (compl N) c N k l)
  | 0, _, _, h => h
  | k + 1, l, hl, h => by
    rw [burnL]
    rcases he : (readyL (compl N) c N l).head? with _ | v
    · exact h
    · obtain ⟨h1, h2, h3⟩ := head_ready he
      refine inTurn_burnL hN c k (hl.snoc h2 h1) ?_
      rw [compl_joins hN h1 hl h2] at h3
      intro j x hj hj1
      rcases Nat.lt_trichotomy j l.length with hlt | rfl | hgt
      · rw [List.getElem?_append_left hlt] at hj; exact h j x hj hj1
      · have : x = v := by simpa using hj.symm
        subst this; exact h3
      · rw [List.getElem?_eq_none (by simp; omega)] at hj; cases hj
theorem count_range (p : Int → Bool) (xs : List Int) : (xs.filter p).length = ((List.range xs.length).filter fun k => p (xs.getD k 0)).length := by
  obtain ⟨r, rfl⟩ : ∃ r, xs = r.reverse := ⟨xs.reverse, by simp⟩
  induction r with
  | nil => rfl
  | cons x r ih =>
    rw [List.reverse_cons, List.filter_append, List.length_append, ih, List.length_append, List.length_singleton, List.range_succ, List.filter_append, List.length_append]
    congr 1
    · congr 1
      apply List.filter_congr
      intro k hk
      rw [List.mem_range] at hk
      simp only [List.getD_eq_getElem?_getD]
      rw [List.getElem?_append_left hk]
    · have : (r.reverse ++ [x]).getD r.reverse.length 0 = x := by simp [List.getD_eq_getElem?_getD]
      simp only [List.filter_cons, List.filter_nil, this]
      cases p x <;> rfl
/-- The complete graph burns exactly if the preferences are a parking function. -/
theorem burns_iff {xs : List Int} (hn : 1 ≤ xs.length) (hn12 : xs.length < 12) : restL (xs.length + 1) (burntL (compl (xs.length + 1)) (0 :: xs) (xs.length + 1) 0) = [] ↔ isR xs = true := by
  obtain ⟨L, hL⟩ : ∃ L, burntL (compl (xs.length + 1)) (0 :: xs) (xs.length + 1) 0 = L := ⟨_, rfl⟩
  have h0 : LOk (xs.length + 1) [0] := ⟨by simp, by simp⟩
  have hok : LOk (xs.length + 1) L := by rw [← hL]; exact burnL_ok _ _ h0
  have hin : InTurn (0 :: xs) L := by
    rw [← hL]
    refine inTurn_burnL (by omega) _ _ h0 ?_
    intro j x hj hj1
    rw [List.getElem?_eq_none (by simp; omega)] at hj; cases hj
  have hpre : [0] <+: L := by rw [← hL]; exact burnL_pre _ _
  have hdone : ∀ u, u < xs.length + 1 → catL (compl (xs.length + 1)) (0 :: xs) L u = false := by
    rw [← hL]; exact burnL_done h0 (by simp)
  rw [hL]
  obtain ⟨t, rfl⟩ := hpre
  have hnd := hok.1
  rw [List.singleton_append, List.nodup_cons] at hnd
  unfold isR
  rw [List.all_eq_true]
  constructor
  · intro hr i hi
    rw [List.mem_range] at hi
    simp only [decide_eq_true_eq]
    have hlen := rest_len _ hok
    rw [hr] at hlen
    have htl : t.length = xs.length := by simp at hlen; omega
    unfold countLe
    rw [count_range]
    have hsub := nodup_sub_len (l := (t.take (i + 1)).map (· - 1)) (m := (List.range xs.length).filter fun k => decide (xs.getD k 0 ≤ (i : Int))) ?_ ?_
    · rw [List.length_map, List.length_take] at hsub; omega
    · have hz : ∀ x ∈ t.take (i + 1), 1 ≤ x := fun x hx => by
        rcases Nat.eq_zero_or_pos x with h | h
        · subst h; exact absurd (List.mem_of_mem_take hx) hnd.1
        · exact h
      refine List.pairwise_map.2 (List.Pairwise.imp_of_mem (fun {a b} ha hb hne e => ?_) (List.Nodup.sublist (List.take_sublist (i + 1) t) hnd.2))
      have := hz a ha
      have := hz b hb
      exact hne (by omega)
    · intro y hy
      obtain ⟨x, hx, rfl⟩ := List.mem_map.1 hy
      have hxt := List.mem_of_mem_take hx
      obtain ⟨j, hj⟩ := List.getElem?_of_mem hx
      have hjl := (List.getElem?_eq_some_iff.1 hj).1
      rw [List.length_take] at hjl
      rw [List.getElem?_take_of_lt (by omega)] at hj
      have hx1 : 1 ≤ x := by
        rcases Nat.eq_zero_or_pos x with h | h
        · subst h; exact absurd hxt hnd.1
        · exact h
      have hxn := hok.2 x (by simp [hxt])
      have hc := hin (j + 1) x (by simpa using hj) (by omega)
      rw [List.mem_filter, List.mem_range]
      refine ⟨by omega, ?_⟩
      simp only [decide_eq_true_eq]
      obtain ⟨z, rfl⟩ : ∃ z, x = z + 1 := ⟨x - 1, by omega⟩
      simp [List.getD_eq_getElem?_getD] at hc ⊢
      omega
  · intro hall
    rcases hr : restL (xs.length + 1) ([0] ++ t) with _ | ⟨v, r⟩
    · rfl
    · exfalso
      have hv := mem_rest.1 (show v ∈ restL (xs.length + 1) ([0] ++ t) by rw [hr]; simp)
      have hlen := rest_len _ hok
      rw [hr] at hlen
      have htl : t.length < xs.length := by simp at hlen; omega
      have hi := hall t.length (by simpa using htl)
      simp only [decide_eq_true_eq] at hi
      unfold countLe at hi
      rw [count_range] at hi
      have hsub := nodup_sub_len (l := ((List.range xs.length).filter fun k => decide (xs.getD k 0 ≤ (t.length : Int))).map (· + 1)) (m := t) ?_ ?_
      · rw [List.length_map] at hsub; omega
      · exact List.pairwise_map.2 (List.Pairwise.imp_of_mem (fun {a b} _ _ hne e => hne (by omega)) (List.Nodup.sublist List.filter_sublist List.nodup_range))
      · intro y hy
        obtain ⟨k, hk, rfl⟩ := List.mem_map.1 hy
        rw [List.mem_filter, List.mem_range] at hk
        obtain ⟨hk1, hk2⟩ := hk
        simp only [decide_eq_true_eq] at hk2
        refine Classical.byContradiction fun hm => ?_
        have hnm : k + 1 ∉ [0] ++ t := by simpa using hm
        have := hdone (k + 1) (by omega)
        rw [← Bool.not_eq_true, catL_true] at this
        refine this ⟨hnm, ?_⟩
        rw [compl_joins (by omega) (by omega) hok hnm]
        simp [List.getD_eq_getElem?_getD] at hk2 ⊢
        omega
end Go.Proofs.Ytjeggocindcgaaa
