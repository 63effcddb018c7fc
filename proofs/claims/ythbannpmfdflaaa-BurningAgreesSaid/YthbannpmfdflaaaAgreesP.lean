/-
  Plain laws for BurningAgrees: the waves have the same vertices as the order of burning; both orders prove that all burns; otherwise the unburnt vertices block. No program is in sight.
-/
import Derived.Test.YthbannpmfdflaaaWavesP
import Derived.Test.YthbannpmfdflaaaVerP
namespace Go.Proofs.Ythbannpmfdflaaa

section
variable {es : List E3} {cs : List Int} {n : Nat}
theorem provFrom_append (s : List Nat) : ∀ (r1 r2 : List Nat), provFrom es cs s (r1 ++ r2) = (provFrom es cs s r1 && provFrom es cs (s ++ r1) r2)
  | [], r2 => by simp [provFrom]
  | x :: r1, r2 => by
    rw [List.cons_append, provFrom, provFrom, provFrom_append (s ++ [x]) r1 r2, Bool.and_assoc]
    simp
  termination_by r1 => r1.length
  decreasing_by simp
theorem burn_proves (he : LOk n []) : ∀ (k : Nat) (l : List Nat), ∃ r, burnL es cs n k l = l ++ r ∧ provFrom es cs l r = true
  | 0, l => ⟨[], by simp [burnL], rfl⟩
  | k + 1, l => by
    cases hv : (readyL es cs n l).head? with
    | none => exact ⟨[], by rw [burnL_stop hv]; simp, rfl⟩
    | some v =>
      obtain ⟨r, h1, h2⟩ := burn_proves he k (l ++ [v])
      refine ⟨v :: r, by rw [burnL_step hv, h1]; simp, ?_⟩
      rw [provFrom, h2, decide_eq_true (head_ready hv).2.2]; rfl
theorem joinsN_append (v : Nat) (l r : List Nat) : joinsN es v (l ++ r) = joinsN es v l + joinsN es v r := by simp [joinsN]
theorem prov_held (he : ∀ a b, 0 ≤ btw es a b) (l : List Nat) : ∀ (r2 r1 : List Nat), (∀ v ∈ r2, cs.getD v 0 < joinsN es v l) → provFrom es cs (l ++ r1) r2 = true
  | [], _, _ => rfl
  | v :: r2, r1, h => by
    have h1 := h v (by simp)
    have h2 := joinsN_nonneg (es := es) he v r1
    rw [provFrom, joinsN_append, decide_eq_true (by omega), List.append_assoc, prov_held he l r2 (r1 ++ [v]) fun u hu => h u (by simp [hu])]; rfl
theorem rounds_prove (he : ∀ a b, 0 ≤ btw es a b) : ∀ (k : Nat) (l : List Nat), provFrom es cs l (roundsL es cs n k l).flatten = true
  | 0, _ => rfl
  | k + 1, l => by
    by_cases hr : readyL es cs n l = []
    · rw [rounds_none hr]; rfl
    · rw [rounds_some hr, List.flatten_cons, provFrom_append, rounds_prove he k]
      have := prov_held (es := es) (cs := cs) he l (readyL es cs n l) [] fun v hv => (mem_ready.1 hv).2.2
      rw [List.append_nil] at this
      rw [this]; rfl
/-- The waves together. -/
theorem rounds_ok : ∀ (k : Nat) {l : List Nat}, LOk n l → n ≤ l.length + k → LOk n (l ++ (roundsL es cs n k l).flatten) ∧ ∀ u, u < n → catL es cs (l ++ (roundsL es cs n k l).flatten) u = false
  | 0, l, h, hk => by
    simp only [roundsL, List.flatten_nil, List.append_nil]
    refine ⟨h, fun u hu => ?_⟩
    have hr := rest_len l h
    have h0 : (restL n l).length = 0 := by omega
    have : u ∈ l := Classical.byContradiction fun hc => by
      have h1 := mem_rest.2 ⟨hu, hc⟩
      rw [List.length_eq_zero_iff.1 h0] at h1
      simp at h1
    rw [← Bool.not_eq_true, catL_true]
    exact fun hc => hc.1 this
  | k + 1, l, h, hk => by
    by_cases hr : readyL es cs n l = []
    · rw [rounds_none hr]
      simp only [List.flatten_nil, List.append_nil]
      refine ⟨h, fun u hu => ?_⟩
      rw [← Bool.not_eq_true]
      intro hc
      have : u ∈ readyL es cs n l := mem_ready.2 ⟨hu, (catL_true.1 hc).1, (catL_true.1 hc).2⟩
      rw [hr] at this
      simp at this
    · have h2 := ready_ok (es := es) (cs := cs) h
      have h4 := List.length_pos_iff.2 hr
      rw [rounds_some hr, List.flatten_cons, ← List.append_assoc]
      exact rounds_ok k h2 (by rw [List.length_append]; omega)
theorem rounds_perm {q : Nat} (he : ∀ a b, 0 ≤ btw es a b) (hq : q < n) : ([q] ++ (roundsL es cs n n [q]).flatten).Perm (burntL es cs n q) := by
  have hl : LOk n [q] := ⟨by simp, by simpa using hq⟩
  obtain ⟨h1, h2⟩ := rounds_ok (es := es) (cs := cs) n hl (by simp)
  have h3 : LOk n (burntL es cs n q) := burnL_ok n _ hl
  have h4 := burnL_done (es := es) (c := cs) (n := n) (k := n) (l := [q]) hl (by simp)
  change ∀ u, u < n → catL es cs (burntL es cs n q) u = false at h4
  rw [List.perm_ext_iff_of_nodup h1.1 h3.1]
  intro u
  constructor
  · -- the waves burn
    have key : ∀ (k : Nat) (l : List Nat), LOk n l → (∀ u ∈ l, u ∈ burntL es cs n q) → ∀ u ∈ l ++ (roundsL es cs n k l).flatten, u ∈ burntL es cs n q := by
      intro k
      induction k with
      | zero => intro l _ h u hu; simp [roundsL] at hu; exact h u hu
      | succ k ih =>
        intro l hlo h u hu
        by_cases hr : readyL es cs n l = []
        · rw [rounds_none hr] at hu; simp at hu; exact h u hu
        · rw [rounds_some hr, List.flatten_cons, ← List.append_assoc] at hu
          refine ih _ (ready_ok hlo) (fun x hx => ?_) u hu
          rcases List.mem_append.1 hx with hx | hx
          · exact h x hx
          · obtain ⟨g1, g2, g3⟩ := mem_ready.1 hx
            refine Classical.byContradiction fun hc => ?_
            have h5 := h4 x g1
            rw [← Bool.not_eq_true, catL_true] at h5
            have := joins_mono he hlo h3 h x
            exact h5 ⟨hc, by omega⟩
    exact key n [q] hl (fun u hu => (burnL_pre n [q]).subset hu) u
  · exact burns_same (es := es) (c := cs) (n := n) (l := [q]) (fun u hu => by simp at hu; subst hu; simp) h2 h1 he n hl u
end

theorem ren_zero {n : Nat} {l : List Nat} (h : LOk n l) (hl : l.length = n) : renErr n (natsI l) = 0 := by
  have key : ∀ (r s : List Nat), (s ++ r).Nodup → (∀ v ∈ r, v < n) → renFrom n (natsI s) (natsI r) = 0 := by
    intro r
    induction r with
    | nil => intro s _ _; simp [natsI, renFrom]
    | cons v r ih =>
      intro s hn hv
      have h1 := hv v (by simp)
      have h2 : v ∉ s := fun hc => by
        rw [List.nodup_append] at hn
        exact hn.2.2 v hc v (by simp) rfl
      have e : natsI (v :: r) = (v : Int) :: natsI r := rfl
      rw [e, renFrom, if_neg (by omega), if_neg (fun hc => h2 (natsI_mem.1 hc)), ← natsI_snoc]
      exact ih (s ++ [v]) (by simpa using hn) fun u hu => hv u (by simp [hu])
  unfold renErr
  rw [if_neg (by rw [natsI_length]; omega)]
  exact key l [] (by simpa using h.1) h.2
theorem ver_true {n q : Nat} {es : List E3} {cs : List Int} {r : List Nat} (hz : burnErr n es q cs = 0) (h : LOk n ([q] ++ r)) (hl : ([q] ++ r).length = n) (hp : provFrom es cs [q] r = true) : verErr n es q cs (natsI ([q] ++ r)) = 0 ∧ verB n es q cs (natsI ([q] ++ r)) = true := by
  have h1 : verErr n es q cs (natsI ([q] ++ r)) = 0 := by unfold verErr; rw [if_neg (by omega)]; exact ren_zero h hl
  refine ⟨h1, ?_⟩
  unfold verB
  rw [if_pos h1, nats_toNat, natsI_getD]
  unfold provL
  simp [hp]
/-- All that the law asks. -/
theorem agrees_plain {n q : Nat} {es : List E3} {cs : List Int} (hz : burnErr n es q cs = 0) :
    (burntL es cs n q).length + (restL n (burntL es cs n q)).length = n ∧ (burntL es cs n q)[0]? = some q ∧ (([q] :: roundsL es cs n n [q]).flatten).Perm (burntL es cs n q) ∧
    (restL n (burntL es cs n q) = [] → verErr n es q cs (natsI (burntL es cs n q)) = 0 ∧ verB n es q cs (natsI (burntL es cs n q)) = true ∧ verErr n es q cs (natsI ([q] :: roundsL es cs n n [q]).flatten) = 0 ∧ verB n es q cs (natsI ([q] :: roundsL es cs n n [q]).flatten) = true) ∧
    (restL n (burntL es cs n q) ≠ [] → blkErr n es q cs (natsI (restL n (burntL es cs n q))) = 0 ∧ blkB n es q cs (natsI (restL n (burntL es cs n q))) = true) := by
  obtain ⟨hG, hC, hq0, hqn, hlen, hbd, _⟩ := conf_zero (burn_zero hz).1
  simp only [Int.toNat_natCast] at hC
  have hq : q < n := by omega
  have he : ∀ a b, 0 ≤ btw es a b := fun a b => (btw_bd hG.ok a b).1
  have hl : LOk n [q] := ⟨by simp, by simpa using hq⟩
  have h3 : LOk n (burntL es cs n q) := burnL_ok n _ hl
  have hrl := rest_len _ h3
  obtain ⟨r, hr, hpr⟩ := burn_proves (es := es) (cs := cs) (n := n) ⟨by simp, by simp⟩ n [q]
  have hbr : burntL es cs n q = [q] ++ r := hr
  have hperm := rounds_perm (cs := cs) he hq
  have hfl : ([q] :: roundsL es cs n n [q]).flatten = [q] ++ (roundsL es cs n n [q]).flatten := rfl
  refine ⟨by omega, by rw [hbr]; rfl, hperm, fun hrest => ?_, fun hrest => ?_⟩
  · rw [hrest] at hrl
    have hfull : (burntL es cs n q).length = n := by simpa using hrl
    have h5 := hperm.length_eq
    have h6 := (rounds_ok (es := es) (cs := cs) n hl (by simp)).1
    obtain ⟨v1, v2⟩ := ver_true hz (r := r) (by rw [← hbr]; exact h3) (by rw [← hbr]; exact hfull) hpr
    obtain ⟨v3, v4⟩ := ver_true hz (r := (roundsL es cs n n [q]).flatten) h6 (by omega) (rounds_prove he n [q])
    rw [hbr, hfl]
    exact ⟨v1, v2, v3, v4⟩
  · have hs : setErr n (natsI (restL n (burntL es cs n q))) = 0 := setFrom_asc (List.Pairwise.sublist List.filter_sublist List.pairwise_lt_range) (fun v hv => by have := (mem_rest.1 hv).1; omega) (fun y e => by cases e)
    have hE : blkErr n es q cs (natsI (restL n (burntL es cs n q))) = 0 := by
      unfold blkErr subErr
      rw [if_neg (by omega), if_neg (fun hc => hc (burn_parts hz).1)]
      exact hs
    have hb := unburnt_blocks (cs := cs) hG hC hq hrest
    refine ⟨hE, ?_⟩
    unfold blkB
    rw [if_pos hE]
    have e : natsI (restL n (burntL es cs n q)) = (restL n (burntL es cs n q)).map fun u : Nat => (u : Int) := rfl
    rw [e, hb.1, decide_eq_false hb.2]; rfl
theorem natsI_flatten (ls : List (List Nat)) : (ls.map natsI).flatten = natsI ls.flatten := by
  unfold natsI
  rw [List.map_flatten]
theorem natsI_perm {l r : List Nat} (h : l.Perm r) : (natsI l).Perm (natsI r) := h.map _
theorem sorted_same {xs ys a b : List Int} (h : xs.Perm ys) (ha : a.Perm xs) (hb : b.Perm ys) (h1 : a.Pairwise (· ≤ ·)) (h2 : b.Pairwise (· ≤ ·)) : a = b :=
  List.Perm.eq_of_pairwise (fun _ _ _ _ h1 h2 => Int.le_antisymm h1 h2) h1 h2 (ha.trans (h.trans hb.symm))
theorem own_cap {w : World} {base : Nat} {A : Option Addr} {c : Nat} {xs : List Int} (h : OwnI w base A c xs) : xs.length ≤ c := by
  rcases h.2 with ⟨h1, h2⟩ | ⟨g, cap, cur, hv, _, _, h3, _⟩
  · injection h1 with _ h1 _; omega
  · injection hv with _ _ hv; omega
end Go.Proofs.Ythbannpmfdflaaa
