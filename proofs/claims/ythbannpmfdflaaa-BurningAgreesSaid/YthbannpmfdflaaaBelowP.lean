/-
  Plain laws for BurningBelow: each set that blocks is unburnt; with fewer chips no more vertices are unburnt. No program is in sight.
-/
import Derived.Test.YthbannpmfdflaaaMayP
import Derived.Test.YthbannpmfdflaaaPushE
import Derived.Test.YthbannpmfdflaaaRSets
import Derived.Test.YthbannpmfdflaaaBlocks
import Derived.Test.YthbannpmfdflaaaKindle
namespace Go.Proofs.Ythbannpmfdflaaa

theorem natI_mem {l : List Nat} {v : Nat} : ((v : Int) ∈ natI l) ↔ v ∈ l := by
  unfold natI
  rw [List.mem_map]
  constructor
  · rintro ⟨x, hx, e⟩
    obtain rfl : x = v := by omega
    exact hx
  · intro h; exact ⟨v, h, rfl⟩
theorem setFrom_asc {n : Int} : ∀ {l : List Nat} {p : Option Int}, l.Pairwise (· < ·) → (∀ v ∈ l, (v : Int) < n) → (∀ y, p = some y → ∀ v ∈ l, y < (v : Int)) → setFrom n p (natsI l) = 0
  | [], _, _, _, _ => by simp [natsI, setFrom]
  | v :: l, p, hp, hn, hy => by
    obtain ⟨h1, h2⟩ := List.pairwise_cons.1 hp
    have hv := hn v (by simp)
    have hvb : ¬ vertB n (v : Int) = false := by simp [vertB]; omega
    have ih := setFrom_asc (n := n) (l := l) (p := some (v : Int)) h2 (fun u hu => hn u (by simp [hu])) (fun y e u hu => by injection e with e; have := h1 u hu; omega)
    have e : natsI (v :: l) = (v : Int) :: natsI l := rfl
    rw [e]
    cases p with
    | none => rw [setFrom.eq_def]; simp only [if_neg hvb]; exact ih
    | some y =>
      have := hy y rfl v (by simp)
      rw [setFrom.eq_def]
      simp only [if_neg hvb]
      rw [if_neg (by omega)]
      exact ih
theorem bits_asc (k D : Nat) : (bitsL k D).Pairwise (· < ·) := List.Pairwise.sublist List.filter_sublist List.pairwise_lt_range
theorem bits_lt {k D : Nat} : ∀ v ∈ bitsL k D, v < k := fun v hv => by
  have := (List.mem_filter.1 hv).1
  simpa using this
theorem bits_blk {n q : Nat} {es : List E3} {cs : List Int} (h : burnErr n es q cs = 0) (D : Nat) : blkErr n es q cs (natsI (bitsL n D)) = 0 := by
  obtain ⟨hG, _⟩ := conf_zero (burn_zero h).1
  have hs : setErr n (natsI (bitsL n D)) = 0 := setFrom_asc (bits_asc n D) (fun v hv => by have := bits_lt v hv; omega) (fun y e => by cases e)
  unfold blkErr
  rw [if_neg (by omega)]
  unfold subErr
  rw [if_neg (fun hc => hc (burn_parts h).1)]
  exact hs
/-- Each set that blocks is unburnt. -/
theorem below_sets {n q : Nat} {es : List E3} {cs : List Int} (h : burnErr n es q cs = 0) (D : Nat) (hb : blkB n es q cs (natsI (bitsL n D)) = true) : ((natsI (bitsL n D)).any fun x => !decide (x ∈ natI (restL n (burntL es cs n q)))) = false := by
  obtain ⟨hG, _, _, hqn, _⟩ := conf_zero (burn_zero h).1
  unfold blkB at hb
  rw [if_pos (bits_blk h D), Bool.and_eq_true] at hb
  have hq : (q : Int) ∉ natsI (bitsL n D) := by simpa using hb.2
  have hall := blocks_unburnt hG (by omega) hq hb.1
  rw [List.any_eq_false]
  intro x hx
  obtain ⟨v, hv, rfl⟩ := List.mem_map.1 hx
  have h1 := hall v hx
  have h2 := bits_lt v hv
  have : ((v : Int) ∈ natI (restL n (burntL es cs n q))) := natI_mem.2 (mem_rest.2 ⟨h2, h1⟩)
  simp [this]
/-- With a chip fewer. -/
theorem below_fewer {n q : Nat} {es : List E3} {cs : List Int} (h : burnErr n es q cs = 0) {v : Nat} {k : Int} (hv : cs[v]? = some k) (hk : k ≠ 0) : burnErr n es q (cs.set v (k - 1)) = 0 ∧ -1048576 ≤ k ∧ k ≤ 1048576 ∧
    ((natI (restL n (burntL es (cs.set v (k - 1)) n q))).any fun x => !decide (x ∈ natI (restL n (burntL es cs n q)))) = false := by
  obtain ⟨hc, hcq⟩ := burn_zero h
  obtain ⟨hG, _, _, hqn, hlen, hbd, hpos⟩ := conf_zero hc
  simp only [Int.toNat_natCast] at hcq
  have hvl : v < cs.length := (List.getElem?_eq_some_iff.1 hv).1
  have hvd : cs.getD v 0 = k := getD_at hv
  have hvq : v ≠ q := fun e => hk (by rw [← hvd, e]; exact hcq)
  have hk0 := hpos v (by omega) (by omega)
  have hkb := hbd k (List.mem_of_getElem? hv)
  have hset : ∀ x, (cs.set v (k - 1)).getD x 0 = if x = v then k - 1 else cs.getD x 0 := by
    intro x
    rw [List.getD_eq_getElem?_getD, List.getElem?_set]
    by_cases e : v = x
    · subst e; rw [if_pos rfl, if_pos hvl, if_pos rfl]; rfl
    · rw [if_neg e, if_neg (Ne.symm e), List.getD_eq_getElem?_getD]
  have h0 : ∀ x, 0 ≤ cs.getD x 0 := fun x => by
    by_cases hx : x < n
    · by_cases hxq : x = q
      · subst hxq; omega
      · exact hpos x (by omega) (by omega)
    · rw [getD_out (by omega)]; exact Int.le_refl _
  refine ⟨burn_zero_of h (by rw [List.length_set]; exact hlen) (fun x hx => ?_) (fun x => ?_) ?_, by omega, by omega, ?_⟩
  · rcases List.mem_or_eq_of_mem_set hx with hx | hx
    · exact hbd x hx
    · omega
  · rw [hset]; have := h0 x; split <;> omega
  · simp only [Int.toNat_natCast]
    rw [hset, if_neg (Ne.symm hvq)]; exact hcq
  · rw [List.any_eq_false]
    intro x hx
    obtain ⟨u, hu, rfl⟩ := List.mem_map.1 hx
    obtain ⟨hu1, hu2⟩ := mem_rest.1 hu
    have hb : u ∉ burntL es cs n q := fun hc => hu2 (fewer_burn (fun a b => (btw_bd hG.ok a b).1) (by omega) (fun x _ => by
      rw [hset]
      by_cases e : x = v
      · rw [if_pos e, e, hvd]; omega
      · rw [if_neg e]; exact Int.le_refl _) u hc)
    have : ((u : Int) ∈ natI (restL n (burntL es cs n q))) := natI_mem.2 (mem_rest.2 ⟨hu1, hb⟩)
    simp [this]
end Go.Proofs.Ythbannpmfdflaaa
