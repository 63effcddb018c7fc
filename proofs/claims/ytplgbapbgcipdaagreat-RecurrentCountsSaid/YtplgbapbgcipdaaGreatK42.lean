/-
  Texts of this claim, put together: OriP.
-/
import Derived.Test.YtplgbapbgcipdaaGreatK41
/-! The minimal recurrent configurations, and the acyclic orientations whose only source is the sink. No program is in sight. -/
namespace Go.Proofs.YtplgbapbgcipdaaGreat
/-- The tail and the head of a single edge with its direction. -/
def tlA (x : (Nat × Nat) × Bool) : Nat := if x.2 then x.1.1 else x.1.2
def hdA (x : (Nat × Nat) × Bool) : Nat := if x.2 then x.1.2 else x.1.1
def outd (z : List ((Nat × Nat) × Bool)) (v : Nat) : Nat := z.countP fun x => decide (tlA x = v)
def ind (z : List ((Nat × Nat) × Bool)) (v : Nat) : Nat := z.countP fun x => decide (hdA x = v)
def degF (F : List (Nat × Nat)) (v : Nat) : Nat := F.countP fun p => decide (p.1 = v) || decide (p.2 = v)
/-- How many single edges join a vertex with a set. -/
def jnF (F : List (Nat × Nat)) (S : List Nat) (v : Nat) : Nat := F.countP fun p => (decide (p.1 = v) && decide (p.2 ∈ S)) || (decide (p.2 = v) && decide (p.1 ∈ S))
/-- Acyclic: the vertices have ranks that rise along each single edge. -/
def Acy (z : List ((Nat × Nat) × Bool)) : Prop := ∃ r : Nat → Nat, ∀ x ∈ z, r (tlA x) < r (hdA x)
section
variable {n q : Nat} {F : List (Nat × Nat)} {z : List ((Nat × Nat) × Bool)} {v : Nat}
theorem ind_out (h : ∀ x ∈ z, x.1.1 ≠ x.1.2) : ind z v + outd z v = degF (z.map Prod.fst) v := by
  induction z with
  | nil => rfl
  | cons x z ih =>
    have h1 := ih fun y hy => h y (by simp [hy])
    have h2 := h x (by simp)
    unfold ind outd degF at *
    rw [List.map_cons, List.countP_cons, List.countP_cons, List.countP_cons]
    obtain ⟨⟨a, b⟩, c⟩ := x
    have h2 : a ≠ b := h2
    cases c
    · by_cases ha : a = v
      · have : b ≠ v := fun e => h2 (ha.trans e.symm)
        simp [tlA, hdA, ha, this] at *; omega
      · by_cases hb : b = v
        · simp [tlA, hdA, ha, hb] at *; omega
        · simp [tlA, hdA, ha, hb] at *; omega
    · by_cases ha : a = v
      · have : b ≠ v := fun e => h2 (ha.trans e.symm)
        simp [tlA, hdA, ha, this] at *; omega
      · by_cases hb : b = v
        · simp [tlA, hdA, ha, hb] at *; omega
        · simp [tlA, hdA, ha, hb] at *; omega
/-- All that leave together are all single edges. -/
theorem out_sum (hb : ∀ x ∈ z, x.1.1 < n ∧ x.1.2 < n) : sumTo (fun v => (outd z v : Int)) n = z.length := by
  induction z with
  | nil =>
    have : sumTo (fun v => ((outd [] v : Nat) : Int)) n = 0 := sumTo_zero fun i _ => rfl
    rw [this]; rfl
  | cons x z ih =>
    have h1 := ih fun y hy => hb y (by simp [hy])
    have h2 := hb x (by simp)
    have e : sumTo (fun v => (outd (x :: z) v : Int)) n = sumTo (fun v => (outd z v : Int) + if v = tlA x then 1 else 0) n := by
      refine sumTo_congr fun v _ => ?_
      unfold outd
      rw [List.countP_cons]
      by_cases hv : tlA x = v
      · simp [hv]
      · have : ¬ v = tlA x := fun e => hv e.symm
        simp [hv, this]
    rw [e, sumTo_split, h1, if_pos (by unfold tlA; split <;> omega), List.length_cons]
    omega
/-- The indegrees of an acyclic orientation tell it. -/
theorem acy_uni {o o' : List Bool} (hl : o.length = F.length) (hl' : o'.length = F.length) (hF : ∀ p ∈ F, p.1 ≠ p.2) (ha : Acy (F.zip o)) (h : ∀ v, ind (F.zip o) v = ind (F.zip o') v) : o = o' := by
  obtain ⟨r, hr⟩ := ha
  -- the places at which they differ
  have key : ∀ (k i : Nat) (p : Nat × Nat) (b : Bool), F[i]? = some p → o[i]? = some b → o'[i]? ≠ some b → r (tlA (p, b)) ≤ k → False := by
    intro k
    induction k using Nat.strongRecOn with
    | ind k ih =>
      intro i p b hp hb hne hk
      -- as many single edges leave the tail otherwise as arrive
      have cnt : ∀ (F : List (Nat × Nat)) (o o' : List Bool), o.length = F.length → o'.length = F.length → (∀ p ∈ F, p.1 ≠ p.2) → ∀ v, (ind (F.zip o') v : Int) - ind (F.zip o) v = ((F.zip (o.zip o')).countP fun x => decide (x.2.1 ≠ x.2.2) && decide (tlA (x.1, x.2.1) = v) : Nat) - ((F.zip (o.zip o')).countP fun x => decide (x.2.1 ≠ x.2.2) && decide (hdA (x.1, x.2.1) = v) : Nat) := by
        intro F
        induction F with
        | nil => intro o o' _ _ _ v; simp [ind]
        | cons p F ihF =>
          intro o o' h1 h2 hF v
          cases o with
          | nil => simp at h1
          | cons a o =>
            cases o' with
            | nil => simp at h2
            | cons a' o' =>
              have h3 := ihF o o' (by simpa using h1) (by simpa using h2) (fun p hp => hF p (by simp [hp])) v
              have h4 := hF p (by simp)
              obtain ⟨c, d⟩ := p
              have h4 : c ≠ d := h4
              unfold ind at *
              rw [List.zip_cons_cons, List.zip_cons_cons, List.zip_cons_cons, List.zip_cons_cons, List.countP_cons, List.countP_cons, List.countP_cons, List.countP_cons]
              cases a <;> cases a'
              all_goals
                by_cases hc : c = v
                · have : d ≠ v := fun e => h4 (hc.trans e.symm)
                  simp [tlA, hdA, hc, this] at *; omega
                · by_cases hd : d = v
                  · simp [tlA, hdA, hc, hd] at *; omega
                  · simp [tlA, hdA, hc, hd] at *; omega
      have h1 := cnt F o o' hl hl' hF (tlA (p, b))
      rw [h] at h1
      have hio : i < o'.length := by have := (List.getElem?_eq_some_iff.1 hp).1; omega
      obtain ⟨b', hb'⟩ : ∃ b', o'[i]? = some b' := ⟨_, List.getElem?_eq_getElem hio⟩
      have hbb : b ≠ b' := fun e => hne (by rw [hb', e])
      have hmem : (p, (b, b')) ∈ F.zip (o.zip o') := by
        refine List.mem_of_getElem? (i := i) ?_
        rw [List.getElem?_zip_eq_some]
        exact ⟨hp, by rw [List.getElem?_zip_eq_some]; exact ⟨hb, hb'⟩⟩
      have hpos : 0 < (F.zip (o.zip o')).countP fun x => decide (x.2.1 ≠ x.2.2) && decide (tlA (x.1, x.2.1) = tlA (p, b)) := List.countP_pos_iff.2 ⟨_, hmem, by simp [hbb]⟩
      have hpos2 : 0 < (F.zip (o.zip o')).countP fun x => decide (x.2.1 ≠ x.2.2) && decide (hdA (x.1, x.2.1) = tlA (p, b)) := by omega
      obtain ⟨⟨p2, c2, c2'⟩, hm2, hd2⟩ := List.countP_pos_iff.1 hpos2
      rw [Bool.and_eq_true, decide_eq_true_eq, decide_eq_true_eq] at hd2
      obtain ⟨j, hj⟩ := List.getElem?_of_mem hm2
      obtain ⟨e1, e2⟩ := List.getElem?_zip_eq_some.1 hj
      obtain ⟨e2, e3⟩ := List.getElem?_zip_eq_some.1 e2
      have hlt := hr (p2, c2) (List.mem_of_getElem? (i := j) (List.getElem?_zip_eq_some.2 ⟨e1, e2⟩))
      have hd3 : hdA (p2, c2) = tlA (p, b) := hd2.2
      rw [hd3] at hlt
      exact ih (r (tlA (p2, c2))) (by omega) j p2 c2 e1 e2 (fun hc => hd2.1 (by have := e3.symm.trans hc; injection this with this; exact this.symm)) (Nat.le_refl _)
  apply List.ext_getElem?
  intro i
  by_cases hi : i < F.length
  · obtain ⟨b, hb⟩ : ∃ b, o[i]? = some b := ⟨_, List.getElem?_eq_getElem (by omega)⟩
    obtain ⟨p, hp⟩ : ∃ p, F[i]? = some p := ⟨_, List.getElem?_eq_getElem hi⟩
    rw [hb]
    exact (Classical.byContradiction fun hne => key _ i p b hp hb hne (Nat.le_refl _)).symm
  · rw [List.getElem?_eq_none (by omega), List.getElem?_eq_none (by omega)]
theorem countP_congr' {α : Type} {l : List α} {p q : α → Bool} (h : ∀ x ∈ l, p x = q x) : l.countP p = l.countP q := by
  rw [List.countP_eq_length_filter, List.countP_eq_length_filter, List.filter_congr h]
/-- What joins a vertex with a set, by its ends. -/
theorem flm_jn {es : List E3} (htt : ∀ a b, a ≠ b → tt es a b = F.countP fun p => (decide (p.1 = a) && decide (p.2 = b)) || (decide (p.1 = b) && decide (p.2 = a))) (hF : ∀ p ∈ F, p.1 ≠ p.2) (S : List Nat) (v : Nat) : ∀ k, flmTo es S v k = F.countP fun p => (decide (p.1 = v) && (decide (p.2 < k) && decide (p.2 ∈ S))) || (decide (p.2 = v) && (decide (p.1 < k) && decide (p.1 ∈ S)))
  | 0 => by
    have : (F.countP fun p => (decide (p.1 = v) && (decide (p.2 < 0) && decide (p.2 ∈ S))) || (decide (p.2 = v) && (decide (p.1 < 0) && decide (p.1 ∈ S)))) = 0 := by
      rw [List.countP_eq_zero]; intro p _; simp
    rw [this]; rfl
  | k + 1 => by
    rw [flmTo, flm_jn htt hF S v k]
    by_cases hk : k ∈ S
    · rw [if_pos hk]
      by_cases hvk : v = k
      · subst hvk
        have h0 : tt es v v = 0 := by unfold tt; rw [if_pos rfl]
        rw [h0, Int.add_zero]
        congr 1
        refine countP_congr' fun p hp => ?_
        have := hF p hp
        rw [Bool.eq_iff_iff]
        simp only [Bool.or_eq_true, Bool.and_eq_true, decide_eq_true_eq]
        constructor
        · rintro (⟨h1, h2, h3⟩ | ⟨h1, h2, h3⟩)
          · exact .inl ⟨h1, by omega, h3⟩
          · exact .inr ⟨h1, by omega, h3⟩
        · rintro (⟨h1, h2, h3⟩ | ⟨h1, h2, h3⟩)
          · exact .inl ⟨h1, by omega, h3⟩
          · exact .inr ⟨h1, by omega, h3⟩
      · rw [htt v k hvk]
        have key : ∀ F : List (Nat × Nat), (∀ p ∈ F, p.1 ≠ p.2) → ((F.countP fun p => (decide (p.1 = v) && (decide (p.2 < k) && decide (p.2 ∈ S))) || (decide (p.2 = v) && (decide (p.1 < k) && decide (p.1 ∈ S)))) : Nat) + (F.countP fun p => (decide (p.1 = v) && decide (p.2 = k)) || (decide (p.1 = k) && decide (p.2 = v))) = F.countP fun p => (decide (p.1 = v) && (decide (p.2 < k + 1) && decide (p.2 ∈ S))) || (decide (p.2 = v) && (decide (p.1 < k + 1) && decide (p.1 ∈ S))) := by
          intro F
          induction F with
          | nil => intro _; rfl
          | cons p F ih =>
            intro hF
            have h1 := ih fun p hp => hF p (by simp [hp])
            have h2 := hF p (by simp)
            rw [List.countP_cons, List.countP_cons, List.countP_cons, ← h1]
            obtain ⟨a, b⟩ := p
            have h2 : a ≠ b := h2
            have hkv : ¬ k = v := fun e => hvk e.symm
            dsimp only
            by_cases ha : a = v
            · have hbv : b ≠ v := fun e => h2 (ha.trans e.symm)
              have hak : ¬ a = k := fun e => hvk (ha.symm.trans e)
              by_cases hb : b = k
              · simp [ha, hb, hk, hvk, hkv]; omega
              · have : (b < k + 1) ↔ b < k := by omega
                simp [ha, hb, hbv, this, hvk]; omega
            · by_cases hbv : b = v
              · by_cases hak : a = k
                · simp [hbv, hak, hk, hkv]; omega
                · have : (a < k + 1) ↔ a < k := by omega
                  simp [ha, hbv, hak, this]; omega
              · simp [ha, hbv]
        have := key F hF
        omega
    · rw [if_neg hk, Int.add_zero]
      congr 1
      refine countP_congr' fun p _ => ?_
      rw [Bool.eq_iff_iff]
      simp only [Bool.or_eq_true, Bool.and_eq_true, decide_eq_true_eq]
      constructor
      · rintro (⟨h1, h2, h3⟩ | ⟨h1, h2, h3⟩)
        · exact .inl ⟨h1, by omega, h3⟩
        · exact .inr ⟨h1, by omega, h3⟩
      · rintro (⟨h1, h2, h3⟩ | ⟨h1, h2, h3⟩)
        · exact .inl ⟨h1, by have : p.2 ≠ k := fun e => hk (e ▸ h3); omega, h3⟩
        · exact .inr ⟨h1, by have : p.1 ≠ k := fun e => hk (e ▸ h3); omega, h3⟩
/-- What the graph without its loops is to the graph. -/
structure OriH (n q : Nat) (es : List E3) (F : List (Nat × Nat)) : Prop where
  hr : rootErr n es q = 0
  hlen : es.length ≤ 40
  nl : ∀ p ∈ F, p.1 ≠ p.2
  bd : ∀ p ∈ F, p.1 < n ∧ p.2 < n
  htt : ∀ a b, a ≠ b → tt es a b = F.countP fun p => (decide (p.1 = a) && decide (p.2 = b)) || (decide (p.1 = b) && decide (p.2 = a))
  hdeg : ∀ v, v < n → valE es v = degF F v
/-- An acyclic orientation whose only source is q. -/
structure Fits (n q : Nat) (F : List (Nat × Nat)) (o : List Bool) : Prop where
  len : o.length = F.length
  acy : Acy (F.zip o)
  src : ind (F.zip o) q = 0
  pos : ∀ v, v < n → v ≠ q → 0 < ind (F.zip o) v
def outc (n q : Nat) (z : List ((Nat × Nat) × Bool)) : List Int := (List.range n).map fun v => if v = q then 0 else (outd z v : Int)
variable {es : List E3} {o : List Bool}
theorem outc_length : (outc n q z).length = n := by simp [outc]
theorem outc_get {v : Nat} (hv : v < n) : (outc n q z).getD v 0 = if v = q then 0 else (outd z v : Int) := by
  unfold outc
  simp [List.getD_eq_getElem?_getD, hv]
theorem zip_fst (h : o.length = F.length) : (F.zip o).map Prod.fst = F := by rw [List.map_fst_zip]; omega
theorem zip_mem {x : (Nat × Nat) × Bool} (h : x ∈ F.zip o) : x.1 ∈ F := (List.of_mem_zip (a := x.1) (b := x.2) h).1
theorem OriH.flm (h : OriH n q es F) {S : List Nat} (hS : ∀ u ∈ S, u < n) (v : Nat) : flmTo es S v n = jnF F S v := by
  rw [flm_jn h.htt h.nl S v n]
  congr 1
  unfold jnF
  refine countP_congr' fun p _ => ?_
  rw [Bool.eq_iff_iff]
  simp only [Bool.or_eq_true, Bool.and_eq_true, decide_eq_true_eq]
  constructor
  · rintro (⟨h1, _, h3⟩ | ⟨h1, _, h3⟩)
    · exact .inl ⟨h1, h3⟩
    · exact .inr ⟨h1, h3⟩
  · rintro (⟨h1, h3⟩ | ⟨h1, h3⟩)
    · exact .inl ⟨h1, hS _ h3, h3⟩
    · exact .inr ⟨h1, hS _ h3, h3⟩
theorem OriH.deg (h : OriH n q es F) (hl : o.length = F.length) {v : Nat} (hv : v < n) : (ind (F.zip o) v : Int) + outd (F.zip o) v = valE es v := by
  have := ind_out (z := F.zip o) (v := v) fun x hx => h.nl _ (zip_mem hx)
  rw [zip_fst hl] at this
  rw [h.hdeg v hv]; omega
theorem min_rank (r : Nat → Nat) : ∀ {S : List Nat}, S ≠ [] → ∃ u ∈ S, ∀ w ∈ S, r u ≤ r w
  | [], h => absurd rfl h
  | [a], _ => ⟨a, by simp, fun w hw => by rw [List.mem_singleton.1 hw]; exact Nat.le_refl _⟩
  | a :: b :: S, _ => by
    obtain ⟨u, hu, h⟩ := min_rank r (S := b :: S) (by simp)
    by_cases hau : r a ≤ r u
    · exact ⟨a, by simp, fun w hw => by
        rcases List.mem_cons.1 hw with rfl | hw
        · exact Nat.le_refl _
        · exact Nat.le_trans hau (h w hw)⟩
    · exact ⟨u, by simp [hu], fun w hw => by
        rcases List.mem_cons.1 hw with rfl | hw
        · omega
        · exact h w hw⟩
/-- What leaves each vertex is a recurrent configuration. -/
theorem out_rec (h : OriH n q es F) (hf : Fits n q F o) : outc n q (F.zip o) ∈ recsL n es q := by
  obtain ⟨_, hG, _, hq⟩ := root_zero h.hr
  have hst : stabTo es (outc n q (F.zip o)) q n = true := by
    rw [stabTo_iff]
    intro v hv hvq
    rw [outc_get hv, if_neg hvq]
    have := h.deg hf.len hv
    have := hf.pos v hv hvq
    omega
  rw [recsL_bel hG hq, List.mem_filter]
  refine ⟨mem_bel n _ outc_length fun i hi => ?_, ?_⟩
  · rw [maxL_get hG.ok hi, outc_get hi]
    by_cases hiq : i = q
    · rw [if_pos hiq, if_pos hiq]; omega
    · rw [if_neg hiq, if_neg hiq]
      have := h.deg hf.len hi
      have := hf.pos i hi hiq
      omega
  · refine rec_of_noforb hG hq hst fun S hS hqS hne => ?_
    obtain ⟨r, hr⟩ := hf.acy
    obtain ⟨u, hu, hmin⟩ := min_rank r hne
    refine ⟨u, hu, ?_⟩
    have huq : u ≠ q := fun e => hqS (e ▸ hu)
    rw [outc_get (hS u hu), if_neg huq, h.flm hS]
    have : jnF F S u ≤ outd (F.zip o) u := by
      have e : jnF F S u = (F.zip o).countP fun x => (decide (x.1.1 = u) && decide (x.1.2 ∈ S)) || (decide (x.1.2 = u) && decide (x.1.1 ∈ S)) := by
        have : jnF F S u = jnF ((F.zip o).map Prod.fst) S u := by rw [zip_fst hf.len]
        rw [this]
        unfold jnF
        rw [List.countP_map]; rfl
      rw [e]
      unfold outd
      refine List.countP_mono_left fun x hx hd => ?_
      have hlt := hr x hx
      rw [decide_eq_true_eq]
      rw [Bool.or_eq_true, Bool.and_eq_true, Bool.and_eq_true] at hd
      simp only [decide_eq_true_eq] at hd
      unfold tlA hdA at *
      rcases hd with ⟨h1, h2⟩ | ⟨h1, h2⟩
      · have := hmin _ h2
        cases hb : x.2
        · rw [hb] at hlt; simp only [Bool.false_eq_true, if_false] at hlt; rw [h1] at hlt; omega
        · simpa using h1
      · have := hmin _ h2
        cases hb : x.2
        · simpa using h1
        · rw [hb] at hlt; simp only [if_true] at hlt; rw [h1] at hlt; omega
    omega
/-- The vertices in an order in which they burn. -/
theorem noforb_order {y : List Int} (hN : NoForb n es q y) : ∀ (k : Nat) (S : List Nat), S.length ≤ k → S.Nodup → (∀ u ∈ S, u < n) → q ∉ S → ∃ l : List Nat, l.Perm S ∧ ∀ a u b, l = a ++ u :: b → flmTo es (u :: b) u n ≤ y.getD u 0 := by
  intro k
  induction k with
  | zero =>
    intro S hk _ _ _
    have : S = [] := List.eq_nil_of_length_eq_zero (by omega)
    subst this
    exact ⟨[], .nil, fun a u b h => by simp at h⟩
  | succ k ih =>
    intro S hk hn hS hqS
    by_cases hne : S = []
    · subst hne; exact ⟨[], .nil, fun a u b h => by simp at h⟩
    · obtain ⟨u, hu, hle⟩ := hN S hS hqS hne
      have hp := less_perm hn hu
      have hln := less_length hn hu
      obtain ⟨l, hl, hsp⟩ := ih (lessL S u) (by omega) (less_nodup hn) (fun x hx => hS x (mem_less.1 hx).1) (fun hx => hqS (mem_less.1 hx).1)
      refine ⟨u :: l, (hl.cons u).trans hp.symm, fun a x b he => ?_⟩
      cases a with
      | nil =>
        rw [List.nil_append] at he
        injection he with e1 e2
        subst e1 e2
        rw [flm_congr u n fun w _ => ((hl.cons u).trans hp.symm).mem_iff]
        exact hle
      | cons a0 a =>
        rw [List.cons_append] at he
        injection he with e1 e2
        exact hsp a x b e2
/-- A recurrent configuration is above what leaves the vertices of an orientation. -/
theorem rec_ori (h : OriH n q es F) {y : List Int} (hy : recB n es y q = true) : ∃ o, Fits n q F o ∧ ∀ v, v < n → v ≠ q → (outd (F.zip o) v : Int) ≤ y.getD v 0 := by
  obtain ⟨_, hG, _, hq⟩ := root_zero h.hr
  have hst : stabTo es y q n = true := by unfold recB at hy; rw [Bool.and_eq_true] at hy; exact hy.1
  obtain ⟨l, hl, hsp⟩ := noforb_order (noforb_of_rec hG hq hy) n (lessL (List.range n) q) (by have := less_length (e := q) (List.nodup_range (n := n)) (List.mem_range.2 hq); rw [List.length_range] at this; omega) (less_nodup List.nodup_range) (fun u hu => List.mem_range.1 (mem_less.1 hu).1) (fun hu => (mem_less.1 hu).2 rfl)
  have hml : ∀ v, v ∈ l ↔ v < n ∧ v ≠ q := fun v => by rw [hl.mem_iff, mem_less, List.mem_range]
  have hnl : l.Nodup := hl.nodup_iff.2 (less_nodup List.nodup_range)
  obtain ⟨r, hr⟩ : ∃ r : Nat → Nat, r = fun v => if v = q then 0 else 1 + l.idxOf v := ⟨_, rfl⟩
  have hrq : r q = 0 := by rw [hr]; simp
  have hrv : ∀ v, v ≠ q → r v = 1 + l.idxOf v := fun v hv => by rw [hr]; simp [hv]
  have hinj : ∀ a b, a < n → b < n → r a = r b → a = b := by
    intro a b ha hb he
    by_cases haq : a = q
    · by_cases hbq : b = q
      · rw [haq, hbq]
      · rw [haq, hrq, hrv b hbq] at he; omega
    · by_cases hbq : b = q
      · rw [hbq, hrq, hrv a haq] at he; omega
      · rw [hrv a haq, hrv b hbq] at he
        have h1 := List.getElem_idxOf (List.idxOf_lt_length_iff.2 ((hml a).2 ⟨ha, haq⟩))
        have h2 := List.getElem_idxOf (List.idxOf_lt_length_iff.2 ((hml b).2 ⟨hb, hbq⟩))
        have h3 : l.idxOf a = l.idxOf b := by omega
        rw [← h1, ← h2]
        congr 1
  obtain ⟨o, ho⟩ : ∃ o, o = F.map fun p => decide (r p.1 < r p.2) := ⟨_, rfl⟩
  have hol : o.length = F.length := by rw [ho, List.length_map]
  have hz : ∀ x ∈ F.zip o, r (tlA x) < r (hdA x) ∧ x.1 ∈ F := by
    intro x hx
    have hxF := zip_mem hx
    obtain ⟨i, hi⟩ := List.getElem?_of_mem hx
    obtain ⟨e1, e2⟩ := List.getElem?_zip_eq_some.1 hi
    rw [ho, List.getElem?_map, e1] at e2
    have e2 : decide (r x.1.1 < r x.1.2) = x.2 := by simpa using e2
    refine ⟨?_, hxF⟩
    obtain ⟨b1, b2⟩ := h.bd _ hxF
    have hne : r x.1.1 ≠ r x.1.2 := fun e => h.nl _ hxF (hinj _ _ b1 b2 e)
    unfold tlA hdA
    cases hb : x.2
    · rw [hb] at e2
      have := of_decide_eq_false e2
      simp only [Bool.false_eq_true, if_false]
      omega
    · rw [hb] at e2
      have := of_decide_eq_true e2
      simpa using this
  have hout : ∀ v, v < n → v ≠ q → (outd (F.zip o) v : Int) ≤ y.getD v 0 := by
    intro v hv hvq
    obtain ⟨a, b, hab⟩ := List.append_of_mem ((hml v).2 ⟨hv, hvq⟩)
    have h1 := hsp a v b hab
    have hvb : ∀ u ∈ v :: b, u < n := fun u hu => ((hml u).1 (by rw [hab]; exact List.mem_append_right _ hu)).1
    rw [h.flm hvb] at h1
    have h2 : outd (F.zip o) v ≤ jnF F (v :: b) v := by
      have e : jnF F (v :: b) v = (F.zip o).countP fun x => (decide (x.1.1 = v) && decide (x.1.2 ∈ v :: b)) || (decide (x.1.2 = v) && decide (x.1.1 ∈ v :: b)) := by
        have : jnF F (v :: b) v = jnF ((F.zip o).map Prod.fst) (v :: b) v := by rw [zip_fst hol]
        rw [this]
        unfold jnF
        rw [List.countP_map]; rfl
      rw [e]
      unfold outd
      refine List.countP_mono_left fun x hx hd => ?_
      rw [decide_eq_true_eq] at hd
      obtain ⟨hlt, hxF⟩ := hz x hx
      rw [hd] at hlt
      obtain ⟨b1, b2⟩ := h.bd _ hxF
      have later : ∀ w, w < n → r v < r w → w ∈ v :: b := by
        intro w hw hlt
        have hwq : w ≠ q := fun e => by rw [e, hrq] at hlt; omega
        rw [hrv v hvq, hrv w hwq] at hlt
        have hwl := (hml w).2 ⟨hw, hwq⟩
        rw [hab] at hwl hlt hnl
        rcases List.mem_append.1 hwl with hwa | hwb
        · exfalso
          have hva : v ∉ a := fun hc => by
            have := (List.nodup_append.1 hnl).2.2 v hc v (by simp)
            exact this rfl
          rw [List.idxOf_append, if_neg hva, List.idxOf_append, if_pos hwa] at hlt
          have := List.idxOf_lt_length_iff.2 hwa
          omega
        · exact hwb
      rw [Bool.or_eq_true, Bool.and_eq_true, Bool.and_eq_true]
      simp only [decide_eq_true_eq]
      unfold tlA hdA at *
      cases hb : x.2
      · rw [hb] at hd hlt
        simp only [Bool.false_eq_true, if_false] at hd hlt
        exact .inr ⟨hd, later _ b1 hlt⟩
      · rw [hb] at hd hlt
        simp only [if_true] at hd hlt
        exact .inl ⟨hd, later _ b2 hlt⟩
    omega
  refine ⟨o, ⟨hol, ⟨r, fun x hx => (hz x hx).1⟩, ?_, fun v hv hvq => ?_⟩, hout⟩
  · unfold ind
    rw [List.countP_eq_zero]
    intro x hx hd
    rw [decide_eq_true_eq] at hd
    have := (hz x hx).1
    rw [hd, hrq] at this
    omega
  · have h1 := h.deg hol hv
    have h2 := hout v hv hvq
    have h3 := stabTo_iff.1 hst v hv hvq
    omega
/-- All chips of what leaves are as many as the single edges that the sink does not have. -/
theorem outc_sum (h : OriH n q es F) (hf : Fits n q F o) : sumTo (fun v => (outc n q (F.zip o)).getD v 0) n = F.length - valE es q := by
  obtain ⟨_, hG, _, hq⟩ := root_zero h.hr
  have h1 := out_sum (n := n) (z := F.zip o) fun x hx => h.bd _ (zip_mem hx)
  have hzl : (F.zip o).length = F.length := by rw [List.length_zip, hf.len]; omega
  have h2 := h.deg hf.len hq
  rw [hf.src] at h2
  have h3 : sumTo (fun v => (outd (F.zip o) v : Int)) n = sumTo (fun v => (outc n q (F.zip o)).getD v 0 + if v = q then (valE es q) else 0) n := by
    refine sumTo_congr fun v hv => ?_
    rw [outc_get hv]
    by_cases hvq : v = q
    · rw [if_pos hvq, if_pos hvq, hvq]; omega
    · rw [if_neg hvq, if_neg hvq]; omega
  have h4 := sumTo_at (fun _ => valE es q) q n
  rw [sumTo_add, h4, if_pos hq] at h3
  omega
theorem out_min (h : OriH n q es F) (hf : Fits n q F o) : minTo n es q (outc n q (F.zip o)) n = true := by
  obtain ⟨_, hG, _, hq⟩ := root_zero h.hr
  unfold minTo
  rw [List.all_eq_true]
  intro v hv
  have hv := List.mem_range.1 hv
  rw [Bool.or_eq_true, decide_eq_true_eq, Bool.not_eq_true']
  by_cases h0 : (outc n q (F.zip o)).getD v 0 = 0
  · exact .inl h0
  · right
    rw [Bool.eq_false_iff]
    intro hrec
    obtain ⟨o', hf', hle⟩ := rec_ori h hrec
    have hvq : v ≠ q := fun e => h0 (by rw [outc_get hv, if_pos e])
    have s1 := outc_sum h hf
    have s2 := outc_sum h hf'
    have s3 : sumTo (fun u => (outc n q (F.zip o')).getD u 0) n ≤ sumTo (fun u => (outc n q (F.zip o)).getD u 0 + if u = v then (-1) else 0) n := by
      refine sumTo_le fun u hu => ?_
      rw [outc_get hu]
      by_cases huq : u = q
      · rw [if_pos huq, outc_get hu, if_pos huq, if_neg (fun e => hvq (e.symm.trans huq))]; omega
      · rw [if_neg huq]
        have := hle u hu huq
        by_cases huv : u = v
        · rw [huv] at this ⊢
          rw [List.getD_eq_getElem?_getD, List.getElem?_set_self (by rw [outc_length]; exact hv)] at this
          rw [if_pos rfl]
          simp only [Option.getD_some] at this
          omega
        · rw [List.getD_eq_getElem?_getD, List.getElem?_set_ne (fun e => huv e.symm), ← List.getD_eq_getElem?_getD] at this
          rw [if_neg huv]; omega
    have s4 := sumTo_at (fun _ => (-1 : Int)) v n
    rw [sumTo_add, s4, if_pos hv] at s3
    omega
/-- The minimal recurrent configurations are what leaves the vertices of these orientations. -/
theorem min_out (h : OriH n q es F) {c : List Int} (hc : c ∈ recsL n es q) (hm : minTo n es q c n = true) : ∃ o, Fits n q F o ∧ outc n q (F.zip o) = c := by
  obtain ⟨_, hG, _, hq⟩ := root_zero h.hr
  obtain ⟨hcl, hcr, hcb⟩ := recsL_mem hG hq hc
  obtain ⟨o, hf, hle⟩ := rec_ori h hcr
  refine ⟨o, hf, ?_⟩
  have hro := recsL_mem hG hq (out_rec h hf)
  have hcq : c.getD q 0 = 0 := by have := hcb q hq; rw [maxL_get hG.ok hq, if_pos rfl] at this; omega
  have heq : ∀ v, v < n → (outc n q (F.zip o)).getD v 0 = c.getD v 0 := by
    intro v hv
    by_cases hvq : v = q
    · rw [outc_get hv, if_pos hvq, hvq, hcq]
    · refine Classical.byContradiction fun hne => ?_
      have h1 := hle v hv hvq
      have h2 : (outc n q (F.zip o)).getD v 0 = outd (F.zip o) v := by rw [outc_get hv, if_neg hvq]
      have h3 : c.getD v 0 ≠ 0 := by omega
      unfold minTo at hm
      have h4 := List.all_eq_true.1 hm v (List.mem_range.2 hv)
      rw [Bool.or_eq_true, decide_eq_true_eq, Bool.not_eq_true'] at h4
      rcases h4 with h4 | h4
      · exact h3 h4
      · have hset : ∀ u, (c.set v (c.getD v 0 - 1)).getD u 0 = if u = v then c.getD v 0 - 1 else c.getD u 0 := fun u => by
          by_cases huv : u = v
          · rw [huv, if_pos rfl, List.getD_eq_getElem?_getD, List.getElem?_set_self (by omega)]; rfl
          · rw [if_neg huv, List.getD_eq_getElem?_getD, List.getElem?_set_ne (fun e => huv e.symm), ← List.getD_eq_getElem?_getD]
        have hst : stabTo es (c.set v (c.getD v 0 - 1)) q n = true := maxL_stab hG fun u hu => by
          rw [hset]
          have := (hcb u hu).2
          by_cases huv : u = v
          · rw [if_pos huv, huv]; rw [huv] at this; omega
          · rw [if_neg huv]; exact this
        have : recB n es (c.set v (c.getD v 0 - 1)) q = true := by
          refine recB_mono hG hq (x := outc n q (F.zip o)) (fun u hu => ?_) hst hro.2.1
          rw [hset]
          by_cases huv : u = v
          · rw [if_pos huv, huv]; omega
          · rw [if_neg huv]
            by_cases huq : u = q
            · rw [outc_get hu, if_pos huq, huq, hcq]; omega
            · have := hle u hu huq
              rw [outc_get hu, if_neg huq]; exact this
        rw [this] at h4; cases h4
  apply List.ext_getElem?
  intro i
  by_cases hi : i < n
  · have := heq i hi
    rw [List.getD_eq_getElem?_getD, List.getD_eq_getElem?_getD, List.getElem?_eq_getElem (by rw [outc_length]; exact hi), List.getElem?_eq_getElem (by omega)] at this
    rw [List.getElem?_eq_getElem (by rw [outc_length]; exact hi), List.getElem?_eq_getElem (by omega)]
    exact congrArg some this
  · rw [List.getElem?_eq_none (by rw [outc_length]; omega), List.getElem?_eq_none (by omega)]
/-- There are as many of both. -/
theorem ori_count (h : OriH n q es F) {LO : List (List Bool)} (hn : LO.Nodup) (hm : ∀ o, o ∈ LO ↔ Fits n q F o) : LO.length = ((recsL n es q).filter fun xs => minTo n es q xs n).length := by
  obtain ⟨_, hG, _, hq⟩ := root_zero h.hr
  have hp : (LO.map fun o => outc n q (F.zip o)).Perm ((recsL n es q).filter fun xs => minTo n es q xs n) := by
    refine perm_of_mem (nodup_map_of (fun a ha b hb hab => ?_) hn) ((recsL_nodup hG hq).sublist List.filter_sublist) fun c => ?_
    · have ha := (hm a).1 ha
      have hb := (hm b).1 hb
      refine acy_uni ha.len hb.len h.nl ha.acy fun v => ?_
      by_cases hv : v < n
      · have h1 := h.deg ha.len hv
        have h2 := h.deg hb.len hv
        by_cases hvq : v = q
        · rw [hvq, ha.src, hb.src]
        · have h3 : (outc n q (F.zip a)).getD v 0 = (outc n q (F.zip b)).getD v 0 := by rw [hab]
          rw [outc_get hv, outc_get hv, if_neg hvq, if_neg hvq] at h3
          omega
      · have none : ∀ {o : List Bool}, ind (F.zip o) v = 0 := fun {o} => by
          unfold ind
          rw [List.countP_eq_zero]
          intro x hx hd
          rw [decide_eq_true_eq] at hd
          have := h.bd _ (zip_mem hx)
          unfold hdA at hd
          split at hd <;> omega
        rw [none, none]
    · rw [List.mem_map, List.mem_filter]
      constructor
      · rintro ⟨o, ho, rfl⟩
        exact ⟨out_rec h ((hm o).1 ho), out_min h ((hm o).1 ho)⟩
      · rintro ⟨h1, h2⟩
        obtain ⟨o, hf, he⟩ := min_out h h1 h2
        exact ⟨o, (hm o).2 hf, he⟩
  rw [← hp.length_eq, List.length_map]
end
end Go.Proofs.YtplgbapbgcipdaaGreat

