/-
  Texts of this claim, put together: DualT, DivP, RowsN.
-/
import Derived.Test.YtepmfbgmkfkmkaaK17
import Derived.Test.YtepmfbgmkfkmkaaK18
import Derived.Test.YtepmfbgmkfkmkaaK14
import Derived.Test.YtepmfbgmkfkmkaaK25
import Derived.Test.YtepmfbgmkfkmkaaK04
import Derived.Test.YtepmfbgmkfkmkaaK11
/-! Plain laws of cycles, cutsets and swaps in a spanning tree, as the program returns them. -/
namespace Go.Proofs.Ytepmfbgmkfkmkaa
open Go.RowKit

theorem mem_nI9 {v : Nat} {S : List Nat} : (v : Int) ∈ nI S ↔ v ∈ S := by
  unfold nI
  rw [List.mem_map]
  constructor
  · rintro ⟨u, hu, e⟩; have : u = v := by omega
    exact this ▸ hu
  · intro h; exact ⟨v, h, rfl⟩
/-- Different numbers, sorted. -/
theorem sort_nat {u : List Nat} (hn : u.Nodup) : ∃ s : List Nat, sortG ltI (nI u) = nI s ∧ s.Perm u ∧ s.Pairwise (· < ·) := by
  have hp := sortG_perm (lt := ltI) (nI u)
  have h0 : ∀ x ∈ sortG ltI (nI u), 0 ≤ x := by
    intro x hx
    obtain ⟨y, _, rfl⟩ := List.mem_map.1 (hp.mem_iff.1 hx)
    omega
  have he := nI_toN h0
  have hps : (toN (sortG ltI (nI u))).Perm u := by
    have := hp.map Int.toNat
    have e2 : (nI u).map Int.toNat = u := toN_nI u
    rw [e2] at this
    exact this
  refine ⟨toN (sortG ltI (nI u)), he.symm, hps, ?_⟩
  have hs := sortG_sorted ltI_tr ltI_as (nI u)
  have hnd : (toN (sortG ltI (nI u))).Nodup := hps.nodup_iff.2 hn
  unfold toN at hnd ⊢
  rw [List.pairwise_map]
  have hnd2 := List.pairwise_map.1 hnd
  refine List.Pairwise.imp_of_mem ?_ (hs.and hnd2)
  intro a b ha hb hab
  have h1 := h0 a ha
  have h2 := h0 b hb
  obtain ⟨h3, h4⟩ := hab
  unfold ltI at h3
  rw [decide_eq_false_iff_not] at h3
  omega
theorem edgFrom_ok {m : Nat} : ∀ {t : List Nat} {p : Option Int}, t.Pairwise (· < ·) → (∀ e ∈ t, e < m) → (∀ y, p = some y → ∀ e ∈ t, y < (e : Int)) → edgFrom m p (nI t) = 0
  | [], _, _, _, _ => rfl
  | e :: t, p, h1, h2, h3 => by
    have he := h2 e (by simp)
    show (if (e : Int) < 0 ∨ (m : Int) ≤ (e : Int) then 2 else if leP p (e : Int) = true then 9 else edgFrom m (some (e : Int)) (nI t)) = 0
    rw [if_neg (by omega), if_neg]
    · rw [List.pairwise_cons] at h1
      refine edgFrom_ok h1.2 (fun x hx => h2 x (by simp [hx])) ?_
      rintro y hy x hx
      injection hy with hy
      have := h1.1 x hx
      omega
    · unfold leP
      cases p with
      | none => simp
      | some y =>
        have := h3 y rfl e (by simp)
        simp; omega
theorem edg_ok {m : Nat} {t : List Nat} (h : SetN m t) : edgErr m (nI t) = 0 := edgFrom_ok h.1 h.2 (fun y hy => by cases hy)
theorem tree_ok {m : Nat} {es : List E3} {t : List Nat} (hj : joinErr m es = 0) (h : IsTr m (endsL es) t) : treeErr m es (nI t) = 0 := by
  have hl := h.len
  have e2 : (nI t).map Int.toNat = t := toN_nI t
  unfold treeErr
  rw [if_neg (fun hc => hc hj), if_neg (fun hc => hc (edg_ok h.set)), if_neg (by rw [nI_length]; omega), e2, if_pos (foB_iff.2 h.fo)]
/-- What swapping returns: f of the tree against e. -/
theorem swap_dual {m : Nat} {es : List E3} {t : List Nat} (hR : TreeR m es t) (hj : treeErr m es (nI t) = 0) {f e : Nat} (hf : f ∈ t) (he : e ∉ t) (hel : e < (endsL es).length) :
    ∃ s : List Nat, swapE m es (nI t) f e = (if Sep (endsL es) t ((endsL es).getD e (0, 0)).1 ((endsL es).getD e (0, 0)).2 f then (nI s, 0) else ([], 15)) ∧ s.length ≤ 12 ∧
      (Sep (endsL es) t ((endsL es).getD e (0, 0)).1 ((endsL es).getD e (0, 0)).2 f → IsTr m (endsL es) s) := by
  have hnl := less_nodup (e := f) hR.hT.nodup
  have hen : e ∉ lessL t f := fun h => he (mem_less.1 h).1
  have hfil : ((nI t).filter fun x => !decide (x = (f : Int))) = nI (lessL t f) := nI_less t f
  have hnd : (lessL t f ++ [e]).Nodup := by
    rw [List.nodup_append]
    exact ⟨hnl, by simp, fun a ha b hb => by rw [List.mem_singleton] at hb; subst hb; exact fun h => hen (h ▸ ha)⟩
  obtain ⟨s, hs1, hs2, hs3⟩ := sort_nat hnd
  have hts : tswapL (nI t) f e = nI s := by
    unfold tswapL
    rw [hfil, ← hs1]
    congr 1
    simp [nI]
  have hlen : s.length + 1 = m := by
    rw [hs2.length_eq, List.length_append, List.length_singleton, less_length hR.hT.nodup hf]
    have := hR.tr.len
    exact this
  have hps : s.Perm (e :: lessL t f) := hs2.trans List.perm_append_comm
  have hset : SetN (endsL es).length s := ⟨hs3, fun x hx => by
    rcases List.mem_cons.1 (hps.mem_iff.1 hx) with rfl | h
    · exact hel
    · exact hR.hT.lt x (mem_less.1 h).1⟩
  have hbd : BdP m (pk (endsL es) (e :: lessL t f)) := bd_pk hR.hT.bd fun x hx => hset.2 x (hps.mem_iff.2 hx)
  have hfo : Fo (pk (endsL es) s) ↔ Sep (endsL es) t ((endsL es).getD e (0, 0)).1 ((endsL es).getD e (0, 0)).2 f := by
    rw [fo_perm (bd_pk hR.hT.bd hset.2) (pk_perm hps), pk_cons]
    unfold Sep
    constructor
    · exact fun h => h.2
    · exact fun h => ⟨(hR.hT.less f).fo, h⟩
  have hi : (e : Int) ∉ nI t := fun h => he (mem_nI9.1 h)
  have hfm : (f : Int) ∈ nI t := mem_nI9.2 hf
  have hfl := hR.hT.lt f hf
  refine ⟨s, ?_, by have := hR.hi; omega, fun h => ⟨hset, hlen, hfo.2 h⟩⟩
  unfold swapE
  rw [if_neg (fun hc => hc hj), if_neg (by omega), if_neg (fun h => h hfm), if_neg hi, hts, toN_nI, Int.toNat_natCast]
  by_cases hsp : Sep (endsL es) t ((endsL es).getD e (0, 0)).1 ((endsL es).getD e (0, 0)).2 f
  · rw [if_pos hsp, if_pos]
    unfold spansB
    rw [foB_iff.2 (hfo.2 hsp), decide_eq_true hlen]; rfl
  · rw [if_neg hsp, if_neg]
    intro h
    unfold spansB at h
    rw [Bool.and_eq_true] at h
    exact hsp (hfo.1 (foB_iff.1 h.1))
/-- The cycle that is returned. -/
theorem cycle_dual {m : Nat} {es : List E3} {t : List Nat} (hR : TreeR m es t) (hj : treeErr m es (nI t) = 0) {e : Nat} (he : e ∉ t) (hel : e < (endsL es).length) :
    ∃ s : List Nat, cycleE m es (nI t) e = (nI s, 0) ∧ SetN (endsL es).length s ∧ s.Perm (e :: pathL (endsL es) t ((endsL es).getD e (0, 0)).1 ((endsL es).getD e (0, 0)).2) ∧
      (∀ f ∈ t, f ∈ s ↔ Sep (endsL es) t ((endsL es).getD e (0, 0)).1 ((endsL es).getD e (0, 0)).2 f) := by
  have hi : (e : Int) ∉ nI t := fun h => he (mem_nI9.1 h)
  have hbe := hR.hT.bd _ (List.mem_of_getElem? (getD_some hel))
  have hc := hR.cn hbe.1 hbe.2
  have hpm := path_mem hR.hT hc
  have hpn := path_nodup hR.hT hc
  obtain ⟨P, hP⟩ : ∃ P, pathL (endsL es) t ((endsL es).getD e (0, 0)).1 ((endsL es).getD e (0, 0)).2 = P := ⟨_, rfl⟩
  rw [hP] at hpm hpn ⊢
  have hnd : (P ++ [e]).Nodup := by
    rw [List.nodup_append]
    exact ⟨hpn, by simp, fun a ha b hb => by rw [List.mem_singleton] at hb; subst hb; exact fun h => he (h ▸ ((hpm a).1 ha).1)⟩
  obtain ⟨s, hs1, hs2, hs3⟩ := sort_nat hnd
  have hps : s.Perm (e :: P) := hs2.trans List.perm_append_comm
  refine ⟨s, ?_, ⟨hs3, fun x hx => ?_⟩, hps, fun f hf => ?_⟩
  · unfold cycleE
    rw [if_neg (fun hc => hc hj), if_neg (by omega), if_neg hi, Int.toNat_natCast, getD_some hel]
    dsimp only
    rw [toN_nI, hP, ← hs1]
    congr 2
    simp [nI]
  · rcases List.mem_cons.1 (hps.mem_iff.1 hx) with rfl | h
    · exact hel
    · exact hR.hT.lt x ((hpm x).1 h).1
  · rw [hps.mem_iff, List.mem_cons, hpm f]
    constructor
    · rintro (rfl | h)
      · exact absurd hf he
      · exact h.2
    · exact fun h => .inr ⟨hf, h⟩
/-- The cutset that is returned. -/
theorem cut_dual {m : Nat} {es : List E3} {t : List Nat} (hR : TreeR m es t) (hj : treeErr m es (nI t) = 0) {f : Nat} (hf : f ∈ t) :
    cutsetE m es (nI t) f = (nI (cutL (endsL es) t f), 0) ∧ ∀ e, e < (endsL es).length → (e ∈ cutL (endsL es) t f ↔ Sep (endsL es) t ((endsL es).getD e (0, 0)).1 ((endsL es).getD e (0, 0)).2 f) := by
  have hfm : (f : Int) ∈ nI t := mem_nI9.2 hf
  have hfl := hR.hT.lt f hf
  refine ⟨?_, fun e he => ?_⟩
  · unfold cutsetE
    rw [if_neg (fun hc => hc hj), if_neg (by omega), if_neg (fun h => h hfm), toN_nI, Int.toNat_natCast]
  · unfold cutL
    rw [List.mem_filter, List.mem_range, decide_eq_true_eq]
    exact ⟨fun h => h.2, fun h => ⟨he, h⟩⟩
end Go.Proofs.Ytepmfbgmkfkmkaa

/-! Deletion of a single edge: the graph that is made without it, and its spanning trees. No program is in sight. -/
namespace Go.Proofs.Ytepmfbgmkfkmkaa

def leL (p q : Nat × Nat) : Prop := p.1 < q.1 ∨ (p.1 = q.1 ∧ p.2 ≤ q.2)
theorem mem_endsE {es : List E3} {p : Nat × Nat} : p ∈ endsL es ↔ ∃ e ∈ es, 0 < e.2.2.toNat ∧ p = (e.1.toNat, e.2.1.toNat) := by
  unfold endsL
  rw [List.mem_flatMap]
  constructor
  · rintro ⟨e, he, hp⟩
    rw [List.mem_replicate] at hp
    exact ⟨e, he, by omega, hp.2⟩
  · rintro ⟨e, he, h1, h2⟩
    exact ⟨e, he, by rw [List.mem_replicate]; exact ⟨by omega, h2⟩⟩
theorem endsL_cons (e : E3) (es : List E3) : endsL (e :: es) = List.replicate e.2.2.toNat (e.1.toNat, e.2.1.toNat) ++ endsL es := by simp [endsL]
theorem ends_sorted {n : Int} : ∀ {es : List E3}, (∀ e ∈ es, okE n e) → es.Pairwise ltE → (endsL es).Pairwise leL
  | [], _, _ => .nil
  | e :: es, h1, h2 => by
    rw [List.pairwise_cons] at h2
    rw [endsL_cons, List.pairwise_append]
    refine ⟨?_, ends_sorted (fun x hx => h1 x (by simp [hx])) h2.2, ?_⟩
    · refine List.pairwise_replicate.2 (.inr ?_)
      exact .inr ⟨rfl, Nat.le_refl _⟩
    · intro a ha b hb
      rw [List.mem_replicate] at ha
      obtain ⟨x, hx, _, rfl⟩ := mem_endsE.1 hb
      rw [ha.2]
      have hl := h2.1 x hx
      have o1 := h1 e (by simp)
      have o2 := h1 x (by simp [hx])
      unfold ltE at hl
      unfold okE at o1 o2
      unfold leL
      dsimp only
      omega
theorem ends_order {n : Int} {es : List E3} (h : ∀ e ∈ es, okE n e) : ∀ p ∈ endsL es, p.1 ≤ p.2 := by
  intro p hp
  obtain ⟨e, he, _, rfl⟩ := mem_endsE.1 hp
  have := h e he
  unfold okE at this
  dsimp only; omega
theorem count_ends {n : Int} : ∀ {es : List E3}, (∀ e ∈ es, okE n e) → es.Pairwise ltE → ∀ e ∈ es, (endsL es).count (e.1.toNat, e.2.1.toNat) = e.2.2.toNat
  | [], _, _, e, he => by cases he
  | x :: es, h1, h2, e, he => by
    rw [List.pairwise_cons] at h2
    rw [endsL_cons, List.count_append, List.count_replicate]
    have hne : ∀ y ∈ es, ((x.1.toNat, x.2.1.toNat) : Nat × Nat) ≠ (y.1.toNat, y.2.1.toNat) := by
      intro y hy hc
      have hl := h2.1 y hy
      have o1 := h1 x (by simp)
      have o2 := h1 y (by simp [hy])
      unfold ltE at hl
      unfold okE at o1 o2
      injection hc with c1 c2
      omega
    rcases List.mem_cons.1 he with rfl | he
    · rw [if_pos (by simp), List.count_eq_zero.2]
      · rfl
      · intro hm
        obtain ⟨y, hy, _, hc⟩ := mem_endsE.1 hm
        exact hne y hy hc
    · rw [if_neg (by simpa using hne e he), Nat.zero_add]
      exact count_ends (fun y hy => h1 y (by simp [hy])) h2.2 e he
/-- The graph that is made of an ascending list has this list of single edges. -/
theorem made_ends {n : Nat} {ps : List (Nat × Nat)} (h1 : 1 ≤ n) (hn : n ≤ 12) (hl : ps.length ≤ 50) (hb : BdP n ps) (ho : ∀ p ∈ ps, p.1 ≤ p.2) (hs : ps.Pairwise leL) : endsL (madeS n ps) = ps := by
  have hG := made_right h1 hn hl
  refine List.Perm.eq_of_pairwise (le := leL) ?_ (ends_sorted hG.ok hG.sorted) hs ?_
  · rintro ⟨a, b⟩ ⟨c, d⟩ _ _ k1 k2
    unfold leL at k1 k2
    dsimp only at k1 k2
    have e1 : a = c := by omega
    have e2 : b = d := by omega
    rw [e1, e2]
  · rw [List.perm_iff_count]
    rintro ⟨a, b⟩
    have hc : ps.count (a, b) = if a ≤ b then cnt ps a b else 0 := by
      split
      · rename_i hab
        unfold cnt
        rw [List.count_eq_length_filter]
        congr 1
        apply List.filter_congr
        rintro ⟨c, d⟩ hp
        have := ho _ hp
        dsimp only at this ⊢
        rw [Bool.eq_iff_iff, beq_iff_eq, Bool.and_eq_true, decide_eq_true_eq, decide_eq_true_eq, Prod.mk.injEq]
        omega
      · rename_i hab
        rw [List.count_eq_zero]
        intro hm
        exact hab (ho _ hm)
    rw [hc]
    by_cases hp : a ≤ b ∧ 0 < cnt ps a b
    · obtain ⟨p, hpm, m1, m2⟩ := cnt_pos.1 hp.2
      have hpb := hb p hpm
      have he : ((a : Int), (b : Int), (cnt ps a b : Int)) ∈ madeS n ps := mem_joinTo.2 ⟨a, b, by omega, hp.1, by omega, by omega, rfl⟩
      have := count_ends hG.ok hG.sorted _ he
      dsimp only at this
      simp only [Int.toNat_natCast] at this
      rw [this, if_pos hp.1]
    · have hz : (if a ≤ b then cnt ps a b else 0) = 0 := by split <;> omega
      rw [hz, List.count_eq_zero]
      intro hm
      obtain ⟨e, he, h0, hpe⟩ := mem_endsE.1 hm
      obtain ⟨x, y, k1, k2, k3, k4, rfl⟩ := mem_joinTo.1 he
      injection hpe with p1 p2
      simp only [Int.toNat_natCast] at p1 p2 h0
      subst p1 p2
      exact hp ⟨k2, by omega⟩

/-- The number behind one that is left out. -/
def shf (k i : Nat) : Nat := if i < k then i else i + 1
def unshf (k j : Nat) : Nat := if j < k then j else j - 1
theorem shf_ne (k i : Nat) : shf k i ≠ k := by unfold shf; split <;> omega
theorem shf_lt {k i j : Nat} : shf k i < shf k j ↔ i < j := by unfold shf; split <;> split <;> omega
theorem shf_inj {k i j : Nat} (h : shf k i = shf k j) : i = j := by unfold shf at h; split at h <;> split at h <;> omega
theorem shf_un {k j : Nat} (h : j ≠ k) : shf k (unshf k j) = j := by
  unfold shf unshf
  by_cases h1 : j < k
  · rw [if_pos h1, if_pos h1]
  · rw [if_neg h1, if_neg (by omega)]; omega
theorem map_shf {k : Nat} : ∀ {a b : List Nat}, a.map (shf k) = b.map (shf k) → a = b
  | [], [], _ => rfl
  | [], _ :: _, h => by simp at h
  | _ :: _, [], h => by simp at h
  | x :: a, y :: b, h => by
    rw [List.map_cons, List.map_cons] at h
    injection h with h1 h2
    rw [shf_inj h1, map_shf h2]
section
variable {E : List (Nat × Nat)} {k : Nat}
theorem less_range (hk : k < E.length) : lessL (List.range E.length) k = (List.range (E.length - 1)).map (shf k) := by
  refine List.Perm.eq_of_pairwise (le := (· < ·)) (fun a b _ _ h1 h2 => by omega) (List.Pairwise.sublist List.filter_sublist List.pairwise_lt_range) ?_ ?_
  · rw [List.pairwise_map]
    exact List.pairwise_lt_range.imp fun h => shf_lt.2 h
  · refine (List.perm_ext_iff_of_nodup (List.nodup_range.sublist List.filter_sublist) ?_).2 fun x => ?_
    · exact nodup_map_of (fun a _ b _ h => shf_inj h) List.nodup_range
    · show x ∈ lessL _ _ ↔ _
      rw [mem_less, List.mem_range, List.mem_map]
      constructor
      · rintro ⟨h1, h2⟩
        refine ⟨unshf k x, ?_, shf_un h2⟩
        rw [List.mem_range]; unfold unshf; split <;> omega
      · rintro ⟨i, hi, rfl⟩
        rw [List.mem_range] at hi
        refine ⟨?_, shf_ne _ _⟩
        unfold shf; split <;> omega
/-- The single edges without one. -/
def delE (E : List (Nat × Nat)) (k : Nat) : List (Nat × Nat) := pk E (lessL (List.range E.length) k)
theorem pk_range : pk E (List.range E.length) = E := by
  unfold pk
  apply List.ext_getElem?
  intro i
  rw [List.getElem?_map]
  by_cases hi : i < E.length
  · rw [List.getElem?_range hi, getD_some hi]; rfl
  · rw [List.getElem?_eq_none (by simpa using hi), List.getElem?_eq_none (by omega)]; rfl
theorem del_sub : (delE E k).Sublist E := by
  have := pk_sub (E := E) (less_sub (t := List.range E.length) (e := k))
  rw [pk_range] at this
  exact this
theorem del_length (hk : k < E.length) : (delE E k).length = E.length - 1 := by
  unfold delE
  rw [less_range hk, pk_length]; simp
theorem del_getD (hk : k < E.length) {i : Nat} (hi : i < E.length - 1) : (delE E k).getD i (0, 0) = E.getD (shf k i) (0, 0) := by
  unfold delE pk
  rw [less_range hk, List.map_map, List.getD_eq_getElem?_getD, List.getElem?_map, List.getElem?_range hi]
  rfl
theorem pk_del (hk : k < E.length) {t : List Nat} (ht : ∀ i ∈ t, i < E.length - 1) : pk (delE E k) t = pk E (t.map (shf k)) := by
  unfold pk
  rw [List.map_map]
  exact List.map_congr_left fun i hi => del_getD hk (ht i hi)
theorem tr_shf {n : Nat} (hk : k < E.length) {t : List Nat} (h : IsTr n (delE E k) t) : IsTr n E (t.map (shf k)) ∧ k ∉ t.map (shf k) := by
  have hl := del_length hk
  have hlt : ∀ i ∈ t, i < E.length - 1 := fun i hi => by have := h.set.2 i hi; omega
  refine ⟨⟨⟨?_, ?_⟩, by rw [List.length_map]; exact h.len, by rw [← pk_del hk hlt]; exact h.fo⟩, ?_⟩
  · rw [List.pairwise_map]
    exact h.set.1.imp fun h => shf_lt.2 h
  · intro x hx
    obtain ⟨i, hi, rfl⟩ := List.mem_map.1 hx
    have := hlt i hi
    unfold shf; split <;> omega
  · intro hx
    obtain ⟨i, _, he⟩ := List.mem_map.1 hx
    exact shf_ne _ _ he
theorem tr_unshf {n : Nat} (hk : k < E.length) {x : List Nat} (h : IsTr n E x) (hx : k ∉ x) : IsTr n (delE E k) (x.map (unshf k)) ∧ (x.map (unshf k)).map (shf k) = x := by
  have hl := del_length hk
  have hne : ∀ j ∈ x, j ≠ k := fun j hj e => hx (e ▸ hj)
  have hb : (x.map (unshf k)).map (shf k) = x := by
    rw [List.map_map]
    conv => rhs; rw [← List.map_id x]
    exact List.map_congr_left fun j hj => shf_un (hne j hj)
  have hlt : ∀ i ∈ x.map (unshf k), i < E.length - 1 := by
    intro i hi
    obtain ⟨j, hj, rfl⟩ := List.mem_map.1 hi
    have h1 := h.set.2 j hj
    have h2 := hne j hj
    unfold unshf; split <;> omega
  refine ⟨⟨⟨?_, fun i hi => by have := hlt i hi; omega⟩, by rw [List.length_map]; exact h.len, by rw [pk_del hk hlt, hb]; exact h.fo⟩, hb⟩
  rw [List.pairwise_map]
  refine List.Pairwise.imp_of_mem ?_ h.set.1
  intro a b ha hb' hab
  have h1 := hne a ha
  have h2 := hne b hb'
  unfold unshf; split <;> split <;> omega
/-- The trees of the graph without a single edge are as many as the trees without it. -/
theorem del_trees {n : Nat} (hb : BdP n E) (hn : 0 < n) (hk : k < E.length) : (treesT n (delE E k)).length = ((treesT n E).filter fun t => !decide (k ∈ t)).length := by
  have hbd : BdP n (delE E k) := fun p hp => hb p (del_sub.subset hp)
  have hp : ((treesT n (delE E k)).map (List.map (shf k))).Perm ((treesT n E).filter fun t => !decide (k ∈ t)) := by
    refine (List.perm_ext_iff_of_nodup ?_ ((treesT_nodup hb hn).sublist List.filter_sublist)).2 fun x => ?_
    · refine nodup_map_of (fun a _ b _ h => ?_) (treesT_nodup hbd hn)
      exact map_shf h
    · rw [List.mem_map, List.mem_filter, (treesT_spec hb hn).1, Bool.not_eq_true', decide_eq_false_iff_not]
      constructor
      · rintro ⟨t, ht, rfl⟩
        exact tr_shf hk (((treesT_spec hbd hn).1 t).1 ht)
      · rintro ⟨h1, h2⟩
        obtain ⟨h3, h4⟩ := tr_unshf hk h1 h2
        exact ⟨_, ((treesT_spec hbd hn).1 _).2 h3, h4⟩
  have := hp.length_eq
  rwa [List.length_map] at this
theorem del_parted {n : Nat} (hb : BdP n E) (hn : 0 < n) (hp : partsP n E ≠ 1) : treesT n E = [] := by
  refine List.eq_nil_iff_forall_not_mem.2 fun t ht => hp ?_
  have h := ((treesT_spec hb hn).1 t).1 ht
  rw [partsP_one hn]
  intro v hv
  refine (h.cn hb hn hv).mono fun p hp => ?_
  obtain ⟨e, he, rfl⟩ := mem_pk.1 hp
  exact List.mem_of_getElem? (getD_some (h.set.2 e he))
end
end Go.Proofs.Ytepmfbgmkfkmkaa

/-! A slice of slices of ints that reads as lists of numbers: its rows, and what a later world keeps. -/
namespace Go.Proofs.Ytepmfbgmkfkmkaa
open Go.RowKit

theorem RowsR.nextR {w w' : World} {A : Option Addr} {xss : List (List Int)} (h : RowsR w w.heap.size A xss) (hb : Below w.heap.size w w') : RowsR w' w'.heap.size A xss := by
  obtain ⟨vs, h1, h2⟩ := h
  refine ⟨vs, h1.next hb, fun i xs hi => ?_⟩
  obtain ⟨A', c', e, hr⟩ := h2 i xs hi
  exact ⟨A', c', e, hr.next hb⟩
theorem RowsR.row {W : World} {B : Nat} {A : Option Addr} {T : List (List Nat)} {j : Nat} {x : List Nat} (h : RowsR W B A (T.map nI)) (hx : T[j]? = some x) :
    ∃ b off A0 c0, A = some ⟨b, off, none⟩ ∧ W.cell? ⟨b, off + j, none⟩ = some (.slice A0 x.length c0) ∧ Reads W B 1 A0 x.length (ints (nI x)) ∧ b < B := by
  obtain ⟨vs, h1, h2⟩ := h
  obtain ⟨A0, c0, e0, r0⟩ := h2 j (nI x) (by simp [hx])
  rw [nI_length] at e0 r0
  obtain ⟨b, off, e, hb, hc⟩ := h1.at_ e0
  exact ⟨b, off, A0, c0, e, hc, r0, hb⟩
end Go.Proofs.Ytepmfbgmkfkmkaa

