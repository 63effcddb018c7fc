/-
  Texts of this claim, put together: RankQ, RJoins, Pile, Legal, FewT.
-/
import Derived.Test.YtnbikkcalcpedaaGreatDoorK17
import Derived.Test.YtnbikkcalcpedaaGreatDoorK16
import Derived.Test.YtnbikkcalcpedaaGreatDoorK11
import Derived.Test.YtnbikkcalcpedaaGreatDoorK09
import Derived.Test.YtnbikkcalcpedaaGreatDoorK10
import Derived.Deep.QuietTactic
import Derived.BigQuiet
import Derived.BigRegion
import Derived.Test.YtnbikkcalcpedaaGreatDoorK18
/-! The numbers of trees by activities depend neither on the order of the single edges nor on the numbers of the vertices. No program is in sight. -/
namespace Go.Proofs.YtnbikkcalcpedaaGreatDoor
section
variable {n : Nat} {E : List (Nat × Nat)} {t S : List Nat} {e f : Nat}
theorem sum_swap {α β : Type} (f : α → β → Nat) (l : List α) (k : List β) : (l.map fun a => (k.map (f a)).sum).sum = (k.map fun b => (l.map fun a => f a b).sum).sum := by
  induction l with
  | nil =>
    simp only [List.map_nil, List.sum_nil]
    induction k with
    | nil => rfl
    | cons b k ih => rw [List.map_cons, List.sum_cons, ← ih]; rfl
  | cons a l ih =>
    rw [List.map_cons, List.sum_cons, ih]
    clear ih
    induction k with
    | nil => rfl
    | cons b k ih => rw [List.map_cons, List.sum_cons, List.map_cons, List.sum_cons, List.map_cons, List.sum_cons, List.map_cons, List.sum_cons]; omega
theorem sum_one {α : Type} [DecidableEq α] {l : List α} {a : α} (hn : l.Nodup) (ha : a ∈ l) (f : α → Nat) (h : ∀ b ∈ l, b ≠ a → f b = 0) : (l.map f).sum = f a := by
  induction l with
  | nil => cases ha
  | cons b l ih =>
    rw [List.nodup_cons] at hn
    rw [List.map_cons, List.sum_cons]
    by_cases hb : b = a
    · subst hb
      have : ∀ k : List α, (∀ x ∈ k, f x = 0) → (k.map f).sum = 0 := fun k hk => by
        induction k with
        | nil => rfl
        | cons y k ih => rw [List.map_cons, List.sum_cons, hk y (by simp), ih fun x hx => hk x (by simp [hx])]
      rw [this l fun x hx => h x (by simp [hx]) fun he => hn.1 (he ▸ hx)]
      omega
    · rw [h b (by simp) hb, ih hn.2 ((List.mem_cons.1 ha).resolve_left fun he => hb he.symm) fun c hc => h c (by simp [hc])]
      omega
theorem subsN_nodup : ∀ m, ∀ s ∈ subsN m, s.Nodup
  | 0, s, hs => by rw [subsN, List.mem_singleton] at hs; subst hs; exact List.nodup_nil
  | m + 1, s, hs => by
    rw [subsN, List.mem_append, List.mem_map] at hs
    rcases hs with hs | ⟨s', hs, rfl⟩
    · exact subsN_nodup m s hs
    · rw [List.nodup_append]
      refine ⟨subsN_nodup m s' hs, by simp, fun a ha b hb hab => ?_⟩
      rw [List.mem_singleton] at hb
      have := subsN_lt m s' hs a ha
      omega
theorem filt_len {m : Nat} {l : List Nat} (hn : l.Nodup) (hl : ∀ x ∈ l, x < m) (p : Nat → Bool) : ((List.range m).filter fun e => decide (e ∈ l) && p e).length = (l.filter p).length := by
  refine List.Perm.length_eq (perm_of_mem (List.nodup_range.sublist List.filter_sublist) (hn.sublist List.filter_sublist) fun x => ?_)
  rw [List.mem_filter, List.mem_filter, List.mem_range]
  simp only [decide_eq_true_eq, Bool.and_eq_true]
  exact ⟨fun h => h.2, fun h => ⟨hl x h.1, h⟩⟩
theorem filt_not {α : Type} (p : α → Bool) (l : List α) : (l.filter p).length + (l.filter fun x => !p x).length = l.length := by
  induction l with
  | nil => rfl
  | cons x l ih => cases hp : p x <;> simp [hp] <;> omega
/-- The weight of a set by its rank and its nullity. -/
def rkW (n u v : Nat) (ps : List (Nat × Nat)) : Nat := u ^ (partsP n ps - 1) * v ^ (ps.length + partsP n ps - n)
theorem iv_rk (hb : BdP n E) (ht : IsTr n E t) (hS : ∀ x ∈ S, x < E.length) (hSn : S.Nodup) (h : InIv E S t) (u v : Nat) :
    u ^ ((List.range E.length).filter fun e => decide (e ∈ t) && !decide (e ∈ S)).length * v ^ ((List.range E.length).filter fun e => !decide (e ∈ t) && decide (e ∈ S)).length = rkW n u v (pk E S) := by
  have h1 := iv_parts hb ht hS h
  have h2 := filt_len ht.set.nodup ht.set.2 (fun e => !decide (e ∈ S))
  have h3 := filt_len hSn hS (fun e => !decide (e ∈ t))
  have h4 := filt_not (fun e => decide (e ∈ S)) t
  have h5 := filt_not (fun e => decide (e ∈ t)) S
  have h6 : (S.filter fun e => decide (e ∈ t)).length = (inS S t).length := by
    refine List.Perm.length_eq (perm_of_mem (hSn.sublist List.filter_sublist) (ht.set.nodup.sublist List.filter_sublist) fun x => ?_)
    rw [List.mem_filter, mem_inS, decide_eq_true_eq]
    exact And.comm
  have h7 : ((List.range E.length).filter fun e => !decide (e ∈ t) && decide (e ∈ S)) = (List.range E.length).filter fun e => decide (e ∈ S) && !decide (e ∈ t) := List.filter_congr fun e _ => Bool.and_comm _ _
  have hl := ht.len
  have h8 : (t.filter fun e => decide (e ∈ S)).length = (inS S t).length := rfl
  unfold rkW
  rw [h7, h2, h3, pk_length]
  congr 2 <;> omega
/-- The trees by activities, and the sets by ranks. -/
theorem rank_sum (hb : BdP n E) (hn : 0 < n) (hx : ∃ t, IsTr n E t) (u v : Nat) : ((treesT n E).map fun t => (1 + u) ^ (insA E t).length * (1 + v) ^ (outA E t).length).sum = ((subsN E.length).map fun S => rkW n u v (pk E S)).sum := by
  obtain ⟨s1, s2⟩ := treesT_spec hb hn
  have h1 : ((treesT n E).map fun t => (1 + u) ^ (insA E t).length * (1 + v) ^ (outA E t).length) = (treesT n E).map fun t => ((subsN E.length).map fun S => if InIv E S t then u ^ ((List.range E.length).filter fun e => decide (e ∈ t) && !decide (e ∈ S)).length * v ^ ((List.range E.length).filter fun e => !decide (e ∈ t) && decide (e ∈ S)).length else 0).sum :=
    List.map_congr_left fun t ht => (iv_weight ((s1 t).1 ht).set u v).symm
  rw [h1, sum_swap]
  congr 1
  refine List.map_congr_left fun S hS => ?_
  obtain ⟨t, ht, hi⟩ := iv_ex hb hx S
  rw [sum_one (treesT_nodup hb hn) ((s1 t).2 ht) _ fun b hb' hne => if_neg fun hc => hne (iv_uni hb ((s1 b).1 hb') ht hc hi), if_pos hi]
  exact iv_rk hb ht (subsN_lt _ S hS) (subsN_nodup _ S hS) hi u v

/-! All sublists. -/
def subW {α : Type} (l : List α) : List (List α) := l.foldl (fun acc a => acc ++ acc.map fun x => x ++ [a]) [[]]
theorem subW_snoc {α : Type} (l : List α) (a : α) : subW (l ++ [a]) = subW l ++ (subW l).map fun x => x ++ [a] := by simp [subW]
theorem subsN_subW : ∀ m, m ≤ E.length → (subsN m).map (pk E) = subW (E.take m)
  | 0, _ => by simp [subsN, subW, pk]
  | m + 1, hm => by
    have h1 : E.take (m + 1) = E.take m ++ [E.getD m (0, 0)] := by rw [List.take_add_one, List.getElem?_eq_getElem (by omega), List.getD_eq_getElem?_getD, List.getElem?_eq_getElem (by omega)]; rfl
    rw [h1, subW_snoc, ← subsN_subW m (by omega), subsN, List.map_append, List.map_map, List.map_map]
    congr 1
    refine List.map_congr_left fun s _ => ?_
    simp [pk]
/-- The sum over all sublists. -/
def sumW {α : Type} (l : List α) (F : List α → Nat) : Nat := ((subW l).map F).sum
theorem sumW_snoc {α : Type} (l : List α) (a : α) (F : List α → Nat) : sumW (l ++ [a]) F = sumW l F + sumW l fun x => F (x ++ [a]) := by
  unfold sumW
  rw [subW_snoc, List.map_append, List.sum_append, List.map_map]; rfl
theorem sumW_perm' {α : Type} {l l' : List α} (h : l.Perm l') : ∀ (F : List α → Nat), (∀ x y : List α, x.Perm y → F x = F y) → sumW l.reverse F = sumW l'.reverse F := by
  induction h with
  | nil => exact fun F _ => rfl
  | cons a _ ih =>
    intro F hF
    rw [List.reverse_cons, List.reverse_cons, sumW_snoc, sumW_snoc, ih F hF, ih (fun x => F (x ++ [a])) fun x y h => hF _ _ (h.append_right _)]
  | swap a b l =>
    intro F hF
    rw [List.reverse_cons, List.reverse_cons, List.reverse_cons, List.reverse_cons, sumW_snoc, sumW_snoc, sumW_snoc, sumW_snoc, sumW_snoc, sumW_snoc]
    have : (fun x => F (x ++ [a] ++ [b])) = fun x => F (x ++ [b] ++ [a]) := funext fun x => hF _ _ (by
      rw [List.append_assoc, List.append_assoc]
      exact List.Perm.append_left x (List.Perm.swap b a []))
    rw [this]; omega
  | trans _ _ h1 h2 => exact fun F hF => (h1 F hF).trans (h2 F hF)
theorem sumW_perm {α : Type} {l l' : List α} (h : l.Perm l') {F : List α → Nat} (hF : ∀ x y : List α, x.Perm y → F x = F y) : sumW l F = sumW l' F := by
  have := sumW_perm' (((List.reverse_perm l).trans h).trans (List.reverse_perm l').symm) F hF
  rwa [List.reverse_reverse, List.reverse_reverse] at this
theorem sumW_map {α β : Type} (g : α → β) (l : List α) (F : List β → Nat) : sumW (l.map g) F = sumW l fun x => F (x.map g) := by
  have key : ∀ (l : List α), subW (l.map g) = (subW l).map (List.map g) := by
    intro l
    suffices H : ∀ (l : List α) (acc : List (List α)), (l.map g).foldl (fun acc a => acc ++ acc.map fun x => x ++ [a]) (acc.map (List.map g)) = (l.foldl (fun acc a => acc ++ acc.map fun x => x ++ [a]) acc).map (List.map g) from H l [[]]
    intro l
    induction l with
    | nil => exact fun acc => rfl
    | cons a l ih =>
      intro acc
      rw [List.map_cons, List.foldl_cons, List.foldl_cons, ← ih]
      congr 1
      rw [List.map_append, List.map_map, List.map_map]
      congr 1
      refine List.map_congr_left fun x _ => ?_
      simp
  unfold sumW
  rw [key, List.map_map]; rfl
theorem rank_sumW (hb : BdP n E) (hn : 0 < n) (hx : ∃ t, IsTr n E t) (u v : Nat) : ((treesT n E).map fun t => (1 + u) ^ (insA E t).length * (1 + v) ^ (outA E t).length).sum = sumW E (rkW n u v) := by
  rw [rank_sum hb hn hx]
  unfold sumW
  have := subsN_subW (E := E) E.length (Nat.le_refl _)
  rw [List.take_length] at this
  rw [← this, List.map_map]; rfl

/-! Digits. -/
/-- Sums of powers of a great base tell how often each power comes. -/
theorem digits_tell {B : Nat} (hB : 2 ≤ B) : ∀ (D : Nat) (l k : List Nat), l.length < B → k.length < B → (∀ x ∈ l, x < D) → (∀ x ∈ k, x < D) → (l.map fun x => B ^ x).sum = (k.map fun x => B ^ x).sum → ∀ y, l.count y = k.count y
  | 0, l, k, _, _, h1, h2, _, y => by
    have e1 : l = [] := List.eq_nil_iff_forall_not_mem.2 fun x hx => by have := h1 x hx; omega
    have e2 : k = [] := List.eq_nil_iff_forall_not_mem.2 fun x hx => by have := h2 x hx; omega
    rw [e1, e2]
  | D + 1, l, k, hl, hk, h1, h2, h, y => by
    have split : ∀ (l : List Nat), (l.map fun x => B ^ x).sum = l.count 0 + B * (((l.filter fun x => !decide (x = 0)).map fun x => x - 1).map fun x => B ^ x).sum := by
      intro l
      induction l with
      | nil => simp
      | cons a l ih =>
        rw [List.map_cons, List.sum_cons, ih, List.count_cons]
        cases a with
        | zero => simp; omega
        | succ a => simp [Nat.pow_succ, Nat.mul_add, Nat.mul_comm]; omega
    rw [split l, split k] at h
    have c1 : l.count 0 < B := Nat.lt_of_le_of_lt List.count_le_length hl
    have c2 : k.count 0 < B := Nat.lt_of_le_of_lt List.count_le_length hk
    have h3 := congrArg (· % B) h
    simp only [Nat.add_mul_mod_self_left, Nat.mod_eq_of_lt c1, Nat.mod_eq_of_lt c2] at h3
    have h4 : (((l.filter fun x => !decide (x = 0)).map fun x => x - 1).map fun x => B ^ x).sum = (((k.filter fun x => !decide (x = 0)).map fun x => x - 1).map fun x => B ^ x).sum := by
      rw [h3] at h
      exact Nat.eq_of_mul_eq_mul_left (by omega) (Nat.add_left_cancel h)
    cases y with
    | zero => exact h3
    | succ y =>
      have small : ∀ (l : List Nat), l.length < B → ((l.filter fun x => !decide (x = 0)).map fun x => x - 1).length < B := fun l hl => by
        rw [List.length_map]; exact Nat.lt_of_le_of_lt (List.length_filter_le _ _) hl
      have below : ∀ (l : List Nat), (∀ x ∈ l, x < D + 1) → ∀ x ∈ (l.filter fun x => !decide (x = 0)).map fun x => x - 1, x < D := fun l hl x hx => by
        obtain ⟨z, hz, rfl⟩ := List.mem_map.1 hx
        obtain ⟨hz1, hz2⟩ := List.mem_filter.1 hz
        have := hl z hz1
        have : z ≠ 0 := by simpa using hz2
        omega
      have cnt : ∀ (l : List Nat), ((l.filter fun x => !decide (x = 0)).map fun x => x - 1).count y = l.count (y + 1) := by
        intro l
        induction l with
        | nil => rfl
        | cons a l ih =>
          cases a with
          | zero => simp [ih]
          | succ a => simp [List.count_cons, ih]
      rw [← cnt l, ← cnt k]
      exact digits_tell hB D _ _ (small l hl) (small k hk) (below l h1) (below k h2) h4 y
/-! Other numbers of the vertices. -/
/-- A list of pairs has a forest that joins the same. -/
theorem forest_ex : ∀ {ps : List (Nat × Nat)}, BdP n ps → ∃ qs : List (Nat × Nat), qs.Sublist ps ∧ Fo qs ∧ ∀ a b, Cn qs a b ↔ Cn ps a b
  | [], _ => ⟨[], .slnil, trivial, fun _ _ => Iff.rfl⟩
  | p :: ps, hb => by
    obtain ⟨qs, h1, h2, h3⟩ := forest_ex (ps := ps) fun x hx => hb x (by simp [hx])
    by_cases hc : Cn qs p.1 p.2
    · exact ⟨qs, h1.cons p, h2, fun a b => by rw [cn_cons_of ((h3 _ _).1 hc)]; exact h3 a b⟩
    · refine ⟨p :: qs, h1.cons_cons p, ⟨h2, hc⟩, fun a b => ?_⟩
      rw [cn_cons, cn_cons, h3, h3, h3, h3, h3]
section
variable {tw : Nat → Nat} {g : Nat × Nat → Nat × Nat} {ps : List (Nat × Nat)}
theorem cn_ren (hg : ∀ p, g p = (tw p.1, tw p.2) ∨ g p = (tw p.2, tw p.1)) {a b : Nat} (h : Cn ps a b) : Cn (ps.map g) (tw a) (tw b) := by
  induction h with
  | refl => exact .refl
  | @step b c _ hs ih =>
    have key : ∀ p ∈ ps, Cn (ps.map g) (tw p.1) (tw p.2) := by
      intro p hp
      have hm : g p ∈ ps.map g := List.mem_map_of_mem hp
      rcases hg p with h | h
      · rw [h] at hm; exact Cn.step .refl (.inl hm)
      · rw [h] at hm; exact Cn.step .refl (.inr hm)
    rcases hs with hs | hs
    · exact ih.trans (key _ hs)
    · exact ih.trans (key _ hs).symm
theorem cn_unren (hg : ∀ p, g p = (tw p.1, tw p.2) ∨ g p = (tw p.2, tw p.1)) (hb : BdP n ps) (hi : ∀ a b, a < n → b < n → tw a = tw b → a = b) {x y : Nat} (h : Cn (ps.map g) x y) : ∀ a, a < n → x = tw a → ∃ b, b < n ∧ y = tw b ∧ Cn ps a b := by
  induction h with
  | refl => exact fun a ha hx => ⟨a, ha, hx, .refl⟩
  | @step y z _ hs ih =>
    intro a ha hx
    obtain ⟨b, hbn, hy, hc⟩ := ih a ha hx
    have fin : ∀ p ∈ ps, (tw p.1 = y ∧ tw p.2 = z) ∨ (tw p.2 = y ∧ tw p.1 = z) → ∃ c, c < n ∧ z = tw c ∧ Cn ps a c := by
      intro p hp h
      obtain ⟨h1, h2⟩ := hb p hp
      rcases h with ⟨e1, e2⟩ | ⟨e1, e2⟩
      · have : p.1 = b := hi _ _ h1 hbn (e1.trans hy)
        subst this
        exact ⟨p.2, h2, e2.symm, hc.trans (Cn.step .refl (.inl hp))⟩
      · have : p.2 = b := hi _ _ h2 hbn (e1.trans hy)
        subst this
        exact ⟨p.1, h1, e2.symm, hc.trans (Cn.step .refl (.inr hp))⟩
    rcases hs with hs | hs
    · obtain ⟨p, hp, hpe⟩ := List.mem_map.1 hs
      refine fin p hp ?_
      rcases hg p with h | h
      · rw [h] at hpe; injection hpe with e1 e2; exact .inl ⟨e1, e2⟩
      · rw [h] at hpe; injection hpe with e1 e2; exact .inr ⟨e1, e2⟩
    · obtain ⟨p, hp, hpe⟩ := List.mem_map.1 hs
      refine fin p hp ?_
      rcases hg p with h | h
      · rw [h] at hpe; injection hpe with e1 e2; exact .inr ⟨e2, e1⟩
      · rw [h] at hpe; injection hpe with e1 e2; exact .inl ⟨e2, e1⟩
theorem cn_ren_iff (hg : ∀ p, g p = (tw p.1, tw p.2) ∨ g p = (tw p.2, tw p.1)) (hb : BdP n ps) (hi : ∀ a b, a < n → b < n → tw a = tw b → a = b) {a b : Nat} (ha : a < n) (hbn : b < n) : Cn (ps.map g) (tw a) (tw b) ↔ Cn ps a b := by
  refine ⟨fun h => ?_, cn_ren hg⟩
  obtain ⟨c, hc, he, h1⟩ := cn_unren hg hb hi h a ha rfl
  have := hi b c hbn hc he
  subst this
  exact h1
theorem fo_ren (hg : ∀ p, g p = (tw p.1, tw p.2) ∨ g p = (tw p.2, tw p.1)) (hi : ∀ a b, a < n → b < n → tw a = tw b → a = b) : ∀ {ps : List (Nat × Nat)}, BdP n ps → Fo ps → Fo (ps.map g)
  | [], _, _ => trivial
  | p :: ps, hb, h => by
    have hb' : BdP n ps := fun x hx => hb x (by simp [hx])
    obtain ⟨h1, h2⟩ := hb p (by simp)
    refine ⟨fo_ren hg hi hb' h.1, fun hc => h.2 ?_⟩
    rcases hg p with he | he
    · rw [he] at hc; exact (cn_ren_iff hg hb' hi h1 h2).1 hc
    · rw [he] at hc; exact ((cn_ren_iff hg hb' hi h2 h1).1 hc).symm
/-- Other numbers do not change the number of parts. -/
theorem parts_ren (hg : ∀ p, g p = (tw p.1, tw p.2) ∨ g p = (tw p.2, tw p.1)) (hb : BdP n ps) (ht : ∀ a, a < n → tw a < n) (hi : ∀ a b, a < n → b < n → tw a = tw b → a = b) : partsP n (ps.map g) = partsP n ps := by
  obtain ⟨qs, h1, h2, h3⟩ := forest_ex hb
  have hbq : BdP n qs := fun x hx => hb x (h1.mem hx)
  have hbm : BdP n (qs.map g) := by
    intro x hx
    obtain ⟨p, hp, rfl⟩ := List.mem_map.1 hx
    obtain ⟨e1, e2⟩ := hbq p hp
    rcases hg p with h | h <;> rw [h] <;> exact ⟨ht _ (by assumption), ht _ (by assumption)⟩
  have e1 := (fo_parts hbq).2.1 h2
  have e2 := (fo_parts hbm).2.1 (fo_ren hg hi hbq h2)
  have e3 : partsP n (ps.map g) = partsP n (qs.map g) := by
    refine partsP_congr fun x y => ⟨fun h => ?_, fun h => h.mono fun p hp => ?_⟩
    · have hsub : ∀ p ∈ ps, Cn (qs.map g) (tw p.1) (tw p.2) := fun p hp => cn_ren hg ((h3 _ _).2 (Cn.step .refl (.inl hp)))
      induction h with
      | refl => exact .refl
      | step _ hs ih =>
        rcases hs with hs | hs
        · obtain ⟨p, hp, hpe⟩ := List.mem_map.1 hs
          have := hsub p hp
          rcases hg p with h | h
          · rw [h] at hpe; injection hpe with e1 e2; rw [e1, e2] at this; exact ih.trans this
          · rw [h] at hpe; injection hpe with e1 e2; rw [e1, e2] at this; exact ih.trans this.symm
        · obtain ⟨p, hp, hpe⟩ := List.mem_map.1 hs
          have := hsub p hp
          rcases hg p with h | h
          · rw [h] at hpe; injection hpe with e1 e2; rw [e1, e2] at this; exact ih.trans this.symm
          · rw [h] at hpe; injection hpe with e1 e2; rw [e1, e2] at this; exact ih.trans this
    · exact (h1.map g).mem hp
  rw [List.length_map] at e2
  rw [e3, partsP_congr (qs := qs) fun a b => (h3 a b).symm]
  omega
end
theorem rkW_perm (u v : Nat) {x y : List (Nat × Nat)} (h : x.Perm y) : rkW n u v x = rkW n u v y := by
  unfold rkW
  rw [h.length_eq, partsP_congr (qs := y) fun a b => cn_same fun p => h.mem_iff]
/-- The trees by activities. -/
def keyT (E : List (Nat × Nat)) (t : List Nat) : Nat × Nat := ((insA E t).length, (outA E t).length)
theorem key_same {F : List (Nat × Nat)} (hb : BdP n E) (hb' : BdP n F) (hn : 0 < n) (hx : ∃ t, IsTr n E t) (hx' : ∃ t, IsTr n F t) (h : ∀ u v, sumW E (rkW n u v) = sumW F (rkW n u v)) (k : Nat × Nat) :
    ((treesT n E).map (keyT E)).count k = ((treesT n F).map (keyT F)).count k := by
  obtain ⟨B, hB⟩ : ∃ B, B = (treesT n E).length + (treesT n F).length + 2 := ⟨_, rfl⟩
  have hw := h (B - 1) (B ^ n - 1)
  rw [← rank_sumW hb hn hx, ← rank_sumW hb' hn hx'] at hw
  have hBn : 1 ≤ B ^ n := Nat.le_trans (Nat.one_le_two_pow (n := n)) (Nat.pow_le_pow_left (by omega) n)
  have hp : ∀ i j, (1 + (B - 1)) ^ i * (1 + (B ^ n - 1)) ^ j = B ^ (i + n * j) := fun i j => by
    rw [show 1 + (B - 1) = B from by omega, show 1 + (B ^ n - 1) = B ^ n from by omega, Nat.pow_add, Nat.pow_mul]
  simp only [hp] at hw
  have hlt : ∀ {G : List (Nat × Nat)} {t : List Nat}, IsTr n G t → (insA G t).length < n := fun {G t} ht => by
    have h1 : (insA G t).length ≤ t.length := List.length_filter_le _ _
    have := ht.len
    omega
  have hout : ∀ {G : List (Nat × Nat)} {t : List Nat}, (outA G t).length ≤ G.length := fun {G t} => by
    have h1 : (outA G t).length ≤ (List.range G.length).length := List.length_filter_le _ _
    rwa [List.length_range] at h1
  have hd := digits_tell (B := B) (by omega) (n + n * (E.length + F.length)) ((treesT n E).map fun t => (insA E t).length + n * (outA E t).length) ((treesT n F).map fun t => (insA F t).length + n * (outA F t).length)
    (by rw [List.length_map]; omega) (by rw [List.length_map]; omega)
    (fun x hxm => by
      obtain ⟨t, ht, rfl⟩ := List.mem_map.1 hxm
      have h1 := hlt (((treesT_spec hb hn).1 t).1 ht)
      have h2 := Nat.mul_le_mul_left n (Nat.le_trans (hout (G := E) (t := t)) (Nat.le_add_right _ F.length))
      omega)
    (fun x hxm => by
      obtain ⟨t, ht, rfl⟩ := List.mem_map.1 hxm
      have h1 := hlt (((treesT_spec hb' hn).1 t).1 ht)
      have h2 := Nat.mul_le_mul_left n (Nat.le_trans (hout (G := F) (t := t)) (Nat.le_add_left _ E.length))
      omega)
    (by rw [List.map_map, List.map_map]; exact hw)
  have fin : ∀ {G : List (Nat × Nat)} (l : List (List Nat)), (∀ t ∈ l, (insA G t).length < n) → k.1 < n → (l.map (keyT G)).count k = (l.map fun t => (insA G t).length + n * (outA G t).length).count (k.1 + n * k.2) := by
    intro G l hl hk
    induction l with
    | nil => rfl
    | cons t l ih =>
      rw [List.map_cons, List.map_cons, List.count_cons, List.count_cons, ih fun x hx => hl x (by simp [hx])]
      congr 1
      have h1 := hl t (by simp)
      have e : (keyT G t == k) = ((insA G t).length + n * (outA G t).length == k.1 + n * k.2) := by
        rw [Bool.eq_iff_iff, beq_iff_eq, beq_iff_eq]
        constructor
        · intro h; rw [← h]; rfl
        · intro h
          have h2 := congrArg (· % n) h
          simp only [Nat.add_mul_mod_self_left, Nat.mod_eq_of_lt h1, Nat.mod_eq_of_lt hk] at h2
          have h3 : n * (outA G t).length = n * k.2 := by omega
          exact Prod.ext h2 (Nat.eq_of_mul_eq_mul_left hn h3)
      rw [e]
  by_cases hk : k.1 < n
  · rw [fin _ (fun t ht => hlt (((treesT_spec hb hn).1 t).1 ht)) hk, fin _ (fun t ht => hlt (((treesT_spec hb' hn).1 t).1 ht)) hk]
    exact hd _
  · have none : ∀ {G : List (Nat × Nat)} (l : List (List Nat)), (∀ t ∈ l, (insA G t).length < n) → (l.map (keyT G)).count k = 0 := by
      intro G l hl
      rw [List.count_eq_zero]
      intro hm
      obtain ⟨t, ht, he⟩ := List.mem_map.1 hm
      have := hl t ht
      rw [← he] at hk
      exact hk this
    rw [none _ (fun t ht => hlt (((treesT_spec hb hn).1 t).1 ht)), none _ (fun t ht => hlt (((treesT_spec hb' hn).1 t).1 ht))]
/-- What Renames asks: other numbers and another order. -/
theorem key_ren {F : List (Nat × Nat)} {tw : Nat → Nat} {g : Nat × Nat → Nat × Nat} (hg : ∀ p, g p = (tw p.1, tw p.2) ∨ g p = (tw p.2, tw p.1)) (ht : ∀ a, a < n → tw a < n) (hi : ∀ a b, a < n → b < n → tw a = tw b → a = b) (hF : F.Perm (E.map g))
    (hb : BdP n E) (hb' : BdP n F) (hn : 0 < n) (hx : ∃ t, IsTr n E t) (hx' : ∃ t, IsTr n F t) (k : Nat × Nat) : ((treesT n E).map (keyT E)).count k = ((treesT n F).map (keyT F)).count k := by
  refine key_same hb hb' hn hx hx' (fun u v => ?_) k
  rw [sumW_perm hF fun x y h => rkW_perm u v h, sumW_map]
  have : ∀ x ∈ subW E, rkW n u v x = rkW n u v (x.map g) := by
    intro x hx
    have h1 := subsN_subW (E := E) E.length (Nat.le_refl _)
    rw [List.take_length] at h1
    rw [← h1] at hx
    obtain ⟨s, hs, rfl⟩ := List.mem_map.1 hx
    have hbs : BdP n (pk E s) := bd_pk hb (subsN_lt _ s hs)
    unfold rkW
    rw [parts_ren hg hbs ht hi, List.length_map]
  unfold sumW
  rw [List.map_congr_left this]
end
end Go.Proofs.YtnbikkcalcpedaaGreatDoor

/-! Package recurrent: joins, valence, catches, stable. -/
namespace Go.Proofs.YtnbikkcalcpedaaGreatDoor
open Go.RowKit

end Go.Proofs.YtnbikkcalcpedaaGreatDoor

/-! Package stabilize: what a pile holds; unstable and wait. -/
namespace Go.Proofs.YtnbikkcalcpedaaGreatDoor
open Go.RowKit

/-- Where the parts of a pile lie. -/
structure PA where
  bd : Nat
  cd : Nat
  bv : Nat
  bf : Nat
  A : Option Addr
  cr : Nat
  gs : List Nat
def pileCells (a : PA) (n : Nat) (q total : Int) (ws : List Bool) : Array Value :=
  (([.slice (some ⟨a.bd, 0, none⟩) n a.cd, .int .i64 q, .slice a.A a.gs.length a.cr, .slice (some ⟨a.bv, 0, none⟩) n n, .slice (some ⟨a.bf, 0, none⟩) n n, .int .i64 total] : List Value) ++ ws.map Value.bool).toArray
/-- The blocks of a pile. -/
def PB (a : PA) (bp k : Nat) : Prop := k = bp ∨ k = a.bd ∨ k = a.bv ∨ k = a.bf ∨ blockOf a.A k ∨ k ∈ a.gs
structure PileW (w : World) (base bp n : Nat) (a : PA) (d : List Int) (q : Int) (rows : List (List Int)) (val fired : List Int) (total : Int) (ws : List Bool) : Prop where
  blk : Blk w bp 255 (pileCells a n q total ws)
  dd : ∃ sl : List Value, Blk w a.bd 3 (ints d ++ sl).toArray
  dl : d.length = n
  vv : Blk w a.bv 3 (intCells val)
  vl : val.length = n
  ff : Blk w a.bf 3 (intCells fired)
  fl : fired.length = n
  grid : Grid w base a.A a.cr n a.gs rows
  wl : ws.length = 12
  lo : base ≤ bp ∧ base ≤ a.bd ∧ base ≤ a.bv ∧ base ≤ a.bf
  ne : a.bd ≠ a.bv ∧ a.bd ≠ a.bf ∧ a.bv ≠ a.bf
  far : ∀ g ∈ a.gs, g ≠ a.bd ∧ g ≠ a.bv ∧ g ≠ a.bf

section
variable {w w' : World} {base bp n : Nat} {a : PA} {d : List Int} {q : Int} {rows : List (List Int)} {val fired : List Int} {total : Int} {ws : List Bool}
theorem PileW.lt (h : PileW w base bp n a d q rows val fired total ws) {k : Nat} (hk : PB a bp k) : base ≤ k ∧ k < w.heap.size := by
  have hl := h.lo
  rcases hk with rfl | rfl | rfl | rfl | hk | hk
  · exact ⟨hl.1, h.blk.lt⟩
  · obtain ⟨sl, hs⟩ := h.dd; exact ⟨hl.2.1, hs.lt⟩
  · exact ⟨hl.2.2.1, h.vv.lt⟩
  · exact ⟨hl.2.2.2, h.ff.lt⟩
  · exact own_lt h.grid.outer hk
  · obtain ⟨cs, hc, hb⟩ := h.grid.blk hk; exact ⟨hb, hc.lt⟩
theorem PileW.kept (h : PileW w base bp n a d q rows val fired total ws) (hk : ∀ k, PB a bp k → w'.heap[k]? = w.heap[k]?) : PileW w' base bp n a d q rows val fired total ws :=
  ⟨(hk _ (.inl rfl)).trans h.blk, by obtain ⟨sl, hs⟩ := h.dd; exact ⟨sl, (hk _ (.inr (.inl rfl))).trans hs⟩, h.dl, (hk _ (.inr (.inr (.inl rfl)))).trans h.vv, h.vl, (hk _ (.inr (.inr (.inr (.inl rfl))))).trans h.ff, h.fl,
    h.grid.kept (fun k hb => hk k (.inr (.inr (.inr (.inr (.inl hb)))))) (fun g hg => hk g (.inr (.inr (.inr (.inr (.inr hg)))))), h.wl, h.lo, h.ne, h.far⟩
theorem PileW.next (h : PileW w base bp n a d q rows val fired total ws) (hb : Below w.heap.size w w') : PileW w' base bp n a d q rows val fired total ws := h.kept fun k hk => hb.block k (h.lt hk).2
theorem PileW.alloc (h : PileW w base bp n a d q rows val fired total ws) (o : Obj) : PileW (w.alloc o) base bp n a d q rows val fired total ws := h.kept fun k hk => Below.heap_alloc w o k (h.lt hk).2
theorem PileW.only {C : Nat → Prop} (h : PileW w base bp n a d q rows val fired total ws) (ho : Only C w w') (hC : ∀ k, PB a bp k → ¬ C k) : PileW w' base bp n a d q rows val fired total ws := h.kept fun k hk => ho.block k (h.lt hk).2 (hC k hk)
theorem PileW.mono {base' : Nat} (h : PileW w base bp n a d q rows val fired total ws) (hb : base' ≤ base) : PileW w base' bp n a d q rows val fired total ws :=
  ⟨h.blk, h.dd, h.dl, h.vv, h.vl, h.ff, h.fl, h.grid.mono hb, h.wl, by have := h.lo; omega, h.ne, h.far⟩
theorem PileW.c1 (h : PileW w base bp n a d q rows val fired total ws) : w.cell? ⟨bp, 1, none⟩ = some (.int .i64 q) := (h.blk.cell 1).trans (by simp [pileCells])
theorem PileW.c2 (h : PileW w base bp n a d q rows val fired total ws) : w.cell? ⟨bp, 2, none⟩ = some (.slice a.A a.gs.length a.cr) := (h.blk.cell 2).trans (by simp [pileCells])
theorem PileW.c3 (h : PileW w base bp n a d q rows val fired total ws) : w.cell? ⟨bp, 3, none⟩ = some (.slice (some ⟨a.bv, 0, none⟩) n n) := (h.blk.cell 3).trans (by simp [pileCells])
theorem PileW.cd (h : PileW w base bp n a d q rows val fired total ws) {v : Nat} {x : Int} (hx : d[v]? = some x) : w.cell? ⟨a.bd, v, none⟩ = some (.int .i64 x) := by
  obtain ⟨sl, hs⟩ := h.dd
  have hv := (List.getElem?_eq_some_iff.1 hx).1
  refine (hs.cell v).trans ?_
  rw [List.getElem?_toArray, List.getElem?_append_left (by rw [ints_length]; exact hv), ints_at hx]
/-- One row more. -/
theorem PileW.push {w0 w2 : World} {base bp n bd cd bv bf : Nat} {A A2 : Option Addr} {cr c2 : Nat} {gs : List Nat} {d : List Int} {q : Int} {rows : List (List Int)} {val fired : List Int} {total : Int} {ws : List Bool} {gN : Nat} {r : List Int}
    (h : PileW w0 base bp n ⟨bd, cd, bv, bf, A, cr, gs⟩ d q rows val fired total ws) (hg : Blk w0 gN 3 (intCells r)) (hr : r.length = n) (hb : base ≤ gN) (hnew : ∀ k, PB ⟨bd, cd, bv, bf, A, cr, gs⟩ bp k → k ≠ gN)
    (hown : w2.ownsRow base 25 1 (.slice A2 (gs.length + 1) c2) (gs.length + 1) ((gs.map fun g => .slice (some ⟨g, 0, none⟩) n n) ++ [.slice (some ⟨gN, 0, none⟩) n n]))
    (hgr : w0.grownBy w2 (Value.slice A gs.length cr).ownBlock) : PileW (w2.setCell ⟨bp, 2, none⟩ (.slice A2 (gs.length + 1) c2)) base bp n ⟨bd, cd, bv, bf, A2, c2, gs ++ [gN]⟩ d q (rows ++ [r]) val fired total ws := by
  have G := h.grid.push hg hr hb (fun g' hg' => hnew g' (.inr (.inr (.inr (.inr (.inr hg')))))) hown hgr
  have ho := h.grid.outer
  obtain ⟨sl, hs⟩ := h.dd
  dsimp only at hs ho
  have B1 := h.blk.grown hgr (own_blk_ne ho h.blk (by decide))
  have B2 := hs.grown hgr (own_blk_ne ho hs (by decide))
  have B3 := h.vv.grown hgr (own_blk_ne ho h.vv (by decide))
  have B4 := h.ff.grown hgr (own_blk_ne ho h.ff (by decide))
  have t : 3 ≠ 255 := by decide
  refine ⟨?_, ⟨sl, B2.far (B2.ne_ B1 t) _⟩, h.dl, B3.far (B3.ne_ B1 t) _, h.vl, B4.far (B4.ne_ B1 t) _, h.fl, G.far B1 (by decide) t 2 _, h.wl, h.lo, h.ne, ?_⟩
  · have := B1.set_ 2 (.slice A2 (gs.length + 1) c2)
    have e : (pileCells ⟨bd, cd, bv, bf, A, cr, gs⟩ n q total ws).setIfInBounds 2 (.slice A2 (gs.length + 1) c2) = pileCells ⟨bd, cd, bv, bf, A2, c2, gs ++ [gN]⟩ n q total ws := by simp [pileCells]
    rwa [e] at this
  · intro g hg'
    rcases List.mem_append.1 hg' with hg' | hg'
    · exact h.far g hg'
    · rw [List.mem_singleton.1 hg']
      exact ⟨(hnew _ (.inr (.inl rfl))).symm, (hnew _ (.inr (.inr (.inl rfl)))).symm, (hnew _ (.inr (.inr (.inr (.inl rfl))))).symm⟩
end

end Go.Proofs.YtnbikkcalcpedaaGreatDoor

/-! Package firing: may a set fire legally? -/
/-! Sets of vertices: graph.Subset; slices.Index and Contains on ints; firing.given and subset. -/
namespace Go.Proofs.YtnbikkcalcpedaaGreatDoor
open Go.RowKit

end Go.Proofs.YtnbikkcalcpedaaGreatDoor

namespace Go.Proofs.YtnbikkcalcpedaaGreatDoor
open Go.RowKit

end Go.Proofs.YtnbikkcalcpedaaGreatDoor

/-! ref08.FewTrees, ref13.FewTrees. -/
namespace Go.Proofs.YtnbikkcalcpedaaGreatDoor
open Go.RowKit

set_option maxHeartbeats 1000000 in
theorem rfewtrees_any (n : Int) (A : Option Addr) (c : Nat) (es : List E3) (w : World) (h : Reads w w.heap.size 3 A es.length (edgeCells es)) :
    Calls Tryz.prog 27 #[.agg #[.int .i64 n, .slice A es.length c]] w fun e w' => e = .returned (.bool (smallB n es 5 8)) ∧ Below w.heap.size w w' := by
  have SC := Lib.hid (rsmall_any n A c es 5 8)
  go_enter Tryz.func27, Tryz.ntmps27
  go_wp2_with fail
  refine (SC.out _ ((h.alloc (Nat.le_refl _) _).more (by simp))).mono ?_
  rintro e w1 ⟨rfl, hb1⟩
  have hbel1 : Below w.heap.size w w1 := ((Below.refl _ _).alloc (Nat.le_refl _) _).trans (hb1.mono (by simp))
  go_wp2
  go_ret
  exact ⟨rfl, hbel1⟩
def few13 (n : Int) (es : List E3) (m : Nat) : Bool := smallB n es 5 8 && decide (m ≤ 30)
theorem few13_parts {n : Int} {es : List E3} {m : Nat} (h : few13 n es m = true) : es.length ≤ 40 ∧ m ≤ 30 ∧ (checkG n es = 0 → n ≤ 5 ∧ sizeE es ≤ 8) := by
  unfold few13 at h
  rw [Bool.and_eq_true] at h
  obtain ⟨h1, h2⟩ := h
  unfold smallB at h1
  by_cases h3 : 40 < es.length
  · rw [if_pos h3] at h1; cases h1
  · refine ⟨by omega, of_decide_eq_true h2, fun h4 => ?_⟩
    rw [if_neg h3, if_neg (fun hc => hc h4), Bool.and_eq_true] at h1
    have := of_decide_eq_true h1.1
    have := of_decide_eq_true h1.2
    omega
end Go.Proofs.YtnbikkcalcpedaaGreatDoor

