/-
  Texts of this claim, put together: RegTake, PolyP, RegHeld, Rows2.
-/
import Derived.Test.YtnbikkcalcpedaaGreatDoorK01
import Derived.Deep.RegionLaw
import Derived.Test.YtnbikkcalcpedaaGreatDoorK03
import Derived.Deep.RegionHeld
import Derived.Test.YtnbikkcalcpedaaGreatDoorK04
import Derived.Test.YtnbikkcalcpedaaGreatDoorK05
/-! A drawn region walked step by step: an operation that is taken first, one that is left out since its guard says so, one that alone may come. -/
namespace Go.Proofs.YtnbikkcalcpedaaGreatDoor
open Go

section
variable {P : Program} {md : Region.Mode} {Q : Exit → Act → World → Prop} {l : List Oper} {i : Nat} {o : Oper} {v : Value} {fuel : Nat} {listed : Array Bool} {a : Act} {w : World}
theorem any_take (v : Value) (hi : l[i]? = some o) (hs : Region.noSelect l.toArray = true) (hf : Region.free md l.toArray listed i = true) (hr : (Region.ready md l.toArray listed).contains i = true)
    (hQ : ∀ c a w, Q (.panic c) (a.put o.dst v) w → Q (.panic c) a w) (hw : Region.wanted o (yielded l.toArray a.tmps) = true) (hv : ∀ w, (execOp a.eval o).run P w = .ok (.value v) w)
    (h : wpAny P md l.toArray Q fuel (listed.setIfInBounds i true) (a.put o.dst v) w) : wpAny P md l.toArray Q (fuel + 1) listed a w :=
  wpAny_take (by rw [List.getElem?_toArray]; exact hi) hs hf hr hQ (.inl ⟨hw, hv⟩) h
theorem any_skip (hi : l[i]? = some o) (hs : Region.noSelect l.toArray = true) (hf : Region.free md l.toArray listed i = true) (hr : (Region.ready md l.toArray listed).contains i = true)
    (hQ : ∀ c a w, Q (.panic c) (a.put o.dst undef) w → Q (.panic c) a w) (hw : Region.wanted o (yielded l.toArray a.tmps) = false)
    (h : wpAny P md l.toArray Q fuel (listed.setIfInBounds i true) (a.put o.dst undef) w) : wpAny P md l.toArray Q (fuel + 1) listed a w :=
  wpAny_take (by rw [List.getElem?_toArray]; exact hi) hs hf hr hQ (.inr ⟨hw, rfl⟩) h
theorem any_step (hi : l[i]? = some o) (hr : Region.ready md l.toArray listed = [i]) (hw : Region.wanted o (yielded l.toArray a.tmps) = true)
    (h : ∀ K : Act → World → Prop, (∀ a w, wpAny P md l.toArray Q fuel (listed.setIfInBounds i true) a w → K a w) → Oper.wp P o a w K Q) : wpAny P md l.toArray Q (fuel + 1) listed a w :=
  wpAny_ready hr (by simp) (AllReady.cons (by rw [List.getElem?_toArray]; exact hi) (fun K hK => by rw [if_pos hw]; exact h K hK) AllReady.nil)
end
end Go.Proofs.YtnbikkcalcpedaaGreatDoor

/-! Polynomials in X and Y: lists of terms, the greater exponents first. No program is in sight. -/
namespace Go.Proofs.YtnbikkcalcpedaaGreatDoor
/-- A term: both exponents, and the coefficient. -/
abbrev Tm := (Nat × Nat) × Int
/-- The exponents that come first. -/
def abv (a b : Nat × Nat) : Bool := decide (b.1 < a.1) || (decide (a.1 = b.1) && decide (b.2 < a.2))
section
variable {a b c : Nat × Nat} {p q : List Tm}
theorem abv_tr (h : abv a b = true) (h' : abv b c = true) : abv a c = true := by
  simp [abv] at *; omega
theorem abv_as (h : abv a b = true) : abv b a = false := by
  rw [Bool.eq_false_iff]; intro h'
  simp [abv] at *; omega
theorem abv_ir : abv a a = false := by simp [abv]
theorem abv_an (h : abv a b = false) (h' : abv b a = false) : a = b := by
  obtain ⟨a1, a2⟩ := a
  obtain ⟨b1, b2⟩ := b
  simp [abv] at h h'
  have h1 : a1 = b1 := by omega
  subst h1
  have h2 : a2 = b2 := by have := h.2 rfl; have := h'.2 rfl; omega
  rw [h2]
/-- Right polynomials. -/
def Canon (p : List Tm) : Prop := (p.Pairwise fun a b => abv a.1 b.1 = true) ∧ ∀ a ∈ p, a.2 ≠ 0
/-- The coefficient of a power. -/
def cfP (p : List Tm) (k : Nat × Nat) : Int := (p.map fun a => if a.1 = k then a.2 else 0).sum
theorem cfP_nil (k : Nat × Nat) : cfP [] k = 0 := rfl
theorem cfP_cons (a : Tm) (p : List Tm) (k : Nat × Nat) : cfP (a :: p) k = (if a.1 = k then a.2 else 0) + cfP p k := by simp [cfP]
theorem cfP_zero (h : ∀ a ∈ p, a.1 ≠ c) : cfP p c = 0 := by
  induction p with
  | nil => rfl
  | cons a p ih => rw [cfP_cons, if_neg (h a (by simp)), ih fun b hb => h b (by simp [hb])]; rfl
theorem cfP_perm {p q : List Tm} (h : p.Perm q) (k : Nat × Nat) : cfP p k = cfP q k := by
  induction h with
  | nil => rfl
  | cons x _ ih => rw [cfP_cons, cfP_cons, ih]
  | swap x y l => rw [cfP_cons, cfP_cons, cfP_cons, cfP_cons]; omega
  | trans _ _ h1 h2 => rw [h1, h2]
theorem Canon.tail {x : Tm} (h : Canon (x :: p)) : Canon p := ⟨(List.pairwise_cons.1 h.1).2, fun a ha => h.2 a (by simp [ha])⟩
theorem Canon.below {x : Tm} (h : Canon (x :: p)) {k : Nat × Nat} (hk : k = x.1 ∨ abv k x.1 = true) : cfP p k = 0 := by
  refine cfP_zero fun a ha he => ?_
  have h1 := (List.pairwise_cons.1 h.1).1 a ha
  subst he
  rcases hk with hk | hk
  · rw [hk, abv_ir] at h1; cases h1
  · rw [abv_as hk] at h1; cases h1
/-- The coefficients tell a right polynomial. -/
theorem canon_eq : ∀ {p q : List Tm}, Canon p → Canon q → (∀ k, cfP p k = cfP q k) → p = q
  | [], [], _, _, _ => rfl
  | [], b :: q, _, hq, h => by
    have := h b.1
    rw [cfP_nil, cfP_cons, if_pos rfl, hq.below (.inl rfl)] at this
    exact absurd (by omega) (hq.2 b (by simp))
  | a :: p, [], hp, _, h => by
    have := h a.1
    rw [cfP_nil, cfP_cons, if_pos rfl, hp.below (.inl rfl)] at this
    exact absurd (by omega) (hp.2 a (by simp))
  | a :: p, b :: q, hp, hq, h => by
    have hab : a.1 = b.1 := by
      refine abv_an ?_ ?_
      · rw [Bool.eq_false_iff]; intro hc
        have := h a.1
        rw [cfP_cons, if_pos rfl, hp.below (.inl rfl), cfP_cons, if_neg (fun he => by rw [he, abv_ir] at hc; cases hc), hq.below (.inr hc)] at this
        exact hp.2 a (by simp) (by omega)
      · rw [Bool.eq_false_iff]; intro hc
        have := h b.1
        rw [cfP_cons, if_neg (fun he => by rw [he, abv_ir] at hc; cases hc), hp.below (.inr hc), cfP_cons, if_pos rfl, hq.below (.inl rfl)] at this
        exact hq.2 b (by simp) (by omega)
    have h2 : a.2 = b.2 := by
      have := h a.1
      rw [cfP_cons, if_pos rfl, hp.below (.inl rfl), cfP_cons, if_pos hab.symm, hq.below (.inl hab)] at this
      omega
    have h3 : a = b := Prod.ext hab h2
    subst h3
    rw [canon_eq hp.tail hq.tail fun k => by have := h k; rw [cfP_cons, cfP_cons] at this; omega]
/-- The sum. -/
def plusP : List Tm → List Tm → List Tm
  | [], q => q
  | a :: p, [] => a :: p
  | a :: p, b :: q => if abv a.1 b.1 = true then a :: plusP p (b :: q) else if abv b.1 a.1 = true then b :: plusP (a :: p) q else if a.2 + b.2 = 0 then plusP p q else (a.1, a.2 + b.2) :: plusP p q
termination_by p q => p.length + q.length
theorem cfP_plus : ∀ (p q : List Tm) (k : Nat × Nat), cfP (plusP p q) k = cfP p k + cfP q k
  | [], q, k => by rw [plusP, cfP_nil]; omega
  | a :: p, [], k => by rw [plusP, cfP_nil]; omega
  | a :: p, b :: q, k => by
    rw [plusP]
    split
    · rw [cfP_cons, cfP_plus p (b :: q) k, cfP_cons a p]; omega
    · split
      · rw [cfP_cons, cfP_plus (a :: p) q k, cfP_cons b q]; omega
      · rename_i h1 h2
        have hab : a.1 = b.1 := abv_an (by simpa using h1) (by simpa using h2)
        split
        · rename_i h3
          rw [cfP_plus p q k, cfP_cons, cfP_cons, hab]
          split <;> omega
        · rw [cfP_cons, cfP_plus p q k, cfP_cons, cfP_cons, hab]
          split <;> omega
termination_by p q => p.length + q.length
theorem plusP_keys : ∀ (p q : List Tm), ∀ x ∈ plusP p q, (∃ a ∈ p, a.1 = x.1) ∨ ∃ b ∈ q, b.1 = x.1
  | [], q, x, hx => by rw [plusP] at hx; exact .inr ⟨x, hx, rfl⟩
  | a :: p, [], x, hx => by rw [plusP] at hx; exact .inl ⟨x, hx, rfl⟩
  | a :: p, b :: q, x, hx => by
    rw [plusP] at hx
    split at hx
    · rcases List.mem_cons.1 hx with rfl | hx
      · exact .inl ⟨x, by simp, rfl⟩
      · rcases plusP_keys p (b :: q) x hx with ⟨y, hy, he⟩ | h
        · exact .inl ⟨y, by simp [hy], he⟩
        · exact .inr h
    · split at hx
      · rcases List.mem_cons.1 hx with rfl | hx
        · exact .inr ⟨x, by simp, rfl⟩
        · rcases plusP_keys (a :: p) q x hx with h | ⟨y, hy, he⟩
          · exact .inl h
          · exact .inr ⟨y, by simp [hy], he⟩
      · split at hx
        · rcases plusP_keys p q x hx with ⟨y, hy, he⟩ | ⟨y, hy, he⟩
          · exact .inl ⟨y, by simp [hy], he⟩
          · exact .inr ⟨y, by simp [hy], he⟩
        · rcases List.mem_cons.1 hx with rfl | hx
          · exact .inl ⟨a, by simp, rfl⟩
          · rcases plusP_keys p q x hx with ⟨y, hy, he⟩ | ⟨y, hy, he⟩
            · exact .inl ⟨y, by simp [hy], he⟩
            · exact .inr ⟨y, by simp [hy], he⟩
termination_by p q => p.length + q.length
theorem plusP_canon : ∀ {p q : List Tm}, Canon p → Canon q → Canon (plusP p q)
  | [], q, _, hq => by rw [plusP]; exact hq
  | a :: p, [], hp, _ => by rw [plusP]; exact hp
  | a :: p, b :: q, hp, hq => by
    have hpa := (List.pairwise_cons.1 hp.1).1
    have hqb := (List.pairwise_cons.1 hq.1).1
    have mk : ∀ {x : Tm} {l : List Tm}, Canon l → x.2 ≠ 0 → (∀ y ∈ l, abv x.1 y.1 = true) → Canon (x :: l) := fun {x l} hl h0 h => ⟨List.pairwise_cons.2 ⟨h, hl.1⟩, fun y hy => by
      rcases List.mem_cons.1 hy with rfl | hy
      · exact h0
      · exact hl.2 y hy⟩
    rw [plusP]
    split
    · rename_i h1
      refine mk (plusP_canon hp.tail hq) (hp.2 a (by simp)) fun y hy => ?_
      rcases plusP_keys p (b :: q) y hy with ⟨z, hz, he⟩ | ⟨z, hz, he⟩
      · rw [← he]; exact hpa z hz
      · rw [← he]
        rcases List.mem_cons.1 hz with rfl | hz
        · exact h1
        · exact abv_tr h1 (hqb z hz)
    · split
      · rename_i h1
        refine mk (plusP_canon hp hq.tail) (hq.2 b (by simp)) fun y hy => ?_
        rcases plusP_keys (a :: p) q y hy with ⟨z, hz, he⟩ | ⟨z, hz, he⟩
        · rw [← he]
          rcases List.mem_cons.1 hz with rfl | hz
          · exact h1
          · exact abv_tr h1 (hpa z hz)
        · rw [← he]; exact hqb z hz
      · rename_i h1 h2
        have hab : a.1 = b.1 := abv_an (by simpa using h1) (by simpa using h2)
        split
        · exact plusP_canon hp.tail hq.tail
        · rename_i h3
          refine mk (plusP_canon hp.tail hq.tail) h3 fun y hy => ?_
          rcases plusP_keys p q y hy with ⟨z, hz, he⟩ | ⟨z, hz, he⟩
          · rw [← he]; exact hpa z hz
          · rw [← he]; show abv a.1 z.1 = true; rw [hab]; exact hqb z hz
termination_by p q => p.length + q.length
/-- A monomial. -/
theorem mono_canon (k : Nat × Nat) : Canon [(k, 1)] := ⟨List.pairwise_singleton _ _, fun a ha => by rw [List.mem_singleton] at ha; subst ha; show (1 : Int) ≠ 0; decide⟩
/-- The sum of monomials. -/
def sumP (ks : List (Nat × Nat)) : List Tm := ks.foldl (fun p k => plusP p [(k, 1)]) []
theorem sumP_snoc (ks : List (Nat × Nat)) (k : Nat × Nat) : sumP (ks ++ [k]) = plusP (sumP ks) [(k, 1)] := by simp [sumP]
theorem sumP_canon (ks : List (Nat × Nat)) : Canon (sumP ks) := by
  have key : ∀ (ks : List (Nat × Nat)) (p : List Tm), Canon p → Canon (ks.foldl (fun p k => plusP p [(k, 1)]) p) := by
    intro ks
    induction ks with
    | nil => exact fun p hp => hp
    | cons k ks ih => exact fun p hp => ih _ (plusP_canon hp (mono_canon k))
  exact key ks [] ⟨List.Pairwise.nil, by simp⟩
theorem sumP_cf (ks : List (Nat × Nat)) (k : Nat × Nat) : cfP (sumP ks) k = (ks.count k : Int) := by
  have key : ∀ (ks : List (Nat × Nat)) (p : List Tm), cfP (ks.foldl (fun p k => plusP p [(k, 1)]) p) k = cfP p k + (ks.count k : Int) := by
    intro ks
    induction ks with
    | nil => intro p; simp
    | cons x ks ih =>
      intro p
      rw [List.foldl_cons, ih, cfP_plus, cfP_cons, cfP_nil, List.count_cons]
      by_cases h : x = k
      · simp [h]; omega
      · simp [h]
  rw [sumP, key, cfP_nil]; omega
end
end Go.Proofs.YtnbikkcalcpedaaGreatDoor

/-! A drawn region walked step by step, where the worlds meet a condition: an operation that is taken first (a load too), one that is left out since its guard says so, one that alone may come. -/
namespace Go.Proofs.YtnbikkcalcpedaaGreatDoor
open Go

section
variable {P : Program} {md : Region.Mode} {Q : Exit → Act → World → Prop} {S : World → Prop} {l : List Oper} {i : Nat} {o : Oper} {v : Value} {fuel : Nat} {listed : Array Bool} {a : Act} {w : World}
theorem h_take (v : Value) (hi : l[i]? = some o) (hs : Region.noSelect l.toArray = true) (hf : Region.free md l.toArray listed i = true) (hr : (Region.ready md l.toArray listed).contains i = true)
    (hQ : ∀ c a w, Q (.panic c) (a.put o.dst v) w → Q (.panic c) a w) (hw : Region.wanted o (yielded l.toArray a.tmps) = true) (hS : S w) (hv : ∀ w, S w → (execOp a.eval o).run P w = .ok (.value v) w)
    (h : wpAnyH P md l.toArray Q S fuel (listed.setIfInBounds i true) (a.put o.dst v) w) : wpAnyH P md l.toArray Q S (fuel + 1) listed a w :=
  wpAnyH_take (by rw [List.getElem?_toArray]; exact hi) hs hf hr hQ (.inl ⟨hw, hv⟩) hS h
theorem h_step (hi : l[i]? = some o) (hr : Region.ready md l.toArray listed = [i]) (hw : Region.wanted o (yielded l.toArray a.tmps) = true)
    (h : ∀ K : Act → World → Prop, (∀ a w, S w → wpAnyH P md l.toArray Q S fuel (listed.setIfInBounds i true) a w → K a w) → Oper.wp P o a w K Q) : wpAnyH P md l.toArray Q S (fuel + 1) listed a w :=
  wpAnyH_all hr (by simp) fun j hj => by
    have hji : j = i := by simpa using hj
    subst hji
    unfold Go.wpOp
    simp only [List.getElem?_toArray, hi]
    rw [if_pos hw]
    exact .inl (h _ fun a w h1 h2 => ⟨h1, h2⟩)
end
end Go.Proofs.YtnbikkcalcpedaaGreatDoor

/-! Slices of slices of ints: of the call's own, and read. -/
namespace Go.Proofs.YtnbikkcalcpedaaGreatDoor
open Go.RowKit

theorem info_row : (Tryz.prog.info? 25).map (fun i => (i.zero, i.size, i.bytes)) = some (some (.slice none 0 0), 1, 24) := by kernel_rfl

/-- The block of a slice value. -/
def blockOf (A : Option Addr) (k : Nat) : Prop := ∃ a, A = some a ∧ a.block = k
theorem blockOf_own {A : Option Addr} {n c k : Nat} : (Value.slice A n c).ownBlock = some k ↔ blockOf A k := by
  rcases A with _ | a <;> simp [Value.ownBlock, blockOf]

section
variable {w w' : World} {base : Nat} {e : TypeId} {A : Option Addr} {n c : Nat} {xs : List Value}
/-- What a step leaves of a row of the call's own: all that it asks is that its block stays. -/
theorem own_kept (h : w.ownsRow base e 1 (.slice A n c) n xs) (hk : ∀ k, blockOf A k → w'.heap[k]? = w.heap[k]?) : w'.ownsRow base e 1 (.slice A n c) n xs := by
  obtain ⟨h1, h2⟩ := h
  refine ⟨h1, ?_⟩
  rcases h2 with h2 | ⟨g, cap, cur, hv, hg, hh, r⟩
  · exact .inl h2
  · have hgb : (Value.slice A n c).ownBlock = some g := by rw [hv]; rfl
    exact .inr ⟨g, cap, cur, hv, hg, (hk g (blockOf_own.1 hgb)).trans hh, r⟩
theorem own_lt (h : w.ownsRow base e 1 (.slice A n c) n xs) {k : Nat} (hk : blockOf A k) : base ≤ k ∧ k < w.heap.size := World.ownsRow.lt h k (blockOf_own.2 hk)
theorem own_rebase {base' : Nat} (h : w.ownsRow base e 1 (.slice A n c) n xs) (hb : ∀ k, blockOf A k → base' ≤ k) : w.ownsRow base' e 1 (.slice A n c) n xs := by
  obtain ⟨h1, h2⟩ := h
  refine ⟨h1, ?_⟩
  rcases h2 with h2 | ⟨g, cap, cur, hv, hg, r⟩
  · exact .inl h2
  · have hgb : (Value.slice A n c).ownBlock = some g := by rw [hv]; rfl
    exact .inr ⟨g, cap, cur, hv, hb g (blockOf_own.1 hgb), r⟩
theorem own_type (h : w.ownsRow base e 1 (.slice A n c) n xs) {k : Nat} (hk : blockOf A k) : ∃ cs, Blk w k e cs := by
  rcases h.2 with ⟨hv, _⟩ | ⟨g, cap, cur, hv, _, hh, _⟩
  · obtain ⟨a, ha, _⟩ := hk; injection hv with hv; rw [ha] at hv; cases hv
  · have hgb : (Value.slice A n c).ownBlock = some g := by rw [hv]; rfl
    obtain ⟨a, ha, rfl⟩ := blockOf_own.1 hgb
    obtain ⟨a', ha', rfl⟩ := hk
    rw [ha] at ha'; cases ha'
    exact ⟨cur, hh⟩
theorem own_ne {base' : Nat} {e' : TypeId} {A' : Option Addr} {n' c' : Nat} {xs' : List Value} (h : w.ownsRow base e 1 (.slice A n c) n xs) (h' : w.ownsRow base' e' 1 (.slice A' n' c') n' xs') (hne : e ≠ e') {k k' : Nat} (hk : blockOf A k) (hk' : blockOf A' k') : k ≠ k' := by
  obtain ⟨cs, h1⟩ := own_type h hk
  obtain ⟨cs', h2⟩ := own_type h' hk'
  exact Blk.ne_ h1 h2 hne
theorem own_blk (h : w.ownsRow base e 1 (.slice A n c) n xs) {g : Nat} {t : TypeId} {cs : Array Value} (hg : Blk w g t cs) (hne : e ≠ t) {k : Nat} (hk : blockOf A k) : k ≠ g := by
  obtain ⟨cs', h1⟩ := own_type h hk
  exact Blk.ne_ h1 hg hne
end

/-- The slice value is the call's own, and so is each of its rows; they read as the lists. -/
def OwnRows (w : World) (base : Nat) (A : Option Addr) (c : Nat) (vs : List Value) (xss : List (List Int)) : Prop :=
  w.ownsRow base 25 1 (.slice A xss.length c) xss.length vs ∧ (∀ u ∈ vs, u.oneCell' = true) ∧
  ∀ (i : Nat) (xs : List Int), xss[i]? = some xs → ∃ A' c', vs[i]? = some (.slice A' xs.length c') ∧ OwnI w base A' c' xs
/-- The blocks of a slice of slices. -/
def rowBlock (A : Option Addr) (vs : List Value) (k : Nat) : Prop := blockOf A k ∨ ∃ v ∈ vs, v.ownBlock = some k

section
variable {w w' : World} {base : Nat} {A : Option Addr} {c : Nat} {vs : List Value} {xss : List (List Int)}
theorem OwnRows.nil_ (w : World) (base : Nat) : OwnRows w base none 0 [] [] := ⟨World.ownsRow_nil _ _ _ _, by simp, by simp⟩
theorem OwnRows.len (h : OwnRows w base A c vs xss) : vs.length = xss.length := by have := h.1.1; omega
theorem OwnRows.kept (h : OwnRows w base A c vs xss) (hk : ∀ k, rowBlock A vs k → w'.heap[k]? = w.heap[k]?) : OwnRows w' base A c vs xss := by
  refine ⟨own_kept h.1 fun k hb => hk k (.inl hb), h.2.1, fun i xs hi => ?_⟩
  obtain ⟨A', c', hv, ho⟩ := h.2.2 i xs hi
  exact ⟨A', c', hv, own_kept ho fun k hb => hk k (.inr ⟨_, List.mem_of_getElem? hv, blockOf_own.2 hb⟩)⟩
theorem OwnRows.lt (h : OwnRows w base A c vs xss) {k : Nat} (hk : rowBlock A vs k) : base ≤ k ∧ k < w.heap.size := by
  rcases hk with hk | ⟨v, hv, hk⟩
  · exact own_lt h.1 hk
  · obtain ⟨i, hi⟩ := List.getElem?_of_mem hv
    have hil : i < xss.length := by
      have := (List.getElem?_eq_some_iff.1 hi).1
      rw [h.len] at this; exact this
    obtain ⟨xs, hxs⟩ := get_of_lt hil
    obtain ⟨A', c', hv', ho⟩ := h.2.2 i xs hxs
    rw [hi] at hv'
    injection hv' with hv'
    subst hv'
    exact own_lt ho (blockOf_own.1 hk)
theorem OwnRows.next (h : OwnRows w base A c vs xss) (hb : Below w.heap.size w w') : OwnRows w' base A c vs xss := h.kept fun k hk => hb.block k (h.lt hk).2
theorem OwnRows.mono {base' : Nat} (h : OwnRows w base A c vs xss) (hb : base' ≤ base) : OwnRows w base' A c vs xss := by
  refine ⟨own_rebase h.1 fun k hk => Nat.le_trans hb (own_lt h.1 hk).1, h.2.1, fun i xs hi => ?_⟩
  obtain ⟨A', c', hv, ho⟩ := h.2.2 i xs hi
  exact ⟨A', c', hv, ho.mono hb⟩
end

theorem OwnRows.ne_blk {w : World} {base : Nat} {A : Option Addr} {c : Nat} {vs : List Value} {xss : List (List Int)} (h : OwnRows w base A c vs xss) {g : Nat} {t : TypeId} {cs : Array Value} (hg : Blk w g t cs) (h1 : 25 ≠ t) (h2 : 3 ≠ t) {k : Nat} (hk : rowBlock A vs k) : k ≠ g := by
  rcases hk with hk | ⟨v, hv, hk⟩
  · exact own_blk h.1 hg h1 hk
  · obtain ⟨i, hi⟩ := List.getElem?_of_mem hv
    have hil : i < xss.length := by
      have := (List.getElem?_eq_some_iff.1 hi).1
      rw [h.len] at this; exact this
    obtain ⟨xs, hxs⟩ := get_of_lt hil
    obtain ⟨A', c', hv', ho⟩ := h.2.2 i xs hxs
    rw [hi] at hv'
    injection hv' with hv'
    subst hv'
    exact own_blk ho hg h2 (blockOf_own.1 hk)
theorem OwnRows.set_blk {w : World} {base : Nat} {A : Option Addr} {c : Nat} {vs : List Value} {xss : List (List Int)} (h : OwnRows w base A c vs xss) {g : Nat} {t : TypeId} {cs : Array Value} (hg : Blk w g t cs) (h1 : 25 ≠ t) (h2 : 3 ≠ t) (o : Nat) (u : Value) : OwnRows (w.setCell ⟨g, o, none⟩ u) base A c vs xss :=
  h.kept fun _ hk => Below.heap_setCell w ⟨g, o, none⟩ u _ (h.ne_blk hg h1 h2 hk)
/-- One row more. -/
theorem OwnRows.push {w w' : World} {base : Nat} {A A' A8 : Option Addr} {c c' c8 : Nat} {vs : List Value} {xss : List (List Int)} {x : List Int} (h : OwnRows w base A c vs xss) (h8 : OwnI w base A8 c8 x)
    (hown : w'.ownsRow base 25 1 (.slice A' (xss.length + 1) c') (xss.length + 1) (vs ++ [.slice A8 x.length c8])) (hg : w.grownBy w' (Value.slice A xss.length c).ownBlock) : OwnRows w' base A' c' (vs ++ [.slice A8 x.length c8]) (xss ++ [x]) := by
  have keep : ∀ {A1 : Option Addr} {c1 : Nat} {y : List Int}, OwnI w base A1 c1 y → OwnI w' base A1 c1 y := fun {A1 c1 y} ho => own_kept ho fun k hk => hg.block k (own_lt ho hk).2 fun e => by
    exact own_ne ho h.1 (by decide) hk (blockOf_own.1 e.symm) rfl
  refine ⟨by rw [List.length_append]; exact hown, ?_, fun i xs hi => ?_⟩
  · intro u hu
    rcases List.mem_append.1 hu with hu | hu
    · exact h.2.1 u hu
    · rw [List.mem_singleton.1 hu]; rfl
  · have hl := h.len
    rcases Nat.lt_trichotomy i xss.length with hlt | rfl | hgt
    · rw [List.getElem?_append_left hlt] at hi
      obtain ⟨A1, c1, hv, ho⟩ := h.2.2 i xs hi
      exact ⟨A1, c1, by rw [List.getElem?_append_left (by omega)]; exact hv, keep ho⟩
    · have : xs = x := by simpa using hi.symm
      subst this
      exact ⟨A8, c8, by rw [← hl]; simp, keep h8⟩
    · rw [List.getElem?_eq_none (by simp; omega)] at hi; cases hi

/-- A slice of slices that reads as the lists. -/
def RowsR (w : World) (B : Nat) (A : Option Addr) (xss : List (List Int)) : Prop :=
  ∃ vs, Reads w B 1 A xss.length vs ∧ ∀ (i : Nat) (xs : List Int), xss[i]? = some xs → ∃ A' c', vs[i]? = some (.slice A' xs.length c') ∧ Reads w B 1 A' xs.length (ints xs)
theorem OwnRows.reads {w : World} {base : Nat} {A : Option Addr} {c : Nat} {vs : List Value} {xss : List (List Int)} (h : OwnRows w base A c vs xss) : RowsR w w.heap.size A xss :=
  ⟨vs, Reads.of_own h.1, fun i xs hi => by
    obtain ⟨A', c', hv, ho⟩ := h.2.2 i xs hi
    exact ⟨A', c', hv, ho.reads⟩⟩
theorem RowsR.below {w w' : World} {B : Nat} {A : Option Addr} {xss : List (List Int)} (h : RowsR w B A xss) (hb : Below B w w') : RowsR w' B A xss := by
  obtain ⟨vs, hr, hi⟩ := h
  refine ⟨vs, hr.below hb, fun i xs hx => ?_⟩
  obtain ⟨A', c', hv, ho⟩ := hi i xs hx
  exact ⟨A', c', hv, ho.below hb⟩
theorem RowsR.more {w : World} {B B' : Nat} {A : Option Addr} {xss : List (List Int)} (h : RowsR w B A xss) (hB : B ≤ B') : RowsR w B' A xss := by
  obtain ⟨vs, hr, hi⟩ := h
  refine ⟨vs, hr.more hB, fun i xs hx => ?_⟩
  obtain ⟨A', c', hv, ho⟩ := hi i xs hx
  exact ⟨A', c', hv, ho.more hB⟩
theorem RowsR.next {w w' : World} {A : Option Addr} {xss : List (List Int)} (h : RowsR w w.heap.size A xss) (hb : Below w.heap.size w w') : RowsR w' w'.heap.size A xss := (h.below hb).more hb.size
theorem RowsR.at_ {w : World} {B : Nat} {A : Option Addr} {xss : List (List Int)} (h : RowsR w B A xss) {k : Nat} {xs : List Int} (hx : xss[k]? = some xs) :
    ∃ b off A' c', A = some ⟨b, off, none⟩ ∧ b < B ∧ w.cell? ⟨b, off + k, none⟩ = some (.slice A' xs.length c') ∧ Reads w B 1 A' xs.length (ints xs) := by
  obtain ⟨vs, hr, hi⟩ := h
  obtain ⟨A', c', hv, ho⟩ := hi k xs hx
  obtain ⟨b, off, hA, hb, hc⟩ := hr.at_ hv
  exact ⟨b, off, A', c', hA, hb, hc, ho⟩
end Go.Proofs.YtnbikkcalcpedaaGreatDoor

