/-
  Texts of this claim, put together: CmpL, RegHeld, Law, Funcs, Rows2.
-/
import Derived.Test.YtplgbapbgcipdaaGreatK01
import Derived.Sort.Statements
import Derived.Deep.RegionHeld
import Derived.WalkKit
import Derived.ProofKit
import Derived.OpenShut
import Derived.ShutString
import Derived.ChangeOld
import Derived.Below
import Derived.Test.YtplgbapbgcipdaaGreatRows
import Derived.Test.YtplgbapbgcipdaaGreatK05
import Derived.Test.YtplgbapbgcipdaaGreatK06
/-! Lists of ints compared: slices.Compare in plain words, and what a sort by it leaves. No program is in sight. -/
namespace Go.Proofs.YtplgbapbgcipdaaGreat

/-- What slices.Compare returns. -/
def cmpL (a b : List Int) : Int := if bfI a b then -1 else if bfI b a then 1 else 0
theorem cmpL_neg {a b : List Int} : decide (cmpL a b < 0) = bfI a b := by
  unfold cmpL
  by_cases h : bfI a b = true
  · rw [if_pos h, h]; decide
  · rw [if_neg h, Bool.eq_false_iff.2 h]
    split <;> decide
theorem cmpL_pre (p a b : List Int) : cmpL (p ++ a) (p ++ b) = cmpL a b := by unfold cmpL; rw [bfI_pre, bfI_pre]
theorem split_at {xs : List Int} {k : Nat} {x : Int} (h : xs[k]? = some x) : xs = xs.take k ++ x :: xs.drop (k + 1) := by
  obtain ⟨hk, he⟩ := List.getElem?_eq_some_iff.1 h
  rw [← he, List.getElem_cons_drop, List.take_append_drop]
theorem cmpL_at {xs ys : List Int} {k : Nat} {x y : Int} (ht : xs.take k = ys.take k) (hx : xs[k]? = some x) (hy : ys[k]? = some y) (hne : x ≠ y) : cmpL xs ys = if x < y then -1 else if y < x then 1 else 0 := by
  rw [split_at hx, split_at hy, ht, cmpL_pre]
  unfold cmpL bfI
  rw [if_neg hne, if_neg (Ne.symm hne)]
  by_cases h : x < y
  · simp [h]
  · simp [h]
theorem cmpL_more {xs ys : List Int} {k : Nat} {x : Int} (ht : xs.take k = ys.take k) (hx : xs[k]? = some x) (hy : ys.length ≤ k) : cmpL xs ys = 1 := by
  have h2 : ys = xs.take k ++ [] := by rw [ht, List.take_of_length_le hy, List.append_nil]
  rw [h2, split_at hx, List.take_left' (by rw [List.length_take]; have := (List.getElem?_eq_some_iff.1 hx).1; omega), cmpL_pre]
  rfl
theorem cmpL_less {xs ys : List Int} (ht : xs.take xs.length = ys.take xs.length) (hl : xs.length < ys.length) : cmpL xs ys = -1 := by
  obtain ⟨y, hy⟩ : ∃ y, ys[xs.length]? = some y := ⟨_, List.getElem?_eq_getElem hl⟩
  have h2 : xs = ys.take xs.length ++ [] := by rw [← ht, List.take_length, List.append_nil]
  have h3 := split_at hy
  obtain ⟨n, hn⟩ : ∃ n, xs.length = n := ⟨_, rfl⟩
  rw [hn] at h2 h3
  have h4 : cmpL (ys.take n ++ []) (ys.take n ++ y :: ys.drop (n + 1)) = -1 := by rw [cmpL_pre]; rfl
  rw [← h2, ← h3] at h4
  exact h4
theorem cmpL_same {xs ys : List Int} (ht : xs.take xs.length = ys.take xs.length) (hl : ys.length ≤ xs.length) : cmpL xs ys = 0 := by
  have h2 : xs = ys := by rw [List.take_length, List.take_of_length_le hl] at ht; exact ht
  have h : ∀ l, bfI l l = false := by
    intro l
    induction l with
    | nil => rfl
    | cons x l ih => unfold bfI; rw [if_pos rfl]; exact ih
  rw [h2]
  unfold cmpL
  rw [h]
  rfl
/-- The order of the rows by their places. -/
def cmpAt (L : List (List Int)) (i j : Nat) : Int := cmpL (L.getD i []) (L.getD j [])
theorem bfI_irr (l : List Int) : bfI l l = false := by
  induction l with
  | nil => rfl
  | cons x l ih => unfold bfI; rw [if_pos rfl]; exact ih
theorem swo_at (L : List (List Int)) : Go.Sort.SWO (fun i j : Nat => decide (cmpAt L i j < 0)) where
  irrefl i := by show decide (cmpL _ _ < 0) = false; rw [cmpL_neg]; exact bfI_irr _
  trans i j k h1 h2 := by
    show decide (cmpL _ _ < 0) = true
    replace h1 : decide (cmpL _ _ < 0) = true := h1
    replace h2 : decide (cmpL _ _ < 0) = true := h2
    rw [cmpL_neg] at *
    refine Classical.byContradiction fun hc => ?_
    have h3 := bfI_tr _ _ _ (Bool.eq_false_iff.2 hc) (bfI_as _ _ h1)
    rw [h2] at h3; cases h3
  ntrans i j k h1 h2 := by
    show decide (cmpL _ _ < 0) = false
    replace h1 : decide (cmpL _ _ < 0) = false := h1
    replace h2 : decide (cmpL _ _ < 0) = false := h2
    rw [cmpL_neg] at *
    exact bfI_tr _ _ _ h2 h1
/-- What a sort of the places leaves. -/
theorem sorted_places {L : List (List Int)} {d : Array Nat} (hp : Go.Sort.PermIn 0 L.length (Array.range L.length) d) (hs : Go.Sort.SortedIn (fun i j : Nat => decide (cmpAt L i j < 0)) 0 L.length d) : d.toList.map (fun i => L.getD i []) = sortG bfI L := by
  obtain ⟨h1, _, h3⟩ := hp
  rw [Array.size_range] at h1
  have hd : d.extract 0 L.length = d := by rw [← h1]; simp
  have hr : (Array.range L.length).extract 0 L.length = Array.range L.length := by
    have : (Array.range L.length).size = L.length := Array.size_range
    conv => lhs; arg 3; rw [← this]
    simp
  rw [hd, hr] at h3
  have hL : (Array.range L.length).toList.map (fun i => L.getD i []) = L := by
    refine List.ext_getElem? fun i => ?_
    rw [Array.toList_range, List.getElem?_map]
    by_cases hi : i < L.length
    · simp [hi]
    · simp [hi]
  refine sorted_eq bfI_an ?_ (sortG_sorted bfI_tr bfI_as L) ((h3.map _).trans (by rw [hL]; exact (sortG_perm L).symm))
  rw [List.pairwise_map, List.pairwise_iff_getElem]
  intro i j hi hj hij
  have hjs : j < d.size := by simpa using hj
  have h := hs i j (Nat.zero_le _) hij (by omega)
  dsimp only at h
  rw [getElem!_pos d j hjs, getElem!_pos d i (by omega)] at h
  rw [← cmpL_neg]
  exact h
end Go.Proofs.YtplgbapbgcipdaaGreat

/-! A drawn region walked step by step, where the worlds meet a condition: an operation that is taken first (a load too), one that is left out since its guard says so, one that alone may come. -/
namespace Go.Proofs.YtplgbapbgcipdaaGreat
open Go

section
variable {P : Program} {md : Region.Mode} {Q : Exit → Act → World → Prop} {S : World → Prop} {l : List Oper} {i : Nat} {o : Oper} {v : Value} {fuel : Nat} {listed : Array Bool} {a : Act} {w : World}
theorem h_take (v : Value) (hi : l[i]? = some o) (hs : Region.noSelect l.toArray = true) (hf : Region.free md l.toArray listed i = true) (hr : (Region.ready md l.toArray listed).contains i = true)
    (hQ : ∀ c a w, Q (.panic c) (a.put o.dst v) w → Q (.panic c) a w) (hw : Region.wanted o (yielded l.toArray a.tmps) = true) (hS : S w) (hv : ∀ w, S w → (execOp a.eval o).run P w = .ok (.value v) w)
    (h : wpAnyH P md l.toArray Q S fuel (listed.setIfInBounds i true) (a.put o.dst v) w) : wpAnyH P md l.toArray Q S (fuel + 1) listed a w :=
  wpAnyH_take (by rw [List.getElem?_toArray]; exact hi) hs hf hr hQ (.inl ⟨hw, hv⟩) hS h
theorem h_skip (hi : l[i]? = some o) (hs : Region.noSelect l.toArray = true) (hf : Region.free md l.toArray listed i = true) (hr : (Region.ready md l.toArray listed).contains i = true)
    (hQ : ∀ c a w, Q (.panic c) (a.put o.dst undef) w → Q (.panic c) a w) (hw : Region.wanted o (yielded l.toArray a.tmps) = false) (hS : S w)
    (h : wpAnyH P md l.toArray Q S fuel (listed.setIfInBounds i true) (a.put o.dst undef) w) : wpAnyH P md l.toArray Q S (fuel + 1) listed a w :=
  wpAnyH_take (by rw [List.getElem?_toArray]; exact hi) hs hf hr hQ (.inr ⟨hw, rfl⟩) hS h
theorem h_step (hi : l[i]? = some o) (hr : Region.ready md l.toArray listed = [i]) (hw : Region.wanted o (yielded l.toArray a.tmps) = true)
    (h : ∀ K : Act → World → Prop, (∀ a w, S w → wpAnyH P md l.toArray Q S fuel (listed.setIfInBounds i true) a w → K a w) → Oper.wp P o a w K Q) : wpAnyH P md l.toArray Q S (fuel + 1) listed a w :=
  wpAnyH_all hr (by simp) fun j hj => by
    have hji : j = i := by simpa using hj
    subst hji
    unfold Go.wpOp
    simp only [List.getElem?_toArray, hi]
    rw [if_pos hw]
    exact .inl (h _ fun a w h1 h2 => ⟨h1, h2⟩)
end
end Go.Proofs.YtplgbapbgcipdaaGreat

/-! What the laws' proofs share: a slice of ints that came in reads as a list. -/
namespace Go.Proofs.YtplgbapbgcipdaaGreat
open Go.ChangeShapes Go.WideShapes Go.ChangeAt Go.RowKit

theorem own : ownKnob Tryz.prog.godebug = none := by kernel_rfl
theorem laidOut : laidOutB Tryz.prog = true := by kernel_rfl

/-- A slice of integers that came in: nil, or a row of 'cap' cells. -/
def IsRow (k : IntKind) (w : World) (a : Option Addr) (len cap : Nat) (zs : List Int) : Prop :=
  (a = none ∧ len = 0 ∧ cap = 0 ∧ zs = []) ∨
  ∃ x, a = some x ∧ len ≤ cap ∧ cap ≤ maxLen ∧ zs.length = cap ∧ (∀ i, i < zs.length → w.cell? (x.add i) = some (.int k (zs.getD i 0))) ∧ ∀ n ∈ zs, (Lit.int k n).wf = true

theorem IsRow.reads {w : World} {a : Option Addr} {len cap : Nat} {zs : List Int} (h : IsRow .i64 w a len cap zs) :
    ∃ xs : List Int, xs.length = len ∧ len ≤ maxLen ∧ Reads w w.heap.size 1 a xs.length (ints xs) ∧ ∀ x ∈ xs, (Lit.int .i64 x).wf = true := by
  rcases h with ⟨rfl, rfl, rfl, rfl⟩ | ⟨x, rfl, hl, hm, hz, hc, hw⟩
  · exact ⟨[], rfl, by simp [maxLen], Reads.nil_, by simp⟩
  · have hlen : (zs.take len).length = len := by simp; omega
    refine ⟨zs.take len, hlen, Nat.le_trans hl hm, ⟨by rw [ints_length, Nat.mul_one], fun hn => ?_⟩, fun y hy => hw y (List.mem_of_mem_take hy)⟩
    obtain ⟨b, off, spot⟩ := x
    have h0 := hc 0 (by omega)
    obtain rfl : spot = none := by simpa [Addr.add] using World.cell?_spot h0
    refine ⟨b, off, rfl, ?_, fun j u hu => ?_⟩
    · have := World.block_lt_of_cell? w _ h0
      simpa [Addr.add] using this
    · obtain ⟨hj, hju⟩ := List.getElem?_eq_some_iff.1 hu
      rw [ints_length, hlen] at hj
      have h1 := hc j (by omega)
      have h2 : (zs.take len)[j]? = some (zs.getD j 0) := by
        rw [List.getElem?_take_of_lt hj, List.getD_eq_getElem?_getD, List.getElem?_eq_getElem (by omega)]
        rfl
      rw [ints_at h2] at hu
      injection hu with hu
      rw [← hu, ← h1]
      by_cases e : j = 0
      · subst e; simp [Addr.add]
      · simp [Addr.add, e]
end Go.Proofs.YtplgbapbgcipdaaGreat

/-! slices.IndexFunc and ContainsFunc on ints, with a function that has captured one variable. -/
namespace Go.Proofs.YtplgbapbgcipdaaGreat
open Go.RowKit

end Go.Proofs.YtplgbapbgcipdaaGreat

/-! Slices of slices of ints: of the call's own, and read. -/
namespace Go.Proofs.YtplgbapbgcipdaaGreat
open Go.RowKit

theorem info_row : (Tryz.prog.info? 25).map (fun i => (i.zero, i.size, i.bytes)) = some (some (.slice none 0 0), 1, 24) := by kernel_rfl

/-- The block of a slice value. -/
def blockOf (A : Option Addr) (k : Nat) : Prop := ∃ a, A = some a ∧ a.block = k
theorem blockOf_own {A : Option Addr} {n c k : Nat} : (Value.slice A n c).ownBlock = some k ↔ blockOf A k := by
  rcases A with _ | a <;> simp [Value.ownBlock, blockOf]

section
variable {w w' : World} {base : Nat} {e : TypeId} {A : Option Addr} {n c : Nat} {xs : List Value}
/-- What a step leaves of a row of the call's own: all that it asks is that its block stays. -/
theorem own_kept (h : w.ownsRow base e 1 (.slice A n c) n xs) (hk : ∀ k, blockOf A k → w'.heap[k]? = w.heap[k]?) : w'.ownsRow base e 1 (.slice A n c) n xs := by
  obtain ⟨h1, h2⟩ := h
  refine ⟨h1, ?_⟩
  rcases h2 with h2 | ⟨g, cap, cur, hv, hg, hh, r⟩
  · exact .inl h2
  · have hgb : (Value.slice A n c).ownBlock = some g := by rw [hv]; rfl
    exact .inr ⟨g, cap, cur, hv, hg, (hk g (blockOf_own.1 hgb)).trans hh, r⟩
theorem own_lt (h : w.ownsRow base e 1 (.slice A n c) n xs) {k : Nat} (hk : blockOf A k) : base ≤ k ∧ k < w.heap.size := World.ownsRow.lt h k (blockOf_own.2 hk)
theorem own_rebase {base' : Nat} (h : w.ownsRow base e 1 (.slice A n c) n xs) (hb : ∀ k, blockOf A k → base' ≤ k) : w.ownsRow base' e 1 (.slice A n c) n xs := by
  obtain ⟨h1, h2⟩ := h
  refine ⟨h1, ?_⟩
  rcases h2 with h2 | ⟨g, cap, cur, hv, hg, r⟩
  · exact .inl h2
  · have hgb : (Value.slice A n c).ownBlock = some g := by rw [hv]; rfl
    exact .inr ⟨g, cap, cur, hv, hb g (blockOf_own.1 hgb), r⟩
theorem own_type (h : w.ownsRow base e 1 (.slice A n c) n xs) {k : Nat} (hk : blockOf A k) : ∃ cs, Blk w k e cs := by
  rcases h.2 with ⟨hv, _⟩ | ⟨g, cap, cur, hv, _, hh, _⟩
  · obtain ⟨a, ha, _⟩ := hk; injection hv with hv; rw [ha] at hv; cases hv
  · have hgb : (Value.slice A n c).ownBlock = some g := by rw [hv]; rfl
    obtain ⟨a, ha, rfl⟩ := blockOf_own.1 hgb
    obtain ⟨a', ha', rfl⟩ := hk
    rw [ha] at ha'; cases ha'
    exact ⟨cur, hh⟩
theorem own_ne {base' : Nat} {e' : TypeId} {A' : Option Addr} {n' c' : Nat} {xs' : List Value} (h : w.ownsRow base e 1 (.slice A n c) n xs) (h' : w.ownsRow base' e' 1 (.slice A' n' c') n' xs') (hne : e ≠ e') {k k' : Nat} (hk : blockOf A k) (hk' : blockOf A' k') : k ≠ k' := by
  obtain ⟨cs, h1⟩ := own_type h hk
  obtain ⟨cs', h2⟩ := own_type h' hk'
  exact Blk.ne_ h1 h2 hne
theorem own_blk (h : w.ownsRow base e 1 (.slice A n c) n xs) {g : Nat} {t : TypeId} {cs : Array Value} (hg : Blk w g t cs) (hne : e ≠ t) {k : Nat} (hk : blockOf A k) : k ≠ g := by
  obtain ⟨cs', h1⟩ := own_type h hk
  exact Blk.ne_ h1 hg hne
end

/-- The slice value is the call's own, and so is each of its rows; they read as the lists. -/
def OwnRows (w : World) (base : Nat) (A : Option Addr) (c : Nat) (vs : List Value) (xss : List (List Int)) : Prop :=
  w.ownsRow base 25 1 (.slice A xss.length c) xss.length vs ∧ (∀ u ∈ vs, u.oneCell' = true) ∧
  ∀ (i : Nat) (xs : List Int), xss[i]? = some xs → ∃ A' c', vs[i]? = some (.slice A' xs.length c') ∧ OwnI w base A' c' xs
/-- The blocks of a slice of slices. -/
def rowBlock (A : Option Addr) (vs : List Value) (k : Nat) : Prop := blockOf A k ∨ ∃ v ∈ vs, v.ownBlock = some k

section
variable {w w' : World} {base : Nat} {A : Option Addr} {c : Nat} {vs : List Value} {xss : List (List Int)}
theorem OwnRows.nil_ (w : World) (base : Nat) : OwnRows w base none 0 [] [] := ⟨World.ownsRow_nil _ _ _ _, by simp, by simp⟩
theorem OwnRows.len (h : OwnRows w base A c vs xss) : vs.length = xss.length := by have := h.1.1; omega
theorem OwnRows.kept (h : OwnRows w base A c vs xss) (hk : ∀ k, rowBlock A vs k → w'.heap[k]? = w.heap[k]?) : OwnRows w' base A c vs xss := by
  refine ⟨own_kept h.1 fun k hb => hk k (.inl hb), h.2.1, fun i xs hi => ?_⟩
  obtain ⟨A', c', hv, ho⟩ := h.2.2 i xs hi
  exact ⟨A', c', hv, own_kept ho fun k hb => hk k (.inr ⟨_, List.mem_of_getElem? hv, blockOf_own.2 hb⟩)⟩
theorem OwnRows.lt (h : OwnRows w base A c vs xss) {k : Nat} (hk : rowBlock A vs k) : base ≤ k ∧ k < w.heap.size := by
  rcases hk with hk | ⟨v, hv, hk⟩
  · exact own_lt h.1 hk
  · obtain ⟨i, hi⟩ := List.getElem?_of_mem hv
    have hil : i < xss.length := by
      have := (List.getElem?_eq_some_iff.1 hi).1
      rw [h.len] at this; exact this
    obtain ⟨xs, hxs⟩ := get_of_lt hil
    obtain ⟨A', c', hv', ho⟩ := h.2.2 i xs hxs
    rw [hi] at hv'
    injection hv' with hv'
    subst hv'
    exact own_lt ho (blockOf_own.1 hk)
theorem OwnRows.next (h : OwnRows w base A c vs xss) (hb : Below w.heap.size w w') : OwnRows w' base A c vs xss := h.kept fun k hk => hb.block k (h.lt hk).2
theorem OwnRows.mono {base' : Nat} (h : OwnRows w base A c vs xss) (hb : base' ≤ base) : OwnRows w base' A c vs xss := by
  refine ⟨own_rebase h.1 fun k hk => Nat.le_trans hb (own_lt h.1 hk).1, h.2.1, fun i xs hi => ?_⟩
  obtain ⟨A', c', hv, ho⟩ := h.2.2 i xs hi
  exact ⟨A', c', hv, ho.mono hb⟩
end

theorem OwnRows.ne_blk {w : World} {base : Nat} {A : Option Addr} {c : Nat} {vs : List Value} {xss : List (List Int)} (h : OwnRows w base A c vs xss) {g : Nat} {t : TypeId} {cs : Array Value} (hg : Blk w g t cs) (h1 : 25 ≠ t) (h2 : 3 ≠ t) {k : Nat} (hk : rowBlock A vs k) : k ≠ g := by
  rcases hk with hk | ⟨v, hv, hk⟩
  · exact own_blk h.1 hg h1 hk
  · obtain ⟨i, hi⟩ := List.getElem?_of_mem hv
    have hil : i < xss.length := by
      have := (List.getElem?_eq_some_iff.1 hi).1
      rw [h.len] at this; exact this
    obtain ⟨xs, hxs⟩ := get_of_lt hil
    obtain ⟨A', c', hv', ho⟩ := h.2.2 i xs hxs
    rw [hi] at hv'
    injection hv' with hv'
    subst hv'
    exact own_blk ho hg h2 (blockOf_own.1 hk)
theorem OwnRows.set_blk {w : World} {base : Nat} {A : Option Addr} {c : Nat} {vs : List Value} {xss : List (List Int)} (h : OwnRows w base A c vs xss) {g : Nat} {t : TypeId} {cs : Array Value} (hg : Blk w g t cs) (h1 : 25 ≠ t) (h2 : 3 ≠ t) (o : Nat) (u : Value) : OwnRows (w.setCell ⟨g, o, none⟩ u) base A c vs xss :=
  h.kept fun _ hk => Below.heap_setCell w ⟨g, o, none⟩ u _ (h.ne_blk hg h1 h2 hk)
/-- One row more. -/
theorem OwnRows.push {w w' : World} {base : Nat} {A A' A8 : Option Addr} {c c' c8 : Nat} {vs : List Value} {xss : List (List Int)} {x : List Int} (h : OwnRows w base A c vs xss) (h8 : OwnI w base A8 c8 x)
    (hown : w'.ownsRow base 25 1 (.slice A' (xss.length + 1) c') (xss.length + 1) (vs ++ [.slice A8 x.length c8])) (hg : w.grownBy w' (Value.slice A xss.length c).ownBlock) : OwnRows w' base A' c' (vs ++ [.slice A8 x.length c8]) (xss ++ [x]) := by
  have keep : ∀ {A1 : Option Addr} {c1 : Nat} {y : List Int}, OwnI w base A1 c1 y → OwnI w' base A1 c1 y := fun {A1 c1 y} ho => own_kept ho fun k hk => hg.block k (own_lt ho hk).2 fun e => by
    exact own_ne ho h.1 (by decide) hk (blockOf_own.1 e.symm) rfl
  refine ⟨by rw [List.length_append]; exact hown, ?_, fun i xs hi => ?_⟩
  · intro u hu
    rcases List.mem_append.1 hu with hu | hu
    · exact h.2.1 u hu
    · rw [List.mem_singleton.1 hu]; rfl
  · have hl := h.len
    rcases Nat.lt_trichotomy i xss.length with hlt | rfl | hgt
    · rw [List.getElem?_append_left hlt] at hi
      obtain ⟨A1, c1, hv, ho⟩ := h.2.2 i xs hi
      exact ⟨A1, c1, by rw [List.getElem?_append_left (by omega)]; exact hv, keep ho⟩
    · have : xs = x := by simpa using hi.symm
      subst this
      exact ⟨A8, c8, by rw [← hl]; simp, keep h8⟩
    · rw [List.getElem?_eq_none (by simp; omega)] at hi; cases hi

/-- A slice of slices that reads as the lists. -/
def RowsR (w : World) (B : Nat) (A : Option Addr) (xss : List (List Int)) : Prop :=
  ∃ vs, Reads w B 1 A xss.length vs ∧ ∀ (i : Nat) (xs : List Int), xss[i]? = some xs → ∃ A' c', vs[i]? = some (.slice A' xs.length c') ∧ Reads w B 1 A' xs.length (ints xs)
theorem OwnRows.reads {w : World} {base : Nat} {A : Option Addr} {c : Nat} {vs : List Value} {xss : List (List Int)} (h : OwnRows w base A c vs xss) : RowsR w w.heap.size A xss :=
  ⟨vs, Reads.of_own h.1, fun i xs hi => by
    obtain ⟨A', c', hv, ho⟩ := h.2.2 i xs hi
    exact ⟨A', c', hv, ho.reads⟩⟩
theorem RowsR.below {w w' : World} {B : Nat} {A : Option Addr} {xss : List (List Int)} (h : RowsR w B A xss) (hb : Below B w w') : RowsR w' B A xss := by
  obtain ⟨vs, hr, hi⟩ := h
  refine ⟨vs, hr.below hb, fun i xs hx => ?_⟩
  obtain ⟨A', c', hv, ho⟩ := hi i xs hx
  exact ⟨A', c', hv, ho.below hb⟩
theorem RowsR.more {w : World} {B B' : Nat} {A : Option Addr} {xss : List (List Int)} (h : RowsR w B A xss) (hB : B ≤ B') : RowsR w B' A xss := by
  obtain ⟨vs, hr, hi⟩ := h
  refine ⟨vs, hr.more hB, fun i xs hx => ?_⟩
  obtain ⟨A', c', hv, ho⟩ := hi i xs hx
  exact ⟨A', c', hv, ho.more hB⟩
theorem RowsR.next {w w' : World} {A : Option Addr} {xss : List (List Int)} (h : RowsR w w.heap.size A xss) (hb : Below w.heap.size w w') : RowsR w' w'.heap.size A xss := (h.below hb).more hb.size
theorem RowsR.at_ {w : World} {B : Nat} {A : Option Addr} {xss : List (List Int)} (h : RowsR w B A xss) {k : Nat} {xs : List Int} (hx : xss[k]? = some xs) :
    ∃ b off A' c', A = some ⟨b, off, none⟩ ∧ b < B ∧ w.cell? ⟨b, off + k, none⟩ = some (.slice A' xs.length c') ∧ Reads w B 1 A' xs.length (ints xs) := by
  obtain ⟨vs, hr, hi⟩ := h
  obtain ⟨A', c', hv, ho⟩ := hi k xs hx
  obtain ⟨b, off, hA, hb, hc⟩ := hr.at_ hv
  exact ⟨b, off, A', c', hA, hb, hc, ho⟩
end Go.Proofs.YtplgbapbgcipdaaGreat

