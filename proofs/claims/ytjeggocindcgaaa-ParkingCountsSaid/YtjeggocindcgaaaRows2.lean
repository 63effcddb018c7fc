/-
  Slices of slices of ints: of the call's own, and read.
-/
import Derived.Test.YtjeggocindcgaaaOwn
import Derived.Test.YtjeggocindcgaaaIter
namespace Go.Proofs.Ytjeggocindcgaaa
open Go.RowKit

theorem info_row : (Try.prog.info? 22).map (fun i => (i.zero, i.size, i.bytes)) = some (some (.slice none 0 0), 1, 24) := by kernel_rfl

/-- The block of a slice value. -/
def blockOf (A : Option Addr) (k : Nat) : Prop := ∃ a, A = some a ∧ a.block = k
theorem blockOf_own {A : Option Addr} {n c k : Nat} : (Value.slice A n c).ownBlock = some k ↔ blockOf A k := by
  rcases A with _ | a <;> simp [Value.ownBlock, blockOf]

section
variable {w w' : World} {base : Nat} {e : TypeId} {A : Option Addr} {n c : Nat} {xs : List Value}
/-- What a step leaves of a row of the call's own: all that it asks is that its block stays. -/
theorem own_kept (h : w.ownsRow base e 1 (.slice A n c) n xs) (hk : ∀ k, blockOf A k → w'.heap[k]? = w.heap[k]?) : w'.ownsRow base e 1 (.slice A n c) n xs := by
  obtain ⟨h1, h2⟩ := h
  refine ⟨h1, ?_⟩
  rcases h2 with h2 | ⟨g, cap, cur, hv, hg, hh, r⟩
  · exact .inl h2
  · have hgb : (Value.slice A n c).ownBlock = some g := by rw [hv]; rfl
    exact .inr ⟨g, cap, cur, hv, hg, (hk g (blockOf_own.1 hgb)).trans hh, r⟩
theorem own_lt (h : w.ownsRow base e 1 (.slice A n c) n xs) {k : Nat} (hk : blockOf A k) : base ≤ k ∧ k < w.heap.size := World.ownsRow.lt h k (blockOf_own.2 hk)
theorem own_rebase {base' : Nat} (h : w.ownsRow base e 1 (.slice A n c) n xs) (hb : ∀ k, blockOf A k → base' ≤ k) : w.ownsRow base' e 1 (.slice A n c) n xs := by
  obtain ⟨h1, h2⟩ := h
  refine ⟨h1, ?_⟩
  rcases h2 with h2 | ⟨g, cap, cur, hv, hg, r⟩
  · exact .inl h2
  · have hgb : (Value.slice A n c).ownBlock = some g := by rw [hv]; rfl
    exact .inr ⟨g, cap, cur, hv, hb g (blockOf_own.1 hgb), r⟩
theorem own_type (h : w.ownsRow base e 1 (.slice A n c) n xs) {k : Nat} (hk : blockOf A k) : ∃ cs, Blk w k e cs := by
  rcases h.2 with ⟨hv, _⟩ | ⟨g, cap, cur, hv, _, hh, _⟩
  · obtain ⟨a, ha, _⟩ := hk; injection hv with hv; rw [ha] at hv; cases hv
  · have hgb : (Value.slice A n c).ownBlock = some g := by rw [hv]; rfl
    obtain ⟨a, ha, rfl⟩ := blockOf_own.1 hgb
    obtain ⟨a', ha', rfl⟩ := hk
    rw [ha] at ha'; cases ha'
    exact ⟨cur, hh⟩
theorem own_ne {base' : Nat} {e' : TypeId} {A' : Option Addr} {n' c' : Nat} {xs' : List Value} (h : w.ownsRow base e 1 (.slice A n c) n xs) (h' : w.ownsRow base' e' 1 (.slice A' n' c') n' xs') (hne : e ≠ e') {k k' : Nat} (hk : blockOf A k) (hk' : blockOf A' k') : k ≠ k' := by
  obtain ⟨cs, h1⟩ := own_type h hk
  obtain ⟨cs', h2⟩ := own_type h' hk'
  exact Blk.ne_ h1 h2 hne
theorem own_blk (h : w.ownsRow base e 1 (.slice A n c) n xs) {g : Nat} {t : TypeId} {cs : Array Value} (hg : Blk w g t cs) (hne : e ≠ t) {k : Nat} (hk : blockOf A k) : k ≠ g := by
  obtain ⟨cs', h1⟩ := own_type h hk
  exact Blk.ne_ h1 hg hne
end

/-- The slice value is the call's own, and so is each of its rows; they read as the lists. -/
def OwnRows (w : World) (base : Nat) (A : Option Addr) (c : Nat) (vs : List Value) (xss : List (List Int)) : Prop :=
  w.ownsRow base 22 1 (.slice A xss.length c) xss.length vs ∧ (∀ u ∈ vs, u.oneCell' = true) ∧
  ∀ (i : Nat) (xs : List Int), xss[i]? = some xs → ∃ A' c', vs[i]? = some (.slice A' xs.length c') ∧ OwnI w base A' c' xs
/-- The blocks of a slice of slices. -/
def rowBlock (A : Option Addr) (vs : List Value) (k : Nat) : Prop := blockOf A k ∨ ∃ v ∈ vs, v.ownBlock = some k

section
variable {w w' : World} {base : Nat} {A : Option Addr} {c : Nat} {vs : List Value} {xss : List (List Int)}
theorem OwnRows.nil_ (w : World) (base : Nat) : OwnRows w base none 0 [] [] := ⟨World.ownsRow_nil _ _ _ _, by simp, by simp⟩
theorem OwnRows.len (h : OwnRows w base A c vs xss) : vs.length = xss.length := by have := h.1.1; omega
theorem OwnRows.kept (h : OwnRows w base A c vs xss) (hk : ∀ k, rowBlock A vs k → w'.heap[k]? = w.heap[k]?) : OwnRows w' base A c vs xss := by
  refine ⟨own_kept h.1 fun k hb => hk k (.inl hb), h.2.1, fun i xs hi => ?_⟩
  obtain ⟨A', c', hv, ho⟩ := h.2.2 i xs hi
  exact ⟨A', c', hv, own_kept ho fun k hb => hk k (.inr ⟨_, List.mem_of_getElem? hv, blockOf_own.2 hb⟩)⟩
theorem OwnRows.lt (h : OwnRows w base A c vs xss) {k : Nat} (hk : rowBlock A vs k) : base ≤ k ∧ k < w.heap.size := by
  rcases hk with hk | ⟨v, hv, hk⟩
  · exact own_lt h.1 hk
  · obtain ⟨i, hi⟩ := List.getElem?_of_mem hv
    have hil : i < xss.length := by
      have := (List.getElem?_eq_some_iff.1 hi).1
      rw [h.len] at this; exact this
    obtain ⟨xs, hxs⟩ := get_of_lt hil
    obtain ⟨A', c', hv', ho⟩ := h.2.2 i xs hxs
    rw [hi] at hv'
    injection hv' with hv'
    subst hv'
    exact own_lt ho (blockOf_own.1 hk)
theorem OwnRows.next (h : OwnRows w base A c vs xss) (hb : Below w.heap.size w w') : OwnRows w' base A c vs xss := h.kept fun k hk => hb.block k (h.lt hk).2
theorem OwnRows.mono {base' : Nat} (h : OwnRows w base A c vs xss) (hb : base' ≤ base) : OwnRows w base' A c vs xss := by
  refine ⟨own_rebase h.1 fun k hk => Nat.le_trans hb (own_lt h.1 hk).1, h.2.1, fun i xs hi => ?_⟩
  obtain ⟨A', c', hv, ho⟩ := h.2.2 i xs hi
  exact ⟨A', c', hv, ho.mono hb⟩
end

theorem OwnRows.ne_blk {w : World} {base : Nat} {A : Option Addr} {c : Nat} {vs : List Value} {xss : List (List Int)} (h : OwnRows w base A c vs xss) {g : Nat} {t : TypeId} {cs : Array Value} (hg : Blk w g t cs) (h1 : 22 ≠ t) (h2 : 3 ≠ t) {k : Nat} (hk : rowBlock A vs k) : k ≠ g := by
  rcases hk with hk | ⟨v, hv, hk⟩
  · exact own_blk h.1 hg h1 hk
  · obtain ⟨i, hi⟩ := List.getElem?_of_mem hv
    have hil : i < xss.length := by
      have := (List.getElem?_eq_some_iff.1 hi).1
      rw [h.len] at this; exact this
    obtain ⟨xs, hxs⟩ := get_of_lt hil
    obtain ⟨A', c', hv', ho⟩ := h.2.2 i xs hxs
    rw [hi] at hv'
    injection hv' with hv'
    subst hv'
    exact own_blk ho hg h2 (blockOf_own.1 hk)
theorem OwnRows.set_blk {w : World} {base : Nat} {A : Option Addr} {c : Nat} {vs : List Value} {xss : List (List Int)} (h : OwnRows w base A c vs xss) {g : Nat} {t : TypeId} {cs : Array Value} (hg : Blk w g t cs) (h1 : 22 ≠ t) (h2 : 3 ≠ t) (o : Nat) (u : Value) : OwnRows (w.setCell ⟨g, o, none⟩ u) base A c vs xss :=
  h.kept fun _ hk => Below.heap_setCell w ⟨g, o, none⟩ u _ (h.ne_blk hg h1 h2 hk)
/-- One row more. -/
theorem OwnRows.push {w w' : World} {base : Nat} {A A' A8 : Option Addr} {c c' c8 : Nat} {vs : List Value} {xss : List (List Int)} {x : List Int} (h : OwnRows w base A c vs xss) (h8 : OwnI w base A8 c8 x)
    (hown : w'.ownsRow base 22 1 (.slice A' (xss.length + 1) c') (xss.length + 1) (vs ++ [.slice A8 x.length c8])) (hg : w.grownBy w' (Value.slice A xss.length c).ownBlock) : OwnRows w' base A' c' (vs ++ [.slice A8 x.length c8]) (xss ++ [x]) := by
  have keep : ∀ {A1 : Option Addr} {c1 : Nat} {y : List Int}, OwnI w base A1 c1 y → OwnI w' base A1 c1 y := fun {A1 c1 y} ho => own_kept ho fun k hk => hg.block k (own_lt ho hk).2 fun e => by
    exact own_ne ho h.1 (by decide) hk (blockOf_own.1 e.symm) rfl
  refine ⟨by rw [List.length_append]; exact hown, ?_, fun i xs hi => ?_⟩
  · intro u hu
    rcases List.mem_append.1 hu with hu | hu
    · exact h.2.1 u hu
    · rw [List.mem_singleton.1 hu]; rfl
  · have hl := h.len
    rcases Nat.lt_trichotomy i xss.length with hlt | rfl | hgt
    · rw [List.getElem?_append_left hlt] at hi
      obtain ⟨A1, c1, hv, ho⟩ := h.2.2 i xs hi
      exact ⟨A1, c1, by rw [List.getElem?_append_left (by omega)]; exact hv, keep ho⟩
    · have : xs = x := by simpa using hi.symm
      subst this
      exact ⟨A8, c8, by rw [← hl]; simp, keep h8⟩
    · rw [List.getElem?_eq_none (by simp; omega)] at hi; cases hi

/-- A slice of slices that reads as the lists. -/
def RowsR (w : World) (B : Nat) (A : Option Addr) (xss : List (List Int)) : Prop :=
  ∃ vs, Reads w B 1 A xss.length vs ∧ ∀ (i : Nat) (xs : List Int), xss[i]? = some xs → ∃ A' c', vs[i]? = some (.slice A' xs.length c') ∧ Reads w B 1 A' xs.length (ints xs)
theorem OwnRows.reads {w : World} {base : Nat} {A : Option Addr} {c : Nat} {vs : List Value} {xss : List (List Int)} (h : OwnRows w base A c vs xss) : RowsR w w.heap.size A xss :=
  ⟨vs, Reads.of_own h.1, fun i xs hi => by
    obtain ⟨A', c', hv, ho⟩ := h.2.2 i xs hi
    exact ⟨A', c', hv, ho.reads⟩⟩
theorem RowsR.below {w w' : World} {B : Nat} {A : Option Addr} {xss : List (List Int)} (h : RowsR w B A xss) (hb : Below B w w') : RowsR w' B A xss := by
  obtain ⟨vs, hr, hi⟩ := h
  refine ⟨vs, hr.below hb, fun i xs hx => ?_⟩
  obtain ⟨A', c', hv, ho⟩ := hi i xs hx
  exact ⟨A', c', hv, ho.below hb⟩
theorem RowsR.more {w : World} {B B' : Nat} {A : Option Addr} {xss : List (List Int)} (h : RowsR w B A xss) (hB : B ≤ B') : RowsR w B' A xss := by
  obtain ⟨vs, hr, hi⟩ := h
  refine ⟨vs, hr.more hB, fun i xs hx => ?_⟩
  obtain ⟨A', c', hv, ho⟩ := hi i xs hx
  exact ⟨A', c', hv, ho.more hB⟩
theorem RowsR.next {w w' : World} {A : Option Addr} {xss : List (List Int)} (h : RowsR w w.heap.size A xss) (hb : Below w.heap.size w w') : RowsR w' w'.heap.size A xss := (h.below hb).more hb.size
theorem RowsR.at_ {w : World} {B : Nat} {A : Option Addr} {xss : List (List Int)} (h : RowsR w B A xss) {k : Nat} {xs : List Int} (hx : xss[k]? = some xs) :
    ∃ b off A' c', A = some ⟨b, off, none⟩ ∧ b < B ∧ w.cell? ⟨b, off + k, none⟩ = some (.slice A' xs.length c') ∧ Reads w B 1 A' xs.length (ints xs) := by
  obtain ⟨vs, hr, hi⟩ := h
  obtain ⟨A', c', hv, ho⟩ := hi k xs hx
  obtain ⟨b, off, hA, hb, hc⟩ := hr.at_ hv
  exact ⟨b, off, A', c', hA, hb, hc, ho⟩
end Go.Proofs.Ytjeggocindcgaaa
