/-
  Slices of divisors, of the call's own.
-/
import Derived.Test.YtjeggocindcgaaaRows2
namespace Go.Proofs.Ytjeggocindcgaaa
open Go.RowKit

theorem info_divs : (Try.prog.info? 53).map (fun i => (i.zero, i.size, i.bytes)) = some (some (.slice none 0 0), 1, 24) := by kernel_rfl
/-- The slice value is the call's own, and so is each of its rows; they read as the lists. -/
def OwnDivs (w : World) (base : Nat) (A : Option Addr) (c : Nat) (vs : List Value) (xss : List (List Int)) : Prop :=
  w.ownsRow base 53 1 (.slice A xss.length c) xss.length vs ∧ (∀ u ∈ vs, u.oneCell' = true) ∧
  ∀ (i : Nat) (xs : List Int), xss[i]? = some xs → ∃ A' c', vs[i]? = some (.slice A' xs.length c') ∧ OwnI w base A' c' xs
section
variable {w w' : World} {base : Nat} {A : Option Addr} {c : Nat} {vs : List Value} {xss : List (List Int)}
theorem OwnDivs.nil_ (w : World) (base : Nat) : OwnDivs w base none 0 [] [] := ⟨World.ownsRow_nil _ _ _ _, by simp, by simp⟩
theorem OwnDivs.len (h : OwnDivs w base A c vs xss) : vs.length = xss.length := by have := h.1.1; omega
theorem OwnDivs.kept (h : OwnDivs w base A c vs xss) (hk : ∀ k, rowBlock A vs k → w'.heap[k]? = w.heap[k]?) : OwnDivs w' base A c vs xss := by
  refine ⟨own_kept h.1 fun k hb => hk k (.inl hb), h.2.1, fun i xs hi => ?_⟩
  obtain ⟨A', c', hv, ho⟩ := h.2.2 i xs hi
  exact ⟨A', c', hv, own_kept ho fun k hb => hk k (.inr ⟨_, List.mem_of_getElem? hv, blockOf_own.2 hb⟩)⟩
theorem OwnDivs.lt (h : OwnDivs w base A c vs xss) {k : Nat} (hk : rowBlock A vs k) : base ≤ k ∧ k < w.heap.size := by
  rcases hk with hk | ⟨v, hv, hk⟩
  · exact own_lt h.1 hk
  · obtain ⟨i, hi⟩ := List.getElem?_of_mem hv
    have hil : i < xss.length := by
      have := (List.getElem?_eq_some_iff.1 hi).1
      rw [h.len] at this; exact this
    obtain ⟨xs, hxs⟩ := get_of_lt hil
    obtain ⟨A', c', hv', ho⟩ := h.2.2 i xs hxs
    rw [hi] at hv'
    injection hv' with hv'
    subst hv'
    exact own_lt ho (blockOf_own.1 hk)
theorem OwnDivs.next (h : OwnDivs w base A c vs xss) (hb : Below w.heap.size w w') : OwnDivs w' base A c vs xss := h.kept fun k hk => hb.block k (h.lt hk).2
theorem OwnDivs.mono {base' : Nat} (h : OwnDivs w base A c vs xss) (hb : base' ≤ base) : OwnDivs w base' A c vs xss := by
  refine ⟨own_rebase h.1 fun k hk => Nat.le_trans hb (own_lt h.1 hk).1, h.2.1, fun i xs hi => ?_⟩
  obtain ⟨A', c', hv, ho⟩ := h.2.2 i xs hi
  exact ⟨A', c', hv, ho.mono hb⟩
end

theorem OwnDivs.ne_blk {w : World} {base : Nat} {A : Option Addr} {c : Nat} {vs : List Value} {xss : List (List Int)} (h : OwnDivs w base A c vs xss) {g : Nat} {t : TypeId} {cs : Array Value} (hg : Blk w g t cs) (h1 : 53 ≠ t) (h2 : 3 ≠ t) {k : Nat} (hk : rowBlock A vs k) : k ≠ g := by
  rcases hk with hk | ⟨v, hv, hk⟩
  · exact own_blk h.1 hg h1 hk
  · obtain ⟨i, hi⟩ := List.getElem?_of_mem hv
    have hil : i < xss.length := by
      have := (List.getElem?_eq_some_iff.1 hi).1
      rw [h.len] at this; exact this
    obtain ⟨xs, hxs⟩ := get_of_lt hil
    obtain ⟨A', c', hv', ho⟩ := h.2.2 i xs hxs
    rw [hi] at hv'
    injection hv' with hv'
    subst hv'
    exact own_blk ho hg h2 (blockOf_own.1 hk)
theorem OwnDivs.set_blk {w : World} {base : Nat} {A : Option Addr} {c : Nat} {vs : List Value} {xss : List (List Int)} (h : OwnDivs w base A c vs xss) {g : Nat} {t : TypeId} {cs : Array Value} (hg : Blk w g t cs) (h1 : 53 ≠ t) (h2 : 3 ≠ t) (o : Nat) (u : Value) : OwnDivs (w.setCell ⟨g, o, none⟩ u) base A c vs xss :=
  h.kept fun _ hk => Below.heap_setCell w ⟨g, o, none⟩ u _ (h.ne_blk hg h1 h2 hk)
/-- One row more. -/
theorem OwnDivs.push {w w' : World} {base : Nat} {A A' A8 : Option Addr} {c c' c8 : Nat} {vs : List Value} {xss : List (List Int)} {x : List Int} (h : OwnDivs w base A c vs xss) (h8 : OwnI w base A8 c8 x)
    (hown : w'.ownsRow base 53 1 (.slice A' (xss.length + 1) c') (xss.length + 1) (vs ++ [.slice A8 x.length c8])) (hg : w.grownBy w' (Value.slice A xss.length c).ownBlock) : OwnDivs w' base A' c' (vs ++ [.slice A8 x.length c8]) (xss ++ [x]) := by
  have keep : ∀ {A1 : Option Addr} {c1 : Nat} {y : List Int}, OwnI w base A1 c1 y → OwnI w' base A1 c1 y := fun {A1 c1 y} ho => own_kept ho fun k hk => hg.block k (own_lt ho hk).2 fun e => by
    exact own_ne ho h.1 (by decide) hk (blockOf_own.1 e.symm) rfl
  refine ⟨by rw [List.length_append]; exact hown, ?_, fun i xs hi => ?_⟩
  · intro u hu
    rcases List.mem_append.1 hu with hu | hu
    · exact h.2.1 u hu
    · rw [List.mem_singleton.1 hu]; rfl
  · have hl := h.len
    rcases Nat.lt_trichotomy i xss.length with hlt | rfl | hgt
    · rw [List.getElem?_append_left hlt] at hi
      obtain ⟨A1, c1, hv, ho⟩ := h.2.2 i xs hi
      exact ⟨A1, c1, by rw [List.getElem?_append_left (by omega)]; exact hv, keep ho⟩
    · have : xs = x := by simpa using hi.symm
      subst this
      exact ⟨A8, c8, by rw [← hl]; simp, keep h8⟩
    · rw [List.getElem?_eq_none (by simp; omega)] at hi; cases hi

theorem OwnDivs.reads {w : World} {base : Nat} {A : Option Addr} {c : Nat} {vs : List Value} {xss : List (List Int)} (h : OwnDivs w base A c vs xss) : RowsR w w.heap.size A xss :=
  ⟨vs, Reads.of_own h.1, fun i xs hi => by
    obtain ⟨A', c', hv, ho⟩ := h.2.2 i xs hi
    exact ⟨A', c', hv, ho.reads⟩⟩
end Go.Proofs.Ytjeggocindcgaaa
