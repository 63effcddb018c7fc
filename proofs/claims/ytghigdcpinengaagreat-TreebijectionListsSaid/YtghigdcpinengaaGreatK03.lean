/-
  Texts of this claim, put together: Rows2, OwnSet, SortG, HeapP.
-/
import Derived.Test.YtghigdcpinengaaGreatK01
import Derived.Test.YtghigdcpinengaaGreatK02
/-! Slices of slices of ints: of the call's own, and read. -/
namespace Go.Proofs.YtghigdcpinengaaGreat
open Go.RowKit

theorem info_row : (Tryz.prog.info? 25).map (fun i => (i.zero, i.size, i.bytes)) = some (some (.slice none 0 0), 1, 24) := by kernel_rfl

/-- The block of a slice value. -/
def blockOf (A : Option Addr) (k : Nat) : Prop := ∃ a, A = some a ∧ a.block = k
theorem blockOf_own {A : Option Addr} {n c k : Nat} : (Value.slice A n c).ownBlock = some k ↔ blockOf A k := by
  rcases A with _ | a <;> simp [Value.ownBlock, blockOf]

section
variable {w w' : World} {base : Nat} {e : TypeId} {A : Option Addr} {n c : Nat} {xs : List Value}
/-- What a step leaves of a row of the call's own: all that it asks is that its block stays. -/
theorem own_kept (h : w.ownsRow base e 1 (.slice A n c) n xs) (hk : ∀ k, blockOf A k → w'.heap[k]? = w.heap[k]?) : w'.ownsRow base e 1 (.slice A n c) n xs := by
  obtain ⟨h1, h2⟩ := h
  refine ⟨h1, ?_⟩
  rcases h2 with h2 | ⟨g, cap, cur, hv, hg, hh, r⟩
  · exact .inl h2
  · have hgb : (Value.slice A n c).ownBlock = some g := by rw [hv]; rfl
    exact .inr ⟨g, cap, cur, hv, hg, (hk g (blockOf_own.1 hgb)).trans hh, r⟩
theorem own_lt (h : w.ownsRow base e 1 (.slice A n c) n xs) {k : Nat} (hk : blockOf A k) : base ≤ k ∧ k < w.heap.size := World.ownsRow.lt h k (blockOf_own.2 hk)
theorem own_rebase {base' : Nat} (h : w.ownsRow base e 1 (.slice A n c) n xs) (hb : ∀ k, blockOf A k → base' ≤ k) : w.ownsRow base' e 1 (.slice A n c) n xs := by
  obtain ⟨h1, h2⟩ := h
  refine ⟨h1, ?_⟩
  rcases h2 with h2 | ⟨g, cap, cur, hv, hg, r⟩
  · exact .inl h2
  · have hgb : (Value.slice A n c).ownBlock = some g := by rw [hv]; rfl
    exact .inr ⟨g, cap, cur, hv, hb g (blockOf_own.1 hgb), r⟩
theorem own_type (h : w.ownsRow base e 1 (.slice A n c) n xs) {k : Nat} (hk : blockOf A k) : ∃ cs, Blk w k e cs := by
  rcases h.2 with ⟨hv, _⟩ | ⟨g, cap, cur, hv, _, hh, _⟩
  · obtain ⟨a, ha, _⟩ := hk; injection hv with hv; rw [ha] at hv; cases hv
  · have hgb : (Value.slice A n c).ownBlock = some g := by rw [hv]; rfl
    obtain ⟨a, ha, rfl⟩ := blockOf_own.1 hgb
    obtain ⟨a', ha', rfl⟩ := hk
    rw [ha] at ha'; cases ha'
    exact ⟨cur, hh⟩
theorem own_ne {base' : Nat} {e' : TypeId} {A' : Option Addr} {n' c' : Nat} {xs' : List Value} (h : w.ownsRow base e 1 (.slice A n c) n xs) (h' : w.ownsRow base' e' 1 (.slice A' n' c') n' xs') (hne : e ≠ e') {k k' : Nat} (hk : blockOf A k) (hk' : blockOf A' k') : k ≠ k' := by
  obtain ⟨cs, h1⟩ := own_type h hk
  obtain ⟨cs', h2⟩ := own_type h' hk'
  exact Blk.ne_ h1 h2 hne
theorem own_blk (h : w.ownsRow base e 1 (.slice A n c) n xs) {g : Nat} {t : TypeId} {cs : Array Value} (hg : Blk w g t cs) (hne : e ≠ t) {k : Nat} (hk : blockOf A k) : k ≠ g := by
  obtain ⟨cs', h1⟩ := own_type h hk
  exact Blk.ne_ h1 hg hne
end

/-- The slice value is the call's own, and so is each of its rows; they read as the lists. -/
def OwnRows (w : World) (base : Nat) (A : Option Addr) (c : Nat) (vs : List Value) (xss : List (List Int)) : Prop :=
  w.ownsRow base 25 1 (.slice A xss.length c) xss.length vs ∧ (∀ u ∈ vs, u.oneCell' = true) ∧
  ∀ (i : Nat) (xs : List Int), xss[i]? = some xs → ∃ A' c', vs[i]? = some (.slice A' xs.length c') ∧ OwnI w base A' c' xs
/-- The blocks of a slice of slices. -/
def rowBlock (A : Option Addr) (vs : List Value) (k : Nat) : Prop := blockOf A k ∨ ∃ v ∈ vs, v.ownBlock = some k

section
variable {w w' : World} {base : Nat} {A : Option Addr} {c : Nat} {vs : List Value} {xss : List (List Int)}
theorem OwnRows.nil_ (w : World) (base : Nat) : OwnRows w base none 0 [] [] := ⟨World.ownsRow_nil _ _ _ _, by simp, by simp⟩
theorem OwnRows.len (h : OwnRows w base A c vs xss) : vs.length = xss.length := by have := h.1.1; omega
theorem OwnRows.kept (h : OwnRows w base A c vs xss) (hk : ∀ k, rowBlock A vs k → w'.heap[k]? = w.heap[k]?) : OwnRows w' base A c vs xss := by
  refine ⟨own_kept h.1 fun k hb => hk k (.inl hb), h.2.1, fun i xs hi => ?_⟩
  obtain ⟨A', c', hv, ho⟩ := h.2.2 i xs hi
  exact ⟨A', c', hv, own_kept ho fun k hb => hk k (.inr ⟨_, List.mem_of_getElem? hv, blockOf_own.2 hb⟩)⟩
theorem OwnRows.lt (h : OwnRows w base A c vs xss) {k : Nat} (hk : rowBlock A vs k) : base ≤ k ∧ k < w.heap.size := by
  rcases hk with hk | ⟨v, hv, hk⟩
  · exact own_lt h.1 hk
  · obtain ⟨i, hi⟩ := List.getElem?_of_mem hv
    have hil : i < xss.length := by
      have := (List.getElem?_eq_some_iff.1 hi).1
      rw [h.len] at this; exact this
    obtain ⟨xs, hxs⟩ := get_of_lt hil
    obtain ⟨A', c', hv', ho⟩ := h.2.2 i xs hxs
    rw [hi] at hv'
    injection hv' with hv'
    subst hv'
    exact own_lt ho (blockOf_own.1 hk)
theorem OwnRows.next (h : OwnRows w base A c vs xss) (hb : Below w.heap.size w w') : OwnRows w' base A c vs xss := h.kept fun k hk => hb.block k (h.lt hk).2
theorem OwnRows.mono {base' : Nat} (h : OwnRows w base A c vs xss) (hb : base' ≤ base) : OwnRows w base' A c vs xss := by
  refine ⟨own_rebase h.1 fun k hk => Nat.le_trans hb (own_lt h.1 hk).1, h.2.1, fun i xs hi => ?_⟩
  obtain ⟨A', c', hv, ho⟩ := h.2.2 i xs hi
  exact ⟨A', c', hv, ho.mono hb⟩
end

theorem OwnRows.ne_blk {w : World} {base : Nat} {A : Option Addr} {c : Nat} {vs : List Value} {xss : List (List Int)} (h : OwnRows w base A c vs xss) {g : Nat} {t : TypeId} {cs : Array Value} (hg : Blk w g t cs) (h1 : 25 ≠ t) (h2 : 3 ≠ t) {k : Nat} (hk : rowBlock A vs k) : k ≠ g := by
  rcases hk with hk | ⟨v, hv, hk⟩
  · exact own_blk h.1 hg h1 hk
  · obtain ⟨i, hi⟩ := List.getElem?_of_mem hv
    have hil : i < xss.length := by
      have := (List.getElem?_eq_some_iff.1 hi).1
      rw [h.len] at this; exact this
    obtain ⟨xs, hxs⟩ := get_of_lt hil
    obtain ⟨A', c', hv', ho⟩ := h.2.2 i xs hxs
    rw [hi] at hv'
    injection hv' with hv'
    subst hv'
    exact own_blk ho hg h2 (blockOf_own.1 hk)
theorem OwnRows.set_blk {w : World} {base : Nat} {A : Option Addr} {c : Nat} {vs : List Value} {xss : List (List Int)} (h : OwnRows w base A c vs xss) {g : Nat} {t : TypeId} {cs : Array Value} (hg : Blk w g t cs) (h1 : 25 ≠ t) (h2 : 3 ≠ t) (o : Nat) (u : Value) : OwnRows (w.setCell ⟨g, o, none⟩ u) base A c vs xss :=
  h.kept fun _ hk => Below.heap_setCell w ⟨g, o, none⟩ u _ (h.ne_blk hg h1 h2 hk)
/-- One row more. -/
theorem OwnRows.push {w w' : World} {base : Nat} {A A' A8 : Option Addr} {c c' c8 : Nat} {vs : List Value} {xss : List (List Int)} {x : List Int} (h : OwnRows w base A c vs xss) (h8 : OwnI w base A8 c8 x)
    (hown : w'.ownsRow base 25 1 (.slice A' (xss.length + 1) c') (xss.length + 1) (vs ++ [.slice A8 x.length c8])) (hg : w.grownBy w' (Value.slice A xss.length c).ownBlock) : OwnRows w' base A' c' (vs ++ [.slice A8 x.length c8]) (xss ++ [x]) := by
  have keep : ∀ {A1 : Option Addr} {c1 : Nat} {y : List Int}, OwnI w base A1 c1 y → OwnI w' base A1 c1 y := fun {A1 c1 y} ho => own_kept ho fun k hk => hg.block k (own_lt ho hk).2 fun e => by
    exact own_ne ho h.1 (by decide) hk (blockOf_own.1 e.symm) rfl
  refine ⟨by rw [List.length_append]; exact hown, ?_, fun i xs hi => ?_⟩
  · intro u hu
    rcases List.mem_append.1 hu with hu | hu
    · exact h.2.1 u hu
    · rw [List.mem_singleton.1 hu]; rfl
  · have hl := h.len
    rcases Nat.lt_trichotomy i xss.length with hlt | rfl | hgt
    · rw [List.getElem?_append_left hlt] at hi
      obtain ⟨A1, c1, hv, ho⟩ := h.2.2 i xs hi
      exact ⟨A1, c1, by rw [List.getElem?_append_left (by omega)]; exact hv, keep ho⟩
    · have : xs = x := by simpa using hi.symm
      subst this
      exact ⟨A8, c8, by rw [← hl]; simp, keep h8⟩
    · rw [List.getElem?_eq_none (by simp; omega)] at hi; cases hi

/-- A slice of slices that reads as the lists. -/
def RowsR (w : World) (B : Nat) (A : Option Addr) (xss : List (List Int)) : Prop :=
  ∃ vs, Reads w B 1 A xss.length vs ∧ ∀ (i : Nat) (xs : List Int), xss[i]? = some xs → ∃ A' c', vs[i]? = some (.slice A' xs.length c') ∧ Reads w B 1 A' xs.length (ints xs)
theorem OwnRows.reads {w : World} {base : Nat} {A : Option Addr} {c : Nat} {vs : List Value} {xss : List (List Int)} (h : OwnRows w base A c vs xss) : RowsR w w.heap.size A xss :=
  ⟨vs, Reads.of_own h.1, fun i xs hi => by
    obtain ⟨A', c', hv, ho⟩ := h.2.2 i xs hi
    exact ⟨A', c', hv, ho.reads⟩⟩
theorem RowsR.below {w w' : World} {B : Nat} {A : Option Addr} {xss : List (List Int)} (h : RowsR w B A xss) (hb : Below B w w') : RowsR w' B A xss := by
  obtain ⟨vs, hr, hi⟩ := h
  refine ⟨vs, hr.below hb, fun i xs hx => ?_⟩
  obtain ⟨A', c', hv, ho⟩ := hi i xs hx
  exact ⟨A', c', hv, ho.below hb⟩
theorem RowsR.more {w : World} {B B' : Nat} {A : Option Addr} {xss : List (List Int)} (h : RowsR w B A xss) (hB : B ≤ B') : RowsR w B' A xss := by
  obtain ⟨vs, hr, hi⟩ := h
  refine ⟨vs, hr.more hB, fun i xs hx => ?_⟩
  obtain ⟨A', c', hv, ho⟩ := hi i xs hx
  exact ⟨A', c', hv, ho.more hB⟩
theorem RowsR.next {w w' : World} {A : Option Addr} {xss : List (List Int)} (h : RowsR w w.heap.size A xss) (hb : Below w.heap.size w w') : RowsR w' w'.heap.size A xss := (h.below hb).more hb.size
theorem RowsR.at_ {w : World} {B : Nat} {A : Option Addr} {xss : List (List Int)} (h : RowsR w B A xss) {k : Nat} {xs : List Int} (hx : xss[k]? = some xs) :
    ∃ b off A' c', A = some ⟨b, off, none⟩ ∧ b < B ∧ w.cell? ⟨b, off + k, none⟩ = some (.slice A' xs.length c') ∧ Reads w B 1 A' xs.length (ints xs) := by
  obtain ⟨vs, hr, hi⟩ := h
  obtain ⟨A', c', hv, ho⟩ := hi k xs hx
  obtain ⟨b, off, hA, hb, hc⟩ := hr.at_ hv
  exact ⟨b, off, A', c', hA, hb, hc, ho⟩
end Go.Proofs.YtghigdcpinengaaGreat

/-! A slice of ints of the call's own: its block, and a store into it. -/
namespace Go.Proofs.YtghigdcpinengaaGreat
open Go.RowKit

theorem OwnI.block {w : World} {base : Nat} {A : Option Addr} {c : Nat} {xs : List Int} (h : OwnI w base A c xs) (hn : 0 < xs.length) : ∃ g, A = some ⟨g, 0, none⟩ ∧ base ≤ g ∧ (∀ i, w.frozen? ⟨g, i, none⟩ = false) ∧ ∀ (k : Nat) (x : Int), xs[k]? = some x → w.cell? ⟨g, k, none⟩ = some (.int .i64 x) := by
  obtain ⟨h1, h2⟩ := h
  rcases h2 with ⟨h2, h3⟩ | ⟨g, cap, cur, hv, hg, hh, r1, r2, r3, r4⟩
  · simp at h2; omega
  · injection hv with hv1 hv2 hv3
    have hb : Blk w g 3 cur := hh
    refine ⟨g, hv1, hg, hb.frozen, fun k x hk => ?_⟩
    rw [hb.cell k]
    have hk' : k < xs.length := (List.getElem?_eq_some_iff.1 hk).1
    have e1 : (cur.toList.take (xs.length * 1))[k]? = some (.int .i64 x) := by rw [r4, ints_at hk]
    rw [Nat.mul_one, List.getElem?_take_of_lt hk', Array.getElem?_toList] at e1
    exact e1
theorem OwnI.set {w : World} {base : Nat} {A : Option Addr} {c g : Nat} {xs : List Int} (h : OwnI w base A c xs) (hA : A = some ⟨g, 0, none⟩) (k : Nat) (x : Int) : OwnI (w.setCell ⟨g, k, none⟩ (.int .i64 x)) base A c (xs.set k x) := by
  obtain ⟨h1, h2⟩ := h
  rcases h2 with ⟨h2, h3⟩ | ⟨g', cap, cur, hv, hg, hh, r1, r2, r3, r4⟩
  · simp at h2; rw [hA] at h2; simp at h2
  · have hv1 : A = some ⟨g', 0, none⟩ := by injection hv
    rw [hA] at hv1
    have hgg : g = g' := by injection hv1 with hv1; injection hv1
    subst hgg
    refine ⟨by rw [ints_length]; simp, .inr ⟨g, cap, cur.setIfInBounds k (.int .i64 x), by rw [List.length_set]; exact hv, hg, (Blk.set_ (show Blk w g 3 cur from hh) k _), by rw [List.length_set]; exact r1, r2, by simpa using r3, ?_⟩⟩
    rw [Array.toList_setIfInBounds, List.take_set, List.length_set, r4]
    simp [ints, List.map_set]
theorem OwnI.at_ {w : World} {base c g : Nat} {xs : List Int} (h : OwnI w base (some ⟨g, 0, none⟩) c xs) (hn : 0 < xs.length) : base ≤ g ∧ g < w.heap.size ∧ (∀ i, w.frozen? ⟨g, i, none⟩ = false) ∧ ∀ (k : Nat) (x : Int), xs[k]? = some x → w.cell? ⟨g, k, none⟩ = some (.int .i64 x) := by
  obtain ⟨g', e, h1, h2, h3⟩ := h.block hn
  injection e with e
  injection e with e
  subst e
  exact ⟨h1, (own_lt h ⟨_, rfl, rfl⟩).2, h2, h3⟩
theorem OwnI.put {w : World} {base c g : Nat} {xs : List Int} (h : OwnI w base (some ⟨g, 0, none⟩) c xs) (k : Nat) (x : Int) : OwnI (w.setCell ⟨g, k, none⟩ (.int .i64 x)) base (some ⟨g, 0, none⟩) c (xs.set k x) := h.set rfl k x
theorem OwnI.other {w : World} {base c g : Nat} {xs : List Int} (h : OwnI w base (some ⟨g, 0, none⟩) c xs) {p : Addr} (hp : p.block ≠ g) (u : Value) : OwnI (w.setCell p u) base (some ⟨g, 0, none⟩) c xs :=
  own_kept h fun k hk => by
    obtain ⟨a, ha, hk⟩ := hk
    injection ha with ha
    subst ha
    exact Below.heap_setCell w p u k (fun e => hp (by rw [← e, ← hk]))
theorem OwnI.kept {w w' : World} {base c g : Nat} {xs : List Int} (h : OwnI w base (some ⟨g, 0, none⟩) c xs) (hp : w'.heap[g]? = w.heap[g]?) : OwnI w' base (some ⟨g, 0, none⟩) c xs :=
  own_kept h fun k hk => by
    obtain ⟨a, ha, hk⟩ := hk
    injection ha with ha
    subst ha
    subst hk
    exact hp
end Go.Proofs.YtghigdcpinengaaGreat

/-! Plain laws of sorting by insertion from the end: what comes is a permutation, in order; the order of lists of ints. No program is in sight. -/
namespace Go.Proofs.YtghigdcpinengaaGreat

/-- Where an element is put: behind the last one that it is not before. -/
def insK {α : Type} (lt : α → α → Bool) (x : α) (out : List α) : Nat → Nat
  | 0 => 0
  | k + 1 => match out[k]? with
    | some y => if lt x y then insK lt x out k else k + 1
    | none => k + 1
def insS {α : Type} (lt : α → α → Bool) (out : List α) (x : α) : List α := out.take (insK lt x out out.length) ++ x :: out.drop (insK lt x out out.length)
def sortG {α : Type} (lt : α → α → Bool) (xs : List α) : List α := xs.foldl (insS lt) []

section
variable {α : Type} {lt : α → α → Bool} {x : α} {out xs : List α}
theorem insK_le : ∀ (k : Nat), insK lt x out k ≤ k
  | 0 => Nat.le_refl _
  | k + 1 => by
    have := insK_le k
    rw [insK]
    split
    · split <;> omega
    · omega
theorem insS_perm (out : List α) (x : α) : (insS lt out x).Perm (x :: out) := by
  unfold insS
  have h := List.take_append_drop (insK lt x out out.length) out
  conv => rhs; rw [← h]
  exact List.perm_middle
theorem sortG_perm (xs : List α) : (sortG lt xs).Perm xs := by
  unfold sortG
  suffices H : ∀ (xs out : List α), (xs.foldl (insS lt) out).Perm (out ++ xs) by simpa using H xs []
  intro xs
  induction xs with
  | nil => intro out; simp
  | cons x xs ih =>
    intro out
    rw [List.foldl_cons]
    refine (ih _).trans ?_
    refine ((insS_perm out x).append_right xs).trans ?_
    exact List.perm_middle.symm
theorem sortG_length (xs : List α) : (sortG lt xs).length = xs.length := (sortG_perm xs).length_eq
theorem insK_spec : ∀ (k : Nat), k ≤ out.length → (∀ j y, insK lt x out k ≤ j → j < k → out[j]? = some y → lt x y = true) ∧ (∀ j y, insK lt x out k = j + 1 → out[j]? = some y → lt x y = false)
  | 0, _ => ⟨fun j y _ h => by omega, fun j y h => by rw [insK] at h; omega⟩
  | k + 1, hk => by
    obtain ⟨i1, i2⟩ := insK_spec k (by omega)
    have hg : out[k]? = some out[k] := List.getElem?_eq_getElem (by omega)
    rw [insK, hg]
    simp only
    by_cases h : lt x out[k] = true
    · rw [if_pos h]
      refine ⟨?_, i2⟩
      intro j y h1 h2 h3
      rcases Nat.lt_or_ge j k with h4 | h4
      · exact i1 j y h1 h4 h3
      · have : j = k := by omega
        subst this
        rw [hg] at h3; injection h3 with h3; rw [← h3]; exact h
    · rw [if_neg h]
      refine ⟨fun j y h1 h2 => by omega, ?_⟩
      intro j y h1 h2
      have : j = k := by omega
      subst this
      rw [hg] at h2; injection h2 with h2; rw [← h2]
      simpa using h
theorem insS_sorted (htr : ∀ a b c, lt b a = false → lt c b = false → lt c a = false) (has : ∀ a b, lt a b = true → lt b a = false) (h : out.Pairwise fun a b => lt b a = false) : (insS lt out x).Pairwise fun a b => lt b a = false := by
  obtain ⟨k, hk⟩ : ∃ k, insK lt x out out.length = k := ⟨_, rfl⟩
  obtain ⟨s1, s2⟩ := insK_spec (lt := lt) (x := x) (out := out) out.length (Nat.le_refl _)
  have hle := insK_le (lt := lt) (x := x) (out := out) out.length
  rw [hk] at s1 s2 hle
  unfold insS
  rw [hk, List.pairwise_append]
  have hd : ∀ b ∈ out.drop k, lt x b = true := by
    intro b hb
    obtain ⟨i, hi⟩ := List.mem_iff_getElem?.1 hb
    rw [List.getElem?_drop] at hi
    have : k + i < out.length := by
      rcases Nat.lt_or_ge (k + i) out.length with h | h
      · exact h
      · rw [List.getElem?_eq_none h] at hi; cases hi
    exact s1 _ b (by omega) this hi
  have ht : ∀ a ∈ out.take k, lt x a = false := by
    intro a ha
    obtain ⟨i, hi⟩ := List.mem_iff_getElem?.1 ha
    have hik : i < k := by
      rcases Nat.lt_or_ge i k with h | h
      · exact h
      · rw [List.getElem?_eq_none (by simp; omega)] at hi; cases hi
    rw [List.getElem?_take_of_lt hik] at hi
    obtain ⟨m, rfl⟩ : ∃ m, k = m + 1 := ⟨k - 1, by omega⟩
    have hm : out[m]? = some out[m] := List.getElem?_eq_getElem (by omega)
    have h1 := s2 m _ rfl hm
    rcases Nat.lt_or_ge i m with him | him
    · have h2 : lt out[m] a = false := by
        have := List.pairwise_iff_getElem.1 h i m (by omega) (by omega) him
        have ha' : out[i]'(by omega) = a := by
          rw [List.getElem?_eq_getElem (by omega)] at hi; injection hi
        rw [ha'] at this; exact this
      exact htr _ _ _ h2 h1
    · have : i = m := by omega
      subst this
      rw [hm] at hi; injection hi with hi; rw [← hi]; exact h1
  refine ⟨h.sublist (List.take_sublist _ _), List.pairwise_cons.2 ⟨fun b hb => has _ _ (hd b hb), h.sublist (List.drop_sublist _ _)⟩, ?_⟩
  intro a ha b hb
  rcases List.mem_cons.1 hb with rfl | hb
  · exact ht a ha
  · exact htr _ _ _ (ht a ha) (has _ _ (hd b hb))
theorem sortG_sorted (htr : ∀ a b c, lt b a = false → lt c b = false → lt c a = false) (has : ∀ a b, lt a b = true → lt b a = false) (xs : List α) : (sortG lt xs).Pairwise fun a b => lt b a = false := by
  unfold sortG
  suffices H : ∀ (xs out : List α), (out.Pairwise fun a b => lt b a = false) → ((xs.foldl (insS lt) out).Pairwise fun a b => lt b a = false) from H xs [] .nil
  intro xs
  induction xs with
  | nil => intro out h; exact h
  | cons x xs ih => intro out h; rw [List.foldl_cons]; exact ih _ (insS_sorted htr has h)
/-- What is sorted is one list. -/
theorem sorted_eq {l m : List α} (han : ∀ a b, lt a b = false → lt b a = false → a = b) (hl : l.Pairwise fun a b => lt b a = false) (hm : m.Pairwise fun a b => lt b a = false) (hp : l.Perm m) : l = m :=
  List.Perm.eq_of_pairwise (fun a b _ _ h1 h2 => han a b h2 h1) hl hm hp
theorem perm_of_mem [DecidableEq α] {l m : List α} (hl : l.Nodup) (hm : m.Nodup) (h : ∀ x, x ∈ l ↔ x ∈ m) : l.Perm m := by
  rw [List.perm_iff_count]
  intro x
  rw [hl.count, hm.count]
  by_cases hx : x ∈ l
  · rw [if_pos hx, if_pos ((h x).1 hx)]
  · rw [if_neg hx, if_neg (fun k => hx ((h x).2 k))]
end

/-- Ints. -/
def ltI (a b : Int) : Bool := decide (a < b)
/-- Lists of ints, lexicographically. -/
def bfI : List Int → List Int → Bool
  | _, [] => false
  | [], _ :: _ => true
  | x :: a, y :: b => if x = y then bfI a b else decide (x < y)
theorem bfI_as : ∀ (a b : List Int), bfI a b = true → bfI b a = false
  | _, [], h => by simp [bfI] at h
  | [], _ :: _, _ => rfl
  | x :: a, y :: b, h => by
    rw [bfI] at h ⊢
    by_cases hxy : x = y
    · subst hxy
      rw [if_pos rfl] at h ⊢
      exact bfI_as a b h
    · rw [if_neg hxy] at h
      rw [if_neg (Ne.symm hxy)]
      simp at h ⊢; omega
theorem bfI_tr : ∀ (a b c : List Int), bfI b a = false → bfI c b = false → bfI c a = false
  | [], _, _, _, _ => by rw [bfI.eq_def]
  | _ :: _, [], _, h, _ => by simp [bfI] at h
  | _ :: _, _ :: _, [], _, h => by simp [bfI] at h
  | x :: a, y :: b, z :: c, h1, h2 => by
    rw [bfI] at h1 h2 ⊢
    by_cases e1 : y = x
    · subst e1
      rw [if_pos rfl] at h1
      by_cases e2 : z = y
      · subst e2
        rw [if_pos rfl] at h2 ⊢
        exact bfI_tr a b c h1 h2
      · rw [if_neg e2] at h2 ⊢; exact h2
    · rw [if_neg e1] at h1
      simp at h1
      by_cases e2 : z = y
      · subst e2
        rw [if_neg e1]; simp; omega
      · rw [if_neg e2] at h2
        simp at h2
        rw [if_neg (by omega)]; simp; omega
theorem bfI_an : ∀ (a b : List Int), bfI a b = false → bfI b a = false → a = b
  | [], [], _, _ => rfl
  | _ :: _, [], _, h => by simp [bfI] at h
  | [], _ :: _, h, _ => by simp [bfI] at h
  | x :: a, y :: b, h1, h2 => by
    rw [bfI] at h1 h2
    by_cases e : x = y
    · subst e
      rw [if_pos rfl] at h1 h2
      rw [bfI_an a b h1 h2]
    · rw [if_neg e] at h1
      rw [if_neg (Ne.symm e)] at h2
      simp at h1 h2; omega
theorem bfI_pre (p a b : List Int) : bfI (p ++ a) (p ++ b) = bfI a b := by
  induction p with
  | nil => rfl
  | cons x p ih => rw [List.cons_append, List.cons_append, bfI, if_pos rfl, ih]
theorem ltI_as (a b : Int) (h : ltI a b = true) : ltI b a = false := by simp [ltI] at *; omega
theorem ltI_tr (a b c : Int) (h1 : ltI b a = false) (h2 : ltI c b = false) : ltI c a = false := by simp [ltI] at *; omega
theorem ltI_an (a b : Int) (h1 : ltI a b = false) (h2 : ltI b a = false) : a = b := by simp [ltI] at *; omega
/-- Ints in order, sorted. -/
theorem sortI_eq {l m : List Int} (hl : l.Perm m) (hm : m.Pairwise (· ≤ ·)) : sortG ltI l = m :=
  sorted_eq ltI_an (sortG_sorted ltI_tr ltI_as l) (hm.imp fun h => by simp [ltI]; exact h) ((sortG_perm l).trans hl)
end Go.Proofs.YtghigdcpinengaaGreat

/-! Heaps of ints in a list, as container/heap keeps them: sifting up and down. No program is in sight. -/
namespace Go.Proofs.YtghigdcpinengaaGreat

def hp (H : List Int) (k : Nat) : Int := H.getD k 0
def swp (H : List Int) (i j : Nat) : List Int := (H.set i (hp H j)).set j (hp H i)
theorem hp_at {H : List Int} {k : Nat} (h : k < H.length) : H[k]? = some (hp H k) := by
  unfold hp; rw [List.getD_eq_getElem?_getD, List.getElem?_eq_getElem h]; rfl
theorem hp_set {H : List Int} {i : Nat} (h : i < H.length) (x : Int) (k : Nat) : hp (H.set i x) k = if k = i then x else hp H k := by
  unfold hp
  rw [List.getD_eq_getElem?_getD, List.getElem?_set]
  by_cases hk : k = i
  · subst hk; rw [if_pos rfl, if_pos rfl, if_pos h]; rfl
  · rw [if_neg (fun e => hk e.symm), if_neg hk, List.getD_eq_getElem?_getD]
theorem swp_length (H : List Int) (i j : Nat) : (swp H i j).length = H.length := by simp [swp]
theorem hp_swp {H : List Int} {i j : Nat} (hi : i < H.length) (hj : j < H.length) (k : Nat) : hp (swp H i j) k = if k = j then hp H i else if k = i then hp H j else hp H k := by
  unfold swp
  rw [hp_set (by simpa using hj), hp_set hi]
theorem swp_perm {H : List Int} {i j : Nat} (hi : i < H.length) (hj : j < H.length) : (swp H i j).Perm H := by
  have e1 : hp H i = H[i] := by unfold hp; rw [List.getD_eq_getElem?_getD, List.getElem?_eq_getElem hi]; rfl
  have e2 : hp H j = H[j] := by unfold hp; rw [List.getD_eq_getElem?_getD, List.getElem?_eq_getElem hj]; rfl
  unfold swp
  rw [e1, e2]
  exact List.set_set_perm hi hj
/-- The first n are a heap. -/
def HeapN (H : List Int) (n : Nat) : Prop := ∀ k, 0 < k → k < n → hp H ((k - 1) / 2) ≤ hp H k
theorem heap_min {H : List Int} {n : Nat} (h : HeapN H n) : ∀ k, k < n → hp H 0 ≤ hp H k := by
  intro k
  induction k using Nat.strongRecOn with
  | _ k ih =>
    intro hk
    by_cases h0 : k = 0
    · subst h0; exact Int.le_refl _
    · have h1 := h k (by omega) hk
      have h2 := ih ((k - 1) / 2) (by omega) (by omega)
      omega
/-- A heap but for one that may be too small. -/
structure UpI (H : List Int) (n j : Nat) : Prop where
  lt : j < n
  le : n ≤ H.length
  rest : ∀ k, 0 < k → k < n → k ≠ j → hp H ((k - 1) / 2) ≤ hp H k
  kids : ∀ k, 0 < k → k < n → (k - 1) / 2 = j → 0 < j → hp H ((j - 1) / 2) ≤ hp H k
theorem UpI.step {H : List Int} {n j : Nat} (h : UpI H n j) (hj : 0 < j) (hlt : hp H j < hp H ((j - 1) / 2)) : UpI (swp H ((j - 1) / 2) j) n ((j - 1) / 2) := by
  obtain ⟨h1, h2, h3, h4⟩ := h
  obtain ⟨i, hi⟩ : ∃ i, (j - 1) / 2 = i := ⟨_, rfl⟩
  have hs := hp_swp (H := H) (i := i) (j := j) (by omega) (by omega)
  rw [hi] at hlt h4 ⊢
  refine ⟨by omega, by rw [swp_length]; exact h2, fun k k0 k1 k2 => ?_, fun k k0 k1 k2 k3 => ?_⟩
  · rw [hs, hs]
    by_cases e1 : k = j
    · subst e1
      rw [if_pos rfl, hi, if_neg (by omega), if_pos rfl]; omega
    · rw [if_neg e1, if_neg k2]
      have h5 := h3 k k0 k1 e1
      by_cases e2 : (k - 1) / 2 = j
      · rw [if_pos e2]; exact h4 k k0 k1 e2 hj
      · rw [if_neg e2]
        by_cases e3 : (k - 1) / 2 = i
        · rw [if_pos e3]; rw [e3] at h5; omega
        · rw [if_neg e3]; exact h5
  · rw [hs, hs]
    have h6 := h3 i k3 (by omega) (by omega)
    rw [if_neg (by omega), if_neg (by omega)]
    by_cases e1 : k = j
    · rw [if_pos e1]; exact h6
    · rw [if_neg e1, if_neg (by omega)]
      have h5 := h3 k k0 k1 e1
      rw [k2] at h5; omega
theorem UpI.done {H : List Int} {n j : Nat} (h : UpI H n j) (hd : j = 0 ∨ hp H ((j - 1) / 2) ≤ hp H j) : HeapN H n := by
  intro k k0 k1
  by_cases e : k = j
  · subst e
    rcases hd with hd | hd
    · omega
    · exact hd
  · exact h.rest k k0 k1 e
theorem UpI.start {H : List Int} {x : Int} (h : HeapN H H.length) : UpI (H ++ [x]) (H.length + 1) H.length := by
  have hl : ∀ k, k < H.length → hp (H ++ [x]) k = hp H k := fun k hk => by
    unfold hp; rw [List.getD_eq_getElem?_getD, List.getD_eq_getElem?_getD, List.getElem?_append_left hk]
  refine ⟨by omega, by simp, fun k k0 k1 k2 => ?_, fun k k0 k1 k2 k3 => by omega⟩
  rw [hl _ (by omega), hl _ (by omega)]
  exact h k k0 (by omega)
/-- A heap but for one that may be too great. -/
structure DnI (H : List Int) (n i : Nat) : Prop where
  le : n ≤ H.length
  rest : ∀ k, 0 < k → k < n → (k - 1) / 2 ≠ i → hp H ((k - 1) / 2) ≤ hp H k
  kids : ∀ k, 0 < k → k < n → (k - 1) / 2 = i → 0 < i → hp H ((i - 1) / 2) ≤ hp H k
theorem DnI.step {H : List Int} {n i j : Nat} (h : DnI H n i) (hj : j < n) (hp1 : j = 2 * i + 1 ∨ j = 2 * i + 2) (hm : ∀ k, k < n → (k = 2 * i + 1 ∨ k = 2 * i + 2) → hp H j ≤ hp H k) (hlt : hp H j < hp H i) : DnI (swp H i j) n j := by
  obtain ⟨h2, h3, h4⟩ := h
  have hs := hp_swp (H := H) (i := i) (j := j) (by omega) (by omega)
  have hpj : (j - 1) / 2 = i := by omega
  refine ⟨by rw [swp_length]; exact h2, fun k k0 k1 k2 => ?_, fun k k0 k1 k2 k3 => ?_⟩
  · rw [hs, hs, if_neg k2]
    by_cases e1 : k = j
    · subst e1
      rw [if_pos rfl, if_pos hpj]; omega
    · rw [if_neg e1]
      by_cases e2 : k = i
      · subst e2
        rw [if_pos rfl, if_neg (by omega)]
        exact h4 j (by omega) hj hpj k0
      · rw [if_neg e2]
        by_cases e3 : (k - 1) / 2 = i
        · rw [if_pos e3]; exact hm k k1 (by omega)
        · rw [if_neg e3]; exact h3 k k0 k1 e3
  · rw [hs, hs, hpj, if_neg (by omega), if_pos rfl, if_neg (by omega), if_neg (by omega)]
    have := h3 k k0 k1 (by omega)
    rw [k2] at this; exact this
theorem DnI.done {H : List Int} {n i : Nat} (h : DnI H n i) (hd : ∀ k, k < n → (k = 2 * i + 1 ∨ k = 2 * i + 2) → hp H i ≤ hp H k) : HeapN H n := by
  intro k k0 k1
  by_cases e : (k - 1) / 2 = i
  · rw [e]; exact hd k k1 (by omega)
  · exact h.rest k k0 k1 e
/-- The last one comes to the top: the rest but for the top is a heap. -/
theorem DnI.start {H : List Int} {n : Nat} (h : HeapN H (n + 1)) (hl : H.length = n + 1) : DnI (swp H 0 n) n 0 := by
  have hs := hp_swp (H := H) (i := 0) (j := n) (by omega) (by omega)
  refine ⟨by rw [swp_length]; omega, fun k k0 k1 k2 => ?_, fun k k0 k1 k2 k3 => by omega⟩
  rw [hs, hs, if_neg (by omega), if_neg k2, if_neg (by omega), if_neg (by omega)]
  exact h k k0 (by omega)
theorem heap_take {H : List Int} {n : Nat} (h : HeapN H n) (_hl : n ≤ H.length) : HeapN (H.take n) n := by
  intro k k0 k1
  have e : ∀ j, j < n → hp (H.take n) j = hp H j := fun j hj => by
    unfold hp; rw [List.getD_eq_getElem?_getD, List.getD_eq_getElem?_getD, List.getElem?_take, if_pos hj]
  rw [e _ (by omega), e _ k1]
  exact h k k0 k1
end Go.Proofs.YtghigdcpinengaaGreat

