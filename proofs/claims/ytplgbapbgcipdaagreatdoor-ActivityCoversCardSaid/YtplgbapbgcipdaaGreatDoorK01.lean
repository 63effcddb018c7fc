/-
  Texts of this claim, put together: Words, SortG.
-/
import Derived.Below
import Derived.Laws.OwnMore
import Derived.Deep.AppendLies
import Derived.Deep.Draws
import Derived.Lib.Hide
import Derived.WalkKit
import Derived.WalkSpells
/-! Words for memory, with no program in sight: a slice that reads as a list of cells, and what keeps it so. -/
namespace Go.Proofs.YtplgbapbgcipdaaGreatDoor
open Go.RowKit

/-- The slice value with address A and n elements of 'size' cells each reads as the cells xs, in a block below B. -/
def Reads (w : World) (B size : Nat) (A : Option Addr) (n : Nat) (xs : List Value) : Prop :=
  xs.length = n * size ∧ (0 < n → ∃ b off, A = some ⟨b, off, none⟩ ∧ b < B ∧ ∀ j u, xs[j]? = some u → w.cell? ⟨b, off + j, none⟩ = some u)

section
variable {w w' : World} {B B' size n : Nat} {A : Option Addr} {xs : List Value}
theorem Reads.nil_ : Reads w B size A 0 [] := ⟨by simp, fun h => absurd h (by omega)⟩
theorem Reads.at_ {k : Nat} {u : Value} (h : Reads w B 1 A n xs) (hu : xs[k]? = some u) :
    ∃ b off, A = some ⟨b, off, none⟩ ∧ b < B ∧ w.cell? ⟨b, off + k, none⟩ = some u := by
  have hk : k < xs.length := by
    rcases Nat.lt_or_ge k xs.length with hk | hk
    · exact hk
    · rw [List.getElem?_eq_none hk] at hu; cases hu
  have := h.1
  obtain ⟨b, off, e, hb, hc⟩ := h.2 (by omega)
  exact ⟨b, off, e, hb, hc k u hu⟩
theorem Reads.keep (h : Reads w B size A n xs) (hk : ∀ p : Addr, p.block < B → w'.cell? p = w.cell? p) : Reads w' B size A n xs :=
  ⟨h.1, fun hn => by
    obtain ⟨b, off, e, hb, hc⟩ := h.2 hn
    exact ⟨b, off, e, hb, fun j u hu => (hk _ hb).trans (hc j u hu)⟩⟩
theorem Reads.more (h : Reads w B size A n xs) (hB : B ≤ B') : Reads w B' size A n xs :=
  ⟨h.1, fun hn => by
    obtain ⟨b, off, e, hb, hc⟩ := h.2 hn
    exact ⟨b, off, e, by omega, hc⟩⟩
theorem Reads.below (h : Reads w B size A n xs) (hb : Below B w w') : Reads w' B size A n xs := h.keep fun _ hp => hb.cell hp
theorem Reads.next (h : Reads w w.heap.size size A n xs) (hb : Below w.heap.size w w') : Reads w' w'.heap.size size A n xs := (h.below hb).more hb.size
theorem Reads.drew (h : Reads w B size A n xs) : Reads w.drew B size A n xs := h
theorem Reads.drewN (h : Reads w B size A n xs) (k : Nat) : Reads (w.drewN k) B size A n xs := h
theorem Reads.alloc (h : Reads w B size A n xs) (hB : B ≤ w.heap.size) (o : Obj) : Reads (w.alloc o) B size A n xs := h.keep fun p hp => World.cell?_alloc_lt w o p (by omega)
theorem Reads.setCell (h : Reads w B size A n xs) {p : Addr} (hB : B ≤ p.block) (u : Value) : Reads (w.setCell p u) B size A n xs :=
  h.keep fun q hq => World.cell?_setCell_other w p q u (fun e => by subst e; omega)
theorem Reads.grown (h : Reads w B size A n xs) {row : Option Nat} (hg : w.grownBy w' row) (hB : B ≤ w.heap.size) (hr : ∀ g, row = some g → B ≤ g) : Reads w' B size A n xs :=
  h.keep fun p hp => World.cell?_of_block (hg.block p.block (by omega) (fun e => by have := hr _ e.symm; omega))
theorem Reads.of_own {base : Nat} {e : TypeId} {c : Nat} (h : w.ownsRow base e size (.slice A n c) n xs) : Reads w w.heap.size size A n xs := by
  refine ⟨h.1, fun hn => ?_⟩
  obtain ⟨g, cap, hv, _, hlt⟩ := h.form hn
  have hA : A = some ⟨g, 0, none⟩ := by injection hv
  subst hA
  exact ⟨g, 0, rfl, hlt, fun j u hu => by
    have := h.cells (g := g) rfl j u hu
    by_cases hj : j = 0
    · subst hj; simpa [Addr.add] using this
    · simpa [Addr.add, hj] using this⟩
end

/-- Block g is just the cells cs of element type t, none of them frozen. -/
def Blk (w : World) (g : Nat) (t : TypeId) (cs : Array Value) : Prop := w.heap[g]? = some (.cells cs t (0, 0))

section
variable {w w' : World} {g : Nat} {t : TypeId} {cs : Array Value}
theorem Blk.lt (h : Blk w g t cs) : g < w.heap.size := by
  rcases Nat.lt_or_ge g w.heap.size with hlt | hge
  · exact hlt
  · unfold Blk at h; rw [Array.getElem?_eq_none hge] at h; cases h
theorem Blk.cell (h : Blk w g t cs) (i : Nat) : w.cell? ⟨g, i, none⟩ = cs[i]? := cell_of_row w g i cs t (0, 0) h
theorem Blk.frozen (h : Blk w g t cs) (i : Nat) : w.frozen? ⟨g, i, none⟩ = false := by
  unfold Blk at h
  simp [World.frozen?, h]
theorem Blk.new (w : World) (t : TypeId) (cs : Array Value) : Blk (w.alloc (.cells cs t)) w.heap.size t cs := heap_alloc_new w _
theorem Blk.drew (h : Blk w g t cs) : Blk w.drew g t cs := h
theorem Blk.drewN (h : Blk w g t cs) (n : Nat) : Blk (w.drewN n) g t cs := h
theorem Blk.alloc (h : Blk w g t cs) (o : Obj) : Blk (w.alloc o) g t cs := (Below.heap_alloc w o g h.lt).trans h
theorem Blk.set_ (h : Blk w g t cs) (i : Nat) (u : Value) : Blk (w.setCell ⟨g, i, none⟩ u) g t (cs.setIfInBounds i u) := by
  unfold Blk at h ⊢
  simp [World.setCell, Array.getElem?_modify, h]
theorem Blk.far (h : Blk w g t cs) {p : Addr} (hp : g ≠ p.block) (u : Value) : Blk (w.setCell p u) g t cs := (Below.heap_setCell w p u g hp).trans h
theorem Blk.below {B : Nat} (h : Blk w g t cs) (hb : Below B w w') (hg : g < B) : Blk w' g t cs := (hb.block g hg).trans h
theorem Blk.next (h : Blk w g t cs) (hb : Below w.heap.size w w') : Blk w' g t cs := h.below hb h.lt
theorem Blk.grown {row : Option Nat} (h : Blk w g t cs) (hb : w.grownBy w' row) (hg : some g ≠ row) : Blk w' g t cs := (hb.block g h.lt hg).trans h
theorem Blk.ne_ {g' : Nat} {t' : TypeId} {cs' : Array Value} (h : Blk w g t cs) (h' : Blk w g' t' cs') (hne : t ≠ t') : g ≠ g' := by
  rintro rfl
  unfold Blk at h h'
  rw [h] at h'
  injection h' with h'
  injection h' with _ ht
  exact hne ht
theorem own_blk_ne {base : Nat} {e : TypeId} {size n : Nat} {v : Value} {xs : List Value} (h : w.ownsRow base e size v n xs) (hg : Blk w g t cs) (hne : e ≠ t) : some g ≠ v.ownBlock := by
  rcases h.2 with ⟨rfl, _⟩ | ⟨g', cap, cur, rfl, _, hh, _⟩
  · simp [Value.ownBlock]
  · intro he
    have : g' = g := by simpa [Value.ownBlock] using he.symm
    subst this
    exact Blk.ne_ (t := e) hh hg hne rfl
end

/-- A list of bools as cells. -/
def bools (s : List Bool) : Array Value := (s.map Value.bool).toArray
theorem bools_set (s : List Bool) (k : Nat) (b : Bool) : (bools s).setIfInBounds k (.bool b) = bools (s.set k b) := by simp [bools, List.map_set]

/-- A list of ints as cells. -/
def ints (xs : List Int) : List Value := xs.map (Value.int .i64)
theorem ints_at {xs : List Int} {k : Nat} {x : Int} (h : xs[k]? = some x) : (ints xs)[k]? = some (.int .i64 x) := by simp [ints, h]
theorem ints_one {xs : List Int} : ∀ u ∈ ints xs, u.oneCell' = true := by
  intro u hu
  obtain ⟨x, _, rfl⟩ := List.mem_map.1 hu
  rfl
theorem ints_length (xs : List Int) : (ints xs).length = xs.length := by simp [ints]
theorem ints_snoc (xs : List Int) (x : Int) : ints (xs ++ [x]) = ints xs ++ [.int .i64 x] := by simp [ints]
theorem get_of_lt {α : Type} {xs : List α} {k : Nat} (h : k < xs.length) : ∃ x, xs[k]? = some x := ⟨_, List.getElem?_eq_getElem h⟩
theorem ret_bool {a b : Bool} (h : a = b) : Ending.returned (.bool a) = .returned (.bool b) := by rw [h]
theorem ret_int {k : IntKind} {a b : Int} (h : a = b) : Ending.returned (.int k a) = .returned (.int k b) := by rw [h]
theorem below_drewN {B : Nat} {a w : World} (h : Below B a w) (n : Nat) : Below B a (w.drewN n) := ⟨h.os, h.tape, h.output, h.size, h.block⟩
theorem take_snoc {α : Type} {xs : List α} {k : Nat} {x : α} (h : xs[k]? = some x) : xs.take (k + 1) = xs.take k ++ [x] := by
  rw [List.take_add_one]; simp [h]
end Go.Proofs.YtplgbapbgcipdaaGreatDoor

/-! Plain laws of sorting by insertion from the end: what comes is a permutation, in order; the order of lists of ints. No program is in sight. -/
namespace Go.Proofs.YtplgbapbgcipdaaGreatDoor

/-- Where an element is put: behind the last one that it is not before. -/
def insK {α : Type} (lt : α → α → Bool) (x : α) (out : List α) : Nat → Nat
  | 0 => 0
  | k + 1 => match out[k]? with
    | some y => if lt x y then insK lt x out k else k + 1
    | none => k + 1
def insS {α : Type} (lt : α → α → Bool) (out : List α) (x : α) : List α := out.take (insK lt x out out.length) ++ x :: out.drop (insK lt x out out.length)
def sortG {α : Type} (lt : α → α → Bool) (xs : List α) : List α := xs.foldl (insS lt) []

section
variable {α : Type} {lt : α → α → Bool} {x : α} {out xs : List α}
theorem insK_le : ∀ (k : Nat), insK lt x out k ≤ k
  | 0 => Nat.le_refl _
  | k + 1 => by
    have := insK_le k
    rw [insK]
    split
    · split <;> omega
    · omega
theorem insS_perm (out : List α) (x : α) : (insS lt out x).Perm (x :: out) := by
  unfold insS
  have h := List.take_append_drop (insK lt x out out.length) out
  conv => rhs; rw [← h]
  exact List.perm_middle
theorem sortG_perm (xs : List α) : (sortG lt xs).Perm xs := by
  unfold sortG
  suffices H : ∀ (xs out : List α), (xs.foldl (insS lt) out).Perm (out ++ xs) by simpa using H xs []
  intro xs
  induction xs with
  | nil => intro out; simp
  | cons x xs ih =>
    intro out
    rw [List.foldl_cons]
    refine (ih _).trans ?_
    refine ((insS_perm out x).append_right xs).trans ?_
    exact List.perm_middle.symm
theorem sortG_length (xs : List α) : (sortG lt xs).length = xs.length := (sortG_perm xs).length_eq
theorem insK_spec : ∀ (k : Nat), k ≤ out.length → (∀ j y, insK lt x out k ≤ j → j < k → out[j]? = some y → lt x y = true) ∧ (∀ j y, insK lt x out k = j + 1 → out[j]? = some y → lt x y = false)
  | 0, _ => ⟨fun j y _ h => by omega, fun j y h => by rw [insK] at h; omega⟩
  | k + 1, hk => by
    obtain ⟨i1, i2⟩ := insK_spec k (by omega)
    have hg : out[k]? = some out[k] := List.getElem?_eq_getElem (by omega)
    rw [insK, hg]
    simp only
    by_cases h : lt x out[k] = true
    · rw [if_pos h]
      refine ⟨?_, i2⟩
      intro j y h1 h2 h3
      rcases Nat.lt_or_ge j k with h4 | h4
      · exact i1 j y h1 h4 h3
      · have : j = k := by omega
        subst this
        rw [hg] at h3; injection h3 with h3; rw [← h3]; exact h
    · rw [if_neg h]
      refine ⟨fun j y h1 h2 => by omega, ?_⟩
      intro j y h1 h2
      have : j = k := by omega
      subst this
      rw [hg] at h2; injection h2 with h2; rw [← h2]
      simpa using h
theorem insS_sorted (htr : ∀ a b c, lt b a = false → lt c b = false → lt c a = false) (has : ∀ a b, lt a b = true → lt b a = false) (h : out.Pairwise fun a b => lt b a = false) : (insS lt out x).Pairwise fun a b => lt b a = false := by
  obtain ⟨k, hk⟩ : ∃ k, insK lt x out out.length = k := ⟨_, rfl⟩
  obtain ⟨s1, s2⟩ := insK_spec (lt := lt) (x := x) (out := out) out.length (Nat.le_refl _)
  have hle := insK_le (lt := lt) (x := x) (out := out) out.length
  rw [hk] at s1 s2 hle
  unfold insS
  rw [hk, List.pairwise_append]
  have hd : ∀ b ∈ out.drop k, lt x b = true := by
    intro b hb
    obtain ⟨i, hi⟩ := List.mem_iff_getElem?.1 hb
    rw [List.getElem?_drop] at hi
    have : k + i < out.length := by
      rcases Nat.lt_or_ge (k + i) out.length with h | h
      · exact h
      · rw [List.getElem?_eq_none h] at hi; cases hi
    exact s1 _ b (by omega) this hi
  have ht : ∀ a ∈ out.take k, lt x a = false := by
    intro a ha
    obtain ⟨i, hi⟩ := List.mem_iff_getElem?.1 ha
    have hik : i < k := by
      rcases Nat.lt_or_ge i k with h | h
      · exact h
      · rw [List.getElem?_eq_none (by simp; omega)] at hi; cases hi
    rw [List.getElem?_take_of_lt hik] at hi
    obtain ⟨m, rfl⟩ : ∃ m, k = m + 1 := ⟨k - 1, by omega⟩
    have hm : out[m]? = some out[m] := List.getElem?_eq_getElem (by omega)
    have h1 := s2 m _ rfl hm
    rcases Nat.lt_or_ge i m with him | him
    · have h2 : lt out[m] a = false := by
        have := List.pairwise_iff_getElem.1 h i m (by omega) (by omega) him
        have ha' : out[i]'(by omega) = a := by
          rw [List.getElem?_eq_getElem (by omega)] at hi; injection hi
        rw [ha'] at this; exact this
      exact htr _ _ _ h2 h1
    · have : i = m := by omega
      subst this
      rw [hm] at hi; injection hi with hi; rw [← hi]; exact h1
  refine ⟨h.sublist (List.take_sublist _ _), List.pairwise_cons.2 ⟨fun b hb => has _ _ (hd b hb), h.sublist (List.drop_sublist _ _)⟩, ?_⟩
  intro a ha b hb
  rcases List.mem_cons.1 hb with rfl | hb
  · exact ht a ha
  · exact htr _ _ _ (ht a ha) (has _ _ (hd b hb))
theorem sortG_sorted (htr : ∀ a b c, lt b a = false → lt c b = false → lt c a = false) (has : ∀ a b, lt a b = true → lt b a = false) (xs : List α) : (sortG lt xs).Pairwise fun a b => lt b a = false := by
  unfold sortG
  suffices H : ∀ (xs out : List α), (out.Pairwise fun a b => lt b a = false) → ((xs.foldl (insS lt) out).Pairwise fun a b => lt b a = false) from H xs [] .nil
  intro xs
  induction xs with
  | nil => intro out h; exact h
  | cons x xs ih => intro out h; rw [List.foldl_cons]; exact ih _ (insS_sorted htr has h)
/-- What is sorted is one list. -/
theorem sorted_eq {l m : List α} (han : ∀ a b, lt a b = false → lt b a = false → a = b) (hl : l.Pairwise fun a b => lt b a = false) (hm : m.Pairwise fun a b => lt b a = false) (hp : l.Perm m) : l = m :=
  List.Perm.eq_of_pairwise (fun a b _ _ h1 h2 => han a b h2 h1) hl hm hp
theorem perm_of_mem [DecidableEq α] {l m : List α} (hl : l.Nodup) (hm : m.Nodup) (h : ∀ x, x ∈ l ↔ x ∈ m) : l.Perm m := by
  rw [List.perm_iff_count]
  intro x
  rw [hl.count, hm.count]
  by_cases hx : x ∈ l
  · rw [if_pos hx, if_pos ((h x).1 hx)]
  · rw [if_neg hx, if_neg (fun k => hx ((h x).2 k))]
end

/-- Ints. -/
def ltI (a b : Int) : Bool := decide (a < b)
/-- Lists of ints, lexicographically. -/
def bfI : List Int → List Int → Bool
  | _, [] => false
  | [], _ :: _ => true
  | x :: a, y :: b => if x = y then bfI a b else decide (x < y)
theorem bfI_as : ∀ (a b : List Int), bfI a b = true → bfI b a = false
  | _, [], h => by simp [bfI] at h
  | [], _ :: _, _ => rfl
  | x :: a, y :: b, h => by
    rw [bfI] at h ⊢
    by_cases hxy : x = y
    · subst hxy
      rw [if_pos rfl] at h ⊢
      exact bfI_as a b h
    · rw [if_neg hxy] at h
      rw [if_neg (Ne.symm hxy)]
      simp at h ⊢; omega
theorem bfI_tr : ∀ (a b c : List Int), bfI b a = false → bfI c b = false → bfI c a = false
  | [], _, _, _, _ => by rw [bfI.eq_def]
  | _ :: _, [], _, h, _ => by simp [bfI] at h
  | _ :: _, _ :: _, [], _, h => by simp [bfI] at h
  | x :: a, y :: b, z :: c, h1, h2 => by
    rw [bfI] at h1 h2 ⊢
    by_cases e1 : y = x
    · subst e1
      rw [if_pos rfl] at h1
      by_cases e2 : z = y
      · subst e2
        rw [if_pos rfl] at h2 ⊢
        exact bfI_tr a b c h1 h2
      · rw [if_neg e2] at h2 ⊢; exact h2
    · rw [if_neg e1] at h1
      simp at h1
      by_cases e2 : z = y
      · subst e2
        rw [if_neg e1]; simp; omega
      · rw [if_neg e2] at h2
        simp at h2
        rw [if_neg (by omega)]; simp; omega
theorem bfI_an : ∀ (a b : List Int), bfI a b = false → bfI b a = false → a = b
  | [], [], _, _ => rfl
  | _ :: _, [], _, h => by simp [bfI] at h
  | [], _ :: _, h, _ => by simp [bfI] at h
  | x :: a, y :: b, h1, h2 => by
    rw [bfI] at h1 h2
    by_cases e : x = y
    · subst e
      rw [if_pos rfl] at h1 h2
      rw [bfI_an a b h1 h2]
    · rw [if_neg e] at h1
      rw [if_neg (Ne.symm e)] at h2
      simp at h1 h2; omega
theorem bfI_pre (p a b : List Int) : bfI (p ++ a) (p ++ b) = bfI a b := by
  induction p with
  | nil => rfl
  | cons x p ih => rw [List.cons_append, List.cons_append, bfI, if_pos rfl, ih]
theorem ltI_as (a b : Int) (h : ltI a b = true) : ltI b a = false := by simp [ltI] at *; omega
theorem ltI_tr (a b c : Int) (h1 : ltI b a = false) (h2 : ltI c b = false) : ltI c a = false := by simp [ltI] at *; omega
theorem ltI_an (a b : Int) (h1 : ltI a b = false) (h2 : ltI b a = false) : a = b := by simp [ltI] at *; omega
/-- Ints in order, sorted. -/
theorem sortI_eq {l m : List Int} (hl : l.Perm m) (hm : m.Pairwise (· ≤ ·)) : sortG ltI l = m :=
  sorted_eq ltI_an (sortG_sorted ltI_tr ltI_as l) (hm.imp fun h => by simp [ltI]; exact h) ((sortG_perm l).trans hl)
end Go.Proofs.YtplgbapbgcipdaaGreatDoor

