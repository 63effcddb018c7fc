/-
  Texts of this claim, put together: Words, TreeP.
-/
import Derived.Below
import Derived.Laws.OwnMore
import Derived.Deep.AppendLies
import Derived.Deep.Draws
import Derived.Lib.Hide
import Derived.WalkKit
import Derived.WalkSpells
/-! Words for memory, with no program in sight: a slice that reads as a list of cells, and what keeps it so. -/
namespace Go.Proofs.YtplgbapbgcipdaaGreat
open Go.RowKit

/-- The slice value with address A and n elements of 'size' cells each reads as the cells xs, in a block below B. -/
def Reads (w : World) (B size : Nat) (A : Option Addr) (n : Nat) (xs : List Value) : Prop :=
  xs.length = n * size ∧ (0 < n → ∃ b off, A = some ⟨b, off, none⟩ ∧ b < B ∧ ∀ j u, xs[j]? = some u → w.cell? ⟨b, off + j, none⟩ = some u)

section
variable {w w' : World} {B B' size n : Nat} {A : Option Addr} {xs : List Value}
theorem Reads.nil_ : Reads w B size A 0 [] := ⟨by simp, fun h => absurd h (by omega)⟩
theorem Reads.at_ {k : Nat} {u : Value} (h : Reads w B 1 A n xs) (hu : xs[k]? = some u) :
    ∃ b off, A = some ⟨b, off, none⟩ ∧ b < B ∧ w.cell? ⟨b, off + k, none⟩ = some u := by
  have hk : k < xs.length := by
    rcases Nat.lt_or_ge k xs.length with hk | hk
    · exact hk
    · rw [List.getElem?_eq_none hk] at hu; cases hu
  have := h.1
  obtain ⟨b, off, e, hb, hc⟩ := h.2 (by omega)
  exact ⟨b, off, e, hb, hc k u hu⟩
theorem Reads.keep (h : Reads w B size A n xs) (hk : ∀ p : Addr, p.block < B → w'.cell? p = w.cell? p) : Reads w' B size A n xs :=
  ⟨h.1, fun hn => by
    obtain ⟨b, off, e, hb, hc⟩ := h.2 hn
    exact ⟨b, off, e, hb, fun j u hu => (hk _ hb).trans (hc j u hu)⟩⟩
theorem Reads.more (h : Reads w B size A n xs) (hB : B ≤ B') : Reads w B' size A n xs :=
  ⟨h.1, fun hn => by
    obtain ⟨b, off, e, hb, hc⟩ := h.2 hn
    exact ⟨b, off, e, by omega, hc⟩⟩
theorem Reads.below (h : Reads w B size A n xs) (hb : Below B w w') : Reads w' B size A n xs := h.keep fun _ hp => hb.cell hp
theorem Reads.next (h : Reads w w.heap.size size A n xs) (hb : Below w.heap.size w w') : Reads w' w'.heap.size size A n xs := (h.below hb).more hb.size
theorem Reads.drew (h : Reads w B size A n xs) : Reads w.drew B size A n xs := h
theorem Reads.drewN (h : Reads w B size A n xs) (k : Nat) : Reads (w.drewN k) B size A n xs := h
theorem Reads.alloc (h : Reads w B size A n xs) (hB : B ≤ w.heap.size) (o : Obj) : Reads (w.alloc o) B size A n xs := h.keep fun p hp => World.cell?_alloc_lt w o p (by omega)
theorem Reads.setCell (h : Reads w B size A n xs) {p : Addr} (hB : B ≤ p.block) (u : Value) : Reads (w.setCell p u) B size A n xs :=
  h.keep fun q hq => World.cell?_setCell_other w p q u (fun e => by subst e; omega)
theorem Reads.grown (h : Reads w B size A n xs) {row : Option Nat} (hg : w.grownBy w' row) (hB : B ≤ w.heap.size) (hr : ∀ g, row = some g → B ≤ g) : Reads w' B size A n xs :=
  h.keep fun p hp => World.cell?_of_block (hg.block p.block (by omega) (fun e => by have := hr _ e.symm; omega))
theorem Reads.of_own {base : Nat} {e : TypeId} {c : Nat} (h : w.ownsRow base e size (.slice A n c) n xs) : Reads w w.heap.size size A n xs := by
  refine ⟨h.1, fun hn => ?_⟩
  obtain ⟨g, cap, hv, _, hlt⟩ := h.form hn
  have hA : A = some ⟨g, 0, none⟩ := by injection hv
  subst hA
  exact ⟨g, 0, rfl, hlt, fun j u hu => by
    have := h.cells (g := g) rfl j u hu
    by_cases hj : j = 0
    · subst hj; simpa [Addr.add] using this
    · simpa [Addr.add, hj] using this⟩
end

/-- Block g is just the cells cs of element type t, none of them frozen. -/
def Blk (w : World) (g : Nat) (t : TypeId) (cs : Array Value) : Prop := w.heap[g]? = some (.cells cs t (0, 0))

section
variable {w w' : World} {g : Nat} {t : TypeId} {cs : Array Value}
theorem Blk.lt (h : Blk w g t cs) : g < w.heap.size := by
  rcases Nat.lt_or_ge g w.heap.size with hlt | hge
  · exact hlt
  · unfold Blk at h; rw [Array.getElem?_eq_none hge] at h; cases h
theorem Blk.cell (h : Blk w g t cs) (i : Nat) : w.cell? ⟨g, i, none⟩ = cs[i]? := cell_of_row w g i cs t (0, 0) h
theorem Blk.frozen (h : Blk w g t cs) (i : Nat) : w.frozen? ⟨g, i, none⟩ = false := by
  unfold Blk at h
  simp [World.frozen?, h]
theorem Blk.new (w : World) (t : TypeId) (cs : Array Value) : Blk (w.alloc (.cells cs t)) w.heap.size t cs := heap_alloc_new w _
theorem Blk.drew (h : Blk w g t cs) : Blk w.drew g t cs := h
theorem Blk.drewN (h : Blk w g t cs) (n : Nat) : Blk (w.drewN n) g t cs := h
theorem Blk.alloc (h : Blk w g t cs) (o : Obj) : Blk (w.alloc o) g t cs := (Below.heap_alloc w o g h.lt).trans h
theorem Blk.set_ (h : Blk w g t cs) (i : Nat) (u : Value) : Blk (w.setCell ⟨g, i, none⟩ u) g t (cs.setIfInBounds i u) := by
  unfold Blk at h ⊢
  simp [World.setCell, Array.getElem?_modify, h]
theorem Blk.far (h : Blk w g t cs) {p : Addr} (hp : g ≠ p.block) (u : Value) : Blk (w.setCell p u) g t cs := (Below.heap_setCell w p u g hp).trans h
theorem Blk.below {B : Nat} (h : Blk w g t cs) (hb : Below B w w') (hg : g < B) : Blk w' g t cs := (hb.block g hg).trans h
theorem Blk.next (h : Blk w g t cs) (hb : Below w.heap.size w w') : Blk w' g t cs := h.below hb h.lt
theorem Blk.grown {row : Option Nat} (h : Blk w g t cs) (hb : w.grownBy w' row) (hg : some g ≠ row) : Blk w' g t cs := (hb.block g h.lt hg).trans h
theorem Blk.ne_ {g' : Nat} {t' : TypeId} {cs' : Array Value} (h : Blk w g t cs) (h' : Blk w g' t' cs') (hne : t ≠ t') : g ≠ g' := by
  rintro rfl
  unfold Blk at h h'
  rw [h] at h'
  injection h' with h'
  injection h' with _ ht
  exact hne ht
theorem own_blk_ne {base : Nat} {e : TypeId} {size n : Nat} {v : Value} {xs : List Value} (h : w.ownsRow base e size v n xs) (hg : Blk w g t cs) (hne : e ≠ t) : some g ≠ v.ownBlock := by
  rcases h.2 with ⟨rfl, _⟩ | ⟨g', cap, cur, rfl, _, hh, _⟩
  · simp [Value.ownBlock]
  · intro he
    have : g' = g := by simpa [Value.ownBlock] using he.symm
    subst this
    exact Blk.ne_ (t := e) hh hg hne rfl
end

/-- A list of bools as cells. -/
def bools (s : List Bool) : Array Value := (s.map Value.bool).toArray
theorem bools_get {s : List Bool} {k : Nat} {b : Bool} (h : s[k]? = some b) : (bools s)[k]? = some (.bool b) := by simp [bools, h]
theorem bools_set (s : List Bool) (k : Nat) (b : Bool) : (bools s).setIfInBounds k (.bool b) = bools (s.set k b) := by simp [bools, List.map_set]

/-- A list of ints as cells. -/
def ints (xs : List Int) : List Value := xs.map (Value.int .i64)
theorem ints_at {xs : List Int} {k : Nat} {x : Int} (h : xs[k]? = some x) : (ints xs)[k]? = some (.int .i64 x) := by simp [ints, h]
theorem ints_length (xs : List Int) : (ints xs).length = xs.length := by simp [ints]
theorem ints_snoc (xs : List Int) (x : Int) : ints (xs ++ [x]) = ints xs ++ [.int .i64 x] := by simp [ints]
theorem get_of_lt {α : Type} {xs : List α} {k : Nat} (h : k < xs.length) : ∃ x, xs[k]? = some x := ⟨_, List.getElem?_eq_getElem h⟩
theorem ret_bool {a b : Bool} (h : a = b) : Ending.returned (.bool a) = .returned (.bool b) := by rw [h]
theorem ret_int {k : IntKind} {a b : Int} (h : a = b) : Ending.returned (.int k a) = .returned (.int k b) := by rw [h]
theorem below_drewN {B : Nat} {a w : World} (h : Below B a w) (n : Nat) : Below B a (w.drewN n) := ⟨h.os, h.tape, h.output, h.size, h.block⟩
theorem take_snoc {α : Type} {xs : List α} {k : Nat} {x : α} (h : xs[k]? = some x) : xs.take (k + 1) = xs.take k ++ [x] := by
  rw [List.take_add_one]; simp [h]
end Go.Proofs.YtplgbapbgcipdaaGreat

/-! Plain laws of forests and spanning trees: single edges as a list of pairs; which vertices they connect, into how many parts; when they have no cycle. No program is in sight. -/
namespace Go.Proofs.YtplgbapbgcipdaaGreat

/-- Two vertices that pairs connect. -/
inductive Cn (ps : List (Nat × Nat)) (a : Nat) : Nat → Prop
  | refl : Cn ps a a
  | step {b c : Nat} : Cn ps a b → ((b, c) ∈ ps ∨ (c, b) ∈ ps) → Cn ps a c
/-- All ends are below n. -/
def BdP (n : Nat) (ps : List (Nat × Nat)) : Prop := ∀ p ∈ ps, p.1 < n ∧ p.2 < n
section
variable {ps qs : List (Nat × Nat)} {a b c n : Nat}
theorem Cn.trans (h : Cn ps a b) (h' : Cn ps b c) : Cn ps a c := by
  induction h' with
  | refl => exact h
  | step _ hs ih => exact ih.step hs
theorem Cn.symm (h : Cn ps a b) : Cn ps b a := by
  induction h with
  | refl => exact .refl
  | step _ hs ih => exact (Cn.refl.step hs.symm).trans ih
theorem Cn.mono (h : Cn ps a b) (hs : ∀ p ∈ ps, p ∈ qs) : Cn qs a b := by
  induction h with
  | refl => exact .refl
  | step _ he ih => exact ih.step (he.imp (hs _) (hs _))
theorem Cn.pair {p : Nat × Nat} (h : p ∈ ps) : Cn ps p.1 p.2 := Cn.refl.step (.inl h)
theorem cn_nil (h : Cn [] a b) : a = b := by
  induction h with
  | refl => rfl
  | step _ hs _ => simp at hs
theorem cn_same (h : ∀ p, p ∈ ps ↔ p ∈ qs) : Cn ps a b ↔ Cn qs a b := ⟨fun x => x.mono fun p => (h p).1, fun x => x.mono fun p => (h p).2⟩
theorem cn_cons (p : Nat × Nat) : Cn (p :: ps) a b ↔ Cn ps a b ∨ (Cn ps a p.1 ∧ Cn ps p.2 b) ∨ (Cn ps a p.2 ∧ Cn ps p.1 b) := by
  constructor
  · intro h
    induction h with
    | refl => exact .inl .refl
    | step h0 hs ih =>
      rename_i x y
      have key : ∀ {u v : Nat}, (u, v) ∈ p :: ps → (Cn ps a u ∨ (Cn ps a p.1 ∧ Cn ps p.2 u) ∨ (Cn ps a p.2 ∧ Cn ps p.1 u)) → (Cn ps a v ∨ (Cn ps a p.1 ∧ Cn ps p.2 v) ∨ (Cn ps a p.2 ∧ Cn ps p.1 v)) := by
        intro u v huv ih
        rcases List.mem_cons.1 huv with rfl | huv
        · rcases ih with h | ⟨h1, h2⟩ | ⟨h1, h2⟩
          · exact .inr (.inl ⟨h, .refl⟩)
          · exact .inr (.inl ⟨h1, .refl⟩)
          · exact .inl h1
        · have e : Cn ps u v := Cn.pair huv
          rcases ih with h | ⟨h1, h2⟩ | ⟨h1, h2⟩
          · exact .inl (h.trans e)
          · exact .inr (.inl ⟨h1, h2.trans e⟩)
          · exact .inr (.inr ⟨h1, h2.trans e⟩)
      have key2 : ∀ {u v : Nat}, (v, u) ∈ p :: ps → (Cn ps a u ∨ (Cn ps a p.1 ∧ Cn ps p.2 u) ∨ (Cn ps a p.2 ∧ Cn ps p.1 u)) → (Cn ps a v ∨ (Cn ps a p.1 ∧ Cn ps p.2 v) ∨ (Cn ps a p.2 ∧ Cn ps p.1 v)) := by
        intro u v huv ih
        rcases List.mem_cons.1 huv with rfl | huv
        · rcases ih with h | ⟨h1, h2⟩ | ⟨h1, h2⟩
          · exact .inr (.inr ⟨h, .refl⟩)
          · exact .inl h1
          · exact .inr (.inr ⟨h1, .refl⟩)
        · have e : Cn ps u v := (Cn.pair huv).symm
          rcases ih with h | ⟨h1, h2⟩ | ⟨h1, h2⟩
          · exact .inl (h.trans e)
          · exact .inr (.inl ⟨h1, h2.trans e⟩)
          · exact .inr (.inr ⟨h1, h2.trans e⟩)
      rcases hs with hs | hs
      · exact key hs ih
      · exact key2 hs ih
  · have m : ∀ {u v}, Cn ps u v → Cn (p :: ps) u v := fun h => h.mono fun q hq => by simp [hq]
    have e : Cn (p :: ps) p.1 p.2 := Cn.pair (by simp)
    rintro (h | ⟨h1, h2⟩ | ⟨h1, h2⟩)
    · exact m h
    · exact ((m h1).trans e).trans (m h2)
    · exact ((m h1).trans e.symm).trans (m h2)
theorem cn_cons_of {p : Nat × Nat} (hp : Cn ps p.1 p.2) : Cn (p :: ps) a b ↔ Cn ps a b := by
  rw [cn_cons]
  constructor
  · rintro (h | ⟨h1, h2⟩ | ⟨h1, h2⟩)
    · exact h
    · exact (h1.trans hp).trans h2
    · exact (h1.trans hp.symm).trans h2
  · exact .inl
theorem Cn.lt (hb : BdP n ps) (ha : a < n) (h : Cn ps a b) : b < n := by
  induction h with
  | refl => exact ha
  | step _ hs _ =>
    rcases hs with hs | hs
    · exact (hb _ hs).2
    · exact (hb _ hs).1
theorem BdP.cons {p : Nat × Nat} (h : BdP n (p :: ps)) : (p.1 < n ∧ p.2 < n) ∧ BdP n ps := ⟨h p (by simp), fun q hq => h q (by simp [hq])⟩
end

theorem filter_less {l : List Nat} (hn : l.Nodup) {x : Nat} (hx : x ∈ l) {P Q : Nat → Bool} (hP : P x = true) (hQ : ∀ v ∈ l, Q v = (P v && !decide (v = x))) : (l.filter Q).length + 1 = (l.filter P).length := by
  induction l with
  | nil => simp at hx
  | cons y l ih =>
    rw [List.nodup_cons] at hn
    rcases List.mem_cons.1 hx with rfl | hx
    · have e : l.filter Q = l.filter P := List.filter_congr fun v hv => by
        rw [hQ v (by simp [hv])]
        have : v ≠ x := fun h => hn.1 (h ▸ hv)
        simp [this]
      have hqx : Q x = false := by rw [hQ x (by simp)]; simp
      rw [List.filter_cons_of_neg (by simp [hqx]), List.filter_cons_of_pos hP, e]; rfl
    · have hyx : y ≠ x := fun h => hn.1 (h ▸ hx)
      have := ih hn.2 hx (fun v hv => hQ v (by simp [hv]))
      have hqy : Q y = P y := by rw [hQ y (by simp)]; simp [hyx]
      by_cases hp : P y = true
      · rw [List.filter_cons_of_pos hp, List.filter_cons_of_pos (by rw [hqy]; exact hp)]
        simp only [List.length_cons]; omega
      · rw [List.filter_cons_of_neg hp, List.filter_cons_of_neg (by rw [hqy]; exact hp)]
        exact this

theorem nodup_sub_le {α : Type} [DecidableEq α] : ∀ {l m : List α}, l.Nodup → (∀ x ∈ l, x ∈ m) → l.length ≤ m.length
  | [], _, _, _ => by simp
  | x :: l, m, hn, hs => by
    rw [List.nodup_cons] at hn
    have hx := hs x (by simp)
    have := nodup_sub_le (l := l) (m := m.erase x) hn.2 fun y hy => by
      have hyx : y ≠ x := fun h => hn.1 (h ▸ hy)
      exact (List.mem_erase_of_ne hyx).2 (hs y (by simp [hy]))
    have h1 := List.length_erase_of_mem hx
    have h2 : 0 < m.length := List.length_pos_of_mem hx
    simp only [List.length_cons]; omega

/-- The least vertex of the part of a vertex. -/
def labF : List (Nat × Nat) → Nat → Nat
  | [], v => v
  | p :: ps, v => if labF ps v = max (labF ps p.1) (labF ps p.2) then min (labF ps p.1) (labF ps p.2) else labF ps v
/-- The number of parts of n vertices. -/
def partsP (n : Nat) (ps : List (Nat × Nat)) : Nat := ((List.range n).filter fun v => decide (labF ps v = v)).length
section
variable {ps qs : List (Nat × Nat)} {n : Nat}
theorem lab_cn : ∀ {ps : List (Nat × Nat)} {u v : Nat}, Cn ps u v ↔ labF ps u = labF ps v
  | [], u, v => ⟨fun h => cn_nil h, fun h => by have h : u = v := h
                                                subst h; exact .refl⟩
  | p :: ps, u, v => by
    rw [cn_cons, lab_cn, lab_cn, lab_cn, lab_cn, lab_cn]
    simp only [labF]
    split <;> split <;> omega
instance cn_dec (ps : List (Nat × Nat)) (a b : Nat) : Decidable (Cn ps a b) := decidable_of_iff _ lab_cn.symm
theorem lab_fix : ∀ (ps : List (Nat × Nat)) (v : Nat), labF ps v ≤ v ∧ labF ps (labF ps v) = labF ps v
  | [], v => ⟨Nat.le_refl _, rfl⟩
  | p :: ps, v => by
    have h0 := lab_fix ps v
    have h1 := lab_fix ps p.1
    have h2 := lab_fix ps p.2
    have hm : labF ps (min (labF ps p.1) (labF ps p.2)) = min (labF ps p.1) (labF ps p.2) := by
      rcases Nat.le_total (labF ps p.1) (labF ps p.2) with h | h
      · rw [Nat.min_eq_left h]; exact h1.2
      · rw [Nat.min_eq_right h]; exact h2.2
    have hd : ∀ x, labF (p :: ps) x = if labF ps x = max (labF ps p.1) (labF ps p.2) then min (labF ps p.1) (labF ps p.2) else labF ps x := fun _ => rfl
    by_cases h : labF ps v = max (labF ps p.1) (labF ps p.2)
    · have e : labF (p :: ps) v = min (labF ps p.1) (labF ps p.2) := by rw [hd, if_pos h]
      rw [e, hd, hm]
      refine ⟨by omega, ?_⟩
      split <;> omega
    · have e : labF (p :: ps) v = labF ps v := by rw [hd, if_neg h]
      rw [e, hd, h0.2, if_neg h]; exact ⟨h0.1, rfl⟩
theorem lab_self (ps : List (Nat × Nat)) (v : Nat) : Cn ps (labF ps v) v := lab_cn.2 (lab_fix ps v).2
theorem lab_low {v : Nat} : labF ps v = v ↔ ∀ u, u < v → ¬ Cn ps u v := by
  constructor
  · intro h u hu hc
    have := lab_cn.1 hc
    have := (lab_fix ps u).1; omega
  · intro h
    have := (lab_fix ps v).1
    rcases Nat.lt_or_ge (labF ps v) v with hl | hl
    · exact absurd (lab_self ps v) (h _ hl)
    · omega
theorem partsP_nil (n : Nat) : partsP n [] = n := by
  unfold partsP
  rw [List.filter_eq_self.2]
  · simp
  · intro v _; simp [labF]
theorem partsP_congr (h : ∀ a b, Cn ps a b ↔ Cn qs a b) : partsP n ps = partsP n qs := by
  unfold partsP
  congr 1
  refine List.filter_congr fun v _ => ?_
  rw [Bool.eq_iff_iff, decide_eq_true_eq, decide_eq_true_eq, lab_low, lab_low]
  exact ⟨fun k u hu hc => k u hu ((h _ _).2 hc), fun k u hu hc => k u hu ((h _ _).1 hc)⟩
theorem partsP_in {p : Nat × Nat} (hp : Cn ps p.1 p.2) : partsP n (p :: ps) = partsP n ps := partsP_congr fun _ _ => cn_cons_of hp
theorem partsP_out {p : Nat × Nat} (h1 : p.1 < n) (h2 : p.2 < n) (hp : ¬ Cn ps p.1 p.2) : partsP n (p :: ps) + 1 = partsP n ps := by
  rw [lab_cn] at hp
  have k1 := lab_fix ps p.1
  have k2 := lab_fix ps p.2
  unfold partsP
  have hM : labF ps (max (labF ps p.1) (labF ps p.2)) = max (labF ps p.1) (labF ps p.2) := by
    rcases Nat.le_total (labF ps p.1) (labF ps p.2) with h | h
    · rw [Nat.max_eq_right h]; exact k2.2
    · rw [Nat.max_eq_left h]; exact k1.2
  have hm : labF ps (min (labF ps p.1) (labF ps p.2)) = min (labF ps p.1) (labF ps p.2) := by
    rcases Nat.le_total (labF ps p.1) (labF ps p.2) with h | h
    · rw [Nat.min_eq_left h]; exact k1.2
    · rw [Nat.min_eq_right h]; exact k2.2
  refine filter_less List.nodup_range (x := max (labF ps p.1) (labF ps p.2)) (by rw [List.mem_range]; omega) (by rw [decide_eq_true_eq]; exact hM) ?_
  intro v _
  rw [Bool.eq_iff_iff]
  simp only [Bool.and_eq_true, Bool.not_eq_true', decide_eq_true_eq, decide_eq_false_iff_not]
  rw [labF]
  split
  · rename_i h
    constructor
    · intro he
      rw [he] at hm; omega
    · rintro ⟨e1, e2⟩; omega
  · rename_i h
    constructor
    · intro he; exact ⟨he, fun e => h (by omega)⟩
    · exact fun h => h.1
theorem partsP_pos (hn : 0 < n) : 1 ≤ partsP n ps := by
  unfold partsP
  apply List.length_pos_of_mem (a := 0)
  rw [List.mem_filter, List.mem_range, decide_eq_true_eq]
  have := (lab_fix ps 0).1
  exact ⟨hn, by omega⟩
theorem partsP_one (hn : 0 < n) : partsP n ps = 1 ↔ ∀ v, v < n → Cn ps 0 v := by
  have h00 : labF ps 0 = 0 := by have := (lab_fix ps 0).1; omega
  constructor
  · intro h v hv
    rw [lab_cn, h00]
    have hf := lab_fix ps v
    by_cases h0 : labF ps v = 0
    · exact h0.symm
    · exfalso
      have : ([0, labF ps v] : List Nat).length ≤ partsP n ps := by
        unfold partsP
        refine nodup_sub_le ?_ ?_
        · simp; omega
        · intro x hx
          rw [List.mem_filter, List.mem_range, decide_eq_true_eq]
          simp only [List.mem_cons, List.not_mem_nil, or_false] at hx
          rcases hx with rfl | rfl
          · exact ⟨hn, h00⟩
          · exact ⟨by omega, hf.2⟩
      simp at this; omega
  · intro h
    unfold partsP
    have e : (List.range n).filter (fun v => decide (labF ps v = v)) = (List.range n).filter (fun v => decide (v = 0)) := by
      refine List.filter_congr fun v hv => ?_
      rw [List.mem_range] at hv
      have := lab_cn.1 (h v hv)
      rw [h00] at this
      rw [← this, Bool.eq_iff_iff]
      simp only [decide_eq_true_eq]; omega
    rw [e]
    obtain ⟨m, rfl⟩ : ∃ m, n = m + 1 := ⟨n - 1, by omega⟩
    rw [List.range_succ_eq_map, List.filter_cons_of_pos (by simp), List.filter_eq_nil_iff.2]
    · rfl
    · intro x hx
      obtain ⟨y, _, rfl⟩ := List.mem_map.1 hx
      simp

/-- A list of pairs without a cycle. -/
def Fo : List (Nat × Nat) → Prop
  | [] => True
  | p :: ps => Fo ps ∧ ¬ Cn ps p.1 p.2
/-- .. as a bool. -/
def foB : List (Nat × Nat) → Bool
  | [] => true
  | p :: ps => foB ps && !decide (Cn ps p.1 p.2)
theorem foB_iff : ∀ {ps : List (Nat × Nat)}, foB ps = true ↔ Fo ps
  | [] => by simp [foB, Fo]
  | p :: ps => by rw [foB, Bool.and_eq_true, foB_iff, Bool.not_eq_true', decide_eq_false_iff_not]; rfl
theorem fo_parts : ∀ {ps : List (Nat × Nat)}, BdP n ps → n ≤ partsP n ps + ps.length ∧ (Fo ps ↔ partsP n ps + ps.length = n)
  | [], _ => by rw [partsP_nil]; simp [Fo]
  | p :: ps, hb => by
    obtain ⟨⟨h1, h2⟩, hb'⟩ := hb.cons
    obtain ⟨i1, i2⟩ := fo_parts hb'
    rw [List.length_cons]
    by_cases hc : Cn ps p.1 p.2
    · rw [partsP_in hc]
      refine ⟨by omega, ⟨fun h => absurd hc h.2, fun h => by omega⟩⟩
    · have := partsP_out h1 h2 hc
      refine ⟨by omega, ⟨fun h => ?_, fun h => ⟨i2.2 (by omega), hc⟩⟩⟩
      have := i2.1 h.1; omega
theorem fo_mem (hb : BdP n ps) (hb' : BdP n qs) (hl : ps.length = qs.length) (h : ∀ p, p ∈ ps ↔ p ∈ qs) : Fo ps ↔ Fo qs := by
  rw [(fo_parts hb).2, (fo_parts hb').2, partsP_congr (fun _ _ => cn_same h), hl]
theorem BdP.perm (h : BdP n ps) (hp : ps.Perm qs) : BdP n qs := fun p hq => h p (hp.mem_iff.2 hq)
theorem fo_perm (hb : BdP n ps) (hp : ps.Perm qs) : Fo ps ↔ Fo qs := fo_mem hb (hb.perm hp) hp.length_eq fun _ => hp.mem_iff
theorem Fo.sub (h : Fo ps) (hs : qs.Sublist ps) : Fo qs := by
  induction hs with
  | slnil => exact h
  | cons p _ ih => exact ih h.1
  | cons_cons p hs ih => exact ⟨ih h.1, fun hc => h.2 (hc.mono fun q hq => hs.subset hq)⟩
/-- Any two of: no cycle; one part; as many pairs as vertices but one. -/
theorem tree_of_fo (hb : BdP n ps) (h : Fo ps) : partsP n ps = 1 ↔ ps.length + 1 = n := by
  have := (fo_parts hb).2.1 h; omega
theorem tree_of_len (hb : BdP n ps) (hl : ps.length + 1 = n) : partsP n ps = 1 ↔ Fo ps := by
  rw [(fo_parts hb).2]; omega
end
end Go.Proofs.YtplgbapbgcipdaaGreat

