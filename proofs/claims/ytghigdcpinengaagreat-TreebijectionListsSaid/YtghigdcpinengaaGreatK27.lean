/-
  Texts of this claim, put together: GridW, Pile, Pile2, PileP.
-/
import Derived.Test.YtghigdcpinengaaGreatK03
import Derived.Test.YtghigdcpinengaaGreatK10
import Derived.Test.YtghigdcpinengaaGreatK11
import Derived.Test.YtghigdcpinengaaGreatK04
import Derived.Deep.RegionHeld3
/-! Tables: slices of slices of ints whose rows lie in blocks of their own. -/
namespace Go.Proofs.YtghigdcpinengaaGreat
open Go.RowKit

/-- A table of rows of n ints, each in a block of its own. -/
structure Grid (w : World) (base : Nat) (A : Option Addr) (c n : Nat) (gs : List Nat) (rows : List (List Int)) : Prop where
  outer : w.ownsRow base 25 1 (.slice A gs.length c) gs.length (gs.map fun g => .slice (some ⟨g, 0, none⟩) n n)
  len : rows.length = gs.length
  row : ∀ (i g : Nat) (r : List Int), gs[i]? = some g → rows[i]? = some r → Blk w g 3 (intCells r) ∧ r.length = n ∧ base ≤ g
  nodup : gs.Nodup

section
variable {w w' : World} {base : Nat} {A : Option Addr} {c n : Nat} {gs : List Nat} {rows : List (List Int)}
theorem Grid.nil_ (w : World) (base n : Nat) : Grid w base none 0 n [] [] := ⟨World.ownsRow_nil _ _ _ _, rfl, by simp, by simp⟩
theorem Grid.at_ (h : Grid w base A c n gs rows) {i : Nat} (hi : i < rows.length) : ∃ g r, gs[i]? = some g ∧ rows[i]? = some r ∧ Blk w g 3 (intCells r) ∧ r.length = n ∧ base ≤ g := by
  obtain ⟨r, hr⟩ := get_of_lt hi
  obtain ⟨g, hg⟩ := get_of_lt (xs := gs) (k := i) (by have := h.len; omega)
  obtain ⟨h1, h2, h3⟩ := h.row i g r hg hr
  exact ⟨g, r, hg, hr, h1, h2, h3⟩
theorem Grid.cell (h : Grid w base A c n gs rows) {i g : Nat} (hg : gs[i]? = some g) : ∃ b off, A = some ⟨b, off, none⟩ ∧ w.cell? ⟨b, off + i, none⟩ = some (.slice (some ⟨g, 0, none⟩) n n) := by
  obtain ⟨b, off, hA, _, hc⟩ := (Reads.of_own h.outer).at_ (k := i) (u := .slice (some ⟨g, 0, none⟩) n n) (by simp [hg])
  exact ⟨b, off, hA, hc⟩
theorem Grid.blk (h : Grid w base A c n gs rows) {g : Nat} (hg : g ∈ gs) : ∃ cs, Blk w g 3 cs ∧ base ≤ g := by
  obtain ⟨i, hi⟩ := List.getElem?_of_mem hg
  obtain ⟨r, hr⟩ := get_of_lt (xs := rows) (k := i) (by have := (List.getElem?_eq_some_iff.1 hi).1; have := h.len; omega)
  obtain ⟨h1, _, h3⟩ := h.row i g r hi hr
  exact ⟨_, h1, h3⟩
theorem Grid.kept (h : Grid w base A c n gs rows) (hA : ∀ k, blockOf A k → w'.heap[k]? = w.heap[k]?) (hg : ∀ g, g ∈ gs → w'.heap[g]? = w.heap[g]?) : Grid w' base A c n gs rows :=
  ⟨own_kept h.outer hA, h.len, fun i g r hi hr => by
    obtain ⟨h1, h2, h3⟩ := h.row i g r hi hr
    exact ⟨(hg g (List.mem_of_getElem? hi)).trans h1, h2, h3⟩, h.nodup⟩
theorem Grid.next (h : Grid w base A c n gs rows) (hb : Below w.heap.size w w') : Grid w' base A c n gs rows :=
  h.kept (fun k hk => hb.block k (own_lt h.outer hk).2) fun g hg => by
    obtain ⟨cs, hc, _⟩ := h.blk hg
    exact hb.block g hc.lt
theorem Grid.mono {base' : Nat} (h : Grid w base A c n gs rows) (hb : base' ≤ base) : Grid w base' A c n gs rows :=
  ⟨own_rebase h.outer fun k hk => Nat.le_trans hb (own_lt h.outer hk).1, h.len, fun i g r hi hr => by
    obtain ⟨h1, h2, h3⟩ := h.row i g r hi hr
    exact ⟨h1, h2, by omega⟩, h.nodup⟩
theorem Grid.drewN (h : Grid w base A c n gs rows) (m : Nat) : Grid (w.drewN m) base A c n gs rows := h.kept (fun _ _ => rfl) fun _ _ => rfl
theorem Grid.far (h : Grid w base A c n gs rows) {g : Nat} {t : TypeId} {cs : Array Value} (hg : Blk w g t cs) (h1 : 25 ≠ t) (h2 : 3 ≠ t) (o : Nat) (u : Value) : Grid (w.setCell ⟨g, o, none⟩ u) base A c n gs rows :=
  h.kept (fun k hk => Below.heap_setCell w ⟨g, o, none⟩ u k (own_blk h.outer hg h1 hk)) fun g' hg' => by
    obtain ⟨cs', hc, _⟩ := h.blk hg'
    exact Below.heap_setCell w ⟨g, o, none⟩ u g' (hc.ne_ hg h2)
/-- A store into a row. -/
theorem Grid.set (h : Grid w base A c n gs rows) {i j g : Nat} {r : List Int} (hi : gs[i]? = some g) (hr : rows[i]? = some r) (x : Int) : Grid (w.setCell ⟨g, j, none⟩ (.int .i64 x)) base A c n gs (rows.set i (r.set j x)) := by
  obtain ⟨h1, h2, h3⟩ := h.row i g r hi hr
  refine ⟨own_kept h.outer fun k hk => Below.heap_setCell w ⟨g, j, none⟩ _ k (own_blk h.outer h1 (by decide) hk), by rw [List.length_set]; exact h.len, fun i' g' r' hi' hr' => ?_, h.nodup⟩
  by_cases he : i' = i
  · subst he
    rw [hi] at hi'; cases hi'
    have hl : i' < rows.length := (List.getElem?_eq_some_iff.1 hr).1
    rw [List.getElem?_set_self hl] at hr'; cases hr'
    exact ⟨by rw [← intCells_set]; exact h1.set_ j _, by simpa using h2, h3⟩
  · rw [List.getElem?_set_ne (fun e => he e.symm)] at hr'
    obtain ⟨k1, k2, k3⟩ := h.row i' g' r' hi' hr'
    have hne : g' ≠ g := by
      rintro rfl
      obtain ⟨l1, e1⟩ := List.getElem?_eq_some_iff.1 hi
      obtain ⟨l2, e2⟩ := List.getElem?_eq_some_iff.1 hi'
      rcases Nat.lt_trichotomy i i' with hl | hl | hl
      · exact List.pairwise_iff_getElem.1 h.nodup i i' l1 l2 hl (e1.trans e2.symm)
      · exact he hl.symm
      · exact List.pairwise_iff_getElem.1 h.nodup i' i l2 l1 hl (e2.trans e1.symm)
    exact ⟨k1.far (by simpa using hne) _, k2, k3⟩
/-- One row more. -/
theorem Grid.push {A' : Option Addr} {c' g : Nat} {r : List Int} (h : Grid w base A c n gs rows) (hg : Blk w g 3 (intCells r)) (hr : r.length = n) (hb : base ≤ g) (hnew : ∀ g' ∈ gs, g' ≠ g)
    (hown : w'.ownsRow base 25 1 (.slice A' (gs.length + 1) c') (gs.length + 1) ((gs.map fun g => .slice (some ⟨g, 0, none⟩) n n) ++ [.slice (some ⟨g, 0, none⟩) n n]))
    (hgr : w.grownBy w' (Value.slice A gs.length c).ownBlock) : Grid w' base A' c' n (gs ++ [g]) (rows ++ [r]) := by
  have keep : ∀ {g' : Nat} {cs : Array Value}, Blk w g' 3 cs → Blk w' g' 3 cs := fun hc => hc.grown hgr (own_blk_ne h.outer hc (by decide))
  refine ⟨by rw [List.map_append, List.length_append]; exact hown, by simp [h.len], fun i g' r' hi hr' => ?_, ?_⟩
  · rcases Nat.lt_trichotomy i gs.length with hlt | rfl | hgt
    · rw [List.getElem?_append_left hlt] at hi
      rw [List.getElem?_append_left (by rw [h.len]; exact hlt)] at hr'
      obtain ⟨k1, k2, k3⟩ := h.row i g' r' hi hr'
      exact ⟨keep k1, k2, k3⟩
    · have e1 : g = g' := by simpa using hi
      have e2 : r = r' := by rw [← h.len] at hr'; simpa using hr'
      subst e1 e2
      exact ⟨keep hg, hr, hb⟩
    · rw [List.getElem?_eq_none (by simp; omega)] at hi; cases hi
  · rw [List.nodup_append]
    exact ⟨h.nodup, by simp, fun a ha b hb' => by rw [List.mem_singleton.1 hb']; exact hnew a ha⟩
theorem Grid.reads (h : Grid w base A c n gs rows) : RowsR w w.heap.size A rows :=
  ⟨gs.map fun g => .slice (some ⟨g, 0, none⟩) n n, by rw [h.len]; exact Reads.of_own h.outer, fun i r hi => by
    obtain ⟨g, hg⟩ := get_of_lt (xs := gs) (k := i) (by have := (List.getElem?_eq_some_iff.1 hi).1; have := h.len; omega)
    obtain ⟨h1, h2, h3⟩ := h.row i g r hg hi
    subst h2
    exact ⟨some ⟨g, 0, none⟩, r.length, by simp [hg], by simp [ints], fun _ => ⟨g, 0, rfl, h1.lt, fun j v hv => by rw [Nat.zero_add, h1.cell j]; simpa [intCells] using hv⟩⟩⟩
end

end Go.Proofs.YtghigdcpinengaaGreat

/-! Package stabilize: what a pile holds; unstable and wait. -/
namespace Go.Proofs.YtghigdcpinengaaGreat
open Go.RowKit

/-- Where the parts of a pile lie. -/
structure PA where
  bd : Nat
  cd : Nat
  bv : Nat
  bf : Nat
  A : Option Addr
  cr : Nat
  gs : List Nat
def pileCells (a : PA) (n : Nat) (q total : Int) (ws : List Bool) : Array Value :=
  (([.slice (some ⟨a.bd, 0, none⟩) n a.cd, .int .i64 q, .slice a.A a.gs.length a.cr, .slice (some ⟨a.bv, 0, none⟩) n n, .slice (some ⟨a.bf, 0, none⟩) n n, .int .i64 total] : List Value) ++ ws.map Value.bool).toArray
theorem pileCells_setW (a : PA) (n : Nat) (q total : Int) (ws : List Bool) (v : Nat) (x : Bool) : (pileCells a n q total ws).setIfInBounds (6 + v) (.bool x) = pileCells a n q total (ws.set v x) := by
  rw [Nat.add_comm]
  simp [pileCells, List.map_set]
/-- The blocks of a pile. -/
def PB (a : PA) (bp k : Nat) : Prop := k = bp ∨ k = a.bd ∨ k = a.bv ∨ k = a.bf ∨ blockOf a.A k ∨ k ∈ a.gs
structure PileW (w : World) (base bp n : Nat) (a : PA) (d : List Int) (q : Int) (rows : List (List Int)) (val fired : List Int) (total : Int) (ws : List Bool) : Prop where
  blk : Blk w bp 151 (pileCells a n q total ws)
  dd : ∃ sl : List Value, Blk w a.bd 3 (ints d ++ sl).toArray
  dl : d.length = n
  vv : Blk w a.bv 3 (intCells val)
  vl : val.length = n
  ff : Blk w a.bf 3 (intCells fired)
  fl : fired.length = n
  grid : Grid w base a.A a.cr n a.gs rows
  wl : ws.length = 12
  lo : base ≤ bp ∧ base ≤ a.bd ∧ base ≤ a.bv ∧ base ≤ a.bf
  ne : a.bd ≠ a.bv ∧ a.bd ≠ a.bf ∧ a.bv ≠ a.bf
  far : ∀ g ∈ a.gs, g ≠ a.bd ∧ g ≠ a.bv ∧ g ≠ a.bf

section
variable {w w' : World} {base bp n : Nat} {a : PA} {d : List Int} {q : Int} {rows : List (List Int)} {val fired : List Int} {total : Int} {ws : List Bool}
theorem PileW.lt (h : PileW w base bp n a d q rows val fired total ws) {k : Nat} (hk : PB a bp k) : base ≤ k ∧ k < w.heap.size := by
  have hl := h.lo
  rcases hk with rfl | rfl | rfl | rfl | hk | hk
  · exact ⟨hl.1, h.blk.lt⟩
  · obtain ⟨sl, hs⟩ := h.dd; exact ⟨hl.2.1, hs.lt⟩
  · exact ⟨hl.2.2.1, h.vv.lt⟩
  · exact ⟨hl.2.2.2, h.ff.lt⟩
  · exact own_lt h.grid.outer hk
  · obtain ⟨cs, hc, hb⟩ := h.grid.blk hk; exact ⟨hb, hc.lt⟩
theorem PileW.kept (h : PileW w base bp n a d q rows val fired total ws) (hk : ∀ k, PB a bp k → w'.heap[k]? = w.heap[k]?) : PileW w' base bp n a d q rows val fired total ws :=
  ⟨(hk _ (.inl rfl)).trans h.blk, by obtain ⟨sl, hs⟩ := h.dd; exact ⟨sl, (hk _ (.inr (.inl rfl))).trans hs⟩, h.dl, (hk _ (.inr (.inr (.inl rfl)))).trans h.vv, h.vl, (hk _ (.inr (.inr (.inr (.inl rfl))))).trans h.ff, h.fl,
    h.grid.kept (fun k hb => hk k (.inr (.inr (.inr (.inr (.inl hb)))))) (fun g hg => hk g (.inr (.inr (.inr (.inr (.inr hg)))))), h.wl, h.lo, h.ne, h.far⟩
theorem PileW.next (h : PileW w base bp n a d q rows val fired total ws) (hb : Below w.heap.size w w') : PileW w' base bp n a d q rows val fired total ws := h.kept fun k hk => hb.block k (h.lt hk).2
theorem PileW.alloc (h : PileW w base bp n a d q rows val fired total ws) (o : Obj) : PileW (w.alloc o) base bp n a d q rows val fired total ws := h.kept fun k hk => Below.heap_alloc w o k (h.lt hk).2
theorem PileW.drewN (h : PileW w base bp n a d q rows val fired total ws) (m : Nat) : PileW (w.drewN m) base bp n a d q rows val fired total ws := h.kept fun _ _ => rfl
theorem PileW.drew (h : PileW w base bp n a d q rows val fired total ws) : PileW w.drew base bp n a d q rows val fired total ws := h.kept fun _ _ => rfl
theorem PileW.only {C : Nat → Prop} (h : PileW w base bp n a d q rows val fired total ws) (ho : Only C w w') (hC : ∀ k, PB a bp k → ¬ C k) : PileW w' base bp n a d q rows val fired total ws := h.kept fun k hk => ho.block k (h.lt hk).2 (hC k hk)
theorem PileW.mono {base' : Nat} (h : PileW w base bp n a d q rows val fired total ws) (hb : base' ≤ base) : PileW w base' bp n a d q rows val fired total ws :=
  ⟨h.blk, h.dd, h.dl, h.vv, h.vl, h.ff, h.fl, h.grid.mono hb, h.wl, by have := h.lo; omega, h.ne, h.far⟩
theorem PileW.c0 (h : PileW w base bp n a d q rows val fired total ws) : w.cell? ⟨bp, 0, none⟩ = some (.slice (some ⟨a.bd, 0, none⟩) n a.cd) := (h.blk.cell 0).trans (by simp [pileCells])
theorem PileW.c1 (h : PileW w base bp n a d q rows val fired total ws) : w.cell? ⟨bp, 1, none⟩ = some (.int .i64 q) := (h.blk.cell 1).trans (by simp [pileCells])
theorem PileW.c2 (h : PileW w base bp n a d q rows val fired total ws) : w.cell? ⟨bp, 2, none⟩ = some (.slice a.A a.gs.length a.cr) := (h.blk.cell 2).trans (by simp [pileCells])
theorem PileW.c3 (h : PileW w base bp n a d q rows val fired total ws) : w.cell? ⟨bp, 3, none⟩ = some (.slice (some ⟨a.bv, 0, none⟩) n n) := (h.blk.cell 3).trans (by simp [pileCells])
theorem PileW.c4 (h : PileW w base bp n a d q rows val fired total ws) : w.cell? ⟨bp, 4, none⟩ = some (.slice (some ⟨a.bf, 0, none⟩) n n) := (h.blk.cell 4).trans (by simp [pileCells])
theorem PileW.c5 (h : PileW w base bp n a d q rows val fired total ws) : w.cell? ⟨bp, 5, none⟩ = some (.int .i64 total) := (h.blk.cell 5).trans (by simp [pileCells])
theorem PileW.cd (h : PileW w base bp n a d q rows val fired total ws) {v : Nat} {x : Int} (hx : d[v]? = some x) : w.cell? ⟨a.bd, v, none⟩ = some (.int .i64 x) := by
  obtain ⟨sl, hs⟩ := h.dd
  have hv := (List.getElem?_eq_some_iff.1 hx).1
  refine (hs.cell v).trans ?_
  rw [List.getElem?_toArray, List.getElem?_append_left (by rw [ints_length]; exact hv), ints_at hx]
theorem PileW.cv (h : PileW w base bp n a d q rows val fired total ws) {v : Nat} {x : Int} (hx : val[v]? = some x) : w.cell? ⟨a.bv, v, none⟩ = some (.int .i64 x) := (h.vv.cell v).trans (intCells_get hx)
theorem PileW.cf (h : PileW w base bp n a d q rows val fired total ws) {v : Nat} {x : Int} (hx : fired[v]? = some x) : w.cell? ⟨a.bf, v, none⟩ = some (.int .i64 x) := (h.ff.cell v).trans (intCells_get hx)
theorem PileW.crow (h : PileW w base bp n a d q rows val fired total ws) {i j g : Nat} {r : List Int} {u : Int} (hg : a.gs[i]? = some g) (hr : rows[i]? = some r) (hu : r[j]? = some u) : w.cell? ⟨g, j, none⟩ = some (.int .i64 u) ∧ w.frozen? ⟨g, j, none⟩ = false := by
  obtain ⟨k1, _, _⟩ := h.grid.row i g r hg hr
  exact ⟨(k1.cell j).trans (intCells_get hu), k1.frozen j⟩
theorem PileW.co {bd cd bv bf bo oo cr : Nat} {gs : List Nat} (h : PileW w base bp n ⟨bd, cd, bv, bf, some ⟨bo, oo, none⟩, cr, gs⟩ d q rows val fired total ws) {i g : Nat} (hg : gs[i]? = some g) : w.cell? ⟨bo, oo + i, none⟩ = some (.slice (some ⟨g, 0, none⟩) n n) := by
  obtain ⟨b, off, e, hc⟩ := h.grid.cell hg
  injection e with e
  injection e with e1 e2
  subst e1 e2
  exact hc
private theorem PileW.neT (h : PileW w base bp n a d q rows val fired total ws) : a.bd ≠ bp ∧ a.bv ≠ bp ∧ a.bf ≠ bp ∧ (∀ k, blockOf a.A k → k ≠ bp ∧ k ≠ a.bd ∧ k ≠ a.bv ∧ k ≠ a.bf ∧ k ∉ a.gs) ∧ ∀ g ∈ a.gs, g ≠ bp := by
  obtain ⟨sl, hs⟩ := h.dd
  have t : 3 ≠ 151 := by decide
  refine ⟨hs.ne_ h.blk t, h.vv.ne_ h.blk t, h.ff.ne_ h.blk t, fun k hk => ⟨own_blk h.grid.outer h.blk (by decide) hk, own_blk h.grid.outer hs (by decide) hk, own_blk h.grid.outer h.vv (by decide) hk, own_blk h.grid.outer h.ff (by decide) hk, fun hg => ?_⟩, fun g hg => ?_⟩
  · obtain ⟨cs, hc, _⟩ := h.grid.blk hg
    exact own_blk h.grid.outer hc (by decide) hk rfl
  · obtain ⟨cs, hc, _⟩ := h.grid.blk hg
    exact hc.ne_ h.blk t
theorem PileW.setW (h : PileW w base bp n a d q rows val fired total ws) (v : Nat) (x : Bool) : PileW (w.setCell ⟨bp, 6 + v, none⟩ (.bool x)) base bp n a d q rows val fired total (ws.set v x) := by
  obtain ⟨n1, n2, n3, n4, n5⟩ := h.neT
  obtain ⟨sl, hs⟩ := h.dd
  refine ⟨by rw [← pileCells_setW]; exact h.blk.set_ _ _, ⟨sl, hs.far n1 _⟩, h.dl, h.vv.far n2 _, h.vl, h.ff.far n3 _, h.fl, h.grid.kept (fun k hk => Below.heap_setCell w ⟨bp, 6 + v, none⟩ _ k (n4 k hk).1) (fun g hg => Below.heap_setCell w ⟨bp, 6 + v, none⟩ _ g (n5 g hg)), by simpa using h.wl, h.lo, h.ne, h.far⟩
theorem PileW.setV (h : PileW w base bp n a d q rows val fired total ws) (v : Nat) (x : Int) : PileW (w.setCell ⟨a.bv, v, none⟩ (.int .i64 x)) base bp n a d q rows (val.set v x) fired total ws := by
  obtain ⟨n1, n2, n3, n4, n5⟩ := h.neT
  obtain ⟨sl, hs⟩ := h.dd
  exact ⟨h.blk.far (fun e => n2 e.symm) _, ⟨sl, hs.far h.ne.1 _⟩, h.dl, by rw [← intCells_set]; exact h.vv.set_ _ _, by simpa using h.vl, h.ff.far (fun e => h.ne.2.2 e.symm) _, h.fl, h.grid.kept (fun k hk => Below.heap_setCell w ⟨a.bv, v, none⟩ _ k (n4 k hk).2.2.1) (fun g hg => Below.heap_setCell w ⟨a.bv, v, none⟩ _ g (h.far g hg).2.1), h.wl, h.lo, h.ne, h.far⟩
theorem PileW.setR (h : PileW w base bp n a d q rows val fired total ws) {i j g : Nat} {r : List Int} (hi : a.gs[i]? = some g) (hr : rows[i]? = some r) (x : Int) : PileW (w.setCell ⟨g, j, none⟩ (.int .i64 x)) base bp n a d q (rows.set i (r.set j x)) val fired total ws := by
  obtain ⟨n1, n2, n3, n4, n5⟩ := h.neT
  obtain ⟨sl, hs⟩ := h.dd
  have hg := List.mem_of_getElem? hi
  exact ⟨h.blk.far (fun e => n5 g hg e.symm) _, ⟨sl, hs.far (fun e => (h.far g hg).1 e.symm) _⟩, h.dl, h.vv.far (fun e => (h.far g hg).2.1 e.symm) _, h.vl, h.ff.far (fun e => (h.far g hg).2.2 e.symm) _, h.fl, h.grid.set hi hr x, h.wl, h.lo, h.ne, h.far⟩
/-- One row more. -/
theorem PileW.push {w0 w2 : World} {base bp n bd cd bv bf : Nat} {A A2 : Option Addr} {cr c2 : Nat} {gs : List Nat} {d : List Int} {q : Int} {rows : List (List Int)} {val fired : List Int} {total : Int} {ws : List Bool} {gN : Nat} {r : List Int}
    (h : PileW w0 base bp n ⟨bd, cd, bv, bf, A, cr, gs⟩ d q rows val fired total ws) (hg : Blk w0 gN 3 (intCells r)) (hr : r.length = n) (hb : base ≤ gN) (hnew : ∀ k, PB ⟨bd, cd, bv, bf, A, cr, gs⟩ bp k → k ≠ gN)
    (hown : w2.ownsRow base 25 1 (.slice A2 (gs.length + 1) c2) (gs.length + 1) ((gs.map fun g => .slice (some ⟨g, 0, none⟩) n n) ++ [.slice (some ⟨gN, 0, none⟩) n n]))
    (hgr : w0.grownBy w2 (Value.slice A gs.length cr).ownBlock) : PileW (w2.setCell ⟨bp, 2, none⟩ (.slice A2 (gs.length + 1) c2)) base bp n ⟨bd, cd, bv, bf, A2, c2, gs ++ [gN]⟩ d q (rows ++ [r]) val fired total ws := by
  have G := h.grid.push hg hr hb (fun g' hg' => hnew g' (.inr (.inr (.inr (.inr (.inr hg')))))) hown hgr
  have ho := h.grid.outer
  obtain ⟨sl, hs⟩ := h.dd
  dsimp only at hs ho
  have B1 := h.blk.grown hgr (own_blk_ne ho h.blk (by decide))
  have B2 := hs.grown hgr (own_blk_ne ho hs (by decide))
  have B3 := h.vv.grown hgr (own_blk_ne ho h.vv (by decide))
  have B4 := h.ff.grown hgr (own_blk_ne ho h.ff (by decide))
  have t : 3 ≠ 151 := by decide
  refine ⟨?_, ⟨sl, B2.far (B2.ne_ B1 t) _⟩, h.dl, B3.far (B3.ne_ B1 t) _, h.vl, B4.far (B4.ne_ B1 t) _, h.fl, G.far B1 (by decide) t 2 _, h.wl, h.lo, h.ne, ?_⟩
  · have := B1.set_ 2 (.slice A2 (gs.length + 1) c2)
    have e : (pileCells ⟨bd, cd, bv, bf, A, cr, gs⟩ n q total ws).setIfInBounds 2 (.slice A2 (gs.length + 1) c2) = pileCells ⟨bd, cd, bv, bf, A2, c2, gs ++ [gN]⟩ n q total ws := by simp [pileCells]
    rwa [e] at this
  · intro g hg'
    rcases List.mem_append.1 hg' with hg' | hg'
    · exact h.far g hg'
    · rw [List.mem_singleton.1 hg']
      exact ⟨(hnew _ (.inr (.inl rfl))).symm, (hnew _ (.inr (.inr (.inl rfl)))).symm, (hnew _ (.inr (.inr (.inr (.inl rfl))))).symm⟩
end

/-- Is a vertex unstable? -/
def unst (q : Int) (d val : List Int) (v : Nat) : Bool := decide ((v : Int) ≠ q) && decide (val.getD v 0 ≤ d.getD v 0)
set_option maxHeartbeats 2000000 in
theorem unstable_any (base bp n : Nat) (a : PA) (d : List Int) (q : Int) (rows : List (List Int)) (val fired : List Int) (total : Int) (ws : List Bool) (v : Nat) (hv : v < n) (w : World) (h : PileW w base bp n a d q rows val fired total ws) :
    Calls Tryz.prog 152 #[.pointer (some ⟨bp, 0, none⟩), .int .i64 v] w fun e w' => e = .returned (.bool (unst q d val v)) ∧ ∃ m, w' = w.drewN m := by
  obtain ⟨x, hx⟩ := get_of_lt (xs := d) (k := v) (by have := h.dl; omega)
  obtain ⟨y, hy⟩ := get_of_lt (xs := val) (k := v) (by have := h.vl; omega)
  have k0 := h.c0
  have k1 := h.c1
  have k3 := h.c3
  have kd := h.cd hx
  have kv := h.cv hy
  unfold unst
  rw [getD_at hx, getD_at hy]
  have hi : (v : Int) < (n : Int) := by omega
  clear h hx hy
  by_cases hq : (v : Int) = q
  · have e1 : ((v : Int) != q) = false := by simp [hq]
    have e2 : decide ((v : Int) ≠ q) = false := by simp [hq]
    rw [e2]
    clear hq e2
    go_enter Tryz.func152, Tryz.ntmps152
    go_wp2
    go_quiet (fail)
    go_wp2
    go_ret
    exact ⟨rfl, ⟨_, rfl⟩⟩
  · have e1 : ((v : Int) != q) = true := by simp [hq]
    have e2 : decide ((v : Int) ≠ q) = true := by simp [hq]
    rw [e2]
    clear hq e2
    go_enter Tryz.func152, Tryz.ntmps152
    go_wp2
    go_quiet (fail)
    go_wp2
    go_ret
    exact ⟨by simp, ⟨_, rfl⟩⟩
end Go.Proofs.YtghigdcpinengaaGreat

/-! Package stabilize: wait; pileOf. -/
namespace Go.Proofs.YtghigdcpinengaaGreat
open Go.RowKit

set_option maxHeartbeats 2000000 in
theorem wait_any (base bp n : Nat) (hn : n ≤ 12) (a : PA) (d : List Int) (q : Int) (rows : List (List Int)) (val fired : List Int) (total : Int) (ws : List Bool) (v : Nat) (hv : v < n) (w : World) (h : PileW w base bp n a d q rows val fired total ws) :
    Calls Tryz.prog 132 #[.pointer (some ⟨bp, 0, none⟩), .int .i64 v] w fun e w' => (∃ v, e = .returned v) ∧ PileW w' base bp n a d q rows val fired total (ws.set v (unst q d val v)) ∧ Only (fun k => k = bp) w w' := by
  have HU := Lib.hid (fun m => unstable_any base bp n a d q rows val fired total ws v hv _ (h.drewN m))
  have HP := Lib.hid h
  obtain ⟨b0, hb0⟩ := get_of_lt (xs := ws) (k := v) (by have := h.wl; omega)
  have hfz := h.blk.frozen (6 + v)
  have hce : w.cell? ⟨bp, 6 + v, none⟩ = some (.bool b0) := (h.blk.cell (6 + v)).trans (by rw [Nat.add_comm]; simp [pileCells, hb0])
  have hi : (v : Int) < 12 := by omega
  clear h
  go_enter Tryz.func132, Tryz.ntmps132
  go_wp2
  go_region_with (go_at_call 152; refine (HU.out 1).mono ?_; rintro e w1 ⟨rfl, m, rfl⟩)
  all_goals
    go_wp2
    exact bodyPost_end (results_none rfl _ _ _) rfl ⟨⟨_, rfl⟩, (HP.out.drewN _).setW v _, ((Only.refl (fun k => k = bp) w).drewN _).setCell (p := ⟨bp, 6 + v, none⟩) (.inl rfl) _⟩
end Go.Proofs.YtghigdcpinengaaGreat

/-! What pileOf lays down: the table of single edges, the valences, the unstable vertices. -/
namespace Go.Proofs.YtghigdcpinengaaGreat
open Go.RowKit

def incE (xs : List Int) (i : Nat) : List Int := xs.set i (xs.getD i 0 + 1)
def incR (rows : List (List Int)) (a b : Nat) : List (List Int) := rows.set a (incE (rows.getD a []) b)
def edgeR (rows : List (List Int)) (p : Nat × Nat) : List (List Int) := if p.1 = p.2 then rows else incR (incR rows p.1 p.2) p.2 p.1
def edgeV (val : List Int) (p : Nat × Nat) : List Int := if p.1 = p.2 then val else incE (incE val p.1) p.2
def rowsL (n : Nat) (ps : List (Nat × Nat)) : List (List Int) := ps.foldl edgeR (List.replicate n (List.replicate n 0))
def valL (n : Nat) (ps : List (Nat × Nat)) : List Int := ps.foldl edgeV (List.replicate n 0)
def waitL (k : Nat) (q : Int) (d val : List Int) : List Bool := (List.range 12).map fun v => decide (v < k) && unst q d val v
theorem rowsL_snoc (n : Nat) {ps : List (Nat × Nat)} {k : Nat} {p : Nat × Nat} (h : ps[k]? = some p) : rowsL n (ps.take (k + 1)) = edgeR (rowsL n (ps.take k)) p := by rw [take_snoc h]; simp [rowsL]
theorem valL_snoc (n : Nat) {ps : List (Nat × Nat)} {k : Nat} {p : Nat × Nat} (h : ps[k]? = some p) : valL n (ps.take (k + 1)) = edgeV (valL n (ps.take k)) p := by rw [take_snoc h]; simp [valL]
theorem incE_length (xs : List Int) (i : Nat) : (incE xs i).length = xs.length := by simp [incE]
/-- Bounds of a table. -/
def TabBd (n : Nat) (K : Int) (rows : List (List Int)) : Prop := rows.length = n ∧ ∀ r ∈ rows, r.length = n ∧ ∀ x ∈ r, 0 ≤ x ∧ x ≤ K
def ValBd (n : Nat) (K : Int) (val : List Int) : Prop := val.length = n ∧ ∀ x ∈ val, 0 ≤ x ∧ x ≤ K
theorem ValBd.inc {n : Nat} {K : Int} {xs : List Int} (h : ValBd n K xs) (hK : 0 ≤ K) (i : Nat) : ValBd n (K + 1) (incE xs i) := by
  refine ⟨by rw [incE_length]; exact h.1, fun x hx => ?_⟩
  unfold incE at hx
  rcases List.mem_or_eq_of_mem_set hx with hx | rfl
  · have := h.2 x hx; omega
  · by_cases hi : i < xs.length
    · rw [List.getD_eq_getElem?_getD, List.getElem?_eq_getElem hi, Option.getD_some]
      have := h.2 _ (List.getElem_mem hi); omega
    · rw [List.getD_eq_getElem?_getD, List.getElem?_eq_none (by omega), Option.getD_none]; omega
theorem TabBd.inc {n : Nat} {K : Int} {rows : List (List Int)} (h : TabBd n K rows) (hK : 0 ≤ K) {a : Nat} (ha : a < n) (b : Nat) : TabBd n (K + 1) (incR rows a b) := by
  refine ⟨by unfold incR; rw [List.length_set]; exact h.1, fun r hr => ?_⟩
  unfold incR at hr
  rcases List.mem_or_eq_of_mem_set hr with hr | rfl
  · have := h.2 r hr
    exact ⟨this.1, fun x hx => by have := this.2 x hx; omega⟩
  · have hi : a < rows.length := by rw [h.1]; exact ha
    rw [List.getD_eq_getElem?_getD, List.getElem?_eq_getElem hi, Option.getD_some]
    exact ValBd.inc (h.2 _ (List.getElem_mem hi)) hK b
theorem edgeV_bd {n : Nat} {K : Int} {xs : List Int} (h : ValBd n K xs) (hK : 0 ≤ K) (p : Nat × Nat) : ValBd n (K + 2) (edgeV xs p) := by
  unfold edgeV
  split
  · exact ⟨h.1, fun x hx => by have := h.2 x hx; omega⟩
  · have := (h.inc hK p.1).inc (by omega) p.2
    exact ⟨this.1, fun x hx => by have := this.2 x hx; omega⟩
theorem edgeR_bd {n : Nat} {K : Int} {rows : List (List Int)} (h : TabBd n K rows) (hK : 0 ≤ K) {p : Nat × Nat} (h1 : p.1 < n) (h2 : p.2 < n) : TabBd n (K + 2) (edgeR rows p) := by
  unfold edgeR
  split
  · exact ⟨h.1, fun r hr => ⟨(h.2 r hr).1, fun x hx => by have := (h.2 r hr).2 x hx; omega⟩⟩
  · have := (h.inc hK h1 p.2).inc (by omega) h2 p.1
    exact ⟨this.1, fun r hr => ⟨(this.2 r hr).1, fun x hx => by have := (this.2 r hr).2 x hx; omega⟩⟩
theorem rep_bd (n : Nat) : ValBd n 0 (List.replicate n 0) := ⟨by simp, fun x hx => by rw [(List.mem_replicate.1 hx).2]; omega⟩
theorem valL_bd (n : Nat) (ps : List (Nat × Nat)) : ValBd n (2 * ps.length) (valL n ps) := by
  suffices h : ∀ (ps : List (Nat × Nat)) (K : Int) (xs : List Int), 0 ≤ K → ValBd n K xs → ValBd n (K + 2 * ps.length) (ps.foldl edgeV xs) by
    have := h ps 0 _ (Int.le_refl _) (rep_bd n)
    rwa [Int.zero_add] at this
  intro ps
  induction ps with
  | nil => intro K xs hK h; simpa using h
  | cons p ps ih =>
    intro K xs hK h
    have := ih (K + 2) _ (by omega) (edgeV_bd h hK p)
    rw [List.foldl_cons, List.length_cons]
    rwa [show K + 2 + 2 * (ps.length : Int) = K + 2 * ((ps.length + 1 : Nat) : Int) by omega] at this
theorem rowsL_bd (n : Nat) (ps : List (Nat × Nat)) (hp : ∀ p ∈ ps, p.1 < n ∧ p.2 < n) : TabBd n (2 * ps.length) (rowsL n ps) := by
  suffices h : ∀ (ps : List (Nat × Nat)) (K : Int) (xs : List (List Int)), (∀ p ∈ ps, p.1 < n ∧ p.2 < n) → 0 ≤ K → TabBd n K xs → TabBd n (K + 2 * ps.length) (ps.foldl edgeR xs) by
    have := h ps 0 (List.replicate n (List.replicate n 0)) hp (Int.le_refl _) ⟨by simp, fun r hr => by rw [(List.mem_replicate.1 hr).2]; exact rep_bd n⟩
    rwa [Int.zero_add] at this
  intro ps
  induction ps with
  | nil => intro K xs _ hK h; simpa using h
  | cons p ps ih =>
    intro K xs hp hK h
    have := ih (K + 2) _ (fun x hx => hp x (List.mem_cons_of_mem _ hx)) (by omega) (edgeR_bd h hK (hp p (List.mem_cons_self ..)).1 (hp p (List.mem_cons_self ..)).2)
    rw [List.foldl_cons, List.length_cons]
    rwa [show K + 2 + 2 * (ps.length : Int) = K + 2 * ((ps.length + 1 : Nat) : Int) by omega] at this
theorem endsL_ok {n : Nat} {es : List E3} (hok : ∀ e ∈ es, okE n e) : ∀ p ∈ endsL es, p.1 < n ∧ p.2 < n := by
  intro p hp
  unfold endsL at hp
  rw [List.mem_flatMap] at hp
  obtain ⟨e, he, hp⟩ := hp
  have h := hok e he
  unfold okE at h
  rw [(List.mem_replicate.1 hp).2]
  dsimp only
  omega
theorem waitL_succ (k : Nat) (hk : k < 12) (q : Int) (d val : List Int) : (waitL k q d val).set k (unst q d val k) = waitL (k + 1) q d val := by
  apply List.ext_getElem?
  intro i
  unfold waitL
  by_cases hi : i = k
  · subst hi
    rw [List.getElem?_set_self (by simp; exact hk)]
    simp [hk]
  · rw [List.getElem?_set_ne (fun e => hi e.symm), List.getElem?_map, List.getElem?_map]
    by_cases h12 : i < 12
    · rw [List.getElem?_range h12]
      simp only [Option.map_some]
      rw [show decide (i < k) = decide (i < k + 1) by rw [decide_eq_decide]; omega]
    · rw [List.getElem?_eq_none (by simp; omega)]; rfl
theorem waitL_zero (q : Int) (d val : List Int) : waitL 0 q d val = List.replicate 12 false := by
  unfold waitL
  simp [List.range_succ]
end Go.Proofs.YtghigdcpinengaaGreat

