/-
  Texts of this claim, put together: Pile, REnds, RBurn.
-/
import Derived.Test.YtplgbapbgcipdaaGreatK12
import Derived.Test.YtplgbapbgcipdaaGreatK09
import Derived.Test.YtplgbapbgcipdaaGreatK13
import Derived.Test.YtplgbapbgcipdaaGreatK10
import Derived.Deep.RegionLaw
import Derived.Test.YtplgbapbgcipdaaGreatK05
import Derived.Test.YtplgbapbgcipdaaGreatK08
import Derived.StillTailTactics
import Derived.Deep.QuietTactic
import Derived.BigQuiet
import Derived.Deep.RegionWith
/-! Package stabilize: what a pile holds; unstable and wait. -/
namespace Go.Proofs.YtplgbapbgcipdaaGreat
open Go.RowKit

/-- Where the parts of a pile lie. -/
structure PA where
  bd : Nat
  cd : Nat
  bv : Nat
  bf : Nat
  A : Option Addr
  cr : Nat
  gs : List Nat
def pileCells (a : PA) (n : Nat) (q total : Int) (ws : List Bool) : Array Value :=
  (([.slice (some ⟨a.bd, 0, none⟩) n a.cd, .int .i64 q, .slice a.A a.gs.length a.cr, .slice (some ⟨a.bv, 0, none⟩) n n, .slice (some ⟨a.bf, 0, none⟩) n n, .int .i64 total] : List Value) ++ ws.map Value.bool).toArray
theorem pileCells_setW (a : PA) (n : Nat) (q total : Int) (ws : List Bool) (v : Nat) (x : Bool) : (pileCells a n q total ws).setIfInBounds (6 + v) (.bool x) = pileCells a n q total (ws.set v x) := by
  rw [Nat.add_comm]
  simp [pileCells, List.map_set]
theorem pileCells_setT (a : PA) (n : Nat) (q total : Int) (ws : List Bool) (x : Int) : (pileCells a n q total ws).setIfInBounds 5 (.int .i64 x) = pileCells a n q x ws := by simp [pileCells]
/-- The blocks of a pile. -/
def PB (a : PA) (bp k : Nat) : Prop := k = bp ∨ k = a.bd ∨ k = a.bv ∨ k = a.bf ∨ blockOf a.A k ∨ k ∈ a.gs
structure PileW (w : World) (base bp n : Nat) (a : PA) (d : List Int) (q : Int) (rows : List (List Int)) (val fired : List Int) (total : Int) (ws : List Bool) : Prop where
  blk : Blk w bp 110 (pileCells a n q total ws)
  dd : ∃ sl : List Value, Blk w a.bd 3 (ints d ++ sl).toArray
  dl : d.length = n
  vv : Blk w a.bv 3 (intCells val)
  vl : val.length = n
  ff : Blk w a.bf 3 (intCells fired)
  fl : fired.length = n
  grid : Grid w base a.A a.cr n a.gs rows
  wl : ws.length = 12
  lo : base ≤ bp ∧ base ≤ a.bd ∧ base ≤ a.bv ∧ base ≤ a.bf
  ne : a.bd ≠ a.bv ∧ a.bd ≠ a.bf ∧ a.bv ≠ a.bf
  far : ∀ g ∈ a.gs, g ≠ a.bd ∧ g ≠ a.bv ∧ g ≠ a.bf

section
variable {w w' : World} {base bp n : Nat} {a : PA} {d : List Int} {q : Int} {rows : List (List Int)} {val fired : List Int} {total : Int} {ws : List Bool}
theorem PileW.lt (h : PileW w base bp n a d q rows val fired total ws) {k : Nat} (hk : PB a bp k) : base ≤ k ∧ k < w.heap.size := by
  have hl := h.lo
  rcases hk with rfl | rfl | rfl | rfl | hk | hk
  · exact ⟨hl.1, h.blk.lt⟩
  · obtain ⟨sl, hs⟩ := h.dd; exact ⟨hl.2.1, hs.lt⟩
  · exact ⟨hl.2.2.1, h.vv.lt⟩
  · exact ⟨hl.2.2.2, h.ff.lt⟩
  · exact own_lt h.grid.outer hk
  · obtain ⟨cs, hc, hb⟩ := h.grid.blk hk; exact ⟨hb, hc.lt⟩
theorem PileW.kept (h : PileW w base bp n a d q rows val fired total ws) (hk : ∀ k, PB a bp k → w'.heap[k]? = w.heap[k]?) : PileW w' base bp n a d q rows val fired total ws :=
  ⟨(hk _ (.inl rfl)).trans h.blk, by obtain ⟨sl, hs⟩ := h.dd; exact ⟨sl, (hk _ (.inr (.inl rfl))).trans hs⟩, h.dl, (hk _ (.inr (.inr (.inl rfl)))).trans h.vv, h.vl, (hk _ (.inr (.inr (.inr (.inl rfl))))).trans h.ff, h.fl,
    h.grid.kept (fun k hb => hk k (.inr (.inr (.inr (.inr (.inl hb)))))) (fun g hg => hk g (.inr (.inr (.inr (.inr (.inr hg)))))), h.wl, h.lo, h.ne, h.far⟩
theorem PileW.next (h : PileW w base bp n a d q rows val fired total ws) (hb : Below w.heap.size w w') : PileW w' base bp n a d q rows val fired total ws := h.kept fun k hk => hb.block k (h.lt hk).2
theorem PileW.alloc (h : PileW w base bp n a d q rows val fired total ws) (o : Obj) : PileW (w.alloc o) base bp n a d q rows val fired total ws := h.kept fun k hk => Below.heap_alloc w o k (h.lt hk).2
theorem PileW.drewN (h : PileW w base bp n a d q rows val fired total ws) (m : Nat) : PileW (w.drewN m) base bp n a d q rows val fired total ws := h.kept fun _ _ => rfl
theorem PileW.drew (h : PileW w base bp n a d q rows val fired total ws) : PileW w.drew base bp n a d q rows val fired total ws := h.kept fun _ _ => rfl
theorem PileW.only {C : Nat → Prop} (h : PileW w base bp n a d q rows val fired total ws) (ho : Only C w w') (hC : ∀ k, PB a bp k → ¬ C k) : PileW w' base bp n a d q rows val fired total ws := h.kept fun k hk => ho.block k (h.lt hk).2 (hC k hk)
theorem PileW.mono {base' : Nat} (h : PileW w base bp n a d q rows val fired total ws) (hb : base' ≤ base) : PileW w base' bp n a d q rows val fired total ws :=
  ⟨h.blk, h.dd, h.dl, h.vv, h.vl, h.ff, h.fl, h.grid.mono hb, h.wl, by have := h.lo; omega, h.ne, h.far⟩
theorem PileW.c0 (h : PileW w base bp n a d q rows val fired total ws) : w.cell? ⟨bp, 0, none⟩ = some (.slice (some ⟨a.bd, 0, none⟩) n a.cd) := (h.blk.cell 0).trans (by simp [pileCells])
theorem PileW.c1 (h : PileW w base bp n a d q rows val fired total ws) : w.cell? ⟨bp, 1, none⟩ = some (.int .i64 q) := (h.blk.cell 1).trans (by simp [pileCells])
theorem PileW.c2 (h : PileW w base bp n a d q rows val fired total ws) : w.cell? ⟨bp, 2, none⟩ = some (.slice a.A a.gs.length a.cr) := (h.blk.cell 2).trans (by simp [pileCells])
theorem PileW.c3 (h : PileW w base bp n a d q rows val fired total ws) : w.cell? ⟨bp, 3, none⟩ = some (.slice (some ⟨a.bv, 0, none⟩) n n) := (h.blk.cell 3).trans (by simp [pileCells])
theorem PileW.c4 (h : PileW w base bp n a d q rows val fired total ws) : w.cell? ⟨bp, 4, none⟩ = some (.slice (some ⟨a.bf, 0, none⟩) n n) := (h.blk.cell 4).trans (by simp [pileCells])
theorem PileW.c5 (h : PileW w base bp n a d q rows val fired total ws) : w.cell? ⟨bp, 5, none⟩ = some (.int .i64 total) := (h.blk.cell 5).trans (by simp [pileCells])
theorem PileW.cd (h : PileW w base bp n a d q rows val fired total ws) {v : Nat} {x : Int} (hx : d[v]? = some x) : w.cell? ⟨a.bd, v, none⟩ = some (.int .i64 x) := by
  obtain ⟨sl, hs⟩ := h.dd
  have hv := (List.getElem?_eq_some_iff.1 hx).1
  refine (hs.cell v).trans ?_
  rw [List.getElem?_toArray, List.getElem?_append_left (by rw [ints_length]; exact hv), ints_at hx]
theorem PileW.cv (h : PileW w base bp n a d q rows val fired total ws) {v : Nat} {x : Int} (hx : val[v]? = some x) : w.cell? ⟨a.bv, v, none⟩ = some (.int .i64 x) := (h.vv.cell v).trans (intCells_get hx)
theorem PileW.cf (h : PileW w base bp n a d q rows val fired total ws) {v : Nat} {x : Int} (hx : fired[v]? = some x) : w.cell? ⟨a.bf, v, none⟩ = some (.int .i64 x) := (h.ff.cell v).trans (intCells_get hx)
theorem PileW.fd (h : PileW w base bp n a d q rows val fired total ws) (v : Nat) : w.frozen? ⟨a.bd, v, none⟩ = false := by obtain ⟨sl, hs⟩ := h.dd; exact hs.frozen v
theorem PileW.crow (h : PileW w base bp n a d q rows val fired total ws) {i j g : Nat} {r : List Int} {u : Int} (hg : a.gs[i]? = some g) (hr : rows[i]? = some r) (hu : r[j]? = some u) : w.cell? ⟨g, j, none⟩ = some (.int .i64 u) ∧ w.frozen? ⟨g, j, none⟩ = false := by
  obtain ⟨k1, _, _⟩ := h.grid.row i g r hg hr
  exact ⟨(k1.cell j).trans (intCells_get hu), k1.frozen j⟩
theorem PileW.co {bd cd bv bf bo oo cr : Nat} {gs : List Nat} (h : PileW w base bp n ⟨bd, cd, bv, bf, some ⟨bo, oo, none⟩, cr, gs⟩ d q rows val fired total ws) {i g : Nat} (hg : gs[i]? = some g) : w.cell? ⟨bo, oo + i, none⟩ = some (.slice (some ⟨g, 0, none⟩) n n) := by
  obtain ⟨b, off, e, hc⟩ := h.grid.cell hg
  injection e with e
  injection e with e1 e2
  subst e1 e2
  exact hc
private theorem PileW.neT (h : PileW w base bp n a d q rows val fired total ws) : a.bd ≠ bp ∧ a.bv ≠ bp ∧ a.bf ≠ bp ∧ (∀ k, blockOf a.A k → k ≠ bp ∧ k ≠ a.bd ∧ k ≠ a.bv ∧ k ≠ a.bf ∧ k ∉ a.gs) ∧ ∀ g ∈ a.gs, g ≠ bp := by
  obtain ⟨sl, hs⟩ := h.dd
  have t : 3 ≠ 110 := by decide
  refine ⟨hs.ne_ h.blk t, h.vv.ne_ h.blk t, h.ff.ne_ h.blk t, fun k hk => ⟨own_blk h.grid.outer h.blk (by decide) hk, own_blk h.grid.outer hs (by decide) hk, own_blk h.grid.outer h.vv (by decide) hk, own_blk h.grid.outer h.ff (by decide) hk, fun hg => ?_⟩, fun g hg => ?_⟩
  · obtain ⟨cs, hc, _⟩ := h.grid.blk hg
    exact own_blk h.grid.outer hc (by decide) hk rfl
  · obtain ⟨cs, hc, _⟩ := h.grid.blk hg
    exact hc.ne_ h.blk t
theorem PileW.setW (h : PileW w base bp n a d q rows val fired total ws) (v : Nat) (x : Bool) : PileW (w.setCell ⟨bp, 6 + v, none⟩ (.bool x)) base bp n a d q rows val fired total (ws.set v x) := by
  obtain ⟨n1, n2, n3, n4, n5⟩ := h.neT
  obtain ⟨sl, hs⟩ := h.dd
  refine ⟨by rw [← pileCells_setW]; exact h.blk.set_ _ _, ⟨sl, hs.far n1 _⟩, h.dl, h.vv.far n2 _, h.vl, h.ff.far n3 _, h.fl, h.grid.kept (fun k hk => Below.heap_setCell w ⟨bp, 6 + v, none⟩ _ k (n4 k hk).1) (fun g hg => Below.heap_setCell w ⟨bp, 6 + v, none⟩ _ g (n5 g hg)), by simpa using h.wl, h.lo, h.ne, h.far⟩
theorem PileW.setT (h : PileW w base bp n a d q rows val fired total ws) (x : Int) : PileW (w.setCell ⟨bp, 5, none⟩ (.int .i64 x)) base bp n a d q rows val fired x ws := by
  obtain ⟨n1, n2, n3, n4, n5⟩ := h.neT
  obtain ⟨sl, hs⟩ := h.dd
  refine ⟨by rw [← pileCells_setT a n q total]; exact h.blk.set_ _ _, ⟨sl, hs.far n1 _⟩, h.dl, h.vv.far n2 _, h.vl, h.ff.far n3 _, h.fl, h.grid.kept (fun k hk => Below.heap_setCell w ⟨bp, 5, none⟩ _ k (n4 k hk).1) (fun g hg => Below.heap_setCell w ⟨bp, 5, none⟩ _ g (n5 g hg)), h.wl, h.lo, h.ne, h.far⟩
theorem PileW.setD (h : PileW w base bp n a d q rows val fired total ws) {v : Nat} (hv : v < n) (x : Int) : PileW (w.setCell ⟨a.bd, v, none⟩ (.int .i64 x)) base bp n a (d.set v x) q rows val fired total ws := by
  obtain ⟨n1, n2, n3, n4, n5⟩ := h.neT
  obtain ⟨sl, hs⟩ := h.dd
  refine ⟨h.blk.far (fun e => n1 e.symm) _, ⟨sl, ?_⟩, by simpa using h.dl, h.vv.far (fun e => h.ne.1 e.symm) _, h.vl, h.ff.far (fun e => h.ne.2.1 e.symm) _, h.fl, h.grid.kept (fun k hk => Below.heap_setCell w ⟨a.bd, v, none⟩ _ k (n4 k hk).2.1) (fun g hg => Below.heap_setCell w ⟨a.bd, v, none⟩ _ g (h.far g hg).1), h.wl, h.lo, h.ne, h.far⟩
  have := hs.set_ v (.int .i64 x)
  rw [List.setIfInBounds_toArray, List.set_append_left _ _ (by rw [ints_length, h.dl]; exact hv)] at this
  rwa [show (ints d).set v (.int .i64 x) = ints (d.set v x) by simp [ints, List.map_set]] at this
theorem PileW.setV (h : PileW w base bp n a d q rows val fired total ws) (v : Nat) (x : Int) : PileW (w.setCell ⟨a.bv, v, none⟩ (.int .i64 x)) base bp n a d q rows (val.set v x) fired total ws := by
  obtain ⟨n1, n2, n3, n4, n5⟩ := h.neT
  obtain ⟨sl, hs⟩ := h.dd
  exact ⟨h.blk.far (fun e => n2 e.symm) _, ⟨sl, hs.far h.ne.1 _⟩, h.dl, by rw [← intCells_set]; exact h.vv.set_ _ _, by simpa using h.vl, h.ff.far (fun e => h.ne.2.2 e.symm) _, h.fl, h.grid.kept (fun k hk => Below.heap_setCell w ⟨a.bv, v, none⟩ _ k (n4 k hk).2.2.1) (fun g hg => Below.heap_setCell w ⟨a.bv, v, none⟩ _ g (h.far g hg).2.1), h.wl, h.lo, h.ne, h.far⟩
theorem PileW.setF (h : PileW w base bp n a d q rows val fired total ws) (v : Nat) (x : Int) : PileW (w.setCell ⟨a.bf, v, none⟩ (.int .i64 x)) base bp n a d q rows val (fired.set v x) total ws := by
  obtain ⟨n1, n2, n3, n4, n5⟩ := h.neT
  obtain ⟨sl, hs⟩ := h.dd
  exact ⟨h.blk.far (fun e => n3 e.symm) _, ⟨sl, hs.far h.ne.2.1 _⟩, h.dl, h.vv.far h.ne.2.2 _, h.vl, by rw [← intCells_set]; exact h.ff.set_ _ _, by simpa using h.fl, h.grid.kept (fun k hk => Below.heap_setCell w ⟨a.bf, v, none⟩ _ k (n4 k hk).2.2.2.1) (fun g hg => Below.heap_setCell w ⟨a.bf, v, none⟩ _ g (h.far g hg).2.2), h.wl, h.lo, h.ne, h.far⟩
theorem PileW.setR (h : PileW w base bp n a d q rows val fired total ws) {i j g : Nat} {r : List Int} (hi : a.gs[i]? = some g) (hr : rows[i]? = some r) (x : Int) : PileW (w.setCell ⟨g, j, none⟩ (.int .i64 x)) base bp n a d q (rows.set i (r.set j x)) val fired total ws := by
  obtain ⟨n1, n2, n3, n4, n5⟩ := h.neT
  obtain ⟨sl, hs⟩ := h.dd
  have hg := List.mem_of_getElem? hi
  exact ⟨h.blk.far (fun e => n5 g hg e.symm) _, ⟨sl, hs.far (fun e => (h.far g hg).1 e.symm) _⟩, h.dl, h.vv.far (fun e => (h.far g hg).2.1 e.symm) _, h.vl, h.ff.far (fun e => (h.far g hg).2.2 e.symm) _, h.fl, h.grid.set hi hr x, h.wl, h.lo, h.ne, h.far⟩
/-- One row more. -/
theorem PileW.push {w0 w2 : World} {base bp n bd cd bv bf : Nat} {A A2 : Option Addr} {cr c2 : Nat} {gs : List Nat} {d : List Int} {q : Int} {rows : List (List Int)} {val fired : List Int} {total : Int} {ws : List Bool} {gN : Nat} {r : List Int}
    (h : PileW w0 base bp n ⟨bd, cd, bv, bf, A, cr, gs⟩ d q rows val fired total ws) (hg : Blk w0 gN 3 (intCells r)) (hr : r.length = n) (hb : base ≤ gN) (hnew : ∀ k, PB ⟨bd, cd, bv, bf, A, cr, gs⟩ bp k → k ≠ gN)
    (hown : w2.ownsRow base 25 1 (.slice A2 (gs.length + 1) c2) (gs.length + 1) ((gs.map fun g => .slice (some ⟨g, 0, none⟩) n n) ++ [.slice (some ⟨gN, 0, none⟩) n n]))
    (hgr : w0.grownBy w2 (Value.slice A gs.length cr).ownBlock) : PileW (w2.setCell ⟨bp, 2, none⟩ (.slice A2 (gs.length + 1) c2)) base bp n ⟨bd, cd, bv, bf, A2, c2, gs ++ [gN]⟩ d q (rows ++ [r]) val fired total ws := by
  have G := h.grid.push hg hr hb (fun g' hg' => hnew g' (.inr (.inr (.inr (.inr (.inr hg')))))) hown hgr
  have ho := h.grid.outer
  obtain ⟨sl, hs⟩ := h.dd
  dsimp only at hs ho
  have B1 := h.blk.grown hgr (own_blk_ne ho h.blk (by decide))
  have B2 := hs.grown hgr (own_blk_ne ho hs (by decide))
  have B3 := h.vv.grown hgr (own_blk_ne ho h.vv (by decide))
  have B4 := h.ff.grown hgr (own_blk_ne ho h.ff (by decide))
  have t : 3 ≠ 110 := by decide
  refine ⟨?_, ⟨sl, B2.far (B2.ne_ B1 t) _⟩, h.dl, B3.far (B3.ne_ B1 t) _, h.vl, B4.far (B4.ne_ B1 t) _, h.fl, G.far B1 (by decide) t 2 _, h.wl, h.lo, h.ne, ?_⟩
  · have := B1.set_ 2 (.slice A2 (gs.length + 1) c2)
    have e : (pileCells ⟨bd, cd, bv, bf, A, cr, gs⟩ n q total ws).setIfInBounds 2 (.slice A2 (gs.length + 1) c2) = pileCells ⟨bd, cd, bv, bf, A2, c2, gs ++ [gN]⟩ n q total ws := by simp [pileCells]
    rwa [e] at this
  · intro g hg'
    rcases List.mem_append.1 hg' with hg' | hg'
    · exact h.far g hg'
    · rw [List.mem_singleton.1 hg']
      exact ⟨(hnew _ (.inr (.inl rfl))).symm, (hnew _ (.inr (.inr (.inl rfl)))).symm, (hnew _ (.inr (.inr (.inr (.inl rfl))))).symm⟩
end

/-- Is a vertex unstable? -/
def unst (q : Int) (d val : List Int) (v : Nat) : Bool := decide ((v : Int) ≠ q) && decide (val.getD v 0 ≤ d.getD v 0)
set_option maxHeartbeats 2000000 in
theorem unstable_any (base bp n : Nat) (a : PA) (d : List Int) (q : Int) (rows : List (List Int)) (val fired : List Int) (total : Int) (ws : List Bool) (v : Nat) (hv : v < n) (w : World) (h : PileW w base bp n a d q rows val fired total ws) :
    Calls Tryz.prog 142 #[.pointer (some ⟨bp, 0, none⟩), .int .i64 v] w fun e w' => e = .returned (.bool (unst q d val v)) ∧ ∃ m, w' = w.drewN m := by
  obtain ⟨x, hx⟩ := get_of_lt (xs := d) (k := v) (by have := h.dl; omega)
  obtain ⟨y, hy⟩ := get_of_lt (xs := val) (k := v) (by have := h.vl; omega)
  have k0 := h.c0
  have k1 := h.c1
  have k3 := h.c3
  have kd := h.cd hx
  have kv := h.cv hy
  unfold unst
  rw [getD_at hx, getD_at hy]
  have hi : (v : Int) < (n : Int) := by omega
  clear h hx hy
  by_cases hq : (v : Int) = q
  · have e1 : ((v : Int) != q) = false := by simp [hq]
    have e2 : decide ((v : Int) ≠ q) = false := by simp [hq]
    rw [e2]
    clear hq e2
    go_enter Tryz.func142, Tryz.ntmps142
    go_wp2
    go_quiet (fail)
    go_wp2
    go_ret
    exact ⟨rfl, ⟨_, rfl⟩⟩
  · have e1 : ((v : Int) != q) = true := by simp [hq]
    have e2 : decide ((v : Int) ≠ q) = true := by simp [hq]
    rw [e2]
    clear hq e2
    go_enter Tryz.func142, Tryz.ntmps142
    go_wp2
    go_quiet (fail)
    go_wp2
    go_ret
    exact ⟨by simp, ⟨_, rfl⟩⟩
end Go.Proofs.YtplgbapbgcipdaaGreat

/-! ref08.Ends and Size: as far as the number of single edges goes; ref08.small and Few. -/
namespace Go.Proofs.YtplgbapbgcipdaaGreat
open Go.RowKit

/-- The number of single edges. -/
def sizeE (es : List E3) : Nat := (es.map fun e => e.2.2.toNat).sum
theorem sizeE_take {es : List E3} {k : Nat} {e : E3} (h : es[k]? = some e) : sizeE (es.take (k + 1)) = sizeE (es.take k) + e.2.2.toNat := by
  rw [take_snoc h]; simp [sizeE]
theorem sizeE_bd {N : Int} {es : List E3} (h : ∀ e ∈ es, okE N e) : sizeE es ≤ 50 * es.length := by
  induction es with
  | nil => simp [sizeE]
  | cons e es ih =>
    have h1 := h e (by simp)
    have h2 := ih fun x hx => h x (by simp [hx])
    unfold okE at h1
    unfold sizeE at *
    simp at *
    omega
theorem info_pair2 : (Tryz.prog.info? 157).map (fun i => (i.zero, i.size, i.bytes)) = some (some (.agg #[.int .i64 0, .int .i64 0]), 2, 16) := by kernel_rfl

set_option maxRecDepth 100000 in
set_option maxHeartbeats 4000000 in
theorem rends_any (n : Int) (A : Option Addr) (c : Nat) (es : List E3) (hn : es.length ≤ 40) (N : Int) (hok : ∀ e ∈ es, okE N e) (w : World) (h : Reads w w.heap.size 3 A es.length (edgeCells es)) :
    Calls Tryz.prog 111 #[.agg #[.int .i64 n, .slice A es.length c]] w fun e w' => ∃ A' c', e = .returned (.slice A' (sizeE es) c') ∧ Below w.heap.size w w' := by
  have HO := Lib.hid hok
  have HSZ : Hid (∀ k, sizeE (es.take k) ≤ 2000) := fun k => Nat.le_trans (sizeE_bd (N := N) fun e he => hok e (List.mem_of_mem_take he)) (by rw [List.length_take]; omega)
  have g0 := Blk.new w 24 #[.int .i64 n, .slice A es.length c]
  clear hok
  go_enter Tryz.func111, Tryz.ntmps111
  go_wp2
  go_loopw [3, 4] (fun s i wr => ∃ (k : Nat) (A' : Option Addr) (c' : Nat) (m : Nat) (vs : List Value), k ≤ es.length ∧ i = .int .i64 k ∧ s = .slice A' m c' ∧ Hid (sizeE (es.take k) = m) ∧ wr.ownsRow w.heap.size 157 2 (.slice A' m c') m vs ∧ Below w.heap.size w wr ∧ Blk wr w.heap.size 24 #[.int .i64 n, .slice A es.length c]) (fun _ i _ => es.length - (intOf i).toNat)
  case atStart => exact ⟨0, none, 0, 0, [], by omega, rfl, rfl, rfl, World.ownsRow_nil _ _ _ _, (Below.refl _ _).alloc (Nat.le_refl _) _, g0⟩
  case round =>
    obtain ⟨k, A', c', m, vs, hk, rfl, rfl, HM, hown, hbel, g1⟩ := hrel
    clear g0
    have c1 := g1.cell 1
    by_cases hlt : k < es.length
    · obtain ⟨⟨x, y, z⟩, hx⟩ := get_of_lt hlt
      have hokx := HO.out _ (List.mem_of_getElem? hx)
      unfold okE at hokx
      dsimp only at hokx
      obtain ⟨zn, rfl⟩ := Int.eq_ofNat_of_zero_le (show 0 ≤ z by omega)
      have hst := sizeE_take hx
      rw [HM.out] at hst
      dsimp only at hst
      rw [Int.toNat_natCast] at hst
      have hmax := HSZ.out (k + 1)
      rw [hst] at hmax
      have HST := Lib.hid hst
      have HX := Lib.hid hx
      have hi : (k : Int) < (es.length : Int) := by omega
      clear hst hx hokx
      go_wp2
      obtain ⟨wo, rfl⟩ : ∃ wo : World, wo = wr := ⟨_, rfl⟩
      go_loopw [3, 5] (fun s i wr => ∃ (j : Nat) (A' : Option Addr) (c' : Nat) (vs : List Value), j ≤ zn ∧ i = .int .i64 j ∧ s = .slice A' (m + j) c' ∧ wr.ownsRow w.heap.size 157 2 (.slice A' (m + j) c') (m + j) vs ∧ Below w.heap.size w wr ∧ Blk wr w.heap.size 24 #[.int .i64 n, .slice A es.length c]) (fun _ i _ => zn - (intOf i).toNat)
      case atStart => exact ⟨0, A', c', vs, by omega, rfl, rfl, hown, hbel, g1⟩
      case round =>
        clear hown hbel g1 c1
        obtain ⟨j, A', c', vs, hj, rfl, rfl, hown, hbel, g1⟩ := hrel
        have hsz := hbel.size
        have c1 := g1.cell 1
        obtain ⟨bb, off, rfl, hbb, q1, q2, q3⟩ := (h.below hbel).edge HX.out
        dsimp only at q1 q2 q3
        by_cases hlt2 : j < zn
        · have hi2 : (j : Int) < (zn : Int) := by omega
          have hownA : (wr.drew.alloc (.cells #[.int .i64 x, .int .i64 y] 157)).ownsRow w.heap.size 157 2 (.slice A' (m + j) c') (m + j) vs := World.ownsRow.alloc (World.ownsRow.drew hown) _
          have hz : w.heap.size ≤ (wr.drew.alloc (.cells #[.int .i64 x, .int .i64 y] 157)).heap.size := by show _ ≤ (wr.alloc _).heap.size; simp; omega
          go_wp2
          go_region_law (refine append_step2 rfl (.tmp 23) (.tmp 37) _ _ rfl w.heap.size 157 157 Tryz.underlying124 Tryz.underlying124 info_pair2 rfl (by omega) A' c' (m + j) vs rfl (by exact hownA) _ [.int .i64 x, .int .i64 y] rfl (by exact Reads.boxN wr.drew #[.int .i64 x, .int .i64 y] 157) (by simp [Value.oneCell']) (by omega) (by exact hz) ?_; intro A3 c3 W3 hown3 hgr3 hb3 _)
          all_goals (
            have g2 : Blk W3 w.heap.size 24 #[.int .i64 n, .slice (some ⟨bb, off, none⟩) es.length c] := Blk.grown (h := (g1.drew.alloc (.cells #[.int .i64 x, .int .i64 y] 157))) hgr3 (own_blk_ne hownA (g1.drew.alloc _) (by decide))
            have hb4 : Below w.heap.size w W3 := (hbel.drew.alloc hsz (.cells #[.int .i64 x, .int .i64 y] 157)).trans hb3
            go_wp2
            go_roundw
            case rel => exact ⟨j + 1, A3, c3, _, by omega, by go_num, rfl, hown3, hb4, g2⟩
            case measure => simp [intOf]; omega)
        · obtain rfl : j = zn := by omega
          go_wp2
          go_roundw
          case rel => exact ⟨k + 1, A', c', m + j, vs, by omega, by go_num, rfl, HST.out, hown, hbel, g1⟩
          case measure => simp [intOf]; omega
    · obtain rfl : k = es.length := by omega
      rw [List.take_length] at HM
      go_wp2
      go_ret
      exact ⟨A', c', by rw [HM.out]; rfl, hbel⟩
set_option maxHeartbeats 1000000 in
theorem rsize_any (n : Int) (A : Option Addr) (c : Nat) (es : List E3) (hn : es.length ≤ 40) (N : Int) (hok : ∀ e ∈ es, okE N e) (w : World) (h : Reads w w.heap.size 3 A es.length (edgeCells es)) :
    Calls Tryz.prog 75 #[.agg #[.int .i64 n, .slice A es.length c]] w fun e w' => e = .returned (.int .i64 (sizeE es : Nat)) ∧ Below w.heap.size w w' := by
  have EC := Lib.hid (rends_any n A c es hn N hok)
  go_enter Tryz.func75, Tryz.ntmps75
  go_wp2_with fail
  refine (EC.out _ ((h.alloc (Nat.le_refl _) _).more (by simp))).mono ?_
  rintro e w1 ⟨A1, c1, rfl, hb1⟩
  have hbel1 : Below w.heap.size w w1 := ((Below.refl _ _).alloc (Nat.le_refl _) _).trans (hb1.mono (by simp))
  go_wp2
  go_ret
  exact ⟨rfl, hbel1⟩

/-- Few vertices and single edges, or an error. -/
def smallB (n : Int) (es : List E3) (a b : Int) : Bool := if 40 < es.length then false else if checkG n es ≠ 0 then true else decide (n ≤ a) && decide ((sizeE es : Int) ≤ b)
set_option maxRecDepth 100000 in
set_option maxHeartbeats 1000000 in
theorem rsmall_any (n : Int) (A : Option Addr) (c : Nat) (es : List E3) (a b : Int) (w : World) (h : Reads w w.heap.size 3 A es.length (edgeCells es)) :
    Calls Tryz.prog 44 #[.agg #[.int .i64 n, .slice A es.length c], .int .i64 a, .int .i64 b] w fun e w' => e = .returned (.bool (smallB n es a b)) ∧ Below w.heap.size w w' := by
  have g0 := Blk.new w 24 #[.int .i64 n, .slice A es.length c]
  by_cases h1 : 40 < es.length
  · have hd : smallB n es a b = false := by unfold smallB; rw [if_pos h1]
    rw [hd]
    have hi : (40 : Int) < (es.length : Int) := by omega
    go_enter Tryz.func44, Tryz.ntmps44
    go_wp2
    go_ret
    exact ⟨rfl, (Below.refl _ _).alloc (Nat.le_refl _) _⟩
  have hi : ¬ (40 : Int) < (es.length : Int) := by omega
  have GC := rgcheck_any n A c es (by omega)
  by_cases h2 : checkG n es = 0
  · have hd : smallB n es a b = (decide (n ≤ a) && decide ((sizeE es : Int) ≤ b)) := by unfold smallB; rw [if_neg h1, if_neg (fun hc => hc h2)]
    rw [hd]
    rw [h2] at GC
    have hG := right_of h2
    have SC := Lib.hid (rsize_any n A c es (by omega) n hG.ok)
    have GC := Lib.hid GC
    clear h2 hd hG
    by_cases h3 : n ≤ a
    · have hd3 : decide (n ≤ a) = true := decide_eq_true h3
      go_enter Tryz.func44, Tryz.ntmps44
      go_wp2_with fail
      refine (GC.out _ ((h.alloc (Nat.le_refl _) _).more (by simp))).mono ?_
      rintro e w1 ⟨rfl, hb1⟩
      have hbel1 : Below w.heap.size w w1 := ((Below.refl _ _).alloc (Nat.le_refl _) _).trans (hb1.mono (by simp))
      have g1 := g0.next hb1
      have c0 := g1.cell 0
      have c1 := g1.cell 1
      go_wp2_with fail
      refine (SC.out _ ((h.below hbel1).more hbel1.size)).mono ?_
      rintro e w2 ⟨rfl, hb2⟩
      go_wp2
      go_ret
      exact ⟨ret_bool (by simp [h3]), hbel1.trans (hb2.mono hbel1.size)⟩
    · have hd3 : decide (n ≤ a) = false := decide_eq_false h3
      go_enter Tryz.func44, Tryz.ntmps44
      go_wp2_with fail
      refine (GC.out _ ((h.alloc (Nat.le_refl _) _).more (by simp))).mono ?_
      rintro e w1 ⟨rfl, hb1⟩
      have hbel1 : Below w.heap.size w w1 := ((Below.refl _ _).alloc (Nat.le_refl _) _).trans (hb1.mono (by simp))
      have g1 := g0.next hb1
      have c0 := g1.cell 0
      have c1 := g1.cell 1
      go_wp2
      go_ret
      exact ⟨ret_bool (by rw [hd3]; rfl), hbel1⟩
  · have hd : smallB n es a b = true := by unfold smallB; rw [if_neg h1, if_pos h2]
    rw [hd]
    obtain ⟨q, hq⟩ : ∃ q, checkG n es = q := ⟨_, rfl⟩
    rw [hq] at GC h2
    have hb : (q != 0) = true := by simpa using h2
    have GC := Lib.hid GC
    clear h2 hd hq
    go_enter Tryz.func44, Tryz.ntmps44
    go_wp2_with fail
    refine (GC.out _ ((h.alloc (Nat.le_refl _) _).more (by simp))).mono ?_
    rintro e w1 ⟨rfl, hb1⟩
    have hbel1 : Below w.heap.size w w1 := ((Below.refl _ _).alloc (Nat.le_refl _) _).trans (hb1.mono (by simp))
    go_wp2
    go_ret
    exact ⟨rfl, hbel1⟩
end Go.Proofs.YtplgbapbgcipdaaGreat

/-! The reference's fire: ref08.Holds, ref23.Joins, ref23.ready, ref23.Burnt, ref23.Unburnt. -/
namespace Go.Proofs.YtplgbapbgcipdaaGreat
open Go.RowKit

end Go.Proofs.YtplgbapbgcipdaaGreat

