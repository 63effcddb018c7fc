/-
 Texts of this claim, put together: Pile, Reach, RBurn, Legal, RankQ, FewT.
-/
import Derived.Test.YtnbikkcalcpedaaGreatDoorK14
import Derived.Test.YtnbikkcalcpedaaGreatDoorK10
import Derived.Test.YtnbikkcalcpedaaGreatDoorK15
import Derived.Test.YtnbikkcalcpedaaGreatDoorK01
import Derived.Test.YtnbikkcalcpedaaGreatDoorK13
import Derived.Test.YtnbikkcalcpedaaGreatDoorK12
import Derived.Test.YtnbikkcalcpedaaGreatDoorK04
import Derived.Test.YtnbikkcalcpedaaGreatDoorK08
import Derived.StillTailTactics
import Derived.Deep.QuietTactic
import Derived.BigQuiet
import Derived.Deep.RegionWith
import Derived.Test.YtnbikkcalcpedaaGreatDoorK05
import Derived.BigRegion
import Derived.Test.YtnbikkcalcpedaaGreatDoorK16
set_option maxRecDepth 100000
set_option maxHeartbeats 4000000
namespace Go.Proofs.YtnbikkcalcpedaaGreatDoor
open Go.RowKit
structure PA where
 bd : Nat
 cd : Nat
 bv : Nat
 bf : Nat
 A : Option Addr
 cr : Nat
 gs : List Nat
def pileCells (a : PA) (n : Nat) (q total : Int) (ws : List Bool) : Array Value :=
 (([.slice (some ⟨a.bd, 0, none⟩) n a.cd, .int .i64 q, .slice a.A a.gs.length a.cr, .slice (some ⟨a.bv, 0, none⟩) n n, .slice (some ⟨a.bf, 0, none⟩) n n, .int .i64 total] : List Value) ++ ws.map Value.bool).toArray
theorem pileCells_setW (a : PA) (n : Nat) (q total : Int) (ws : List Bool) (v : Nat) (x : Bool) : (pileCells a n q total ws).setIfInBounds (6 + v) (.bool x) = pileCells a n q total (ws.set v x) := by
 rw [Nat.add_comm]
 simp [pileCells, List.map_set]
def PB (a : PA) (bp k : Nat) : Prop := k = bp ∨ k = a.bd ∨ k = a.bv ∨ k = a.bf ∨ blockOf a.A k ∨ k ∈ a.gs
structure PileW (w : World) (base bp n : Nat) (a : PA) (d : List Int) (q : Int) (rows : List (List Int)) (val fired : List Int) (total : Int) (ws : List Bool) : Prop where
 blk : Blk w bp 255 (pileCells a n q total ws)
 dd : ∃ sl : List Value, Blk w a.bd 3 (ints d ++ sl).toArray
 dl : d.length = n
 vv : Blk w a.bv 3 (intCells val)
 vl : val.length = n
 ff : Blk w a.bf 3 (intCells fired)
 fl : fired.length = n
 grid : Grid w base a.A a.cr n a.gs rows
 wl : ws.length = 12
 lo : base ≤ bp ∧ base ≤ a.bd ∧ base ≤ a.bv ∧ base ≤ a.bf
 ne : a.bd ≠ a.bv ∧ a.bd ≠ a.bf ∧ a.bv ≠ a.bf
 far : ∀ g ∈ a.gs, g ≠ a.bd ∧ g ≠ a.bv ∧ g ≠ a.bf
section
variable {w w' : World} {base bp n : Nat} {a : PA} {d : List Int} {q : Int} {rows : List (List Int)} {val fired : List Int} {total : Int} {ws : List Bool}
theorem PileW.lt (h : PileW w base bp n a d q rows val fired total ws) {k : Nat} (hk : PB a bp k) : base ≤ k ∧ k < w.heap.size := by
 have hl := h.lo
 rcases hk with rfl | rfl | rfl | rfl | hk | hk
 ·exact ⟨hl.1, h.blk.lt⟩
 ·obtain ⟨sl, hs⟩ := h.dd; exact ⟨hl.2.1, hs.lt⟩
 ·exact ⟨hl.2.2.1, h.vv.lt⟩
 ·exact ⟨hl.2.2.2, h.ff.lt⟩
 ·exact own_lt h.grid.outer hk
 ·obtain ⟨cs, hc, hb⟩ := h.grid.blk hk; exact ⟨hb, hc.lt⟩
theorem PileW.kept (h : PileW w base bp n a d q rows val fired total ws) (hk : ∀ k, PB a bp k → w'.heap[k]? = w.heap[k]?) : PileW w' base bp n a d q rows val fired total ws :=
 ⟨(hk _ (.inl rfl)).trans h.blk, by obtain ⟨sl, hs⟩ := h.dd; exact ⟨sl, (hk _ (.inr (.inl rfl))).trans hs⟩, h.dl, (hk _ (.inr (.inr (.inl rfl)))).trans h.vv, h.vl, (hk _ (.inr (.inr (.inr (.inl rfl))))).trans h.ff, h.fl,
   h.grid.kept (fun k hb => hk k (.inr (.inr (.inr (.inr (.inl hb)))))) (fun g hg => hk g (.inr (.inr (.inr (.inr (.inr hg)))))), h.wl, h.lo, h.ne, h.far⟩
theorem PileW.next (h : PileW w base bp n a d q rows val fired total ws) (hb : Below w.heap.size w w') : PileW w' base bp n a d q rows val fired total ws := h.kept fun k hk => hb.block k (h.lt hk).2
theorem PileW.alloc (h : PileW w base bp n a d q rows val fired total ws) (o : Obj) : PileW (w.alloc o) base bp n a d q rows val fired total ws := h.kept fun k hk => Below.heap_alloc w o k (h.lt hk).2
theorem PileW.drewN (h : PileW w base bp n a d q rows val fired total ws) (m : Nat) : PileW (w.drewN m) base bp n a d q rows val fired total ws := h.kept fun _ _ => rfl
theorem PileW.drew (h : PileW w base bp n a d q rows val fired total ws) : PileW w.drew base bp n a d q rows val fired total ws := h.kept fun _ _ => rfl
theorem PileW.only {C : Nat → Prop} (h : PileW w base bp n a d q rows val fired total ws) (ho : Only C w w') (hC : ∀ k, PB a bp k → ¬ C k) : PileW w' base bp n a d q rows val fired total ws := h.kept fun k hk => ho.block k (h.lt hk).2 (hC k hk)
theorem PileW.mono {base' : Nat} (h : PileW w base bp n a d q rows val fired total ws) (hb : base' ≤ base) : PileW w base' bp n a d q rows val fired total ws :=
 ⟨h.blk, h.dd, h.dl, h.vv, h.vl, h.ff, h.fl, h.grid.mono hb, h.wl, by have := h.lo; omega, h.ne, h.far⟩
theorem PileW.c0 (h : PileW w base bp n a d q rows val fired total ws) : w.cell? ⟨bp, 0, none⟩ = some (.slice (some ⟨a.bd, 0, none⟩) n a.cd) := (h.blk.cell 0).trans (by simp [pileCells])
theorem PileW.c1 (h : PileW w base bp n a d q rows val fired total ws) : w.cell? ⟨bp, 1, none⟩ = some (.int .i64 q) := (h.blk.cell 1).trans (by simp [pileCells])
theorem PileW.c2 (h : PileW w base bp n a d q rows val fired total ws) : w.cell? ⟨bp, 2, none⟩ = some (.slice a.A a.gs.length a.cr) := (h.blk.cell 2).trans (by simp [pileCells])
theorem PileW.c3 (h : PileW w base bp n a d q rows val fired total ws) : w.cell? ⟨bp, 3, none⟩ = some (.slice (some ⟨a.bv, 0, none⟩) n n) := (h.blk.cell 3).trans (by simp [pileCells])
theorem PileW.c4 (h : PileW w base bp n a d q rows val fired total ws) : w.cell? ⟨bp, 4, none⟩ = some (.slice (some ⟨a.bf, 0, none⟩) n n) := (h.blk.cell 4).trans (by simp [pileCells])
theorem PileW.c5 (h : PileW w base bp n a d q rows val fired total ws) : w.cell? ⟨bp, 5, none⟩ = some (.int .i64 total) := (h.blk.cell 5).trans (by simp [pileCells])
theorem PileW.cd (h : PileW w base bp n a d q rows val fired total ws) {v : Nat} {x : Int} (hx : d[v]? = some x) : w.cell? ⟨a.bd, v, none⟩ = some (.int .i64 x) := by
 obtain ⟨sl, hs⟩ := h.dd
 have hv := (List.getElem?_eq_some_iff.1 hx).1
 refine (hs.cell v).trans ?_
 rw [List.getElem?_toArray, List.getElem?_append_left (by rw [ints_length]; exact hv), ints_at hx]
theorem PileW.cv (h : PileW w base bp n a d q rows val fired total ws) {v : Nat} {x : Int} (hx : val[v]? = some x) : w.cell? ⟨a.bv, v, none⟩ = some (.int .i64 x) := (h.vv.cell v).trans (intCells_get hx)
theorem PileW.cf (h : PileW w base bp n a d q rows val fired total ws) {v : Nat} {x : Int} (hx : fired[v]? = some x) : w.cell? ⟨a.bf, v, none⟩ = some (.int .i64 x) := (h.ff.cell v).trans (intCells_get hx)
theorem PileW.crow (h : PileW w base bp n a d q rows val fired total ws) {i j g : Nat} {r : List Int} {u : Int} (hg : a.gs[i]? = some g) (hr : rows[i]? = some r) (hu : r[j]? = some u) : w.cell? ⟨g, j, none⟩ = some (.int .i64 u) ∧ w.frozen? ⟨g, j, none⟩ = false := by
 obtain ⟨k1, _, _⟩ := h.grid.row i g r hg hr
 exact ⟨(k1.cell j).trans (intCells_get hu), k1.frozen j⟩
theorem PileW.co {bd cd bv bf bo oo cr : Nat} {gs : List Nat} (h : PileW w base bp n ⟨bd, cd, bv, bf, some ⟨bo, oo, none⟩, cr, gs⟩ d q rows val fired total ws) {i g : Nat} (hg : gs[i]? = some g) : w.cell? ⟨bo, oo + i, none⟩ = some (.slice (some ⟨g, 0, none⟩) n n) := by
 obtain ⟨b, off, e, hc⟩ := h.grid.cell hg
 injection e with e
 injection e with e1 e2
 subst e1 e2
 exact hc
private theorem PileW.neT (h : PileW w base bp n a d q rows val fired total ws) : a.bd ≠ bp ∧ a.bv ≠ bp ∧ a.bf ≠ bp ∧ (∀ k, blockOf a.A k → k ≠ bp ∧ k ≠ a.bd ∧ k ≠ a.bv ∧ k ≠ a.bf ∧ k ∉ a.gs) ∧ ∀ g ∈ a.gs, g ≠ bp := by
 obtain ⟨sl, hs⟩ := h.dd
 have t : 3 ≠ 255 := by decide
 refine ⟨hs.ne_ h.blk t, h.vv.ne_ h.blk t, h.ff.ne_ h.blk t, fun k hk => ⟨own_blk h.grid.outer h.blk (by decide) hk, own_blk h.grid.outer hs (by decide) hk, own_blk h.grid.outer h.vv (by decide) hk, own_blk h.grid.outer h.ff (by decide) hk, fun hg => ?_⟩, fun g hg => ?_⟩
 ·obtain ⟨cs, hc, _⟩ := h.grid.blk hg
  exact own_blk h.grid.outer hc (by decide) hk rfl
 ·obtain ⟨cs, hc, _⟩ := h.grid.blk hg
  exact hc.ne_ h.blk t
theorem PileW.setW (h : PileW w base bp n a d q rows val fired total ws) (v : Nat) (x : Bool) : PileW (w.setCell ⟨bp, 6 + v, none⟩ (.bool x)) base bp n a d q rows val fired total (ws.set v x) := by
 obtain ⟨n1, n2, n3, n4, n5⟩ := h.neT
 obtain ⟨sl, hs⟩ := h.dd
 refine ⟨by rw [← pileCells_setW]; exact h.blk.set_ _ _, ⟨sl, hs.far n1 _⟩, h.dl, h.vv.far n2 _, h.vl, h.ff.far n3 _, h.fl, h.grid.kept (fun k hk => Below.heap_setCell w ⟨bp, 6 + v, none⟩ _ k (n4 k hk).1) (fun g hg => Below.heap_setCell w ⟨bp, 6 + v, none⟩ _ g (n5 g hg)), by simpa using h.wl, h.lo, h.ne, h.far⟩
theorem PileW.setV (h : PileW w base bp n a d q rows val fired total ws) (v : Nat) (x : Int) : PileW (w.setCell ⟨a.bv, v, none⟩ (.int .i64 x)) base bp n a d q rows (val.set v x) fired total ws := by
 obtain ⟨n1, n2, n3, n4, n5⟩ := h.neT
 obtain ⟨sl, hs⟩ := h.dd
 exact ⟨h.blk.far (fun e => n2 e.symm) _, ⟨sl, hs.far h.ne.1 _⟩, h.dl, by rw [← intCells_set]; exact h.vv.set_ _ _, by simpa using h.vl, h.ff.far (fun e => h.ne.2.2 e.symm) _, h.fl, h.grid.kept (fun k hk => Below.heap_setCell w ⟨a.bv, v, none⟩ _ k (n4 k hk).2.2.1) (fun g hg => Below.heap_setCell w ⟨a.bv, v, none⟩ _ g (h.far g hg).2.1), h.wl, h.lo, h.ne, h.far⟩
theorem PileW.setR (h : PileW w base bp n a d q rows val fired total ws) {i j g : Nat} {r : List Int} (hi : a.gs[i]? = some g) (hr : rows[i]? = some r) (x : Int) : PileW (w.setCell ⟨g, j, none⟩ (.int .i64 x)) base bp n a d q (rows.set i (r.set j x)) val fired total ws := by
 obtain ⟨n1, n2, n3, n4, n5⟩ := h.neT
 obtain ⟨sl, hs⟩ := h.dd
 have hg := List.mem_of_getElem? hi
 exact ⟨h.blk.far (fun e => n5 g hg e.symm) _, ⟨sl, hs.far (fun e => (h.far g hg).1 e.symm) _⟩, h.dl, h.vv.far (fun e => (h.far g hg).2.1 e.symm) _, h.vl, h.ff.far (fun e => (h.far g hg).2.2 e.symm) _, h.fl, h.grid.set hi hr x, h.wl, h.lo, h.ne, h.far⟩
theorem PileW.push {w0 w2 : World} {base bp n bd cd bv bf : Nat} {A A2 : Option Addr} {cr c2 : Nat} {gs : List Nat} {d : List Int} {q : Int} {rows : List (List Int)} {val fired : List Int} {total : Int} {ws : List Bool} {gN : Nat} {r : List Int}
  (h : PileW w0 base bp n ⟨bd, cd, bv, bf, A, cr, gs⟩ d q rows val fired total ws) (hg : Blk w0 gN 3 (intCells r)) (hr : r.length = n) (hb : base ≤ gN) (hnew : ∀ k, PB ⟨bd, cd, bv, bf, A, cr, gs⟩ bp k → k ≠ gN)
  (hown : w2.ownsRow base 25 1 (.slice A2 (gs.length + 1) c2) (gs.length + 1) ((gs.map fun g => .slice (some ⟨g, 0, none⟩) n n) ++ [.slice (some ⟨gN, 0, none⟩) n n]))
  (hgr : w0.grownBy w2 (Value.slice A gs.length cr).ownBlock) : PileW (w2.setCell ⟨bp, 2, none⟩ (.slice A2 (gs.length + 1) c2)) base bp n ⟨bd, cd, bv, bf, A2, c2, gs ++ [gN]⟩ d q (rows ++ [r]) val fired total ws := by
 have G := h.grid.push hg hr hb (fun g' hg' => hnew g' (.inr (.inr (.inr (.inr (.inr hg')))))) hown hgr
 have ho := h.grid.outer
 obtain ⟨sl, hs⟩ := h.dd
 dsimp only at hs ho
 have B1 := h.blk.grown hgr (own_blk_ne ho h.blk (by decide))
 have B2 := hs.grown hgr (own_blk_ne ho hs (by decide))
 have B3 := h.vv.grown hgr (own_blk_ne ho h.vv (by decide))
 have B4 := h.ff.grown hgr (own_blk_ne ho h.ff (by decide))
 have t : 3 ≠ 255 := by decide
 refine ⟨?_, ⟨sl, B2.far (B2.ne_ B1 t) _⟩, h.dl, B3.far (B3.ne_ B1 t) _, h.vl, B4.far (B4.ne_ B1 t) _, h.fl, G.far B1 (by decide) t 2 _, h.wl, h.lo, h.ne, ?_⟩
 ·have := B1.set_ 2 (.slice A2 (gs.length + 1) c2)
  have e : (pileCells ⟨bd, cd, bv, bf, A, cr, gs⟩ n q total ws).setIfInBounds 2 (.slice A2 (gs.length + 1) c2) = pileCells ⟨bd, cd, bv, bf, A2, c2, gs ++ [gN]⟩ n q total ws := by simp [pileCells]
  rwa [e] at this
 ·intro g hg'
  rcases List.mem_append.1 hg' with hg' | hg'
  ·exact h.far g hg'
  ·rw [List.mem_singleton.1 hg']
   exact ⟨(hnew _ (.inr (.inl rfl))).symm, (hnew _ (.inr (.inr (.inl rfl)))).symm, (hnew _ (.inr (.inr (.inr (.inl rfl))))).symm⟩
end
def unst (q : Int) (d val : List Int) (v : Nat) : Bool := decide ((v : Int) ≠ q) && decide (val.getD v 0 ≤ d.getD v 0)
theorem unstable_any (base bp n : Nat) (a : PA) (d : List Int) (q : Int) (rows : List (List Int)) (val fired : List Int) (total : Int) (ws : List Bool) (v : Nat) (hv : v < n) (w : World) (h : PileW w base bp n a d q rows val fired total ws) :
  Calls Tryz.prog 306 #[.pointer (some ⟨bp, 0, none⟩), .int .i64 v] w fun e w' => e = .returned (.bool (unst q d val v)) ∧ ∃ m, w' = w.drewN m := by
 obtain ⟨x, hx⟩ := get_of_lt (xs := d) (k := v) (by have := h.dl; omega)
 obtain ⟨y, hy⟩ := get_of_lt (xs := val) (k := v) (by have := h.vl; omega)
 have k0 := h.c0
 have k1 := h.c1
 have k3 := h.c3
 have kd := h.cd hx
 have kv := h.cv hy
 unfold unst
 rw [getD_at hx, getD_at hy]
 have hi : (v : Int) < (n : Int) := by omega
 clear h hx hy
 by_cases hq : (v : Int) = q
 ·have e1 : ((v : Int) != q) = false := by simp [hq]
  have e2 : decide ((v : Int) ≠ q) = false := by simp [hq]
  rw [e2]
  clear hq e2
  go_enter Tryz.func306, Tryz.ntmps306
  go_wp2
  go_quiet (fail)
  go_wp2
  go_ret
  exact ⟨rfl, ⟨_, rfl⟩⟩
 ·have e1 : ((v : Int) != q) = true := by simp [hq]
  have e2 : decide ((v : Int) ≠ q) = true := by simp [hq]
  rw [e2]
  clear hq e2
  go_enter Tryz.func306, Tryz.ntmps306
  go_wp2
  go_quiet (fail)
  go_wp2
  go_ret
  exact ⟨by simp, ⟨_, rfl⟩⟩
end Go.Proofs.YtnbikkcalcpedaaGreatDoor
namespace Go.Proofs.YtnbikkcalcpedaaGreatDoor
open Go.RowKit
theorem bools_getB {o : List Bool} {k : Nat} (h : k < o.length) : (bools o)[k]? = some (.bool (getB o k)) := by
 simp [bools, getB, List.getD_eq_getElem?_getD, List.getElem?_eq_getElem h]
theorem reached_any (n : Nat) (hn12 : n ≤ 12) (A : Option Addr) (c : Nat) (es : List E3) (hn : es.length ≤ 1048576) (v : Nat) (hv : v < n) (w : World) (h : Reads w w.heap.size 3 A es.length (edgeCells es)) :
  Calls Tryz.prog 76 #[.agg #[.int .i64 n, .slice A es.length c], .int .i64 v] w fun e w' => ∃ g, e = .returned (.slice (some ⟨g, 0, none⟩) n n) ∧ Blk w' g 4 (bools (reached es n v)) ∧ w.heap.size ≤ g ∧ Below w.heap.size w w' := by
 have hmk := make_bools n (by omega)
 have hvi : (v : Int) < (n : Int) := by omega
 have hc0 : ((bools (List.replicate n false)))[v]? = some (.bool false) := by rw [bools_getB (by simpa using hv)]; simp [getB, List.getD_eq_getElem?_getD, hv]
 have g0 := (Blk.new w 24 #[.int .i64 n, .slice A es.length c]).alloc (.cells (bools (List.replicate n false)) 4)
 have gs := Blk.new (w.alloc (.cells #[.int .i64 n, .slice A es.length c] 24)) 4 (bools (List.replicate n false))
 rw [show (w.alloc (.cells #[.int .i64 n, .slice A es.length c] 24)).heap.size = w.heap.size + 1 from by simp] at gs
 have q1 := gs.cell v
 rw [hc0] at q1
 have q2 := gs.frozen v
 have HR : Hid (reached es n v = reachR es n ((List.replicate n false).set v true) n) := rfl
 obtain ⟨o0, ho0⟩ : ∃ o0, (List.replicate n false).set v true = o0 := ⟨_, rfl⟩
 have hl0 : o0.length = n := by rw [← ho0]; simp
 have e0 : (bools (List.replicate n false)).setIfInBounds v (.bool true) = bools o0 := by rw [bools_set, ho0]
 have g0' := (Blk.new w 24 #[.int .i64 n, .slice A es.length c]).alloc (.cells ((bools (List.replicate n false)).setIfInBounds v (.bool true)) 4)
 have gs' : Blk ((w.alloc (.cells #[.int .i64 n, .slice A es.length c] 24)).alloc (.cells ((bools (List.replicate n false)).setIfInBounds v (.bool true)) 4)) (w.heap.size + 1) 4 (bools o0) := by
  rw [← e0]
  have := Blk.new (w.alloc (.cells #[.int .i64 n, .slice A es.length c] 24)) 4 ((bools (List.replicate n false)).setIfInBounds v (.bool true))
  rwa [show (w.alloc (.cells #[.int .i64 n, .slice A es.length c] 24)).heap.size = w.heap.size + 1 from by simp] at this
 rw [ho0] at HR
 have HL := Lib.hid hl0
 clear ho0 hl0 hc0 g0 gs e0
 go_enter Tryz.func76, Tryz.ntmps76
 go_wp2
 go_loopw [6] (fun i wr => ∃ k : Nat, k ≤ n ∧ i = .int .i64 k ∧ Below w.heap.size w wr ∧ Blk wr w.heap.size 24 #[.int .i64 n, .slice A es.length c] ∧ Blk wr (w.heap.size + 1) 4 (bools (reachR es n o0 k))) (fun i _ => n - (intOf i).toNat)
 case atStart => exact ⟨0, by omega, rfl, ((Below.refl _ _).alloc (Nat.le_refl _) _).alloc (by simp) _, g0', gs'⟩
 case round =>
  obtain ⟨k, hk, rfl, hbel, g1, g2⟩ := hrel
  clear g0' gs' q1 q2 hmk
  obtain ⟨o1, ho1⟩ : ∃ o1, reachR es n o0 k = o1 := ⟨_, rfl⟩
  have hl1 : o1.length = n := by rw [← ho1, reachR_length, HL.out]
  have HO1 := Lib.hid ho1
  have HL1 := Lib.hid hl1
  rw [ho1] at g2
  clear ho1 hl1
  have c0 := g1.cell 0
  by_cases hlt : k < n
  ·have hi : (k : Int) < (n : Int) := by omega
   go_wp2
   obtain ⟨wo, rfl⟩ : ∃ wo : World, wo = wr := ⟨_, rfl⟩
   clear c0
   go_loopw [7] (fun i wr => ∃ a : Nat, a ≤ n ∧ i = .int .i64 a ∧ Below w.heap.size w wr ∧ Blk wr w.heap.size 24 #[.int .i64 n, .slice A es.length c] ∧ Blk wr (w.heap.size + 1) 4 (bools (reachA es n o1 a))) (fun i _ => n - (intOf i).toNat)
   case atStart => exact ⟨0, by omega, rfl, hbel, g1, g2⟩
   case round =>
    obtain ⟨a, ha, rfl, hbel', g1', g2'⟩ := hrel
    clear hbel g1 g2
    obtain ⟨o2, ho2⟩ : ∃ o2, reachA es n o1 a = o2 := ⟨_, rfl⟩
    have hl2 : o2.length = n := by rw [← ho2, reachA_length, HL1.out]
    have HO2 := Lib.hid ho2
    have HL2 := Lib.hid hl2
    rw [ho2] at g2'
    clear ho2 hl2
    have c0 := g1'.cell 0
    by_cases hlta : a < n
    ·have hi : (a : Int) < (n : Int) := by omega
     go_wp2
     obtain ⟨wo', rfl⟩ : ∃ wo : World, wo = wr := ⟨_, rfl⟩
     clear c0
     go_loopw [8] (fun i wr => ∃ b : Nat, b ≤ n ∧ i = .int .i64 b ∧ Below w.heap.size w wr ∧ Blk wr w.heap.size 24 #[.int .i64 n, .slice A es.length c] ∧ Blk wr (w.heap.size + 1) 4 (bools (reachB es a o2 b))) (fun i _ => n - (intOf i).toNat)
     case atStart => exact ⟨0, by omega, rfl, hbel', g1', g2'⟩
     case round =>
      obtain ⟨b, hb, rfl, hbel, g1, g2⟩ := hrel
      clear hbel' g1' g2'
      have hbs := reachB_succ es a o2 b
      obtain ⟨o3, ho3⟩ : ∃ o3, reachB es a o2 b = o3 := ⟨_, rfl⟩
      have hl3 : o3.length = n := by rw [← ho3, reachB_length, HL2.out]
      rw [ho3] at g2 hbs
      have HO3 := Lib.hid ho3
      clear ho3
      have c0 := g1.cell 0
      have c1 := g1.cell 1
      by_cases hltb : b < n
      ·have hib : (b : Int) < (n : Int) := by omega
       have ca := g2.cell a
       rw [bools_getB (by omega)] at ca
       have cb := g2.cell b
       rw [bools_getB (by omega)] at cb
       have fb := g2.frozen b
       have hsz := hbel.size
       unfold stepB at hbs
       cases hga : getB o3 a
       ·rw [hga] at ca hbs
        rw [if_neg (fun hc => by cases hc.1)] at hbs
        have HBS := Lib.hid hbs
        clear hbs hga cb fb
        go_wp2
        go_roundw
        case rel => exact ⟨b + 1, by omega, by go_num, hbel, g1, by rw [HBS.out]; exact g2⟩
        case measure => simp [intOf]; omega
       ·rw [hga] at ca hbs
        have BC := Lib.hid (between_any n A c es hn a b wr ((h.below hbel).more hsz))
        obtain ⟨q, hq⟩ : ∃ q, btw es a b = q := ⟨_, rfl⟩
        rw [hq] at BC hbs
        clear hq hga
        by_cases hpos : 0 < q
        ·rw [if_pos ⟨rfl, hpos⟩] at hbs
         have HBS := Lib.hid hbs
         clear hbs
         go_wp2_with (go_at_call 104; (with_reducible refine (BC.out).mono ?_); rintro e w' ⟨rfl, hb'⟩
                      have k1 := g1.next hb'
                      have k2 := g2.next hb'
                      have d0 := k2.cell b
                      rw [bools_getB (by omega)] at d0
                      have d1 := k2.frozen b)
         go_roundw
         case rel =>
          refine ⟨b + 1, by omega, by go_num, (hbel.trans (hb'.mono hsz)).setCell (by simp) _, k1.far (by simp) _, ?_⟩
          have := k2.set_ b (.bool true)
          rw [bools_set] at this
          rw [HBS.out]; exact this
         case measure => simp [intOf]; omega
        ·rw [if_neg (fun hc => hpos hc.2)] at hbs
         have HBS := Lib.hid hbs
         clear hbs
         go_wp2_with (go_at_call 104; (with_reducible refine (BC.out).mono ?_); rintro e w' ⟨rfl, hb'⟩)
         go_roundw
         case rel => exact ⟨b + 1, by omega, by go_num, hbel.trans (hb'.mono hsz), g1.next hb', by rw [HBS.out]; exact g2.next hb'⟩
         case measure => simp [intOf]; omega
      ·obtain rfl : b = n := by omega
       clear hbs
       go_wp2
       go_roundw
       case rel => exact ⟨a + 1, by omega, by go_num, hbel, g1, by rw [reachA_succ, HO2.out, HO3.out]; exact g2⟩
       case measure => simp [intOf]; omega
    ·obtain rfl : a = n := by omega
     go_wp2
     go_roundw
     case rel => exact ⟨k + 1, by omega, by go_num, hbel', g1', by rw [reachR_succ, HO1.out, HO2.out]; exact g2'⟩
     case measure => simp [intOf]; omega
  ·obtain rfl : k = n := by omega
   go_wp2
   go_ret
   exact ⟨w.heap.size + 1, rfl, by rw [HR.out, HO1.out]; exact g2, by omega, hbel⟩
theorem rparts_any (n : Nat) (hn12 : n ≤ 12) (A : Option Addr) (c : Nat) (es : List E3) (hn : es.length ≤ 1048576) (w : World) (h : Reads w w.heap.size 3 A es.length (edgeCells es)) :
  Calls Tryz.prog 102 #[.agg #[.int .i64 n, .slice A es.length c]] w fun e w' => e = .returned (.int .i64 ((partsTo es n n).1 : Nat)) ∧ Below w.heap.size w w' := by
 have hmk := make_bools n (by omega)
 have g0 := (Blk.new w 24 #[.int .i64 n, .slice A es.length c]).alloc (.cells (bools (List.replicate n false)) 4)
 have gs := Blk.new (w.alloc (.cells #[.int .i64 n, .slice A es.length c] 24)) 4 (bools (List.replicate n false))
 rw [show (w.alloc (.cells #[.int .i64 n, .slice A es.length c] 24)).heap.size = w.heap.size + 1 from by simp] at gs
 go_enter Tryz.func102, Tryz.ntmps102
 go_wp2
 go_loopw [3, 5] (fun m i wr => ∃ (k x : Nat) (s : List Bool), k ≤ n ∧ i = .int .i64 k ∧ m = .int .i64 x ∧ x ≤ k ∧ Hid (partsTo es n k = (x, s)) ∧ Below w.heap.size w wr ∧ Blk wr w.heap.size 24 #[.int .i64 n, .slice A es.length c] ∧ Blk wr (w.heap.size + 1) 4 (bools s)) (fun _ i _ => n - (intOf i).toNat)
 case atStart => exact ⟨0, 0, _, by omega, rfl, rfl, by omega, rfl, ((Below.refl _ _).alloc (Nat.le_refl _) _).alloc (by simp) _, g0, gs⟩
 case round =>
  obtain ⟨k, x, s, hk, rfl, rfl, hx, HS, hbel, g1, g2⟩ := hrel
  clear g0 gs hmk
  have c0 := g1.cell 0
  have hsl : s.length = n := by have := partsTo_length es n k; rw [HS.out] at this; exact this
  have hps := partsTo_succ es n k
  rw [HS.out] at hps
  have hsz := hbel.size
  have hlt2 := g2.lt
  by_cases hlt : k < n
  ·have hi : (k : Int) < (n : Int) := by omega
   have ck := g2.cell k
   rw [bools_getB (by omega)] at ck
   cases hsk : getB s k
   ·rw [hsk] at ck
    rw [show getB (x, s).2 k = getB s k from rfl, hsk] at hps
    simp only [Bool.false_eq_true, if_false] at hps
    have HP := Lib.hid hps
    have RC := Lib.hid (reached_any n hn12 A c es hn k hlt wr ((h.below hbel).more hsz))
    obtain ⟨r, hr⟩ : ∃ r, reached es n k = r := ⟨_, rfl⟩
    have hrl : r.length = n := by rw [← hr, reached_length]
    rw [hr] at RC HP
    have c1 := g1.cell 1
    have hx1 : (x : Int) + 1 ≤ 100 := by omega
    clear hps hsk hr
    go_wp2_with (go_at_call 76; (with_reducible refine (RC.out).mono ?_); rintro e w' ⟨gr, rfl, kr, hgr, hb'⟩
                 have k1 := g1.next hb'
                 have k2 := g2.next hb'
                 have kB := hbel.trans (hb'.mono hsz)
                 have kc := k1.cell 0)
    obtain ⟨wo, rfl⟩ : ∃ wo : World, wo = w' := ⟨_, rfl⟩
    clear g1 g2 hbel hb' kc c0 ck c1
    have hne : gr ≠ w.heap.size + 1 := by omega
    go_loopw [7] (fun i wr => ∃ u : Nat, u ≤ n ∧ i = .int .i64 u ∧ Below w.heap.size w wr ∧ Blk wr w.heap.size 24 #[.int .i64 n, .slice A es.length c] ∧ Blk wr (w.heap.size + 1) 4 (bools (orTo s r u)) ∧ Blk wr gr 4 (bools r)) (fun i _ => n - (intOf i).toNat)
    case atStart => exact ⟨0, by omega, rfl, kB, k1, k2, kr⟩
    case round =>
     obtain ⟨u, hu, rfl, hbel, g1, g2, g3⟩ := hrel
     clear kB k1 k2 kr
     have hos := orTo_succ s r u
     have hol : (orTo s r u).length = n := by rw [orTo_length, hsl]
     obtain ⟨o, ho⟩ : ∃ o, orTo s r u = o := ⟨_, rfl⟩
     rw [ho] at hos hol g2
     have HO := Lib.hid ho
     clear ho
     have c0 := g1.cell 0
     by_cases hltu : u < n
     ·have hi : (u : Int) < (n : Int) := by omega
      have ca := g2.cell u
      rw [bools_getB (by omega)] at ca
      have cb := g3.cell u
      rw [bools_getB (by omega)] at cb
      have fa := g2.frozen u
      cases ha : getB o u <;> cases hb : getB r u
      all_goals
       rw [ha] at ca hos
       rw [hb] at cb hos
       have HOS := Lib.hid hos
       clear hos ha hb
       go_wp2
       go_roundw
       case rel =>
        refine ⟨u + 1, by omega, by go_num, hbel.setCell (by simp) _, g1.far (by simp) _, ?_, g3.far (by simpa using hne) _⟩
        rw [HOS.out, ← bools_set]
        exact g2.set_ u _
       case measure => simp [intOf]; omega
     ·obtain rfl : u = n := by omega
      clear hos
      go_wp2
      go_roundw
      case rel => exact ⟨k + 1, x + 1, o, by omega, by go_num, by go_num, by omega, by rw [Hid, HP.out, HO.out], hbel, g1, g2⟩
      case measure => simp [intOf]; omega
   ·rw [hsk] at ck
    rw [show getB (x, s).2 k = getB s k from rfl, hsk] at hps
    simp only [if_true] at hps
    have HP := Lib.hid hps
    clear hps hsk
    go_wp2
    go_roundw
    case rel => exact ⟨k + 1, x, s, by omega, by go_num, rfl, by omega, HP.out, hbel, g1, g2⟩
    case measure => simp [intOf]; omega
  ·obtain rfl : k = n := by omega
   clear hps
   go_wp2
   go_ret
   exact ⟨ret_int (by rw [HS.out]), hbel⟩
theorem rconnected_any (n : Nat) (hn12 : n ≤ 12) (A : Option Addr) (c : Nat) (es : List E3) (hn : es.length ≤ 1048576) (w : World) (h : Reads w w.heap.size 3 A es.length (edgeCells es)) :
  Calls Tryz.prog 108 #[.agg #[.int .i64 n, .slice A es.length c]] w fun e w' => e = .returned (.bool (connB n es)) ∧ Below w.heap.size w w' := by
 have PC := Lib.hid (rparts_any n hn12 A c es hn)
 unfold connB
 obtain ⟨q, hq⟩ : ∃ q, (partsTo es n n).1 = q := ⟨_, rfl⟩
 rw [hq] at PC ⊢
 clear hq
 go_enter Tryz.func108, Tryz.ntmps108
 go_wp2_with fail
 refine (PC.out _ ((h.alloc (Nat.le_refl _) _).more (by simp))).mono ?_
 rintro e w1 ⟨rfl, hb1⟩
 have hbel1 : Below w.heap.size w w1 := ((Below.refl _ _).alloc (Nat.le_refl _) _).trans (hb1.mono (by simp))
 go_wp2
 go_ret
 refine ⟨ret_bool ?_, hbel1⟩
 rw [Bool.eq_iff_iff]; simp; omega
def natsI (l : List Nat) : List Int := l.map fun u : Nat => (u : Int)
theorem natsI_length (l : List Nat) : (natsI l).length = l.length := by simp [natsI]
theorem natsI_snoc (l : List Nat) (x : Nat) : natsI (l ++ [x]) = natsI l ++ [(x : Int)] := by simp [natsI]
theorem natsI_mem {l : List Nat} {v : Nat} : ((v : Int) ∈ natsI l) ↔ v ∈ l := by
 unfold natsI; rw [List.mem_map]
 constructor
 ·rintro ⟨u, hu, e⟩; have : u = v := by omega
  exact this ▸ hu
 ·intro h; exact ⟨v, h, rfl⟩
theorem holds_any (A : Option Addr) (c : Nat) (xs : List Int) (hn : xs.length ≤ 1048576) (v : Int) (w : World) (h : Reads w w.heap.size 1 A xs.length (ints xs)) :
  Calls Tryz.prog 51 #[.slice A xs.length c, .int .i64 v] w fun e w' => e = .returned (.bool (decide (v ∈ xs))) ∧ w = w' := by
 obtain ⟨r, hr⟩ : ∃ r, decide (v ∈ xs) = r := ⟨_, rfl⟩
 rw [hr]
 have HR := Lib.hid hr
 clear hr
 go_enter Tryz.func51, Tryz.ntmps51
 go_wp2
 go_loop [5] (fun i => ∃ k : Nat, k ≤ xs.length ∧ i = .int .i64 k ∧ Hid (v ∉ xs.take k)) (fun i => xs.length - (intOf i).toNat)
 case atStart => exact ⟨0, by omega, rfl, by simp [Hid]⟩
 case round =>
  obtain ⟨k, hk, rfl, HS⟩ := hrel
  by_cases hlt : k < xs.length
  ·obtain ⟨x, hx⟩ := get_of_lt hlt
   obtain ⟨b, off, rfl, hb, hcell⟩ := h.at_ (ints_at hx)
   have hi : (k : Int) < (xs.length : Int) := by omega
   have htk := take_snoc hx
   by_cases hv : x = v
   ·have e : (x == v) = true := by simpa using hv
    have HT : Hid (decide (v ∈ xs) = true) := by
     rw [Hid, decide_eq_true_eq, ← hv]; exact List.mem_of_getElem? hx
    clear hx htk hv
    go_wp2
    go_ret
    exact ⟨ret_bool (by rw [← HR.out, HT.out]), rfl⟩
   ·have e : (x == v) = false := by simpa using hv
    have HN : Hid (v ∉ xs.take (k + 1)) := by
     rw [htk, Hid, List.mem_append]
     rintro (hc | hc)
     ·exact HS.out hc
     ·exact hv (List.mem_singleton.1 hc).symm
    clear hx htk hv
    go_wp2
    go_round
    case rel => exact ⟨k + 1, by omega, by go_num, HN⟩
    case measure => simp [intOf]; omega
  ·obtain rfl : k = xs.length := by omega
   rw [List.take_length] at HS
   go_wp2
   go_ret
   refine ⟨ret_bool ?_, rfl⟩
   rw [← HR.out, decide_eq_false HS.out]
end Go.Proofs.YtnbikkcalcpedaaGreatDoor
namespace Go.Proofs.YtnbikkcalcpedaaGreatDoor
section
variable {n : Nat} {E : List (Nat × Nat)} {t S : List Nat} {e f : Nat}
section
variable {tw : Nat → Nat} {g : Nat × Nat → Nat × Nat} {ps : List (Nat × Nat)}
end
end
end Go.Proofs.YtnbikkcalcpedaaGreatDoor
namespace Go.Proofs.YtnbikkcalcpedaaGreatDoor
open Go.RowKit
theorem rfewtrees_any (n : Int) (A : Option Addr) (c : Nat) (es : List E3) (w : World) (h : Reads w w.heap.size 3 A es.length (edgeCells es)) :
  Calls Tryz.prog 27 #[.agg #[.int .i64 n, .slice A es.length c]] w fun e w' => e = .returned (.bool (smallB n es 5 8)) ∧ Below w.heap.size w w' := by
 have SC := Lib.hid (rsmall_any n A c es 5 8)
 go_enter Tryz.func27, Tryz.ntmps27
 go_wp2_with fail
 refine (SC.out _ ((h.alloc (Nat.le_refl _) _).more (by simp))).mono ?_
 rintro e w1 ⟨rfl, hb1⟩
 have hbel1 : Below w.heap.size w w1 := ((Below.refl _ _).alloc (Nat.le_refl _) _).trans (hb1.mono (by simp))
 go_wp2
 go_ret
 exact ⟨rfl, hbel1⟩
def few13 (n : Int) (es : List E3) (m : Nat) : Bool := smallB n es 5 8 && decide (m ≤ 30)
theorem few13_any (n : Int) (A : Option Addr) (c : Nat) (es : List E3) (B : Option Addr) (m d : Nat) (w : World) (h : Reads w w.heap.size 3 A es.length (edgeCells es)) :
  Calls Tryz.prog 31 #[.agg #[.int .i64 n, .slice A es.length c], .slice B m d] w fun e w' => e = .returned (.bool (few13 n es m)) ∧ Below w.heap.size w w' := by
 have SC := Lib.hid (rfewtrees_any n A c es)
 have g0 := Blk.new w 24 #[.int .i64 n, .slice A es.length c]
 have c0 := g0.cell 0
 have c1 := g0.cell 1
 unfold few13
 obtain ⟨r, hr⟩ : ∃ r, smallB n es 5 8 = r := ⟨_, rfl⟩
 rw [hr] at SC ⊢
 clear hr
 go_enter Tryz.func31, Tryz.ntmps31
 go_wp2_with fail
 refine (SC.out _ ((h.alloc (Nat.le_refl _) _).more (by simp))).mono ?_
 rintro e w1 ⟨rfl, hb1⟩
 have hbel1 : Below w.heap.size w w1 := ((Below.refl _ _).alloc (Nat.le_refl _) _).trans (hb1.mono (by simp))
 cases r
 ·go_wp2
  go_ret
  exact ⟨rfl, hbel1⟩
 ·by_cases hm : m ≤ 30
  ·have hm1 : (m : Int) ≤ 30 := by omega
   go_wp2
   go_ret
   exact ⟨by simp [hm], hbel1⟩
  ·have hm1 : ¬ (m : Int) ≤ 30 := by omega
   go_wp2
   go_ret
   exact ⟨by simp [hm]; omega, hbel1⟩
theorem few13_parts {n : Int} {es : List E3} {m : Nat} (h : few13 n es m = true) : es.length ≤ 40 ∧ m ≤ 30 ∧ (checkG n es = 0 → n ≤ 5 ∧ sizeE es ≤ 8) := by
 unfold few13 at h
 rw [Bool.and_eq_true] at h
 obtain ⟨h1, h2⟩ := h
 unfold smallB at h1
 by_cases h3 : 40 < es.length
 ·rw [if_pos h3] at h1; cases h1
 ·refine ⟨by omega, of_decide_eq_true h2, fun h4 => ?_⟩
  rw [if_neg h3, if_neg (fun hc => hc h4), Bool.and_eq_true] at h1
  have := of_decide_eq_true h1.1
  have := of_decide_eq_true h1.2
  omega
end Go.Proofs.YtnbikkcalcpedaaGreatDoor
