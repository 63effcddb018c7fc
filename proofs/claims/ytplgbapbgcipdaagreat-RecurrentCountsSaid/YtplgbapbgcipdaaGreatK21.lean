/-
  Texts of this claim, put together: RJoins, Pile, RBurn, Legal.
-/
import Derived.Test.YtplgbapbgcipdaaGreatK17
import Derived.Test.YtplgbapbgcipdaaGreatK16
import Derived.Test.YtplgbapbgcipdaaGreatK14
import Derived.Test.YtplgbapbgcipdaaGreatK18
import Derived.Test.YtplgbapbgcipdaaGreatK05
import Derived.Test.YtplgbapbgcipdaaGreatK11
import Derived.StillTailTactics
import Derived.Deep.QuietTactic
import Derived.BigQuiet
import Derived.Deep.RegionWith
import Derived.Test.YtplgbapbgcipdaaGreatK07
import Derived.Test.YtplgbapbgcipdaaGreatK12
import Derived.BigRegion
/-! Package recurrent: joins, valence, catches, stable. -/
namespace Go.Proofs.YtplgbapbgcipdaaGreat
open Go.RowKit

/-- The marks of a list of vertices. -/
def marks (n : Nat) (l : List Nat) : List Bool := (List.range n).map fun u => decide (u ∈ l)
theorem marks_length (n : Nat) (l : List Nat) : (marks n l).length = n := by simp [marks]
theorem marks_get {n u : Nat} (h : u < n) (l : List Nat) : (marks n l)[u]? = some (decide (u ∈ l)) := by simp [marks, h]
theorem marks_set {n u : Nat} (h : u < n) (l : List Nat) : (marks n l).set u true = marks n (l ++ [u]) := by
  apply List.ext_getElem?
  intro i
  by_cases hi : i < n
  · by_cases e : i = u
    · subst e
      rw [List.getElem?_set_self (by rw [marks_length]; exact hi), marks_get hi]; simp
    · rw [List.getElem?_set_ne (fun e' => e e'.symm), marks_get hi, marks_get hi]; simp [e]
  · rw [List.getElem?_eq_none (by simp [marks_length]; omega), List.getElem?_eq_none (by simp [marks_length]; omega)]
/-- The configuration as the program hands it on. -/
def pileV (n : Nat) (A : Option Addr) (m c : Nat) (q : Int) (B : Option Addr) (k d : Nat) : Value := .agg #[.int .i64 n, .slice A m c, .int .i64 q, .slice B k d]
def pileC (n : Nat) (A : Option Addr) (m c : Nat) (q : Int) (B : Option Addr) (k d : Nat) : Array Value := #[.int .i64 n, .slice A m c, .int .i64 q, .slice B k d]

set_option maxRecDepth 100000 in
set_option maxHeartbeats 8000000 in
theorem rjoins_any (n : Nat) (A : Option Addr) (c : Nat) (es : List E3) (hn : es.length ≤ 10000) (hok : ∀ e ∈ es, okE n e) (q : Int) (B : Option Addr) (kB dB : Nat) (v : Nat) (g : Nat) (l : List Nat) (w : World)
    (h : Reads w w.heap.size 3 A es.length (edgeCells es)) (hm : Blk w g 4 (bools (marks n l))) :
    Calls Tryz.prog 67 #[pileV n A es.length c q B kB dB, .int .i64 v, .slice (some ⟨g, 0, none⟩) n n] w fun e w' => e = .returned (.int .i64 (jnE es l v)) ∧ Below w.heap.size w w' := by
  have HOK := Lib.hid hok
  have HVB := Lib.hid (fun k => jnE_bd (es := es.take k) (fun e he => hok e (List.mem_of_mem_take he)) l v)
  have g0 := Blk.new w 80 (pileC n A es.length c q B kB dB)
  have c1 := g0.cell 1
  have hgl := hm.lt
  simp only [pileC] at c1 g0
  clear hok
  unfold pileV
  go_enter Tryz.func67, Tryz.ntmps67
  go_wp2_with fail
  go_loopw [7, 14] (fun s i wl => ∃ (k : Nat), i = .int .i64 k ∧ s = .int .i64 (jnE (es.take k) l v) ∧ k ≤ es.length ∧ Below w.heap.size w wl) (fun _ i _ => es.length - (intOf i).toNat)
  case atStart => exact ⟨0, rfl, rfl, by omega, (Below.refl _ _).alloc (Nat.le_refl _) _⟩
  case round =>
    obtain ⟨k, rfl, rfl, hk, hbel⟩ := hrel
    clear g0 c1
    by_cases hlt : k < es.length
    · obtain ⟨⟨x, y, m⟩, hx⟩ := get_of_lt hlt
      have hok := HOK.out _ (List.mem_of_getElem? hx)
      unfold okE at hok
      dsimp only at hok
      obtain ⟨a, rfl⟩ := Int.eq_ofNat_of_zero_le (show 0 ≤ x by omega)
      obtain ⟨b, rfl⟩ := Int.eq_ofNat_of_zero_le (show 0 ≤ y by omega)
      have hi : (k : Int) < (es.length : Int) := by omega
      obtain ⟨bE, off, hA, hbb, q1, q2, q3⟩ := (h.below hbel).edge hx
      subst hA
      dsimp only at q1 q2 q3
      have e3 := Blk.new wr 73 #[.int .i64 a, .int .i64 b, .int .i64 m]
      have p0 := e3.cell 0
      have p1 := e3.cell 1
      have p2 := e3.cell 2
      have hm2 := (hm.below hbel hgl).alloc (.cells #[.int .i64 a, .int .i64 b, .int .i64 m] 73)
      have ma := (hm2.cell a).trans (bools_get (marks_get (by omega) l))
      have mb := (hm2.cell b).trans (bools_get (marks_get (by omega) l))
      have ia : (a : Int) < (n : Int) := by omega
      have ib : (b : Int) < (n : Int) := by omega
      have hs := jnE_snoc hx l v
      unfold jnT at hs
      simp only [Int.toNat_natCast] at hs
      have hb0 := HVB.out k
      have hb2 := hbel.alloc hbel.size (.cells #[.int .i64 a, .int .i64 b, .int .i64 m] 73)
      have htl : (es.take k).length ≤ 10000 := by rw [List.length_take]; omega
      obtain ⟨S, hS⟩ : ∃ S, jnE (es.take k) l v = S := ⟨_, rfl⟩
      rw [hS] at hb0 hs ⊢
      clear hS hx
      have hw : IntKind.i64.wrap (S + m) = S + m := IntWalk.i64_in _ (by omega)
      by_cases hxy : (a : Int) = (b : Int)
      · have n1 : ((a : Int) != (b : Int)) = false := by simp [hxy]
        rw [if_neg (fun h => h.1 hxy)] at hs
        have HS := Lib.hid hs
        clear hs hxy ma mb
        go_wp2
        go_roundw
        case rel => exact ⟨k + 1, by go_num, by rw [HS.out, Int.add_zero], by omega, hb2⟩
        case measure => simp [intOf]; omega
      · have n1 : ((a : Int) != (b : Int)) = true := by simp at hxy ⊢; omega
        by_cases hxv : (a : Int) = (v : Int)
        · have n2 : ((a : Int) == (v : Int)) = true := by simpa using hxv
          have n3 : ((b : Int) == (v : Int)) = false := by simp; omega
          by_cases hbl : b ∈ l
          · rw [if_pos ⟨hxy, .inl ⟨hxv, hbl⟩⟩] at hs
            rw [decide_eq_true hbl] at mb
            have HS := Lib.hid hs
            clear hs hxy hxv hbl ma
            go_wp2
            go_roundw
            case rel => exact ⟨k + 1, by go_num, by rw [HS.out], by omega, hb2⟩
            case measure => simp [intOf]; omega
          · rw [if_neg (fun h => h.2.elim (fun h => hbl h.2) (fun h => by omega))] at hs
            rw [decide_eq_false hbl] at mb
            have HS := Lib.hid hs
            clear hs hxy hxv hbl ma
            go_wp2
            go_roundw
            case rel => exact ⟨k + 1, by go_num, by rw [HS.out, Int.add_zero], by omega, hb2⟩
            case measure => simp [intOf]; omega
        · have n2 : ((a : Int) == (v : Int)) = false := by simpa using hxv
          by_cases hyv : (b : Int) = (v : Int)
          · have n3 : ((b : Int) == (v : Int)) = true := by simpa using hyv
            by_cases hal : a ∈ l
            · rw [if_pos ⟨hxy, .inr ⟨hyv, hal⟩⟩] at hs
              rw [decide_eq_true hal] at ma
              have HS := Lib.hid hs
              clear hs hxy hxv hyv hal mb
              go_wp2
              go_roundw
              case rel => exact ⟨k + 1, by go_num, by rw [HS.out], by omega, hb2⟩
              case measure => simp [intOf]; omega
            · rw [if_neg (fun h => h.2.elim (fun h => hxv h.1) (fun h => hal h.2))] at hs
              rw [decide_eq_false hal] at ma
              have HS := Lib.hid hs
              clear hs hxy hxv hyv hal mb
              go_wp2
              go_roundw
              case rel => exact ⟨k + 1, by go_num, by rw [HS.out, Int.add_zero], by omega, hb2⟩
              case measure => simp [intOf]; omega
          · have n3 : ((b : Int) == (v : Int)) = false := by simpa using hyv
            rw [if_neg (fun h => h.2.elim (fun h => hxv h.1) (fun h => hyv h.1))] at hs
            have HS := Lib.hid hs
            clear hs hxy hxv hyv ma mb
            go_wp2
            go_roundw
            case rel => exact ⟨k + 1, by go_num, by rw [HS.out, Int.add_zero], by omega, hb2⟩
            case measure => simp [intOf]; omega
    · obtain rfl : k = es.length := by omega
      rw [List.take_length]
      go_wp2
      go_ret
      exact ⟨rfl, hbel⟩
set_option maxRecDepth 100000 in
set_option maxHeartbeats 2000000 in
theorem rvalence_any (n : Nat) (A : Option Addr) (c : Nat) (es : List E3) (hn : es.length ≤ 10000) (hz : checkG n es = 0) (q : Int) (B : Option Addr) (kB dB : Nat) (v : Nat) (hv : v < n) (w : World) (h : Reads w w.heap.size 3 A es.length (edgeCells es)) :
    Calls Tryz.prog 122 #[pileV n A es.length c q B kB dB, .int .i64 v] w fun e w' => e = .returned (.int .i64 (valE es v)) ∧ Below w.heap.size w w' := by
  have GV := Lib.hid (gvalence_ok n A c es hn hz v hv)
  have g0 := Blk.new w 80 (pileC n A es.length c q B kB dB)
  have c0 := g0.cell 0
  have c1 := g0.cell 1
  simp only [pileC] at c0 c1
  have hB : Below w.heap.size w (w.alloc (.cells (pileC n A es.length c q B kB dB) 80)) := (Below.refl _ _).alloc (Nat.le_refl _) _
  clear hz g0
  unfold pileV
  simp only [pileC] at hB
  go_enter Tryz.func122, Tryz.ntmps122
  go_wp2_with fail
  refine (GV.out _ ((h.alloc (Nat.le_refl _) _).more (by simp))).mono ?_
  rintro e w1 ⟨rfl, hb1⟩
  go_wp2
  go_ret
  exact ⟨rfl, hB.trans (hb1.mono (by simp))⟩
end Go.Proofs.YtplgbapbgcipdaaGreat

/-! Package stabilize: what a pile holds; unstable and wait. -/
namespace Go.Proofs.YtplgbapbgcipdaaGreat
open Go.RowKit

/-- Where the parts of a pile lie. -/
structure PA where
  bd : Nat
  cd : Nat
  bv : Nat
  bf : Nat
  A : Option Addr
  cr : Nat
  gs : List Nat
def pileCells (a : PA) (n : Nat) (q total : Int) (ws : List Bool) : Array Value :=
  (([.slice (some ⟨a.bd, 0, none⟩) n a.cd, .int .i64 q, .slice a.A a.gs.length a.cr, .slice (some ⟨a.bv, 0, none⟩) n n, .slice (some ⟨a.bf, 0, none⟩) n n, .int .i64 total] : List Value) ++ ws.map Value.bool).toArray
theorem pileCells_setW (a : PA) (n : Nat) (q total : Int) (ws : List Bool) (v : Nat) (x : Bool) : (pileCells a n q total ws).setIfInBounds (6 + v) (.bool x) = pileCells a n q total (ws.set v x) := by
  rw [Nat.add_comm]
  simp [pileCells, List.map_set]
theorem pileCells_setT (a : PA) (n : Nat) (q total : Int) (ws : List Bool) (x : Int) : (pileCells a n q total ws).setIfInBounds 5 (.int .i64 x) = pileCells a n q x ws := by simp [pileCells]
/-- The blocks of a pile. -/
def PB (a : PA) (bp k : Nat) : Prop := k = bp ∨ k = a.bd ∨ k = a.bv ∨ k = a.bf ∨ blockOf a.A k ∨ k ∈ a.gs
structure PileW (w : World) (base bp n : Nat) (a : PA) (d : List Int) (q : Int) (rows : List (List Int)) (val fired : List Int) (total : Int) (ws : List Bool) : Prop where
  blk : Blk w bp 110 (pileCells a n q total ws)
  dd : ∃ sl : List Value, Blk w a.bd 3 (ints d ++ sl).toArray
  dl : d.length = n
  vv : Blk w a.bv 3 (intCells val)
  vl : val.length = n
  ff : Blk w a.bf 3 (intCells fired)
  fl : fired.length = n
  grid : Grid w base a.A a.cr n a.gs rows
  wl : ws.length = 12
  lo : base ≤ bp ∧ base ≤ a.bd ∧ base ≤ a.bv ∧ base ≤ a.bf
  ne : a.bd ≠ a.bv ∧ a.bd ≠ a.bf ∧ a.bv ≠ a.bf
  far : ∀ g ∈ a.gs, g ≠ a.bd ∧ g ≠ a.bv ∧ g ≠ a.bf

section
variable {w w' : World} {base bp n : Nat} {a : PA} {d : List Int} {q : Int} {rows : List (List Int)} {val fired : List Int} {total : Int} {ws : List Bool}
theorem PileW.lt (h : PileW w base bp n a d q rows val fired total ws) {k : Nat} (hk : PB a bp k) : base ≤ k ∧ k < w.heap.size := by
  have hl := h.lo
  rcases hk with rfl | rfl | rfl | rfl | hk | hk
  · exact ⟨hl.1, h.blk.lt⟩
  · obtain ⟨sl, hs⟩ := h.dd; exact ⟨hl.2.1, hs.lt⟩
  · exact ⟨hl.2.2.1, h.vv.lt⟩
  · exact ⟨hl.2.2.2, h.ff.lt⟩
  · exact own_lt h.grid.outer hk
  · obtain ⟨cs, hc, hb⟩ := h.grid.blk hk; exact ⟨hb, hc.lt⟩
theorem PileW.kept (h : PileW w base bp n a d q rows val fired total ws) (hk : ∀ k, PB a bp k → w'.heap[k]? = w.heap[k]?) : PileW w' base bp n a d q rows val fired total ws :=
  ⟨(hk _ (.inl rfl)).trans h.blk, by obtain ⟨sl, hs⟩ := h.dd; exact ⟨sl, (hk _ (.inr (.inl rfl))).trans hs⟩, h.dl, (hk _ (.inr (.inr (.inl rfl)))).trans h.vv, h.vl, (hk _ (.inr (.inr (.inr (.inl rfl))))).trans h.ff, h.fl,
    h.grid.kept (fun k hb => hk k (.inr (.inr (.inr (.inr (.inl hb)))))) (fun g hg => hk g (.inr (.inr (.inr (.inr (.inr hg)))))), h.wl, h.lo, h.ne, h.far⟩
theorem PileW.next (h : PileW w base bp n a d q rows val fired total ws) (hb : Below w.heap.size w w') : PileW w' base bp n a d q rows val fired total ws := h.kept fun k hk => hb.block k (h.lt hk).2
theorem PileW.alloc (h : PileW w base bp n a d q rows val fired total ws) (o : Obj) : PileW (w.alloc o) base bp n a d q rows val fired total ws := h.kept fun k hk => Below.heap_alloc w o k (h.lt hk).2
theorem PileW.drewN (h : PileW w base bp n a d q rows val fired total ws) (m : Nat) : PileW (w.drewN m) base bp n a d q rows val fired total ws := h.kept fun _ _ => rfl
theorem PileW.drew (h : PileW w base bp n a d q rows val fired total ws) : PileW w.drew base bp n a d q rows val fired total ws := h.kept fun _ _ => rfl
theorem PileW.only {C : Nat → Prop} (h : PileW w base bp n a d q rows val fired total ws) (ho : Only C w w') (hC : ∀ k, PB a bp k → ¬ C k) : PileW w' base bp n a d q rows val fired total ws := h.kept fun k hk => ho.block k (h.lt hk).2 (hC k hk)
theorem PileW.mono {base' : Nat} (h : PileW w base bp n a d q rows val fired total ws) (hb : base' ≤ base) : PileW w base' bp n a d q rows val fired total ws :=
  ⟨h.blk, h.dd, h.dl, h.vv, h.vl, h.ff, h.fl, h.grid.mono hb, h.wl, by have := h.lo; omega, h.ne, h.far⟩
theorem PileW.c0 (h : PileW w base bp n a d q rows val fired total ws) : w.cell? ⟨bp, 0, none⟩ = some (.slice (some ⟨a.bd, 0, none⟩) n a.cd) := (h.blk.cell 0).trans (by simp [pileCells])
theorem PileW.c1 (h : PileW w base bp n a d q rows val fired total ws) : w.cell? ⟨bp, 1, none⟩ = some (.int .i64 q) := (h.blk.cell 1).trans (by simp [pileCells])
theorem PileW.c2 (h : PileW w base bp n a d q rows val fired total ws) : w.cell? ⟨bp, 2, none⟩ = some (.slice a.A a.gs.length a.cr) := (h.blk.cell 2).trans (by simp [pileCells])
theorem PileW.c3 (h : PileW w base bp n a d q rows val fired total ws) : w.cell? ⟨bp, 3, none⟩ = some (.slice (some ⟨a.bv, 0, none⟩) n n) := (h.blk.cell 3).trans (by simp [pileCells])
theorem PileW.c4 (h : PileW w base bp n a d q rows val fired total ws) : w.cell? ⟨bp, 4, none⟩ = some (.slice (some ⟨a.bf, 0, none⟩) n n) := (h.blk.cell 4).trans (by simp [pileCells])
theorem PileW.c5 (h : PileW w base bp n a d q rows val fired total ws) : w.cell? ⟨bp, 5, none⟩ = some (.int .i64 total) := (h.blk.cell 5).trans (by simp [pileCells])
theorem PileW.cd (h : PileW w base bp n a d q rows val fired total ws) {v : Nat} {x : Int} (hx : d[v]? = some x) : w.cell? ⟨a.bd, v, none⟩ = some (.int .i64 x) := by
  obtain ⟨sl, hs⟩ := h.dd
  have hv := (List.getElem?_eq_some_iff.1 hx).1
  refine (hs.cell v).trans ?_
  rw [List.getElem?_toArray, List.getElem?_append_left (by rw [ints_length]; exact hv), ints_at hx]
theorem PileW.cv (h : PileW w base bp n a d q rows val fired total ws) {v : Nat} {x : Int} (hx : val[v]? = some x) : w.cell? ⟨a.bv, v, none⟩ = some (.int .i64 x) := (h.vv.cell v).trans (intCells_get hx)
theorem PileW.cf (h : PileW w base bp n a d q rows val fired total ws) {v : Nat} {x : Int} (hx : fired[v]? = some x) : w.cell? ⟨a.bf, v, none⟩ = some (.int .i64 x) := (h.ff.cell v).trans (intCells_get hx)
theorem PileW.fd (h : PileW w base bp n a d q rows val fired total ws) (v : Nat) : w.frozen? ⟨a.bd, v, none⟩ = false := by obtain ⟨sl, hs⟩ := h.dd; exact hs.frozen v
theorem PileW.crow (h : PileW w base bp n a d q rows val fired total ws) {i j g : Nat} {r : List Int} {u : Int} (hg : a.gs[i]? = some g) (hr : rows[i]? = some r) (hu : r[j]? = some u) : w.cell? ⟨g, j, none⟩ = some (.int .i64 u) ∧ w.frozen? ⟨g, j, none⟩ = false := by
  obtain ⟨k1, _, _⟩ := h.grid.row i g r hg hr
  exact ⟨(k1.cell j).trans (intCells_get hu), k1.frozen j⟩
theorem PileW.co {bd cd bv bf bo oo cr : Nat} {gs : List Nat} (h : PileW w base bp n ⟨bd, cd, bv, bf, some ⟨bo, oo, none⟩, cr, gs⟩ d q rows val fired total ws) {i g : Nat} (hg : gs[i]? = some g) : w.cell? ⟨bo, oo + i, none⟩ = some (.slice (some ⟨g, 0, none⟩) n n) := by
  obtain ⟨b, off, e, hc⟩ := h.grid.cell hg
  injection e with e
  injection e with e1 e2
  subst e1 e2
  exact hc
private theorem PileW.neT (h : PileW w base bp n a d q rows val fired total ws) : a.bd ≠ bp ∧ a.bv ≠ bp ∧ a.bf ≠ bp ∧ (∀ k, blockOf a.A k → k ≠ bp ∧ k ≠ a.bd ∧ k ≠ a.bv ∧ k ≠ a.bf ∧ k ∉ a.gs) ∧ ∀ g ∈ a.gs, g ≠ bp := by
  obtain ⟨sl, hs⟩ := h.dd
  have t : 3 ≠ 110 := by decide
  refine ⟨hs.ne_ h.blk t, h.vv.ne_ h.blk t, h.ff.ne_ h.blk t, fun k hk => ⟨own_blk h.grid.outer h.blk (by decide) hk, own_blk h.grid.outer hs (by decide) hk, own_blk h.grid.outer h.vv (by decide) hk, own_blk h.grid.outer h.ff (by decide) hk, fun hg => ?_⟩, fun g hg => ?_⟩
  · obtain ⟨cs, hc, _⟩ := h.grid.blk hg
    exact own_blk h.grid.outer hc (by decide) hk rfl
  · obtain ⟨cs, hc, _⟩ := h.grid.blk hg
    exact hc.ne_ h.blk t
theorem PileW.setW (h : PileW w base bp n a d q rows val fired total ws) (v : Nat) (x : Bool) : PileW (w.setCell ⟨bp, 6 + v, none⟩ (.bool x)) base bp n a d q rows val fired total (ws.set v x) := by
  obtain ⟨n1, n2, n3, n4, n5⟩ := h.neT
  obtain ⟨sl, hs⟩ := h.dd
  refine ⟨by rw [← pileCells_setW]; exact h.blk.set_ _ _, ⟨sl, hs.far n1 _⟩, h.dl, h.vv.far n2 _, h.vl, h.ff.far n3 _, h.fl, h.grid.kept (fun k hk => Below.heap_setCell w ⟨bp, 6 + v, none⟩ _ k (n4 k hk).1) (fun g hg => Below.heap_setCell w ⟨bp, 6 + v, none⟩ _ g (n5 g hg)), by simpa using h.wl, h.lo, h.ne, h.far⟩
theorem PileW.setT (h : PileW w base bp n a d q rows val fired total ws) (x : Int) : PileW (w.setCell ⟨bp, 5, none⟩ (.int .i64 x)) base bp n a d q rows val fired x ws := by
  obtain ⟨n1, n2, n3, n4, n5⟩ := h.neT
  obtain ⟨sl, hs⟩ := h.dd
  refine ⟨by rw [← pileCells_setT a n q total]; exact h.blk.set_ _ _, ⟨sl, hs.far n1 _⟩, h.dl, h.vv.far n2 _, h.vl, h.ff.far n3 _, h.fl, h.grid.kept (fun k hk => Below.heap_setCell w ⟨bp, 5, none⟩ _ k (n4 k hk).1) (fun g hg => Below.heap_setCell w ⟨bp, 5, none⟩ _ g (n5 g hg)), h.wl, h.lo, h.ne, h.far⟩
theorem PileW.setD (h : PileW w base bp n a d q rows val fired total ws) {v : Nat} (hv : v < n) (x : Int) : PileW (w.setCell ⟨a.bd, v, none⟩ (.int .i64 x)) base bp n a (d.set v x) q rows val fired total ws := by
  obtain ⟨n1, n2, n3, n4, n5⟩ := h.neT
  obtain ⟨sl, hs⟩ := h.dd
  refine ⟨h.blk.far (fun e => n1 e.symm) _, ⟨sl, ?_⟩, by simpa using h.dl, h.vv.far (fun e => h.ne.1 e.symm) _, h.vl, h.ff.far (fun e => h.ne.2.1 e.symm) _, h.fl, h.grid.kept (fun k hk => Below.heap_setCell w ⟨a.bd, v, none⟩ _ k (n4 k hk).2.1) (fun g hg => Below.heap_setCell w ⟨a.bd, v, none⟩ _ g (h.far g hg).1), h.wl, h.lo, h.ne, h.far⟩
  have := hs.set_ v (.int .i64 x)
  rw [List.setIfInBounds_toArray, List.set_append_left _ _ (by rw [ints_length, h.dl]; exact hv)] at this
  rwa [show (ints d).set v (.int .i64 x) = ints (d.set v x) by simp [ints, List.map_set]] at this
theorem PileW.setV (h : PileW w base bp n a d q rows val fired total ws) (v : Nat) (x : Int) : PileW (w.setCell ⟨a.bv, v, none⟩ (.int .i64 x)) base bp n a d q rows (val.set v x) fired total ws := by
  obtain ⟨n1, n2, n3, n4, n5⟩ := h.neT
  obtain ⟨sl, hs⟩ := h.dd
  exact ⟨h.blk.far (fun e => n2 e.symm) _, ⟨sl, hs.far h.ne.1 _⟩, h.dl, by rw [← intCells_set]; exact h.vv.set_ _ _, by simpa using h.vl, h.ff.far (fun e => h.ne.2.2 e.symm) _, h.fl, h.grid.kept (fun k hk => Below.heap_setCell w ⟨a.bv, v, none⟩ _ k (n4 k hk).2.2.1) (fun g hg => Below.heap_setCell w ⟨a.bv, v, none⟩ _ g (h.far g hg).2.1), h.wl, h.lo, h.ne, h.far⟩
theorem PileW.setF (h : PileW w base bp n a d q rows val fired total ws) (v : Nat) (x : Int) : PileW (w.setCell ⟨a.bf, v, none⟩ (.int .i64 x)) base bp n a d q rows val (fired.set v x) total ws := by
  obtain ⟨n1, n2, n3, n4, n5⟩ := h.neT
  obtain ⟨sl, hs⟩ := h.dd
  exact ⟨h.blk.far (fun e => n3 e.symm) _, ⟨sl, hs.far h.ne.2.1 _⟩, h.dl, h.vv.far h.ne.2.2 _, h.vl, by rw [← intCells_set]; exact h.ff.set_ _ _, by simpa using h.fl, h.grid.kept (fun k hk => Below.heap_setCell w ⟨a.bf, v, none⟩ _ k (n4 k hk).2.2.2.1) (fun g hg => Below.heap_setCell w ⟨a.bf, v, none⟩ _ g (h.far g hg).2.2), h.wl, h.lo, h.ne, h.far⟩
theorem PileW.setR (h : PileW w base bp n a d q rows val fired total ws) {i j g : Nat} {r : List Int} (hi : a.gs[i]? = some g) (hr : rows[i]? = some r) (x : Int) : PileW (w.setCell ⟨g, j, none⟩ (.int .i64 x)) base bp n a d q (rows.set i (r.set j x)) val fired total ws := by
  obtain ⟨n1, n2, n3, n4, n5⟩ := h.neT
  obtain ⟨sl, hs⟩ := h.dd
  have hg := List.mem_of_getElem? hi
  exact ⟨h.blk.far (fun e => n5 g hg e.symm) _, ⟨sl, hs.far (fun e => (h.far g hg).1 e.symm) _⟩, h.dl, h.vv.far (fun e => (h.far g hg).2.1 e.symm) _, h.vl, h.ff.far (fun e => (h.far g hg).2.2 e.symm) _, h.fl, h.grid.set hi hr x, h.wl, h.lo, h.ne, h.far⟩
/-- One row more. -/
theorem PileW.push {w0 w2 : World} {base bp n bd cd bv bf : Nat} {A A2 : Option Addr} {cr c2 : Nat} {gs : List Nat} {d : List Int} {q : Int} {rows : List (List Int)} {val fired : List Int} {total : Int} {ws : List Bool} {gN : Nat} {r : List Int}
    (h : PileW w0 base bp n ⟨bd, cd, bv, bf, A, cr, gs⟩ d q rows val fired total ws) (hg : Blk w0 gN 3 (intCells r)) (hr : r.length = n) (hb : base ≤ gN) (hnew : ∀ k, PB ⟨bd, cd, bv, bf, A, cr, gs⟩ bp k → k ≠ gN)
    (hown : w2.ownsRow base 25 1 (.slice A2 (gs.length + 1) c2) (gs.length + 1) ((gs.map fun g => .slice (some ⟨g, 0, none⟩) n n) ++ [.slice (some ⟨gN, 0, none⟩) n n]))
    (hgr : w0.grownBy w2 (Value.slice A gs.length cr).ownBlock) : PileW (w2.setCell ⟨bp, 2, none⟩ (.slice A2 (gs.length + 1) c2)) base bp n ⟨bd, cd, bv, bf, A2, c2, gs ++ [gN]⟩ d q (rows ++ [r]) val fired total ws := by
  have G := h.grid.push hg hr hb (fun g' hg' => hnew g' (.inr (.inr (.inr (.inr (.inr hg')))))) hown hgr
  have ho := h.grid.outer
  obtain ⟨sl, hs⟩ := h.dd
  dsimp only at hs ho
  have B1 := h.blk.grown hgr (own_blk_ne ho h.blk (by decide))
  have B2 := hs.grown hgr (own_blk_ne ho hs (by decide))
  have B3 := h.vv.grown hgr (own_blk_ne ho h.vv (by decide))
  have B4 := h.ff.grown hgr (own_blk_ne ho h.ff (by decide))
  have t : 3 ≠ 110 := by decide
  refine ⟨?_, ⟨sl, B2.far (B2.ne_ B1 t) _⟩, h.dl, B3.far (B3.ne_ B1 t) _, h.vl, B4.far (B4.ne_ B1 t) _, h.fl, G.far B1 (by decide) t 2 _, h.wl, h.lo, h.ne, ?_⟩
  · have := B1.set_ 2 (.slice A2 (gs.length + 1) c2)
    have e : (pileCells ⟨bd, cd, bv, bf, A, cr, gs⟩ n q total ws).setIfInBounds 2 (.slice A2 (gs.length + 1) c2) = pileCells ⟨bd, cd, bv, bf, A2, c2, gs ++ [gN]⟩ n q total ws := by simp [pileCells]
    rwa [e] at this
  · intro g hg'
    rcases List.mem_append.1 hg' with hg' | hg'
    · exact h.far g hg'
    · rw [List.mem_singleton.1 hg']
      exact ⟨(hnew _ (.inr (.inl rfl))).symm, (hnew _ (.inr (.inr (.inl rfl)))).symm, (hnew _ (.inr (.inr (.inr (.inl rfl))))).symm⟩
end

/-- Is a vertex unstable? -/
def unst (q : Int) (d val : List Int) (v : Nat) : Bool := decide ((v : Int) ≠ q) && decide (val.getD v 0 ≤ d.getD v 0)
set_option maxHeartbeats 2000000 in
theorem unstable_any (base bp n : Nat) (a : PA) (d : List Int) (q : Int) (rows : List (List Int)) (val fired : List Int) (total : Int) (ws : List Bool) (v : Nat) (hv : v < n) (w : World) (h : PileW w base bp n a d q rows val fired total ws) :
    Calls Tryz.prog 142 #[.pointer (some ⟨bp, 0, none⟩), .int .i64 v] w fun e w' => e = .returned (.bool (unst q d val v)) ∧ ∃ m, w' = w.drewN m := by
  obtain ⟨x, hx⟩ := get_of_lt (xs := d) (k := v) (by have := h.dl; omega)
  obtain ⟨y, hy⟩ := get_of_lt (xs := val) (k := v) (by have := h.vl; omega)
  have k0 := h.c0
  have k1 := h.c1
  have k3 := h.c3
  have kd := h.cd hx
  have kv := h.cv hy
  unfold unst
  rw [getD_at hx, getD_at hy]
  have hi : (v : Int) < (n : Int) := by omega
  clear h hx hy
  by_cases hq : (v : Int) = q
  · have e1 : ((v : Int) != q) = false := by simp [hq]
    have e2 : decide ((v : Int) ≠ q) = false := by simp [hq]
    rw [e2]
    clear hq e2
    go_enter Tryz.func142, Tryz.ntmps142
    go_wp2
    go_quiet (fail)
    go_wp2
    go_ret
    exact ⟨rfl, ⟨_, rfl⟩⟩
  · have e1 : ((v : Int) != q) = true := by simp [hq]
    have e2 : decide ((v : Int) ≠ q) = true := by simp [hq]
    rw [e2]
    clear hq e2
    go_enter Tryz.func142, Tryz.ntmps142
    go_wp2
    go_quiet (fail)
    go_wp2
    go_ret
    exact ⟨by simp, ⟨_, rfl⟩⟩
end Go.Proofs.YtplgbapbgcipdaaGreat

/-! The reference's fire: ref08.Holds, ref23.Joins, ref23.ready, ref23.Burnt, ref23.Unburnt. -/
namespace Go.Proofs.YtplgbapbgcipdaaGreat
open Go.RowKit

def natsI (l : List Nat) : List Int := l.map fun u : Nat => (u : Int)
theorem natsI_length (l : List Nat) : (natsI l).length = l.length := by simp [natsI]
theorem natsI_snoc (l : List Nat) (x : Nat) : natsI (l ++ [x]) = natsI l ++ [(x : Int)] := by simp [natsI]
theorem natsI_mem {l : List Nat} {v : Nat} : ((v : Int) ∈ natsI l) ↔ v ∈ l := by
  unfold natsI; rw [List.mem_map]
  constructor
  · rintro ⟨u, hu, e⟩; have : u = v := by omega
    exact this ▸ hu
  · intro h; exact ⟨v, h, rfl⟩

end Go.Proofs.YtplgbapbgcipdaaGreat

/-! Package firing: may a set fire legally? -/
/-! Sets of vertices: graph.Subset; slices.Index and Contains on ints; firing.given and subset. -/
namespace Go.Proofs.YtplgbapbgcipdaaGreat
open Go.RowKit

end Go.Proofs.YtplgbapbgcipdaaGreat

namespace Go.Proofs.YtplgbapbgcipdaaGreat
open Go.RowKit

end Go.Proofs.YtplgbapbgcipdaaGreat

