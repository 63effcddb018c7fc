/-
 Texts of this claim, put together: RCatch, Pile2, PileP, RConf2, RSets, MadeG, VerP, Legal2, LevelP, Way, TGrow, FireW.
-/
import Derived.Test.YtnbikkcalcpedaaGreatDoorK18
import Derived.Deep.RegionHeld3
import Derived.Test.YtnbikkcalcpedaaGreatDoorK19
import Derived.Test.YtnbikkcalcpedaaGreatDoorK08
import Derived.Test.YtnbikkcalcpedaaGreatDoorK04
import Derived.Test.YtnbikkcalcpedaaGreatDoorK02
import Derived.WalkKit
import Derived.Test.YtnbikkcalcpedaaGreatDoorK16
import Derived.Test.YtnbikkcalcpedaaGreatDoorK17
import Derived.Test.YtnbikkcalcpedaaGreatDoorK12
import Derived.Laws.EntriesVeiled
import Derived.Test.YtnbikkcalcpedaaGreatDoorK20
import Derived.Test.YtnbikkcalcpedaaGreatDoorK05
import Derived.Stop.RegionWithIn
import Derived.Test.YtnbikkcalcpedaaGreatDoorK06
set_option maxRecDepth 100000
set_option maxHeartbeats 8000000
namespace Go.Proofs.YtnbikkcalcpedaaGreatDoor
open Go.RowKit
def catchB (es : List E3) (cs : List Int) (l : List Nat) (v : Nat) : Bool := decide (valE es v ≤ cs.getD v 0 + jnE es l v)
def stabTo (es : List E3) (cs : List Int) (q : Nat) (k : Nat) : Bool := (List.range k).all fun v => decide (v = q) || decide (cs.getD v 0 < valE es v)
theorem stabTo_succ (es : List E3) (cs : List Int) (q k : Nat) : stabTo es cs q (k + 1) = (stabTo es cs q k && (decide (k = q) || decide (cs.getD k 0 < valE es k))) := by simp [stabTo, List.range_succ]
theorem stabTo_false {es : List E3} {cs : List Int} {q k n : Nat} (hk : k < n) (hq : k ≠ q) (h : valE es k ≤ cs.getD k 0) : stabTo es cs q n = false := by
 unfold stabTo
 rw [List.all_eq_false]
 refine ⟨k, by simpa using hk, ?_⟩
 rw [decide_eq_false hq, decide_eq_false (by omega)]
 simp
theorem rcatches_any (n : Nat) (A : Option Addr) (c : Nat) (es : List E3) (hn : es.length ≤ 10000) (hz : checkG n es = 0) (q : Int) (B : Option Addr) (d : Nat) (cs : List Int) (hcl : cs.length = n) (hcb : ∀ x ∈ cs, -1048576 ≤ x ∧ x ≤ 1048577) (v : Nat) (hv : v < n) (g : Nat) (l : List Nat) (w : World)
  (h : Reads w w.heap.size 3 A es.length (edgeCells es)) (h' : Reads w w.heap.size 1 B n (ints cs)) (hm : Blk w g 4 (bools (marks n l))) :
  Calls Tryz.prog 192 #[pileV n A es.length c q B n d, .int .i64 v, .slice (some ⟨g, 0, none⟩) n n] w fun e w' => e = .returned (.bool (catchB es cs l v)) ∧ Below w.heap.size w w' := by
 have hok := (right_of hz).ok
 obtain ⟨x, hx⟩ := get_of_lt (xs := cs) (k := v) (by omega)
 have hxb := hcb x (List.mem_of_getElem? hx)
 obtain ⟨bB, oB, rfl, hbB, hcell⟩ := h'.at_ (ints_at hx)
 have JB := jnE_bd hok l v
 have HJ := Lib.hid (fun (W : World) (hB : Below w.heap.size w W) => rjoins_any n A c es hn hok q (some ⟨bB, oB, none⟩) n d v g l W ((h.below hB).more hB.size) (hm.below hB hm.lt))
 have HV := Lib.hid (fun (W : World) (hB : Below w.heap.size w W) => rvalence_any n A c es hn hz q (some ⟨bB, oB, none⟩) n d v hv W ((h.below hB).more hB.size))
 unfold catchB
 rw [getD_at hx]
 have g0 := Blk.new w 138 (pileC n A es.length c q (some ⟨bB, oB, none⟩) n d)
 have hB0 : Below w.heap.size w (w.alloc (.cells (pileC n A es.length c q (some ⟨bB, oB, none⟩) n d) 138)) := (Below.refl _ _).alloc (Nat.le_refl _) _
 have hce := (hB0.cell (p := ⟨bB, oB + v, none⟩) hbB).trans hcell
 have hi : (v : Int) < (n : Int) := by omega
 obtain ⟨J, hJ⟩ : ∃ J, jnE es l v = J := ⟨_, rfl⟩
 obtain ⟨V, hV⟩ : ∃ V, valE es v = V := ⟨_, rfl⟩
 rw [hJ] at HJ JB ⊢
 rw [hV] at HV ⊢
 have hw : IntKind.i64.wrap (x + J) = x + J := IntWalk.i64_in _ (by omega)
 clear hJ hV hz hok hx hcell
 simp only [pileV, pileC] at g0 hB0 hce HJ HV ⊢
 have c0 := g0.cell 0
 have c1 := g0.cell 1
 have c2 := g0.cell 2
 have c3 := g0.cell 3
 have hgw : w.heap.size < (w.alloc (.cells #[.int .i64 n, .slice A es.length c, .int .i64 q, .slice (some ⟨bB, oB, none⟩) n d] 138)).heap.size := by simp
 obtain ⟨W0, hW0⟩ : ∃ W0, w.alloc (.cells #[.int .i64 n, .slice A es.length c, .int .i64 q, .slice (some ⟨bB, oB, none⟩) n d] 138) = W0 := ⟨_, rfl⟩
 have HW0 := Lib.hid hW0
 rw [hW0] at g0 hB0 hce c0 c1 c2 c3 hgw
 clear hW0
 have HJ2 := Lib.hid (fun (W : World) (hB : Below W0.heap.size W0 W) => HJ.out W (hB0.trans (hB.mono hB0.size)))
 have HV2 := Lib.hid (fun (W : World) (hB : Below W0.heap.size W0 W) => HV.out W (hB0.trans (hB.mono hB0.size)))
 have hb5 : bB < W0.heap.size := by have := hB0.size; omega
 have KC := Lib.hid (fun (W : World) (hB : Below W0.heap.size W0 W) => (⟨(hB.cell (p := ⟨w.heap.size, 0, none⟩) hgw).trans c0, (hB.cell (p := ⟨w.heap.size, 1, none⟩) hgw).trans c1, (hB.cell (p := ⟨w.heap.size, 2, none⟩) hgw).trans c2, (hB.cell (p := ⟨w.heap.size, 3, none⟩) hgw).trans c3, (hB.cell (p := ⟨bB, oB + v, none⟩) hb5).trans hce⟩ :
  W.cell? ⟨w.heap.size, 0, none⟩ = some (.int .i64 n) ∧ W.cell? ⟨w.heap.size, 1, none⟩ = some (.slice A es.length c) ∧ W.cell? ⟨w.heap.size, 2, none⟩ = some (.int .i64 q) ∧ W.cell? ⟨w.heap.size, 3, none⟩ = some (.slice (some ⟨bB, oB, none⟩) n d) ∧ W.cell? ⟨bB, oB + v, none⟩ = some (.int .i64 x)))
 have B0 : Below W0.heap.size W0 W0.drew := (Below.refl _ _).drew
 clear g0 HJ HV
 go_enter Tryz.func192, Tryz.ntmps192
 go_wp2_with fail
 rw [HW0.out]
 go_region_held3 (fun W => W.cell? ⟨w.heap.size, 0, none⟩ = some (.int .i64 n) ∧ W.cell? ⟨w.heap.size, 1, none⟩ = some (.slice A es.length c) ∧ W.cell? ⟨w.heap.size, 2, none⟩ = some (.int .i64 q) ∧ W.cell? ⟨w.heap.size, 3, none⟩ = some (.slice (some ⟨bB, oB, none⟩) n d) ∧ W.cell? ⟨bB, oB + v, none⟩ = some (.int .i64 x)) (go_keep)
  (first
   | (go_at_call 252; refine (HJ2.out _ B0).mono ?_; rintro e wJ ⟨rfl, bJ⟩; have BJ := B0.trans (bJ.mono (Nat.le_refl _)); obtain ⟨j0, j1, j2, j3, j4⟩ := KC.out wJ BJ)
   | (go_at_call 252; refine (HJ2.out _ BV).mono ?_; rintro e wJ ⟨rfl, bJ⟩; have BJ := BV.trans (bJ.mono BV.size); obtain ⟨j0, j1, j2, j3, j4⟩ := KC.out wJ BJ)
   | (go_at_call 101; refine (HV2.out _ B0).mono ?_; rintro e wV ⟨rfl, bV⟩; have BV := B0.trans (bV.mono (Nat.le_refl _)); obtain ⟨l0, l1, l2, l3, l4⟩ := KC.out wV BV)
   | (go_at_call 101; refine (HV2.out _ BJ).mono ?_; rintro e wV ⟨rfl, bV⟩; have BV := BJ.trans (bV.mono BJ.size); obtain ⟨l0, l1, l2, l3, l4⟩ := KC.out wV BV))
 all_goals
  go_wp2
  go_ret
  first
   | exact ⟨rfl, hB0.trans (BV.mono hB0.size)⟩
   | exact ⟨rfl, hB0.trans (BJ.mono hB0.size)⟩
theorem stable_any (n : Nat) (hn12 : n ≤ 12) (A : Option Addr) (c : Nat) (es : List E3) (hn : es.length ≤ 10000) (hz : checkG n es = 0) (q : Nat) (B : Option Addr) (d : Nat) (cs : List Int) (hcl : cs.length = n) (w : World)
  (h : Reads w w.heap.size 3 A es.length (edgeCells es)) (h' : Reads w w.heap.size 1 B n (ints cs)) :
  Calls Tryz.prog 100 #[pileV n A es.length c q B n d] w fun e w' => e = .returned (.bool (stabTo es cs q n)) ∧ Below w.heap.size w w' := by
 have HV := Lib.hid (fun (v : Nat) (hv : v < n) (W : World) (hB : Below w.heap.size w W) => rvalence_any n A c es hn hz q B n d v hv W ((h.below hB).more hB.size))
 have g0 := Blk.new w 138 (pileC n A es.length c q B n d)
 have hB0 : Below w.heap.size w (w.alloc (.cells (pileC n A es.length c q B n d) 138)) := (Below.refl _ _).alloc (Nat.le_refl _) _
 have HCL := Lib.hid hcl
 clear hz hcl
 simp only [pileV, pileC] at g0 hB0 HV ⊢
 have c3 := g0.cell 3
 go_enter Tryz.func100, Tryz.ntmps100
 go_wp2_with fail
 go_loopw [3, 4, 8] (fun _ _ i wl => ∃ k : Nat, k ≤ n ∧ i = .int .i64 k ∧ Hid (stabTo es cs q k = true) ∧ Below w.heap.size w wl ∧ Blk wl w.heap.size 138 #[.int .i64 n, .slice A es.length c, .int .i64 q, .slice B n d]) (fun _ _ i _ => n - (intOf i).toNat)
 case atStart => exact ⟨0, by omega, rfl, by simp [Hid, stabTo], hB0, g0⟩
 case round =>
  obtain ⟨k, hk, rfl, HT, hbel, g1⟩ := hrel
  clear g0 c3 hB0
  by_cases hlt : k < n
  ·obtain ⟨x, hx⟩ := get_of_lt (xs := cs) (k := k) (by rw [HCL.out]; exact hlt)
   have hi : (k : Int) < (n : Int) := by omega
   obtain ⟨bB, oB, hA, hbB, hcell⟩ := (h'.below hbel).at_ (ints_at hx)
   subst hA
   have c0 := g1.cell 0
   have c1 := g1.cell 1
   have c2 := g1.cell 2
   have c3 := g1.cell 3
   have hst := stabTo_succ es cs q k
   rw [HT.out, Bool.true_and, getD_at hx] at hst
   have hge := fun hq hv => stabTo_false (es := es) (cs := cs) (q := q) (k := k) (n := n) hlt hq hv
   rw [getD_at hx] at hge
   have HG := Lib.hid hge
   clear hge
   by_cases hkq : k = q
   ·have n1 : ((k : Int) != (q : Int)) = false := by simp [hkq]
    rw [decide_eq_true hkq, Bool.true_or] at hst
    have HS := Lib.hid hst
    clear hst hx hkq
    go_wp2
    go_roundw
    case rel => exact ⟨k + 1, by omega, by go_num, HS.out, hbel, g1⟩
    case measure => simp [intOf]; omega
   ·have n1 : ((k : Int) != (q : Int)) = true := by rw [bne_iff_ne]; omega
    rw [decide_eq_false hkq, Bool.false_or] at hst
    have VC := Lib.hid (HV.out k hlt wr hbel)
    have HK := Lib.hid hkq
    by_cases hge : valE es k ≤ x
    ·have hsf := HG.out hkq hge
     have HS := Lib.hid hsf
     obtain ⟨V, hV⟩ : ∃ V, valE es k = V := ⟨_, rfl⟩
     rw [hV] at VC hge
     clear hst hsf hx hkq hV
     go_wp2_with (go_at_call 101; refine (VC.out).mono ?_; rintro e wV ⟨rfl, bV⟩)
     go_ret
     exact ⟨by rw [HS.out]; rfl, hbel.trans (bV.mono hbel.size)⟩
    ·rw [decide_eq_true (by omega)] at hst
     have HS := Lib.hid hst
     obtain ⟨V, hV⟩ : ∃ V, valE es k = V := ⟨_, rfl⟩
     rw [hV] at VC hge
     clear hst hx hkq hV
     go_wp2_with (go_at_call 101; refine (VC.out).mono ?_; rintro e wV ⟨rfl, bV⟩)
     go_roundw
     case rel => exact ⟨k + 1, by omega, by go_num, HS.out, hbel.trans (bV.mono hbel.size), g1.next bV⟩
     case measure => simp [intOf]; omega
  ·obtain rfl : k = n := by omega
   go_wp2
   go_ret
   exact ⟨by rw [HT.out]; rfl, hbel⟩
theorem wait_any (base bp n : Nat) (hn : n ≤ 12) (a : PA) (d : List Int) (q : Int) (rows : List (List Int)) (val fired : List Int) (total : Int) (ws : List Bool) (v : Nat) (hv : v < n) (w : World) (h : PileW w base bp n a d q rows val fired total ws) :
  Calls Tryz.prog 263 #[.pointer (some ⟨bp, 0, none⟩), .int .i64 v] w fun e w' => (∃ v, e = .returned v) ∧ PileW w' base bp n a d q rows val fired total (ws.set v (unst q d val v)) ∧ Only (fun k => k = bp) w w' := by
 have HU := Lib.hid (fun m => unstable_any base bp n a d q rows val fired total ws v hv _ (h.drewN m))
 have HP := Lib.hid h
 obtain ⟨b0, hb0⟩ := get_of_lt (xs := ws) (k := v) (by have := h.wl; omega)
 have hfz := h.blk.frozen (6 + v)
 have hce : w.cell? ⟨bp, 6 + v, none⟩ = some (.bool b0) := (h.blk.cell (6 + v)).trans (by rw [Nat.add_comm]; simp [pileCells, hb0])
 have hi : (v : Int) < 12 := by omega
 clear h
 go_enter Tryz.func263, Tryz.ntmps263
 go_wp2
 go_region_with (go_at_call 306; refine (HU.out 1).mono ?_; rintro e w1 ⟨rfl, m, rfl⟩)
 all_goals
  go_wp2
  exact bodyPost_end (results_none rfl _ _ _) rfl ⟨⟨_, rfl⟩, (HP.out.drewN _).setW v _, ((Only.refl (fun k => k = bp) w).drewN _).setCell (p := ⟨bp, 6 + v, none⟩) (.inl rfl) _⟩
def incE (xs : List Int) (i : Nat) : List Int := xs.set i (xs.getD i 0 + 1)
def incR (rows : List (List Int)) (a b : Nat) : List (List Int) := rows.set a (incE (rows.getD a []) b)
def edgeR (rows : List (List Int)) (p : Nat × Nat) : List (List Int) := if p.1 = p.2 then rows else incR (incR rows p.1 p.2) p.2 p.1
def edgeV (val : List Int) (p : Nat × Nat) : List Int := if p.1 = p.2 then val else incE (incE val p.1) p.2
def rowsL (n : Nat) (ps : List (Nat × Nat)) : List (List Int) := ps.foldl edgeR (List.replicate n (List.replicate n 0))
def valL (n : Nat) (ps : List (Nat × Nat)) : List Int := ps.foldl edgeV (List.replicate n 0)
def waitL (k : Nat) (q : Int) (d val : List Int) : List Bool := (List.range 12).map fun v => decide (v < k) && unst q d val v
theorem rowsL_snoc (n : Nat) {ps : List (Nat × Nat)} {k : Nat} {p : Nat × Nat} (h : ps[k]? = some p) : rowsL n (ps.take (k + 1)) = edgeR (rowsL n (ps.take k)) p := by rw [take_snoc h]; simp [rowsL]
theorem valL_snoc (n : Nat) {ps : List (Nat × Nat)} {k : Nat} {p : Nat × Nat} (h : ps[k]? = some p) : valL n (ps.take (k + 1)) = edgeV (valL n (ps.take k)) p := by rw [take_snoc h]; simp [valL]
theorem incE_length (xs : List Int) (i : Nat) : (incE xs i).length = xs.length := by simp [incE]
def TabBd (n : Nat) (K : Int) (rows : List (List Int)) : Prop := rows.length = n ∧ ∀ r ∈ rows, r.length = n ∧ ∀ x ∈ r, 0 ≤ x ∧ x ≤ K
def ValBd (n : Nat) (K : Int) (val : List Int) : Prop := val.length = n ∧ ∀ x ∈ val, 0 ≤ x ∧ x ≤ K
theorem ValBd.inc {n : Nat} {K : Int} {xs : List Int} (h : ValBd n K xs) (hK : 0 ≤ K) (i : Nat) : ValBd n (K + 1) (incE xs i) := by
 refine ⟨by rw [incE_length]; exact h.1, fun x hx => ?_⟩
 unfold incE at hx
 rcases List.mem_or_eq_of_mem_set hx with hx | rfl
 ·have := h.2 x hx; omega
 ·by_cases hi : i < xs.length
  ·rw [List.getD_eq_getElem?_getD, List.getElem?_eq_getElem hi, Option.getD_some]
   have := h.2 _ (List.getElem_mem hi); omega
  ·rw [List.getD_eq_getElem?_getD, List.getElem?_eq_none (by omega), Option.getD_none]; omega
theorem TabBd.inc {n : Nat} {K : Int} {rows : List (List Int)} (h : TabBd n K rows) (hK : 0 ≤ K) {a : Nat} (ha : a < n) (b : Nat) : TabBd n (K + 1) (incR rows a b) := by
 refine ⟨by unfold incR; rw [List.length_set]; exact h.1, fun r hr => ?_⟩
 unfold incR at hr
 rcases List.mem_or_eq_of_mem_set hr with hr | rfl
 ·have := h.2 r hr
  exact ⟨this.1, fun x hx => by have := this.2 x hx; omega⟩
 ·have hi : a < rows.length := by rw [h.1]; exact ha
  rw [List.getD_eq_getElem?_getD, List.getElem?_eq_getElem hi, Option.getD_some]
  exact ValBd.inc (h.2 _ (List.getElem_mem hi)) hK b
theorem edgeV_bd {n : Nat} {K : Int} {xs : List Int} (h : ValBd n K xs) (hK : 0 ≤ K) (p : Nat × Nat) : ValBd n (K + 2) (edgeV xs p) := by
 unfold edgeV
 split
 ·exact ⟨h.1, fun x hx => by have := h.2 x hx; omega⟩
 ·have := (h.inc hK p.1).inc (by omega) p.2
  exact ⟨this.1, fun x hx => by have := this.2 x hx; omega⟩
theorem edgeR_bd {n : Nat} {K : Int} {rows : List (List Int)} (h : TabBd n K rows) (hK : 0 ≤ K) {p : Nat × Nat} (h1 : p.1 < n) (h2 : p.2 < n) : TabBd n (K + 2) (edgeR rows p) := by
 unfold edgeR
 split
 ·exact ⟨h.1, fun r hr => ⟨(h.2 r hr).1, fun x hx => by have := (h.2 r hr).2 x hx; omega⟩⟩
 ·have := (h.inc hK h1 p.2).inc (by omega) h2 p.1
  exact ⟨this.1, fun r hr => ⟨(this.2 r hr).1, fun x hx => by have := (this.2 r hr).2 x hx; omega⟩⟩
theorem rep_bd (n : Nat) : ValBd n 0 (List.replicate n 0) := ⟨by simp, fun x hx => by rw [(List.mem_replicate.1 hx).2]; omega⟩
theorem valL_bd (n : Nat) (ps : List (Nat × Nat)) : ValBd n (2 * ps.length) (valL n ps) := by
 suffices h : ∀ (ps : List (Nat × Nat)) (K : Int) (xs : List Int), 0 ≤ K → ValBd n K xs → ValBd n (K + 2 * ps.length) (ps.foldl edgeV xs) by
  have := h ps 0 _ (Int.le_refl _) (rep_bd n)
  rwa [Int.zero_add] at this
 intro ps
 induction ps with
 | nil => intro K xs hK h; simpa using h
 | cons p ps ih =>
   intro K xs hK h
   have := ih (K + 2) _ (by omega) (edgeV_bd h hK p)
   rw [List.foldl_cons, List.length_cons]
   rwa [show K + 2 + 2 * (ps.length : Int) = K + 2 * ((ps.length + 1 : Nat) : Int) by omega] at this
theorem rowsL_bd (n : Nat) (ps : List (Nat × Nat)) (hp : ∀ p ∈ ps, p.1 < n ∧ p.2 < n) : TabBd n (2 * ps.length) (rowsL n ps) := by
 suffices h : ∀ (ps : List (Nat × Nat)) (K : Int) (xs : List (List Int)), (∀ p ∈ ps, p.1 < n ∧ p.2 < n) → 0 ≤ K → TabBd n K xs → TabBd n (K + 2 * ps.length) (ps.foldl edgeR xs) by
  have := h ps 0 (List.replicate n (List.replicate n 0)) hp (Int.le_refl _) ⟨by simp, fun r hr => by rw [(List.mem_replicate.1 hr).2]; exact rep_bd n⟩
  rwa [Int.zero_add] at this
 intro ps
 induction ps with
 | nil => intro K xs _ hK h; simpa using h
 | cons p ps ih =>
   intro K xs hp hK h
   have := ih (K + 2) _ (fun x hx => hp x (List.mem_cons_of_mem _ hx)) (by omega) (edgeR_bd h hK (hp p (List.mem_cons_self ..)).1 (hp p (List.mem_cons_self ..)).2)
   rw [List.foldl_cons, List.length_cons]
   rwa [show K + 2 + 2 * (ps.length : Int) = K + 2 * ((ps.length + 1 : Nat) : Int) by omega] at this
theorem endsL_ok {n : Nat} {es : List E3} (hok : ∀ e ∈ es, okE n e) : ∀ p ∈ endsL es, p.1 < n ∧ p.2 < n := by
 intro p hp
 unfold endsL at hp
 rw [List.mem_flatMap] at hp
 obtain ⟨e, he, hp⟩ := hp
 have h := hok e he
 unfold okE at h
 rw [(List.mem_replicate.1 hp).2]
 dsimp only
 omega
theorem waitL_succ (k : Nat) (hk : k < 12) (q : Int) (d val : List Int) : (waitL k q d val).set k (unst q d val k) = waitL (k + 1) q d val := by
 apply List.ext_getElem?
 intro i
 unfold waitL
 by_cases hi : i = k
 ·subst hi
  rw [List.getElem?_set_self (by simp; exact hk)]
  simp [hk]
 ·rw [List.getElem?_set_ne (fun e => hi e.symm), List.getElem?_map, List.getElem?_map]
  by_cases h12 : i < 12
  ·rw [List.getElem?_range h12]
   simp only [Option.map_some]
   rw [show decide (i < k) = decide (i < k + 1) by rw [decide_eq_decide]; omega]
  ·rw [List.getElem?_eq_none (by simp; omega)]; rfl
theorem waitL_zero (q : Int) (d val : List Int) : waitL 0 q d val = List.replicate 12 false := by
 unfold waitL
 simp [List.range_succ]
theorem mem_joinRow {f : Nat → Nat → Int} {a n : Nat} {e : E3} : e ∈ joinRow f a n ↔ ∃ b, a ≤ b ∧ b < n ∧ 0 < f a b ∧ e = ((a : Int), (b : Int), f a b) := by
 unfold joinRow
 rw [List.mem_filterMap]
 constructor
 ·rintro ⟨j, hj, h⟩
  rw [List.mem_range'_1] at hj
  split at h
  ·rename_i hp
   injection h with h
   exact ⟨j, hj.1, by omega, hp, h.symm⟩
  ·cases h
 ·rintro ⟨b, h1, h2, h3, rfl⟩
  exact ⟨b, by rw [List.mem_range'_1]; omega, by rw [if_pos h3]⟩
theorem mem_joinTo {f : Nat → Nat → Int} {n k : Nat} {e : E3} : e ∈ joinTo f n k ↔ ∃ a b, a < k ∧ a ≤ b ∧ b < n ∧ 0 < f a b ∧ e = ((a : Int), (b : Int), f a b) := by
 unfold joinTo
 rw [List.mem_flatMap]
 constructor
 ·rintro ⟨a, ha, h⟩
  obtain ⟨b, h1, h2, h3, h4⟩ := mem_joinRow.1 h
  exact ⟨a, b, by simpa using ha, h1, h2, h3, h4⟩
 ·rintro ⟨a, b, h0, h1, h2, h3, h4⟩
  exact ⟨a, by simpa using h0, mem_joinRow.2 ⟨b, h1, h2, h3, h4⟩⟩
theorem joinRow_sorted (f : Nat → Nat → Int) (a : Nat) : ∀ n, (joinRow f a n).Pairwise ltE
 | 0 => by rw [joinRow_none (by omega)]; exact .nil
 | n + 1 => by
   by_cases h : a ≤ n
   ·rw [joinRow_succ h, List.pairwise_append]
    refine ⟨joinRow_sorted f a n, ?_, ?_⟩
    ·split
     ·exact List.pairwise_singleton _ _
     ·exact .nil
    ·intro x hx y hy
     obtain ⟨b, h1, h2, h3, rfl⟩ := mem_joinRow.1 hx
     split at hy
     ·rw [List.mem_singleton] at hy
      subst hy
      unfold ltE; dsimp only; omega
     ·simp at hy
   ·rw [joinRow_none (by omega)]; exact .nil
theorem joinTo_sorted (f : Nat → Nat → Int) (n : Nat) : ∀ k, (joinTo f n k).Pairwise ltE
 | 0 => by simp [joinTo]
 | k + 1 => by
   rw [joinTo_succ, List.pairwise_append]
   refine ⟨joinTo_sorted f n k, joinRow_sorted f k n, ?_⟩
   intro x hx y hy
   obtain ⟨a, b, h0, h1, h2, h3, rfl⟩ := mem_joinTo.1 hx
   obtain ⟨b', h1', h2', h3', rfl⟩ := mem_joinRow.1 hy
   unfold ltE; dsimp only; omega
theorem joined_right {f : Nat → Nat → Int} {n : Nat} (h1 : 1 ≤ n) (hn : n ≤ 12) (hf : ∀ a b, a < n → b < n → f a b ≤ 50) : RightG n (joined f n) := by
 refine ⟨by omega, by omega, ?_, joinTo_sorted f n n⟩
 intro e he
 obtain ⟨a, b, h0, h2, h3, h4, rfl⟩ := mem_joinTo.1 he
 have := hf a b h0 h3
 unfold okE; dsimp only; omega
theorem cnt_le (ps : List (Nat × Nat)) (a b : Nat) : cnt ps a b ≤ ps.length := List.length_filter_le _ _
theorem cnt_pos {ps : List (Nat × Nat)} {a b : Nat} : 0 < cnt ps a b ↔ ∃ p ∈ ps, min p.1 p.2 = a ∧ max p.1 p.2 = b := by
 unfold cnt
 rw [List.length_pos_iff_exists_mem]
 constructor
 ·rintro ⟨p, hp⟩
  rw [List.mem_filter, Bool.and_eq_true, decide_eq_true_eq, decide_eq_true_eq] at hp
  exact ⟨p, hp.1, hp.2⟩
 ·rintro ⟨p, h1, h2⟩
  exact ⟨p, by rw [List.mem_filter, Bool.and_eq_true, decide_eq_true_eq, decide_eq_true_eq]; exact ⟨h1, h2⟩⟩
theorem made_right {n : Nat} {ps : List (Nat × Nat)} (h1 : 1 ≤ n) (hn : n ≤ 12) (hl : ps.length ≤ 50) : RightG n (madeS n ps) := joined_right h1 hn fun a b _ _ => by have := cnt_le ps a b; omega
theorem made_cn {n : Nat} {ps : List (Nat × Nat)} (h1 : 1 ≤ n) (hn : n ≤ 12) (hl : ps.length ≤ 50) (hb : BdP n ps) {a b : Nat} : Cn (endsL (madeS n ps)) a b ↔ Cn ps a b := by
 have hG := made_right h1 hn hl
 constructor
 ·intro h
  induction h with
  | refl => exact .refl
  | step _ hs ih =>
    have key : ∀ {x y : Nat}, (x, y) ∈ endsL (madeS n ps) → Cn ps x y := by
     intro x y hxy
     obtain ⟨e, he, e1, e2⟩ := (mem_endsL hG.ok).1 hxy
     obtain ⟨u, v, k0, k1, k2, k3, rfl⟩ := mem_joinTo.1 he
     dsimp only at e1 e2
     obtain ⟨p, hp, m1, m2⟩ := cnt_pos.1 (by omega : 0 < cnt ps u v)
     have hc := Cn.pair hp
     rcases Nat.le_total p.1 p.2 with h | h
     ·have q1 : p.1 = x := by omega
      have q2 : p.2 = y := by omega
      rw [q1, q2] at hc; exact hc
     ·have q1 : p.1 = y := by omega
      have q2 : p.2 = x := by omega
      rw [q1, q2] at hc; exact hc.symm
    rcases hs with hs | hs
    ·exact ih.trans (key hs)
    ·exact ih.trans (key hs).symm
 ·intro h
  induction h with
  | refl => exact .refl
  | step _ hs ih =>
    have key : ∀ {x y : Nat}, (x, y) ∈ ps → Cn (endsL (madeS n ps)) x y := by
     intro x y hxy
     have hb' := hb _ hxy
     dsimp only at hb'
     have hc : 0 < cnt ps (min x y) (max x y) := cnt_pos.2 ⟨(x, y), hxy, rfl, rfl⟩
     have hm : (((min x y : Nat) : Int), ((max x y : Nat) : Int), (cnt ps (min x y) (max x y) : Int)) ∈ madeS n ps := mem_joinTo.2 ⟨min x y, max x y, by omega, by omega, by omega, by omega, rfl⟩
     have : (min x y, max x y) ∈ endsL (madeS n ps) := (mem_endsL hG.ok).2 ⟨_, hm, rfl, rfl⟩
     have hc2 := Cn.pair this
     dsimp only at hc2
     rcases Nat.le_total x y with h | h
     ·rw [Nat.min_eq_left h, Nat.max_eq_right h] at hc2; exact hc2
     ·rw [Nat.min_eq_right h, Nat.max_eq_left h] at hc2; exact hc2.symm
    rcases hs with hs | hs
    ·exact ih.trans (key hs)
    ·exact ih.trans (key hs).symm
theorem made_parts {n : Nat} {ps : List (Nat × Nat)} (h1 : 1 ≤ n) (hn : n ≤ 12) (hl : ps.length ≤ 50) (hb : BdP n ps) : connB n (madeS n ps) = decide (partsP n ps = 1) := by
 rw [connB_parts (made_right h1 hn hl), partsP_congr fun _ _ => made_cn h1 hn hl hb]
theorem pairCells_pair2 (ps : List (Nat × Nat)) : pairCells ps = pair2 ps := by
 induction ps with
 | nil => rfl
 | cons p ps ih => rw [pairCells, ih]; rfl
def renFrom (n : Int) : List Int → List Int → Int
 | _, [] => 0
 | s, x :: r => if x < 0 ∨ n ≤ x then 2 else if x ∈ s then 7 else renFrom n (s ++ [x]) r
def renErr (n : Int) (xs : List Int) : Int := if (xs.length : Int) ≠ n then 8 else renFrom n [] xs
def provFrom (es : List E3) (cs : List Int) : List Nat → List Nat → Bool
 | _, [] => true
 | s, x :: r => decide (cs.getD x 0 < joinsN es x s) && provFrom es cs (s ++ [x]) r
def provL (es : List E3) (cs : List Int) (l : List Nat) : Bool := provFrom es cs (l.take 1) (l.drop 1)
def verErr (n : Int) (es : List E3) (q : Int) (cs xs : List Int) : Int := if burnErr n es q cs ≠ 0 then burnErr n es q cs else renErr n xs
def verB (n : Int) (es : List E3) (q : Int) (cs xs : List Int) : Bool := if verErr n es q cs xs = 0 then decide (xs.getD 0 0 = q) && provL es cs (xs.map Int.toNat) else false
theorem nats_toNat (l : List Nat) : (natsI l).map Int.toNat = l := by
 unfold natsI
 rw [List.map_map]
 have : l.map (Int.toNat ∘ fun u : Nat => (u : Int)) = l.map id := List.map_congr_left fun _ _ => rfl
 rw [this, List.map_id]
theorem natsI_getD (l : List Nat) (k : Nat) : (natsI l).getD k 0 = ((l.getD k 0 : Nat) : Int) := by
 simp only [List.getD_eq_getElem?_getD, natsI, List.getElem?_map]
 cases l[k]? <;> rfl
end Go.Proofs.YtnbikkcalcpedaaGreatDoor
namespace Go.Proofs.YtnbikkcalcpedaaGreatDoor
section
variable {n q : Nat} {E : List (Nat × Nat)} {S t u : List Nat} {e : Nat}
def InUv (E : List (Nat × Nat)) (n q : Nat) (S t : List Nat) : Prop := (∀ e ∈ t, e ∈ S) ∧ ∀ e, e < E.length → e ∈ S → e ∉ t → e ∈ unusedN E n q t
instance : Decidable (InUv E n q S t) := decidable_of_iff ((∀ e ∈ t, e ∈ S) ∧ ∀ e ∈ List.range E.length, e ∈ S → e ∉ t → e ∈ unusedN E n q t) ⟨fun h => ⟨h.1, fun e he => h.2 e (List.mem_range.2 he)⟩, fun h => ⟨h.1, fun e he => h.2 e (List.mem_range.1 he)⟩⟩
end
end Go.Proofs.YtnbikkcalcpedaaGreatDoor
namespace Go.Proofs.YtnbikkcalcpedaaGreatDoor
open Go.RowKit
abbrev wayF (bb bt be bf : Nat) : Value := .func (.func 188) #[] #[.pointer (some ⟨bb, 0, none⟩), .pointer (some ⟨bt, 0, none⟩), .pointer (some ⟨be, 0, none⟩), .pointer (some ⟨bf, 0, none⟩)]
structure WayW (W : World) (b : Nat) (E : List (Nat × Nat)) (t : List Nat) (Ar : Option Addr) (cr : Nat) (B : Option Addr) (d bb bt be bf base : Nat) : Prop where
 h1 : Blk W bb 3 #[.int .i64 b]
 h2 : Blk W bt 25 #[.slice B t.length d]
 h3 : Blk W be 48 #[.slice Ar E.length cr]
 h4 : Blk W bf 225 #[wayF bb bt be bf]
 r1 : Reads W base 2 Ar E.length (pair2 E)
 r2 : Reads W base 1 B t.length (ints (nI t))
 lo : base ≤ W.heap.size
theorem WayW.next {W W' : World} {b : Nat} {E : List (Nat × Nat)} {t : List Nat} {Ar : Option Addr} {cr : Nat} {B : Option Addr} {d bb bt be bf base : Nat} (h : WayW W b E t Ar cr B d bb bt be bf base) (hb : Below W.heap.size W W') : WayW W' b E t Ar cr B d bb bt be bf base :=
 ⟨h.h1.next hb, h.h2.next hb, h.h3.next hb, h.h4.next hb, h.r1.keep fun p hp => hb.cell (by have := h.lo; omega), h.r2.keep fun p hp => hb.cell (by have := h.lo; omega), Nat.le_trans h.lo hb.size⟩
end Go.Proofs.YtnbikkcalcpedaaGreatDoor
namespace Go.Proofs.YtnbikkcalcpedaaGreatDoor
open Go.RowKit Go.Shelf
attribute [local go_sem] Oper.semAt_some
abbrev growF (bN bY bE bG : Nat) : Value := .func (.func 160) #[] #[.pointer (some ⟨bN, 0, none⟩), .pointer (some ⟨bY, 0, none⟩), .pointer (some ⟨bE, 0, none⟩), .pointer (some ⟨bG, 0, none⟩)]
def Fix5 (bN bY bE bG : Nat) (Ar : Option Addr) (k : Nat) : Prop := k = bN ∨ k = bY ∨ k = bE ∨ k = bG ∨ blockOf Ar k
structure GrowW (W : World) (n : Nat) (E : List (Nat × Nat)) (Ar : Option Addr) (cr l bN bY bE bG base : Nat) : Prop where
 h1 : Blk W bN 3 #[.int .i64 n]
 h2 : Blk W bY 194 #[.func (.yield l) #[] #[]]
 h3 : Blk W bE 48 #[.slice Ar E.length cr]
 h4 : Blk W bG 195 #[growF bN bY bE bG]
 rd : Reads W base 2 Ar E.length (pair2 E)
 lo : base ≤ W.heap.size
 cap : E.length ≤ cr
theorem GrowW.only {W W' : World} {n : Nat} {E : List (Nat × Nat)} {Ar : Option Addr} {cr l bN bY bE bG base : Nat} {D : Nat → Prop} (h : GrowW W n E Ar cr l bN bY bE bG base) (ho : Only D W W') (hd : ∀ k, Fix5 bN bY bE bG Ar k → ¬ D k) : GrowW W' n E Ar cr l bN bY bE bG base :=
 ⟨h.h1.only ho (hd _ (.inl rfl)), h.h2.only ho (hd _ (.inr (.inl rfl))), h.h3.only ho (hd _ (.inr (.inr (.inl rfl)))), h.h4.only ho (hd _ (.inr (.inr (.inr (.inl rfl))))), reads_onlyN h.rd ho h.lo fun _ hk => hd _ (.inr (.inr (.inr (.inr hk)))), Nat.le_trans h.lo ho.size, h.cap⟩
theorem Only.tail {D D' : Nat → Prop} {a b c : World} (h : Only D a b) (k : Only D' b c) (hd : ∀ i, i < a.heap.size → D' i → D i) : Only D a c :=
 ⟨k.os.trans h.os, k.tape.trans h.tape, k.output.trans h.output, Nat.le_trans h.size k.size, fun i hi hn => (k.block i (Nat.lt_of_lt_of_le hi h.size) (fun hdi => hn (hd i hi hdi))).trans (h.block i hi hn)⟩
theorem Grows.tail {C C1 C2 O O' : Nat → Prop} {a b c : World} (h : Grows C O C1 a b) (k : Grows C1 O' C2 b c) (hs : a.heap.size ≤ b.heap.size) (hs2 : b.heap.size ≤ c.heap.size) (ho : ∀ i, O' i → a.heap.size ≤ i ∧ i < c.heap.size) : Grows C O C2 a c := fun i hi => by
 rcases k i hi with h1 | h1 | h1
 ·rcases h i h1 with h2 | h2 | h2
  ·exact .inl h2
  ·exact .inr (.inl h2)
  ·exact .inr (.inr ⟨h2.1, by omega⟩)
 ·exact .inr (.inr (ho i h1))
 ·exact .inr (.inr ⟨by omega, h1.2⟩)
theorem Grows.refl (C O : Nat → Prop) (a b : World) : Grows C O C a b := fun _ h => .inl h
end Go.Proofs.YtnbikkcalcpedaaGreatDoor
namespace Go.Proofs.YtnbikkcalcpedaaGreatDoor
open Go.RowKit
structure FireA where
 AE : Option Addr
 cE : Nat
 gB : Nat
 gT : Nat
 AS : Option Addr
 cS : Nat
 AO : Option Addr
 cO : Nat
 AD : Option Addr
 cD : Nat
 AH : Option Addr
 cH : Nat
def fireC (E : List (Nat × Nat)) (n : Nat) (lv : Value) (a : FireA) (s : FireS) (H : List Int) : Array Value :=
 #[.slice a.AE E.length a.cE, lv, .slice (some ⟨a.gB, 0, none⟩) n n, .slice (some ⟨a.gT, 0, none⟩) n n, .slice a.AS s.steps.length a.cS, .slice a.AO s.order.length a.cO, .slice a.AD s.tree.length a.cD, .slice a.AH H.length a.cH]
def Dj (A B : Option Addr) : Prop := ∀ k, blockOf A k → ¬ blockOf B k
theorem Dj.symm {A B : Option Addr} (h : Dj A B) : Dj B A := fun k h1 h2 => h k h2 h1
theorem Dj.upd {A A' B : Option Addr} {N : Nat} (h : Dj A B) (h1 : ∀ k, blockOf A' k → blockOf A k ∨ N ≤ k) (h2 : ∀ k, blockOf B k → k < N) : Dj A' B := fun k k1 k2 => by
 rcases h1 k k1 with h3 | h3
 ·exact h k h3 k2
 ·have := h2 k k2; omega
def bntL (n : Nat) (order : List Nat) : List Bool := (List.range n).map fun v => decide (v ∈ order)
theorem bntL_at {n v : Nat} {order : List Nat} (hv : v < n) : (bools (bntL n order))[v]? = some (.bool (decide (v ∈ order))) := by simp [bools, bntL, hv]
theorem bntL_set {n v : Nat} {order : List Nat} (hv : v < n) : (bools (bntL n order)).setIfInBounds v (.bool true) = bools (bntL n (order ++ [v])) := by
 apply Array.ext_getElem?
 intro i
 rw [Array.getElem?_setIfInBounds]
 by_cases hi : i < n
 ·rw [bntL_at (order := order) hi, bntL_at (order := order ++ [v]) hi]
  by_cases h : v = i
  ·subst h
   have hsz : v < (bools (bntL n order)).size := by simp [bools, bntL]; exact hv
   rw [if_pos rfl, if_pos hsz]; simp
  ·rw [if_neg h]; simp [show ¬ i = v from fun e => h e.symm]
 ·have h1 : (bools (bntL n order))[i]? = none := by simp [bools, bntL]; omega
  have h2 : (bools (bntL n (order ++ [v])))[i]? = none := by simp [bools, bntL]; omega
  rw [h1, h2]
  by_cases h : v = i
  ·omega
  ·rw [if_neg h]
structure FireW (w : World) (base b : Nat) (E : List (Nat × Nat)) (n : Nat) (lv : Value) (a : FireA) (s : FireS) (H : List Int) : Prop where
 blk : Blk w b 242 (fireC E n lv a s H)
 ends : Reads w base 2 a.AE E.length (pair2 E)
 burnt : Blk w a.gB 4 (bools (bntL n s.order))
 hb : base ≤ b
 hgB : base ≤ a.gB
 times : OwnI w base (some ⟨a.gT, 0, none⟩) n s.times
 tlen : s.times.length = n
 steps : OwnI w base a.AS a.cS (nI s.steps)
 order : OwnI w base a.AO a.cO (nI s.order)
 tree : OwnI w base a.AD a.cD (nI s.tree)
 next : OwnI w base a.AH a.cH H
 tS : Dj (some ⟨a.gT, 0, none⟩) a.AS
 tO : Dj (some ⟨a.gT, 0, none⟩) a.AO
 tD : Dj (some ⟨a.gT, 0, none⟩) a.AD
 tH : Dj (some ⟨a.gT, 0, none⟩) a.AH
 sO : Dj a.AS a.AO
 sD : Dj a.AS a.AD
 sH : Dj a.AS a.AH
 oD : Dj a.AO a.AD
 oH : Dj a.AO a.AH
 dH : Dj a.AD a.AH
section
variable {w w' : World} {base b n : Nat} {E : List (Nat × Nat)} {lv : Value} {a : FireA} {s : FireS} {H : List Int}
theorem own_ltI {A : Option Addr} {c : Nat} {xs : List Int} (h : OwnI w base A c xs) : ∀ k, blockOf A k → k < w.heap.size := fun _ hk => (own_lt h hk).2
theorem own_geI {A : Option Addr} {c : Nat} {xs : List Int} (h : OwnI w base A c xs) : ∀ k, blockOf A k → base ≤ k := fun _ hk => (own_lt h hk).1
theorem own_neB {A : Option Addr} {c g : Nat} {xs : List Int} {t : TypeId} {cs : Array Value} (h : OwnI w base A c xs) (hg : Blk w g t cs) (ht : 3 ≠ t) : ∀ k, blockOf A k → k ≠ g := fun _ hk => own_blk h hg ht hk
theorem FireW.ne (h : FireW w base b E n lv a s H) : a.gB ≠ b := fun e => Blk.ne_ h.burnt h.blk (by decide) e
theorem FireW.keep (h : FireW w base b E n lv a s H) (hs : base ≤ w.heap.size) (hb : Below w.heap.size w w') : FireW w' base b E n lv a s H := by
 refine { h with blk := h.blk.next hb, ends := h.ends.below (hb.mono hs), burnt := h.burnt.next hb, times := h.times.next hb, steps := h.steps.next hb, order := h.order.next hb, tree := h.tree.next hb, next := h.next.next hb }
theorem FireW.queue {H' : List Int} {A' : Option Addr} {c' : Nat} (h : FireW w base b E n lv a s H) (hO : OwnI w' base A' c' H') (hB : Blk w' b 242 ((fireC E n lv a s H).setIfInBounds 7 (.slice A' H'.length c'))) (hW : Only (fun k => ofA a.AH k ∨ k = b) w w') (hA : ∀ k, blockOf A' k → blockOf a.AH k ∨ w.heap.size ≤ k) (hs : base ≤ w.heap.size) :
  FireW w' base b E n lv { a with AH := A', cH := c' } s H' := by
 have keepI : ∀ {A : Option Addr} {c : Nat} {xs : List Int}, OwnI w base A c xs → Dj A a.AH → OwnI w' base A c xs := fun {A c xs} ho hd => own_kept ho fun k hk => hW.block k (own_ltI ho k hk) fun hc => by
  rcases hc with hc | hc
  ·exact hd k hk hc
  ·exact own_neB ho h.blk (by decide) k hk hc
 have hbel : Below base w w' := hW.below (fun k hk hc => by
  rcases hc with hc | hc
  ·have := own_geI h.next k hc; omega
  ·have := h.hb; omega) hs
 refine { blk := hB, ends := h.ends.below hbel, burnt := ?_, hb := h.hb, hgB := h.hgB, times := keepI h.times h.tH, tlen := h.tlen, steps := keepI h.steps h.sH, order := keepI h.order h.oH, tree := keepI h.tree h.dH, next := hO, tS := h.tS, tO := h.tO, tD := h.tD, tH := ?_, sO := h.sO, sD := h.sD, sH := ?_, oD := h.oD, oH := ?_, dH := ?_ }
 ·refine (hW.block a.gB h.burnt.lt fun hc => ?_).trans h.burnt
  rcases hc with hc | hc
  ·exact own_neB h.next h.burnt (by decide) _ hc rfl
  ·exact h.ne hc
 ·exact (h.tH.symm.upd hA (own_ltI h.times)).symm
 ·exact (h.sH.symm.upd hA (own_ltI h.steps)).symm
 ·exact (h.oH.symm.upd hA (own_ltI h.order)).symm
 ·exact (h.dH.symm.upd hA (own_ltI h.tree)).symm
theorem FireW.mark {v : Nat} {w1 : World} {A' : Option Addr} {c' : Nat} {x : Nat} (h : FireW w base b E n lv a s H) (hv : v < n)
  (hg : ((w.setCell ⟨a.gB, v, none⟩ (.bool true)).alloc (.cells #[.int .i64 v] 3)).grownBy w1 (Value.slice a.AO x a.cO).ownBlock)
  (hO : OwnI w1 base A' c' (nI (s.order ++ [v]))) (hA : ∀ k, blockOf A' k → blockOf a.AO k ∨ w.heap.size ≤ k) :
  FireW (w1.setCell ⟨b, 5, none⟩ (.slice A' (s.order.length + 1) c')) base b E n lv { a with AO := A', cO := c' } { s with order := s.order ++ [v] } H := by
 have hk : ∀ k, k < w.heap.size → k ≠ b → k ≠ a.gB → ¬ blockOf a.AO k → (w1.setCell ⟨b, 5, none⟩ (.slice A' (s.order.length + 1) c')).heap[k]? = w.heap[k]? := fun k k1 k2 k3 k4 =>
  (Below.heap_setCell w1 ⟨b, 5, none⟩ _ k k2).trans ((hg.block k (by simp [World.setCell]; omega) (fun e => k4 (blockOf_own.1 e.symm))).trans ((Below.heap_alloc (w.setCell ⟨a.gB, v, none⟩ (.bool true)) _ k (by simp [World.setCell]; exact k1)).trans (Below.heap_setCell w ⟨a.gB, v, none⟩ _ k k3)))
 have keepI : ∀ {A : Option Addr} {c : Nat} {xs : List Int}, OwnI w base A c xs → Dj A a.AO → OwnI (w1.setCell ⟨b, 5, none⟩ (.slice A' (s.order.length + 1) c')) base A c xs := fun {A c xs} ho hd => own_kept ho fun k k1 => hk k (own_ltI ho k k1) (own_neB ho h.blk (by decide) k k1) (own_neB ho h.burnt (by decide) k k1) (hd k k1)
 have b1 : Blk w1 b 242 (fireC E n lv a s H) := (hg.block b (by have := h.blk.lt; simp [World.setCell]; omega) (fun e => own_neB h.order h.blk (by decide) b (blockOf_own.1 e.symm) rfl)).trans ((h.blk.far (p := ⟨a.gB, v, none⟩) (fun e => h.ne e.symm) _).alloc _)
 have g1 : Blk w1 a.gB 4 (bools (bntL n (s.order ++ [v]))) := by
  rw [← bntL_set hv]
  exact (hg.block a.gB (by have := h.burnt.lt; simp [World.setCell]; omega) (fun e => own_neB h.order h.burnt (by decide) a.gB (blockOf_own.1 e.symm) rfl)).trans ((h.burnt.set_ v _).alloc _)
 have hO' : OwnI (w1.setCell ⟨b, 5, none⟩ (.slice A' (s.order.length + 1) c')) base A' c' (nI (s.order ++ [v])) := own_kept hO fun k k1 => Below.heap_setCell w1 ⟨b, 5, none⟩ _ k (own_neB hO b1 (by decide) k k1)
 refine { blk := ?_, ends := ?_, burnt := g1.far (fun e => h.ne e) _, hb := h.hb, hgB := h.hgB, times := keepI h.times h.tO, tlen := h.tlen, steps := keepI h.steps h.sO, order := hO', tree := keepI h.tree h.oD.symm, next := keepI h.next h.oH.symm, tS := h.tS, tO := ?_, tD := h.tD, tH := h.tH, sO := ?_, sD := h.sD, sH := h.sH, oD := ?_, oH := ?_, dH := h.dH }
 ·have := b1.set_ 5 (.slice A' (s.order.length + 1) c')
  have e : (fireC E n lv a s H).setIfInBounds 5 (.slice A' (s.order.length + 1) c') = fireC E n lv { a with AO := A', cO := c' } { s with order := s.order ++ [v] } H := by simp [fireC]
  rw [e] at this; exact this
 ·refine h.ends.keep fun p hp => ?_
  have h1 := h.hb
  have h2 := h.hgB
  have hne : ¬ blockOf a.AO p.block := fun hc => by have := own_geI h.order _ hc; omega
  have e := hk p.block (by have := h.burnt.lt; omega) (by omega) (by omega) hne
  simp only [World.cell?, e]
 ·exact (h.tO.symm.upd hA (own_ltI h.times)).symm
 ·exact (h.sO.symm.upd hA (own_ltI h.steps)).symm
 ·exact h.oD.upd hA (own_ltI h.tree)
 ·exact h.oH.upd hA (own_ltI h.next)
end
theorem new_push {E : List (Nat × Nat)} {order : List Nat} {v k x0 x1 : Nat} (hp : E.getD k (0, 0) = (x0, x1)) (h0 : x0 ≠ x1) (h1 : x0 = v ∨ x1 = v) (h2 : x0 + x1 - v ∉ order) : newL E order v (k + 1) = newL E order v k ++ [k] := by
 unfold newL
 rw [List.range_succ, List.filter_append, List.filter_cons, hp]
 have : (decide (x0 ≠ x1) && (decide (x0 = v) || decide (x1 = v)) && !decide (x0 + x1 - v ∈ order)) = true := by
  rw [decide_eq_true h0, decide_eq_false h2]
  rcases h1 with h1 | h1 <;> simp [h1]
 simp only [this, if_pos, List.filter_nil]
theorem new_skip {E : List (Nat × Nat)} {order : List Nat} {v k x0 x1 : Nat} (hp : E.getD k (0, 0) = (x0, x1)) (h : x0 = x1 ∨ (x0 ≠ v ∧ x1 ≠ v) ∨ x0 + x1 - v ∈ order) : newL E order v (k + 1) = newL E order v k := by
 unfold newL
 rw [List.range_succ, List.filter_append, List.filter_cons, hp]
 have : (decide (x0 ≠ x1) && (decide (x0 = v) || decide (x1 = v)) && !decide (x0 + x1 - v ∈ order)) = false := by
  rcases h with h | ⟨h, h'⟩ | h
  ·simp [h]
  ·simp [h, h']
  ·simp [h]
 simp only [this]
 simp
end Go.Proofs.YtnbikkcalcpedaaGreatDoor
