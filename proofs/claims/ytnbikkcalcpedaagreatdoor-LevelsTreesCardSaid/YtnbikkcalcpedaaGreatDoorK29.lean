/-
 Texts of this claim, put together: Settle, DulP, RFire, RForbP, WavesP, RPath, BtW, DualT, TCount, Lights, BurnF.
-/
import Derived.Test.YtnbikkcalcpedaaGreatDoorK27
import Derived.Deep.RegionHeld3
import Derived.Test.YtnbikkcalcpedaaGreatDoorK08
import Derived.Test.YtnbikkcalcpedaaGreatDoorK26
import Derived.Test.YtnbikkcalcpedaaGreatDoorK11
import Derived.Test.YtnbikkcalcpedaaGreatDoorK04
import Derived.Deep.CutRange
import Derived.Deep.CutBlock
import Derived.Deep.RegionLaw
import Derived.Test.YtnbikkcalcpedaaGreatDoorK05
import Derived.Test.YtnbikkcalcpedaaGreatDoorK28
import Derived.Deep.QuietTactic
import Derived.BigQuiet
import Derived.BigRegion
set_option maxRecDepth 100000
set_option maxHeartbeats 8000000
namespace Go.Proofs.YtnbikkcalcpedaaGreatDoor
open Go.RowKit
section
variable {n q : Nat} {es : List E3}
end
structure SArgs (n q : Nat) (es : List E3) (d : List Int) : Prop where
 hlen : es.length ≤ 10000
 hz : checkG n es = 0
 hC : AllConn n es
 hq : q < n
 dl : d.length = n
 db : ∀ v, v < n → -1048576 ≤ d.getD v 0 ∧ d.getD v 0 ≤ 1048576
 d0 : ∀ v, v < n → v ≠ q → 0 ≤ d.getD v 0
end Go.Proofs.YtnbikkcalcpedaaGreatDoor
namespace Go.Proofs.YtnbikkcalcpedaaGreatDoor
open Go.RowKit
def dulTo (n : Nat) (es : List E3) (cs : List Int) (q k : Nat) : List Int := (List.range n).map fun v : Nat => if v < k ∧ v ≠ q then valE es v - 1 - cs.getD v 0 else 0
def dulL (n : Nat) (es : List E3) (cs : List Int) (q : Nat) : List Int := dulTo n es cs q n
theorem dulTo_length (n : Nat) (es : List E3) (cs : List Int) (q k : Nat) : (dulTo n es cs q k).length = n := by simp [dulTo]
theorem dulL_length (n : Nat) (es : List E3) (cs : List Int) (q : Nat) : (dulL n es cs q).length = n := dulTo_length n es cs q n
theorem dulTo_zero (n : Nat) (es : List E3) (cs : List Int) (q : Nat) : dulTo n es cs q 0 = List.replicate n 0 := by
 apply List.ext_getElem?
 intro i
 unfold dulTo
 by_cases hi : i < n
 ·simp [hi]
 ·simp [hi]
theorem dulTo_sink (n : Nat) (es : List E3) (cs : List Int) (q : Nat) : dulTo n es cs q (q + 1) = dulTo n es cs q q := by
 unfold dulTo
 apply List.map_congr_left
 intro v _
 by_cases h1 : v < q
 ·rw [if_pos ⟨by omega, by omega⟩, if_pos ⟨h1, by omega⟩]
 ·rw [if_neg (by omega), if_neg (by omega)]
theorem dulTo_succ (n : Nat) (es : List E3) (cs : List Int) (q k : Nat) (hk : k ≠ q) : dulTo n es cs q (k + 1) = (dulTo n es cs q k).set k (valE es k - 1 - cs.getD k 0) := by
 apply List.ext_getElem?
 intro i
 unfold dulTo
 by_cases hi : i < n
 ·by_cases h : i = k
  ·subst h
   rw [List.getElem?_set_self (by simpa using hi)]
   simp [hi, hk]
  ·rw [List.getElem?_set_ne (fun e => h e.symm)]
   simp only [List.getElem?_map, List.getElem?_range hi, Option.map_some]
   by_cases h2 : i < k ∧ i ≠ q
   ·rw [if_pos h2, if_pos ⟨by omega, h2.2⟩]
   ·rw [if_neg h2, if_neg (by omega)]
 ·rw [List.getElem?_eq_none (by simp; omega), List.getElem?_eq_none (by simp; omega)]
theorem dulL_get {n v : Nat} (es : List E3) (cs : List Int) (q : Nat) (hv : v < n) : (dulL n es cs q).getD v 0 = if v = q then 0 else valE es v - 1 - cs.getD v 0 := by
 unfold dulL dulTo
 rw [List.getD_eq_getElem?_getD]
 simp only [List.getElem?_map, List.getElem?_range hv, Option.map_some, Option.getD_some]
 by_cases h : v = q
 ·rw [if_neg (fun e => e.2 h), if_pos h]
 ·rw [if_pos ⟨hv, h⟩, if_neg h]
def lenV : Value → Nat
 | .slice _ n _ => n
 | _ => 0
theorem marks_nil (n : Nat) : marks n [] = List.replicate n false := by
 unfold marks
 apply List.ext_getElem?
 intro i
 by_cases hi : i < n <;> simp [hi]
structure RArgs (n : Nat) (es : List E3) (cs : List Int) : Prop where
 hn : es.length ≤ 10000
 hz : checkG n es = 0
 hcl : cs.length = n
 hcb : ∀ x ∈ cs, -1048576 ≤ x ∧ x ≤ 1048577
theorem rfire_any (n : Nat) (A : Option Addr) (c : Nat) (es : List E3) (q : Nat) (hq : q < n) (B : Option Addr) (d : Nat) (cs : List Int) (hR : RArgs n es cs) (w : World)
  (h : Reads w w.heap.size 3 A es.length (edgeCells es)) (h' : Reads w w.heap.size 1 B n (ints cs)) :
  Calls Tryz.prog 138 #[pileV n A es.length c q B n d] w fun e w' => ∃ A' c', e = .returned (.slice A' (recL n es cs q).length c') ∧ OwnI w' w.heap.size A' c' (natI (recL n es cs q)) ∧ Below w.heap.size w w' := by
 have hG := right_of hR.hz
 have hn12 : n ≤ 12 := by have := hG.hi; omega
 have HCT := Lib.hid (fun (v : Nat) (hv : v < n) (g : Nat) (l : List Nat) (W : World) (hB : Below w.heap.size w W) (hm : Blk W g 4 (bools (marks n l))) => rcatches_any n A c es hR.hn hR.hz q B d cs hR.hcl hR.hcb v hv g l W ((h.below hB).more hB.size) ((h'.below hB).more hB.size) hm)
 have HCD := Lib.hid (fun (l : List Nat) (hl : LOk n l) (v : Nat) (hv : v < n) => cat_dual hG cs hl hv)
 have g0 := Blk.new w 138 (pileC n A es.length c q B n d)
 have hB0 : Below w.heap.size w (w.alloc (.cells (pileC n A es.length c q B n d) 138)) := (Below.refl _ _).alloc (Nat.le_refl _) _
 have hmb := make_bools n (by omega)
 have hqi : (q : Int) < (n : Int) := by omega
 clear hG h h'
 simp only [pileV, pileC] at g0 hB0 HCT ⊢
 have c0 := g0.cell 0
 have c2 := g0.cell 2
 have M0 := Blk.new (w.alloc (.cells #[.int .i64 n, .slice A es.length c, .int .i64 q, .slice B n d] 138)) 4 (bools (List.replicate n false))
 have hs1 : (w.alloc (.cells #[.int .i64 n, .slice A es.length c, .int .i64 q, .slice B n d] 138)).heap.size = w.heap.size + 1 := by simp
 rw [hs1] at M0
 have mq := M0.cell q
 rw [bools_get (show (List.replicate n false)[q]? = some false by simp [hq])] at mq
 have mf := M0.frozen q
 have g1 := g0.alloc (.cells (bools (List.replicate n false)) 4)
 have d0 := g1.cell 0
 have d2 := g1.cell 2
 have M1 := Blk.new (w.alloc (.cells #[.int .i64 n, .slice A es.length c, .int .i64 q, .slice B n d] 138)) 4 ((bools (List.replicate n false)).setIfInBounds q (.bool true))
 have hmk : (bools (List.replicate n false)).setIfInBounds q (.bool true) = bools (marks n [q]) := by rw [bools_set, ← marks_nil, marks_set hq, List.nil_append]
 have g2 := g0.alloc (.cells ((bools (List.replicate n false)).setIfInBounds q (.bool true)) 4)
 have hB2 := hB0.alloc (by simp) (.cells ((bools (List.replicate n false)).setIfInBounds q (.bool true)) 4)
 have e2 := g2.cell 2
 have HMK := Lib.hid hmk
 clear hmk
 obtain ⟨D, hD⟩ : ∃ D, dualL n es cs = D := ⟨_, rfl⟩
 rw [hD] at HCD
 have HRL : Hid (burnL es D n n [q] = recL n es cs q) := by rw [← hD]; rfl
 obtain ⟨R, hRR⟩ : ∃ R, recL n es cs q = R := ⟨_, rfl⟩
 rw [hRR] at HRL ⊢
 go_enter Tryz.func138, Tryz.ntmps138
 go_wp2_with fail
 obtain ⟨W1, hW1⟩ : ∃ W1, (w.alloc (.cells #[.int .i64 n, .slice A es.length c, .int .i64 q, .slice B n d] 138)).alloc (.cells ((bools (List.replicate n false)).setIfInBounds q (.bool true)) 4) = W1 := ⟨_, rfl⟩
 have hsW : W1.heap.size = w.heap.size + 2 := by rw [← hW1]; simp
 rw [hW1] at M1 g2 hB2 e2 ⊢
 rw [HMK.out, hs1] at M1
 have O3 := OwnI.of_blk (base := w.heap.size) (Blk.new W1 3 (intCells [(q : Int)])) (by omega) (by simp [maxLen])
 have M3 := M1.alloc (.cells (intCells [(q : Int)]) 3)
 have G3 := g2.alloc (.cells (intCells [(q : Int)]) 3)
 have B3 := hB2.alloc hB2.size (.cells (intCells [(q : Int)]) 3)
 rw [show (#[.int .i64 (q : Int)] : Array Value) = intCells [(q : Int)] from rfl]
 clear hD hRR g0 hB0 c0 c2 M0 mq mf g1 d0 d2 M1 g2 hB2 e2 hW1 hs1 hmb
 rw [hsW] at O3
 go_loopw [4, 5, 6, 27] (fun o _ _ _ wl => ∃ (A' : Option Addr) (c' : Nat) (l : List Nat), o = .slice A' (natI l).length c' ∧ (natI l).length ≤ n ∧ Hid (LOk n l) ∧ Hid (burnL es D n n l = R) ∧ OwnI wl w.heap.size A' c' (natI l) ∧ Blk wl (w.heap.size + 1) 4 (bools (marks n l)) ∧
  Blk wl w.heap.size 138 #[.int .i64 n, .slice A es.length c, .int .i64 q, .slice B n d] ∧ Below w.heap.size w wl) (fun o _ _ _ _ => n - lenV o)
 case atStart => exact ⟨_, _, [q], by rfl, by simp [natI]; omega, lok_one hq, HRL.out, O3, M3, G3, B3⟩
 case round =>
  obtain ⟨A', c', l, rfl, hll, HLO, HBL, ol, ml, gl, bl⟩ := hrel
  clear O3 M3 G3 B3
  have c0 := gl.cell 0
  have hz1 := bl.size
  obtain ⟨wo, rfl⟩ : ∃ wo : World, wo = wr := ⟨_, rfl⟩
  have hln : Hid ((natI l).length = l.length) := natI_length l
  by_cases hlt : (natI l).length < n
  ·have hi : ((natI l).length : Int) < (n : Int) := by omega
   go_wp2_with fail
   go_loopw [5, 6, 27] (fun nx _ i w2 => ∃ u : Nat, nx = .int .i64 (-1) ∧ i = .int .i64 u ∧ u ≤ n ∧ Hid (∀ x, x < u → catL es D l x = false) ∧ Below wo.heap.size wo w2) (fun _ _ i _ => n - (intOf i).toNat)
   case atStart => exact ⟨0, rfl, rfl, by omega, fun x hx => by omega, Below.refl _ _⟩
   case round =>
    obtain ⟨u, rfl, rfl, hu, HU, b2⟩ := hrel
    clear c0
    have m2 := ml.next b2
    have g2 := gl.next b2
    have o2 := ol.next b2
    have B2 := bl.trans (b2.mono hz1)
    have c0 := g2.cell 0
    have c1 := g2.cell 1
    have c2 := g2.cell 2
    have c3 := g2.cell 3
    by_cases hun : u < n
    ·have hui : (u : Int) < (n : Int) := by omega
     have mu := (m2.cell u).trans (bools_get (marks_get hun l))
     have hcd := HCD.out l HLO.out u hun
     by_cases hm : u ∈ l
     ·rw [decide_eq_true hm] at mu hcd
      rw [Bool.not_true, Bool.false_and] at hcd
      have HC := Lib.hid hcd
      clear hcd hm
      go_wp2
      go_roundw
      case rel => exact ⟨u + 1, rfl, by go_num, by omega, fun x hx => by
       by_cases he : x = u
       ·subst he; exact HC.out
       ·exact HU.out x (by omega), b2⟩
      case measure => simp [intOf]; omega
     ·rw [decide_eq_false hm] at mu hcd
      rw [Bool.not_false, Bool.true_and] at hcd
      have CT := HCT.out u hun (w.heap.size + 1) l wr B2 m2
      have HM := Lib.hid hm
      cases hcb : catchB es cs l u
      ·rw [hcb] at hcd CT
       have CT := Lib.hid CT
       have HC := Lib.hid hcd
       clear hcd hm hcb
       go_wp2_with (go_at_call 192; refine (CT.out).mono ?_; rintro e w5 ⟨rfl, b5⟩)
       go_roundw
       case rel => exact ⟨u + 1, rfl, by go_num, by omega, fun x hx => by
        by_cases he : x = u
        ·subst he; exact HC.out
        ·exact HU.out x (by omega), b2.trans (b5.mono b2.size)⟩
       case measure => simp [intOf]; omega
      ·rw [hcb] at hcd CT
       have CT := Lib.hid CT
       have hhead := head_ready_of hun hcd HU.out
       have HB2 := Lib.hid ((burnL_next HLO.out hhead).symm.trans HBL.out)
       have HL2 := Lib.hid (HLO.out.snoc HM.out hun)
       clear hcd hm hcb hhead
       have hl1 : (natI l).length ≤ 1048000 := by omega
       have hwz : w.heap.size ≤ w.heap.size + 1 := by omega
       have hne1 : ((u : Int) < 0) = False := by simp
       have hne2 : decide ((u : Int) < 0) = false := by simp
       go_wp2_with (first
        | (go_at_call 192; refine (CT.out).mono ?_; rintro e w5 ⟨rfl, b5⟩; have m5 := m2.next b5; have f5 := m5.frozen u; have k5 := (m5.cell u).trans (bools_get (marks_get hun l)); have o5 := o2.next b5; have g5 := g2.next b5; have B5 := B2.trans (b5.mono B2.size); have m6 := m5.set_ u (.bool true); have g6 := g5.far (p := ⟨w.heap.size + 1, u, none⟩) (by simp) (.bool true); have o6 := o5.set_blk m5 (by decide) u (.bool true); have B6 := B5.setCell (p := ⟨w.heap.size + 1, u, none⟩) hwz (.bool true); have s6 := B6.size)
        | (at_builtin; go_loud (refine push_int rfl (.tmp 48) (.tmp 50) _ rfl Tryz.underlying25 w.heap.size A' c' (natI l) (u : Int) rfl o6 rfl (by simp [World.setCell]) hl1 s6 ?_); intro A7 c7 w7 o7 gr7 b7))
       have m7 := (m6.alloc (.cells #[.int .i64 u] 3)).grown gr7 (own_blk_ne o6 m6 (by decide))
       have g7 := (g6.alloc (.cells #[.int .i64 u] 3)).grown gr7 (own_blk_ne o6 g6 (by decide))
       rw [bools_set, marks_set hun] at m7
       go_roundw
       case rel =>
        refine ⟨A7, c7, l ++ [u], by rw [natI_snoc]; simp, by rw [natI_snoc]; simp; omega, HL2, HB2, by rw [natI_snoc]; exact o7, m7, g7, B6.trans b7⟩
       case measure => simp [lenV]; omega
    ·obtain rfl : u = n := by omega
     have hnone := ready_none HU.out
     have hRl : R = l := by rw [← HBL.out, burnL_stop (by rw [hnone]; rfl)]
     have HRl := Lib.hid hRl
     clear hRl hnone
     go_wp2
     go_ret
     exact ⟨A', c', by rw [HRl.out, ← hln.out]; rfl, by rw [HRl.out]; exact o2, B2⟩
  ·have hi : ¬ ((natI l).length : Int) < (n : Int) := by omega
   have hRl : R = l := by rw [← HBL.out]; exact burn_full HLO.out (by have := hln.out; omega)
   have HRl := Lib.hid hRl
   clear hRl
   go_wp2
   go_ret
   exact ⟨A', c', by rw [HRl.out, ← hln.out]; rfl, by rw [HRl.out]; exact ol, bl⟩
def worstL (n : Nat) (es : List E3) (cs : List Int) (q : Nat) : List Nat := restL n (recL n es cs q)
theorem full_iff {n q : Nat} {es : List E3} {cs : List Int} (hq : q < n) : (recL n es cs q).length = n ↔ worstL n es cs q = [] := by
 have := rest_len (recL n es cs q) (recL_ok hq)
 unfold worstL
 rw [← List.length_eq_zero_iff]
 omega
theorem recB_mono {n q : Nat} {es : List E3} (hG : RightG n es) (hq : q < n) {x y : List Int} (h : ∀ i, i < n → x.getD i 0 ≤ y.getD i 0) (hy : stabTo es y q n = true) (hx : recB n es x q = true) : recB n es y q = true := by
 unfold recB at hx ⊢
 rw [Bool.and_eq_true] at hx ⊢
 refine ⟨hy, ?_⟩
 have h1 := of_decide_eq_true hx.2
 refine decide_eq_true ?_
 rw [full_iff hq] at h1 ⊢
 unfold worstL at h1 ⊢
 have hf := fewer_burn (n := n) (q := q) (es := es) (fun a b => (btw_bd hG.ok a b).1) hq (cs := dualL n es x) (ds := dualL n es y) (fun v hv => by rw [dualL_get es x hv, dualL_get es y hv]; have := h v hv; omega)
 apply List.eq_nil_iff_forall_not_mem.2
 intro u hu
 obtain ⟨h2, h3⟩ := mem_rest.1 hu
 apply h3
 refine hf u ?_
 apply Classical.byContradiction
 intro hn
 have := mem_rest.2 ⟨h2, hn⟩
 unfold recL at h1
 rw [h1] at this
 cases this
theorem stabTo_iff {n q : Nat} {es : List E3} {cs : List Int} : stabTo es cs q n = true ↔ ∀ v, v < n → v ≠ q → cs.getD v 0 < valE es v := by
 unfold stabTo
 rw [List.all_eq_true]
 constructor
 ·intro h v hv hq
  have := h v (List.mem_range.2 hv)
  rw [decide_eq_false hq, Bool.false_or] at this
  exact of_decide_eq_true this
 ·intro h v hv
  by_cases hq : v = q
  ·simp [hq]
  ·rw [decide_eq_true (h v (List.mem_range.1 hv) hq), Bool.or_true]
end Go.Proofs.YtnbikkcalcpedaaGreatDoor
namespace Go.Proofs.YtnbikkcalcpedaaGreatDoor
section
variable {es : List E3} {cs : List Int} {n : Nat}
end
end Go.Proofs.YtnbikkcalcpedaaGreatDoor
namespace Go.Proofs.YtnbikkcalcpedaaGreatDoor
open Go.RowKit
structure BtA where
 AS : Option Addr
 cS : Nat
 AO : Option Addr
 cO : Nat
 AD : Option Addr
 cD : Nat
 gT : Nat
def btC (n : Nat) (a : BtA) (s : FireS) : Array Value := #[.slice a.AS s.steps.length a.cS, .slice a.AO s.order.length a.cO, .slice a.AD s.tree.length a.cD, .slice (some ⟨a.gT, 0, none⟩) n n]
structure BtW (w : World) (base b n : Nat) (a : BtA) (s : FireS) : Prop where
 blk : Blk w b 246 (btC n a s)
 hb : base ≤ b
 times : OwnI w base (some ⟨a.gT, 0, none⟩) n s.times
 tlen : s.times.length = n
 steps : OwnI w base a.AS a.cS (nI s.steps)
 order : OwnI w base a.AO a.cO (nI s.order)
 tree : OwnI w base a.AD a.cD (nI s.tree)
 tS : Dj (some ⟨a.gT, 0, none⟩) a.AS
 tO : Dj (some ⟨a.gT, 0, none⟩) a.AO
 tD : Dj (some ⟨a.gT, 0, none⟩) a.AD
 sO : Dj a.AS a.AO
 sD : Dj a.AS a.AD
 oD : Dj a.AO a.AD
section
variable {w w' : World} {base b n : Nat} {a : BtA} {s : FireS}
theorem BtW.keep (h : BtW w base b n a s) (hb : Below w.heap.size w w') : BtW w' base b n a s :=
 { h with blk := h.blk.next hb, times := h.times.next hb, steps := h.steps.next hb, order := h.order.next hb, tree := h.tree.next hb }
theorem BtW.step {e : Nat} {w1 : World} {A' : Option Addr} {c' x : Nat} (h : BtW w base b n a s)
  (hg : (w.alloc (.cells #[.int .i64 e] 3)).grownBy w1 (Value.slice a.AS x a.cS).ownBlock)
  (hO : OwnI w1 base A' c' (nI (s.steps ++ [e]))) (hA : ∀ k, blockOf A' k → blockOf a.AS k ∨ w.heap.size ≤ k) :
  BtW (w1.setCell ⟨b, 0, none⟩ (.slice A' (s.steps.length + 1) c')) base b n { a with AS := A', cS := c' } { s with steps := s.steps ++ [e] } := by
 have hk : ∀ k, k < w.heap.size → k ≠ b → ¬ blockOf a.AS k → (w1.setCell ⟨b, 0, none⟩ (.slice A' (s.steps.length + 1) c')).heap[k]? = w.heap[k]? := fun k k1 k2 k4 =>
  (Below.heap_setCell w1 ⟨b, 0, none⟩ _ k k2).trans ((hg.block k (by simp; omega) (fun e => k4 (blockOf_own.1 e.symm))).trans (Below.heap_alloc w _ k k1))
 have keepI : ∀ {A : Option Addr} {c : Nat} {xs : List Int}, OwnI w base A c xs → Dj A a.AS → OwnI (w1.setCell ⟨b, 0, none⟩ (.slice A' (s.steps.length + 1) c')) base A c xs := fun {A c xs} ho hd => own_kept ho fun k k1 => hk k (own_ltI ho k k1) (own_neB ho h.blk (by decide) k k1) (hd k k1)
 have b1 : Blk w1 b 246 (btC n a s) := (hg.block b (by have := h.blk.lt; simp; omega) (fun e => own_neB h.steps h.blk (by decide) b (blockOf_own.1 e.symm) rfl)).trans (h.blk.alloc _)
 have hO' : OwnI (w1.setCell ⟨b, 0, none⟩ (.slice A' (s.steps.length + 1) c')) base A' c' (nI (s.steps ++ [e])) := own_kept hO fun k k1 => Below.heap_setCell w1 ⟨b, 0, none⟩ _ k (own_neB hO b1 (by decide) k k1)
 refine { blk := ?_, hb := h.hb, times := keepI h.times h.tS, tlen := h.tlen, steps := hO', order := keepI h.order h.sO.symm, tree := keepI h.tree h.sD.symm, tS := (h.tS.symm.upd hA (own_ltI h.times)).symm, tO := h.tO, tD := h.tD, sO := h.sO.upd hA (own_ltI h.order), sD := h.sD.upd hA (own_ltI h.tree), oD := h.oD }
 have := b1.set_ 0 (.slice A' (s.steps.length + 1) c')
 have e : (btC n a s).setIfInBounds 0 (.slice A' (s.steps.length + 1) c') = btC n { a with AS := A', cS := c' } { s with steps := s.steps ++ [e] } := by simp [btC]
 rw [e] at this; exact this
theorem BtW.time (h : BtW w base b n a s) (v : Nat) (x : Int) : BtW (w.setCell ⟨a.gT, v, none⟩ (.int .i64 x)) base b n a { s with times := s.times.set v x } := by
 have hT : blockOf (some ⟨a.gT, 0, none⟩) a.gT := by simp [blockOf]
 have nb : a.gT ≠ b := own_neB h.times h.blk (by decide) _ hT
 have keepI : ∀ {A : Option Addr} {c : Nat} {xs : List Int}, OwnI w base A c xs → Dj (some ⟨a.gT, 0, none⟩) A → OwnI (w.setCell ⟨a.gT, v, none⟩ (.int .i64 x)) base A c xs := fun {A c xs} ho hd => own_kept ho fun k k1 => Below.heap_setCell w ⟨a.gT, v, none⟩ _ k (fun e => by have e : k = a.gT := e; subst e; exact hd _ hT k1)
 exact { h with blk := h.blk.far (p := ⟨a.gT, v, none⟩) (fun e => nb e.symm) _, times := h.times.put v x, tlen := by rw [List.length_set]; exact h.tlen, steps := keepI h.steps h.tS, order := keepI h.order h.tO, tree := keepI h.tree h.tD }
theorem BtW.both {v e : Nat} {w5 : World} {A1 A2 : Option Addr} {c1 c2 : Nat} (h : BtW w base b n a s)
  (hk : ∀ k, k < w.heap.size → ¬ blockOf a.AO k → ¬ blockOf a.AD k → w5.heap[k]? = w.heap[k]?) (hO : OwnI w5 base A1 c1 (nI (s.order ++ [v]))) (hD : OwnI w5 base A2 c2 (nI (s.tree ++ [e])))
  (h1 : ∀ k, blockOf A1 k → blockOf a.AO k ∨ w.heap.size ≤ k) (h2 : ∀ k, blockOf A2 k → blockOf a.AD k ∨ w.heap.size ≤ k) (h12 : Dj A1 A2) :
  BtW ((w5.setCell ⟨b, 1, none⟩ (.slice A1 (s.order.length + 1) c1)).setCell ⟨b, 2, none⟩ (.slice A2 (s.tree.length + 1) c2)) base b n { a with AO := A1, cO := c1, AD := A2, cD := c2 } { s with order := s.order ++ [v], tree := s.tree ++ [e] } := by
 have b5 : Blk w5 b 246 (btC n a s) := (hk b h.blk.lt (fun hc => own_neB h.order h.blk (by decide) b hc rfl) (fun hc => own_neB h.tree h.blk (by decide) b hc rfl)).trans h.blk
 have hst : ∀ k, k ≠ b → ((w5.setCell ⟨b, 1, none⟩ (.slice A1 (s.order.length + 1) c1)).setCell ⟨b, 2, none⟩ (.slice A2 (s.tree.length + 1) c2)).heap[k]? = w5.heap[k]? := fun k hkb => (Below.heap_setCell _ ⟨b, 2, none⟩ _ k hkb).trans (Below.heap_setCell _ ⟨b, 1, none⟩ _ k hkb)
 have keepI : ∀ {A : Option Addr} {c : Nat} {xs : List Int}, OwnI w base A c xs → Dj A a.AO → Dj A a.AD → OwnI ((w5.setCell ⟨b, 1, none⟩ (.slice A1 (s.order.length + 1) c1)).setCell ⟨b, 2, none⟩ (.slice A2 (s.tree.length + 1) c2)) base A c xs := fun {A c xs} ho hd1 hd2 => own_kept ho fun k k1 => (hst k (own_neB ho h.blk (by decide) k k1)).trans (hk k (own_ltI ho k k1) (hd1 k k1) (hd2 k k1))
 have new5 : ∀ {A : Option Addr} {c : Nat} {xs : List Int}, OwnI w5 base A c xs → OwnI ((w5.setCell ⟨b, 1, none⟩ (.slice A1 (s.order.length + 1) c1)).setCell ⟨b, 2, none⟩ (.slice A2 (s.tree.length + 1) c2)) base A c xs := fun {A c xs} ho => own_kept ho fun k k1 => hst k (own_neB ho b5 (by decide) k k1)
 refine { blk := ?_, hb := h.hb, times := keepI h.times h.tO h.tD, tlen := h.tlen, steps := keepI h.steps h.sO h.sD, order := new5 hO, tree := new5 hD, tS := h.tS, tO := (h.tO.symm.upd h1 (own_ltI h.times)).symm, tD := (h.tD.symm.upd h2 (own_ltI h.times)).symm, sO := (h.sO.symm.upd h1 (own_ltI h.steps)).symm, sD := (h.sD.symm.upd h2 (own_ltI h.steps)).symm, oD := h12 }
 have := (b5.set_ 1 (.slice A1 (s.order.length + 1) c1)).set_ 2 (.slice A2 (s.tree.length + 1) c2)
 have e : ((btC n a s).setIfInBounds 1 (.slice A1 (s.order.length + 1) c1)).setIfInBounds 2 (.slice A2 (s.tree.length + 1) c2) = btC n { a with AO := A1, cO := c1, AD := A2, cD := c2 } { s with order := s.order ++ [v], tree := s.tree ++ [e] } := by simp [btC]
 rw [e] at this; exact this
end
theorem readsNB {w : World} {base : Nat} {A : Option Addr} {c k : Nat} {l : List Nat} (h : OwnI w base A c (nI l)) (hk : l.length = k) : Reads w w.heap.size 1 A k (ints (nI l)) := by
 have := h.reads
 rw [nI_length, hk] at this
 exact this
theorem sort_asc {m : Nat} {l : List Nat} (hn : l.Nodup) (hl : ∀ e ∈ l, e < m) : sortG ltI (nI l) = nI (ascN m l) := by
 refine sortI_eq ((asc_perm hn hl).symm.map _) ?_
 unfold nI
 rw [List.pairwise_map]
 exact (asc_set m l).1.imp fun h => by omega
theorem info_rfire : (Tryz.prog.info? 246).map (·.size) = some 4 := by kernel_rfl
theorem results_rf {fn : Func} {p : Tmp} {tmps : Array Value} {w : World} {g : Nat} {cs : Array Value} (h : fn.results = #[.cell p 246]) (hp : tmps.getD p undef = .pointer (some ⟨g, 0, none⟩)) (hg : Blk w g 246 cs) (hs : cs.size = 4) :
  (results fn tmps).run Tryz.prog w = .ok (.agg cs) w := by
 exact results_cell_row h tmps w g _ cs _ _ hp hg Tryz.underlying246 rfl (by rw [info_rfire, hs])
theorem fin5 {w : World} {base b r : Nat} {A : Option Addr} {c : Nat} {xs : List Int} {cs ds : Array Value} (h : OwnI w base A c xs) (hb : Blk w b 246 cs) (hr : Blk w r 246 ds) (hne : r ≠ b) (u0 u1 u2 u3 u4 : Value) :
  OwnI (((((w.setCell ⟨b, 2, none⟩ u0).setCell ⟨r, 0, none⟩ u1).setCell ⟨r, 1, none⟩ u2).setCell ⟨r, 2, none⟩ u3).setCell ⟨r, 3, none⟩ u4) base A c xs := by
 have r1 := hr.far (p := ⟨b, 2, none⟩) hne u0
 have r2 := r1.set_ 0 u1
 have r3 := r2.set_ 1 u2
 have r4 := r3.set_ 2 u3
 exact ((((h.set_blk hb (by decide) 2 u0).set_blk r1 (by decide) 0 u1).set_blk r2 (by decide) 1 u2).set_blk r3 (by decide) 2 u3).set_blk r4 (by decide) 3 u4
theorem own_grownI {X W w5 : World} {base : Nat} {A D : Option Addr} {c x : Nat} {xs : List Int} (h : OwnI X base D c xs) (hW : Below X.heap.size X W) {cA : Nat} (hg : W.grownBy w5 (Value.slice A x cA).ownBlock) (hd : Dj A D) : OwnI w5 base D c xs :=
 own_kept h fun k hk => (hg.block k (Nat.lt_of_lt_of_le (own_ltI h k hk) hW.size) fun e => hd k (blockOf_own.1 e.symm) hk).trans (hW.block k (own_ltI h k hk))
theorem blk_grown {X W w5 : World} {g : Nat} {T : TypeId} {cs : Array Value} {A : Option Addr} {x cA : Nat} (h : Blk X g T cs) (hW : Below X.heap.size X W) (hg : W.grownBy w5 (Value.slice A x cA).ownBlock) (hd : ¬ blockOf A g) : Blk w5 g T cs :=
 (hg.block g (Nat.lt_of_lt_of_le h.lt hW.size) fun e => hd (blockOf_own.1 e.symm)).trans (hW.block g h.lt |>.trans h)
theorem box_blk {W : World} {g B : Nat} {u : Value} (h5 : Blk W g 3 #[u]) (hB : g < B) : Reads W B 1 (some ⟨g, 0, none⟩) 1 [u] := by
 refine ⟨rfl, fun _ => ⟨g, 0, rfl, hB, fun j v hv => ?_⟩⟩
 have hj : j = 0 := by
  rcases Nat.eq_zero_or_pos j with h | h
  ·exact h
  ·rw [List.getElem?_eq_none (by simp; omega)] at hv; cases hv
 subst hj
 have : u = v := by simpa using hv
 subst this
 exact h5.cell 0
theorem box_grown2 {X W w5 : World} {g : Nat} {A : Option Addr} {x cA : Nat} {u : Value} (h : Blk W g 3 #[u]) (hgl : X.heap.size ≤ g) (hA : ∀ k, blockOf A k → k < X.heap.size) (hg : W.grownBy w5 (Value.slice A x cA).ownBlock) : Reads w5 (w5.heap.size + 1) 1 (some ⟨g, 0, none⟩) 1 [u] := by
 have h5 : Blk w5 g 3 #[u] := (hg.block g h.lt fun e => by have := hA g (blockOf_own.1 e.symm); omega).trans h
 refine ⟨rfl, fun _ => ⟨g, 0, rfl, by have := h5.lt; omega, fun j v hv => ?_⟩⟩
 have hj : j = 0 := by
  rcases Nat.eq_zero_or_pos j with h | h
  ·exact h
  ·rw [List.getElem?_eq_none (by simp; omega)] at hv; cases hv
 subst hj
 have : u = v := by simpa using hv
 subst this
 exact h5.cell 0
theorem both_leaf {X W w5 W' w9 : World} {base b n v e : Nat} {a : BtA} {s : FireS} {A5 A9 : Option Addr} {c5 c9 : Nat} (h : BtW X base b n a s) (hs : base ≤ X.heap.size) (hW : Below X.heap.size X W)
  (hown5 : w5.ownsRow base 3 1 (.slice A5 (s.order.length + 1) c5) (s.order.length + 1) (ints (nI s.order) ++ [.int .i64 (v : Int)])) (hg5 : W.grownBy w5 (Value.slice a.AO s.order.length a.cO).ownBlock) (hb5 : Below base W w5)
  (hd5 : (Value.slice A5 (s.order.length + 1) c5).ownBlock = (Value.slice a.AO s.order.length a.cO).ownBlock ∨ (Value.slice A5 (s.order.length + 1) c5).ownBlock = some W.heap.size) (hW' : Below w5.heap.size w5 W')
  (hown9 : w9.ownsRow base 3 1 (.slice A9 (s.tree.length + 1) c9) (s.tree.length + 1) (ints (nI s.tree) ++ [.int .i64 (e : Int)])) (hg9 : W'.grownBy w9 (Value.slice a.AD s.tree.length a.cD).ownBlock) (hb9 : Below base W' w9)
  (hd9 : (Value.slice A9 (s.tree.length + 1) c9).ownBlock = (Value.slice a.AD s.tree.length a.cD).ownBlock ∨ (Value.slice A9 (s.tree.length + 1) c9).ownBlock = some W'.heap.size) :
  (∃ a', BtW ((w9.setCell ⟨b, 1, none⟩ (.slice A5 (s.order.length + 1) c5)).setCell ⟨b, 2, none⟩ (.slice A9 (s.tree.length + 1) c9)) base b n a' { s with order := s.order ++ [v], tree := s.tree ++ [e] }) ∧
   Below base X ((w9.setCell ⟨b, 1, none⟩ (.slice A5 (s.order.length + 1) c5)).setCell ⟨b, 2, none⟩ (.slice A9 (s.tree.length + 1) c9)) := by
 have e1 : ∀ (l : List Nat) (x : Nat), ints (nI (l ++ [x])) = ints (nI l) ++ [.int .i64 (x : Int)] := fun l x => by simp [nI, ints]
 have o5 : OwnI w5 base A5 c5 (nI (s.order ++ [v])) := by unfold OwnI; rw [nI_length, List.length_append, e1]; exact hown5
 have o9 : OwnI w9 base A9 c9 (nI (s.tree ++ [e])) := by unfold OwnI; rw [nI_length, List.length_append, e1]; exact hown9
 have h5 : ∀ k, blockOf A5 k → blockOf a.AO k ∨ W.heap.size = k := fun k hk => by
  have hk2 := (blockOf_own (n := s.order.length + 1) (c := c5)).2 hk
  rcases hd5 with hd | hd
  ·rw [hd] at hk2; exact .inl (blockOf_own.1 hk2)
  ·rw [hd] at hk2; injection hk2 with hk2; exact .inr hk2
 have h9 : ∀ k, blockOf A9 k → blockOf a.AD k ∨ W'.heap.size = k := fun k hk => by
  have hk2 := (blockOf_own (n := s.tree.length + 1) (c := c9)).2 hk
  rcases hd9 with hd | hd
  ·rw [hd] at hk2; exact .inl (blockOf_own.1 hk2)
  ·rw [hd] at hk2; injection hk2 with hk2; exact .inr hk2
 have z1 := hW.size
 have z2 := hg5.size
 have z3 := hW'.size
 have hnoD : ∀ k, blockOf A5 k → ¬ blockOf a.AD k := fun k hk hd => by
  rcases h5 k hk with h1 | h1
  ·exact h.oD k h1 hd
  ·have := own_ltI h.tree k hd; omega
 have o5' : OwnI w9 base A5 c5 (nI (s.order ++ [v])) := own_kept o5 fun k hk => (hg9.block k (Nat.lt_of_lt_of_le (own_ltI o5 k hk) z3) fun e => hnoD k hk (blockOf_own.1 e.symm)).trans (hW'.block k (own_ltI o5 k hk))
 refine ⟨⟨_, h.both (w5 := w9) (fun k hk h1 h2 => ?_) o5' o9 (fun k hk => (h5 k hk).imp id fun hx => by omega) (fun k hk => (h9 k hk).imp id fun hx => by omega) fun k hk hk' => ?_⟩, ?_⟩
 ·have k1 : k < W.heap.size := by omega
  have k2 : k < w5.heap.size := by omega
  have k3 : k < W'.heap.size := by omega
  exact (hg9.block k k3 fun e => h2 (blockOf_own.1 e.symm)).trans ((hW'.block k k2).trans ((hg5.block k k1 fun e => h1 (blockOf_own.1 e.symm)).trans (hW.block k hk)))
 ·rcases h9 k hk' with h1 | h1
  ·exact hnoD k hk h1
  ·have := own_ltI o5 k hk; omega
 ·exact (((hW.mono hs).trans (hb5.trans ((hW'.mono (by have := hb5.size; omega)).trans hb9))).setCell (p := ⟨b, 1, none⟩) h.hb _).setCell (p := ⟨b, 2, none⟩) h.hb _
end Go.Proofs.YtnbikkcalcpedaaGreatDoor
namespace Go.Proofs.YtnbikkcalcpedaaGreatDoor
open Go.RowKit
theorem edgFrom_ok {m : Nat} : ∀ {t : List Nat} {p : Option Int}, t.Pairwise (· < ·) → (∀ e ∈ t, e < m) → (∀ y, p = some y → ∀ e ∈ t, y < (e : Int)) → edgFrom m p (nI t) = 0
 | [], _, _, _, _ => rfl
 | e :: t, p, h1, h2, h3 => by
   have he := h2 e (by simp)
   show (if (e : Int) < 0 ∨ (m : Int) ≤ (e : Int) then 2 else if leP p (e : Int) = true then 9 else edgFrom m (some (e : Int)) (nI t)) = 0
   rw [if_neg (by omega), if_neg]
   ·rw [List.pairwise_cons] at h1
    refine edgFrom_ok h1.2 (fun x hx => h2 x (by simp [hx])) ?_
    rintro y hy x hx
    injection hy with hy
    have := h1.1 x hx
    omega
   ·unfold leP
    cases p with
    | none => simp
    | some y =>
      have := h3 y rfl e (by simp)
      simp; omega
theorem edg_ok {m : Nat} {t : List Nat} (h : SetN m t) : edgErr m (nI t) = 0 := edgFrom_ok h.1 h.2 (fun y hy => by cases hy)
theorem tree_ok {m : Nat} {es : List E3} {t : List Nat} (hj : joinErr m es = 0) (h : IsTr m (endsL es) t) : treeErr m es (nI t) = 0 := by
 have hl := h.len
 have e2 : (nI t).map Int.toNat = t := toN_nI t
 unfold treeErr
 rw [if_neg (fun hc => hc hj), if_neg (fun hc => hc (edg_ok h.set)), if_neg (by rw [nI_length]; omega), e2, if_pos (foB_iff.2 h.fo)]
theorem bindex_any (A : Option Addr) (c : Nat) (xs : List Int) (hn : xs.length ≤ 1048576) (v : Int) (w : World) (h : Reads w w.heap.size 1 A xs.length (ints xs)) :
  Calls Tryz.prog 328 #[.slice A xs.length c, .int .i64 v] w fun e w' => ∃ r : Int, e = .returned (.int .i64 r) ∧ Hid (0 ≤ r ↔ v ∈ xs) ∧ w = w' := by
 go_enter Tryz.func328, Tryz.ntmps328
 go_wp2
 go_loop [8] (fun i => ∃ k : Nat, k ≤ xs.length ∧ i = .int .i64 k ∧ Hid (v ∉ xs.take k)) (fun i => xs.length - (intOf i).toNat)
 case atStart => exact ⟨0, by omega, rfl, by simp [Hid]⟩
 case round =>
  obtain ⟨k, hk, rfl, HS⟩ := hrel
  by_cases hlt : k < xs.length
  ·obtain ⟨x, hx⟩ := get_of_lt hlt
   obtain ⟨b, off, rfl, hb, hcell⟩ := h.at_ (ints_at hx)
   have hi : (k : Int) < (xs.length : Int) := by omega
   have htk := take_snoc hx
   by_cases hv : v = x
   ·have e : (v == x) = true := by simpa using hv
    have HT : Hid (v ∈ xs) := by rw [hv]; exact List.mem_of_getElem? hx
    clear hx htk hv
    go_wp2
    go_ret
    exact ⟨k, rfl, ⟨fun _ => HT.out, fun _ => by omega⟩, rfl⟩
   ·have e : (v == x) = false := by simpa using hv
    have HN : Hid (v ∉ xs.take (k + 1)) := by
     rw [htk, Hid, List.mem_append]
     rintro (hc | hc)
     ·exact HS.out hc
     ·exact hv (List.mem_singleton.1 hc)
    clear hx htk hv
    go_wp2
    go_round
    case rel => exact ⟨k + 1, by omega, by go_num, HN⟩
    case measure => simp [intOf]; omega
  ·obtain rfl : k = xs.length := by omega
   rw [List.take_length] at HS
   go_wp2
   go_ret
   exact ⟨-1, rfl, ⟨fun h => absurd h (by decide), fun h => absurd h HS.out⟩, rfl⟩
theorem bcontains_any (A : Option Addr) (c : Nat) (xs : List Int) (hn : xs.length ≤ 1048576) (v : Int) (w : World) (h : Reads w w.heap.size 1 A xs.length (ints xs)) :
  Calls Tryz.prog 300 #[.slice A xs.length c, .int .i64 v] w fun e w' => e = .returned (.bool (decide (v ∈ xs))) ∧ w = w' := by
 have IC := Lib.hid (bindex_any A c xs hn v w h)
 go_enter Tryz.func300, Tryz.ntmps300
 go_wp2_with fail
 refine (IC.out).mono ?_
 rintro e w1 ⟨r, rfl, HR, rfl⟩
 go_wp2
 go_ret
 exact ⟨ret_bool (by rw [Bool.eq_iff_iff]; simp [HR.out]), rfl⟩
theorem blights_any (B : Option Addr) (d : Nat) (t : List Nat) (ht : t.length ≤ 1048576) (v e : Nat) (k : Int) (w : World) (h : Reads w w.heap.size 1 B t.length (ints (nI t))) :
  Calls Tryz.prog 257 #[.slice B t.length d, .int .i64 (v : Int), .int .i64 (e : Int), .int .i64 k] w fun r w' => r = .returned (.bool (ltB t v e k)) ∧ w = w' := by
 have HC : Hid (Calls Tryz.prog 300 #[.slice B t.length d, .int .i64 (e : Int)] w fun e_ w' => e_ = .returned (.bool (ltB t v e k)) ∧ w = w') := by
  have := bcontains_any B d (nI t) (by rw [nI_length]; exact ht) (e : Int) w (by rw [nI_length]; exact h)
  rw [nI_length] at this
  have e1 : decide ((e : Int) ∈ nI t) = ltB t v e k := by
   unfold ltB nI
   rw [Bool.eq_iff_iff, decide_eq_true_eq, decide_eq_true_eq, List.mem_map]
   exact ⟨fun ⟨a, ha, hae⟩ => by have : a = e := by omega
                                 exact this ▸ ha, fun h => ⟨e, h, rfl⟩⟩
  rw [e1] at this
  exact this
 obtain ⟨r, hr⟩ : ∃ r, ltB t v e k = r := ⟨_, rfl⟩
 rw [hr] at HC ⊢
 clear hr
 go_enter Tryz.func257, Tryz.ntmps257
 go_wp2_with fail
 refine (HC.out).mono ?_
 rintro e_ w1 ⟨rfl, rfl⟩
 go_wp2
 go_ret
 exact ⟨rfl, rfl⟩
end Go.Proofs.YtnbikkcalcpedaaGreatDoor
namespace Go.Proofs.YtnbikkcalcpedaaGreatDoor
open Go.RowKit Go.Shelf
def burnE (n : Int) (es : List E3) (q : Int) (cs : List Int) : List Int × List Int × Int := if burnErr n es q cs = 0 then (natI (burntL es cs n.toNat q.toNat), natI (restL n.toNat (burntL es cs n.toNat q.toNat)), 0) else ([], [], burnErr n es q cs)
def superE (n : Int) (es : List E3) (q : Int) (cs : List Int) : Bool × Int := if burnErr n es q cs = 0 then (decide (restL n.toNat (burntL es cs n.toNat q.toNat) = []), 0) else (false, burnErr n es q cs)
theorem burn_any (n : Int) (A : Option Addr) (c : Nat) (es : List E3) (hn : es.length ≤ 1048576) (q : Int) (B : Option Addr) (d : Nat) (cs : List Int) (hm : cs.length ≤ 1048000) (w : World) (h : Reads w w.heap.size 3 A es.length (edgeCells es)) (h' : Reads w w.heap.size 1 B cs.length (ints cs)) :
  Calls Tryz.prog 258 #[.agg #[.int .i64 n, .slice A es.length c], .int .i64 q, .slice B cs.length d] w fun e w' => ∃ A1 c1 A2 c2, e = .returned (.tuple #[.slice A1 (burnE n es q cs).1.length c1, .slice A2 (burnE n es q cs).2.1.length c2, .int .i64 (burnE n es q cs).2.2]) ∧
   OwnI w' w.heap.size A1 c1 (burnE n es q cs).1 ∧ OwnI w' w.heap.size A2 c2 (burnE n es q cs).2.1 ∧ Below w.heap.size w w' := by
 by_cases hz : burnErr n es q cs = 0
 ·obtain ⟨hG, _, hq0, hqn, _⟩ := conf_zero (burn_zero hz).1
  have hlo := hG.lo
  obtain ⟨m, rfl⟩ := Int.eq_ofNat_of_zero_le (show 0 ≤ n by omega)
  obtain ⟨p, rfl⟩ := Int.eq_ofNat_of_zero_le hq0
  have hE : burnE m es p cs = (natI (burntL es cs m p), natI (restL m (burntL es cs m p)), 0) := by unfold burnE; rw [if_pos hz]; simp
  rw [hE]
  refine (burn_ok m A c es hn p B d cs hm hz w h h').mono ?_
  rintro e w' ⟨A1, c1, A2, c2, he, o1, o2, hb⟩
  exact ⟨A1, c1, A2, c2, by dsimp only; rw [natI_length, natI_length]; exact he, o1, o2, hb⟩
 ·have hE : burnE n es q cs = ([], [], burnErr n es q cs) := by unfold burnE; rw [if_neg hz]
  rw [hE]
  have hbc := bcheck_any n A c es hn q B d cs (by omega)
  obtain ⟨z, hzz⟩ : ∃ z, burnErr n es q cs = z := ⟨_, rfl⟩
  rw [hzz] at hbc hz ⊢
  have hb : (z == 0) = false := by simpa using hz
  have BC := Lib.hid hbc
  clear hz hE hbc hzz
  refine (callsIn_wide (n := 3)).1 ?_
  refine callsIn_of_wp_marks Tryz.func258 rfl trivial ?_
  simp only [Tryz.ntmps258, List.size_toArray, List.length_cons, List.length_nil, Nat.reduceAdd, Nat.reduceSub, Array.replicate_succ, Array.replicate_zero, List.push_toArray, List.append_toArray, List.nil_append, List.cons_append]
  gi_wp2_with fail
  refine ⟨trivial, ?_⟩
  refine (inW (BC.out _ ((h.alloc (Nat.le_refl _) _).more (by simp)) ((h'.alloc (Nat.le_refl _) _).more (by simp)))).mono ?_
  rintro e w1 ⟨rfl, hb1⟩
  have hbel1 : Below w.heap.size w w1 := ((Below.refl _ _).alloc (Nat.le_refl _) _).trans (hb1.mono (by simp))
  gi_wp2
  refine end_marks [] _ trivial fun w' ho => ⟨.tuple #[.slice none 0 0, .slice none 0 0, .int .i64 z], by simp [results, Tryz.results258, go_sem], none, 0, none, 0, rfl, OwnI.nil_ _ _, OwnI.nil_ _ _, ?_⟩
  exact hbel1.trans (ho.below (fun k hk e => by cases e) hbel1.size)
theorem super_any (n : Int) (A : Option Addr) (c : Nat) (es : List E3) (hn : es.length ≤ 1048576) (q : Int) (B : Option Addr) (d : Nat) (cs : List Int) (hm : cs.length ≤ 1048000) (w : World) (h : Reads w w.heap.size 3 A es.length (edgeCells es)) (h' : Reads w w.heap.size 1 B cs.length (ints cs)) :
  Calls Tryz.prog 200 #[.agg #[.int .i64 n, .slice A es.length c], .int .i64 q, .slice B cs.length d] w fun e w' => e = .returned (.tuple #[.bool (superE n es q cs).1, .int .i64 (superE n es q cs).2]) ∧ Below w.heap.size w w' := by
 have hE : superE n es q cs = (decide ((burnE n es q cs).2.2 = 0) && decide ((burnE n es q cs).2.1.length = 0), (burnE n es q cs).2.2) := by
  unfold superE burnE
  by_cases hz : burnErr n es q cs = 0
  ·rw [if_pos hz, if_pos hz]
   simp [natI_length]
  ·rw [if_neg hz, if_neg hz]
   simp [hz]
 have BC := Lib.hid (fun w h h' => burn_any n A c es hn q B d cs hm w h h')
 rw [hE]
 clear hE
 obtain ⟨⟨l, r, x⟩, hp⟩ : ∃ p, burnE n es q cs = p := ⟨_, rfl⟩
 rw [hp] at BC ⊢
 clear hp
 dsimp only at BC ⊢
 have g0 := Blk.new w 24 #[.int .i64 n, .slice A es.length c]
 by_cases hx : x = 0
 ·subst hx
  obtain ⟨m, hm'⟩ : ∃ m, r.length = m := ⟨_, rfl⟩
  go_enter Tryz.func200, Tryz.ntmps200
  go_wp2_with fail
  refine (BC.out _ ((h.alloc (Nat.le_refl _) _).more (by simp)) ((h'.alloc (Nat.le_refl _) _).more (by simp))).mono ?_
  rintro e w1 ⟨A1, c1, A2, c2, rfl, _, _, hb1⟩
  have hbel1 : Below w.heap.size w w1 := ((Below.refl _ _).alloc (Nat.le_refl _) _).trans (hb1.mono (by simp))
  go_wp2
  go_ret2
  refine ⟨?_, hbel1⟩
  rw [hm', show ((m : Int) == 0) = decide (m = 0) from by rw [Bool.eq_iff_iff]; simp]
  simp
 ·have hxb : (x == 0) = false := by simpa using hx
  rw [decide_eq_false hx, Bool.false_and]
  clear hx
  go_enter Tryz.func200, Tryz.ntmps200
  go_wp2_with fail
  refine (BC.out _ ((h.alloc (Nat.le_refl _) _).more (by simp)) ((h'.alloc (Nat.le_refl _) _).more (by simp))).mono ?_
  rintro e w1 ⟨A1, c1, A2, c2, rfl, _, _, hb1⟩
  have hbel1 : Below w.heap.size w w1 := ((Below.refl _ _).alloc (Nat.le_refl _) _).trans (hb1.mono (by simp))
  go_wp2
  go_ret2
  exact ⟨rfl, hbel1⟩
end Go.Proofs.YtnbikkcalcpedaaGreatDoor
