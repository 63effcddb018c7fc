/-
 Texts of this claim, put together: RTreeE, MayP, Blocks, TPath.
-/
import Derived.Test.YtnbikkcalcpedaaGreatDoorK16
import Derived.Test.YtnbikkcalcpedaaGreatDoorK20
import Derived.Test.YtnbikkcalcpedaaGreatDoorK21
import Derived.Test.YtnbikkcalcpedaaGreatDoorK19
import Derived.Test.YtnbikkcalcpedaaGreatDoorK04
import Derived.Test.YtnbikkcalcpedaaGreatDoorK13
set_option maxRecDepth 100000
set_option maxHeartbeats 4000000
namespace Go.Proofs.YtnbikkcalcpedaaGreatDoor
open Go.RowKit
theorem size_ends {es : List E3} : sizeE es = (endsL es).length := by
 unfold sizeE endsL
 induction es with
 | nil => rfl
 | cons e es ih => simp only [List.map_cons, List.sum_cons, List.flatMap_cons, List.length_append, List.length_replicate, ih]
theorem rendsC_any (n : Int) (A : Option Addr) (c : Nat) (es : List E3) (hn : es.length ≤ 40) (N : Int) (hok : ∀ e ∈ es, okE N e) (w : World) (h : Reads w w.heap.size 3 A es.length (edgeCells es)) :
  Calls Tryz.prog 24 #[.agg #[.int .i64 n, .slice A es.length c]] w fun e w' => ∃ A' c', e = .returned (.slice A' (endsL es).length c') ∧ OwnQ w' w.heap.size A' c' (endsL es) ∧ Below w.heap.size w w' := by
 have HO := Lib.hid hok
 have HSZ : Hid (∀ k, (endsL (es.take k)).length ≤ 2000) := fun k => by
  rw [← size_ends]
  exact Nat.le_trans (sizeE_bd (N := N) fun e he => hok e (List.mem_of_mem_take he)) (by rw [List.length_take]; omega)
 have g0 := Blk.new w 24 #[.int .i64 n, .slice A es.length c]
 clear hok
 go_enter Tryz.func24, Tryz.ntmps24
 go_wp2
 go_loopw [3, 4] (fun s i wr => ∃ (k : Nat) (A' : Option Addr) (c' : Nat) (ps : List (Nat × Nat)), k ≤ es.length ∧ i = .int .i64 k ∧ s = .slice A' ps.length c' ∧ Hid (endsL (es.take k) = ps) ∧ Hid (OwnQ wr w.heap.size A' c' ps) ∧ Hid (Below w.heap.size w wr) ∧ Hid (Blk wr w.heap.size 24 #[.int .i64 n, .slice A es.length c])) (fun _ i _ => es.length - (intOf i).toNat)
 case atStart => exact ⟨0, none, 0, [], by omega, rfl, rfl, rfl, World.ownsRow_nil _ _ _ _, (Below.refl _ _).alloc (Nat.le_refl _) _, g0⟩
 case round =>
  obtain ⟨k, A', c', ps, hk, rfl, rfl, HM, HOW, HB, HG⟩ := hrel
  clear g0
  have c1 := HG.out.cell 1
  by_cases hlt : k < es.length
  ·obtain ⟨⟨x, y, z⟩, hx⟩ := get_of_lt hlt
   have hokx := HO.out _ (List.mem_of_getElem? hx)
   unfold okE at hokx
   dsimp only at hokx
   obtain ⟨zn, rfl⟩ := Int.eq_ofNat_of_zero_le (show 0 ≤ z by omega)
   obtain ⟨xn, rfl⟩ := Int.eq_ofNat_of_zero_le (show 0 ≤ x by omega)
   obtain ⟨yn, rfl⟩ := Int.eq_ofNat_of_zero_le (show 0 ≤ y by omega)
   have hst := endsL_snoc hx
   rw [HM.out] at hst
   dsimp only at hst
   rw [Int.toNat_natCast, Int.toNat_natCast, Int.toNat_natCast] at hst
   have hmax := HSZ.out (k + 1)
   rw [hst, List.length_append, List.length_replicate] at hmax
   have HST := Lib.hid hst
   have HX := Lib.hid hx
   have hi : (k : Int) < (es.length : Int) := by omega
   clear hst hx hokx
   go_wp2
   obtain ⟨wo, rfl⟩ : ∃ wo : World, wo = wr := ⟨_, rfl⟩
   go_loopw [3, 5] (fun s i wr => ∃ (j : Nat) (A' : Option Addr) (c' : Nat) (qs : List (Nat × Nat)), j ≤ zn ∧ i = .int .i64 j ∧ s = .slice A' qs.length c' ∧ Hid (qs = ps ++ List.replicate j (xn, yn)) ∧ Hid (qs.length = ps.length + j) ∧ Hid (OwnQ wr w.heap.size A' c' qs) ∧ Hid (Below w.heap.size w wr) ∧ Hid (Blk wr w.heap.size 24 #[.int .i64 n, .slice A es.length c])) (fun _ i _ => zn - (intOf i).toNat)
   case atStart => exact ⟨0, A', c', ps, by omega, rfl, rfl, by simp [Hid], by simp [Hid], HOW, HB, HG⟩
   case round =>
    clear HOW HB HG c1
    obtain ⟨j, A', c', qs, hj, rfl, rfl, HQ, HQL, HOW, HB, HG⟩ := hrel
    have hsz := HB.out.size
    have g1 := HG.out
    have c1 := g1.cell 1
    obtain ⟨bb, off, hA, hbb, q1, q2, q3⟩ := (h.below HB.out).edge HX.out
    subst hA
    dsimp only at q1 q2 q3
    by_cases hlt2 : j < zn
    ·have hi2 : (j : Int) < (zn : Int) := by omega
     have hownA : (wr.drew.alloc (.cells #[.int .i64 xn, .int .i64 yn] 50)).ownsRow w.heap.size 50 2 (.slice A' qs.length c') qs.length (pair2 qs) := World.ownsRow.alloc (World.ownsRow.drew HOW.out) _
     have hz : w.heap.size ≤ (wr.drew.alloc (.cells #[.int .i64 xn, .int .i64 yn] 50)).heap.size := by show _ ≤ (wr.alloc _).heap.size; simp; omega
     have hq2 : qs.length + 1 ≤ 1048576 := by have := HQL.out; omega
     go_wp2
     go_region_law (refine append_step2 rfl (.tmp 23) (.tmp 37) _ _ rfl w.heap.size 50 50 Tryz.underlying48 Tryz.underlying48 info_pair2 rfl (by omega) A' c' qs.length (pair2 qs) rfl (by exact hownA) _ [.int .i64 xn, .int .i64 yn] rfl (by exact Reads.boxN wr.drew #[.int .i64 xn, .int .i64 yn] 50) (by simp [Value.oneCell']) hq2 (by exact hz) ?_; intro A3 c3 W3 hown3 hgr3 hb3 _)
     all_goals (
      have g2 : Blk W3 w.heap.size 24 #[.int .i64 n, .slice (some ⟨bb, off, none⟩) es.length c] := Blk.grown (h := (g1.drew.alloc (.cells #[.int .i64 xn, .int .i64 yn] 50))) hgr3 (own_blk_ne hownA (g1.drew.alloc _) (by decide))
      have hb4 : Below w.heap.size w W3 := (HB.out.drew.alloc hsz (.cells #[.int .i64 xn, .int .i64 yn] 50)).trans hb3
      have hq3 : OwnQ W3 w.heap.size A3 c3 (qs ++ [(xn, yn)]) := (by unfold OwnQ; rw [List.length_append, pair2_snoc]; exact hown3)
      have HQ3 := Lib.hid hq3
      have HB4 := Lib.hid hb4
      have HG2 := Lib.hid g2
      clear hq3 hb4 g2 hown3 hgr3 hb3
      go_wp2
      go_roundw
      case rel => exact ⟨j + 1, A3, c3, qs ++ [(xn, yn)], by omega, by go_num, by simp, by rw [Hid, HQ.out, List.replicate_succ', List.append_assoc], by rw [Hid, List.length_append, HQL.out]; simp; omega, HQ3, HB4, HG2⟩
      case measure => simp [intOf]; omega)
    ·obtain rfl : j = zn := by omega
     have hfin : Hid (endsL (es.take (k + 1)) = qs) := by rw [Hid, HST.out, HQ.out]
     go_wp2
     go_roundw
     case rel => exact ⟨k + 1, A', c', qs, by omega, by go_num, rfl, hfin, HOW, HB, HG⟩
     case measure => simp [intOf]; omega
  ·obtain rfl : k = es.length := by omega
   rw [List.take_length] at HM
   go_wp2
   go_ret
   exact ⟨A', c', by rw [HM.out]; rfl, by rw [HM.out]; exact HOW.out, HB.out⟩
abbrev toN (xs : List Int) : List Nat := xs.map Int.toNat
theorem toN_nI (t : List Nat) : toN (nI t) = t := by
 unfold toN nI
 rw [List.map_map]
 conv => rhs; rw [← List.map_id t]
 exact List.map_congr_left fun x _ => by simp
structure TreeR (m : Nat) (es : List E3) (t : List Nat) : Prop where
 hG : RightG m es
 hT : FoE m (endsL es) t
 tr : IsTr m (endsL es) t
 lo : 1 ≤ m
 hi : m ≤ 12
theorem TreeR.cn {m : Nat} {es : List E3} {t : List Nat} (h : TreeR m es t) {a b : Nat} (ha : a < m) (hb : b < m) : Cn (pk (endsL es) t) a b := h.tr.cn h.hT.bd ha hb
theorem TreeR.len {m : Nat} {es : List E3} {t : List Nat} (h : TreeR m es t) : t.length ≤ 12 := by have := h.tr.len; have := h.hi; omega
theorem treeR_of {n : Int} {es : List E3} {xs : List Int} (h : treeErr n es xs = 0) : ∃ (m : Nat) (t : List Nat), n = m ∧ xs = nI t ∧ TreeR m es t := by
 obtain ⟨m, t, h1, h2, h3, h4, h5, h6, h7, _⟩ := tree_zero h
 exact ⟨m, t, h1, h2, h3, h5.foe h4, h5, h6, h7⟩
end Go.Proofs.YtnbikkcalcpedaaGreatDoor
