/-
  Texts of this claim, put together: REnds, RBurn.
-/
import Derived.Test.YtghigdcpinengaaGreatK19
import Derived.Test.YtghigdcpinengaaGreatK15
import Derived.Deep.RegionLaw
import Derived.Test.YtghigdcpinengaaGreatK06
import Derived.Test.YtghigdcpinengaaGreatK10
import Derived.StillTailTactics
import Derived.Deep.QuietTactic
import Derived.BigQuiet
import Derived.Deep.RegionWith
/-! ref08.Ends and Size: as far as the number of single edges goes; ref08.small and Few. -/
namespace Go.Proofs.YtghigdcpinengaaGreat
open Go.RowKit

/-- The number of single edges. -/
def sizeE (es : List E3) : Nat := (es.map fun e => e.2.2.toNat).sum
theorem sizeE_take {es : List E3} {k : Nat} {e : E3} (h : es[k]? = some e) : sizeE (es.take (k + 1)) = sizeE (es.take k) + e.2.2.toNat := by
  rw [take_snoc h]; simp [sizeE]
theorem sizeE_bd {N : Int} {es : List E3} (h : ∀ e ∈ es, okE N e) : sizeE es ≤ 50 * es.length := by
  induction es with
  | nil => simp [sizeE]
  | cons e es ih =>
    have h1 := h e (by simp)
    have h2 := ih fun x hx => h x (by simp [hx])
    unfold okE at h1
    unfold sizeE at *
    simp at *
    omega
theorem info_pair2 : (Tryz.prog.info? 63).map (fun i => (i.zero, i.size, i.bytes)) = some (some (.agg #[.int .i64 0, .int .i64 0]), 2, 16) := by kernel_rfl

set_option maxRecDepth 100000 in
set_option maxHeartbeats 4000000 in
theorem rends_any (n : Int) (A : Option Addr) (c : Nat) (es : List E3) (hn : es.length ≤ 40) (N : Int) (hok : ∀ e ∈ es, okE N e) (w : World) (h : Reads w w.heap.size 3 A es.length (edgeCells es)) :
    Calls Tryz.prog 38 #[.agg #[.int .i64 n, .slice A es.length c]] w fun e w' => ∃ A' c', e = .returned (.slice A' (sizeE es) c') ∧ Below w.heap.size w w' := by
  have HO := Lib.hid hok
  have HSZ : Hid (∀ k, sizeE (es.take k) ≤ 2000) := fun k => Nat.le_trans (sizeE_bd (N := N) fun e he => hok e (List.mem_of_mem_take he)) (by rw [List.length_take]; omega)
  have g0 := Blk.new w 24 #[.int .i64 n, .slice A es.length c]
  clear hok
  go_enter Tryz.func38, Tryz.ntmps38
  go_wp2
  go_loopw [3, 4] (fun s i wr => ∃ (k : Nat) (A' : Option Addr) (c' : Nat) (m : Nat) (vs : List Value), k ≤ es.length ∧ i = .int .i64 k ∧ s = .slice A' m c' ∧ Hid (sizeE (es.take k) = m) ∧ wr.ownsRow w.heap.size 63 2 (.slice A' m c') m vs ∧ Below w.heap.size w wr ∧ Blk wr w.heap.size 24 #[.int .i64 n, .slice A es.length c]) (fun _ i _ => es.length - (intOf i).toNat)
  case atStart => exact ⟨0, none, 0, 0, [], by omega, rfl, rfl, rfl, World.ownsRow_nil _ _ _ _, (Below.refl _ _).alloc (Nat.le_refl _) _, g0⟩
  case round =>
    obtain ⟨k, A', c', m, vs, hk, rfl, rfl, HM, hown, hbel, g1⟩ := hrel
    clear g0
    have c1 := g1.cell 1
    by_cases hlt : k < es.length
    · obtain ⟨⟨x, y, z⟩, hx⟩ := get_of_lt hlt
      have hokx := HO.out _ (List.mem_of_getElem? hx)
      unfold okE at hokx
      dsimp only at hokx
      obtain ⟨zn, rfl⟩ := Int.eq_ofNat_of_zero_le (show 0 ≤ z by omega)
      have hst := sizeE_take hx
      rw [HM.out] at hst
      dsimp only at hst
      rw [Int.toNat_natCast] at hst
      have hmax := HSZ.out (k + 1)
      rw [hst] at hmax
      have HST := Lib.hid hst
      have HX := Lib.hid hx
      have hi : (k : Int) < (es.length : Int) := by omega
      clear hst hx hokx
      go_wp2
      obtain ⟨wo, rfl⟩ : ∃ wo : World, wo = wr := ⟨_, rfl⟩
      go_loopw [3, 5] (fun s i wr => ∃ (j : Nat) (A' : Option Addr) (c' : Nat) (vs : List Value), j ≤ zn ∧ i = .int .i64 j ∧ s = .slice A' (m + j) c' ∧ wr.ownsRow w.heap.size 63 2 (.slice A' (m + j) c') (m + j) vs ∧ Below w.heap.size w wr ∧ Blk wr w.heap.size 24 #[.int .i64 n, .slice A es.length c]) (fun _ i _ => zn - (intOf i).toNat)
      case atStart => exact ⟨0, A', c', vs, by omega, rfl, rfl, hown, hbel, g1⟩
      case round =>
        clear hown hbel g1 c1
        obtain ⟨j, A', c', vs, hj, rfl, rfl, hown, hbel, g1⟩ := hrel
        have hsz := hbel.size
        have c1 := g1.cell 1
        obtain ⟨bb, off, rfl, hbb, q1, q2, q3⟩ := (h.below hbel).edge HX.out
        dsimp only at q1 q2 q3
        by_cases hlt2 : j < zn
        · have hi2 : (j : Int) < (zn : Int) := by omega
          have hownA : (wr.drew.alloc (.cells #[.int .i64 x, .int .i64 y] 63)).ownsRow w.heap.size 63 2 (.slice A' (m + j) c') (m + j) vs := World.ownsRow.alloc (World.ownsRow.drew hown) _
          have hz : w.heap.size ≤ (wr.drew.alloc (.cells #[.int .i64 x, .int .i64 y] 63)).heap.size := by show _ ≤ (wr.alloc _).heap.size; simp; omega
          go_wp2
          go_region_law (refine append_step2 rfl (.tmp 23) (.tmp 37) _ _ rfl w.heap.size 63 63 Tryz.underlying61 Tryz.underlying61 info_pair2 rfl (by omega) A' c' (m + j) vs rfl (by exact hownA) _ [.int .i64 x, .int .i64 y] rfl (by exact Reads.boxN wr.drew #[.int .i64 x, .int .i64 y] 63) (by simp [Value.oneCell']) (by omega) (by exact hz) ?_; intro A3 c3 W3 hown3 hgr3 hb3 _)
          all_goals (
            have g2 : Blk W3 w.heap.size 24 #[.int .i64 n, .slice (some ⟨bb, off, none⟩) es.length c] := Blk.grown (h := (g1.drew.alloc (.cells #[.int .i64 x, .int .i64 y] 63))) hgr3 (own_blk_ne hownA (g1.drew.alloc _) (by decide))
            have hb4 : Below w.heap.size w W3 := (hbel.drew.alloc hsz (.cells #[.int .i64 x, .int .i64 y] 63)).trans hb3
            go_wp2
            go_roundw
            case rel => exact ⟨j + 1, A3, c3, _, by omega, by go_num, rfl, hown3, hb4, g2⟩
            case measure => simp [intOf]; omega)
        · obtain rfl : j = zn := by omega
          go_wp2
          go_roundw
          case rel => exact ⟨k + 1, A', c', m + j, vs, by omega, by go_num, rfl, HST.out, hown, hbel, g1⟩
          case measure => simp [intOf]; omega
    · obtain rfl : k = es.length := by omega
      rw [List.take_length] at HM
      go_wp2
      go_ret
      exact ⟨A', c', by rw [HM.out]; rfl, hbel⟩
set_option maxHeartbeats 1000000 in
theorem rsize_any (n : Int) (A : Option Addr) (c : Nat) (es : List E3) (hn : es.length ≤ 40) (N : Int) (hok : ∀ e ∈ es, okE N e) (w : World) (h : Reads w w.heap.size 3 A es.length (edgeCells es)) :
    Calls Tryz.prog 56 #[.agg #[.int .i64 n, .slice A es.length c]] w fun e w' => e = .returned (.int .i64 (sizeE es : Nat)) ∧ Below w.heap.size w w' := by
  have EC := Lib.hid (rends_any n A c es hn N hok)
  go_enter Tryz.func56, Tryz.ntmps56
  go_wp2_with fail
  refine (EC.out _ ((h.alloc (Nat.le_refl _) _).more (by simp))).mono ?_
  rintro e w1 ⟨A1, c1, rfl, hb1⟩
  have hbel1 : Below w.heap.size w w1 := ((Below.refl _ _).alloc (Nat.le_refl _) _).trans (hb1.mono (by simp))
  go_wp2
  go_ret
  exact ⟨rfl, hbel1⟩

/-- Few vertices and single edges, or an error. -/
def smallB (n : Int) (es : List E3) (a b : Int) : Bool := if 40 < es.length then false else if checkG n es ≠ 0 then true else decide (n ≤ a) && decide ((sizeE es : Int) ≤ b)
set_option maxRecDepth 100000 in
set_option maxHeartbeats 1000000 in
theorem rsmall_any (n : Int) (A : Option Addr) (c : Nat) (es : List E3) (a b : Int) (w : World) (h : Reads w w.heap.size 3 A es.length (edgeCells es)) :
    Calls Tryz.prog 48 #[.agg #[.int .i64 n, .slice A es.length c], .int .i64 a, .int .i64 b] w fun e w' => e = .returned (.bool (smallB n es a b)) ∧ Below w.heap.size w w' := by
  have g0 := Blk.new w 24 #[.int .i64 n, .slice A es.length c]
  by_cases h1 : 40 < es.length
  · have hd : smallB n es a b = false := by unfold smallB; rw [if_pos h1]
    rw [hd]
    have hi : (40 : Int) < (es.length : Int) := by omega
    go_enter Tryz.func48, Tryz.ntmps48
    go_wp2
    go_ret
    exact ⟨rfl, (Below.refl _ _).alloc (Nat.le_refl _) _⟩
  have hi : ¬ (40 : Int) < (es.length : Int) := by omega
  have GC := rgcheck_any n A c es (by omega)
  by_cases h2 : checkG n es = 0
  · have hd : smallB n es a b = (decide (n ≤ a) && decide ((sizeE es : Int) ≤ b)) := by unfold smallB; rw [if_neg h1, if_neg (fun hc => hc h2)]
    rw [hd]
    rw [h2] at GC
    have hG := right_of h2
    have SC := Lib.hid (rsize_any n A c es (by omega) n hG.ok)
    have GC := Lib.hid GC
    clear h2 hd hG
    by_cases h3 : n ≤ a
    · have hd3 : decide (n ≤ a) = true := decide_eq_true h3
      go_enter Tryz.func48, Tryz.ntmps48
      go_wp2_with fail
      refine (GC.out _ ((h.alloc (Nat.le_refl _) _).more (by simp))).mono ?_
      rintro e w1 ⟨rfl, hb1⟩
      have hbel1 : Below w.heap.size w w1 := ((Below.refl _ _).alloc (Nat.le_refl _) _).trans (hb1.mono (by simp))
      have g1 := g0.next hb1
      have c0 := g1.cell 0
      have c1 := g1.cell 1
      go_wp2_with fail
      refine (SC.out _ ((h.below hbel1).more hbel1.size)).mono ?_
      rintro e w2 ⟨rfl, hb2⟩
      go_wp2
      go_ret
      exact ⟨ret_bool (by simp [h3]), hbel1.trans (hb2.mono hbel1.size)⟩
    · have hd3 : decide (n ≤ a) = false := decide_eq_false h3
      go_enter Tryz.func48, Tryz.ntmps48
      go_wp2_with fail
      refine (GC.out _ ((h.alloc (Nat.le_refl _) _).more (by simp))).mono ?_
      rintro e w1 ⟨rfl, hb1⟩
      have hbel1 : Below w.heap.size w w1 := ((Below.refl _ _).alloc (Nat.le_refl _) _).trans (hb1.mono (by simp))
      have g1 := g0.next hb1
      have c0 := g1.cell 0
      have c1 := g1.cell 1
      go_wp2
      go_ret
      exact ⟨ret_bool (by rw [hd3]; rfl), hbel1⟩
  · have hd : smallB n es a b = true := by unfold smallB; rw [if_neg h1, if_pos h2]
    rw [hd]
    obtain ⟨q, hq⟩ : ∃ q, checkG n es = q := ⟨_, rfl⟩
    rw [hq] at GC h2
    have hb : (q != 0) = true := by simpa using h2
    have GC := Lib.hid GC
    clear h2 hd hq
    go_enter Tryz.func48, Tryz.ntmps48
    go_wp2_with fail
    refine (GC.out _ ((h.alloc (Nat.le_refl _) _).more (by simp))).mono ?_
    rintro e w1 ⟨rfl, hb1⟩
    have hbel1 : Below w.heap.size w w1 := ((Below.refl _ _).alloc (Nat.le_refl _) _).trans (hb1.mono (by simp))
    go_wp2
    go_ret
    exact ⟨rfl, hbel1⟩
end Go.Proofs.YtghigdcpinengaaGreat

/-! The reference's fire: ref08.Holds, ref23.Joins, ref23.ready, ref23.Burnt, ref23.Unburnt. -/
namespace Go.Proofs.YtghigdcpinengaaGreat
open Go.RowKit

end Go.Proofs.YtghigdcpinengaaGreat

