/-
  Texts of this claim, put together: RTreeE, Right30, Law, LawG, Order, SameQ.
-/
import Derived.Test.YtghigdcpinengaaGreatK42
import Derived.Test.YtghigdcpinengaaGreatK13
import Derived.Test.YtghigdcpinengaaGreatK36
import Derived.Test.YtghigdcpinengaaGreatK41
import Derived.Test.YtghigdcpinengaaGreatK01
import Derived.WalkKit
import Derived.ProofKit
import Derived.OpenShut
import Derived.ShutString
import Derived.ChangeOld
import Derived.Below
import Derived.Test.YtghigdcpinengaaGreatRows
import Derived.Test.YtghigdcpinengaaGreatK07
import Derived.Deep.Slices
import Derived.Deep.QuietTactic
import Derived.BigQuiet
import Derived.Test.YtghigdcpinengaaGreatK03
import Derived.Test.YtghigdcpinengaaGreatK09
/-! ref08.Ends with what it holds. -/
namespace Go.Proofs.YtghigdcpinengaaGreat
open Go.RowKit

theorem size_ends {es : List E3} : sizeE es = (endsL es).length := by
  unfold sizeE endsL
  induction es with
  | nil => rfl
  | cons e es ih => simp only [List.map_cons, List.sum_cons, List.flatMap_cons, List.length_append, List.length_replicate, ih]

set_option maxRecDepth 100000 in
set_option maxHeartbeats 4000000 in
theorem rendsC_any (n : Int) (A : Option Addr) (c : Nat) (es : List E3) (hn : es.length ≤ 40) (N : Int) (hok : ∀ e ∈ es, okE N e) (w : World) (h : Reads w w.heap.size 3 A es.length (edgeCells es)) :
    Calls Tryz.prog 38 #[.agg #[.int .i64 n, .slice A es.length c]] w fun e w' => ∃ A' c', e = .returned (.slice A' (endsL es).length c') ∧ OwnQ w' w.heap.size A' c' (endsL es) ∧ Below w.heap.size w w' := by
  have HO := Lib.hid hok
  have HSZ : Hid (∀ k, (endsL (es.take k)).length ≤ 2000) := fun k => by
    rw [← size_ends]
    exact Nat.le_trans (sizeE_bd (N := N) fun e he => hok e (List.mem_of_mem_take he)) (by rw [List.length_take]; omega)
  have g0 := Blk.new w 24 #[.int .i64 n, .slice A es.length c]
  clear hok
  go_enter Tryz.func38, Tryz.ntmps38
  go_wp2
  go_loopw [3, 4] (fun s i wr => ∃ (k : Nat) (A' : Option Addr) (c' : Nat) (ps : List (Nat × Nat)), k ≤ es.length ∧ i = .int .i64 k ∧ s = .slice A' ps.length c' ∧ Hid (endsL (es.take k) = ps) ∧ Hid (OwnQ wr w.heap.size A' c' ps) ∧ Hid (Below w.heap.size w wr) ∧ Hid (Blk wr w.heap.size 24 #[.int .i64 n, .slice A es.length c])) (fun _ i _ => es.length - (intOf i).toNat)
  case atStart => exact ⟨0, none, 0, [], by omega, rfl, rfl, rfl, World.ownsRow_nil _ _ _ _, (Below.refl _ _).alloc (Nat.le_refl _) _, g0⟩
  case round =>
    obtain ⟨k, A', c', ps, hk, rfl, rfl, HM, HOW, HB, HG⟩ := hrel
    clear g0
    have c1 := HG.out.cell 1
    by_cases hlt : k < es.length
    · obtain ⟨⟨x, y, z⟩, hx⟩ := get_of_lt hlt
      have hokx := HO.out _ (List.mem_of_getElem? hx)
      unfold okE at hokx
      dsimp only at hokx
      obtain ⟨zn, rfl⟩ := Int.eq_ofNat_of_zero_le (show 0 ≤ z by omega)
      obtain ⟨xn, rfl⟩ := Int.eq_ofNat_of_zero_le (show 0 ≤ x by omega)
      obtain ⟨yn, rfl⟩ := Int.eq_ofNat_of_zero_le (show 0 ≤ y by omega)
      have hst := endsL_snoc hx
      rw [HM.out] at hst
      dsimp only at hst
      rw [Int.toNat_natCast, Int.toNat_natCast, Int.toNat_natCast] at hst
      have hmax := HSZ.out (k + 1)
      rw [hst, List.length_append, List.length_replicate] at hmax
      have HST := Lib.hid hst
      have HX := Lib.hid hx
      have hi : (k : Int) < (es.length : Int) := by omega
      clear hst hx hokx
      go_wp2
      obtain ⟨wo, rfl⟩ : ∃ wo : World, wo = wr := ⟨_, rfl⟩
      go_loopw [3, 5] (fun s i wr => ∃ (j : Nat) (A' : Option Addr) (c' : Nat) (qs : List (Nat × Nat)), j ≤ zn ∧ i = .int .i64 j ∧ s = .slice A' qs.length c' ∧ Hid (qs = ps ++ List.replicate j (xn, yn)) ∧ Hid (qs.length = ps.length + j) ∧ Hid (OwnQ wr w.heap.size A' c' qs) ∧ Hid (Below w.heap.size w wr) ∧ Hid (Blk wr w.heap.size 24 #[.int .i64 n, .slice A es.length c])) (fun _ i _ => zn - (intOf i).toNat)
      case atStart => exact ⟨0, A', c', ps, by omega, rfl, rfl, by simp [Hid], by simp [Hid], HOW, HB, HG⟩
      case round =>
        clear HOW HB HG c1
        obtain ⟨j, A', c', qs, hj, rfl, rfl, HQ, HQL, HOW, HB, HG⟩ := hrel
        have hsz := HB.out.size
        have g1 := HG.out
        have c1 := g1.cell 1
        obtain ⟨bb, off, hA, hbb, q1, q2, q3⟩ := (h.below HB.out).edge HX.out
        subst hA
        dsimp only at q1 q2 q3
        by_cases hlt2 : j < zn
        · have hi2 : (j : Int) < (zn : Int) := by omega
          have hownA : (wr.drew.alloc (.cells #[.int .i64 xn, .int .i64 yn] 63)).ownsRow w.heap.size 63 2 (.slice A' qs.length c') qs.length (pair2 qs) := World.ownsRow.alloc (World.ownsRow.drew HOW.out) _
          have hz : w.heap.size ≤ (wr.drew.alloc (.cells #[.int .i64 xn, .int .i64 yn] 63)).heap.size := by show _ ≤ (wr.alloc _).heap.size; simp; omega
          have hq2 : qs.length + 1 ≤ 1048576 := by have := HQL.out; omega
          go_wp2
          go_region_law (refine append_step2 rfl (.tmp 23) (.tmp 37) _ _ rfl w.heap.size 63 63 Tryz.underlying61 Tryz.underlying61 info_pair2 rfl (by omega) A' c' qs.length (pair2 qs) rfl (by exact hownA) _ [.int .i64 xn, .int .i64 yn] rfl (by exact Reads.boxN wr.drew #[.int .i64 xn, .int .i64 yn] 63) (by simp [Value.oneCell']) hq2 (by exact hz) ?_; intro A3 c3 W3 hown3 hgr3 hb3 _)
          all_goals (
            have g2 : Blk W3 w.heap.size 24 #[.int .i64 n, .slice (some ⟨bb, off, none⟩) es.length c] := Blk.grown (h := (g1.drew.alloc (.cells #[.int .i64 xn, .int .i64 yn] 63))) hgr3 (own_blk_ne hownA (g1.drew.alloc _) (by decide))
            have hb4 : Below w.heap.size w W3 := (HB.out.drew.alloc hsz (.cells #[.int .i64 xn, .int .i64 yn] 63)).trans hb3
            have hq3 : OwnQ W3 w.heap.size A3 c3 (qs ++ [(xn, yn)]) := (by unfold OwnQ; rw [List.length_append, pair2_snoc]; exact hown3)
            have HQ3 := Lib.hid hq3
            have HB4 := Lib.hid hb4
            have HG2 := Lib.hid g2
            clear hq3 hb4 g2 hown3 hgr3 hb3
            go_wp2
            go_roundw
            case rel => exact ⟨j + 1, A3, c3, qs ++ [(xn, yn)], by omega, by go_num, by simp, by rw [Hid, HQ.out, List.replicate_succ', List.append_assoc], by rw [Hid, List.length_append, HQL.out]; simp; omega, HQ3, HB4, HG2⟩
            case measure => simp [intOf]; omega)
        · obtain rfl : j = zn := by omega
          have hfin : Hid (endsL (es.take (k + 1)) = qs) := by rw [Hid, HST.out, HQ.out]
          go_wp2
          go_roundw
          case rel => exact ⟨k + 1, A', c', qs, by omega, by go_num, rfl, hfin, HOW, HB, HG⟩
          case measure => simp [intOf]; omega
    · obtain rfl : k = es.length := by omega
      rw [List.take_length] at HM
      go_wp2
      go_ret
      exact ⟨A', c', by rw [HM.out]; rfl, by rw [HM.out]; exact HOW.out, HB.out⟩
end Go.Proofs.YtghigdcpinengaaGreat

/-! sandpilelaw30.right. -/
namespace Go.Proofs.YtghigdcpinengaaGreat
open Go.RowKit

def right30B (n : Int) (es : List E3) (q : Int) : Bool := smallB n es 5 8 && decide (rootErr n es q = 0)
theorem small30 {n : Int} {es : List E3} (h : smallB n es 5 8 = true) : es.length ≤ 40 ∧ (checkG n es = 0 → n ≤ 5 ∧ (endsL es).length ≤ 8) := by
  unfold smallB at h
  by_cases h1 : 40 < es.length
  · rw [if_pos h1] at h; cases h
  · refine ⟨by omega, fun h2 => ?_⟩
    rw [if_neg h1, if_neg (fun hc => hc h2), Bool.and_eq_true, size_ends] at h
    have := of_decide_eq_true h.1
    have := of_decide_eq_true h.2
    omega
theorem right30_parts {n : Int} {es : List E3} {q : Int} (h : right30B n es q = true) : ∃ m p : Nat, n = m ∧ q = p ∧ p < m ∧ m ≤ 5 ∧ es.length ≤ 40 ∧ (endsL es).length ≤ 8 ∧ RightG m es ∧ AllConn m es ∧ checkG n es = 0 ∧ joinErr n es = 0 ∧ rootErr n es q = 0 := by
  unfold right30B at h
  rw [Bool.and_eq_true, decide_eq_true_eq] at h
  obtain ⟨hl, hs⟩ := small30 h.1
  obtain ⟨m, p, rfl, rfl, hp, hG, hC, hck, hj⟩ := root_natF h.2
  obtain ⟨h5, h8⟩ := hs hck
  exact ⟨m, p, rfl, rfl, hp, by omega, hl, h8, hG, hC, hck, hj, h.2⟩
set_option maxHeartbeats 1000000 in
theorem right30_any (n : Int) (A : Option Addr) (c : Nat) (es : List E3) (q : Int) (w : World) (h : Reads w w.heap.size 3 A es.length (edgeCells es)) :
    Calls Tryz.prog 26 #[.agg #[.int .i64 n, .slice A es.length c], .int .i64 q] w fun e w' => e = .returned (.bool (right30B n es q)) ∧ Below w.heap.size w w' := by
  have FC := Lib.hid (fun w h => rfewtrees_any n A c es w h)
  have g := Blk.new w 24 #[.int .i64 n, .slice A es.length c]
  have hB : Below w.heap.size w (w.alloc (.cells #[.int .i64 n, .slice A es.length c] 24)) := (Below.refl _ _).alloc (Nat.le_refl _) _
  have k0 := g.cell 0
  have k1 := g.cell 1
  unfold right30B
  by_cases hf : smallB n es 5 8 = true
  · have hl := (small30 hf).1
    have RC := Lib.hid (fun w h => rrooted_any n A c es (by omega) q w h)
    rw [hf] at FC ⊢
    rw [Bool.true_and]
    obtain ⟨z, hz⟩ : ∃ z, rootErr n es q = z := ⟨_, rfl⟩
    rw [hz] at RC ⊢
    have hzz : (z == 0) = decide (z = 0) := by rw [Bool.eq_iff_iff]; simp
    have HZ := Lib.hid hzz
    clear hf hz hl hzz
    go_enter Tryz.func26, Tryz.ntmps26
    go_wp2_with fail
    refine (FC.out _ ((h.below hB).more hB.size)).mono ?_
    rintro e wn ⟨rfl, hb⟩
    have g := g.next hb
    have hB := hB.trans (hb.mono hB.size)
    have k0 := g.cell 0
    have k1 := g.cell 1
    clear hb
    go_wp2_with fail
    refine (RC.out _ ((h.below hB).more hB.size)).mono ?_
    rintro e wn ⟨rfl, hb⟩
    have g := g.next hb
    have hB := hB.trans (hb.mono hB.size)
    have k0 := g.cell 0
    have k1 := g.cell 1
    clear hb
    go_wp2
    go_ret
    exact ⟨by rw [← HZ.out]; rfl, hB⟩
  · have hf : smallB n es 5 8 = false := by rw [← Bool.not_eq_true]; exact hf
    rw [hf] at FC ⊢
    rw [Bool.false_and]
    clear hf
    go_enter Tryz.func26, Tryz.ntmps26
    go_wp2_with fail
    refine (FC.out _ ((h.below hB).more hB.size)).mono ?_
    rintro e wn ⟨rfl, hb⟩
    have g := g.next hb
    have hB := hB.trans (hb.mono hB.size)
    have k0 := g.cell 0
    have k1 := g.cell 1
    clear hb
    go_wp2
    go_ret
    exact ⟨rfl, hB⟩
end Go.Proofs.YtghigdcpinengaaGreat

/-! What the laws' proofs share: a slice of ints that came in reads as a list. -/
namespace Go.Proofs.YtghigdcpinengaaGreat
open Go.ChangeShapes Go.WideShapes Go.ChangeAt Go.RowKit

theorem own : ownKnob Tryz.prog.godebug = none := by kernel_rfl
theorem laidOut : laidOutB Tryz.prog = true := by kernel_rfl

/-- A slice of integers that came in: nil, or a row of 'cap' cells. -/
def IsRow (k : IntKind) (w : World) (a : Option Addr) (len cap : Nat) (zs : List Int) : Prop :=
  (a = none ∧ len = 0 ∧ cap = 0 ∧ zs = []) ∨
  ∃ x, a = some x ∧ len ≤ cap ∧ cap ≤ maxLen ∧ zs.length = cap ∧ (∀ i, i < zs.length → w.cell? (x.add i) = some (.int k (zs.getD i 0))) ∧ ∀ n ∈ zs, (Lit.int k n).wf = true

theorem IsRow.reads {w : World} {a : Option Addr} {len cap : Nat} {zs : List Int} (h : IsRow .i64 w a len cap zs) :
    ∃ xs : List Int, xs.length = len ∧ len ≤ maxLen ∧ Reads w w.heap.size 1 a xs.length (ints xs) ∧ ∀ x ∈ xs, (Lit.int .i64 x).wf = true := by
  rcases h with ⟨rfl, rfl, rfl, rfl⟩ | ⟨x, rfl, hl, hm, hz, hc, hw⟩
  · exact ⟨[], rfl, by simp [maxLen], Reads.nil_, by simp⟩
  · have hlen : (zs.take len).length = len := by simp; omega
    refine ⟨zs.take len, hlen, Nat.le_trans hl hm, ⟨by rw [ints_length, Nat.mul_one], fun hn => ?_⟩, fun y hy => hw y (List.mem_of_mem_take hy)⟩
    obtain ⟨b, off, spot⟩ := x
    have h0 := hc 0 (by omega)
    obtain rfl : spot = none := by simpa [Addr.add] using World.cell?_spot h0
    refine ⟨b, off, rfl, ?_, fun j u hu => ?_⟩
    · have := World.block_lt_of_cell? w _ h0
      simpa [Addr.add] using this
    · obtain ⟨hj, hju⟩ := List.getElem?_eq_some_iff.1 hu
      rw [ints_length, hlen] at hj
      have h1 := hc j (by omega)
      have h2 : (zs.take len)[j]? = some (zs.getD j 0) := by
        rw [List.getElem?_take_of_lt hj, List.getD_eq_getElem?_getD, List.getElem?_eq_getElem (by omega)]
        rfl
      rw [ints_at h2] at hu
      injection hu with hu
      rw [← hu, ← h1]
      by_cases e : j = 0
      · subst e; simp [Addr.add]
      · simp [Addr.add, e]
end Go.Proofs.YtghigdcpinengaaGreat

/-! What the frames of the graph laws share: a graph that came in, a list of ints of whatever name. -/
namespace Go.Proofs.YtghigdcpinengaaGreat
open Go.ChangeShapes Go.WideShapes Go.ChangeAt Go.RowKit Go.Deep

section
variable {H : Type} {enc : TypeId × Value → H} {W : World}

set_option maxRecDepth 100000 in
/-- A graph. -/
theorem open_graph {fuel : Nat} {cs : List Value} {x : DataW H × List MemPlace} (h : DataW.trod enc Tryz.prog W 0 (fun _ => true) true fuel 24 cs = some x) :
    ∃ (n : Int) (a : Option Addr) (cap : Nat) (es : List E3), cs = [.int .i64 n, .slice a es.length cap] ∧ es.length ≤ maxLen ∧ Reads W W.heap.size 3 a es.length (edgeCells es) ∧ (Lit.int .i64 n).wf = true := by
  obtain ⟨ys, m, rfl, _, hlen, hys, hf⟩ := DataW.trod_struct Tryz.underlying24 h
  rw [show Tryz.prog.cellsOf 24 = 2 from by kernel_rfl] at hlen
  match cs, hlen with
  | [u0, u1], _ =>
    have f0 := hf 0 _ rfl
    have f1 := hf 1 _ rfl
    have hsz : ys.length = 2 := hys
    obtain ⟨y0, hy0⟩ : ∃ y, ys[0]? = some y := ⟨_, List.getElem?_eq_getElem (by omega)⟩
    obtain ⟨y1, hy1⟩ : ∃ y, ys[1]? = some y := ⟨_, List.getElem?_eq_getElem (by omega)⟩
    rw [hy0] at f0
    rw [hy1] at f1
    have ci : Tryz.prog.cellsOf 3 = 1 := by kernel_rfl
    have cl : Tryz.prog.cellsOf 22 = 1 := by kernel_rfl
    simp [ci, cl] at f0 f1
    obtain ⟨n, hn, _, hw⟩ := DataW.trod_int Tryz.underlying3 f0
    injection hn with hn
    subst hn
    rcases open_slice Tryz.underlying22 f1 with ⟨hcs, _⟩ | ⟨a, len, cap, k, fu, D, Pl, hcs, hb, hl, hm, hk, _, hx⟩
    · injection hcs with hcs
      subst hcs
      exact ⟨n, none, 0, [], rfl, by simp, Reads.nil_, hw⟩
    · injection hcs with hcs
      subst hcs
      have hk : k = cap := by simpa using hk
      have ce : Tryz.prog.cellsOf 104 = 3 := by kernel_rfl
      have each : ∀ i, i < len → ∃ e : E3, W.cell? (a.add (i * 3)) = some (.int .i64 e.1) ∧ W.cell? (a.add (i * 3 + 1)) = some (.int .i64 e.2.1) ∧ W.cell? (a.add (i * 3 + 2)) = some (.int .i64 e.2.2) := by
        intro i hi
        obtain ⟨cs', h1, h2⟩ := hx i (by omega)
        rw [ce] at h1
        obtain ⟨_, hlen, hcell⟩ := World.cells?_some h1
        obtain ⟨xs, k, _, _, _, hxl, hf⟩ := DataW.trod_struct Tryz.underlying104 h2
        match xs, hxl, cs', hlen with
        | [y0, y1, y2], _, [v0, v1, v2], _ =>
          have g0 := hf 0 _ rfl
          have g1 := hf 1 _ rfl
          have g2 := hf 2 _ rfl
          simp [ci] at g0 g1 g2
          have e0 := hcell 0 (by omega)
          have e1 := hcell 1 (by omega)
          have e2 := hcell 2 (by omega)
          rw [add_add] at e0 e1 e2
          obtain ⟨n0, q0, _, _⟩ := DataW.trod_int Tryz.underlying3 g0
          obtain ⟨n1, q1, _, _⟩ := DataW.trod_int Tryz.underlying3 g1
          obtain ⟨n2, q2, _, _⟩ := DataW.trod_int Tryz.underlying3 g2
          injection q0 with q0
          injection q1 with q1
          injection q2 with q2
          subst q0 q1 q2
          exact ⟨(n0, n1, n2), by simpa using e0, by simpa using e1, by simpa using e2⟩
      obtain ⟨F, hF⟩ := choose_lt each
      have hlen : ((List.range len).map F).length = len := by simp
      have hspot : 0 < len → ∃ b off, a = ⟨b, off, none⟩ ∧ b < W.heap.size := by
        intro h0
        have hc := (hF 0 h0).1
        obtain ⟨b, off, spot⟩ := a
        obtain rfl : spot = none := by simpa [Addr.add] using World.cell?_spot hc
        have := World.block_lt_of_cell? W _ hc
        exact ⟨b, off, rfl, by simpa [Addr.add] using this⟩
      refine ⟨n, some a, cap, (List.range len).map F, by rw [hlen], by rw [hlen]; omega, ⟨edgeCells_length _, fun hn => ?_⟩, hw⟩
      rw [hlen] at hn
      obtain ⟨b, off, rfl, hb2⟩ := hspot hn
      refine ⟨b, off, rfl, hb2, fun j u hu => ?_⟩
      have hj : j < (edgeCells ((List.range len).map F)).length := (List.getElem?_eq_some_iff.1 hu).1
      rw [edgeCells_length, hlen] at hj
      have hi : j / 3 < len := by omega
      have hget : ((List.range len).map F)[j / 3]? = some (F (j / 3)) := by rw [List.getElem?_map, List.getElem?_range hi]; rfl
      obtain ⟨k0, k1, k2⟩ := edgeCells_at hget
      obtain ⟨m0, m1, m2⟩ := hF _ hi
      rw [add_plain] at m0 m1 m2
      have h3 : j = j / 3 * 3 ∨ j = j / 3 * 3 + 1 ∨ j = j / 3 * 3 + 2 := by omega
      rcases h3 with h3 | h3 | h3
      · rw [h3, k0] at hu; injection hu with hu; rw [show off + j = off + (j / 3 * 3) from by omega, ← hu]; exact m0
      · rw [h3, k1] at hu; injection hu with hu; rw [show off + j = off + (j / 3 * 3 + 1) from by omega, ← hu]; exact m1
      · rw [h3, k2] at hu; injection hu with hu; rw [show off + j = off + (j / 3 * 3 + 2) from by omega, ← hu]; exact m2
end
end Go.Proofs.YtghigdcpinengaaGreat

/-! ref17.Order and ref17.Same: the order and the equality of divisors. -/
namespace Go.Proofs.YtghigdcpinengaaGreat
open Go.RowKit

/-- The order of two lists of one length. -/
def ordS : List Int → List Int → Int
  | x :: xs, y :: ys => if x < y then -1 else if y < x then 1 else ordS xs ys
  | _, _ => 0
theorem ordS_drop {xs ys : List Int} {k : Nat} {x y : Int} (h : xs[k]? = some x) (h' : ys[k]? = some y) :
    ordS (xs.drop k) (ys.drop k) = if x < y then -1 else if y < x then 1 else ordS (xs.drop (k + 1)) (ys.drop (k + 1)) := by
  obtain ⟨l1, e1⟩ := List.getElem?_eq_some_iff.1 h
  obtain ⟨l2, e2⟩ := List.getElem?_eq_some_iff.1 h'
  rw [List.drop_eq_getElem_cons l1, List.drop_eq_getElem_cons l2, e1, e2, ordS]
theorem ordS_zero : ∀ {xs ys : List Int}, xs.length = ys.length → (ordS xs ys = 0 ↔ xs = ys)
  | [], [], _ => by simp [ordS]
  | [], _ :: _, h => by simp at h
  | _ :: _, [], h => by simp at h
  | x :: xs, y :: ys, h => by
    have ih := ordS_zero (xs := xs) (ys := ys) (by simpa using h)
    rw [ordS]
    by_cases h1 : x < y
    · rw [if_pos h1]; simp; intro e; omega
    · by_cases h2 : y < x
      · rw [if_neg h1, if_pos h2]; simp; intro e; omega
      · have : x = y := by omega
        subst this
        rw [if_neg h1, if_neg h1, ih]; simp

theorem drew_once {w wr : World} {a : Nat} (h : ∃ m, wr = w.drewN m) : ∃ m, wr.drewN a = w.drewN m := by
  obtain ⟨m, e⟩ := h
  exact ⟨m + a, by rw [e, World.drewN_drewN]⟩
theorem drew_twice {w wr : World} {a b : Nat} (h : ∃ m, wr = w.drewN m) : ∃ m, (wr.drewN a).drewN b = w.drewN m := by
  obtain ⟨m, e⟩ := h
  exact ⟨m + (a + b), by rw [e, World.drewN_drewN, World.drewN_drewN]⟩
set_option maxHeartbeats 800000 in
theorem rorder_any (A : Option Addr) (c : Nat) (xs : List Int) (B : Option Addr) (d : Nat) (ys : List Int) (hn : xs.length ≤ 1048576) (hl : xs.length = ys.length) (w : World) (b0 : Nat) (h : Reads w b0 1 A xs.length (ints xs)) (h' : Reads w b0 1 B ys.length (ints ys)) :
    Calls Tryz.prog 60 #[.slice A xs.length c, .slice B ys.length d] w fun e w' => e = .returned (.int .i64 (ordS xs ys)) ∧ ∃ m, w' = w.drewN m := by
  have HL := Lib.hid hl
  clear hl
  go_enter Tryz.func60, Tryz.ntmps60
  go_wp2
  go_loopw [5] (fun i wr => ∃ k : Nat, k ≤ xs.length ∧ i = .int .i64 k ∧ Hid (∃ m, wr = w.drewN m) ∧ Hid (ordS xs ys = ordS (xs.drop k) (ys.drop k))) (fun i _ => xs.length - (intOf i).toNat)
  case atStart => exact ⟨0, by omega, rfl, ⟨0, rfl⟩, by simp [Hid]⟩
  case round =>
    obtain ⟨k, hk, rfl, HM, HS⟩ := hrel
    have hrd : Reads wr b0 1 A xs.length (ints xs) := by obtain ⟨m, e⟩ := HM.out; rw [e]; exact h
    have hrd' : Reads wr b0 1 B ys.length (ints ys) := by obtain ⟨m, e⟩ := HM.out; rw [e]; exact h'
    by_cases hlt : k < xs.length
    · obtain ⟨x, hx⟩ := get_of_lt hlt
      obtain ⟨y, hy⟩ := get_of_lt (xs := ys) (k := k) (by have := HL.out; omega)
      have hd := ordS_drop hx hy
      obtain ⟨b, off, rfl, hb, hcell⟩ := hrd.at_ (ints_at hx)
      obtain ⟨b', off', rfl, hb', hcell'⟩ := hrd'.at_ (ints_at hy)
      have hi : (k : Int) < (xs.length : Int) := by omega
      have hi' : (k : Int) < (ys.length : Int) := by have := HL.out; omega
      clear hx hy h h' hrd hrd'
      by_cases h1 : x < y
      · have d1 : decide (x < y) = true := decide_eq_true h1
        rw [if_pos h1] at hd
        have HD := Lib.hid hd
        clear hd
        go_wp2
        go_quiet (fail)
        go_wp2
        go_ret
        exact ⟨by rw [HS.out, HD.out]; rfl, by obtain ⟨m, e⟩ := HM.out; exact ⟨m + nq, by rw [e, World.drewN_drewN]⟩⟩
      · have d1 : decide (x < y) = false := decide_eq_false h1
        by_cases h2 : y < x
        · have d2 : decide (y < x) = true := decide_eq_true h2
          rw [if_neg h1, if_pos h2] at hd
          have HD := Lib.hid hd
          clear hd
          go_wp2
          go_quiet (fail)
          go_wp2
          go_quiet (fail)
          go_wp2
          go_ret
          exact ⟨by rw [HS.out, HD.out]; rfl, drew_twice HM.out⟩
        · have d2 : decide (y < x) = false := decide_eq_false h2
          rw [if_neg h1, if_neg h2] at hd
          have HD := Lib.hid hd
          clear hd
          go_wp2
          go_quiet (fail)
          go_wp2
          go_quiet (fail)
          go_wp2
          go_roundw
          case rel => exact ⟨k + 1, by omega, by go_num, drew_once HM.out, by rw [Hid, HS.out, HD.out]⟩
          case measure => simp [intOf]; omega
    · go_wp2
      go_ret
      refine ⟨?_, HM.out⟩
      have e : ordS xs ys = 0 := by rw [HS.out, List.drop_eq_nil_of_le (by omega)]; rfl
      rw [e]; rfl

set_option maxHeartbeats 400000 in
theorem dsame_any (A : Option Addr) (c : Nat) (xs : List Int) (B : Option Addr) (d : Nat) (ys : List Int) (hn : xs.length ≤ 1048576) (w : World) (b0 : Nat) (h : Reads w b0 1 A xs.length (ints xs)) (h' : Reads w b0 1 B ys.length (ints ys)) :
    Calls Tryz.prog 24 #[.slice A xs.length c, .slice B ys.length d] w fun e w' => e = .returned (.bool (decide (xs = ys))) ∧ ∃ m, w' = w.drewN m := by
  by_cases hl : xs.length = ys.length
  · have hb : ((xs.length : Int) != (ys.length : Int)) = false := by simp; omega
    have HO := Lib.hid (rorder_any A c xs B d ys hn hl w b0 h h')
    have HZ := Lib.hid (ordS_zero hl)
    clear hl
    go_enter Tryz.func24, Tryz.ntmps24
    go_wp2_with (go_at_call 60; refine (HO.out).mono ?_; rintro e w' ⟨rfl, hw'⟩)
    go_ret
    refine ⟨ret_bool ?_, hw'⟩
    by_cases he : xs = ys
    · have := HZ.out.2 he; simp [he] at this ⊢; exact this
    · have : ¬ ordS xs ys = 0 := fun e => he (HZ.out.1 e)
      simp [he, this]
  · have hb : ((xs.length : Int) != (ys.length : Int)) = true := by simp; omega
    go_enter Tryz.func24, Tryz.ntmps24
    go_wp2
    go_ret
    have : ¬ xs = ys := fun e => hl (by rw [e])
    exact ⟨ret_bool (by simp [this]), 0, rfl⟩
end Go.Proofs.YtghigdcpinengaaGreat

/-! ref23.Same. -/
namespace Go.Proofs.YtghigdcpinengaaGreat
open Go.RowKit

end Go.Proofs.YtghigdcpinengaaGreat

/-! ref08.SameInts draws, and does nothing else. -/
namespace Go.Proofs.YtghigdcpinengaaGreat
open Go.RowKit

set_option maxHeartbeats 800000 in
/-- The reference's equality of lists: it draws, and does nothing else. -/
theorem sameQ_any (A : Option Addr) (c : Nat) (xs : List Int) (B : Option Addr) (d : Nat) (ys : List Int) (hn : xs.length ≤ 1048576) (w : World) (b0 : Nat) (h : Reads w b0 1 A xs.length (ints xs)) (h' : Reads w b0 1 B ys.length (ints ys)) :
    Calls Tryz.prog 53 #[.slice A xs.length c, .slice B ys.length d] w fun e w' => e = .returned (.bool (decide (xs = ys))) ∧ ∃ m, w' = w.drewN m := by
  by_cases hl : xs.length = ys.length
  · have HL := Lib.hid hl
    have hb : ((xs.length : Int) != (ys.length : Int)) = false := by simp; omega
    clear hl
    go_enter Tryz.func53, Tryz.ntmps53
    go_wp2
    clear hb
    go_loopw [5] (fun i wr => ∃ k : Nat, k ≤ xs.length ∧ i = .int .i64 k ∧ Hid (∃ m, wr = w.drewN m) ∧ Hid (xs.take k = ys.take k)) (fun i _ => xs.length - (intOf i).toNat)
    case atStart => exact ⟨0, by omega, rfl, ⟨0, rfl⟩, by simp [Hid]⟩
    case round =>
      obtain ⟨k, hk, rfl, HM, HS⟩ := hrel
      have hrd : Reads wr b0 1 A xs.length (ints xs) := by obtain ⟨m, e⟩ := HM.out; rw [e]; exact h
      have hrd' : Reads wr b0 1 B ys.length (ints ys) := by obtain ⟨m, e⟩ := HM.out; rw [e]; exact h'
      by_cases hlt : k < xs.length
      · obtain ⟨x, hx⟩ := get_of_lt hlt
        obtain ⟨y, hy⟩ := get_of_lt (xs := ys) (k := k) (by have := HL.out; omega)
        have HX := Lib.hid hx
        have HY := Lib.hid hy
        obtain ⟨b, off, rfl, hb, hcell⟩ := hrd.at_ (ints_at hx)
        obtain ⟨b', off', rfl, hb', hcell'⟩ := hrd'.at_ (ints_at hy)
        have hi : (k : Int) < (xs.length : Int) := by omega
        have hi' : (k : Int) < (ys.length : Int) := by have := HL.out; omega
        clear hx hy h h' hrd hrd'
        by_cases hxy : x = y
        · subst hxy
          go_wp2
          go_quiet (fail)
          go_wp2
          go_roundw
          case rel => exact ⟨k + 1, by omega, by go_num, by obtain ⟨m, e⟩ := HM.out; exact ⟨m + nq, by rw [e, World.drewN_drewN]⟩, by rw [Hid, take_snoc HX.out, take_snoc HY.out, HS.out]⟩
          case measure => simp [intOf]; omega
        · have hbx : (x != y) = true := by simpa using hxy
          go_wp2
          go_quiet (fail)
          go_wp2
          go_ret
          refine ⟨ret_bool ?_, by obtain ⟨m, e⟩ := HM.out; exact ⟨m + nq, by rw [e, World.drewN_drewN]⟩⟩
          have : ¬ xs = ys := fun e => hxy (by have h1 := HX.out; rw [e, HY.out] at h1; injection h1 with h1; exact h1.symm)
          simp [this]
      · go_wp2
        go_ret
        refine ⟨ret_bool ?_, HM.out⟩
        have e : xs = ys := by have h1 := HS.out; rw [show k = xs.length from by omega, List.take_length, HL.out, List.take_length] at h1; exact h1
        simp [e]
  · have hb : ((xs.length : Int) != (ys.length : Int)) = true := by simp; omega
    go_enter Tryz.func53, Tryz.ntmps53
    go_wp2
    go_ret
    have : ¬ xs = ys := fun e => hl (by rw [e])
    exact ⟨ret_bool (by simp [this]), 0, rfl⟩
end Go.Proofs.YtghigdcpinengaaGreat

