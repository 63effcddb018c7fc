/-
  Texts of this claim, put together: RTreeE, Right30, Law, LawG, RNextF.
-/
import Derived.Test.YtghigdcpinengaaGreatK44
import Derived.Test.YtghigdcpinengaaGreatK14
import Derived.Test.YtghigdcpinengaaGreatK47
import Derived.Test.YtghigdcpinengaaGreatK37
import Derived.Test.YtghigdcpinengaaGreatK45
import Derived.Test.YtghigdcpinengaaGreatK01
import Derived.WalkKit
import Derived.ProofKit
import Derived.OpenShut
import Derived.ShutString
import Derived.ChangeOld
import Derived.Below
import Derived.Test.YtghigdcpinengaaGreatRows
import Derived.Test.YtghigdcpinengaaGreatK08
import Derived.Deep.Slices
import Derived.Test.YtghigdcpinengaaGreatK17
/-! ref08.Ends with what it holds. -/
namespace Go.Proofs.YtghigdcpinengaaGreat
open Go.RowKit

theorem size_ends {es : List E3} : sizeE es = (endsL es).length := by
  unfold sizeE endsL
  induction es with
  | nil => rfl
  | cons e es ih => simp only [List.map_cons, List.sum_cons, List.flatMap_cons, List.length_append, List.length_replicate, ih]

set_option maxRecDepth 100000 in
set_option maxHeartbeats 4000000 in
theorem rendsC_any (n : Int) (A : Option Addr) (c : Nat) (es : List E3) (hn : es.length ≤ 40) (N : Int) (hok : ∀ e ∈ es, okE N e) (w : World) (h : Reads w w.heap.size 3 A es.length (edgeCells es)) :
    Calls Tryz.prog 38 #[.agg #[.int .i64 n, .slice A es.length c]] w fun e w' => ∃ A' c', e = .returned (.slice A' (endsL es).length c') ∧ OwnQ w' w.heap.size A' c' (endsL es) ∧ Below w.heap.size w w' := by
  have HO := Lib.hid hok
  have HSZ : Hid (∀ k, (endsL (es.take k)).length ≤ 2000) := fun k => by
    rw [← size_ends]
    exact Nat.le_trans (sizeE_bd (N := N) fun e he => hok e (List.mem_of_mem_take he)) (by rw [List.length_take]; omega)
  have g0 := Blk.new w 24 #[.int .i64 n, .slice A es.length c]
  clear hok
  go_enter Tryz.func38, Tryz.ntmps38
  go_wp2
  go_loopw [3, 4] (fun s i wr => ∃ (k : Nat) (A' : Option Addr) (c' : Nat) (ps : List (Nat × Nat)), k ≤ es.length ∧ i = .int .i64 k ∧ s = .slice A' ps.length c' ∧ Hid (endsL (es.take k) = ps) ∧ Hid (OwnQ wr w.heap.size A' c' ps) ∧ Hid (Below w.heap.size w wr) ∧ Hid (Blk wr w.heap.size 24 #[.int .i64 n, .slice A es.length c])) (fun _ i _ => es.length - (intOf i).toNat)
  case atStart => exact ⟨0, none, 0, [], by omega, rfl, rfl, rfl, World.ownsRow_nil _ _ _ _, (Below.refl _ _).alloc (Nat.le_refl _) _, g0⟩
  case round =>
    obtain ⟨k, A', c', ps, hk, rfl, rfl, HM, HOW, HB, HG⟩ := hrel
    clear g0
    have c1 := HG.out.cell 1
    by_cases hlt : k < es.length
    · obtain ⟨⟨x, y, z⟩, hx⟩ := get_of_lt hlt
      have hokx := HO.out _ (List.mem_of_getElem? hx)
      unfold okE at hokx
      dsimp only at hokx
      obtain ⟨zn, rfl⟩ := Int.eq_ofNat_of_zero_le (show 0 ≤ z by omega)
      obtain ⟨xn, rfl⟩ := Int.eq_ofNat_of_zero_le (show 0 ≤ x by omega)
      obtain ⟨yn, rfl⟩ := Int.eq_ofNat_of_zero_le (show 0 ≤ y by omega)
      have hst := endsL_snoc hx
      rw [HM.out] at hst
      dsimp only at hst
      rw [Int.toNat_natCast, Int.toNat_natCast, Int.toNat_natCast] at hst
      have hmax := HSZ.out (k + 1)
      rw [hst, List.length_append, List.length_replicate] at hmax
      have HST := Lib.hid hst
      have HX := Lib.hid hx
      have hi : (k : Int) < (es.length : Int) := by omega
      clear hst hx hokx
      go_wp2
      obtain ⟨wo, rfl⟩ : ∃ wo : World, wo = wr := ⟨_, rfl⟩
      go_loopw [3, 5] (fun s i wr => ∃ (j : Nat) (A' : Option Addr) (c' : Nat) (qs : List (Nat × Nat)), j ≤ zn ∧ i = .int .i64 j ∧ s = .slice A' qs.length c' ∧ Hid (qs = ps ++ List.replicate j (xn, yn)) ∧ Hid (qs.length = ps.length + j) ∧ Hid (OwnQ wr w.heap.size A' c' qs) ∧ Hid (Below w.heap.size w wr) ∧ Hid (Blk wr w.heap.size 24 #[.int .i64 n, .slice A es.length c])) (fun _ i _ => zn - (intOf i).toNat)
      case atStart => exact ⟨0, A', c', ps, by omega, rfl, rfl, by simp [Hid], by simp [Hid], HOW, HB, HG⟩
      case round =>
        clear HOW HB HG c1
        obtain ⟨j, A', c', qs, hj, rfl, rfl, HQ, HQL, HOW, HB, HG⟩ := hrel
        have hsz := HB.out.size
        have g1 := HG.out
        have c1 := g1.cell 1
        obtain ⟨bb, off, hA, hbb, q1, q2, q3⟩ := (h.below HB.out).edge HX.out
        subst hA
        dsimp only at q1 q2 q3
        by_cases hlt2 : j < zn
        · have hi2 : (j : Int) < (zn : Int) := by omega
          have hownA : (wr.drew.alloc (.cells #[.int .i64 xn, .int .i64 yn] 63)).ownsRow w.heap.size 63 2 (.slice A' qs.length c') qs.length (pair2 qs) := World.ownsRow.alloc (World.ownsRow.drew HOW.out) _
          have hz : w.heap.size ≤ (wr.drew.alloc (.cells #[.int .i64 xn, .int .i64 yn] 63)).heap.size := by show _ ≤ (wr.alloc _).heap.size; simp; omega
          have hq2 : qs.length + 1 ≤ 1048576 := by have := HQL.out; omega
          go_wp2
          go_region_law (refine append_step2 rfl (.tmp 23) (.tmp 37) _ _ rfl w.heap.size 63 63 Tryz.underlying61 Tryz.underlying61 info_pair2 rfl (by omega) A' c' qs.length (pair2 qs) rfl (by exact hownA) _ [.int .i64 xn, .int .i64 yn] rfl (by exact Reads.boxN wr.drew #[.int .i64 xn, .int .i64 yn] 63) (by simp [Value.oneCell']) hq2 (by exact hz) ?_; intro A3 c3 W3 hown3 hgr3 hb3 _)
          all_goals (
            have g2 : Blk W3 w.heap.size 24 #[.int .i64 n, .slice (some ⟨bb, off, none⟩) es.length c] := Blk.grown (h := (g1.drew.alloc (.cells #[.int .i64 xn, .int .i64 yn] 63))) hgr3 (own_blk_ne hownA (g1.drew.alloc _) (by decide))
            have hb4 : Below w.heap.size w W3 := (HB.out.drew.alloc hsz (.cells #[.int .i64 xn, .int .i64 yn] 63)).trans hb3
            have hq3 : OwnQ W3 w.heap.size A3 c3 (qs ++ [(xn, yn)]) := (by unfold OwnQ; rw [List.length_append, pair2_snoc]; exact hown3)
            have HQ3 := Lib.hid hq3
            have HB4 := Lib.hid hb4
            have HG2 := Lib.hid g2
            clear hq3 hb4 g2 hown3 hgr3 hb3
            go_wp2
            go_roundw
            case rel => exact ⟨j + 1, A3, c3, qs ++ [(xn, yn)], by omega, by go_num, by simp, by rw [Hid, HQ.out, List.replicate_succ', List.append_assoc], by rw [Hid, List.length_append, HQL.out]; simp; omega, HQ3, HB4, HG2⟩
            case measure => simp [intOf]; omega)
        · obtain rfl : j = zn := by omega
          have hfin : Hid (endsL (es.take (k + 1)) = qs) := by rw [Hid, HST.out, HQ.out]
          go_wp2
          go_roundw
          case rel => exact ⟨k + 1, A', c', qs, by omega, by go_num, rfl, hfin, HOW, HB, HG⟩
          case measure => simp [intOf]; omega
    · obtain rfl : k = es.length := by omega
      rw [List.take_length] at HM
      go_wp2
      go_ret
      exact ⟨A', c', by rw [HM.out]; rfl, by rw [HM.out]; exact HOW.out, HB.out⟩
end Go.Proofs.YtghigdcpinengaaGreat

/-! sandpilelaw30.right. -/
namespace Go.Proofs.YtghigdcpinengaaGreat
open Go.RowKit

theorem small30 {n : Int} {es : List E3} (h : smallB n es 5 8 = true) : es.length ≤ 40 ∧ (checkG n es = 0 → n ≤ 5 ∧ (endsL es).length ≤ 8) := by
  unfold smallB at h
  by_cases h1 : 40 < es.length
  · rw [if_pos h1] at h; cases h
  · refine ⟨by omega, fun h2 => ?_⟩
    rw [if_neg h1, if_neg (fun hc => hc h2), Bool.and_eq_true, size_ends] at h
    have := of_decide_eq_true h.1
    have := of_decide_eq_true h.2
    omega
end Go.Proofs.YtghigdcpinengaaGreat

/-! What the laws' proofs share: a slice of ints that came in reads as a list. -/
namespace Go.Proofs.YtghigdcpinengaaGreat
open Go.ChangeShapes Go.WideShapes Go.ChangeAt Go.RowKit

theorem own : ownKnob Tryz.prog.godebug = none := by kernel_rfl
theorem laidOut : laidOutB Tryz.prog = true := by kernel_rfl

/-- A slice of integers that came in: nil, or a row of 'cap' cells. -/
def IsRow (k : IntKind) (w : World) (a : Option Addr) (len cap : Nat) (zs : List Int) : Prop :=
  (a = none ∧ len = 0 ∧ cap = 0 ∧ zs = []) ∨
  ∃ x, a = some x ∧ len ≤ cap ∧ cap ≤ maxLen ∧ zs.length = cap ∧ (∀ i, i < zs.length → w.cell? (x.add i) = some (.int k (zs.getD i 0))) ∧ ∀ n ∈ zs, (Lit.int k n).wf = true

theorem IsRow.reads {w : World} {a : Option Addr} {len cap : Nat} {zs : List Int} (h : IsRow .i64 w a len cap zs) :
    ∃ xs : List Int, xs.length = len ∧ len ≤ maxLen ∧ Reads w w.heap.size 1 a xs.length (ints xs) ∧ ∀ x ∈ xs, (Lit.int .i64 x).wf = true := by
  rcases h with ⟨rfl, rfl, rfl, rfl⟩ | ⟨x, rfl, hl, hm, hz, hc, hw⟩
  · exact ⟨[], rfl, by simp [maxLen], Reads.nil_, by simp⟩
  · have hlen : (zs.take len).length = len := by simp; omega
    refine ⟨zs.take len, hlen, Nat.le_trans hl hm, ⟨by rw [ints_length, Nat.mul_one], fun hn => ?_⟩, fun y hy => hw y (List.mem_of_mem_take hy)⟩
    obtain ⟨b, off, spot⟩ := x
    have h0 := hc 0 (by omega)
    obtain rfl : spot = none := by simpa [Addr.add] using World.cell?_spot h0
    refine ⟨b, off, rfl, ?_, fun j u hu => ?_⟩
    · have := World.block_lt_of_cell? w _ h0
      simpa [Addr.add] using this
    · obtain ⟨hj, hju⟩ := List.getElem?_eq_some_iff.1 hu
      rw [ints_length, hlen] at hj
      have h1 := hc j (by omega)
      have h2 : (zs.take len)[j]? = some (zs.getD j 0) := by
        rw [List.getElem?_take_of_lt hj, List.getD_eq_getElem?_getD, List.getElem?_eq_getElem (by omega)]
        rfl
      rw [ints_at h2] at hu
      injection hu with hu
      rw [← hu, ← h1]
      by_cases e : j = 0
      · subst e; simp [Addr.add]
      · simp [Addr.add, e]
end Go.Proofs.YtghigdcpinengaaGreat

/-! What the frames of the graph laws share: a graph that came in, a list of ints of whatever name. -/
namespace Go.Proofs.YtghigdcpinengaaGreat
open Go.ChangeShapes Go.WideShapes Go.ChangeAt Go.RowKit Go.Deep

section
variable {H : Type} {enc : TypeId × Value → H} {W : World}

set_option maxRecDepth 100000 in
/-- A graph. -/
theorem open_graph {fuel : Nat} {cs : List Value} {x : DataW H × List MemPlace} (h : DataW.trod enc Tryz.prog W 0 (fun _ => true) true fuel 24 cs = some x) :
    ∃ (n : Int) (a : Option Addr) (cap : Nat) (es : List E3), cs = [.int .i64 n, .slice a es.length cap] ∧ es.length ≤ maxLen ∧ Reads W W.heap.size 3 a es.length (edgeCells es) ∧ (Lit.int .i64 n).wf = true := by
  obtain ⟨ys, m, rfl, _, hlen, hys, hf⟩ := DataW.trod_struct Tryz.underlying24 h
  rw [show Tryz.prog.cellsOf 24 = 2 from by kernel_rfl] at hlen
  match cs, hlen with
  | [u0, u1], _ =>
    have f0 := hf 0 _ rfl
    have f1 := hf 1 _ rfl
    have hsz : ys.length = 2 := hys
    obtain ⟨y0, hy0⟩ : ∃ y, ys[0]? = some y := ⟨_, List.getElem?_eq_getElem (by omega)⟩
    obtain ⟨y1, hy1⟩ : ∃ y, ys[1]? = some y := ⟨_, List.getElem?_eq_getElem (by omega)⟩
    rw [hy0] at f0
    rw [hy1] at f1
    have ci : Tryz.prog.cellsOf 3 = 1 := by kernel_rfl
    have cl : Tryz.prog.cellsOf 22 = 1 := by kernel_rfl
    simp [ci, cl] at f0 f1
    obtain ⟨n, hn, _, hw⟩ := DataW.trod_int Tryz.underlying3 f0
    injection hn with hn
    subst hn
    rcases open_slice Tryz.underlying22 f1 with ⟨hcs, _⟩ | ⟨a, len, cap, k, fu, D, Pl, hcs, hb, hl, hm, hk, _, hx⟩
    · injection hcs with hcs
      subst hcs
      exact ⟨n, none, 0, [], rfl, by simp, Reads.nil_, hw⟩
    · injection hcs with hcs
      subst hcs
      have hk : k = cap := by simpa using hk
      have ce : Tryz.prog.cellsOf 104 = 3 := by kernel_rfl
      have each : ∀ i, i < len → ∃ e : E3, W.cell? (a.add (i * 3)) = some (.int .i64 e.1) ∧ W.cell? (a.add (i * 3 + 1)) = some (.int .i64 e.2.1) ∧ W.cell? (a.add (i * 3 + 2)) = some (.int .i64 e.2.2) := by
        intro i hi
        obtain ⟨cs', h1, h2⟩ := hx i (by omega)
        rw [ce] at h1
        obtain ⟨_, hlen, hcell⟩ := World.cells?_some h1
        obtain ⟨xs, k, _, _, _, hxl, hf⟩ := DataW.trod_struct Tryz.underlying104 h2
        match xs, hxl, cs', hlen with
        | [y0, y1, y2], _, [v0, v1, v2], _ =>
          have g0 := hf 0 _ rfl
          have g1 := hf 1 _ rfl
          have g2 := hf 2 _ rfl
          simp [ci] at g0 g1 g2
          have e0 := hcell 0 (by omega)
          have e1 := hcell 1 (by omega)
          have e2 := hcell 2 (by omega)
          rw [add_add] at e0 e1 e2
          obtain ⟨n0, q0, _, _⟩ := DataW.trod_int Tryz.underlying3 g0
          obtain ⟨n1, q1, _, _⟩ := DataW.trod_int Tryz.underlying3 g1
          obtain ⟨n2, q2, _, _⟩ := DataW.trod_int Tryz.underlying3 g2
          injection q0 with q0
          injection q1 with q1
          injection q2 with q2
          subst q0 q1 q2
          exact ⟨(n0, n1, n2), by simpa using e0, by simpa using e1, by simpa using e2⟩
      obtain ⟨F, hF⟩ := choose_lt each
      have hlen : ((List.range len).map F).length = len := by simp
      have hspot : 0 < len → ∃ b off, a = ⟨b, off, none⟩ ∧ b < W.heap.size := by
        intro h0
        have hc := (hF 0 h0).1
        obtain ⟨b, off, spot⟩ := a
        obtain rfl : spot = none := by simpa [Addr.add] using World.cell?_spot hc
        have := World.block_lt_of_cell? W _ hc
        exact ⟨b, off, rfl, by simpa [Addr.add] using this⟩
      refine ⟨n, some a, cap, (List.range len).map F, by rw [hlen], by rw [hlen]; omega, ⟨edgeCells_length _, fun hn => ?_⟩, hw⟩
      rw [hlen] at hn
      obtain ⟨b, off, rfl, hb2⟩ := hspot hn
      refine ⟨b, off, rfl, hb2, fun j u hu => ?_⟩
      have hj : j < (edgeCells ((List.range len).map F)).length := (List.getElem?_eq_some_iff.1 hu).1
      rw [edgeCells_length, hlen] at hj
      have hi : j / 3 < len := by omega
      have hget : ((List.range len).map F)[j / 3]? = some (F (j / 3)) := by rw [List.getElem?_map, List.getElem?_range hi]; rfl
      obtain ⟨k0, k1, k2⟩ := edgeCells_at hget
      obtain ⟨m0, m1, m2⟩ := hF _ hi
      rw [add_plain] at m0 m1 m2
      have h3 : j = j / 3 * 3 ∨ j = j / 3 * 3 + 1 ∨ j = j / 3 * 3 + 2 := by omega
      rcases h3 with h3 | h3 | h3
      · rw [h3, k0] at hu; injection hu with hu; rw [show off + j = off + (j / 3 * 3) from by omega, ← hu]; exact m0
      · rw [h3, k1] at hu; injection hu with hu; rw [show off + j = off + (j / 3 * 3 + 1) from by omega, ← hu]; exact m1
      · rw [h3, k2] at hu; injection hu with hu; rw [show off + j = off + (j / 3 * 3 + 2) from by omega, ← hu]; exact m2
end
end Go.Proofs.YtghigdcpinengaaGreat

/-! ref30.next. -/
namespace Go.Proofs.YtghigdcpinengaaGreat
open Go.RowKit

theorem Blk.newF {w : World} {g : Nat} {t : TypeId} {cs : Array Value} (hg : g = w.heap.size) : Blk (w.alloc (.cells cs t)) g t cs := by subst hg; exact Blk.new w t cs
theorem nI_mem {t : List Nat} (v : Nat) : decide ((v : Int) ∈ nI t) = decide (v ∈ t) := by
  unfold nI
  rw [Bool.eq_iff_iff, decide_eq_true_eq, decide_eq_true_eq, List.mem_map]
  exact ⟨fun ⟨a, ha, hae⟩ => by
    have : a = v := by omega
    exact this ▸ ha, fun h => ⟨v, h, rfl⟩⟩

def nxE (o : Option Nat) : Int := match o with | some e => (e : Int) | none => -1
def nxV (E : List (Nat × Nat)) (s : FireS) (o : Option Nat) : Int := match o with | some e => (leadV E s e : Int) | none => -1
theorem next_upto {E : List (Nat × Nat)} {s : FireS} (h : ∀ e, e < E.length → candB E s e = false) : nextF E s = none := by
  unfold nextF
  rw [List.find?_eq_none]
  intro e he
  have := h e (List.mem_range.1 he)
  simp [this]

set_option maxRecDepth 100000 in
set_option maxHeartbeats 8000000 in
theorem next30_any (n : Int) (A : Option Addr) (c : Nat) (es : List E3) (hn : es.length ≤ 40) (N : Int) (hok : ∀ e ∈ es, okE N e) (S : FireS) (hs1 : S.steps.length ≤ 10000) (hs2 : S.order.length ≤ 10000) (AS AO AD AT : Option Addr) (cS cO cD cT nD nT : Nat) (w : World) (h : Reads w w.heap.size 3 A es.length (edgeCells es))
    (h1 : Reads w w.heap.size 1 AS S.steps.length (ints (nI S.steps))) (h2 : Reads w w.heap.size 1 AO S.order.length (ints (nI S.order))) :
    Calls Tryz.prog 87 #[.agg #[.int .i64 n, .slice A es.length c], .agg #[.slice AS S.steps.length cS, .slice AO S.order.length cO, .slice AD nD cD, .slice AT nT cT]] w fun e w' => e = .returned (.tuple #[.int .i64 (nxE (nextF (endsL es) S)), .int .i64 (nxV (endsL es) S (nextF (endsL es) S))]) ∧ Below w.heap.size w w' := by
  have EC := Lib.hid (fun (W : World) (hB : Below w.heap.size w W) => rendsC_any n A c es hn N hok W ((h.below hB).more hB.size))
  have HS : Hid (∀ (v : Nat) (W : World), Below w.heap.size w W → Calls Tryz.prog 57 #[.slice AS S.steps.length cS, .int .i64 (v : Int)] W fun r w' => r = .returned (.bool (decide (v ∈ S.steps))) ∧ W = w') := by
    intro v W hB
    have := holds_any AS cS (nI S.steps) (by rw [nI_length]; omega) (v : Int) W (by rw [nI_length]; exact (h1.below hB).more hB.size)
    rw [nI_length, nI_mem] at this
    exact this
  have HO : Hid (∀ (v : Nat) (W : World), Below w.heap.size w W → Calls Tryz.prog 57 #[.slice AO S.order.length cO, .int .i64 (v : Int)] W fun r w' => r = .returned (.bool (decide (v ∈ S.order))) ∧ W = w') := by
    intro v W hB
    have := holds_any AO cO (nI S.order) (by rw [nI_length]; omega) (v : Int) W (by rw [nI_length]; exact (h2.below hB).more hB.size)
    rw [nI_length, nI_mem] at this
    exact this
  obtain ⟨W0, hW0⟩ : ∃ W0, (w.alloc (.cells #[.int .i64 n, .slice A es.length c] 24)).alloc (.cells #[.slice AS S.steps.length cS, .slice AO S.order.length cO, .slice AD nD cD, .slice AT nT cT] 35) = W0 := ⟨_, rfl⟩
  have g0 : Blk W0 w.heap.size 24 #[.int .i64 n, .slice A es.length c] := by rw [← hW0]; exact (Blk.new w 24 #[.int .i64 n, .slice A es.length c]).alloc _
  have x0 : Blk W0 (w.heap.size + 1) 35 #[.slice AS S.steps.length cS, .slice AO S.order.length cO, .slice AD nD cD, .slice AT nT cT] := by rw [← hW0]; exact Blk.newF (by simp)
  have hB0 : Below w.heap.size w W0 := by rw [← hW0]; exact ((Below.refl _ _).alloc (Nat.le_refl _) _).alloc (by simp) _
  have c0 := g0.cell 0
  have c1 := g0.cell 1
  have HW0 := Lib.hid hW0
  obtain ⟨E, hE⟩ : ∃ E, endsL es = E := ⟨_, rfl⟩
  have hEl : E.length ≤ 2000 := by rw [← hE]; have := endsL_length (N := N) hok; omega
  rw [hE] at EC ⊢
  clear h h1 h2 hok hE hW0
  go_enter Tryz.func87, Tryz.ntmps87
  go_wp2_with fail
  try rw [HW0.out]
  refine (EC.out _ hB0).mono ?_
  rintro e w1 ⟨Ar, cr, rfl, o1, hb1⟩
  have hB1 := hB0.trans (hb1.mono hB0.size)
  have XB := x0.next hb1
  have R1 := Lib.hid (Reads.of_own o1)
  obtain ⟨M, hM⟩ : ∃ M, E.length = M := ⟨_, rfl⟩
  rw [hM] at R1
  try rw [hM]
  have HM := Lib.hid hM
  rw [hM] at hEl
  clear c0 c1 g0 x0 o1 hb1 hM hB0
  go_wp2_with fail
  go_loopw [7] (fun i wr => ∃ k : Nat, k ≤ M ∧ i = .int .i64 k ∧ Hid (∀ j, j < k → candB E S j = false) ∧ Hid (Below w1.heap.size w1 wr)) (fun i _ => M - (intOf i).toNat)
  case atStart => exact ⟨0, by omega, rfl, fun j hj => by omega, Below.refl _ _⟩
  case round =>
    obtain ⟨k, hk, rfl, HC, HB⟩ := hrel
    by_cases hlt : k < M
    · have hi : (k : Int) < (M : Int) := by omega
      have hkE : k < E.length := by rw [HM.out]; exact hlt
      have r2 := R1.out.below HB.out
      rw [← HM.out] at r2
      obtain ⟨bA, oA, hA, hbA, q0, q1⟩ := r2.pairAt (getD_some hkE)
      obtain ⟨⟨x0, x1⟩, hp⟩ : ∃ p, E.getD k (0, 0) = p := ⟨_, rfl⟩
      rw [hp] at q0 q1
      dsimp only at q0 q1
      subst hA
      have HP := Lib.hid hp
      have hBw := hB1.trans (HB.out.mono hB1.size)
      have X2 := XB.next HB.out
      have CB : Hid (∀ j, j < k + 1 → j ≠ k → candB E S j = false) := fun j h1 h2 => HC.out j (by omega)
      have HKE := Lib.hid hkE
      clear hp r2 HC hkE
      have hw1 : IntKind.i64.wrap ((k : Int) + 1) = (k : Int) + 1 := IntWalk.i64_in _ (by omega)
      go_wp2_with fail
      go_quiet (fail)
      obtain ⟨W5, hW5⟩ : ∃ W, wr.drewN nq = W := ⟨_, rfl⟩
      have HB5 : Hid (Below w1.heap.size w1 W5) := by rw [← hW5]; exact below_drewN HB.out _
      have hBw5 : Below w.heap.size w W5 := by rw [← hW5]; exact below_drewN hBw _
      have x5 : Blk W5 (w.heap.size + 1) 35 #[.slice AS S.steps.length cS, .slice AO S.order.length cO, .slice AD nD cD, .slice AT nT cT] := by rw [← hW5]; exact X2
      have s0 := x5.cell 0
      have s1 := x5.cell 1
      try rw [hW5]
      clear hW5 q0 q1 X2
      have HS1 := HS.out k
      have HO0 := HO.out x0
      have HO1 := HO.out x1
      by_cases m : k ∈ S.steps
      · have hc : candB E S k = false := by unfold candB; rw [decide_eq_true m]; rfl
        rw [decide_eq_true m] at HS1
        have HC2 : Hid (∀ j, j < k + 1 → candB E S j = false) := fun j hj => by
          by_cases e : j = k
          · rw [e]; exact hc
          · exact CB.out j hj e
        have HS1 := Lib.hid (fun m => (HS1 (W5.drewN m) (below_drewN hBw5 m)).mono fun _ _ h => (⟨h.1, h.2.symm⟩ : _ ∧ _ = W5.drewN m))
        clear m hc HO0 HO1
        go_wp2_with fail
        go_quiet ((go_at_call 57; with_reducible exact Calls.quiet_of_same (HS1.out _)))
        go_wp2
        go_roundw
        case rel => exact ⟨k + 1, by omega, by go_num, HC2.out, below_drewN HB5.out _⟩
        case measure => simp [intOf]; omega
      · rw [decide_eq_false m] at HS1
        obtain ⟨a0, ha0⟩ : ∃ a, decide (x0 ∈ S.order) = a := ⟨_, rfl⟩
        obtain ⟨a1, ha1⟩ : ∃ a, decide (x1 ∈ S.order) = a := ⟨_, rfl⟩
        rw [ha0] at HO0
        rw [ha1] at HO1
        have hcb : candB E S k = !(a0 == a1) := by unfold candB; rw [HP.out, decide_eq_false m, ha0, ha1]; rfl
        have HS1 := Lib.hid (fun m => (HS1 (W5.drewN m) (below_drewN hBw5 m)).mono fun _ _ h => (⟨h.1, h.2.symm⟩ : _ ∧ _ = W5.drewN m))
        have HO0 := Lib.hid (fun m => (HO0 (W5.drewN m) (below_drewN hBw5 m)).mono fun _ _ h => (⟨h.1, h.2.symm⟩ : _ ∧ _ = W5.drewN m))
        have HO1 := Lib.hid (fun m => (HO1 (W5.drewN m) (below_drewN hBw5 m)).mono fun _ _ h => (⟨h.1, h.2.symm⟩ : _ ∧ _ = W5.drewN m))
        have HA0 := Lib.hid ha0
        have HCB := Lib.hid hcb
        clear m ha0 ha1 hcb
        by_cases h01 : a0 = a1
        · have HC2 : Hid (∀ j, j < k + 1 → candB E S j = false) := fun j hj => by
            by_cases e : j = k
            · rw [e, HCB.out, h01]; simp
            · exact CB.out j hj e
          subst h01
          have hbe : (a0 == a0) = true := by simp
          go_wp2_with fail
          go_quiet ((go_at_call 57; first | (with_reducible exact Calls.quiet_of_same (HS1.out _)) | (with_reducible exact Calls.quiet_of_same (HO0.out _)) | (with_reducible exact Calls.quiet_of_same (HO1.out _))))
          go_wp2
          go_roundw
          case rel => exact ⟨k + 1, by omega, by go_num, HC2.out, below_drewN HB5.out _⟩
          case measure => simp [intOf]; omega
        · have hbe : (a0 == a1) = false := by simpa using h01
          have HN : Hid (nextF E S = some k) := next_least HKE.out (by rw [HCB.out, hbe]; rfl) fun f hf => CB.out f (by omega) (by omega)
          have HLD : Hid (leadV E S k = if a0 = true then x1 else x0) := by
            unfold Hid leadV; rw [HP.out]
            cases ha : a0
            · have : ¬ x0 ∈ S.order := by have := HA0.out; rw [ha] at this; exact of_decide_eq_false this
              rw [if_neg this, if_neg (by decide)]
            · have : x0 ∈ S.order := by have := HA0.out; rw [ha] at this; exact of_decide_eq_true this
              rw [if_pos this, if_pos rfl]
          clear h01 HCB CB
          go_wp2_with fail
          go_quiet ((go_at_call 57; first | (with_reducible exact Calls.quiet_of_same (HS1.out _)) | (with_reducible exact Calls.quiet_of_same (HO0.out _)) | (with_reducible exact Calls.quiet_of_same (HO1.out _))))
          have s1' : (W5.drewN nq).cell? ⟨w.heap.size + 1, 1, none⟩ = some (.slice AO S.order.length cO) := s1
          have HO2 := Lib.hid (HO0.out nq)
          have hBf : Below w.heap.size w (W5.drewN nq) := below_drewN hBw5 nq
          obtain ⟨W6, hW6⟩ : ∃ W, W5.drewN nq = W := ⟨_, rfl⟩
          rw [hW6] at s1' HO2 hBf
          try rw [hW6]
          clear hW6
          go_wp2_with fail
          refine (HO2.out).mono ?_
          rintro e w7 ⟨rfl, rfl⟩
          cases a0
          · go_wp2
            go_ret2
            refine ⟨?_, hBf⟩
            rw [HN.out]
            show _ = Ending.returned (.tuple #[.int .i64 (k : Int), .int .i64 (leadV E S k : Int)])
            rw [HLD.out]; rfl
          · go_wp2
            go_ret2
            refine ⟨?_, hBf⟩
            rw [HN.out]
            show _ = Ending.returned (.tuple #[.int .i64 (k : Int), .int .i64 (leadV E S k : Int)])
            rw [HLD.out]; rfl
    · obtain rfl : k = M := by omega
      have HN : Hid (nextF E S = none) := next_upto fun e he => HC.out e (by rw [HM.out] at he; exact he)
      have hBf := hB1.trans (HB.out.mono hB1.size)
      go_wp2
      go_ret2
      refine ⟨?_, hBf⟩
      rw [HN.out]; rfl
end Go.Proofs.YtghigdcpinengaaGreat

