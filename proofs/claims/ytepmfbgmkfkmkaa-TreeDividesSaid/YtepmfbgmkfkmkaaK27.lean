/-
  Texts of this claim, put together: RTree2, TCount, RAllE, RLess, RBefore.
-/
import Derived.Test.YtepmfbgmkfkmkaaK26
import Derived.Test.YtepmfbgmkfkmkaaK21
import Derived.Test.YtepmfbgmkfkmkaaK23
import Derived.Test.YtepmfbgmkfkmkaaK10
import Derived.Test.YtepmfbgmkfkmkaaK17
import Derived.Test.YtepmfbgmkfkmkaaK03
import Derived.Test.YtepmfbgmkfkmkaaK09
import Derived.Deep.QuietTactic
import Derived.BigQuiet
/-! ref13.Is, Check, single. -/
namespace Go.Proofs.Ytepmfbgmkfkmkaa
open Go.RowKit

theorem spans_parts {n : Nat} {E : List (Nat × Nat)} (hE : BdP n E) {t : List Nat} (ht : ∀ e ∈ t, e < E.length) (hl : t.length + 1 = n) : spansB n E t = decide (partsP n (pk E t) = 1) := by
  unfold spansB
  rw [decide_eq_true hl, Bool.and_true, Bool.eq_iff_iff, foB_iff, decide_eq_true_eq, tree_of_len (bd_pk hE ht) (by rw [pk_length]; exact hl)]

set_option maxRecDepth 100000 in
set_option maxHeartbeats 4000000 in
theorem ris13_any (n : Nat) (A : Option Addr) (c : Nat) (es : List E3) (hn : es.length ≤ 40) (hG : RightG n es) (B : Option Addr) (d : Nat) (t : List Nat) (ht : ∀ e ∈ t, e < (endsL es).length) (htl : t.length ≤ 50) (w : World)
    (h : Reads w w.heap.size 3 A es.length (edgeCells es)) (h' : Reads w w.heap.size 1 B t.length (ints (nI t))) :
    Calls Try.prog 51 #[.agg #[.int .i64 n, .slice A es.length c], .slice B t.length d] w fun e w' => e = .returned (.bool (spansB n (endsL es) t)) ∧ Below w.heap.size w w' := by
  have hlo := hG.lo
  have hhi := hG.hi
  have hbe := bd_ends hG
  have hbd := bd_pk hbe ht
  have WC := Lib.hid (fun (W : World) (hB : Below w.heap.size w W) => rwith_any n A c es hn hG B d t ht htl W ((h.below hB).more hB.size) ((h'.below hB).more hB.size))
  have hmr := made_right (n := n) (ps := pk (endsL es) t) (by omega) (by omega) (by rw [pk_length]; exact htl)
  have hml : (madeS n (pk (endsL es) t)).length ≤ 1048576 := by
    have h1 : (madeS n (pk (endsL es) t)).length ≤ n * n := joinTo_length _ _ _
    have h2 : n * n ≤ 12 * 12 := Nat.mul_le_mul (by omega) (by omega)
    omega
  have hcb := made_parts (n := n) (ps := pk (endsL es) t) (by omega) (by omega) (by rw [pk_length]; exact htl) hbd
  have g0 := Blk.new w 24 #[.int .i64 n, .slice A es.length c]
  have hb0 : Below w.heap.size w (w.alloc (.cells #[.int .i64 n, .slice A es.length c] 24)) := (Below.refl _ _).alloc (Nat.le_refl _) _
  have c0 := g0.cell 0
  have c1 := g0.cell 1
  have hwn : IntKind.i64.wrap ((n : Int) - 1) = (n : Int) - 1 := IntWalk.i64_in _ (by omega)
  by_cases hl : t.length + 1 = n
  · have hsp := spans_parts hbe ht hl
    rw [← hcb] at hsp
    rw [hsp]
    have hq : ((t.length : Int) == (n : Int) - 1) = true := by simp; omega
    obtain ⟨M, hM⟩ : ∃ M, madeS n (pk (endsL es) t) = M := ⟨_, rfl⟩
    rw [hM] at WC hml ⊢
    have CC := Lib.hid (fun (A1 : Option Addr) (c1 : Nat) (W : World) (hr : Reads W W.heap.size 3 A1 M.length (edgeCells M)) => rconnected_any n (by omega) A1 c1 M hml W hr)
    obtain ⟨b, hb⟩ : ∃ b, connB n M = b := ⟨_, rfl⟩
    rw [hb] at CC ⊢
    clear hl hsp hcb hM hb hmr hbd hbe hG ht
    go_enter Try.func51, Try.ntmps51
    go_wp2_with first
      | (go_at_call 45; refine (WC.out _ hb0).mono ?_; rintro e w1 ⟨A1, c1', rfl, o1, hb1⟩)
      | (go_at_call 74; refine (CC.out A1 c1' w1 (Reads.of_own o1)).mono ?_; rintro e w2 ⟨rfl, hb2⟩)
    go_ret
    exact ⟨rfl, (hb0.trans (hb1.mono hb0.size)).trans (hb2.mono (hb0.trans (hb1.mono hb0.size)).size)⟩
  · have hsp : spansB n (endsL es) t = false := by unfold spansB; rw [decide_eq_false hl, Bool.and_false]
    rw [hsp]
    have hq : ((t.length : Int) == (n : Int) - 1) = false := by simp; omega
    clear hl hsp hcb hml hmr hbd hbe hG ht
    go_enter Try.func51, Try.ntmps51
    go_wp2
    go_ret
    exact ⟨rfl, hb0⟩

set_option maxRecDepth 100000 in
set_option maxHeartbeats 4000000 in
theorem rtcheck_any (n : Int) (A : Option Addr) (c : Nat) (es : List E3) (hn : es.length ≤ 40) (B : Option Addr) (d : Nat) (xs : List Int) (hm : xs.length ≤ 1048576) (w : World) (h : Reads w w.heap.size 3 A es.length (edgeCells es)) (h' : Reads w w.heap.size 1 B xs.length (ints xs)) :
    Calls Try.prog 15 #[.agg #[.int .i64 n, .slice A es.length c], .slice B xs.length d] w fun e w' => e = .returned (.int .i64 (treeErr n es xs)) ∧ Below w.heap.size w w' := by
  have JC := Lib.hid (fun (W : World) (hB : Below w.heap.size w W) => rjoinedErr_any n A c es (by omega) W ((h.below hB).more hB.size))
  have g0 := Blk.new w 24 #[.int .i64 n, .slice A es.length c]
  have hb0 : Below w.heap.size w (w.alloc (.cells #[.int .i64 n, .slice A es.length c] 24)) := (Below.refl _ _).alloc (Nat.le_refl _) _
  have c0 := g0.cell 0
  have c1 := g0.cell 1
  by_cases hj : joinErr n es = 0
  · obtain ⟨hz, hG, _⟩ := join_zero hj
    have hlo := hG.lo
    have hhi := hG.hi
    obtain ⟨m, rfl⟩ := Int.eq_ofNat_of_zero_le (show 0 ≤ n by omega)
    rw [hj] at JC
    have EC := Lib.hid (fun (W : World) (hB : Below w.heap.size w W) => redges_any m A c es hn hG.ok B d xs hm W ((h.below hB).more hB.size) ((h'.below hB).more hB.size))
    have hbd := bd_ends hG
    by_cases he : edgErr (endsL es).length xs = 0
    · obtain ⟨t, rfl, hs⟩ := edg_set he
      rw [he] at EC
      have htt : (nI t).map Int.toNat = t := by
        unfold nI
        rw [List.map_map]
        conv => rhs; rw [← List.map_id t]
        exact List.map_congr_left fun x _ => by simp
      have hnl := nI_length t
      have HE : Hid (treeErr m es (nI t) = if (t.length : Int) + 1 ≠ (m : Int) then 8 else if spansB m (endsL es) t = true then 0 else 3) := by
        unfold Hid treeErr spansB
        rw [if_neg (fun hc => hc hj), if_neg (fun hc => hc he), htt, hnl]
        by_cases hl : (t.length : Int) + 1 = (m : Int)
        · rw [decide_eq_true (show t.length + 1 = m by omega), Bool.and_true]
        · rw [if_pos hl, if_pos hl]
      obtain ⟨z, hzz⟩ : ∃ z, treeErr m es (nI t) = z := ⟨_, rfl⟩
      rw [hzz] at HE ⊢
      have hwn : IntKind.i64.wrap ((m : Int) - 1) = (m : Int) - 1 := IntWalk.i64_in _ (by omega)
      by_cases hl : (t.length : Int) + 1 = (m : Int)
      · have SC := Lib.hid (fun (W : World) (hB : Below w.heap.size w W) => ris13_any m A c es hn hG B d t hs.2 (by omega) W ((h.below hB).more hB.size) (by rw [← hnl]; exact (h'.below hB).more hB.size))
        have hne : ((t.length : Int) != (m : Int) - 1) = false := by simp; omega
        have HE2 : Hid (z = if spansB m (endsL es) t = true then 0 else 3) := HE.out.trans (if_neg (fun hc => hc hl))
        obtain ⟨sb, hsb⟩ : ∃ sb, spansB m (endsL es) t = sb := ⟨_, rfl⟩
        rw [hsb] at SC HE2
        rw [hnl] at EC h' ⊢
        clear hz hG hj he htt hzz hs hbd hl hsb HE
        go_enter Try.func15, Try.ntmps15
        go_wp2_with fail
        refine (JC.out _ hb0).mono ?_
        rintro e w1 ⟨rfl, hb1⟩
        have B1 := hb0.trans (hb1.mono hb0.size)
        have g1 := g0.next hb1
        have c0 := g1.cell 0
        have c1 := g1.cell 1
        clear g0 hb0 hb1
        go_wp2_with fail
        refine (EC.out _ B1).mono ?_
        rintro e w2 ⟨rfl, hb2⟩
        have B2 := B1.trans (hb2.mono B1.size)
        have g2 := g1.next hb2
        have c0 := g2.cell 0
        have c1 := g2.cell 1
        clear g1 hb2 B1
        go_wp2_with fail
        refine (SC.out _ B2).mono ?_
        rintro e w3 ⟨rfl, hb3⟩
        have B3 := B2.trans (hb3.mono B2.size)
        cases sb
        · have HI : Hid (z = 3) := HE2.out
          go_wp2
          go_ret
          exact ⟨by rw [HI.out]; rfl, B3⟩
        · have HI : Hid (z = 0) := HE2.out
          go_wp2
          go_ret
          exact ⟨by rw [HI.out]; rfl, B3⟩
      · have hne : ((t.length : Int) != (m : Int) - 1) = true := by simp; omega
        have HI : Hid (z = 8) := HE.out.trans (if_pos hl)
        rw [hnl] at EC h' ⊢
        clear hz hG hj he htt hzz hs hbd hl HE
        go_enter Try.func15, Try.ntmps15
        go_wp2_with fail
        refine (JC.out _ hb0).mono ?_
        rintro e w1 ⟨rfl, hb1⟩
        have B1 := hb0.trans (hb1.mono hb0.size)
        have g1 := g0.next hb1
        have c0 := g1.cell 0
        have c1 := g1.cell 1
        clear g0 hb0 hb1
        go_wp2_with fail
        refine (EC.out _ B1).mono ?_
        rintro e w2 ⟨rfl, hb2⟩
        have B2 := B1.trans (hb2.mono B1.size)
        have g2 := g1.next hb2
        have c0 := g2.cell 0
        have c1 := g2.cell 1
        go_wp2
        go_ret
        exact ⟨by rw [HI.out]; rfl, B2⟩
    · have HE : Hid (treeErr m es xs = edgErr (endsL es).length xs) := by
        unfold Hid treeErr
        rw [if_neg (fun hc => hc hj), if_pos he]
      rw [HE.out]
      obtain ⟨z, hzz⟩ : ∃ z, edgErr (endsL es).length xs = z := ⟨_, rfl⟩
      rw [hzz] at EC he ⊢
      have hb : (z != 0) = true := by simpa using he
      clear hz hG hj he hzz hbd HE
      go_enter Try.func15, Try.ntmps15
      go_wp2_with fail
      refine (JC.out _ hb0).mono ?_
      rintro e w1 ⟨rfl, hb1⟩
      have B1 := hb0.trans (hb1.mono hb0.size)
      have g1 := g0.next hb1
      have c0 := g1.cell 0
      have c1 := g1.cell 1
      clear g0 hb0 hb1
      go_wp2_with fail
      refine (EC.out _ B1).mono ?_
      rintro e w2 ⟨rfl, hb2⟩
      go_wp2
      go_ret
      exact ⟨rfl, B1.trans (hb2.mono B1.size)⟩
  · have HE : Hid (treeErr n es xs = joinErr n es) := by
      unfold Hid treeErr
      rw [if_pos hj]
    rw [HE.out]
    obtain ⟨z, hzz⟩ : ∃ z, joinErr n es = z := ⟨_, rfl⟩
    rw [hzz] at JC hj ⊢
    have hb : (z != 0) = true := by simpa using hj
    clear hj hzz HE
    go_enter Try.func15, Try.ntmps15
    go_wp2_with fail
    refine (JC.out _ hb0).mono ?_
    rintro e w1 ⟨rfl, hb1⟩
    go_wp2
    go_ret
    exact ⟨rfl, hb0.trans (hb1.mono hb0.size)⟩

/-- The error of a graph, a tree and a single edge. -/
def singErr (n : Int) (es : List E3) (xs : List Int) (e : Int) : Int := if treeErr n es xs ≠ 0 then treeErr n es xs else if e < 0 ∨ ((endsL es).length : Int) ≤ e then 2 else 0
set_option maxRecDepth 100000 in
set_option maxHeartbeats 4000000 in
theorem single_any (n : Int) (A : Option Addr) (c : Nat) (es : List E3) (hn : es.length ≤ 40) (B : Option Addr) (d : Nat) (xs : List Int) (hm : xs.length ≤ 1048576) (e0 : Int) (w : World) (h : Reads w w.heap.size 3 A es.length (edgeCells es)) (h' : Reads w w.heap.size 1 B xs.length (ints xs)) :
    Calls Try.prog 56 #[.agg #[.int .i64 n, .slice A es.length c], .slice B xs.length d, .int .i64 e0] w fun e w' => e = .returned (.int .i64 (singErr n es xs e0)) ∧ Below w.heap.size w w' := by
  have TC := Lib.hid (fun (W : World) (hB : Below w.heap.size w W) => rtcheck_any n A c es hn B d xs hm W ((h.below hB).more hB.size) ((h'.below hB).more hB.size))
  have g0 := Blk.new w 24 #[.int .i64 n, .slice A es.length c]
  have hb0 : Below w.heap.size w (w.alloc (.cells #[.int .i64 n, .slice A es.length c] 24)) := (Below.refl _ _).alloc (Nat.le_refl _) _
  have c0 := g0.cell 0
  have c1 := g0.cell 1
  by_cases hj : treeErr n es xs = 0
  · obtain ⟨m, t, rfl, rfl, hG, _⟩ := tree_zero hj
    have SC := Lib.hid (fun (W : World) (hB : Below w.heap.size w W) => rsize_any m A c es hn m hG.ok W ((h.below hB).more hB.size))
    rw [size_ends] at SC
    have hel := endsL_len40 hG.ok hn
    have HE : Hid (singErr m es (nI t) e0 = if e0 < 0 ∨ ((endsL es).length : Int) ≤ e0 then 2 else 0) := by unfold Hid singErr; rw [if_neg (fun hc => hc hj)]
    rw [HE.out]
    rw [hj] at TC
    obtain ⟨s, hs⟩ : ∃ s, (endsL es).length = s := ⟨_, rfl⟩
    rw [hs] at SC hel ⊢
    clear hj hG HE hs
    by_cases h1 : e0 < 0
    · have hd1 : decide (e0 < 0) = true := decide_eq_true h1
      rw [if_pos (.inl h1)]
      go_enter Try.func56, Try.ntmps56
      go_wp2_with fail
      refine (TC.out _ hb0).mono ?_
      rintro e w1 ⟨rfl, hb1⟩
      go_wp2
      go_ret
      exact ⟨rfl, hb0.trans (hb1.mono hb0.size)⟩
    · have hd1 : decide (e0 < 0) = false := decide_eq_false h1
      go_enter Try.func56, Try.ntmps56
      go_wp2_with fail
      refine (TC.out _ hb0).mono ?_
      rintro e w1 ⟨rfl, hb1⟩
      have B1 := hb0.trans (hb1.mono hb0.size)
      have g1 := g0.next hb1
      have c0 := g1.cell 0
      have c1 := g1.cell 1
      by_cases h2 : (s : Int) ≤ e0
      · have hd2 : decide ((s : Int) ≤ e0) = true := decide_eq_true h2
        go_wp2_with (go_at_call 34; refine (SC.out _ B1).mono ?_; rintro e w2 ⟨rfl, hb2⟩)
        go_ret
        exact ⟨rfl, B1.trans (hb2.mono B1.size)⟩
      · have hd2 : decide ((s : Int) ≤ e0) = false := decide_eq_false h2
        go_wp2_with (go_at_call 34; refine (SC.out _ B1).mono ?_; rintro e w2 ⟨rfl, hb2⟩)
        go_ret
        exact ⟨rfl, B1.trans (hb2.mono B1.size)⟩
  · have HE : Hid (singErr n es xs e0 = treeErr n es xs) := by unfold Hid singErr; rw [if_pos hj]
    rw [HE.out]
    obtain ⟨z, hzz⟩ : ∃ z, treeErr n es xs = z := ⟨_, rfl⟩
    rw [hzz] at TC hj ⊢
    have hb : (z != 0) = true := by simpa using hj
    clear hj hzz HE
    go_enter Try.func56, Try.ntmps56
    go_wp2_with fail
    refine (TC.out _ hb0).mono ?_
    rintro e w1 ⟨rfl, hb1⟩
    go_wp2
    go_ret
    exact ⟨rfl, hb0.trans (hb1.mono hb0.size)⟩
end Go.Proofs.Ytepmfbgmkfkmkaa

/-! Package tree: All for all graphs; Count. -/
namespace Go.Proofs.Ytepmfbgmkfkmkaa
open Go.RowKit

theorem tall_any (n : Int) (A : Option Addr) (c : Nat) (es : List E3) (hn : es.length ≤ 10000) (hl : (tallE n es).1.length ≤ 16384) (w : World) (h : Reads w w.heap.size 3 A es.length (edgeCells es)) :
    Calls Try.prog 38 #[.agg #[.int .i64 n, .slice A es.length c]] w fun e w' => ∃ Ar cr vs, e = .returned (.tuple #[.slice Ar (tallE n es).1.length cr, .int .i64 (tallE n es).2]) ∧ OwnRows w' w.heap.size Ar cr vs (tallE n es).1 ∧ Below w.heap.size w w' := by
  by_cases hj : joinErr n es = 0
  · obtain ⟨_, hG, _⟩ := join_zero hj
    obtain ⟨m, rfl⟩ := Int.eq_ofNat_of_zero_le (show 0 ≤ n by have := hG.lo; omega)
    have hE : tallE m es = ((treesT m (endsL es)).map nI, 0) := by unfold tallE; rw [if_neg (fun hc => hc hj), Int.toNat_natCast]
    rw [hE] at hl ⊢
    dsimp only at hl ⊢
    rw [List.length_map] at hl ⊢
    exact tall_ok m A c es hn hj _ rfl hl w h
  · exact tall_err n A c es hn w h hj

set_option maxHeartbeats 1000000 in
theorem tcount_any (n : Int) (A : Option Addr) (c : Nat) (es : List E3) (hn : es.length ≤ 10000) (hl : (tallE n es).1.length ≤ 16384) (w : World) (h : Reads w w.heap.size 3 A es.length (edgeCells es)) :
    Calls Try.prog 39 #[.agg #[.int .i64 n, .slice A es.length c]] w fun e w' => e = .returned (.tuple #[.int .i64 ((tallE n es).1.length : Nat), .int .i64 (tallE n es).2]) ∧ Below w.heap.size w w' := by
  have AC := Lib.hid (fun (W : World) (hB : Below w.heap.size w W) => tall_any n A c es hn hl W ((h.below hB).more hB.size))
  have g0 := Blk.new w 24 #[.int .i64 n, .slice A es.length c]
  have hb0 : Below w.heap.size w (w.alloc (.cells #[.int .i64 n, .slice A es.length c] 24)) := (Below.refl _ _).alloc (Nat.le_refl _) _
  have c0 := g0.cell 0
  have c1 := g0.cell 1
  obtain ⟨X, hX⟩ : ∃ X, tallE n es = X := ⟨_, rfl⟩
  rw [hX] at AC ⊢
  clear hX hl
  go_enter Try.func39, Try.ntmps39
  go_wp2_with fail
  refine (AC.out _ hb0).mono ?_
  rintro e w1 ⟨Ar, cr, vs, rfl, _, hb1⟩
  go_wp2
  go_ret2
  exact ⟨rfl, hb0.trans (hb1.mono hb0.size)⟩
end Go.Proofs.Ytepmfbgmkfkmkaa

/-! ref10.All: all single edges. -/
namespace Go.Proofs.Ytepmfbgmkfkmkaa
open Go.RowKit

set_option maxHeartbeats 1000000 in
theorem ralle_any (n : Int) (A : Option Addr) (c : Nat) (es : List E3) (hn : es.length ≤ 40) (N : Int) (hok : ∀ e ∈ es, okE N e) (hs : sizeE es ≤ 100000) (w : World) (h : Reads w w.heap.size 3 A es.length (edgeCells es)) :
    Calls Try.prog 47 #[.agg #[.int .i64 n, .slice A es.length c]] w fun en w' => ∃ A' c', en = .returned (.slice A' (sizeE es) c') ∧ OwnI w' w.heap.size A' c' (nI (List.range (sizeE es))) ∧ Below w.heap.size w w' := by
  have SC := Lib.hid (fun (W : World) (hB : Below w.heap.size w W) => rsize_any n A c es hn N hok W ((h.below hB).more hB.size))
  have g0 := Blk.new w 24 #[.int .i64 n, .slice A es.length c]
  have hb0 : Below w.heap.size w (w.alloc (.cells #[.int .i64 n, .slice A es.length c] 24)) := (Below.refl _ _).alloc (Nat.le_refl _) _
  obtain ⟨W0, hW0⟩ : ∃ W0, w.alloc (.cells #[.int .i64 n, .slice A es.length c] 24) = W0 := ⟨_, rfl⟩
  rw [hW0] at g0 hb0
  have hz0 := hb0.size
  have hA0 : Hid (OwnI W0 W0.heap.size none 0 (nI (List.range 0))) := OwnI.nil_ _ _
  obtain ⟨m, hm⟩ : ∃ m, sizeE es = m := ⟨_, rfl⟩
  rw [hm] at SC hs ⊢
  clear hm h
  have HRL : Hid (∀ k, (nI (List.range k)).length = k) := fun k => by rw [nI_length]; simp
  have HRS : Hid (∀ k, nI (List.range (k + 1)) = nI (List.range k) ++ [(k : Int)]) := fun k => by rw [List.range_succ, nI_snoc]
  go_enter Try.func47, Try.ntmps47
  go_wp2_with fail
  clear hW0
  go_loopw [3, 4] (fun o i wr => ∃ (k : Nat) (Ao : Option Addr) (co : Nat), k ≤ m ∧ i = .int .i64 k ∧ o = .slice Ao k co ∧ Hid (OwnI wr W0.heap.size Ao co (nI (List.range k))) ∧ Hid (Below W0.heap.size W0 wr)) (fun _ i _ => m - (intOf i).toNat)
  case atStart => exact ⟨0, none, 0, by omega, rfl, rfl, hA0, Below.refl _ _⟩
  case round =>
    obtain ⟨k, Ao, co, hk, rfl, rfl, HO, HW⟩ := hrel
    have hwz := HW.out.size
    have g1 := g0.next HW.out
    have c0 := g1.cell 0
    have c1 := g1.cell 1
    have hBw := hb0.trans (HW.out.mono hz0)
    have S1 := Lib.hid (SC.out wr hBw)
    go_wp2_with fail
    refine (S1.out).mono ?_
    rintro e w1 ⟨rfl, hb1⟩
    have HO1 := Lib.hid (HO.out.next hb1)
    have HW1 := Lib.hid (HW.out.trans (hb1.mono hwz))
    have hwz1 := HW1.out.size
    clear hb1 c0 c1 g1
    by_cases hlt : k < m
    · have hi : (k : Int) < (m : Int) := by omega
      have hO2 : OwnI w1 W0.heap.size Ao co (nI (List.range k)) := HO1.out
      obtain ⟨L, hL⟩ : ∃ L, nI (List.range k) = L := ⟨_, rfl⟩
      have hLl := HRL.out k
      have hLs := HRS.out k
      rw [hL] at hO2 hLl hLs
      subst hLl
      have HLS := Lib.hid hLs
      clear hLs hL
      go_wp2_with (at_builtin; refine push_int rfl (.tmp 11) (.tmp 13) _ rfl Try.underlying25 W0.heap.size Ao co L (L.length : Int) rfl hO2 rfl rfl (by omega) hwz1 ?_; intro A5 c5 w5 hown5 _ hb5)
      go_roundw
      case rel => exact ⟨L.length + 1, A5, c5, by omega, by go_num, rfl, by rw [Hid, HLS.out]; exact hown5, HW1.out.trans hb5⟩
      case measure => simp [intOf]; omega
    · obtain rfl : k = m := by omega
      have BW := Lib.hid (hb0.trans (HW1.out.mono hz0))
      have OW := Lib.hid (HO1.out.mono hz0)
      go_wp2
      go_ret
      exact ⟨Ao, co, rfl, OW.out, BW.out⟩
end Go.Proofs.Ytepmfbgmkfkmkaa

/-! ref10.Less: a list without a number. -/
namespace Go.Proofs.Ytepmfbgmkfkmkaa
open Go.RowKit

set_option maxHeartbeats 1000000 in
theorem rless_any (A : Option Addr) (c : Nat) (xs : List Int) (hn : xs.length ≤ 1048000) (v : Int) (w : World) (h : Reads w w.heap.size 1 A xs.length (ints xs)) :
    Calls Try.prog 46 #[.slice A xs.length c, .int .i64 v] w fun en w' => ∃ A' c', en = .returned (.slice A' (xs.filter fun x => !decide (x = v)).length c') ∧ OwnI w' w.heap.size A' c' (xs.filter fun x => !decide (x = v)) ∧ Below w.heap.size w w' := by
  have hA0 : Hid (OwnI w w.heap.size none 0 ((xs.take 0).filter fun x => !decide (x = v))) := OwnI.nil_ _ _
  have HFL : Hid (∀ k, ((xs.take k).filter fun x => !decide (x = v)).length ≤ 1048000) := fun k => Nat.le_trans (List.length_filter_le _ _) (Nat.le_trans (by rw [List.length_take]; omega) hn)
  go_enter Try.func46, Try.ntmps46
  go_wp2_with fail
  go_loopw [5, 6] (fun o i wr => ∃ (k : Nat) (Ao : Option Addr) (co : Nat), k ≤ xs.length ∧ i = .int .i64 k ∧ o = .slice Ao ((xs.take k).filter fun x => !decide (x = v)).length co ∧ Hid (OwnI wr w.heap.size Ao co ((xs.take k).filter fun x => !decide (x = v))) ∧ Hid (Below w.heap.size w wr)) (fun _ i _ => xs.length - (intOf i).toNat)
  case atStart => exact ⟨0, none, 0, by omega, rfl, rfl, hA0, Below.refl _ _⟩
  case round =>
    obtain ⟨k, Ao, co, hk, rfl, rfl, HO, HW⟩ := hrel
    have hwz := HW.out.size
    by_cases hlt : k < xs.length
    · obtain ⟨x, hx⟩ := get_of_lt hlt
      obtain ⟨b, off, hA, hb, hcell⟩ := (h.below HW.out).at_ (ints_at hx)
      subst hA
      have hi : (k : Int) < (xs.length : Int) := by omega
      have ht := take_snoc hx
      have hf : (xs.take (k + 1)).filter (fun x => !decide (x = v)) = if x = v then (xs.take k).filter (fun x => !decide (x = v)) else (xs.take k).filter (fun x => !decide (x = v)) ++ [x] := by
        rw [ht, List.filter_append]
        by_cases hv : x = v
        · rw [if_pos hv, List.filter_cons]; simp [hv]
        · rw [if_neg hv, List.filter_cons]; simp [hv]
      have HFk := HFL.out k
      obtain ⟨L, hL⟩ : ∃ L, (xs.take k).filter (fun x => !decide (x = v)) = L := ⟨_, rfl⟩
      rw [hL] at HO hf HFk ⊢
      have HF := Lib.hid hf
      have HXL : Hid (xs.length ≤ 1048000) := hn
      clear hx ht hf hL
      by_cases hv : x = v
      · have hq : (x != v) = false := by simp [hv]
        have hF := Lib.hid (HF.out.trans (if_pos hv))
        clear hv
        go_wp2
        go_roundw
        case rel => exact ⟨k + 1, Ao, co, by omega, by have := HXL.out; go_num, by rw [hF.out], by rw [Hid, hF.out]; exact HO.out, HW.out⟩
        case measure => have := HXL.out; simp [intOf]; omega
      · have hq : (x != v) = true := by simpa using hv
        have hF := Lib.hid (HF.out.trans (if_neg hv))
        clear hv
        go_wp2_with (at_builtin; refine push_int rfl (.tmp 19) (.tmp 24) _ rfl Try.underlying25 w.heap.size Ao co L x rfl HO.out rfl rfl HFk hwz ?_; intro A5 c5 w5 hown5 _ hb5)
        go_roundw
        case rel => exact ⟨k + 1, A5, c5, by omega, by have := HXL.out; go_num, by rw [hF.out, List.length_append]; rfl, by rw [Hid, hF.out]; exact hown5, HW.out.trans hb5⟩
        case measure => have := HXL.out; simp [intOf]; omega
    · obtain rfl : k = xs.length := by omega
      rw [List.take_length] at HO ⊢
      go_wp2
      go_ret
      exact ⟨Ao, co, rfl, HO.out, HW.out⟩
end Go.Proofs.Ytepmfbgmkfkmkaa

/-! ref10.Before: the order of lists of ints. -/
namespace Go.Proofs.Ytepmfbgmkfkmkaa
open Go.RowKit

theorem bfI_drop {xs ys : List Int} {k : Nat} {x y : Int} (h : xs[k]? = some x) (h' : ys[k]? = some y) : bfI (xs.drop k) (ys.drop k) = if x = y then bfI (xs.drop (k + 1)) (ys.drop (k + 1)) else decide (x < y) := by
  obtain ⟨l1, e1⟩ := List.getElem?_eq_some_iff.1 h
  obtain ⟨l2, e2⟩ := List.getElem?_eq_some_iff.1 h'
  rw [List.drop_eq_getElem_cons l1, List.drop_eq_getElem_cons l2, e1, e2, bfI]

set_option maxHeartbeats 1000000 in
theorem rbefore_any (A : Option Addr) (c : Nat) (xs : List Int) (B : Option Addr) (d : Nat) (ys : List Int) (hn : xs.length ≤ 1048576) (w : World) (h : Reads w w.heap.size 1 A xs.length (ints xs)) (h' : Reads w w.heap.size 1 B ys.length (ints ys)) :
    Calls Try.prog 44 #[.slice A xs.length c, .slice B ys.length d] w fun e w' => e = .returned (.bool (bfI xs ys)) ∧ Below w.heap.size w w' := by
  go_enter Try.func44, Try.ntmps44
  go_wp2_with fail
  go_loopw [5] (fun i wr => ∃ k : Nat, k ≤ xs.length ∧ k ≤ ys.length ∧ i = .int .i64 k ∧ Hid (Below w.heap.size w wr) ∧ Hid (bfI xs ys = bfI (xs.drop k) (ys.drop k))) (fun i _ => xs.length - (intOf i).toNat)
  case atStart => exact ⟨0, by omega, by omega, rfl, Below.refl _ _, by simp [Hid]⟩
  case round =>
    obtain ⟨k, hk, hk', rfl, HW, HS⟩ := hrel
    by_cases hlt : k < xs.length
    · by_cases hlt' : k < ys.length
      · obtain ⟨x, hx⟩ := get_of_lt hlt
        obtain ⟨y, hy⟩ := get_of_lt hlt'
        have hd := bfI_drop hx hy
        obtain ⟨b, off, rfl, hb, hcell⟩ := (h.below HW.out).at_ (ints_at hx)
        obtain ⟨b', off', rfl, hb', hcell'⟩ := (h'.below HW.out).at_ (ints_at hy)
        have hi : (k : Int) < (xs.length : Int) := by omega
        have hi' : (k : Int) < (ys.length : Int) := by omega
        have HD := Lib.hid hd
        clear hx hy hd h h'
        by_cases hxy : x = y
        · have hq : (x != y) = false := by simp [hxy]
          have HN := Lib.hid (HS.out.trans (HD.out.trans (if_pos hxy)))
          clear hxy
          go_wp2
          go_quiet (fail)
          go_wp2
          go_roundw
          case rel => exact ⟨k + 1, by omega, by omega, by go_num, below_drewN HW.out _, HN⟩
          case measure => simp [intOf]; omega
        · have hq : (x != y) = true := by simpa using hxy
          have HN := Lib.hid (HS.out.trans (HD.out.trans (if_neg hxy)))
          clear hxy
          go_wp2
          go_quiet (fail)
          go_wp2
          go_quiet (fail)
          go_wp2
          go_ret
          exact ⟨ret_bool HN.out.symm, by exact below_drewN (below_drewN HW.out _) _⟩
      · obtain rfl : k = ys.length := by omega
        have HN : Hid (bfI xs ys = false) := by
          rw [Hid, HS.out, List.drop_length]
          cases xs.drop ys.length <;> rfl
        have hi : ((ys.length : Nat) : Int) < (xs.length : Int) := by omega
        have hq : ¬ (xs.length : Int) < (ys.length : Int) := by omega
        go_wp2
        go_ret
        exact ⟨ret_bool (by rw [HN.out]), HW.out⟩
    · obtain rfl : k = xs.length := by omega
      have HN : Hid (bfI xs ys = decide ((xs.length : Int) < (ys.length : Int))) := by
        rw [Hid, HS.out, List.drop_length]
        cases hd : ys.drop xs.length with
        | nil =>
          have := congrArg List.length hd
          rw [List.length_drop] at this
          simp at this
          simp [bfI]; omega
        | cons y l =>
          have := congrArg List.length hd
          rw [List.length_drop] at this
          simp at this
          simp [bfI]; omega
      go_wp2
      go_ret
      exact ⟨ret_bool (by rw [HN.out, decide_eq_decide]; omega), HW.out⟩
end Go.Proofs.Ytepmfbgmkfkmkaa

