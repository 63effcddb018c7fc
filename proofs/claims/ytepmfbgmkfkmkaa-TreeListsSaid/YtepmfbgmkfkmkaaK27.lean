/-
  Texts of this claim, put together: RTree2.
-/
import Derived.Test.YtepmfbgmkfkmkaaK26
/-! ref13.Is, Check, single. -/
namespace Go.Proofs.Ytepmfbgmkfkmkaa
open Go.RowKit

theorem spans_parts {n : Nat} {E : List (Nat × Nat)} (hE : BdP n E) {t : List Nat} (ht : ∀ e ∈ t, e < E.length) (hl : t.length + 1 = n) : spansB n E t = decide (partsP n (pk E t) = 1) := by
  unfold spansB
  rw [decide_eq_true hl, Bool.and_true, Bool.eq_iff_iff, foB_iff, decide_eq_true_eq, tree_of_len (bd_pk hE ht) (by rw [pk_length]; exact hl)]

set_option maxRecDepth 100000 in
set_option maxHeartbeats 4000000 in
theorem ris13_any (n : Nat) (A : Option Addr) (c : Nat) (es : List E3) (hn : es.length ≤ 40) (hG : RightG n es) (B : Option Addr) (d : Nat) (t : List Nat) (ht : ∀ e ∈ t, e < (endsL es).length) (htl : t.length ≤ 50) (w : World)
    (h : Reads w w.heap.size 3 A es.length (edgeCells es)) (h' : Reads w w.heap.size 1 B t.length (ints (nI t))) :
    Calls Try.prog 51 #[.agg #[.int .i64 n, .slice A es.length c], .slice B t.length d] w fun e w' => e = .returned (.bool (spansB n (endsL es) t)) ∧ Below w.heap.size w w' := by
  have hlo := hG.lo
  have hhi := hG.hi
  have hbe := bd_ends hG
  have hbd := bd_pk hbe ht
  have WC := Lib.hid (fun (W : World) (hB : Below w.heap.size w W) => rwith_any n A c es hn hG B d t ht htl W ((h.below hB).more hB.size) ((h'.below hB).more hB.size))
  have hmr := made_right (n := n) (ps := pk (endsL es) t) (by omega) (by omega) (by rw [pk_length]; exact htl)
  have hml : (madeS n (pk (endsL es) t)).length ≤ 1048576 := by
    have h1 : (madeS n (pk (endsL es) t)).length ≤ n * n := joinTo_length _ _ _
    have h2 : n * n ≤ 12 * 12 := Nat.mul_le_mul (by omega) (by omega)
    omega
  have hcb := made_parts (n := n) (ps := pk (endsL es) t) (by omega) (by omega) (by rw [pk_length]; exact htl) hbd
  have g0 := Blk.new w 24 #[.int .i64 n, .slice A es.length c]
  have hb0 : Below w.heap.size w (w.alloc (.cells #[.int .i64 n, .slice A es.length c] 24)) := (Below.refl _ _).alloc (Nat.le_refl _) _
  have c0 := g0.cell 0
  have c1 := g0.cell 1
  have hwn : IntKind.i64.wrap ((n : Int) - 1) = (n : Int) - 1 := IntWalk.i64_in _ (by omega)
  by_cases hl : t.length + 1 = n
  · have hsp := spans_parts hbe ht hl
    rw [← hcb] at hsp
    rw [hsp]
    have hq : ((t.length : Int) == (n : Int) - 1) = true := by simp; omega
    obtain ⟨M, hM⟩ : ∃ M, madeS n (pk (endsL es) t) = M := ⟨_, rfl⟩
    rw [hM] at WC hml ⊢
    have CC := Lib.hid (fun (A1 : Option Addr) (c1 : Nat) (W : World) (hr : Reads W W.heap.size 3 A1 M.length (edgeCells M)) => rconnected_any n (by omega) A1 c1 M hml W hr)
    obtain ⟨b, hb⟩ : ∃ b, connB n M = b := ⟨_, rfl⟩
    rw [hb] at CC ⊢
    clear hl hsp hcb hM hb hmr hbd hbe hG ht
    go_enter Try.func51, Try.ntmps51
    go_wp2_with first
      | (go_at_call 45; refine (WC.out _ hb0).mono ?_; rintro e w1 ⟨A1, c1', rfl, o1, hb1⟩)
      | (go_at_call 74; refine (CC.out A1 c1' w1 (Reads.of_own o1)).mono ?_; rintro e w2 ⟨rfl, hb2⟩)
    go_ret
    exact ⟨rfl, (hb0.trans (hb1.mono hb0.size)).trans (hb2.mono (hb0.trans (hb1.mono hb0.size)).size)⟩
  · have hsp : spansB n (endsL es) t = false := by unfold spansB; rw [decide_eq_false hl, Bool.and_false]
    rw [hsp]
    have hq : ((t.length : Int) == (n : Int) - 1) = false := by simp; omega
    clear hl hsp hcb hml hmr hbd hbe hG ht
    go_enter Try.func51, Try.ntmps51
    go_wp2
    go_ret
    exact ⟨rfl, hb0⟩

set_option maxRecDepth 100000 in
set_option maxHeartbeats 4000000 in
theorem rtcheck_any (n : Int) (A : Option Addr) (c : Nat) (es : List E3) (hn : es.length ≤ 40) (B : Option Addr) (d : Nat) (xs : List Int) (hm : xs.length ≤ 1048576) (w : World) (h : Reads w w.heap.size 3 A es.length (edgeCells es)) (h' : Reads w w.heap.size 1 B xs.length (ints xs)) :
    Calls Try.prog 15 #[.agg #[.int .i64 n, .slice A es.length c], .slice B xs.length d] w fun e w' => e = .returned (.int .i64 (treeErr n es xs)) ∧ Below w.heap.size w w' := by
  have JC := Lib.hid (fun (W : World) (hB : Below w.heap.size w W) => rjoinedErr_any n A c es (by omega) W ((h.below hB).more hB.size))
  have g0 := Blk.new w 24 #[.int .i64 n, .slice A es.length c]
  have hb0 : Below w.heap.size w (w.alloc (.cells #[.int .i64 n, .slice A es.length c] 24)) := (Below.refl _ _).alloc (Nat.le_refl _) _
  have c0 := g0.cell 0
  have c1 := g0.cell 1
  by_cases hj : joinErr n es = 0
  · obtain ⟨hz, hG, _⟩ := join_zero hj
    have hlo := hG.lo
    have hhi := hG.hi
    obtain ⟨m, rfl⟩ := Int.eq_ofNat_of_zero_le (show 0 ≤ n by omega)
    rw [hj] at JC
    have EC := Lib.hid (fun (W : World) (hB : Below w.heap.size w W) => redges_any m A c es hn hG.ok B d xs hm W ((h.below hB).more hB.size) ((h'.below hB).more hB.size))
    have hbd := bd_ends hG
    by_cases he : edgErr (endsL es).length xs = 0
    · obtain ⟨t, rfl, hs⟩ := edg_set he
      rw [he] at EC
      have htt : (nI t).map Int.toNat = t := by
        unfold nI
        rw [List.map_map]
        conv => rhs; rw [← List.map_id t]
        exact List.map_congr_left fun x _ => by simp
      have hnl := nI_length t
      have HE : Hid (treeErr m es (nI t) = if (t.length : Int) + 1 ≠ (m : Int) then 8 else if spansB m (endsL es) t = true then 0 else 3) := by
        unfold Hid treeErr spansB
        rw [if_neg (fun hc => hc hj), if_neg (fun hc => hc he), htt, hnl]
        by_cases hl : (t.length : Int) + 1 = (m : Int)
        · rw [decide_eq_true (show t.length + 1 = m by omega), Bool.and_true]
        · rw [if_pos hl, if_pos hl]
      obtain ⟨z, hzz⟩ : ∃ z, treeErr m es (nI t) = z := ⟨_, rfl⟩
      rw [hzz] at HE ⊢
      have hwn : IntKind.i64.wrap ((m : Int) - 1) = (m : Int) - 1 := IntWalk.i64_in _ (by omega)
      by_cases hl : (t.length : Int) + 1 = (m : Int)
      · have SC := Lib.hid (fun (W : World) (hB : Below w.heap.size w W) => ris13_any m A c es hn hG B d t hs.2 (by omega) W ((h.below hB).more hB.size) (by rw [← hnl]; exact (h'.below hB).more hB.size))
        have hne : ((t.length : Int) != (m : Int) - 1) = false := by simp; omega
        have HE2 : Hid (z = if spansB m (endsL es) t = true then 0 else 3) := HE.out.trans (if_neg (fun hc => hc hl))
        obtain ⟨sb, hsb⟩ : ∃ sb, spansB m (endsL es) t = sb := ⟨_, rfl⟩
        rw [hsb] at SC HE2
        rw [hnl] at EC h' ⊢
        clear hz hG hj he htt hzz hs hbd hl hsb HE
        go_enter Try.func15, Try.ntmps15
        go_wp2_with fail
        refine (JC.out _ hb0).mono ?_
        rintro e w1 ⟨rfl, hb1⟩
        have B1 := hb0.trans (hb1.mono hb0.size)
        have g1 := g0.next hb1
        have c0 := g1.cell 0
        have c1 := g1.cell 1
        clear g0 hb0 hb1
        go_wp2_with fail
        refine (EC.out _ B1).mono ?_
        rintro e w2 ⟨rfl, hb2⟩
        have B2 := B1.trans (hb2.mono B1.size)
        have g2 := g1.next hb2
        have c0 := g2.cell 0
        have c1 := g2.cell 1
        clear g1 hb2 B1
        go_wp2_with fail
        refine (SC.out _ B2).mono ?_
        rintro e w3 ⟨rfl, hb3⟩
        have B3 := B2.trans (hb3.mono B2.size)
        cases sb
        · have HI : Hid (z = 3) := HE2.out
          go_wp2
          go_ret
          exact ⟨by rw [HI.out]; rfl, B3⟩
        · have HI : Hid (z = 0) := HE2.out
          go_wp2
          go_ret
          exact ⟨by rw [HI.out]; rfl, B3⟩
      · have hne : ((t.length : Int) != (m : Int) - 1) = true := by simp; omega
        have HI : Hid (z = 8) := HE.out.trans (if_pos hl)
        rw [hnl] at EC h' ⊢
        clear hz hG hj he htt hzz hs hbd hl HE
        go_enter Try.func15, Try.ntmps15
        go_wp2_with fail
        refine (JC.out _ hb0).mono ?_
        rintro e w1 ⟨rfl, hb1⟩
        have B1 := hb0.trans (hb1.mono hb0.size)
        have g1 := g0.next hb1
        have c0 := g1.cell 0
        have c1 := g1.cell 1
        clear g0 hb0 hb1
        go_wp2_with fail
        refine (EC.out _ B1).mono ?_
        rintro e w2 ⟨rfl, hb2⟩
        have B2 := B1.trans (hb2.mono B1.size)
        have g2 := g1.next hb2
        have c0 := g2.cell 0
        have c1 := g2.cell 1
        go_wp2
        go_ret
        exact ⟨by rw [HI.out]; rfl, B2⟩
    · have HE : Hid (treeErr m es xs = edgErr (endsL es).length xs) := by
        unfold Hid treeErr
        rw [if_neg (fun hc => hc hj), if_pos he]
      rw [HE.out]
      obtain ⟨z, hzz⟩ : ∃ z, edgErr (endsL es).length xs = z := ⟨_, rfl⟩
      rw [hzz] at EC he ⊢
      have hb : (z != 0) = true := by simpa using he
      clear hz hG hj he hzz hbd HE
      go_enter Try.func15, Try.ntmps15
      go_wp2_with fail
      refine (JC.out _ hb0).mono ?_
      rintro e w1 ⟨rfl, hb1⟩
      have B1 := hb0.trans (hb1.mono hb0.size)
      have g1 := g0.next hb1
      have c0 := g1.cell 0
      have c1 := g1.cell 1
      clear g0 hb0 hb1
      go_wp2_with fail
      refine (EC.out _ B1).mono ?_
      rintro e w2 ⟨rfl, hb2⟩
      go_wp2
      go_ret
      exact ⟨rfl, B1.trans (hb2.mono B1.size)⟩
  · have HE : Hid (treeErr n es xs = joinErr n es) := by
      unfold Hid treeErr
      rw [if_pos hj]
    rw [HE.out]
    obtain ⟨z, hzz⟩ : ∃ z, joinErr n es = z := ⟨_, rfl⟩
    rw [hzz] at JC hj ⊢
    have hb : (z != 0) = true := by simpa using hj
    clear hj hzz HE
    go_enter Try.func15, Try.ntmps15
    go_wp2_with fail
    refine (JC.out _ hb0).mono ?_
    rintro e w1 ⟨rfl, hb1⟩
    go_wp2
    go_ret
    exact ⟨rfl, hb0.trans (hb1.mono hb0.size)⟩

/-- The error of a graph, a tree and a single edge. -/
def singErr (n : Int) (es : List E3) (xs : List Int) (e : Int) : Int := if treeErr n es xs ≠ 0 then treeErr n es xs else if e < 0 ∨ ((endsL es).length : Int) ≤ e then 2 else 0
set_option maxRecDepth 100000 in
set_option maxHeartbeats 4000000 in
theorem single_any (n : Int) (A : Option Addr) (c : Nat) (es : List E3) (hn : es.length ≤ 40) (B : Option Addr) (d : Nat) (xs : List Int) (hm : xs.length ≤ 1048576) (e0 : Int) (w : World) (h : Reads w w.heap.size 3 A es.length (edgeCells es)) (h' : Reads w w.heap.size 1 B xs.length (ints xs)) :
    Calls Try.prog 56 #[.agg #[.int .i64 n, .slice A es.length c], .slice B xs.length d, .int .i64 e0] w fun e w' => e = .returned (.int .i64 (singErr n es xs e0)) ∧ Below w.heap.size w w' := by
  have TC := Lib.hid (fun (W : World) (hB : Below w.heap.size w W) => rtcheck_any n A c es hn B d xs hm W ((h.below hB).more hB.size) ((h'.below hB).more hB.size))
  have g0 := Blk.new w 24 #[.int .i64 n, .slice A es.length c]
  have hb0 : Below w.heap.size w (w.alloc (.cells #[.int .i64 n, .slice A es.length c] 24)) := (Below.refl _ _).alloc (Nat.le_refl _) _
  have c0 := g0.cell 0
  have c1 := g0.cell 1
  by_cases hj : treeErr n es xs = 0
  · obtain ⟨m, t, rfl, rfl, hG, _⟩ := tree_zero hj
    have SC := Lib.hid (fun (W : World) (hB : Below w.heap.size w W) => rsize_any m A c es hn m hG.ok W ((h.below hB).more hB.size))
    rw [size_ends] at SC
    have hel := endsL_len40 hG.ok hn
    have HE : Hid (singErr m es (nI t) e0 = if e0 < 0 ∨ ((endsL es).length : Int) ≤ e0 then 2 else 0) := by unfold Hid singErr; rw [if_neg (fun hc => hc hj)]
    rw [HE.out]
    rw [hj] at TC
    obtain ⟨s, hs⟩ : ∃ s, (endsL es).length = s := ⟨_, rfl⟩
    rw [hs] at SC hel ⊢
    clear hj hG HE hs
    by_cases h1 : e0 < 0
    · have hd1 : decide (e0 < 0) = true := decide_eq_true h1
      rw [if_pos (.inl h1)]
      go_enter Try.func56, Try.ntmps56
      go_wp2_with fail
      refine (TC.out _ hb0).mono ?_
      rintro e w1 ⟨rfl, hb1⟩
      go_wp2
      go_ret
      exact ⟨rfl, hb0.trans (hb1.mono hb0.size)⟩
    · have hd1 : decide (e0 < 0) = false := decide_eq_false h1
      go_enter Try.func56, Try.ntmps56
      go_wp2_with fail
      refine (TC.out _ hb0).mono ?_
      rintro e w1 ⟨rfl, hb1⟩
      have B1 := hb0.trans (hb1.mono hb0.size)
      have g1 := g0.next hb1
      have c0 := g1.cell 0
      have c1 := g1.cell 1
      by_cases h2 : (s : Int) ≤ e0
      · have hd2 : decide ((s : Int) ≤ e0) = true := decide_eq_true h2
        go_wp2_with (go_at_call 34; refine (SC.out _ B1).mono ?_; rintro e w2 ⟨rfl, hb2⟩)
        go_ret
        exact ⟨rfl, B1.trans (hb2.mono B1.size)⟩
      · have hd2 : decide ((s : Int) ≤ e0) = false := decide_eq_false h2
        go_wp2_with (go_at_call 34; refine (SC.out _ B1).mono ?_; rintro e w2 ⟨rfl, hb2⟩)
        go_ret
        exact ⟨rfl, B1.trans (hb2.mono B1.size)⟩
  · have HE : Hid (singErr n es xs e0 = treeErr n es xs) := by unfold Hid singErr; rw [if_pos hj]
    rw [HE.out]
    obtain ⟨z, hzz⟩ : ∃ z, treeErr n es xs = z := ⟨_, rfl⟩
    rw [hzz] at TC hj ⊢
    have hb : (z != 0) = true := by simpa using hj
    clear hj hzz HE
    go_enter Try.func56, Try.ntmps56
    go_wp2_with fail
    refine (TC.out _ hb0).mono ?_
    rintro e w1 ⟨rfl, hb1⟩
    go_wp2
    go_ret
    exact ⟨rfl, hb0.trans (hb1.mono hb0.size)⟩
end Go.Proofs.Ytepmfbgmkfkmkaa

