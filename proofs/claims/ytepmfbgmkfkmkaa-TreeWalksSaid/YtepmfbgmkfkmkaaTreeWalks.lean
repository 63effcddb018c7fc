/-
  For every graph, list of single edges and pair of vertices the law TreeWalks answers true: tree.Path and Parents return the results or errors of the reference. There are no conditions.
-/
import Derived.Test.YtepmfbgmkfkmkaaK22
import Derived.Test.YtepmfbgmkfkmkaaK23
import Derived.Test.YtepmfbgmkfkmkaaK27
import Derived.Test.YtepmfbgmkfkmkaaK28
import Derived.Test.YtepmfbgmkfkmkaaK18
namespace Go.Proofs.Ytepmfbgmkfkmkaa
open Go.RowKit

set_option maxHeartbeats 1000000 in
theorem rvertexB_any (n v : Int) (A : Option Addr) (k c : Nat) (w : World) :
    Calls Try.prog 16 #[.agg #[.int .i64 n, .slice A k c], .int .i64 v] w fun e w' => e = .returned (.bool (vertB n v)) ∧ Below w.heap.size w w' := by
  refine (rvertex_any _ _ _ _ _ _).mono ?_
  rintro e w' ⟨he, rfl⟩
  exact ⟨he, (Below.refl _ _).alloc (Nat.le_refl _) _⟩

set_option maxRecDepth 100000 in
set_option maxHeartbeats 8000000 in
theorem treeWalks_walk (w : World) (n : Int) (A : Option Addr) (c : Nat) (es : List E3) (_hm : es.length ≤ maxLen) (_hw : (Lit.int .i64 n).wf = true) (h : Reads w w.heap.size 3 A es.length (edgeCells es))
    (B : Option Addr) (d : Nat) (xs : List Int) (_hm' : xs.length ≤ maxLen) (_hw' : ∀ x ∈ xs, (Lit.int .i64 x).wf = true) (h' : Reads w w.heap.size 1 B xs.length (ints xs)) (a b : Int) (_ha : (Lit.int .i64 a).wf = true) (_hb : (Lit.int .i64 b).wf = true) :
    Calls Try.prog 4 #[.agg #[.int .i64 n, .slice A es.length c], .slice B xs.length d, .agg #[.int .i64 a, .int .i64 b]] w fun e w' => e = .returned (.bool true) ∧ Below w.heap.size w w' := by
  have FC := Lib.hid (fun w h => few13_any n A c es B xs.length d w h)
  have AW := Lib.hid (fun w => awake13_any w)
  have VC := Lib.hid (fun v W => rvertexB_any n v A es.length c W)
  obtain ⟨W0, hW0⟩ : ∃ W0, (w.alloc (.cells #[.int .i64 n, .slice A es.length c] 24)).alloc (.cells #[.int .i64 a, .int .i64 b] 31) = W0 := ⟨_, rfl⟩
  have g : Blk W0 w.heap.size 24 #[.int .i64 n, .slice A es.length c] := by rw [← hW0]; exact (Blk.new w 24 #[.int .i64 n, .slice A es.length c]).alloc _
  have gp : Blk W0 (w.heap.size + 1) 31 #[.int .i64 a, .int .i64 b] := by rw [← hW0]; exact Blk.newAt (by simp)
  have hB : Below w.heap.size w W0 := by rw [← hW0]; exact ((Below.refl _ _).alloc (Nat.le_refl _) _).alloc (by simp) _
  have HW0 := Lib.hid hW0
  clear hW0
  have k0 := g.cell 0
  have k1 := g.cell 1
  have p0 := gp.cell 0
  have p1 := gp.cell 1
  by_cases hf : few13 n es xs.length = true
  · obtain ⟨hlen, hxl, _⟩ := few13_parts hf
    rw [hf] at FC
    have RC := Lib.hid (fun w h h' => rtcheck_any n A c es (by omega) B d xs (by omega) w h h')
    have PC := Lib.hid (fun w h h' => tpath_any n A c es (by omega) B d xs (by omega) a b w h h')
    have QC := Lib.hid (fun w h h' => tparents_any n A c es (by omega) B d xs (by omega) a w h h')
    clear hf
    by_cases hz : treeErr n es xs = 0
    · obtain ⟨m, t, rfl, hxt, hR⟩ := treeR_of hz
      have hm12 := hR.hi
      have hnl := nI_length t
      rw [hz] at RC
      by_cases ha : vertB m a = true
      · have h1 := vertB_true.1 ha
        obtain ⟨x, rfl⟩ := Int.eq_ofNat_of_zero_le h1.1
        have hxm : x < m := by omega
        have hql : (parentsL m (endsL es) t x).length = m := parentsL_length
        have QC : Hid (∀ (w : World) (h : Reads w w.heap.size 3 A es.length (edgeCells es)) (h' : Reads w w.heap.size 1 B xs.length (ints xs)), Calls Try.prog 18 #[.agg #[.int .i64 m, .slice A es.length c], .slice B xs.length d, .int .i64 x] w fun e w' => ∃ A' c', e = .returned (.tuple #[.slice A' m c', .int .i64 0]) ∧ Reads w' w'.heap.size 1 A' m (ints (parentsL m (endsL es) t x)) ∧ Below w.heap.size w w') := by
          intro w h h'
          subst hxt
          have hE : parentsE m es (nI t) x = (parentsL m (endsL es) t x, 0) := by unfold parentsE; rw [if_neg (fun hc => hc hz), if_pos ha, toN_nI, Int.toNat_natCast, Int.toNat_natCast]
          have := QC.out w h h'
          rw [hE] at this
          refine this.mono ?_
          rintro e w' ⟨A', c', rfl, o1, hb⟩
          have o1 := o1.reads
          dsimp only at o1 ⊢
          rw [hql] at o1 ⊢
          exact ⟨A', c', rfl, o1, hb⟩
        have RQ : Hid (∀ (w : World) (h : Reads w w.heap.size 3 A es.length (edgeCells es)) (h' : Reads w w.heap.size 1 B xs.length (ints xs)), Calls Try.prog 21 #[.agg #[.int .i64 m, .slice A es.length c], .slice B xs.length d, .int .i64 x] w fun e w' => ∃ A' c', e = .returned (.slice A' m c') ∧ Reads w' w'.heap.size 1 A' m (ints (parentsL m (endsL es) t x)) ∧ Below w.heap.size w w') := by
          intro w h h'
          subst hxt
          rw [hnl] at h' ⊢
          refine (rparents_any m A c es (by omega) B d t hR x hxm w h h').mono ?_
          rintro e w' ⟨A', c', rfl, o1, hb⟩
          have o1 := o1.reads
          rw [hql] at o1
          exact ⟨A', c', rfl, o1, hb⟩
        have EQ : Hid (∀ (A : Option Addr) (c : Nat) (B : Option Addr) (d : Nat) (w : World) (_ : Reads w w.heap.size 1 A m (ints (parentsL m (endsL es) t x))) (_ : Reads w w.heap.size 1 B m (ints (parentsL m (endsL es) t x))), Calls Try.prog 19 #[.slice A m c, .slice B m d] w fun e w' => e = .returned (.bool true) ∧ Below w.heap.size w w') := by
          intro A c B d w h h'
          have := iequal_any A c (parentsL m (endsL es) t x) B d (parentsL m (endsL es) t x) (by omega) w (by rw [hql]; exact h) (by rw [hql]; exact h')
          rw [hql, decide_eq_true rfl] at this
          exact this
        have V1 := Lib.hid (VC.out x)
        have V2 := Lib.hid (VC.out b)
        rw [ha] at V1
        obtain ⟨Q, hQ⟩ : ∃ Q, parentsL m (endsL es) t x = Q := ⟨_, rfl⟩
        rw [hQ] at QC RQ EQ
        by_cases hb : vertB m b = true
        · have h2 := vertB_true.1 hb
          obtain ⟨y, rfl⟩ := Int.eq_ofNat_of_zero_le h2.1
          have hym : y < m := by omega
          rw [hb] at V2
          have hpl : (pathL (endsL es) t x y).length ≤ 1048576 := by
            have := path_len hR.hT (hR.cn hxm hym); have := hR.len; omega
          have PC : Hid (∀ (w : World) (h : Reads w w.heap.size 3 A es.length (edgeCells es)) (h' : Reads w w.heap.size 1 B xs.length (ints xs)), Calls Try.prog 17 #[.agg #[.int .i64 m, .slice A es.length c], .slice B xs.length d, .int .i64 x, .int .i64 y] w fun e w' => ∃ A' c', e = .returned (.tuple #[.slice A' (pathL (endsL es) t x y).length c', .int .i64 0]) ∧ Reads w' w'.heap.size 1 A' (pathL (endsL es) t x y).length (ints (nI (pathL (endsL es) t x y))) ∧ Below w.heap.size w w') := by
            intro w h h'
            subst hxt
            have hE : pathE m es (nI t) x y = (nI (pathL (endsL es) t x y), 0) := by unfold pathE; rw [if_neg (fun hc => hc hz), ha, hb, toN_nI, Int.toNat_natCast, Int.toNat_natCast]; rfl
            have := PC.out w h h'
            rw [hE] at this
            refine this.mono ?_
            rintro e w' ⟨A', c', rfl, o1, hb⟩
            have o1 := o1.reads
            dsimp only at o1 ⊢
            rw [nI_length] at o1 ⊢
            exact ⟨A', c', rfl, o1, hb⟩
          have RP : Hid (∀ (w : World) (h : Reads w w.heap.size 3 A es.length (edgeCells es)) (h' : Reads w w.heap.size 1 B xs.length (ints xs)), Calls Try.prog 20 #[.agg #[.int .i64 m, .slice A es.length c], .slice B xs.length d, .int .i64 x, .int .i64 y] w fun e w' => ∃ A' c', e = .returned (.slice A' (pathL (endsL es) t x y).length c') ∧ Reads w' w'.heap.size 1 A' (pathL (endsL es) t x y).length (ints (nI (pathL (endsL es) t x y))) ∧ Below w.heap.size w w') := by
            intro w h h'
            subst hxt
            rw [hnl] at h' ⊢
            refine (rpath_any m A c es (by omega) B d t hR x y hxm hym w h h').mono ?_
            rintro e w' ⟨A', c', rfl, o1, hb⟩
            have o1 := o1.reads
            rw [nI_length] at o1
            exact ⟨A', c', rfl, o1, hb⟩
          have EP : Hid (∀ (A : Option Addr) (c : Nat) (B : Option Addr) (d : Nat) (w : World) (_ : Reads w w.heap.size 1 A (pathL (endsL es) t x y).length (ints (nI (pathL (endsL es) t x y)))) (_ : Reads w w.heap.size 1 B (pathL (endsL es) t x y).length (ints (nI (pathL (endsL es) t x y)))), Calls Try.prog 19 #[.slice A (pathL (endsL es) t x y).length c, .slice B (pathL (endsL es) t x y).length d] w fun e w' => e = .returned (.bool true) ∧ Below w.heap.size w w') := by
            intro A c B d w h h'
            have := iequal_any A c (nI (pathL (endsL es) t x y)) B d (nI (pathL (endsL es) t x y)) (by rw [nI_length]; exact hpl) w (by rw [nI_length]; exact h) (by rw [nI_length]; exact h')
            rw [nI_length, decide_eq_true rfl] at this
            exact this
          obtain ⟨P, hP⟩ : ∃ P, pathL (endsL es) t x y = P := ⟨_, rfl⟩
          rw [hP] at PC RP EP
          clear hP hQ hxt ha hb hz hR hnl hql hpl h1 h2 hxl hlen VC
          go_enter Try.func4, Try.ntmps4
          go_wp2_with fail
          try rw [HW0.out]
          refine (FC.out _ ((h.below hB).more hB.size)).mono ?_
          rintro e wn ⟨rfl, hb⟩
          have g := g.next hb
          have gp := gp.next hb
          have hB := hB.trans (hb.mono hB.size)
          have k0 := g.cell 0
          have k1 := g.cell 1
          have p0 := gp.cell 0
          have p1 := gp.cell 1
          clear hb
          go_wp2_with fail
          refine (RC.out _ ((h.below hB).more hB.size) ((h'.below hB).more hB.size)).mono ?_
          rintro e wn ⟨rfl, hb⟩
          have g := g.next hb
          have gp := gp.next hb
          have hB := hB.trans (hb.mono hB.size)
          have k0 := g.cell 0
          have k1 := g.cell 1
          have p0 := gp.cell 0
          have p1 := gp.cell 1
          clear hb
          go_wp2_with fail
          refine (V1.out _).mono ?_
          rintro e wn ⟨rfl, hb⟩
          have g := g.next hb
          have gp := gp.next hb
          have hB := hB.trans (hb.mono hB.size)
          have k0 := g.cell 0
          have k1 := g.cell 1
          have p0 := gp.cell 0
          have p1 := gp.cell 1
          clear hb
          go_wp2_with fail
          refine (V2.out _).mono ?_
          rintro e wn ⟨rfl, hb⟩
          have g := g.next hb
          have gp := gp.next hb
          have hB := hB.trans (hb.mono hB.size)
          have k0 := g.cell 0
          have k1 := g.cell 1
          have p0 := gp.cell 0
          have p1 := gp.cell 1
          clear hb
          go_wp2_with fail
          refine (PC.out _ ((h.below hB).more hB.size) ((h'.below hB).more hB.size)).mono ?_
          rintro e wn ⟨A1, c1, rfl, o1, hb⟩
          have g := g.next hb
          have gp := gp.next hb
          have hB := hB.trans (hb.mono hB.size)
          have k0 := g.cell 0
          have k1 := g.cell 1
          have p0 := gp.cell 0
          have p1 := gp.cell 1
          clear hb
          go_wp2_with fail
          refine (QC.out _ ((h.below hB).more hB.size) ((h'.below hB).more hB.size)).mono ?_
          rintro e wn ⟨A2, c2, rfl, o2, hb⟩
          have o1 := o1.next hb
          have g := g.next hb
          have gp := gp.next hb
          have hB := hB.trans (hb.mono hB.size)
          have k0 := g.cell 0
          have k1 := g.cell 1
          have p0 := gp.cell 0
          have p1 := gp.cell 1
          clear hb
          go_wp2_with fail
          refine (AW.out _).mono ?_
          rintro e wn ⟨rfl, hb⟩
          have o1 := o1.next hb
          have o2 := o2.next hb
          have g := g.next hb
          have gp := gp.next hb
          have hB := hB.trans (hb.mono hB.size)
          have k0 := g.cell 0
          have k1 := g.cell 1
          have p0 := gp.cell 0
          have p1 := gp.cell 1
          clear hb
          go_wp2_with fail
          refine (RP.out _ ((h.below hB).more hB.size) ((h'.below hB).more hB.size)).mono ?_
          rintro e wn ⟨A3, c3, rfl, o3, hb⟩
          have o1 := o1.next hb
          have o2 := o2.next hb
          have g := g.next hb
          have gp := gp.next hb
          have hB := hB.trans (hb.mono hB.size)
          have k0 := g.cell 0
          have k1 := g.cell 1
          have p0 := gp.cell 0
          have p1 := gp.cell 1
          clear hb
          go_wp2_with fail
          refine (EP.out _ _ _ _ _ o1 o3).mono ?_
          rintro e wn ⟨rfl, hb⟩
          have o2 := o2.next hb
          have g := g.next hb
          have gp := gp.next hb
          have hB := hB.trans (hb.mono hB.size)
          have k0 := g.cell 0
          have k1 := g.cell 1
          have p0 := gp.cell 0
          have p1 := gp.cell 1
          clear hb
          go_wp2_with fail
          refine (RQ.out _ ((h.below hB).more hB.size) ((h'.below hB).more hB.size)).mono ?_
          rintro e wn ⟨A4, c4, rfl, o4, hb⟩
          have o2 := o2.next hb
          have g := g.next hb
          have gp := gp.next hb
          have hB := hB.trans (hb.mono hB.size)
          have k0 := g.cell 0
          have k1 := g.cell 1
          have p0 := gp.cell 0
          have p1 := gp.cell 1
          clear hb
          go_wp2_with fail
          refine (EQ.out _ _ _ _ _ o2 o4).mono ?_
          rintro e wn ⟨rfl, hb⟩
          have g := g.next hb
          have gp := gp.next hb
          have hB := hB.trans (hb.mono hB.size)
          have k0 := g.cell 0
          have k1 := g.cell 1
          have p0 := gp.cell 0
          have p1 := gp.cell 1
          clear hb
          go_wp2
          go_ret
          exact ⟨rfl, hB⟩
        · have hb' : vertB m b = false := by simpa using hb
          rw [hb'] at V2
          have hE : Hid (pathE m es xs x b = ([], 2)) := by unfold Hid pathE; rw [if_neg (fun hc => hc hz), ha, hb']; rfl
          rw [hE.out] at PC
          have PC : Hid (∀ (w : World) (h : Reads w w.heap.size 3 A es.length (edgeCells es)) (h' : Reads w w.heap.size 1 B xs.length (ints xs)), Calls Try.prog 17 #[.agg #[.int .i64 m, .slice A es.length c], .slice B xs.length d, .int .i64 x, .int .i64 b] w fun e w' => ∃ A' c', e = .returned (.tuple #[.slice A' 0 c', .int .i64 2]) ∧ Reads w' w'.heap.size 1 A' 0 (ints []) ∧ Below w.heap.size w w') := by
            intro w h h'
            refine (PC.out w h h').mono ?_
            rintro e w' ⟨A', c', rfl, o1, hb⟩
            exact ⟨A', c', rfl, o1.reads, hb⟩
          clear hQ hxt ha hb hb' hz hR hnl hql h1 hxl hlen VC hE
          go_enter Try.func4, Try.ntmps4
          go_wp2_with fail
          try rw [HW0.out]
          refine (FC.out _ ((h.below hB).more hB.size)).mono ?_
          rintro e wn ⟨rfl, hb⟩
          have g := g.next hb
          have gp := gp.next hb
          have hB := hB.trans (hb.mono hB.size)
          have k0 := g.cell 0
          have k1 := g.cell 1
          have p0 := gp.cell 0
          have p1 := gp.cell 1
          clear hb
          go_wp2_with fail
          refine (RC.out _ ((h.below hB).more hB.size) ((h'.below hB).more hB.size)).mono ?_
          rintro e wn ⟨rfl, hb⟩
          have g := g.next hb
          have gp := gp.next hb
          have hB := hB.trans (hb.mono hB.size)
          have k0 := g.cell 0
          have k1 := g.cell 1
          have p0 := gp.cell 0
          have p1 := gp.cell 1
          clear hb
          go_wp2_with fail
          refine (V1.out _).mono ?_
          rintro e wn ⟨rfl, hb⟩
          have g := g.next hb
          have gp := gp.next hb
          have hB := hB.trans (hb.mono hB.size)
          have k0 := g.cell 0
          have k1 := g.cell 1
          have p0 := gp.cell 0
          have p1 := gp.cell 1
          clear hb
          go_wp2_with fail
          refine (V2.out _).mono ?_
          rintro e wn ⟨rfl, hb⟩
          have g := g.next hb
          have gp := gp.next hb
          have hB := hB.trans (hb.mono hB.size)
          have k0 := g.cell 0
          have k1 := g.cell 1
          have p0 := gp.cell 0
          have p1 := gp.cell 1
          clear hb
          go_wp2_with fail
          refine (PC.out _ ((h.below hB).more hB.size) ((h'.below hB).more hB.size)).mono ?_
          rintro e wn ⟨A1, c1, rfl, o1, hb⟩
          have g := g.next hb
          have gp := gp.next hb
          have hB := hB.trans (hb.mono hB.size)
          have k0 := g.cell 0
          have k1 := g.cell 1
          have p0 := gp.cell 0
          have p1 := gp.cell 1
          clear hb
          go_wp2_with fail
          refine (QC.out _ ((h.below hB).more hB.size) ((h'.below hB).more hB.size)).mono ?_
          rintro e wn ⟨A2, c2, rfl, o2, hb⟩
          have o1 := o1.next hb
          have g := g.next hb
          have gp := gp.next hb
          have hB := hB.trans (hb.mono hB.size)
          have k0 := g.cell 0
          have k1 := g.cell 1
          have p0 := gp.cell 0
          have p1 := gp.cell 1
          clear hb
          go_wp2_with fail
          refine (AW.out _).mono ?_
          rintro e wn ⟨rfl, hb⟩
          have o1 := o1.next hb
          have o2 := o2.next hb
          have g := g.next hb
          have gp := gp.next hb
          have hB := hB.trans (hb.mono hB.size)
          have k0 := g.cell 0
          have k1 := g.cell 1
          have p0 := gp.cell 0
          have p1 := gp.cell 1
          clear hb
          go_wp2_with fail
          refine (RQ.out _ ((h.below hB).more hB.size) ((h'.below hB).more hB.size)).mono ?_
          rintro e wn ⟨A4, c4, rfl, o4, hb⟩
          have o2 := o2.next hb
          have g := g.next hb
          have gp := gp.next hb
          have hB := hB.trans (hb.mono hB.size)
          have k0 := g.cell 0
          have k1 := g.cell 1
          have p0 := gp.cell 0
          have p1 := gp.cell 1
          clear hb
          go_wp2_with fail
          refine (EQ.out _ _ _ _ _ o2 o4).mono ?_
          rintro e wn ⟨rfl, hb⟩
          have g := g.next hb
          have gp := gp.next hb
          have hB := hB.trans (hb.mono hB.size)
          have k0 := g.cell 0
          have k1 := g.cell 1
          have p0 := gp.cell 0
          have p1 := gp.cell 1
          clear hb
          go_wp2
          go_ret
          exact ⟨rfl, hB⟩
      · have ha' : vertB m a = false := by simpa using ha
        have V1 := Lib.hid (VC.out a)
        rw [ha'] at V1
        have hE : Hid (pathE m es xs a b = ([], 2)) := by unfold Hid pathE; rw [if_neg (fun hc => hc hz), ha']; rfl
        have hF : Hid (parentsE m es xs a = ([], 2)) := by unfold Hid parentsE; rw [if_neg (fun hc => hc hz), ha']; rfl
        rw [hE.out] at PC
        rw [hF.out] at QC
        clear hxt ha ha' hz hR hnl hxl hlen VC hE hF
        go_enter Try.func4, Try.ntmps4
        go_wp2_with fail
        try rw [HW0.out]
        refine (FC.out _ ((h.below hB).more hB.size)).mono ?_
        rintro e wn ⟨rfl, hb⟩
        have g := g.next hb
        have gp := gp.next hb
        have hB := hB.trans (hb.mono hB.size)
        have k0 := g.cell 0
        have k1 := g.cell 1
        have p0 := gp.cell 0
        have p1 := gp.cell 1
        clear hb
        go_wp2_with fail
        refine (RC.out _ ((h.below hB).more hB.size) ((h'.below hB).more hB.size)).mono ?_
        rintro e wn ⟨rfl, hb⟩
        have g := g.next hb
        have gp := gp.next hb
        have hB := hB.trans (hb.mono hB.size)
        have k0 := g.cell 0
        have k1 := g.cell 1
        have p0 := gp.cell 0
        have p1 := gp.cell 1
        clear hb
        go_wp2_with fail
        refine (V1.out _).mono ?_
        rintro e wn ⟨rfl, hb⟩
        have g := g.next hb
        have gp := gp.next hb
        have hB := hB.trans (hb.mono hB.size)
        have k0 := g.cell 0
        have k1 := g.cell 1
        have p0 := gp.cell 0
        have p1 := gp.cell 1
        clear hb
        go_wp2_with fail
        refine (PC.out _ ((h.below hB).more hB.size) ((h'.below hB).more hB.size)).mono ?_
        rintro e wn ⟨A1, c1, rfl, o1, hb⟩
        have g := g.next hb
        have gp := gp.next hb
        have hB := hB.trans (hb.mono hB.size)
        have k0 := g.cell 0
        have k1 := g.cell 1
        have p0 := gp.cell 0
        have p1 := gp.cell 1
        clear hb
        go_wp2_with fail
        refine (QC.out _ ((h.below hB).more hB.size) ((h'.below hB).more hB.size)).mono ?_
        rintro e wn ⟨A2, c2, rfl, o2, hb⟩
        have o1 := o1.next hb
        have g := g.next hb
        have gp := gp.next hb
        have hB := hB.trans (hb.mono hB.size)
        have k0 := g.cell 0
        have k1 := g.cell 1
        have p0 := gp.cell 0
        have p1 := gp.cell 1
        clear hb
        go_wp2_with fail
        refine (AW.out _).mono ?_
        rintro e wn ⟨rfl, hb⟩
        have o1 := o1.next hb
        have o2 := o2.next hb
        have g := g.next hb
        have gp := gp.next hb
        have hB := hB.trans (hb.mono hB.size)
        have k0 := g.cell 0
        have k1 := g.cell 1
        have p0 := gp.cell 0
        have p1 := gp.cell 1
        clear hb
        go_wp2
        go_ret
        exact ⟨rfl, hB⟩
    · have hE : Hid (pathE n es xs a b = ([], treeErr n es xs)) := by unfold Hid pathE; rw [if_pos hz]
      have hF : Hid (parentsE n es xs a = ([], treeErr n es xs)) := by unfold Hid parentsE; rw [if_pos hz]
      rw [hE.out] at PC
      rw [hF.out] at QC
      obtain ⟨z, hzz⟩ : ∃ z, treeErr n es xs = z := ⟨_, rfl⟩
      rw [hzz] at PC QC RC hz
      have hz1 : (z == 0) = false := by simpa using hz
      have hz2 : (z != 0) = true := by simpa using hz
      have hz3 : (z != z) = false := by simp
      clear hzz hz hE hF hxl hlen VC
      go_enter Try.func4, Try.ntmps4
      go_wp2_with fail
      try rw [HW0.out]
      refine (FC.out _ ((h.below hB).more hB.size)).mono ?_
      rintro e wn ⟨rfl, hb⟩
      have g := g.next hb
      have gp := gp.next hb
      have hB := hB.trans (hb.mono hB.size)
      have k0 := g.cell 0
      have k1 := g.cell 1
      have p0 := gp.cell 0
      have p1 := gp.cell 1
      clear hb
      go_wp2_with fail
      refine (RC.out _ ((h.below hB).more hB.size) ((h'.below hB).more hB.size)).mono ?_
      rintro e wn ⟨rfl, hb⟩
      have g := g.next hb
      have gp := gp.next hb
      have hB := hB.trans (hb.mono hB.size)
      have k0 := g.cell 0
      have k1 := g.cell 1
      have p0 := gp.cell 0
      have p1 := gp.cell 1
      clear hb
      go_wp2_with fail
      refine (PC.out _ ((h.below hB).more hB.size) ((h'.below hB).more hB.size)).mono ?_
      rintro e wn ⟨A1, c1, rfl, o1, hb⟩
      have g := g.next hb
      have gp := gp.next hb
      have hB := hB.trans (hb.mono hB.size)
      have k0 := g.cell 0
      have k1 := g.cell 1
      have p0 := gp.cell 0
      have p1 := gp.cell 1
      clear hb
      go_wp2_with fail
      refine (QC.out _ ((h.below hB).more hB.size) ((h'.below hB).more hB.size)).mono ?_
      rintro e wn ⟨A2, c2, rfl, o2, hb⟩
      have o1 := o1.next hb
      have g := g.next hb
      have gp := gp.next hb
      have hB := hB.trans (hb.mono hB.size)
      have k0 := g.cell 0
      have k1 := g.cell 1
      have p0 := gp.cell 0
      have p1 := gp.cell 1
      clear hb
      go_wp2_with fail
      refine (AW.out _).mono ?_
      rintro e wn ⟨rfl, hb⟩
      have o1 := o1.next hb
      have o2 := o2.next hb
      have g := g.next hb
      have gp := gp.next hb
      have hB := hB.trans (hb.mono hB.size)
      have k0 := g.cell 0
      have k1 := g.cell 1
      have p0 := gp.cell 0
      have p1 := gp.cell 1
      clear hb
      go_wp2
      go_ret
      exact ⟨rfl, hB⟩
  · have hf' : few13 n es xs.length = false := by simpa using hf
    rw [hf'] at FC
    clear hf hf' VC
    go_enter Try.func4, Try.ntmps4
    go_wp2_with fail
    try rw [HW0.out]
    refine (FC.out _ ((h.below hB).more hB.size)).mono ?_
    rintro e wn ⟨rfl, hb⟩
    have g := g.next hb
    have gp := gp.next hb
    have hB := hB.trans (hb.mono hB.size)
    have k0 := g.cell 0
    have k1 := g.cell 1
    have p0 := gp.cell 0
    have p1 := gp.cell 1
    clear hb
    go_wp2_with fail
    refine (AW.out _).mono ?_
    rintro e wn ⟨rfl, hb⟩
    have g := g.next hb
    have gp := gp.next hb
    have hB := hB.trans (hb.mono hB.size)
    have k0 := g.cell 0
    have k1 := g.cell 1
    have p0 := gp.cell 0
    have p1 := gp.cell 1
    clear hb
    go_wp2
    go_ret
    exact ⟨rfl, hB⟩


namespace lawTreeWalks
open Go.ChangeShapes Go.WideShapes Go.ChangeAt Go.RowKit
set_option linter.unusedVariables false
set_option maxRecDepth 100000 in
theorem lifted (os : Os) (started : os.Started) (H : Type) (enc : TypeId × Value → H) :
    ReturnsInHanded {} Try.checked os 4 .any (Rows.treeWalksSpec.pre6 enc Try.prog Try.f4 Rows.treeWalksRow.domain false) (Rows.treeWalksSpec.post enc Try.prog Try.f4 false true false false) := by
  refine returnsInHanded_of_change (C := Try.checked) own started (by kernel_rfl) Try.func4
    (ChangeSpec.witness6 (enc := enc) (C := Try.checked) false ⟨#[], #[.agg #[.int .i64 0, .slice none 0 0], .slice none 0 0, .agg #[.int .i64 0, .int .i64 0]], []⟩ 8 (by kernel_rfl) (by kernel_rfl) (by kernel_rfl) (by kernel_rfl)) ?_
  intro W base args ds gs before hval0 hW hcnd _
  have hval : ∀ (j : Nat) t v, Try.f4.params[j]? = some t → args[j]? = some v → Value.okWide Try.prog W .any base t v := hval0
  have hW' := hW
  obtain ⟨p, q, hA0, hV, rfl, hfz, hnd⟩ := hW
  have hA : DataW.TrodAll enc Try.prog W 0 (fun _ => true) true Try.f4.params.toList args.toList ds p := hA0
  rw [Try.params4] at hA hval
  obtain ⟨v0, vs0, d0, ds0, p0, q0, hargs, rfl, rfl, h0, r0⟩ := trodAll_cons hA
  obtain ⟨v1, vs1, d1, ds1, p1, q1, rfl, rfl, rfl, h1, r1⟩ := trodAll_cons r0
  obtain ⟨v2, vs2, d2, ds2, p2, q2, rfl, rfl, rfl, h2, r2⟩ := trodAll_cons r1
  obtain ⟨rfl, rfl, rfl⟩ := trodAll_nil r2
  obtain rfl : args = #[v0, v1, v2] := by cases args; simp_all
  obtain ⟨rfl, rfl⟩ := trodVars_none hV
  obtain ⟨cs0, rfl, _⟩ := okWide_struct Try.underlying24 (hval 0 24 v0 rfl rfl)
  have k0 := h0
  have lt0 : ∀ x ∈ p0, x.block < W.heap.size := by obtain ⟨m, hm⟩ := k0; exact DataW.trod_lt m _ _ _ hm
  obtain ⟨_, hf0⟩ := h0
  obtain ⟨n0, a0, cap0, xs0, hcs0, hm0, hr0, hw0⟩ := open_graph hf0
  obtain rfl : cs0 = #[.int .i64 n0, .slice a0 xs0.length cap0] := Array.toList_inj.1 hcs0
  obtain ⟨a1, len1, cap1, rfl⟩ := okWide_slice Try.underlying25 (hval 1 25 v1 rfl rfl)
  have k1 := h1
  have lt1 : ∀ x ∈ p1, x.block < W.heap.size := by obtain ⟨m, hm⟩ := k1; exact DataW.trod_lt m _ _ _ hm
  obtain ⟨z1, w1⟩ : ∃ zs, IsRow .i64 W a1 len1 cap1 zs := by
    obtain ⟨fuel, hf⟩ := h1
    rcases open_ints Try.underlying25 Try.underlying3 (by kernel_rfl) hf with ⟨hcs, _⟩ | ⟨x, l, c, zs, hcs, _, hl, hm, hz, _, hcell, hwz⟩
    · simp [Value.cells] at hcs
      obtain ⟨rfl, rfl, rfl⟩ := hcs
      exact ⟨[], .inl ⟨rfl, rfl, rfl, rfl⟩⟩
    · simp [Value.cells] at hcs
      obtain ⟨rfl, rfl, rfl⟩ := hcs
      exact ⟨zs, .inr ⟨_, rfl, hl, hm, by simpa using hz, hcell, hwz⟩⟩
  obtain ⟨xs1, rfl, hm1, hr1, hw1⟩ := w1.reads
  obtain ⟨cs2, rfl, _⟩ := okWide_array Try.underlying31 (hval 2 31 v2 rfl rfl)
  have k2 := h2
  have lt2 : ∀ x ∈ p2, x.block < W.heap.size := by obtain ⟨m, hm⟩ := k2; exact DataW.trod_lt m _ _ _ hm
  obtain ⟨_, hf2⟩ := h2
  obtain ⟨n2, a2, hcs2, hm2, hw2⟩ := open_pair hf2
  obtain rfl : cs2 = #[.int .i64 n2, .int .i64 a2] := Array.toList_inj.1 hcs2
  clear hA0 hval0
  refine (treeWalks_walk W n0 a0 cap0 xs0 hm0 hw0 hr0 a1 cap1 xs1 hm1 hw1 hr1 n2 a2 hm2 hw2).mono fun e W' ⟨he, bel⟩ => ?_
  subst he
  exact ⟨_, rfl, _, _, _, [], _, [], hW', trodAll_mk1 (shut_bool Try.underlying4 _), (trodAll_cons_mk (Below.trod laidOut (by kernel_rfl) (of_decide_eq_true (by kernel_rfl)) k0 bel lt0) (trodAll_cons_mk (Below.trod laidOut (by kernel_rfl) (of_decide_eq_true (by kernel_rfl)) k1 bel lt1) (trodAll_cons_mk (Below.trod laidOut (by kernel_rfl) (of_decide_eq_true (by kernel_rfl)) k2 bel lt2) trodAll_mk0))), rfl, bel.frame _, fun h => by cases h⟩

theorem over : Rows.treeWalksRow.holds Try.pinned (OpenSpec.ofChange Rows.treeWalksSpec) :=
  OpenClaim.holds_of_wide 4 Try.f4 rfl rfl rfl rfl rfl rfl rfl ⟨rfl, rfl, rfl, rfl, rfl⟩ rfl rfl rfl rfl rfl (by kernel_rfl) Try.func4 (by kernel_rfl)
    (of_decide_eq_true (by kernel_rfl)) (by unfold Func.isWrapper; first | (rw [if_pos (by decide +kernel)]; kernel_rfl) | (rw [if_neg (by decide +kernel)]; exact ⟨rfl, rfl⟩))
    (fun os started H enc _ => lifted os started H enc)

/-- For every graph, list and pair TreeWalks answers true. -/
theorem proved : Rows.TreeWalksSaid := over
#print axioms proved
end lawTreeWalks
end Go.Proofs.Ytepmfbgmkfkmkaa
