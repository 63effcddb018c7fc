/-
  For every graph, list of single edges and pair of bytes the law TreePaths answers true: the path between two vertices follows the parents, and backwards it is the path back. There are no conditions.
-/
import Derived.Test.YtepmfbgmkfkmkaaK22
import Derived.Test.YtepmfbgmkfkmkaaK23
import Derived.Test.YtepmfbgmkfkmkaaK27
import Derived.Test.YtepmfbgmkfkmkaaK28
import Derived.Test.YtepmfbgmkfkmkaaK18
namespace Go.Proofs.Ytepmfbgmkfkmkaa
open Go.RowKit

set_option maxRecDepth 100000 in
set_option maxHeartbeats 8000000 in
theorem treePaths_walk (w : World) (n : Int) (A : Option Addr) (c : Nat) (es : List E3) (_hm : es.length ≤ maxLen) (_hw : (Lit.int .i64 n).wf = true) (h : Reads w w.heap.size 3 A es.length (edgeCells es))
    (B : Option Addr) (d : Nat) (xs : List Int) (_hm' : xs.length ≤ maxLen) (_hw' : ∀ x ∈ xs, (Lit.int .i64 x).wf = true) (h' : Reads w w.heap.size 1 B xs.length (ints xs)) (a b : Int) (ha : (Lit.int .u8 a).wf = true) (hb : (Lit.int .u8 b).wf = true) :
    Calls Try.prog 7 #[.agg #[.int .i64 n, .slice A es.length c], .slice B xs.length d, .agg #[.int .u8 a, .int .u8 b]] w fun e w' => e = .returned (.bool true) ∧ Below w.heap.size w w' := by
  have FC := Lib.hid (fun w h => few13_any n A c es B xs.length d w h)
  have AW := Lib.hid (fun w => awake13_any w)
  obtain ⟨W0, hW0⟩ : ∃ W0, (w.alloc (.cells #[.int .i64 n, .slice A es.length c] 24)).alloc (.cells #[.int .u8 a, .int .u8 b] 44) = W0 := ⟨_, rfl⟩
  have g : Blk W0 w.heap.size 24 #[.int .i64 n, .slice A es.length c] := by rw [← hW0]; exact (Blk.new w 24 #[.int .i64 n, .slice A es.length c]).alloc _
  have gp : Blk W0 (w.heap.size + 1) 44 #[.int .u8 a, .int .u8 b] := by rw [← hW0]; exact Blk.newAt (by simp)
  have hB : Below w.heap.size w W0 := by rw [← hW0]; exact ((Below.refl _ _).alloc (Nat.le_refl _) _).alloc (by simp) _
  have HW0 := Lib.hid hW0
  clear hW0
  have k0 := g.cell 0
  have k1 := g.cell 1
  have p0 := gp.cell 0
  have p1 := gp.cell 1
  by_cases hf : few13 n es xs.length = true
  · obtain ⟨hlen, hxl, _⟩ := few13_parts hf
    rw [hf] at FC
    have RC := Lib.hid (fun w h h' => rtcheck_any n A c es (by omega) B d xs (by omega) w h h')
    clear hf
    by_cases hz : treeErr n es xs = 0
    · obtain ⟨m, t, rfl, hxt, hR⟩ := treeR_of hz
      have hm12 := hR.hi
      have hnl := nI_length t
      rw [hz] at RC
      have hm1 := hR.lo
      have hav : 0 ≤ a ∧ a ≤ 255 := by
        have h2 : IntKind.u8.min ≤ a ∧ a ≤ IntKind.u8.max := by simpa [Lit.wf] using ha
        exact h2
      have hbv : 0 ≤ b ∧ b ≤ 255 := by
        have h2 : IntKind.u8.min ≤ b ∧ b ≤ IntKind.u8.max := by simpa [Lit.wf] using hb
        exact h2
      obtain ⟨a, rfl⟩ := Int.eq_ofNat_of_zero_le hav.1
      obtain ⟨b, rfl⟩ := Int.eq_ofNat_of_zero_le hbv.1
      have hav := hav.2
      have hbv := hbv.2
      have hma : (a : Int).tmod (m : Int) = ((a % m : Nat) : Int) := by rw [Int.tmod_eq_emod_of_nonneg (by omega)]; rfl
      have hmb : (b : Int).tmod (m : Int) = ((b % m : Nat) : Int) := by rw [Int.tmod_eq_emod_of_nonneg (by omega)]; rfl
      have hpm : a % m < m := Nat.mod_lt _ (by omega)
      have hqm : b % m < m := Nat.mod_lt _ (by omega)
      obtain ⟨p, hp⟩ : ∃ p, a % m = p := ⟨_, rfl⟩
      obtain ⟨q, hq⟩ : ∃ q, b % m = q := ⟨_, rfl⟩
      rw [hp] at hma hpm
      rw [hq] at hmb hqm
      clear hp hq ha hb
      have hvp : vertB m p = true := vertB_true.2 ⟨by omega, by omega⟩
      have hvq : vertB m q = true := vertB_true.2 ⟨by omega, by omega⟩
      have hcn := hR.cn hpm hqm
      have hback : pathL (endsL es) t q p = (pathL (endsL es) t p q).reverse := path_back hR.hT hcn
      have HPT : Hid ((pathL (endsL es) t p q).length ≤ xs.length) := by rw [hxt, hnl]; exact path_len hR.hT hcn
      have PC1 : Hid (∀ (w : World) (h : Reads w w.heap.size 3 A es.length (edgeCells es)) (h' : Reads w w.heap.size 1 B xs.length (ints xs)), Calls Try.prog 17 #[.agg #[.int .i64 m, .slice A es.length c], .slice B xs.length d, .int .i64 p, .int .i64 q] w fun e w' => ∃ A' c', e = .returned (.tuple #[.slice A' (pathL (endsL es) t p q).length c', .int .i64 0]) ∧ Reads w' w'.heap.size 1 A' (pathL (endsL es) t p q).length (ints (nI (pathL (endsL es) t p q))) ∧ Below w.heap.size w w') := by
        intro w h h'
        have hE : pathE m es xs p q = (nI (pathL (endsL es) t p q), 0) := by rw [hxt]; unfold pathE; rw [if_neg (fun hc => hc (by rw [← hxt]; exact hz)), hvp, hvq, toN_nI, Int.toNat_natCast, Int.toNat_natCast]; rfl
        have := tpath_any m A c es (by omega) B d xs (by omega) p q w h h'
        rw [hE] at this
        refine this.mono ?_
        rintro e w' ⟨A', c', rfl, o1, hb⟩
        have o1 := o1.reads
        dsimp only at o1 ⊢
        rw [nI_length] at o1 ⊢
        exact ⟨A', c', rfl, o1, hb⟩
      have PC2 : Hid (∀ (w : World) (h : Reads w w.heap.size 3 A es.length (edgeCells es)) (h' : Reads w w.heap.size 1 B xs.length (ints xs)), Calls Try.prog 17 #[.agg #[.int .i64 m, .slice A es.length c], .slice B xs.length d, .int .i64 q, .int .i64 p] w fun e w' => ∃ A' c', e = .returned (.tuple #[.slice A' (pathL (endsL es) t p q).length c', .int .i64 0]) ∧ Reads w' w'.heap.size 1 A' (pathL (endsL es) t p q).length (ints (nI (pathL (endsL es) t p q).reverse)) ∧ Below w.heap.size w w') := by
        intro w h h'
        have hE : pathE m es xs q p = (nI (pathL (endsL es) t p q).reverse, 0) := by rw [hxt]; unfold pathE; rw [if_neg (fun hc => hc (by rw [← hxt]; exact hz)), hvp, hvq, toN_nI, Int.toNat_natCast, Int.toNat_natCast, hback]; rfl
        have := tpath_any m A c es (by omega) B d xs (by omega) q p w h h'
        rw [hE] at this
        refine this.mono ?_
        rintro e w' ⟨A', c', rfl, o1, hb⟩
        have o1 := o1.reads
        dsimp only at o1 ⊢
        rw [nI_length, List.length_reverse] at o1 ⊢
        exact ⟨A', c', rfl, o1, hb⟩
      have hql : (parentsL m (endsL es) t q).length = m := parentsL_length
      have QC : Hid (∀ (w : World) (h : Reads w w.heap.size 3 A es.length (edgeCells es)) (h' : Reads w w.heap.size 1 B xs.length (ints xs)), Calls Try.prog 18 #[.agg #[.int .i64 m, .slice A es.length c], .slice B xs.length d, .int .i64 q] w fun e w' => ∃ A' c', e = .returned (.tuple #[.slice A' m c', .int .i64 0]) ∧ Reads w' w'.heap.size 1 A' m (ints (parentsL m (endsL es) t q)) ∧ Below w.heap.size w w') := by
        intro w h h'
        have hE : parentsE m es xs q = (parentsL m (endsL es) t q, 0) := by rw [hxt]; unfold parentsE; rw [if_neg (fun hc => hc (by rw [← hxt]; exact hz)), if_pos hvq, toN_nI, Int.toNat_natCast, Int.toNat_natCast]
        have := tparents_any m A c es (by omega) B d xs (by omega) q w h h'
        rw [hE] at this
        refine this.mono ?_
        rintro e w' ⟨A', c', rfl, o1, hb⟩
        have o1 := o1.reads
        dsimp only at o1 ⊢
        rw [hql] at o1 ⊢
        exact ⟨A', c', rfl, o1, hb⟩
      have EC := Lib.hid (fun (w : World) (h : Reads w w.heap.size 3 A es.length (edgeCells es)) => rendsC_any m A c es (by omega) m hR.hG.ok w h)
      have HST : Hid (∀ j x, x < m → pathL (endsL es) t x q = (pathL (endsL es) t p q).drop j → j < (pathL (endsL es) t p q).length → ∃ e : Nat, (pathL (endsL es) t p q)[j]? = some e ∧ e < (endsL es).length ∧ (parentsL m (endsL es) t q)[x]? = some (e : Int) ∧ oth ((endsL es).getD e (0, 0)) x < m ∧ Inc (endsL es) e x ∧ pathL (endsL es) t (oth ((endsL es).getD e (0, 0)) x) q = (pathL (endsL es) t p q).drop (j + 1)) := by
        intro j x hx hpx hj
        obtain ⟨P, hP⟩ : ∃ P, pathL (endsL es) t p q = P := ⟨_, rfl⟩
        rw [hP] at hpx hj ⊢
        have hne : x ≠ q := by
          rintro rfl
          rw [pathL_self] at hpx
          have := congrArg List.length hpx
          rw [List.length_drop] at this
          simp at this; omega
        obtain ⟨e, k1, k2, k3, k4⟩ := parE_some hR.hT (hR.cn hx hqm) hne
        have hs := pathL_step hR.hT (hR.cn hx hqm) k2 k3 k4
        rw [hpx] at hs
        refine ⟨e, ?_, hR.hT.lt e k2, ?_, (inc_cn k2 k3).lt (bd_pk hR.hT.bd hR.hT.lt) hx, k3, ?_⟩
        · have := congrArg (fun l => l[0]?) hs
          simpa using this
        · unfold parentsL
          rw [List.getElem?_map, List.getElem?_range hx]
          simp only [Option.map_some, if_neg hne, k1]
        · have := congrArg List.tail hs
          rw [List.tail_drop] at this
          exact this.symm
      have HEND : Hid (∀ x, x < m → pathL (endsL es) t x q = [] → x = q) := by
        intro x hx hpx
        refine Classical.byContradiction fun hne => ?_
        obtain ⟨e, k1, k2, k3, k4⟩ := parE_some hR.hT (hR.cn hx hqm) hne
        rw [pathL_step hR.hT (hR.cn hx hqm) k2 k3 k4] at hpx
        cases hpx
      have hpq : (parentsL m (endsL es) t q)[q]? = some (-1) := by
        unfold parentsL
        rw [List.getElem?_map, List.getElem?_range hqm]
        simp
      have hpl : (pathL (endsL es) t p q).length ≤ 12 := by have := path_len hR.hT hcn; have := hR.len; omega
      obtain ⟨E, hE⟩ : ∃ E, endsL es = E := ⟨_, rfl⟩
      rw [hE] at PC1 PC2 QC EC HST HEND hql hpl hpq HPT
      have hEb : Hid (∀ e ∈ E, e.1 < m ∧ e.2 < m) := by rw [← hE]; exact hR.hT.bd
      obtain ⟨Q, hQ⟩ : ∃ Q, parentsL m E t q = Q := ⟨_, rfl⟩
      rw [hQ] at QC HST hpq hql
      obtain ⟨P, hP⟩ : ∃ P, pathL E t p q = P := ⟨_, rfl⟩
      have HP0 := Lib.hid hP
      rw [hP] at PC1 PC2 HST hpl HPT
      have hlp : (nI P.reverse).length = P.length := by rw [nI_length, List.length_reverse]
      have CC : Hid (∀ (A : Option Addr) (c : Nat) (w : World) (_ : Reads w w.heap.size 1 A P.length (ints (nI P.reverse))), Calls Try.prog 29 #[.slice A P.length c] w fun e w' => ∃ A' c', e = .returned (.slice A' P.length c') ∧ OwnI w' w.heap.size A' c' (nI P.reverse) ∧ Below w.heap.size w w') := by
        intro A c w h
        have := clone_any A c (nI P.reverse) (by omega) w (by rw [hlp]; exact h)
        rw [hlp] at this
        exact this
      have RV : Hid (∀ (A : Option Addr) (c : Nat) (base : Nat) (w : World) (_ : OwnI w base A c (nI P.reverse)), Calls Try.prog 30 #[.slice A P.length c] w fun e w' => e = .returned (.tuple #[]) ∧ Reads w' w'.heap.size 1 A P.length (ints (nI P)) ∧ Below base w w') := by
        intro A c base w h
        have := reverse_any A c (nI P.reverse) (by omega) base w h
        rw [hlp] at this
        refine this.mono ?_
        rintro e w' ⟨he, o, hb⟩
        have o := o.reads
        rw [List.length_reverse, hlp] at o
        have hr : (nI P.reverse).reverse = nI P := by simp [nI]
        rw [hr] at o
        exact ⟨he, o, hb⟩
      have EQ : Hid (∀ (A : Option Addr) (c : Nat) (B : Option Addr) (d : Nat) (w : World) (_ : Reads w w.heap.size 1 A P.length (ints (nI P))) (_ : Reads w w.heap.size 1 B P.length (ints (nI P))), Calls Try.prog 19 #[.slice A P.length c, .slice B P.length d] w fun e w' => e = .returned (.bool true) ∧ Below w.heap.size w w') := by
        intro A c B d w h h'
        have := iequal_any A c (nI P) B d (nI P) (by rw [nI_length]; omega) w (by rw [nI_length]; exact h) (by rw [nI_length]; exact h')
        rw [nI_length, decide_eq_true rfl] at this
        exact this
      have HQL := Lib.hid hql
      have HPQ := Lib.hid hpq
      have hpt : decide ((xs.length : Int) < (P.length : Int)) = false := by have := HPT.out; exact decide_eq_false (by omega)
      have hptn : decide (xs.length < P.length) = false := by have := HPT.out; exact decide_eq_false (by omega)
      clear hz hR hnl hxt hvp hvq hback hE hQ hP hql hpq hlp hcn hxl hlen
      go_enter Try.func7, Try.ntmps7
      go_wp2_with fail
      try rw [HW0.out]
      refine (FC.out _ ((h.below hB).more hB.size)).mono ?_
      rintro e wn ⟨rfl, hb⟩
      have g := g.next hb
      have gp := gp.next hb
      have hB := hB.trans (hb.mono hB.size)
      have k0 := g.cell 0
      have k1 := g.cell 1
      have p0 := gp.cell 0
      have p1 := gp.cell 1
      clear hb
      go_wp2_with fail
      refine (RC.out _ ((h.below hB).more hB.size) ((h'.below hB).more hB.size)).mono ?_
      rintro e wn ⟨rfl, hb⟩
      have g := g.next hb
      have gp := gp.next hb
      have hB := hB.trans (hb.mono hB.size)
      have k0 := g.cell 0
      have k1 := g.cell 1
      have p0 := gp.cell 0
      have p1 := gp.cell 1
      clear hb
      go_wp2_with fail
      have hcd : ∀ x : Nat, x ≤ 255 → IntKind.i64.wrap (x : Int) = (x : Int) := fun x hx => IntWalk.i64_in _ (by omega)
      have hc1 := hcd a (by omega)
      have hc2 := hcd b (by omega)
      clear hcd
      have hmz : ((m : Int) != 0) = true := by simp; omega
      have hmz2 : ((m : Int) == 0) = false := by simp; omega
      go_quiet (fail)
      clear hc1 hc2 hma hmb
      have g := g.drewN nq
      have gp := gp.drewN nq
      have hB : Below w.heap.size w (wn.drewN nq) := ⟨hB.os, hB.tape, hB.output, hB.size, hB.block⟩
      have k0 := g.cell 0
      have k1 := g.cell 1
      have p0 := gp.cell 0
      have p1 := gp.cell 1
      go_wp2_with fail
      refine (PC1.out _ ((h.below hB).more hB.size) ((h'.below hB).more hB.size)).mono ?_
      rintro e wn ⟨A1, c1, rfl, o1, hb⟩
      have g := g.next hb
      have gp := gp.next hb
      have hB := hB.trans (hb.mono hB.size)
      have k0 := g.cell 0
      have k1 := g.cell 1
      have p0 := gp.cell 0
      have p1 := gp.cell 1
      clear hb
      go_wp2_with fail
      refine (PC2.out _ ((h.below hB).more hB.size) ((h'.below hB).more hB.size)).mono ?_
      rintro e wn ⟨A2, c2, rfl, o2, hb⟩
      have o1 := o1.next hb
      have g := g.next hb
      have gp := gp.next hb
      have hB := hB.trans (hb.mono hB.size)
      have k0 := g.cell 0
      have k1 := g.cell 1
      have p0 := gp.cell 0
      have p1 := gp.cell 1
      clear hb
      go_wp2_with fail
      refine (QC.out _ ((h.below hB).more hB.size) ((h'.below hB).more hB.size)).mono ?_
      rintro e wn ⟨A3, c3, rfl, o3, hb⟩
      have o1 := o1.next hb
      have o2 := o2.next hb
      have g := g.next hb
      have gp := gp.next hb
      have hB := hB.trans (hb.mono hB.size)
      have k0 := g.cell 0
      have k1 := g.cell 1
      have p0 := gp.cell 0
      have p1 := gp.cell 1
      clear hb
      obtain ⟨b3, f3, e3, hb3, q3⟩ := o3.at_ (ints_at HPQ.out)
      subst e3
      have hqi : (q : Int) < (m : Int) := by omega
      go_wp2_with fail
      refine (EC.out _ ((h.below hB).more hB.size)).mono ?_
      rintro e wn ⟨A4, c4, rfl, o4, hb⟩
      have o1 := o1.next hb
      have o2 := o2.next hb
      have o3 := o3.next hb
      have g := g.next hb
      have gp := gp.next hb
      have hB := hB.trans (hb.mono hB.size)
      have k0 := g.cell 0
      have k1 := g.cell 1
      have p0 := gp.cell 0
      have p1 := gp.cell 1
      clear hb
      have o4 := OwnQ.reads o4
      have HPS := Lib.hid HP0.out
      obtain ⟨wo, rfl⟩ : ∃ wo : World, wo = wn := ⟨_, rfl⟩
      have hpt2 := hpt
      clear hpt hptn
      go_wp2_with fail
      go_loopw [7, 17, 96] (fun v _ i wr => ∃ (j x : Nat), v = .int .i64 x ∧ i = .int .i64 j ∧ j ≤ P.length ∧ x < m ∧ Hid (pathL E t x q = P.drop j) ∧ Hid (∃ nq, wr = wo.drewN nq)) (fun _ _ i _ => P.length - (intOf i).toNat)
      case atStart => exact ⟨0, p, rfl, rfl, by omega, hpm, by rw [HPS.out]; rfl, 0, rfl⟩
      case round =>
        obtain ⟨j, x, rfl, rfl, hj, hx, HX, HD⟩ := hrel
        obtain ⟨n0, hn0⟩ := HD.out
        subst hn0
        by_cases hlt : j < P.length
        · obtain ⟨e, hPe, heE, hQe, hom, hinc, hnext⟩ := HST.out j x hx HX.out hlt
          have HN := Lib.hid hnext
          obtain ⟨b1, f1, e1, hb1, q1⟩ := o1.at_ (ints_at (nI_at hPe))
          subst e1
          obtain ⟨b5, f5, e5, hb5, q5⟩ := o3.at_ (ints_at hQe)
          injection e5 with e5
          injection e5 with i1 i2
          subst i1 i2
          obtain ⟨bE, oE, hAE, hbE, z0, z1⟩ := o4.pairAt (getD_some heE)
          subst hAE
          have hbd := hEb.out _ (List.mem_of_getElem? (getD_some heE))
          unfold Inc at hinc
          obtain ⟨⟨y1, y2⟩, hpq⟩ : ∃ z, E.getD e (0, 0) = z := ⟨_, rfl⟩
          rw [hpq] at z0 z1 hom HN hinc hbd
          dsimp only at z0 z1 hinc hbd
          have hxi : (x : Int) < (m : Int) := by omega
          have hei : (e : Int) < (E.length : Int) := by omega
          have hji : (j : Int) < (P.length : Int) := by omega
          have he0 : decide ((e : Int) < 0) = false := decide_eq_false (by omega)
          clear hPe hQe hnext hpq hpt2
          rcases Nat.decEq y1 x with hyx | hyx
          · have hy2 : y2 = x := by rcases hinc with h | h <;> omega
            have hoth : oth (y1, y2) x = y1 := by unfold oth; rw [if_neg hyx]
            rw [hoth] at hom HN
            subst hy2
            have hq2 : ((y1 : Int) != (y2 : Int)) = true := bne_iff_ne.2 (by omega)
            clear hoth hinc
            have hw1 : IntKind.i64.wrap ((y1 : Int) + (y2 : Int)) = (y1 : Int) + (y2 : Int) := IntWalk.i64_in _ (by omega)
            have hw2 : IntKind.i64.wrap ((y1 : Int) + (y2 : Int) - (y2 : Int)) = (y1 : Int) := by rw [IntWalk.i64_in _ (by omega)]; omega
            have hw3 : IntKind.i64.wrap (y1 : Int) = (y1 : Int) := IntWalk.i64_in _ (by omega)
            go_wp2_with fail
            go_quiet (fail)
            clear hw1 hw2 hw3
            go_wp2
            go_roundw
            case rel => exact ⟨j + 1, y1, rfl, by go_num, by omega, hom, HN, _, rfl⟩
            case measure => simp [intOf]; omega
          · subst hyx
            have hoth : oth (y1, y2) y1 = y2 := by unfold oth; rw [if_pos rfl]
            rw [hoth] at hom HN
            clear hoth hinc
            have hw1 : IntKind.i64.wrap ((y1 : Int) + (y2 : Int)) = (y1 : Int) + (y2 : Int) := IntWalk.i64_in _ (by omega)
            have hw2 : IntKind.i64.wrap ((y1 : Int) + (y2 : Int) - (y1 : Int)) = (y2 : Int) := by rw [IntWalk.i64_in _ (by omega)]; omega
            have hw3 : IntKind.i64.wrap (y2 : Int) = (y2 : Int) := IntWalk.i64_in _ (by omega)
            go_wp2_with fail
            go_quiet (fail)
            clear hw1 hw2 hw3
            go_wp2
            go_roundw
            case rel => exact ⟨j + 1, y2, rfl, by go_num, by omega, hom, HN, _, rfl⟩
            case measure => simp [intOf]; omega
        · obtain rfl : j = P.length := by omega
          have hxq := HEND.out x hx (by rw [HX.out]; exact List.drop_length)
          subst hxq
          have o1 := o1.drewN n0
          have o2 := o2.drewN n0
          have g := g.drewN n0
          have gp := gp.drewN n0
          have hB : Below w.heap.size w (wo.drewN n0) := ⟨hB.os, hB.tape, hB.output, hB.size, hB.block⟩
          have hW : Below (wo.drewN n0).heap.size (wo.drewN n0) (wo.drewN n0) := Below.refl _ _
          clear HST HEND PC1 PC2 QC EC RC FC o3 o4
          go_wp2_with fail
          refine (CC.out _ _ _ o2).mono ?_
          rintro e w5 ⟨A5, c5, rfl, o5, hb5⟩
          have hB5 := hB.trans (hb5.mono hB.size)
          go_wp2_with fail
          refine (RV.out _ _ _ _ o5).mono ?_
          rintro e w6 ⟨rfl, o6, hb6⟩
          have hb56 := hb5.trans hb6
          have o1 := o1.next hb56
          have hB := hB.trans (hb56.mono hB.size)
          clear hb5 hb6 hb56 hB5 o2 o5
          go_wp2_with fail
          refine (EQ.out _ _ _ _ _ o1 o6).mono ?_
          rintro e w7 ⟨rfl, hb⟩
          have hB := hB.trans (hb.mono hB.size)
          clear hb
          go_wp2_with fail
          refine (AW.out _).mono ?_
          rintro e w8 ⟨rfl, hb⟩
          have hB := hB.trans (hb.mono hB.size)
          clear hb
          go_wp2
          go_ret
          exact ⟨rfl, hB⟩
    · obtain ⟨z, hzz⟩ : ∃ z, treeErr n es xs = z := ⟨_, rfl⟩
      rw [hzz] at RC hz
      have hz2 : (z != 0) = true := by simpa using hz
      clear hzz hz hxl hlen
      go_enter Try.func7, Try.ntmps7
      go_wp2_with fail
      try rw [HW0.out]
      refine (FC.out _ ((h.below hB).more hB.size)).mono ?_
      rintro e wn ⟨rfl, hb⟩
      have g := g.next hb
      have gp := gp.next hb
      have hB := hB.trans (hb.mono hB.size)
      have k0 := g.cell 0
      have k1 := g.cell 1
      have p0 := gp.cell 0
      have p1 := gp.cell 1
      clear hb
      go_wp2_with fail
      refine (RC.out _ ((h.below hB).more hB.size) ((h'.below hB).more hB.size)).mono ?_
      rintro e wn ⟨rfl, hb⟩
      have g := g.next hb
      have gp := gp.next hb
      have hB := hB.trans (hb.mono hB.size)
      have k0 := g.cell 0
      have k1 := g.cell 1
      have p0 := gp.cell 0
      have p1 := gp.cell 1
      clear hb
      go_wp2_with fail
      refine (AW.out _).mono ?_
      rintro e wn ⟨rfl, hb⟩
      have g := g.next hb
      have gp := gp.next hb
      have hB := hB.trans (hb.mono hB.size)
      have k0 := g.cell 0
      have k1 := g.cell 1
      have p0 := gp.cell 0
      have p1 := gp.cell 1
      clear hb
      go_wp2
      go_ret
      exact ⟨rfl, hB⟩
  · have hf' : few13 n es xs.length = false := by simpa using hf
    rw [hf'] at FC
    clear hf hf'
    go_enter Try.func7, Try.ntmps7
    go_wp2_with fail
    try rw [HW0.out]
    refine (FC.out _ ((h.below hB).more hB.size)).mono ?_
    rintro e wn ⟨rfl, hb⟩
    have g := g.next hb
    have gp := gp.next hb
    have hB := hB.trans (hb.mono hB.size)
    have k0 := g.cell 0
    have k1 := g.cell 1
    have p0 := gp.cell 0
    have p1 := gp.cell 1
    clear hb
    go_wp2_with fail
    refine (AW.out _).mono ?_
    rintro e wn ⟨rfl, hb⟩
    have g := g.next hb
    have gp := gp.next hb
    have hB := hB.trans (hb.mono hB.size)
    have k0 := g.cell 0
    have k1 := g.cell 1
    have p0 := gp.cell 0
    have p1 := gp.cell 1
    clear hb
    go_wp2
    go_ret
    exact ⟨rfl, hB⟩

namespace lawTreePaths
open Go.ChangeShapes Go.WideShapes Go.ChangeAt Go.RowKit
set_option linter.unusedVariables false
set_option maxRecDepth 100000 in
theorem lifted (os : Os) (started : os.Started) (H : Type) (enc : TypeId × Value → H) :
    ReturnsInHanded {} Try.checked os 7 .any (Rows.treePathsSpec.pre6 enc Try.prog Try.f7 Rows.treePathsRow.domain false) (Rows.treePathsSpec.post enc Try.prog Try.f7 false true false false) := by
  refine returnsInHanded_of_change (C := Try.checked) own started (by kernel_rfl) Try.func7
    (ChangeSpec.witness6 (enc := enc) (C := Try.checked) false ⟨#[], #[.agg #[.int .i64 0, .slice none 0 0], .slice none 0 0, .agg #[.int .u8 0, .int .u8 0]], []⟩ 8 (by kernel_rfl) (by kernel_rfl) (by kernel_rfl) (by kernel_rfl)) ?_
  intro W base args ds gs before hval0 hW hcnd _
  have hval : ∀ (j : Nat) t v, Try.f7.params[j]? = some t → args[j]? = some v → Value.okWide Try.prog W .any base t v := hval0
  have hW' := hW
  obtain ⟨p, q, hA0, hV, rfl, hfz, hnd⟩ := hW
  have hA : DataW.TrodAll enc Try.prog W 0 (fun _ => true) true Try.f7.params.toList args.toList ds p := hA0
  rw [Try.params7] at hA hval
  obtain ⟨v0, vs0, d0, ds0, p0, q0, hargs, rfl, rfl, h0, r0⟩ := trodAll_cons hA
  obtain ⟨v1, vs1, d1, ds1, p1, q1, rfl, rfl, rfl, h1, r1⟩ := trodAll_cons r0
  obtain ⟨v2, vs2, d2, ds2, p2, q2, rfl, rfl, rfl, h2, r2⟩ := trodAll_cons r1
  obtain ⟨rfl, rfl, rfl⟩ := trodAll_nil r2
  obtain rfl : args = #[v0, v1, v2] := by cases args; simp_all
  obtain ⟨rfl, rfl⟩ := trodVars_none hV
  obtain ⟨cs0, rfl, _⟩ := okWide_struct Try.underlying24 (hval 0 24 v0 rfl rfl)
  have k0 := h0
  have lt0 : ∀ x ∈ p0, x.block < W.heap.size := by obtain ⟨m, hm⟩ := k0; exact DataW.trod_lt m _ _ _ hm
  obtain ⟨_, hf0⟩ := h0
  obtain ⟨n0, a0, cap0, xs0, hcs0, hm0, hr0, hw0⟩ := open_graph hf0
  obtain rfl : cs0 = #[.int .i64 n0, .slice a0 xs0.length cap0] := Array.toList_inj.1 hcs0
  obtain ⟨a1, len1, cap1, rfl⟩ := okWide_slice Try.underlying25 (hval 1 25 v1 rfl rfl)
  have k1 := h1
  have lt1 : ∀ x ∈ p1, x.block < W.heap.size := by obtain ⟨m, hm⟩ := k1; exact DataW.trod_lt m _ _ _ hm
  obtain ⟨z1, w1⟩ : ∃ zs, IsRow .i64 W a1 len1 cap1 zs := by
    obtain ⟨fuel, hf⟩ := h1
    rcases open_ints Try.underlying25 Try.underlying3 (by kernel_rfl) hf with ⟨hcs, _⟩ | ⟨x, l, c, zs, hcs, _, hl, hm, hz, _, hcell, hwz⟩
    · simp [Value.cells] at hcs
      obtain ⟨rfl, rfl, rfl⟩ := hcs
      exact ⟨[], .inl ⟨rfl, rfl, rfl, rfl⟩⟩
    · simp [Value.cells] at hcs
      obtain ⟨rfl, rfl, rfl⟩ := hcs
      exact ⟨zs, .inr ⟨_, rfl, hl, hm, by simpa using hz, hcell, hwz⟩⟩
  obtain ⟨xs1, rfl, hm1, hr1, hw1⟩ := w1.reads
  obtain ⟨cs2, rfl, _⟩ := okWide_array Try.underlying44 (hval 2 44 v2 rfl rfl)
  have k2 := h2
  have lt2 : ∀ x ∈ p2, x.block < W.heap.size := by obtain ⟨m, hm⟩ := k2; exact DataW.trod_lt m _ _ _ hm
  obtain ⟨_, hf2⟩ := h2
  obtain ⟨n2, a2, hcs2, hm2, hw2⟩ := open_pairu hf2
  obtain rfl : cs2 = #[.int .u8 n2, .int .u8 a2] := Array.toList_inj.1 hcs2
  clear hA0 hval0
  refine (treePaths_walk W n0 a0 cap0 xs0 hm0 hw0 hr0 a1 cap1 xs1 hm1 hw1 hr1 n2 a2 hm2 hw2).mono fun e W' ⟨he, bel⟩ => ?_
  subst he
  exact ⟨_, rfl, _, _, _, [], _, [], hW', trodAll_mk1 (shut_bool Try.underlying4 _), (trodAll_cons_mk (Below.trod laidOut (by kernel_rfl) (of_decide_eq_true (by kernel_rfl)) k0 bel lt0) (trodAll_cons_mk (Below.trod laidOut (by kernel_rfl) (of_decide_eq_true (by kernel_rfl)) k1 bel lt1) (trodAll_cons_mk (Below.trod laidOut (by kernel_rfl) (of_decide_eq_true (by kernel_rfl)) k2 bel lt2) trodAll_mk0))), rfl, bel.frame _, fun h => by cases h⟩

theorem over : Rows.treePathsRow.holds Try.pinned (OpenSpec.ofChange Rows.treePathsSpec) :=
  OpenClaim.holds_of_wide 7 Try.f7 rfl rfl rfl rfl rfl rfl rfl ⟨rfl, rfl, rfl, rfl, rfl⟩ rfl rfl rfl rfl rfl (by kernel_rfl) Try.func7 (by kernel_rfl)
    (of_decide_eq_true (by kernel_rfl)) (by unfold Func.isWrapper; first | (rw [if_pos (by decide +kernel)]; kernel_rfl) | (rw [if_neg (by decide +kernel)]; exact ⟨rfl, rfl⟩))
    (fun os started H enc _ => lifted os started H enc)

/-- For every graph, list of single edges and pair of bytes the law answers true: the path between two vertices follows the parents, and backwards it is the path back. -/
theorem proved : Rows.TreePathsSaid := over
#print axioms proved
end lawTreePaths
end Go.Proofs.Ytepmfbgmkfkmkaa
