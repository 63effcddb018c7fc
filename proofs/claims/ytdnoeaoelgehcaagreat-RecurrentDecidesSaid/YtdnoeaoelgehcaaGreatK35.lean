/-
  Texts of this claim, put together: DualE, EqF.
-/
import Derived.Test.YtdnoeaoelgehcaaGreatK34
import Derived.Test.YtdnoeaoelgehcaaGreatK13
import Derived.Test.YtdnoeaoelgehcaaGreatK30
import Derived.Test.YtdnoeaoelgehcaaGreatK31
import Derived.Test.YtdnoeaoelgehcaaGreatK06
import Derived.Test.YtdnoeaoelgehcaaGreatK01
import Derived.Test.YtdnoeaoelgehcaaGreatK04
import Derived.WalkKit
import Derived.BigRegion
/-! recurrent.Dual; ref24.Turned, Dual: the dual of a stable configuration. -/
namespace Go.Proofs.YtdnoeaoelgehcaaGreat
open Go.RowKit

theorem recE_len (n : Int) (es : List E3) (q : Int) (cs : List Int) : (recE n es q cs).2.1.length ≤ 12 := by
  unfold recE
  split
  · rename_i hz
    obtain ⟨hG, _, hq0, hqn, _⟩ := conf_zero (burn_zero hz).1
    have hhi := hG.hi
    have hlo := hG.lo
    split
    · rw [natI_length]
      have := nodup_len (recL_ok (n := n.toNat) (es := es) (cs := cs) (q := q.toNat) (by omega))
      omega
    · simp
  · simp
/-- What Dual returns. -/
def dulE (n : Int) (es : List E3) (q : Int) (cs : List Int) : List Int × Int := if burnErr n es q cs = 0 then (if stabTo es cs q.toNat n.toNat then (dulL n.toNat es cs q.toNat, 0) else ([], 15)) else ([], burnErr n es q cs)
theorem dulE_len (n : Int) (es : List E3) (q : Int) (cs : List Int) : (dulE n es q cs).1.length ≤ 12 := by
  unfold dulE
  split
  · rename_i hz
    obtain ⟨hG, _⟩ := conf_zero (burn_zero hz).1
    have := hG.hi
    split
    · show (dulL n.toNat es cs q.toNat).length ≤ 12
      rw [dulL_length]; omega
    · simp
  · simp
/-- A list less another one, as far as k. -/
def trnTo (n : Nat) (top cs : List Int) (k : Nat) : List Int := (List.range n).map fun v : Nat => if v < k then top.getD v 0 - cs.getD v 0 else top.getD v 0
theorem trnTo_length (n : Nat) (top cs : List Int) (k : Nat) : (trnTo n top cs k).length = n := by simp [trnTo]
theorem trnTo_zero {n : Nat} {top : List Int} (cs : List Int) (h : top.length = n) : trnTo n top cs 0 = top := by
  apply List.ext_getElem?
  intro i
  unfold trnTo
  by_cases hi : i < n
  · simp [hi, h]
  · simp [hi, h]
theorem trnTo_at {n v : Nat} {top cs : List Int} (hv : v < n) {x : Int} (hx : top[v]? = some x) : (trnTo n top cs v)[v]? = some x := by
  unfold trnTo
  simp [hv, hx]
theorem trnTo_succ {n k : Nat} {top cs : List Int} {x y : Int} (hx : top[k]? = some x) (hy : cs[k]? = some y) : trnTo n top cs (k + 1) = (trnTo n top cs k).set k (x - y) := by
  apply List.ext_getElem?
  intro i
  unfold trnTo
  by_cases hi : i < n
  · by_cases h : i = k
    · subst h
      rw [List.getElem?_set_self (by simpa using hi)]
      simp [hi, hx, hy]
    · rw [List.getElem?_set_ne (fun e => h e.symm)]
      simp only [List.getElem?_map, List.getElem?_range hi, Option.map_some]
      by_cases h2 : i < k
      · rw [if_pos h2, if_pos (by omega)]
      · rw [if_neg h2, if_neg (by omega)]
  · rw [List.getElem?_eq_none (by simp; omega), List.getElem?_eq_none (by simp; omega)]
theorem trn_dul {n q : Nat} {es : List E3} {cs : List Int} (hok : ∀ e ∈ es, okE n e) (h0 : cs.getD q 0 = 0) : trnTo n (maxL n es q) cs n = dulL n es cs q := by
  unfold trnTo dulL dulTo
  apply List.map_congr_left
  intro v hv
  have hv := List.mem_range.1 hv
  rw [if_pos hv, maxL_get hok hv]
  by_cases h : v = q
  · rw [if_pos h, if_neg (fun e => e.2 h), h, h0]; rfl
  · rw [if_neg h, if_pos ⟨hv, h⟩]
theorem maxL_bd {n q : Nat} {es : List E3} (hlen : es.length ≤ 10000) (hok : ∀ e ∈ es, okE n e) : ∀ x ∈ maxL n es q, -1 ≤ x ∧ x ≤ 1000000 := fun x hx => by
  obtain ⟨i, hi⟩ := List.getElem?_of_mem hx
  have hin : i < n := by have := (List.getElem?_eq_some_iff.1 hi).1; rw [maxL_length] at this; exact this
  have h1 := maxL_get (q := q) hok hin
  rw [getD_at hi] at h1
  have h2 := valE_bd hok i
  rw [h1]
  split <;> omega

set_option maxRecDepth 100000 in
set_option maxHeartbeats 8000000 in
theorem dualE_any (n : Int) (A : Option Addr) (c : Nat) (es : List E3) (hn : es.length ≤ 10000) (q : Int) (B : Option Addr) (d : Nat) (cs : List Int) (hm : cs.length ≤ 1048000) (w : World)
    (h : Reads w w.heap.size 3 A es.length (edgeCells es)) (h' : Reads w w.heap.size 1 B cs.length (ints cs)) :
    Calls Tryz.prog 20 #[.agg #[.int .i64 n, .slice A es.length c], .int .i64 q, .slice B cs.length d] w fun e w' => ∃ A' c', e = .returned (.tuple #[.slice A' (dulE n es q cs).1.length c', .int .i64 (dulE n es q cs).2]) ∧ OwnI w' w.heap.size A' c' (dulE n es q cs).1 ∧ Below w.heap.size w w' := by
  have BC := Lib.hid (reccheck_any n A c es (by omega) q B d cs (by omega))
  have g0 := Blk.new w 24 #[.int .i64 n, .slice A es.length c]
  have hb0 : Below w.heap.size w (w.alloc (.cells #[.int .i64 n, .slice A es.length c] 24)) := (Below.refl _ _).alloc (Nat.le_refl _) _
  have c0 := g0.cell 0
  have c1 := g0.cell 1
  by_cases hz : burnErr n es q cs = 0
  · obtain ⟨hG, _, hq0, hqn, hlen, hbd, _⟩ := conf_zero (burn_zero hz).1
    have hhi := hG.hi
    have hlo := hG.lo
    obtain ⟨m, rfl⟩ := Int.eq_ofNat_of_zero_le (show 0 ≤ n by omega)
    obtain ⟨p, rfl⟩ := Int.eq_ofNat_of_zero_le hq0
    obtain ⟨hR, hpm, hcl⟩ := burn_rargs hn hz
    have hE : dulE m es p cs = if stabTo es cs p m then (dulL m es cs p, 0) else ([], 15) := by unfold dulE; rw [if_pos hz]; simp
    rw [hE]
    rw [hz] at BC
    have SC := Lib.hid (fun (W : World) (hB : Below w.heap.size w W) => stable_any m (by omega) A c es hn hR.hz p B d cs hcl W ((h.below hB).more hB.size) (by rw [← hcl]; exact (h'.below hB).more hB.size))
    have VC := Lib.hid (fun (v : Nat) (hv : v < m) (W : World) (hB : Below w.heap.size w W) => rvalence_any m A c es hn hR.hz p B m d v hv W ((h.below hB).more hB.size))
    have HVB := Lib.hid (fun v : Nat => valE_bd hG.ok v)
    have HBD := Lib.hid hbd
    have HCL := Lib.hid hcl
    have hm12 : m ≤ 12 := by omega
    have hDl := Lib.hid (dulL_length m es cs p)
    have hDe : Hid (dulTo m es cs p m = dulL m es cs p) := rfl
    obtain ⟨S, hS⟩ : ∃ S, stabTo es cs p m = S := ⟨_, rfl⟩
    rw [hS] at SC ⊢
    simp only [pileV] at SC VC
    rw [hcl] at BC h' ⊢
    clear hz hE hG hbd hhi hlo hqn hR hlen hcl hS
    have P1 := fun (w1 : World) => Blk.new w1 86 #[.int .i64 m, .slice A es.length c, .int .i64 p, .slice B m d]
    go_enter Tryz.func20, Tryz.ntmps20
    go_wp2_with fail
    refine (BC.out _ ((h.below hb0).more hb0.size) ((h'.below hb0).more hb0.size)).mono ?_
    rintro e w1 ⟨rfl, hb1⟩
    have B1 := hb0.trans (hb1.mono hb0.size)
    have g1 := g0.next hb1
    have c0 := g1.cell 0
    have c1 := g1.cell 1
    have P2 := P1 w1
    have G2 := g1.alloc (.cells #[.int .i64 m, .slice A es.length c, .int .i64 p, .slice B m d] 86)
    have p0 := P2.cell 0
    have p1 := P2.cell 1
    have p2 := P2.cell 2
    have p3 := P2.cell 3
    have B2 := B1.alloc B1.size (.cells #[.int .i64 m, .slice A es.length c, .int .i64 p, .slice B m d] 86)
    have SC2 := Lib.hid (SC.out _ B2)
    have hs1 := B1.size
    clear g0 hb0 hb1 g1 B1 P1
    go_wp2_with fail
    refine (SC2.out).mono ?_
    rintro e w3 ⟨rfl, b3⟩
    have B3 := B2.trans (b3.mono B2.size)
    have P3 := P2.next b3
    have G3 := G2.next b3
    clear p0 p1 p2 p3 c0 c1 P2 G2 B2 b3
    cases S
    · go_wp2
      go_ret2
      exact ⟨none, 0, rfl, OwnI.nil_ _ _, B3⟩
    · have k0 := G3.cell 0
      have hmd := make_div m (by omega)
      have O4 := Blk.new w3 3 (ints (List.replicate m 0)).toArray
      have P4 := P3.alloc (.cells (ints (List.replicate m 0)).toArray 3)
      have B4 := B3.alloc B3.size (.cells (ints (List.replicate m 0)).toArray 3)
      have hs3 := B3.size
      obtain ⟨gO, hgO⟩ : ∃ gO, w3.heap.size = gO := ⟨_, rfl⟩
      have HGO := Lib.hid hgO
      rw [hgO] at O4 hs3
      clear P3 G3 B3
      go_wp2_with fail
      try rw [HGO.out]
      go_loopw [11, 12, 32] (fun _ _ i wl => ∃ v : Nat, i = .int .i64 v ∧ v ≤ m ∧ Hid (Blk wl gO 3 (intCells (dulTo m es cs p v))) ∧ Hid (Blk wl w1.heap.size 86 #[.int .i64 m, .slice A es.length c, .int .i64 p, .slice B m d]) ∧ Hid (Below w.heap.size w wl)) (fun _ _ i _ => m - (intOf i).toNat)
      case atStart => exact ⟨0, rfl, by omega, by rw [Hid, dulTo_zero]; exact O4, P4, B4⟩
      case round =>
        obtain ⟨v, rfl, hv, HO, HP, HB⟩ := hrel
        clear O4 P4 B4 hgO hmd k0
        by_cases hlt : v < m
        · have hi : (v : Int) < (m : Int) := by omega
          obtain ⟨x, hx⟩ := get_of_lt (xs := cs) (k := v) (by rw [HCL.out]; exact hlt)
          obtain ⟨bB, oB, hA, hbB, hcell⟩ := (h'.below HB.out).at_ (ints_at hx)
          subst hA
          have hxb := HBD.out x (List.mem_of_getElem? hx)
          by_cases hvp : v = p
          · have hne : ((v : Int) != (p : Int)) = false := by simp [hvp]
            have hms : dulTo m es cs p (v + 1) = dulTo m es cs p v := by rw [hvp]; exact dulTo_sink m es cs p
            have HO2 : Hid (Blk wr gO 3 (intCells (dulTo m es cs p (v + 1)))) := by rw [Hid, hms]; exact HO.out
            clear hms
            clear hx hvp
            go_wp2
            go_roundw
            case rel => exact ⟨v + 1, by go_num, by omega, HO2, HP, HB⟩
            case measure => simp [intOf]; omega
          · have hne : ((v : Int) != (p : Int)) = true := by rw [bne_iff_ne]; omega
            have hms := dulTo_succ m es cs p v hvp
            rw [getD_at hx] at hms
            have hvb := HVB.out v
            have VC1 := VC.out v hlt wr HB.out
            obtain ⟨V, hV⟩ : ∃ V, valE es v = V := ⟨_, rfl⟩
            rw [hV] at VC1 hms hvb
            have HMS := Lib.hid hms
            have VC1 := Lib.hid VC1
            obtain ⟨y, hy⟩ := get_of_lt (xs := dulTo m es cs p v) (k := v) (by rw [dulTo_length]; exact hlt)
            have HY := Lib.hid hy
            have hw1 : IntKind.i64.wrap (V - 1) = V - 1 := IntWalk.i64_in _ (by omega)
            have hw2 : IntKind.i64.wrap (V - 1 - x) = V - 1 - x := IntWalk.i64_in _ (by omega)
            have q0 := HP.out.cell 0
            have q1 := HP.out.cell 1
            have q2 := HP.out.cell 2
            have q3 := HP.out.cell 3
            clear hx hy hV hms hvp
            go_wp2_with fail
            refine (VC1.out).mono ?_
            rintro e w5 ⟨rfl, b5⟩
            have O5 := HO.out.next b5
            have co := (O5.cell v).trans (intCells_get HY.out)
            have cf := O5.frozen v
            have O6 := O5.set_ v (.int .i64 (V - 1 - x))
            rw [intCells_set, ← HMS.out] at O6
            have HO6 := Lib.hid O6
            have P5 := HP.out.next b5
            have hnw : w1.heap.size ≠ gO := (O5.ne_ P5 (by decide)).symm
            have P6 := Lib.hid (P5.far (p := ⟨gO, v, none⟩) hnw (.int .i64 (V - 1 - x)))
            have B6 := Lib.hid ((HB.out.trans (b5.mono HB.out.size)).setCell (p := ⟨gO, v, none⟩) hs3 (.int .i64 (V - 1 - x)))
            clear O6 P5 hnw b5 O5 q0 q1 q2 q3
            go_wp2
            go_roundw
            case rel => exact ⟨v + 1, by go_num, by omega, HO6, P6, B6⟩
            case measure => simp [intOf]; omega
        · obtain rfl : v = m := by omega
          have hB := HB.out
          have hO := HO.out
          rw [hDe.out] at hO
          go_wp2
          go_ret2
          refine ⟨some ⟨gO, 0, none⟩, v, ?_, ?_, hB⟩
          · show _ = Ending.returned (.tuple #[.slice _ (dulL v es cs p).length _, _])
            rw [hDl.out]; rfl
          · have hl := hDl.out
            have := OwnI.of_blk hO hs3 (by rw [hl]; simp [maxLen]; omega)
            rw [hl] at this
            exact this
  · have hE : dulE n es q cs = ([], burnErr n es q cs) := by unfold dulE; rw [if_neg hz]
    rw [hE]
    obtain ⟨z, hze⟩ : ∃ z, burnErr n es q cs = z := ⟨_, rfl⟩
    rw [hze] at BC hz ⊢
    have hz1 : (z != 0) = true := by simpa using hz
    clear hze hE hz
    go_enter Tryz.func20, Tryz.ntmps20
    go_wp2_with fail
    refine (BC.out _ ((h.below hb0).more hb0.size) ((h'.below hb0).more hb0.size)).mono ?_
    rintro e w1 ⟨rfl, hb1⟩
    go_wp2
    go_ret2
    exact ⟨none, 0, rfl, OwnI.nil_ _ _, hb0.trans (hb1.mono hb0.size)⟩

set_option maxRecDepth 100000 in
set_option maxHeartbeats 4000000 in
theorem rturned_any (n : Nat) (A : Option Addr) (c : Nat) (es : List E3) (hlen : es.length ≤ 10000) (hG : RightG n es) (q : Nat) (B : Option Addr) (d : Nat) (cs : List Int) (hcl : cs.length = n) (hcb : ∀ x ∈ cs, -1048576 ≤ x ∧ x ≤ 1048576) (h0 : cs.getD q 0 = 0) (w : World)
    (h : Reads w w.heap.size 3 A es.length (edgeCells es)) (h' : Reads w w.heap.size 1 B n (ints cs)) :
    Calls Tryz.prog 65 #[.agg #[.int .i64 n, .slice A es.length c], .int .i64 q, .slice B n d] w fun e w' => ∃ A' c', e = .returned (.slice A' (dulL n es cs q).length c') ∧ OwnI w' w.heap.size A' c' (dulL n es cs q) ∧ Below w.heap.size w w' := by
  have g0 := Blk.new w 24 #[.int .i64 n, .slice A es.length c]
  have B0 : Below w.heap.size w (w.alloc (.cells #[.int .i64 n, .slice A es.length c] 24)) := (Below.refl _ _).alloc (Nat.le_refl _) _
  have c0 := g0.cell 0
  have c1 := g0.cell 1
  have TC := Lib.hid (fun (W : World) (hB : Below w.heap.size w W) => rtop_any n A c es hlen hG q W ((h.below hB).more hB.size))
  have HD : Hid (trnTo n (maxL n es q) cs n = dulL n es cs q) := trn_dul hG.ok h0
  have HDl : Hid ((dulL n es cs q).length = n) := dulL_length n es cs q
  have hml := maxL_length n es q
  have HTB : Hid (∀ x ∈ maxL n es q, -1 ≤ x ∧ x ≤ 1000000) := maxL_bd hlen hG.ok
  have HCL := Lib.hid hcl
  have HCB := Lib.hid hcb
  have hn1 : 1 ≤ n := by have := hG.lo; omega
  have hn12 : n ≤ 12 := by have := hG.hi; omega
  obtain ⟨T, hT⟩ : ∃ T, maxL n es q = T := ⟨_, rfl⟩
  obtain ⟨R, hR⟩ : ∃ R, dulL n es cs q = R := ⟨_, rfl⟩
  rw [hT] at TC HD hml HTB
  rw [hR] at HD HDl ⊢
  have HML := Lib.hid hml
  clear hG hcl hcb h0 hml hT hR
  go_enter Tryz.func65, Tryz.ntmps65
  go_wp2_with fail
  refine (TC.out _ B0).mono ?_
  rintro e w1 ⟨A1, c1', rfl, o1, hb1⟩
  have B1 := B0.trans (hb1.mono B0.size)
  have g1 := g0.next hb1
  have o1 := o1.mono B0.size
  obtain ⟨g, rfl, hg, _, _⟩ := o1.block (by rw [HML.out]; omega)
  clear g0 B0 c0 c1 hb1
  go_wp2_with fail
  go_loopw [8] (fun i wl => ∃ v : Nat, v ≤ n ∧ i = .int .i64 v ∧ Hid (OwnI wl w.heap.size (some ⟨g, 0, none⟩) c1' (trnTo n T cs v)) ∧ Hid (Blk wl w.heap.size 24 #[.int .i64 n, .slice A es.length c]) ∧ Hid (Below w.heap.size w wl)) (fun i _ => n - (intOf i).toNat)
  case atStart => exact ⟨0, by omega, rfl, by rw [Hid, trnTo_zero cs HML.out]; exact o1, g1, B1⟩
  case round =>
    obtain ⟨v, hv, rfl, HO, HGr, HB⟩ := hrel
    clear o1 g1 B1
    have c0 := HGr.out.cell 0
    by_cases hlt : v < n
    · have hi : (v : Int) < (n : Int) := by omega
      obtain ⟨x, hx⟩ := get_of_lt (xs := T) (k := v) (by rw [HML.out]; exact hlt)
      obtain ⟨y, hy⟩ := get_of_lt (xs := cs) (k := v) (by rw [HCL.out]; exact hlt)
      have hxb := HTB.out x (List.mem_of_getElem? hx)
      have hyb := HCB.out y (List.mem_of_getElem? hy)
      obtain ⟨bB, oB, hA, hbB, hcell⟩ := (h'.below HB.out).at_ (ints_at hy)
      subst hA
      have hms := trnTo_succ (n := n) hx hy
      have hat := trnTo_at (n := n) (cs := cs) hlt hx
      obtain ⟨g', hg', hgb, hfz, hcz⟩ := HO.out.block (by rw [trnTo_length]; omega)
      injection hg' with hg'
      injection hg' with hg'
      subst hg'
      have k0 := hcz v x hat
      have f0 := hfz v
      have hw1 : IntKind.i64.wrap (x - y) = x - y := IntWalk.i64_in _ (by omega)
      have O2 := HO.out.put v (x - y)
      rw [← hms] at O2
      have HO2 := Lib.hid O2
      have hgn : w.heap.size ≠ g := (own_blk HO.out HGr.out (by decide) ⟨_, rfl, rfl⟩).symm
      have G2 := Lib.hid (HGr.out.far (p := ⟨g, v, none⟩) hgn (.int .i64 (x - y)))
      have B2 := Lib.hid (HB.out.setCell (p := ⟨g, v, none⟩) (by show w.heap.size ≤ g; exact hgb) (.int .i64 (x - y)))
      clear hx hy hms hat O2 hfz hcz hgn
      go_wp2_with fail
      refine region_tail 12 (by kernel_rfl) (by kernel_rfl) ?_
      simp only [List.take_succ_cons, List.take_zero, List.drop_succ_cons, List.drop_zero]
      repeat still_step
      refine wpStill_nil ?_
      go_wp2
      go_roundw
      case rel => exact ⟨v + 1, by omega, by go_num, own_kept HO2.out (fun _ _ => rfl), G2.out, ⟨B2.out.os, B2.out.tape, B2.out.output, B2.out.size, B2.out.block⟩⟩
      case measure => simp [intOf]; omega
    · obtain rfl : v = n := by omega
      have hO := HO.out
      rw [HD.out] at hO
      have hB := HB.out
      go_wp2
      go_ret
      exact ⟨_, _, by rw [HDl.out]; rfl, hO, hB⟩

set_option maxRecDepth 100000 in
set_option maxHeartbeats 4000000 in
theorem rdualE_any (n : Int) (A : Option Addr) (c : Nat) (es : List E3) (hn : es.length ≤ 10000) (q : Int) (B : Option Addr) (d : Nat) (cs : List Int) (hm : cs.length ≤ 1048000) (w : World)
    (h : Reads w w.heap.size 3 A es.length (edgeCells es)) (h' : Reads w w.heap.size 1 B cs.length (ints cs)) :
    Calls Tryz.prog 21 #[.agg #[.int .i64 n, .slice A es.length c], .int .i64 q, .slice B cs.length d] w fun e w' => ∃ A' c', e = .returned (.tuple #[.slice A' (dulE n es q cs).1.length c', .int .i64 (dulE n es q cs).2]) ∧ OwnI w' w.heap.size A' c' (dulE n es q cs).1 ∧ Below w.heap.size w w' := by
  have BC := Lib.hid (rbcheck_any n A c es (by omega) q B d cs (by omega))
  have g0 := Blk.new w 24 #[.int .i64 n, .slice A es.length c]
  have hb0 : Below w.heap.size w (w.alloc (.cells #[.int .i64 n, .slice A es.length c] 24)) := (Below.refl _ _).alloc (Nat.le_refl _) _
  have c0 := g0.cell 0
  have c1 := g0.cell 1
  by_cases hz : burnErr n es q cs = 0
  · obtain ⟨hG, _, hq0, hqn, hlen, hbd, _⟩ := conf_zero (burn_zero hz).1
    have hzq := (burn_zero hz).2
    obtain ⟨m, rfl⟩ := Int.eq_ofNat_of_zero_le (show 0 ≤ n by have := hG.lo; omega)
    obtain ⟨p, rfl⟩ := Int.eq_ofNat_of_zero_le hq0
    obtain ⟨hR, hpm, hcl⟩ := burn_rargs hn hz
    have hE : dulE m es p cs = if stabTo es cs p m then (dulL m es cs p, 0) else ([], 15) := by unfold dulE; rw [if_pos hz]; simp
    rw [hE]
    rw [hz] at BC
    rw [Int.toNat_natCast] at hzq
    have SC := Lib.hid (fun (W : World) (hB : Below w.heap.size w W) => calm19_any m A c es hn hG p B d cs hcl W ((h.below hB).more hB.size) (by rw [← hcl]; exact (h'.below hB).more hB.size))
    have TC := Lib.hid (fun (W : World) (hB : Below w.heap.size w W) => rturned_any m A c es hn hG p B d cs hcl hbd hzq W ((h.below hB).more hB.size) (by rw [← hcl]; exact (h'.below hB).more hB.size))
    obtain ⟨S, hS⟩ : ∃ S, stabTo es cs p m = S := ⟨_, rfl⟩
    obtain ⟨R, hRR⟩ : ∃ R, dulL m es cs p = R := ⟨_, rfl⟩
    rw [hS] at SC ⊢
    rw [hRR] at TC ⊢
    rw [hcl] at BC h' ⊢
    clear hz hE hG hbd hqn hR hlen hcl hS hRR hzq
    go_enter Tryz.func21, Tryz.ntmps21
    go_wp2_with fail
    refine (BC.out _ ((h.below hb0).more hb0.size) ((h'.below hb0).more hb0.size)).mono ?_
    rintro e w1 ⟨rfl, hb1⟩
    have B1 := hb0.trans (hb1.mono hb0.size)
    have g1 := g0.next hb1
    have c0 := g1.cell 0
    have c1 := g1.cell 1
    go_wp2_with fail
    refine (SC.out _ B1).mono ?_
    rintro e w2 ⟨rfl, hb2⟩
    have B2 := B1.trans (hb2.mono B1.size)
    have g2 := g1.next hb2
    have c0 := g2.cell 0
    have c1 := g2.cell 1
    cases S
    · go_wp2
      go_ret2
      exact ⟨none, 0, rfl, OwnI.nil_ _ _, B2⟩
    · go_wp2_with fail
      refine (TC.out _ B2).mono ?_
      rintro e w3 ⟨A3, c3, rfl, o3, hb3⟩
      go_wp2
      go_ret2
      exact ⟨A3, c3, rfl, o3.mono B2.size, B2.trans (hb3.mono B2.size)⟩
  · have hE : dulE n es q cs = ([], burnErr n es q cs) := by unfold dulE; rw [if_neg hz]
    rw [hE]
    obtain ⟨z, hze⟩ : ∃ z, burnErr n es q cs = z := ⟨_, rfl⟩
    rw [hze] at BC hz ⊢
    have hz1 : (z != 0) = true := by simpa using hz
    clear hze hE hz
    go_enter Tryz.func21, Tryz.ntmps21
    go_wp2_with fail
    refine (BC.out _ ((h.below hb0).more hb0.size) ((h'.below hb0).more hb0.size)).mono ?_
    rintro e w1 ⟨rfl, hb1⟩
    go_wp2
    go_ret2
    exact ⟨none, 0, rfl, OwnI.nil_ _ _, hb0.trans (hb1.mono hb0.size)⟩
end Go.Proofs.YtdnoeaoelgehcaaGreat

/-! ref08.SameInts; slices.EqualFunc with it: lists that are the same. -/
namespace Go.Proofs.YtdnoeaoelgehcaaGreat
open Go.RowKit

set_option maxHeartbeats 800000 in
theorem sameints_any (A : Option Addr) (c : Nat) (xs : List Int) (B : Option Addr) (d : Nat) (hn : xs.length ≤ 1048576) (w : World) (h : Reads w w.heap.size 1 A xs.length (ints xs)) (h' : Reads w w.heap.size 1 B xs.length (ints xs)) :
    Calls Tryz.prog 22 #[.slice A xs.length c, .slice B xs.length d] w fun e w' => e = .returned (.bool true) ∧ Below w.heap.size w w' := by
  go_enter Tryz.func22, Tryz.ntmps22
  go_wp2
  go_loopw [5] (fun i wr => ∃ k : Nat, k ≤ xs.length ∧ i = .int .i64 k ∧ Below w.heap.size w wr) (fun i _ => xs.length - (intOf i).toNat)
  case atStart => exact ⟨0, by omega, rfl, Below.refl _ _⟩
  case round =>
    obtain ⟨k, hk, rfl, hbel⟩ := hrel
    by_cases hlt : k < xs.length
    · obtain ⟨x, hx⟩ := get_of_lt hlt
      obtain ⟨b, off, rfl, hb, hcell⟩ := (h.below hbel).at_ (ints_at hx)
      obtain ⟨b', off', rfl, hb', hcell'⟩ := (h'.below hbel).at_ (ints_at hx)
      have hi : (k : Int) < (xs.length : Int) := by omega
      clear hx h h'
      go_wp2
      go_region
      all_goals (
        go_wp2
        go_roundw
        case rel => exact ⟨k + 1, by omega, by go_num, below_drewN hbel _⟩
        case measure => simp [intOf]; omega)
    · have hi : ¬ (k : Int) < (xs.length : Int) := by omega
      go_wp2
      go_ret
      exact ⟨rfl, hbel⟩

end Go.Proofs.YtdnoeaoelgehcaaGreat

