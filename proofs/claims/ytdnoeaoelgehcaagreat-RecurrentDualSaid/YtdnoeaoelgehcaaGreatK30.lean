/-
  Texts of this claim, put together: DualE, RBurn, VerP, Funcs.
-/
import Derived.Test.YtdnoeaoelgehcaaGreatK29
import Derived.Test.YtdnoeaoelgehcaaGreatK13
import Derived.Test.YtdnoeaoelgehcaaGreatK06
import Derived.Test.YtdnoeaoelgehcaaGreatK28
import Derived.Test.YtdnoeaoelgehcaaGreatK07
import Derived.Test.YtdnoeaoelgehcaaGreatK12
import Derived.StillTailTactics
import Derived.Deep.QuietTactic
import Derived.BigQuiet
import Derived.Deep.RegionWith
import Derived.Test.YtdnoeaoelgehcaaGreatK01
import Derived.WalkKit
/-! recurrent.Dual; ref24.Turned, Dual: the dual of a stable configuration. -/
namespace Go.Proofs.YtdnoeaoelgehcaaGreat
open Go.RowKit

theorem recE_len (n : Int) (es : List E3) (q : Int) (cs : List Int) : (recE n es q cs).2.1.length ≤ 12 := by
  unfold recE
  split
  · rename_i hz
    obtain ⟨hG, _, hq0, hqn, _⟩ := conf_zero (burn_zero hz).1
    have hhi := hG.hi
    have hlo := hG.lo
    split
    · rw [natI_length]
      have := nodup_len (recL_ok (n := n.toNat) (es := es) (cs := cs) (q := q.toNat) (by omega))
      omega
    · simp
  · simp
/-- What Dual returns. -/
def dulE (n : Int) (es : List E3) (q : Int) (cs : List Int) : List Int × Int := if burnErr n es q cs = 0 then (if stabTo es cs q.toNat n.toNat then (dulL n.toNat es cs q.toNat, 0) else ([], 15)) else ([], burnErr n es q cs)
theorem dulE_len (n : Int) (es : List E3) (q : Int) (cs : List Int) : (dulE n es q cs).1.length ≤ 12 := by
  unfold dulE
  split
  · rename_i hz
    obtain ⟨hG, _⟩ := conf_zero (burn_zero hz).1
    have := hG.hi
    split
    · show (dulL n.toNat es cs q.toNat).length ≤ 12
      rw [dulL_length]; omega
    · simp
  · simp
/-- A list less another one, as far as k. -/
def trnTo (n : Nat) (top cs : List Int) (k : Nat) : List Int := (List.range n).map fun v : Nat => if v < k then top.getD v 0 - cs.getD v 0 else top.getD v 0
theorem trnTo_length (n : Nat) (top cs : List Int) (k : Nat) : (trnTo n top cs k).length = n := by simp [trnTo]
theorem trnTo_zero {n : Nat} {top : List Int} (cs : List Int) (h : top.length = n) : trnTo n top cs 0 = top := by
  apply List.ext_getElem?
  intro i
  unfold trnTo
  by_cases hi : i < n
  · simp [hi, h]
  · simp [hi, h]
theorem trnTo_at {n v : Nat} {top cs : List Int} (hv : v < n) {x : Int} (hx : top[v]? = some x) : (trnTo n top cs v)[v]? = some x := by
  unfold trnTo
  simp [hv, hx]
theorem trnTo_succ {n k : Nat} {top cs : List Int} {x y : Int} (hx : top[k]? = some x) (hy : cs[k]? = some y) : trnTo n top cs (k + 1) = (trnTo n top cs k).set k (x - y) := by
  apply List.ext_getElem?
  intro i
  unfold trnTo
  by_cases hi : i < n
  · by_cases h : i = k
    · subst h
      rw [List.getElem?_set_self (by simpa using hi)]
      simp [hi, hx, hy]
    · rw [List.getElem?_set_ne (fun e => h e.symm)]
      simp only [List.getElem?_map, List.getElem?_range hi, Option.map_some]
      by_cases h2 : i < k
      · rw [if_pos h2, if_pos (by omega)]
      · rw [if_neg h2, if_neg (by omega)]
  · rw [List.getElem?_eq_none (by simp; omega), List.getElem?_eq_none (by simp; omega)]
theorem trn_dul {n q : Nat} {es : List E3} {cs : List Int} (hok : ∀ e ∈ es, okE n e) (h0 : cs.getD q 0 = 0) : trnTo n (maxL n es q) cs n = dulL n es cs q := by
  unfold trnTo dulL dulTo
  apply List.map_congr_left
  intro v hv
  have hv := List.mem_range.1 hv
  rw [if_pos hv, maxL_get hok hv]
  by_cases h : v = q
  · rw [if_pos h, if_neg (fun e => e.2 h), h, h0]; rfl
  · rw [if_neg h, if_pos ⟨hv, h⟩]
theorem maxL_bd {n q : Nat} {es : List E3} (hlen : es.length ≤ 10000) (hok : ∀ e ∈ es, okE n e) : ∀ x ∈ maxL n es q, -1 ≤ x ∧ x ≤ 1000000 := fun x hx => by
  obtain ⟨i, hi⟩ := List.getElem?_of_mem hx
  have hin : i < n := by have := (List.getElem?_eq_some_iff.1 hi).1; rw [maxL_length] at this; exact this
  have h1 := maxL_get (q := q) hok hin
  rw [getD_at hi] at h1
  have h2 := valE_bd hok i
  rw [h1]
  split <;> omega

set_option maxRecDepth 100000 in
set_option maxHeartbeats 8000000 in
theorem dualE_any (n : Int) (A : Option Addr) (c : Nat) (es : List E3) (hn : es.length ≤ 10000) (q : Int) (B : Option Addr) (d : Nat) (cs : List Int) (hm : cs.length ≤ 1048000) (w : World)
    (h : Reads w w.heap.size 3 A es.length (edgeCells es)) (h' : Reads w w.heap.size 1 B cs.length (ints cs)) :
    Calls Tryz.prog 20 #[.agg #[.int .i64 n, .slice A es.length c], .int .i64 q, .slice B cs.length d] w fun e w' => ∃ A' c', e = .returned (.tuple #[.slice A' (dulE n es q cs).1.length c', .int .i64 (dulE n es q cs).2]) ∧ OwnI w' w.heap.size A' c' (dulE n es q cs).1 ∧ Below w.heap.size w w' := by
  have BC := Lib.hid (reccheck_any n A c es (by omega) q B d cs (by omega))
  have g0 := Blk.new w 24 #[.int .i64 n, .slice A es.length c]
  have hb0 : Below w.heap.size w (w.alloc (.cells #[.int .i64 n, .slice A es.length c] 24)) := (Below.refl _ _).alloc (Nat.le_refl _) _
  have c0 := g0.cell 0
  have c1 := g0.cell 1
  by_cases hz : burnErr n es q cs = 0
  · obtain ⟨hG, _, hq0, hqn, hlen, hbd, _⟩ := conf_zero (burn_zero hz).1
    have hhi := hG.hi
    have hlo := hG.lo
    obtain ⟨m, rfl⟩ := Int.eq_ofNat_of_zero_le (show 0 ≤ n by omega)
    obtain ⟨p, rfl⟩ := Int.eq_ofNat_of_zero_le hq0
    obtain ⟨hR, hpm, hcl⟩ := burn_rargs hn hz
    have hE : dulE m es p cs = if stabTo es cs p m then (dulL m es cs p, 0) else ([], 15) := by unfold dulE; rw [if_pos hz]; simp
    rw [hE]
    rw [hz] at BC
    have SC := Lib.hid (fun (W : World) (hB : Below w.heap.size w W) => stable_any m (by omega) A c es hn hR.hz p B d cs hcl W ((h.below hB).more hB.size) (by rw [← hcl]; exact (h'.below hB).more hB.size))
    have VC := Lib.hid (fun (v : Nat) (hv : v < m) (W : World) (hB : Below w.heap.size w W) => rvalence_any m A c es hn hR.hz p B m d v hv W ((h.below hB).more hB.size))
    have HVB := Lib.hid (fun v : Nat => valE_bd hG.ok v)
    have HBD := Lib.hid hbd
    have HCL := Lib.hid hcl
    have hm12 : m ≤ 12 := by omega
    have hDl := Lib.hid (dulL_length m es cs p)
    have hDe : Hid (dulTo m es cs p m = dulL m es cs p) := rfl
    obtain ⟨S, hS⟩ : ∃ S, stabTo es cs p m = S := ⟨_, rfl⟩
    rw [hS] at SC ⊢
    simp only [pileV] at SC VC
    rw [hcl] at BC h' ⊢
    clear hz hE hG hbd hhi hlo hqn hR hlen hcl hS
    have P1 := fun (w1 : World) => Blk.new w1 86 #[.int .i64 m, .slice A es.length c, .int .i64 p, .slice B m d]
    go_enter Tryz.func20, Tryz.ntmps20
    go_wp2_with fail
    refine (BC.out _ ((h.below hb0).more hb0.size) ((h'.below hb0).more hb0.size)).mono ?_
    rintro e w1 ⟨rfl, hb1⟩
    have B1 := hb0.trans (hb1.mono hb0.size)
    have g1 := g0.next hb1
    have c0 := g1.cell 0
    have c1 := g1.cell 1
    have P2 := P1 w1
    have G2 := g1.alloc (.cells #[.int .i64 m, .slice A es.length c, .int .i64 p, .slice B m d] 86)
    have p0 := P2.cell 0
    have p1 := P2.cell 1
    have p2 := P2.cell 2
    have p3 := P2.cell 3
    have B2 := B1.alloc B1.size (.cells #[.int .i64 m, .slice A es.length c, .int .i64 p, .slice B m d] 86)
    have SC2 := Lib.hid (SC.out _ B2)
    have hs1 := B1.size
    clear g0 hb0 hb1 g1 B1 P1
    go_wp2_with fail
    refine (SC2.out).mono ?_
    rintro e w3 ⟨rfl, b3⟩
    have B3 := B2.trans (b3.mono B2.size)
    have P3 := P2.next b3
    have G3 := G2.next b3
    clear p0 p1 p2 p3 c0 c1 P2 G2 B2 b3
    cases S
    · go_wp2
      go_ret2
      exact ⟨none, 0, rfl, OwnI.nil_ _ _, B3⟩
    · have k0 := G3.cell 0
      have hmd := make_div m (by omega)
      have O4 := Blk.new w3 3 (ints (List.replicate m 0)).toArray
      have P4 := P3.alloc (.cells (ints (List.replicate m 0)).toArray 3)
      have B4 := B3.alloc B3.size (.cells (ints (List.replicate m 0)).toArray 3)
      have hs3 := B3.size
      obtain ⟨gO, hgO⟩ : ∃ gO, w3.heap.size = gO := ⟨_, rfl⟩
      have HGO := Lib.hid hgO
      rw [hgO] at O4 hs3
      clear P3 G3 B3
      go_wp2_with fail
      try rw [HGO.out]
      go_loopw [11, 12, 32] (fun _ _ i wl => ∃ v : Nat, i = .int .i64 v ∧ v ≤ m ∧ Hid (Blk wl gO 3 (intCells (dulTo m es cs p v))) ∧ Hid (Blk wl w1.heap.size 86 #[.int .i64 m, .slice A es.length c, .int .i64 p, .slice B m d]) ∧ Hid (Below w.heap.size w wl)) (fun _ _ i _ => m - (intOf i).toNat)
      case atStart => exact ⟨0, rfl, by omega, by rw [Hid, dulTo_zero]; exact O4, P4, B4⟩
      case round =>
        obtain ⟨v, rfl, hv, HO, HP, HB⟩ := hrel
        clear O4 P4 B4 hgO hmd k0
        by_cases hlt : v < m
        · have hi : (v : Int) < (m : Int) := by omega
          obtain ⟨x, hx⟩ := get_of_lt (xs := cs) (k := v) (by rw [HCL.out]; exact hlt)
          obtain ⟨bB, oB, hA, hbB, hcell⟩ := (h'.below HB.out).at_ (ints_at hx)
          subst hA
          have hxb := HBD.out x (List.mem_of_getElem? hx)
          by_cases hvp : v = p
          · have hne : ((v : Int) != (p : Int)) = false := by simp [hvp]
            have hms : dulTo m es cs p (v + 1) = dulTo m es cs p v := by rw [hvp]; exact dulTo_sink m es cs p
            have HO2 : Hid (Blk wr gO 3 (intCells (dulTo m es cs p (v + 1)))) := by rw [Hid, hms]; exact HO.out
            clear hms
            clear hx hvp
            go_wp2
            go_roundw
            case rel => exact ⟨v + 1, by go_num, by omega, HO2, HP, HB⟩
            case measure => simp [intOf]; omega
          · have hne : ((v : Int) != (p : Int)) = true := by rw [bne_iff_ne]; omega
            have hms := dulTo_succ m es cs p v hvp
            rw [getD_at hx] at hms
            have hvb := HVB.out v
            have VC1 := VC.out v hlt wr HB.out
            obtain ⟨V, hV⟩ : ∃ V, valE es v = V := ⟨_, rfl⟩
            rw [hV] at VC1 hms hvb
            have HMS := Lib.hid hms
            have VC1 := Lib.hid VC1
            obtain ⟨y, hy⟩ := get_of_lt (xs := dulTo m es cs p v) (k := v) (by rw [dulTo_length]; exact hlt)
            have HY := Lib.hid hy
            have hw1 : IntKind.i64.wrap (V - 1) = V - 1 := IntWalk.i64_in _ (by omega)
            have hw2 : IntKind.i64.wrap (V - 1 - x) = V - 1 - x := IntWalk.i64_in _ (by omega)
            have q0 := HP.out.cell 0
            have q1 := HP.out.cell 1
            have q2 := HP.out.cell 2
            have q3 := HP.out.cell 3
            clear hx hy hV hms hvp
            go_wp2_with fail
            refine (VC1.out).mono ?_
            rintro e w5 ⟨rfl, b5⟩
            have O5 := HO.out.next b5
            have co := (O5.cell v).trans (intCells_get HY.out)
            have cf := O5.frozen v
            have O6 := O5.set_ v (.int .i64 (V - 1 - x))
            rw [intCells_set, ← HMS.out] at O6
            have HO6 := Lib.hid O6
            have P5 := HP.out.next b5
            have hnw : w1.heap.size ≠ gO := (O5.ne_ P5 (by decide)).symm
            have P6 := Lib.hid (P5.far (p := ⟨gO, v, none⟩) hnw (.int .i64 (V - 1 - x)))
            have B6 := Lib.hid ((HB.out.trans (b5.mono HB.out.size)).setCell (p := ⟨gO, v, none⟩) hs3 (.int .i64 (V - 1 - x)))
            clear O6 P5 hnw b5 O5 q0 q1 q2 q3
            go_wp2
            go_roundw
            case rel => exact ⟨v + 1, by go_num, by omega, HO6, P6, B6⟩
            case measure => simp [intOf]; omega
        · obtain rfl : v = m := by omega
          have hB := HB.out
          have hO := HO.out
          rw [hDe.out] at hO
          go_wp2
          go_ret2
          refine ⟨some ⟨gO, 0, none⟩, v, ?_, ?_, hB⟩
          · show _ = Ending.returned (.tuple #[.slice _ (dulL v es cs p).length _, _])
            rw [hDl.out]; rfl
          · have hl := hDl.out
            have := OwnI.of_blk hO hs3 (by rw [hl]; simp [maxLen]; omega)
            rw [hl] at this
            exact this
  · have hE : dulE n es q cs = ([], burnErr n es q cs) := by unfold dulE; rw [if_neg hz]
    rw [hE]
    obtain ⟨z, hze⟩ : ∃ z, burnErr n es q cs = z := ⟨_, rfl⟩
    rw [hze] at BC hz ⊢
    have hz1 : (z != 0) = true := by simpa using hz
    clear hze hE hz
    go_enter Tryz.func20, Tryz.ntmps20
    go_wp2_with fail
    refine (BC.out _ ((h.below hb0).more hb0.size) ((h'.below hb0).more hb0.size)).mono ?_
    rintro e w1 ⟨rfl, hb1⟩
    go_wp2
    go_ret2
    exact ⟨none, 0, rfl, OwnI.nil_ _ _, hb0.trans (hb1.mono hb0.size)⟩

set_option maxRecDepth 100000 in
set_option maxHeartbeats 4000000 in
theorem rturned_any (n : Nat) (A : Option Addr) (c : Nat) (es : List E3) (hlen : es.length ≤ 10000) (hG : RightG n es) (q : Nat) (B : Option Addr) (d : Nat) (cs : List Int) (hcl : cs.length = n) (hcb : ∀ x ∈ cs, -1048576 ≤ x ∧ x ≤ 1048576) (h0 : cs.getD q 0 = 0) (w : World)
    (h : Reads w w.heap.size 3 A es.length (edgeCells es)) (h' : Reads w w.heap.size 1 B n (ints cs)) :
    Calls Tryz.prog 65 #[.agg #[.int .i64 n, .slice A es.length c], .int .i64 q, .slice B n d] w fun e w' => ∃ A' c', e = .returned (.slice A' (dulL n es cs q).length c') ∧ OwnI w' w.heap.size A' c' (dulL n es cs q) ∧ Below w.heap.size w w' := by
  have g0 := Blk.new w 24 #[.int .i64 n, .slice A es.length c]
  have B0 : Below w.heap.size w (w.alloc (.cells #[.int .i64 n, .slice A es.length c] 24)) := (Below.refl _ _).alloc (Nat.le_refl _) _
  have c0 := g0.cell 0
  have c1 := g0.cell 1
  have TC := Lib.hid (fun (W : World) (hB : Below w.heap.size w W) => rtop_any n A c es hlen hG q W ((h.below hB).more hB.size))
  have HD : Hid (trnTo n (maxL n es q) cs n = dulL n es cs q) := trn_dul hG.ok h0
  have HDl : Hid ((dulL n es cs q).length = n) := dulL_length n es cs q
  have hml := maxL_length n es q
  have HTB : Hid (∀ x ∈ maxL n es q, -1 ≤ x ∧ x ≤ 1000000) := maxL_bd hlen hG.ok
  have HCL := Lib.hid hcl
  have HCB := Lib.hid hcb
  have hn1 : 1 ≤ n := by have := hG.lo; omega
  have hn12 : n ≤ 12 := by have := hG.hi; omega
  obtain ⟨T, hT⟩ : ∃ T, maxL n es q = T := ⟨_, rfl⟩
  obtain ⟨R, hR⟩ : ∃ R, dulL n es cs q = R := ⟨_, rfl⟩
  rw [hT] at TC HD hml HTB
  rw [hR] at HD HDl ⊢
  have HML := Lib.hid hml
  clear hG hcl hcb h0 hml hT hR
  go_enter Tryz.func65, Tryz.ntmps65
  go_wp2_with fail
  refine (TC.out _ B0).mono ?_
  rintro e w1 ⟨A1, c1', rfl, o1, hb1⟩
  have B1 := B0.trans (hb1.mono B0.size)
  have g1 := g0.next hb1
  have o1 := o1.mono B0.size
  obtain ⟨g, rfl, hg, _, _⟩ := o1.block (by rw [HML.out]; omega)
  clear g0 B0 c0 c1 hb1
  go_wp2_with fail
  go_loopw [8] (fun i wl => ∃ v : Nat, v ≤ n ∧ i = .int .i64 v ∧ Hid (OwnI wl w.heap.size (some ⟨g, 0, none⟩) c1' (trnTo n T cs v)) ∧ Hid (Blk wl w.heap.size 24 #[.int .i64 n, .slice A es.length c]) ∧ Hid (Below w.heap.size w wl)) (fun i _ => n - (intOf i).toNat)
  case atStart => exact ⟨0, by omega, rfl, by rw [Hid, trnTo_zero cs HML.out]; exact o1, g1, B1⟩
  case round =>
    obtain ⟨v, hv, rfl, HO, HGr, HB⟩ := hrel
    clear o1 g1 B1
    have c0 := HGr.out.cell 0
    by_cases hlt : v < n
    · have hi : (v : Int) < (n : Int) := by omega
      obtain ⟨x, hx⟩ := get_of_lt (xs := T) (k := v) (by rw [HML.out]; exact hlt)
      obtain ⟨y, hy⟩ := get_of_lt (xs := cs) (k := v) (by rw [HCL.out]; exact hlt)
      have hxb := HTB.out x (List.mem_of_getElem? hx)
      have hyb := HCB.out y (List.mem_of_getElem? hy)
      obtain ⟨bB, oB, hA, hbB, hcell⟩ := (h'.below HB.out).at_ (ints_at hy)
      subst hA
      have hms := trnTo_succ (n := n) hx hy
      have hat := trnTo_at (n := n) (cs := cs) hlt hx
      obtain ⟨g', hg', hgb, hfz, hcz⟩ := HO.out.block (by rw [trnTo_length]; omega)
      injection hg' with hg'
      injection hg' with hg'
      subst hg'
      have k0 := hcz v x hat
      have f0 := hfz v
      have hw1 : IntKind.i64.wrap (x - y) = x - y := IntWalk.i64_in _ (by omega)
      have O2 := HO.out.put v (x - y)
      rw [← hms] at O2
      have HO2 := Lib.hid O2
      have hgn : w.heap.size ≠ g := (own_blk HO.out HGr.out (by decide) ⟨_, rfl, rfl⟩).symm
      have G2 := Lib.hid (HGr.out.far (p := ⟨g, v, none⟩) hgn (.int .i64 (x - y)))
      have B2 := Lib.hid (HB.out.setCell (p := ⟨g, v, none⟩) (by show w.heap.size ≤ g; exact hgb) (.int .i64 (x - y)))
      clear hx hy hms hat O2 hfz hcz hgn
      go_wp2_with fail
      refine region_tail 12 (by kernel_rfl) (by kernel_rfl) ?_
      simp only [List.take_succ_cons, List.take_zero, List.drop_succ_cons, List.drop_zero]
      repeat still_step
      refine wpStill_nil ?_
      go_wp2
      go_roundw
      case rel => exact ⟨v + 1, by omega, by go_num, own_kept HO2.out (fun _ _ => rfl), G2.out, ⟨B2.out.os, B2.out.tape, B2.out.output, B2.out.size, B2.out.block⟩⟩
      case measure => simp [intOf]; omega
    · obtain rfl : v = n := by omega
      have hO := HO.out
      rw [HD.out] at hO
      have hB := HB.out
      go_wp2
      go_ret
      exact ⟨_, _, by rw [HDl.out]; rfl, hO, hB⟩

set_option maxRecDepth 100000 in
set_option maxHeartbeats 4000000 in
theorem rdualE_any (n : Int) (A : Option Addr) (c : Nat) (es : List E3) (hn : es.length ≤ 10000) (q : Int) (B : Option Addr) (d : Nat) (cs : List Int) (hm : cs.length ≤ 1048000) (w : World)
    (h : Reads w w.heap.size 3 A es.length (edgeCells es)) (h' : Reads w w.heap.size 1 B cs.length (ints cs)) :
    Calls Tryz.prog 21 #[.agg #[.int .i64 n, .slice A es.length c], .int .i64 q, .slice B cs.length d] w fun e w' => ∃ A' c', e = .returned (.tuple #[.slice A' (dulE n es q cs).1.length c', .int .i64 (dulE n es q cs).2]) ∧ OwnI w' w.heap.size A' c' (dulE n es q cs).1 ∧ Below w.heap.size w w' := by
  have BC := Lib.hid (rbcheck_any n A c es (by omega) q B d cs (by omega))
  have g0 := Blk.new w 24 #[.int .i64 n, .slice A es.length c]
  have hb0 : Below w.heap.size w (w.alloc (.cells #[.int .i64 n, .slice A es.length c] 24)) := (Below.refl _ _).alloc (Nat.le_refl _) _
  have c0 := g0.cell 0
  have c1 := g0.cell 1
  by_cases hz : burnErr n es q cs = 0
  · obtain ⟨hG, _, hq0, hqn, hlen, hbd, _⟩ := conf_zero (burn_zero hz).1
    have hzq := (burn_zero hz).2
    obtain ⟨m, rfl⟩ := Int.eq_ofNat_of_zero_le (show 0 ≤ n by have := hG.lo; omega)
    obtain ⟨p, rfl⟩ := Int.eq_ofNat_of_zero_le hq0
    obtain ⟨hR, hpm, hcl⟩ := burn_rargs hn hz
    have hE : dulE m es p cs = if stabTo es cs p m then (dulL m es cs p, 0) else ([], 15) := by unfold dulE; rw [if_pos hz]; simp
    rw [hE]
    rw [hz] at BC
    rw [Int.toNat_natCast] at hzq
    have SC := Lib.hid (fun (W : World) (hB : Below w.heap.size w W) => calm19_any m A c es hn hG p B d cs hcl W ((h.below hB).more hB.size) (by rw [← hcl]; exact (h'.below hB).more hB.size))
    have TC := Lib.hid (fun (W : World) (hB : Below w.heap.size w W) => rturned_any m A c es hn hG p B d cs hcl hbd hzq W ((h.below hB).more hB.size) (by rw [← hcl]; exact (h'.below hB).more hB.size))
    obtain ⟨S, hS⟩ : ∃ S, stabTo es cs p m = S := ⟨_, rfl⟩
    obtain ⟨R, hRR⟩ : ∃ R, dulL m es cs p = R := ⟨_, rfl⟩
    rw [hS] at SC ⊢
    rw [hRR] at TC ⊢
    rw [hcl] at BC h' ⊢
    clear hz hE hG hbd hqn hR hlen hcl hS hRR hzq
    go_enter Tryz.func21, Tryz.ntmps21
    go_wp2_with fail
    refine (BC.out _ ((h.below hb0).more hb0.size) ((h'.below hb0).more hb0.size)).mono ?_
    rintro e w1 ⟨rfl, hb1⟩
    have B1 := hb0.trans (hb1.mono hb0.size)
    have g1 := g0.next hb1
    have c0 := g1.cell 0
    have c1 := g1.cell 1
    go_wp2_with fail
    refine (SC.out _ B1).mono ?_
    rintro e w2 ⟨rfl, hb2⟩
    have B2 := B1.trans (hb2.mono B1.size)
    have g2 := g1.next hb2
    have c0 := g2.cell 0
    have c1 := g2.cell 1
    cases S
    · go_wp2
      go_ret2
      exact ⟨none, 0, rfl, OwnI.nil_ _ _, B2⟩
    · go_wp2_with fail
      refine (TC.out _ B2).mono ?_
      rintro e w3 ⟨A3, c3, rfl, o3, hb3⟩
      go_wp2
      go_ret2
      exact ⟨A3, c3, rfl, o3.mono B2.size, B2.trans (hb3.mono B2.size)⟩
  · have hE : dulE n es q cs = ([], burnErr n es q cs) := by unfold dulE; rw [if_neg hz]
    rw [hE]
    obtain ⟨z, hze⟩ : ∃ z, burnErr n es q cs = z := ⟨_, rfl⟩
    rw [hze] at BC hz ⊢
    have hz1 : (z != 0) = true := by simpa using hz
    clear hze hE hz
    go_enter Tryz.func21, Tryz.ntmps21
    go_wp2_with fail
    refine (BC.out _ ((h.below hb0).more hb0.size) ((h'.below hb0).more hb0.size)).mono ?_
    rintro e w1 ⟨rfl, hb1⟩
    go_wp2
    go_ret2
    exact ⟨none, 0, rfl, OwnI.nil_ _ _, hb0.trans (hb1.mono hb0.size)⟩
end Go.Proofs.YtdnoeaoelgehcaaGreat

/-! The reference's fire: ref08.Holds, ref23.Joins, ref23.ready, ref23.Burnt, ref23.Unburnt. -/
namespace Go.Proofs.YtdnoeaoelgehcaaGreat
open Go.RowKit

def natsI (l : List Nat) : List Int := l.map fun u : Nat => (u : Int)
theorem natsI_at {l : List Nat} {k x : Nat} (h : l[k]? = some x) : (natsI l)[k]? = some (x : Int) := by simp [natsI, h]
theorem natsI_length (l : List Nat) : (natsI l).length = l.length := by simp [natsI]
theorem natsI_snoc (l : List Nat) (x : Nat) : natsI (l ++ [x]) = natsI l ++ [(x : Int)] := by simp [natsI]
theorem natsI_mem {l : List Nat} {v : Nat} : ((v : Int) ∈ natsI l) ↔ v ∈ l := by
  unfold natsI; rw [List.mem_map]
  constructor
  · rintro ⟨u, hu, e⟩; have : u = v := by omega
    exact this ▸ hu
  · intro h; exact ⟨v, h, rfl⟩

set_option maxHeartbeats 1000000 in
theorem holds_any (A : Option Addr) (c : Nat) (xs : List Int) (hn : xs.length ≤ 1048576) (v : Int) (w : World) (h : Reads w w.heap.size 1 A xs.length (ints xs)) :
    Calls Tryz.prog 99 #[.slice A xs.length c, .int .i64 v] w fun e w' => e = .returned (.bool (decide (v ∈ xs))) ∧ w = w' := by
  obtain ⟨r, hr⟩ : ∃ r, decide (v ∈ xs) = r := ⟨_, rfl⟩
  rw [hr]
  have HR := Lib.hid hr
  clear hr
  go_enter Tryz.func99, Tryz.ntmps99
  go_wp2
  go_loop [5] (fun i => ∃ k : Nat, k ≤ xs.length ∧ i = .int .i64 k ∧ Hid (v ∉ xs.take k)) (fun i => xs.length - (intOf i).toNat)
  case atStart => exact ⟨0, by omega, rfl, by simp [Hid]⟩
  case round =>
    obtain ⟨k, hk, rfl, HS⟩ := hrel
    by_cases hlt : k < xs.length
    · obtain ⟨x, hx⟩ := get_of_lt hlt
      obtain ⟨b, off, rfl, hb, hcell⟩ := h.at_ (ints_at hx)
      have hi : (k : Int) < (xs.length : Int) := by omega
      have htk := take_snoc hx
      by_cases hv : x = v
      · have e : (x == v) = true := by simpa using hv
        have HT : Hid (decide (v ∈ xs) = true) := by
          rw [Hid, decide_eq_true_eq, ← hv]; exact List.mem_of_getElem? hx
        clear hx htk hv
        go_wp2
        go_ret
        exact ⟨ret_bool (by rw [← HR.out, HT.out]), rfl⟩
      · have e : (x == v) = false := by simpa using hv
        have HN : Hid (v ∉ xs.take (k + 1)) := by
          rw [htk, Hid, List.mem_append]
          rintro (hc | hc)
          · exact HS.out hc
          · exact hv (List.mem_singleton.1 hc).symm
        clear hx htk hv
        go_wp2
        go_round
        case rel => exact ⟨k + 1, by omega, by go_num, HN⟩
        case measure => simp [intOf]; omega
    · obtain rfl : k = xs.length := by omega
      rw [List.take_length] at HS
      go_wp2
      go_ret
      refine ⟨ret_bool ?_, rfl⟩
      rw [← HR.out, decide_eq_false HS.out]

set_option maxRecDepth 100000 in
set_option maxHeartbeats 2000000 in
theorem jns_any (n : Int) (A : Option Addr) (c : Nat) (es : List E3) (hn : es.length ≤ 1048576) (N : Int) (hok : ∀ e ∈ es, okE N e) (v : Nat) (B : Option Addr) (d : Nat) (l : List Nat) (hl : l.length ≤ 100) (w : World) (h : Reads w w.heap.size 3 A es.length (edgeCells es)) (h' : Reads w w.heap.size 1 B l.length (ints (natsI l))) :
    Calls Tryz.prog 143 #[.agg #[.int .i64 n, .slice A es.length c], .int .i64 v, .slice B l.length d] w fun e w' => e = .returned (.int .i64 (joinsN es v l)) ∧ Below w.heap.size w w' := by
  have HO := Lib.hid hok
  have g0 := Blk.new w 24 #[.int .i64 n, .slice A es.length c]
  clear hok
  go_enter Tryz.func143, Tryz.ntmps143
  go_wp2
  go_loopw [7, 8] (fun s i wr => ∃ (k : Nat) (x : Int), k ≤ l.length ∧ i = .int .i64 k ∧ s = .int .i64 x ∧ 0 ≤ x ∧ x ≤ 50 * k ∧ Hid (joinsN es v (l.take k) = x) ∧ Below w.heap.size w wr ∧ Blk wr w.heap.size 24 #[.int .i64 n, .slice A es.length c]) (fun _ i _ => l.length - (intOf i).toNat)
  case atStart => exact ⟨0, 0, by omega, rfl, rfl, by omega, by omega, rfl, (Below.refl _ _).alloc (Nat.le_refl _) _, g0⟩
  case round =>
    obtain ⟨k, x, hk, rfl, rfl, hx0, hx1, HS, hbel, g1⟩ := hrel
    clear g0
    have hsz := hbel.size
    by_cases hlt : k < l.length
    · obtain ⟨u, hu⟩ := get_of_lt hlt
      obtain ⟨b, off, rfl, hb, hcell⟩ := (h'.below hbel).at_ (ints_at (natsI_at hu))
      have hi : (k : Int) < (l.length : Int) := by omega
      have hj := joinsN_snoc es v (l.take k) u
      rw [← take_snoc hu, HS.out] at hj
      have hbd := btw_bd HO.out (v : Int) (u : Int)
      have BC := Lib.hid (between_any n A c es hn v u wr.drew (by exact (h.below hbel).more hsz))
      obtain ⟨y, hy⟩ : ∃ y, btw es v u = y := ⟨_, rfl⟩
      rw [hy] at hj hbd BC
      have HJ := Lib.hid hj
      have c0 := g1.cell 0
      have c1 := g1.cell 1
      clear hj hy hu
      go_wp2
      go_region_with (go_at_call 52; refine (BC.out).mono ?_; rintro e w' ⟨rfl, hb'⟩)
      all_goals (
        have hb2 : Below wr.heap.size wr w' := (Below.refl _ _).drew.trans hb'
        go_wp2
        go_roundw
        case rel => exact ⟨k + 1, x + y, by omega, by go_num, rfl, by omega, by omega, HJ.out, hbel.trans (hb2.mono hsz), g1.next hb2⟩
        case measure => simp [intOf]; omega)
    · obtain rfl : k = l.length := by omega
      rw [List.take_length] at HS
      go_wp2
      go_ret
      exact ⟨ret_int (by rw [HS.out]), hbel⟩

end Go.Proofs.YtdnoeaoelgehcaaGreat

/-! Plain: what proves that a configuration is superstable; the part of a slice. -/
namespace Go.Proofs.YtdnoeaoelgehcaaGreat
open Go.RowKit

theorem Reads.from_ {w : World} {B b off : Nat} {xs : List Int} (h : Reads w B 1 (some ⟨b, off, none⟩) xs.length (ints xs)) (k : Nat) (hk : k < xs.length) : Reads w B 1 (some ⟨b, off + k, none⟩) (xs.length - k) (ints (xs.drop k)) := by
  refine ⟨by simp [ints], fun _ => ?_⟩
  obtain ⟨b', off', hA, hb, hc⟩ := h.2 (by omega)
  injection hA with hA; injection hA with e1 e2; subst e1 e2
  refine ⟨b, off + k, rfl, hb, fun j v hv => ?_⟩
  rw [show off + k + j = off + (k + j) from by omega]
  exact hc (k + j) v (by rw [← hv]; simp [ints])
theorem Reads.upto {w : World} {B b off : Nat} {xs : List Int} (h : Reads w B 1 (some ⟨b, off, none⟩) xs.length (ints xs)) (k : Nat) (hk : k < xs.length) : Reads w B 1 (some ⟨b, off, none⟩) k (ints (xs.take k)) := by
  refine ⟨by simp [ints]; omega, fun _ => ?_⟩
  obtain ⟨b', off', hA, hb, hc⟩ := h.2 (by omega)
  injection hA with hA; injection hA with e1 e2; subst e1 e2
  refine ⟨b, off, rfl, hb, fun j v hv => hc j v ?_⟩
  have hj : j < k := by
    have := (List.getElem?_eq_some_iff.1 hv).1
    simp [ints] at this; omega
  rw [← hv]
  simp [ints, List.getElem?_take_of_lt hj]

/-- The error of a list that is to rename the numbers below n. -/
def renFrom (n : Int) : List Int → List Int → Int
  | _, [] => 0
  | s, x :: r => if x < 0 ∨ n ≤ x then 2 else if x ∈ s then 7 else renFrom n (s ++ [x]) r
def renErr (n : Int) (xs : List Int) : Int := if (xs.length : Int) ≠ n then 8 else renFrom n [] xs
theorem renFrom_at {n : Int} {xs : List Int} {k : Nat} {x : Int} (h : xs[k]? = some x) :
    renFrom n (xs.take k) (xs.drop k) = if x < 0 ∨ n ≤ x then 2 else if x ∈ xs.take k then 7 else renFrom n (xs.take (k + 1)) (xs.drop (k + 1)) := by
  obtain ⟨l1, e1⟩ := List.getElem?_eq_some_iff.1 h
  rw [List.drop_eq_getElem_cons l1, e1, renFrom, take_snoc h]
theorem renFrom_end (n : Int) (xs : List Int) : renFrom n (xs.take xs.length) (xs.drop xs.length) = 0 := by rw [List.drop_length]; rfl
theorem renFrom_zero {n : Int} : ∀ {r s : List Int}, renFrom n s r = 0 → (∀ x ∈ r, 0 ≤ x ∧ x < n ∧ x ∉ s) ∧ r.Nodup
  | [], _, _ => ⟨by simp, List.nodup_nil⟩
  | x :: r, s, h => by
    rw [renFrom] at h
    split at h
    · omega
    · split at h
      · omega
      · rename_i h1 h2
        obtain ⟨h3, h4⟩ := renFrom_zero h
        refine ⟨fun y hy => ?_, List.nodup_cons.2 ⟨fun hx => (h3 x hx).2.2 (by simp), h4⟩⟩
        rcases List.mem_cons.1 hy with rfl | hy
        · exact ⟨by omega, by omega, h2⟩
        · have := h3 y hy
          exact ⟨this.1, this.2.1, fun hc => this.2.2 (by simp [hc])⟩
/-- A list that renames is one of natural numbers, each below n once. -/
theorem ren_nats {n : Nat} {xs : List Int} (h : renErr n xs = 0) : ∃ l : List Nat, xs = natsI l ∧ LOk n l ∧ l.length = n := by
  unfold renErr at h
  split at h
  · omega
  · rename_i hl
    obtain ⟨h1, h2⟩ := renFrom_zero h
    refine ⟨xs.map Int.toNat, ?_, ⟨?_, ?_⟩, by rw [List.length_map]; omega⟩
    · unfold natsI
      rw [List.map_map]
      have hid : xs.map ((fun u : Nat => (u : Int)) ∘ Int.toNat) = xs.map id := List.map_congr_left fun x hx => by
        have := h1 x hx
        simp only [Function.comp, id]
        omega
      rw [hid, List.map_id]
    · rw [List.nodup_iff_pairwise_ne, List.pairwise_map]
      refine List.Pairwise.imp_of_mem ?_ (List.nodup_iff_pairwise_ne.1 h2)
      intro a b ha hb hab
      have := h1 a ha
      have := h1 b hb
      omega
    · intro u hu
      obtain ⟨x, hx, rfl⟩ := List.mem_map.1 hu
      have := h1 x hx
      omega

/-- Does each vertex of a list burn when the earlier ones are burnt? -/
def provFrom (es : List E3) (cs : List Int) : List Nat → List Nat → Bool
  | _, [] => true
  | s, x :: r => decide (cs.getD x 0 < joinsN es x s) && provFrom es cs (s ++ [x]) r
def provL (es : List E3) (cs : List Int) (l : List Nat) : Bool := provFrom es cs (l.take 1) (l.drop 1)
theorem provFrom_at {es : List E3} {cs : List Int} {l : List Nat} {k x : Nat} (h : l[k]? = some x) :
    provFrom es cs (l.take k) (l.drop k) = (decide (cs.getD x 0 < joinsN es x (l.take k)) && provFrom es cs (l.take (k + 1)) (l.drop (k + 1))) := by
  obtain ⟨l1, e1⟩ := List.getElem?_eq_some_iff.1 h
  rw [List.drop_eq_getElem_cons l1, e1, provFrom, take_snoc h]
/-- What Verify returns. -/
def verErr (n : Int) (es : List E3) (q : Int) (cs xs : List Int) : Int := if burnErr n es q cs ≠ 0 then burnErr n es q cs else renErr n xs
def verB (n : Int) (es : List E3) (q : Int) (cs xs : List Int) : Bool := if verErr n es q cs xs = 0 then decide (xs.getD 0 0 = q) && provL es cs (xs.map Int.toNat) else false
theorem nats_toNat (l : List Nat) : (natsI l).map Int.toNat = l := by
  unfold natsI
  rw [List.map_map]
  have : l.map (Int.toNat ∘ fun u : Nat => (u : Int)) = l.map id := List.map_congr_left fun _ _ => rfl
  rw [this, List.map_id]
theorem natsI_getD (l : List Nat) (k : Nat) : (natsI l).getD k 0 = ((l.getD k 0 : Nat) : Int) := by
  simp only [List.getD_eq_getElem?_getD, natsI, List.getElem?_map]
  cases l[k]? <;> rfl
theorem cat_fresh {es : List E3} {cs : List Int} {l : List Nat} {v : Nat} (h : v ∉ l) : catL es cs l v = decide (cs.getD v 0 < joinsN es v l) := by simp [catL, h]
end Go.Proofs.YtdnoeaoelgehcaaGreat

/-! slices.IndexFunc and ContainsFunc on ints, with a function that has captured one variable. -/
namespace Go.Proofs.YtdnoeaoelgehcaaGreat
open Go.RowKit

end Go.Proofs.YtdnoeaoelgehcaaGreat

