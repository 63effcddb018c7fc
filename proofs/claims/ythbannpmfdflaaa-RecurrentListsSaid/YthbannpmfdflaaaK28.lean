/-
  Texts of this claim, put together: RCalm, RTop, RBurn.
-/
import Derived.Test.YthbannpmfdflaaaK13
import Derived.Test.YthbannpmfdflaaaK20
import Derived.Test.YthbannpmfdflaaaK27
import Derived.Deep.RegionHeld3
import Derived.Test.YthbannpmfdflaaaK21
import Derived.Test.YthbannpmfdflaaaK07
import Derived.Test.YthbannpmfdflaaaK12
import Derived.StillTailTactics
import Derived.Deep.QuietTactic
import Derived.BigQuiet
import Derived.Deep.RegionWith
/-! ref08.Valence, ref19.Waiting, ref19.Calm. -/
namespace Go.Proofs.Ythbannpmfdflaaa
open Go.RowKit

theorem valS_bd {N : Int} {es : List E3} (hok : ∀ e ∈ es, okE N e) (v k : Nat) : 0 ≤ sumTo (fun w => tt es v w) k ∧ sumTo (fun w => tt es v w) k ≤ 50 * k := by
  induction k with
  | zero => simp [sumTo]
  | succ k ih =>
    have := tt_bd hok v k
    rw [sumTo]
    omega
set_option maxRecDepth 100000 in
set_option maxHeartbeats 4000000 in
theorem val08_any (n : Nat) (A : Option Addr) (c : Nat) (es : List E3) (hlen : es.length ≤ 10000) (hG : RightG n es) (v : Nat) (w : World) (h : Reads w w.heap.size 3 A es.length (edgeCells es)) :
    Calls Try.prog 150 #[.agg #[.int .i64 n, .slice A es.length c], .int .i64 v] w fun e w' => e = .returned (.int .i64 (valE es v)) ∧ Below w.heap.size w w' := by
  have HSB := Lib.hid (fun k => valS_bd hG.ok v k)
  have HVS : Hid (valE es v = sumTo (fun w => tt es v w) n) := valE_valS hG
  have hn12 : n ≤ 12 := by have := hG.hi; omega
  have HOK := Lib.hid hG.ok
  have g0 := Blk.new w 24 #[.int .i64 n, .slice A es.length c]
  have B0 : Below w.heap.size w (w.alloc (.cells #[.int .i64 n, .slice A es.length c] 24)) := (Below.refl _ _).alloc (Nat.le_refl _) _
  clear hG
  go_enter Try.func150, Try.ntmps150
  go_wp2_with fail
  go_loopw [5, 6] (fun s i wl => ∃ (k : Nat), i = .int .i64 k ∧ k ≤ n ∧ s = .int .i64 (sumTo (fun w => tt es v w) k) ∧ Hid (Below w.heap.size w wl) ∧ Hid (Blk wl w.heap.size 24 #[.int .i64 n, .slice A es.length c])) (fun _ i _ => n - (intOf i).toNat)
  case atStart => exact ⟨0, rfl, by omega, rfl, B0, g0⟩
  case round =>
    obtain ⟨k, rfl, hk, rfl, HB, HGr⟩ := hrel
    clear g0 B0
    have c0 := HGr.out.cell 0
    have c1 := HGr.out.cell 1
    have hs := HSB.out k
    obtain ⟨x, hx⟩ : ∃ x, sumTo (fun w => tt es v w) k = x := ⟨_, rfl⟩
    have hxs : sumTo (fun w => tt es v w) (k + 1) = x + tt es v k := by rw [sumTo, hx]
    rw [hx] at hs ⊢
    clear hx
    by_cases hlt : k < n
    · have hi : (k : Int) < (n : Int) := by omega
      by_cases hkv : k = v
      · have hne : ((k : Int) != (v : Int)) = false := by simp [hkv]
        have ht : tt es v k = 0 := by unfold tt; rw [if_pos hkv.symm]
        rw [ht, Int.add_zero] at hxs
        have HX := Lib.hid hxs
        clear hxs ht
        go_wp2
        go_roundw
        case rel => exact ⟨k + 1, by go_num, by omega, by rw [HX.out], HB, HGr⟩
        case measure => simp [intOf]; omega
      · have hne : ((k : Int) != (v : Int)) = true := by rw [bne_iff_ne]; omega
        have ht : tt es v k = btw es k v := by rw [tt_comm]; unfold tt; rw [if_neg hkv]
        have hbd := btw_bd HOK.out (k : Int) (v : Int)
        have BC := Lib.hid (between_any n A c es (by omega) k v wr ((h.below HB.out).more HB.out.size))
        rw [ht] at hxs
        obtain ⟨y, hy⟩ : ∃ y, btw es k v = y := ⟨_, rfl⟩
        rw [hy] at hxs hbd BC
        have hw1 : IntKind.i64.wrap (x + y) = x + y := IntWalk.i64_in _ (by omega)
        have HX := Lib.hid hxs
        clear hxs ht hy
        go_wp2_with fail
        refine (BC.out).mono ?_
        rintro e w5 ⟨rfl, b5⟩
        have B5 := Lib.hid (HB.out.trans (b5.mono HB.out.size))
        have G5 := Lib.hid (HGr.out.next b5)
        go_wp2
        go_roundw
        case rel => exact ⟨k + 1, by go_num, by omega, by rw [HX.out], B5, G5⟩
        case measure => simp [intOf]; omega
    · obtain rfl : k = n := by omega
      have hB := HB.out
      have HVX : Hid (valE es v = x) := by rw [Hid, HVS.out]; rw [sumTo] at hxs; omega
      go_wp2
      go_ret
      exact ⟨by rw [HVX.out]; rfl, hB⟩

/-- The unstable vertices below k. -/
def unsL (es : List E3) (q : Nat) (cs : List Int) (k : Nat) : List Nat := (List.range k).filter fun v => decide (v ≠ q) && decide (valE es v ≤ cs.getD v 0)
theorem unsL_succ (es : List E3) (q : Nat) (cs : List Int) (k : Nat) : unsL es q cs (k + 1) = unsL es q cs k ++ if k ≠ q ∧ valE es k ≤ cs.getD k 0 then [k] else [] := by
  unfold unsL
  rw [List.range_succ, List.filter_append]
  congr 1
  cases hp : (decide (k ≠ q) && decide (valE es k ≤ cs.getD k 0))
  · rw [if_neg (fun hc => by rw [decide_eq_true hc.1, decide_eq_true hc.2] at hp; cases hp)]
    rw [List.filter_cons, if_neg (by rw [hp]; simp), List.filter_nil]
  · rw [Bool.and_eq_true] at hp
    rw [if_pos ⟨of_decide_eq_true hp.1, of_decide_eq_true hp.2⟩]
    rw [List.filter_cons, if_pos (by rw [Bool.and_eq_true]; exact hp), List.filter_nil]
theorem unsL_len (es : List E3) (q : Nat) (cs : List Int) (k : Nat) : (unsL es q cs k).length ≤ k := by
  unfold unsL; exact Nat.le_trans (List.length_filter_le _ _) (by simp)
theorem unsL_nil (es : List E3) (q : Nat) (cs : List Int) (n : Nat) : decide ((unsL es q cs n).length = 0) = stabTo es cs q n := by
  rw [Bool.eq_iff_iff, decide_eq_true_iff, stabTo_iff, List.length_eq_zero_iff]
  unfold unsL
  rw [List.filter_eq_nil_iff]
  constructor
  · intro h v hv hq
    have := h v (List.mem_range.2 hv)
    rw [Bool.and_eq_true, not_and] at this
    have := this (by simpa using hq)
    simp at this
    rw [List.getD_eq_getElem?_getD]; omega
  · intro h v hv hc
    rw [Bool.and_eq_true] at hc
    have h1 := of_decide_eq_true hc.1
    have h2 := of_decide_eq_true hc.2
    have := h v (List.mem_range.1 hv) h1
    omega

set_option maxRecDepth 100000 in
set_option maxHeartbeats 4000000 in
theorem waiting_any (n : Nat) (A : Option Addr) (c : Nat) (es : List E3) (hlen : es.length ≤ 10000) (hG : RightG n es) (q : Nat) (B : Option Addr) (d : Nat) (cs : List Int) (hcl : cs.length = n) (w : World)
    (h : Reads w w.heap.size 3 A es.length (edgeCells es)) (h' : Reads w w.heap.size 1 B n (ints cs)) :
    Calls Try.prog 106 #[.agg #[.int .i64 n, .slice A es.length c], .int .i64 q, .slice B n d] w fun e w' => ∃ A' c', e = .returned (.slice A' (unsL es q cs n).length c') ∧ Below w.heap.size w w' := by
  have hn12 : n ≤ 12 := by have := hG.hi; omega
  have HV := Lib.hid (fun (v : Nat) (W : World) (hB : Below w.heap.size w W) => val08_any n A c es hlen hG v W ((h.below hB).more hB.size))
  have HCL := Lib.hid hcl
  have g0 := Blk.new w 24 #[.int .i64 n, .slice A es.length c]
  have B0 : Below w.heap.size w (w.alloc (.cells #[.int .i64 n, .slice A es.length c] 24)) := (Below.refl _ _).alloc (Nat.le_refl _) _
  clear hG hcl
  go_enter Try.func106, Try.ntmps106
  go_wp2_with fail
  go_loopw [7, 8] (fun o i wl => ∃ (k : Nat) (A' : Option Addr) (c' : Nat), i = .int .i64 k ∧ k ≤ n ∧ o = .slice A' (natI (unsL es q cs k)).length c' ∧ Hid (OwnI wl w.heap.size A' c' (natI (unsL es q cs k))) ∧ Hid (Below w.heap.size w wl) ∧ Hid (Blk wl w.heap.size 24 #[.int .i64 n, .slice A es.length c])) (fun _ i _ => n - (intOf i).toNat)
  case atStart => exact ⟨0, none, 0, rfl, by omega, rfl, OwnI.nil_ _ _, B0, g0⟩
  case round =>
    obtain ⟨k, A', c', rfl, hk, rfl, HO, HB, HGr⟩ := hrel
    clear g0 B0
    have c0 := HGr.out.cell 0
    have c1 := HGr.out.cell 1
    by_cases hlt : k < n
    · have hi : (k : Int) < (n : Int) := by omega
      obtain ⟨x, hx⟩ := get_of_lt (xs := cs) (k := k) (by rw [HCL.out]; exact hlt)
      obtain ⟨bB, oB, hA, hbB, hcell⟩ := (h'.below HB.out).at_ (ints_at hx)
      subst hA
      have hus := unsL_succ es q cs k
      rw [getD_at hx] at hus
      by_cases hkq : k = q
      · have hne : ((k : Int) != (q : Int)) = false := by simp [hkq]
        rw [if_neg (fun hc => hc.1 hkq), List.append_nil] at hus
        have HUS := Lib.hid hus
        clear hus hx hkq
        go_wp2_with fail
        go_quiet (fail)
        have OD : Hid (OwnI (wr.drewN nq) w.heap.size A' c' (natI (unsL es q cs k))) := HO.out.drewN nq
        have BD : Hid (Below w.heap.size w (wr.drewN nq)) := ⟨HB.out.os, HB.out.tape, HB.out.output, HB.out.size, HB.out.block⟩
        have GD : Hid (Blk (wr.drewN nq) w.heap.size 24 #[.int .i64 n, .slice A es.length c]) := HGr.out
        go_wp2
        go_roundw
        case rel => exact ⟨k + 1, A', c', by go_num, by omega, by rw [HUS.out], by rw [HUS.out]; exact OD, BD, GD⟩
        case measure => simp [intOf]; omega
      · have hne : ((k : Int) != (q : Int)) = true := by rw [bne_iff_ne]; omega
        have HV1 := HV.out k wr.drew HB.out.drew
        obtain ⟨V, hVV⟩ : ∃ V, valE es k = V := ⟨_, rfl⟩
        rw [hVV] at HV1 hus
        have HV1 := Lib.hid HV1
        have hgl := HGr.out.lt
        have hbl : bB < wr.heap.size := by have := HB.out.size; omega
        have HGL := Lib.hid hgl
        have HBL := Lib.hid hbl
        by_cases hge : V ≤ x
        · rw [if_pos ⟨hkq, hge⟩] at hus
          have HUS := Lib.hid hus
          have HKQ := Lib.hid hkq
          clear hus hx hkq hVV hgl hbl
          go_wp2_with fail
          go_region_held3 (fun W => W.cell? ⟨w.heap.size, 0, none⟩ = some (.int .i64 n) ∧ W.cell? ⟨w.heap.size, 1, none⟩ = some (.slice A es.length c) ∧ W.cell? ⟨bB, oB + k, none⟩ = some (.int .i64 x)) (go_keep)
            (first | (go_at_call 150; refine (HV1.out).mono ?_; rintro e w5 ⟨rfl, b5⟩
                      have k0 := (b5.cell (p := ⟨w.heap.size, 0, none⟩) HGL.out).trans c0
                      have k1 := (b5.cell (p := ⟨w.heap.size, 1, none⟩) HGL.out).trans c1
                      have k2 := (b5.cell (p := ⟨bB, oB + k, none⟩) HBL.out).trans hcell))
          all_goals
            have B5 := HB.out.drew.trans (b5.mono HB.out.drew.size)
            have O5 : OwnI w5 w.heap.size A' c' (natI (unsL es q cs k)) := OwnI.next (w := wr.drew) HO.out b5
            have G5 : Blk w5 w.heap.size 24 #[.int .i64 n, .slice A es.length c] := Blk.next (w := wr.drew) HGr.out b5
            have hl5 : (natI (unsL es q cs k)).length ≤ 1048000 := by rw [natI_length]; have := unsL_len es q cs k; omega
            have hsz5 := B5.size
            go_wp2_with (at_builtin; refine push_int rfl (.tmp 28) (.tmp 30) _ rfl Try.underlying25 w.heap.size A' c' (natI (unsL es q cs k)) (k : Int) rfl O5 rfl rfl hl5 hsz5 ?_; intro A2 c2 w2 ho2 hgr hb2)
            have G6 := (G5.alloc (.cells #[.int .i64 k] 3)).grown hgr (own_blk_ne O5 G5 (by decide))
            have B6 := B5.trans hb2
            have hsn : natI (unsL es q cs (k + 1)) = natI (unsL es q cs k) ++ [(k : Int)] := by rw [HUS.out, natI_snoc]
            go_roundw
            case rel => exact ⟨k + 1, A2, c2, by go_num, by omega, by rw [hsn]; simp, by rw [hsn]; exact ho2, B6, G6⟩
            case measure => simp [intOf]; omega
        · rw [if_neg (fun hc => hge hc.2), List.append_nil] at hus
          have HUS := Lib.hid hus
          clear hus hx hkq hVV hgl hbl
          go_wp2_with fail
          go_region_held3 (fun W => W.cell? ⟨w.heap.size, 0, none⟩ = some (.int .i64 n) ∧ W.cell? ⟨w.heap.size, 1, none⟩ = some (.slice A es.length c) ∧ W.cell? ⟨bB, oB + k, none⟩ = some (.int .i64 x)) (go_keep)
            (first | (go_at_call 150; refine (HV1.out).mono ?_; rintro e w5 ⟨rfl, b5⟩
                      have k0 := (b5.cell (p := ⟨w.heap.size, 0, none⟩) HGL.out).trans c0
                      have k1 := (b5.cell (p := ⟨w.heap.size, 1, none⟩) HGL.out).trans c1
                      have k2 := (b5.cell (p := ⟨bB, oB + k, none⟩) HBL.out).trans hcell))
          all_goals
            have B5 : Hid (Below w.heap.size w w5) := HB.out.drew.trans (b5.mono HB.out.drew.size)
            have O5 : Hid (OwnI w5 w.heap.size A' c' (natI (unsL es q cs k))) := OwnI.next (w := wr.drew) HO.out b5
            have G5 : Hid (Blk w5 w.heap.size 24 #[.int .i64 n, .slice A es.length c]) := Blk.next (w := wr.drew) HGr.out b5
            go_wp2
            go_roundw
            case rel => exact ⟨k + 1, A', c', by go_num, by omega, by rw [HUS.out], by rw [HUS.out]; exact O5, B5, G5⟩
            case measure => simp [intOf]; omega
    · obtain rfl : k = n := by omega
      have hB := HB.out
      have HL : Hid ((natI (unsL es q cs k)).length = (unsL es q cs k).length) := natI_length _
      go_wp2
      go_ret
      exact ⟨A', c', by rw [← HL.out]; rfl, hB⟩
set_option maxHeartbeats 2000000 in
theorem calm19_any (n : Nat) (A : Option Addr) (c : Nat) (es : List E3) (hlen : es.length ≤ 10000) (hG : RightG n es) (q : Nat) (B : Option Addr) (d : Nat) (cs : List Int) (hcl : cs.length = n) (w : World)
    (h : Reads w w.heap.size 3 A es.length (edgeCells es)) (h' : Reads w w.heap.size 1 B n (ints cs)) :
    Calls Try.prog 55 #[.agg #[.int .i64 n, .slice A es.length c], .int .i64 q, .slice B n d] w fun e w' => e = .returned (.bool (stabTo es cs q n)) ∧ Below w.heap.size w w' := by
  have WC := Lib.hid (fun (W : World) (hB : Below w.heap.size w W) => waiting_any n A c es hlen hG q B d cs hcl W ((h.below hB).more hB.size) ((h'.below hB).more hB.size))
  have B0 : Below w.heap.size w (w.alloc (.cells #[.int .i64 n, .slice A es.length c] 24)) := (Below.refl _ _).alloc (Nat.le_refl _) _
  have HU := Lib.hid (unsL_nil es q cs n)
  have g0 := Blk.new w 24 #[.int .i64 n, .slice A es.length c]
  have c0 := g0.cell 0
  have c1 := g0.cell 1
  clear hG hcl
  go_enter Try.func55, Try.ntmps55
  go_wp2_with fail
  refine (WC.out _ B0).mono ?_
  rintro e w1 ⟨A', c', rfl, hb1⟩
  go_wp2
  go_ret
  exact ⟨ret_bool (by rw [← HU.out, Bool.eq_iff_iff]; simp), B0.trans (hb1.mono B0.size)⟩
end Go.Proofs.Ythbannpmfdflaaa

/-! ref19.Top: the maximal stable configuration. -/
namespace Go.Proofs.Ythbannpmfdflaaa
open Go.RowKit

theorem valE_at {n v : Nat} {es : List E3} (hok : ∀ e ∈ es, okE n e) (hv : v < n) : (valL n (endsL es))[v]? = some (valE es v) := by
  have hl := (valL_bd n (endsL es)).1
  obtain ⟨x, hx⟩ := get_of_lt (xs := valL n (endsL es)) (k := v) (by rw [hl]; exact hv)
  have := valL_val (n := n) hok (v := v)
  rw [getD_at hx] at this
  rw [hx, this]

set_option maxRecDepth 100000 in
set_option maxHeartbeats 4000000 in
theorem rtop_any (n : Nat) (A : Option Addr) (c : Nat) (es : List E3) (hlen : es.length ≤ 10000) (hG : RightG n es) (q : Nat) (w : World) (h : Reads w w.heap.size 3 A es.length (edgeCells es)) :
    Calls Try.prog 148 #[.agg #[.int .i64 n, .slice A es.length c], .int .i64 q] w fun e w' => ∃ Am cm, e = .returned (.slice Am n cm) ∧ OwnI w' w.heap.size Am cm (maxL n es q) ∧ Below w.heap.size w w' := by
  have hn : n ≤ 12 := by have := hG.hi; omega
  have g0 := Blk.new w 24 #[.int .i64 n, .slice A es.length c]
  have B0 : Below w.heap.size w (w.alloc (.cells #[.int .i64 n, .slice A es.length c] 24)) := (Below.refl _ _).alloc (Nat.le_refl _) _
  have c0 := g0.cell 0
  have hmd := make_div n (by omega)
  have VC := Lib.hid (fun (v : Nat) (W : World) (hB : Below w.heap.size w W) => val08_any n A c es hlen hG v W ((h.below hB).more hB.size))
  have HV := Lib.hid (fun (v : Nat) (hv : v < n) => valE_at hG.ok hv)
  have HVB := Lib.hid (fun v : Nat => valE_bd hG.ok v)
  have O1 := Blk.new (w.alloc (.cells #[.int .i64 n, .slice A es.length c] 24)) 3 (ints (List.replicate n 0)).toArray
  have hs1 : (w.alloc (.cells #[.int .i64 n, .slice A es.length c] 24)).heap.size = w.heap.size + 1 := by simp
  rw [hs1] at O1
  have g1 := g0.alloc (.cells (ints (List.replicate n 0)).toArray 3)
  have B1 := B0.alloc (by simp) (.cells (ints (List.replicate n 0)).toArray 3)
  have HM : Hid (maxTo n (valL n (endsL es)) q n = maxL n es q) := rfl
  obtain ⟨val, hval⟩ : ∃ val, valL n (endsL es) = val := ⟨_, rfl⟩
  rw [hval] at HV HM
  clear hG hval
  go_enter Try.func148, Try.ntmps148
  go_wp2_with fail
  go_loopw [6] (fun i wl => ∃ v : Nat, v ≤ n ∧ i = .int .i64 v ∧ Blk wl (w.heap.size + 1) 3 (intCells (maxTo n val q v)) ∧ Blk wl w.heap.size 24 #[.int .i64 n, .slice A es.length c] ∧ Below w.heap.size w wl) (fun i _ => n - (intOf i).toNat)
  case atStart => exact ⟨0, by omega, rfl, by rw [maxTo_zero]; exact O1, g1, B1⟩
  case round =>
    obtain ⟨v, hv, rfl, O7, G7, hB7⟩ := hrel
    clear O1 g1 B1 g0 B0 c0
    have hs7 := hB7.size
    have c0 := G7.cell 0
    have c1 := G7.cell 1
    by_cases hlv : v < n
    · have hi : (v : Int) < (n : Int) := by omega
      by_cases hvq : v = q
      · have hne2 : ((v : Int) != (q : Int)) = false := by simp [hvq]
        subst hvq
        have hms := Lib.hid (maxTo_sink n val v)
        go_wp2
        go_roundw
        case rel => exact ⟨v + 1, by omega, by go_num, by rw [hms.out]; exact O7, G7, hB7⟩
        case measure => simp [intOf]; omega
      · have hne2 : ((v : Int) != (q : Int)) = true := by rw [bne_iff_ne]; omega
        have hms := Lib.hid (maxTo_succ n val q v hvq _ (HV.out v hlv))
        obtain ⟨y, hy⟩ := get_of_lt (xs := maxTo n val q v) (k := v) (by rw [maxTo_length]; exact hlv)
        have HY := Lib.hid hy
        have VC1 := Lib.hid (VC.out v wr hB7)
        have hvb := HVB.out v
        obtain ⟨x, hx⟩ : ∃ x, valE es v = x := ⟨_, rfl⟩
        rw [hx] at VC1 hms hvb
        clear hy hx
        go_wp2_with fail
        refine (VC1.out).mono ?_
        rintro e w5 ⟨rfl, hb5⟩
        have O5 := O7.next hb5
        have G5 := G7.next hb5
        have B5 := hB7.trans (hb5.mono hs7)
        have hs5 := B5.size
        have co := (O5.cell v).trans (intCells_get HY.out)
        have cf := O5.frozen v
        have O8 := O5.set_ v (.int .i64 (x - 1))
        rw [intCells_set, ← hms.out] at O8
        have G8 := G5.far (p := ⟨w.heap.size + 1, v, none⟩) (by simp) (.int .i64 (x - 1))
        have B8 := B5.setCell (p := ⟨w.heap.size + 1, v, none⟩) (by simp) (.int .i64 (x - 1))
        have HO8 := Lib.hid O8
        clear O8 O7 G7 hb5
        go_wp2
        go_roundw
        case rel => exact ⟨v + 1, by omega, by go_num, HO8.out, G8, B8⟩
        case measure => simp [intOf]; omega
    · obtain rfl : v = n := by omega
      go_wp2
      go_ret
      refine ⟨_, _, rfl, ?_, hB7⟩
      have hl := maxTo_length v val q v
      have := OwnI.of_blk O7 (show w.heap.size ≤ w.heap.size + 1 by omega) (by rw [hl]; simp [maxLen]; omega)
      rw [hl] at this
      rw [← HM.out]
      exact this
end Go.Proofs.Ythbannpmfdflaaa

/-! The reference's fire: ref08.Holds, ref23.Joins, ref23.ready, ref23.Burnt, ref23.Unburnt. -/
namespace Go.Proofs.Ythbannpmfdflaaa
open Go.RowKit

def natsI (l : List Nat) : List Int := l.map fun u : Nat => (u : Int)
theorem natsI_at {l : List Nat} {k x : Nat} (h : l[k]? = some x) : (natsI l)[k]? = some (x : Int) := by simp [natsI, h]
theorem natsI_length (l : List Nat) : (natsI l).length = l.length := by simp [natsI]
theorem natsI_snoc (l : List Nat) (x : Nat) : natsI (l ++ [x]) = natsI l ++ [(x : Int)] := by simp [natsI]
theorem natsI_mem {l : List Nat} {v : Nat} : ((v : Int) ∈ natsI l) ↔ v ∈ l := by
  unfold natsI; rw [List.mem_map]
  constructor
  · rintro ⟨u, hu, e⟩; have : u = v := by omega
    exact this ▸ hu
  · intro h; exact ⟨v, h, rfl⟩

set_option maxHeartbeats 1000000 in
theorem holds_any (A : Option Addr) (c : Nat) (xs : List Int) (hn : xs.length ≤ 1048576) (v : Int) (w : World) (h : Reads w w.heap.size 1 A xs.length (ints xs)) :
    Calls Try.prog 127 #[.slice A xs.length c, .int .i64 v] w fun e w' => e = .returned (.bool (decide (v ∈ xs))) ∧ w = w' := by
  obtain ⟨r, hr⟩ : ∃ r, decide (v ∈ xs) = r := ⟨_, rfl⟩
  rw [hr]
  have HR := Lib.hid hr
  clear hr
  go_enter Try.func127, Try.ntmps127
  go_wp2
  go_loop [5] (fun i => ∃ k : Nat, k ≤ xs.length ∧ i = .int .i64 k ∧ Hid (v ∉ xs.take k)) (fun i => xs.length - (intOf i).toNat)
  case atStart => exact ⟨0, by omega, rfl, by simp [Hid]⟩
  case round =>
    obtain ⟨k, hk, rfl, HS⟩ := hrel
    by_cases hlt : k < xs.length
    · obtain ⟨x, hx⟩ := get_of_lt hlt
      obtain ⟨b, off, rfl, hb, hcell⟩ := h.at_ (ints_at hx)
      have hi : (k : Int) < (xs.length : Int) := by omega
      have htk := take_snoc hx
      by_cases hv : x = v
      · have e : (x == v) = true := by simpa using hv
        have HT : Hid (decide (v ∈ xs) = true) := by
          rw [Hid, decide_eq_true_eq, ← hv]; exact List.mem_of_getElem? hx
        clear hx htk hv
        go_wp2
        go_ret
        exact ⟨ret_bool (by rw [← HR.out, HT.out]), rfl⟩
      · have e : (x == v) = false := by simpa using hv
        have HN : Hid (v ∉ xs.take (k + 1)) := by
          rw [htk, Hid, List.mem_append]
          rintro (hc | hc)
          · exact HS.out hc
          · exact hv (List.mem_singleton.1 hc).symm
        clear hx htk hv
        go_wp2
        go_round
        case rel => exact ⟨k + 1, by omega, by go_num, HN⟩
        case measure => simp [intOf]; omega
    · obtain rfl : k = xs.length := by omega
      rw [List.take_length] at HS
      go_wp2
      go_ret
      refine ⟨ret_bool ?_, rfl⟩
      rw [← HR.out, decide_eq_false HS.out]

set_option maxRecDepth 100000 in
set_option maxHeartbeats 2000000 in
theorem jns_any (n : Int) (A : Option Addr) (c : Nat) (es : List E3) (hn : es.length ≤ 1048576) (N : Int) (hok : ∀ e ∈ es, okE N e) (v : Nat) (B : Option Addr) (d : Nat) (l : List Nat) (hl : l.length ≤ 100) (w : World) (h : Reads w w.heap.size 3 A es.length (edgeCells es)) (h' : Reads w w.heap.size 1 B l.length (ints (natsI l))) :
    Calls Try.prog 128 #[.agg #[.int .i64 n, .slice A es.length c], .int .i64 v, .slice B l.length d] w fun e w' => e = .returned (.int .i64 (joinsN es v l)) ∧ Below w.heap.size w w' := by
  have HO := Lib.hid hok
  have g0 := Blk.new w 24 #[.int .i64 n, .slice A es.length c]
  clear hok
  go_enter Try.func128, Try.ntmps128
  go_wp2
  go_loopw [7, 8] (fun s i wr => ∃ (k : Nat) (x : Int), k ≤ l.length ∧ i = .int .i64 k ∧ s = .int .i64 x ∧ 0 ≤ x ∧ x ≤ 50 * k ∧ Hid (joinsN es v (l.take k) = x) ∧ Below w.heap.size w wr ∧ Blk wr w.heap.size 24 #[.int .i64 n, .slice A es.length c]) (fun _ i _ => l.length - (intOf i).toNat)
  case atStart => exact ⟨0, 0, by omega, rfl, rfl, by omega, by omega, rfl, (Below.refl _ _).alloc (Nat.le_refl _) _, g0⟩
  case round =>
    obtain ⟨k, x, hk, rfl, rfl, hx0, hx1, HS, hbel, g1⟩ := hrel
    clear g0
    have hsz := hbel.size
    by_cases hlt : k < l.length
    · obtain ⟨u, hu⟩ := get_of_lt hlt
      obtain ⟨b, off, rfl, hb, hcell⟩ := (h'.below hbel).at_ (ints_at (natsI_at hu))
      have hi : (k : Int) < (l.length : Int) := by omega
      have hj := joinsN_snoc es v (l.take k) u
      rw [← take_snoc hu, HS.out] at hj
      have hbd := btw_bd HO.out (v : Int) (u : Int)
      have BC := Lib.hid (between_any n A c es hn v u wr.drew (by exact (h.below hbel).more hsz))
      obtain ⟨y, hy⟩ : ∃ y, btw es v u = y := ⟨_, rfl⟩
      rw [hy] at hj hbd BC
      have HJ := Lib.hid hj
      have c0 := g1.cell 0
      have c1 := g1.cell 1
      clear hj hy hu
      go_wp2
      go_region_with (go_at_call 156; refine (BC.out).mono ?_; rintro e w' ⟨rfl, hb'⟩)
      all_goals (
        have hb2 : Below wr.heap.size wr w' := (Below.refl _ _).drew.trans hb'
        go_wp2
        go_roundw
        case rel => exact ⟨k + 1, x + y, by omega, by go_num, rfl, by omega, by omega, HJ.out, hbel.trans (hb2.mono hsz), g1.next hb2⟩
        case measure => simp [intOf]; omega)
    · obtain rfl : k = l.length := by omega
      rw [List.take_length] at HS
      go_wp2
      go_ret
      exact ⟨ret_int (by rw [HS.out]), hbel⟩

set_option maxRecDepth 100000 in
set_option maxHeartbeats 4000000 in
theorem rready_any (n : Nat) (hn12 : n ≤ 12) (A : Option Addr) (c : Nat) (es : List E3) (hn : es.length ≤ 1048576) (N : Int) (hok : ∀ e ∈ es, okE N e) (B : Option Addr) (d : Nat) (cs : List Int) (hcl : cs.length = n) (D : Option Addr) (f : Nat) (l : List Nat) (hl : l.length ≤ 100) (w : World)
    (h : Reads w w.heap.size 3 A es.length (edgeCells es)) (h' : Reads w w.heap.size 1 B cs.length (ints cs)) (h'' : Reads w w.heap.size 1 D l.length (ints (natsI l))) :
    Calls Try.prog 131 #[.agg #[.int .i64 n, .slice A es.length c], .slice B cs.length d, .slice D l.length f] w fun e w' => ∃ A' c', e = .returned (.slice A' (readyL es cs n l).length c') ∧ OwnI w' w.heap.size A' c' (natsI (readyL es cs n l)) ∧ Below w.heap.size w w' := by
  have HO := Lib.hid hok
  have HCL := Lib.hid hcl
  have g0 := Blk.new w 24 #[.int .i64 n, .slice A es.length c]
  have hfs : ∀ k, ((List.range (k + 1)).filter (catL es cs l)) = ((List.range k).filter (catL es cs l)) ++ if catL es cs l k then [k] else [] := fun k => by
    rw [List.range_succ, List.filter_append]
    cases hc : catL es cs l k <;> simp [hc]
  have HFS := Lib.hid hfs
  have HRD : Hid (readyL es cs n l = (List.range n).filter (catL es cs l)) := rfl
  have hcat : ∀ k, catL es cs l k = (!decide (k ∈ l) && decide (cs.getD k 0 < joinsN es k l)) := fun _ => rfl
  have HCAT := Lib.hid hcat
  clear hok hcl hfs hcat
  go_enter Try.func131, Try.ntmps131
  go_wp2
  go_loopw [7, 8] (fun s i wr => ∃ (k : Nat) (A' : Option Addr) (c' : Nat) (r : List Nat), k ≤ n ∧ i = .int .i64 k ∧ s = .slice A' (natsI r).length c' ∧ Hid ((List.range k).filter (catL es cs l) = r) ∧ (natsI r).length ≤ k ∧ OwnI wr w.heap.size A' c' (natsI r) ∧ Below w.heap.size w wr ∧ Blk wr w.heap.size 24 #[.int .i64 n, .slice A es.length c]) (fun _ i _ => n - (intOf i).toNat)
  case atStart => exact ⟨0, none, 0, [], by omega, rfl, rfl, rfl, by simp [natsI], OwnI.nil_ _ _, (Below.refl _ _).alloc (Nat.le_refl _) _, g0⟩
  case round =>
    obtain ⟨k, A', c', r, hk, rfl, rfl, HR, hrl, hown, hbel, g1⟩ := hrel
    clear g0
    have hsz := hbel.size
    have c0 := g1.cell 0
    have c1 := g1.cell 1
    by_cases hlt : k < n
    · have hi : (k : Int) < (n : Int) := by omega
      obtain ⟨x, hx⟩ := get_of_lt (xs := cs) (k := k) (by have := HCL.out; omega)
      obtain ⟨b, off, rfl, hb, hcell⟩ := (h'.below hbel).at_ (ints_at hx)
      have hkc : (k : Int) < (cs.length : Int) := by have := HCL.out; omega
      have hct := HCAT.out k
      rw [getD_at hx] at hct
      have hfk := HFS.out k
      rw [HR.out] at hfk
      have HC := holds_any D f (natsI l) (by rw [natsI_length]; omega) (k : Int) wr.drew (by have := (h''.below hbel).more hsz; rw [natsI_length]; exact this)
      rw [natsI_length, show decide ((k : Int) ∈ natsI l) = decide (k ∈ l) from by rw [Bool.eq_iff_iff]; simp [natsI_mem]] at HC
      have JC := jns_any n A c es hn N HO.out k D f l hl wr.drew (by exact (h.below hbel).more hsz) (by exact (h''.below hbel).more hsz)
      by_cases hm : k ∈ l
      · rw [decide_eq_true hm] at HC hct
        have hc0 : catL es cs l k = false := by rw [hct]; rfl
        rw [hc0] at hfk
        have HF := Lib.hid hfk
        have hrl2 := (h''.below hbel).more hsz
        have HQ : Hid (∀ W : World, Reads W W.heap.size 1 D l.length (ints (natsI l)) → Calls Try.prog 127 #[.slice D l.length f, .int .i64 k] W fun e w' => e = .returned (.bool true) ∧ W = w') := by
          intro W hW
          have := holds_any D f (natsI l) (by rw [natsI_length]; omega) (k : Int) W (by rw [natsI_length]; exact hW)
          rwa [natsI_length, decide_eq_true (natsI_mem.2 hm)] at this
        have HRL := Lib.hid hrl2
        clear hct hc0 hfk hx hm JC HC hrl2
        go_wp2
        go_quiet ((go_at_call 127; exact Calls.quiet_of_same ((HQ.out _ (by exact HRL.out)).mono fun _ _ h => ⟨h.1, h.2.symm⟩)))
        go_wp2
        go_roundw
        case rel => exact ⟨k + 1, A', c', r, by omega, by go_num, rfl, by rw [HF.out]; simp [Hid], by omega, hown.drewN _, below_drewN hbel _, g1.drewN _⟩
        case measure => simp [intOf]; omega
      · rw [decide_eq_false hm] at HC hct
        have HC := Lib.hid HC
        have JC := Lib.hid JC
        obtain ⟨y, hy⟩ : ∃ y, joinsN es k l = y := ⟨_, rfl⟩
        rw [hy] at hct JC
        by_cases hxy : x < y
        · have hc0 : catL es cs l k = true := by rw [hct, decide_eq_true hxy]; rfl
          rw [hc0] at hfk
          have HF := Lib.hid hfk
          clear hct hc0 hfk hx hm hy
          go_wp2
          go_region_with (first
            | (go_at_call 127; refine (HC.out).mono ?_; rintro e w' ⟨rfl, rfl⟩)
            | (go_at_call 128; refine (JC.out).mono ?_; rintro e w2 ⟨rfl, hb2⟩; have e2 := (hb2.cell (p := ⟨b, off + k, none⟩) (by show b < wr.heap.size; omega)).trans hcell))
          all_goals (
            have hb3 : Below wr.heap.size wr w2 := (Below.refl _ _).drew.trans hb2
            have hown3 := hown.next hb3
            have hbel3 := hbel.trans (hb3.mono hsz)
            have hsz3 := hbel3.size
            have g3 := g1.next hb3
            go_wp2_with (at_builtin; refine push_int rfl (.tmp 30) (.tmp 32) _ rfl Try.underlying25 w.heap.size A' c' (natsI r) (k : Int) rfl hown3 rfl rfl (by omega) hsz3 ?_; intro A4 c4 w4 hown4 hg4 hb4; have g4 := (g3.alloc _).grown hg4 (own_blk_ne hown3 g3 (by decide)))
            go_roundw
            case rel => exact ⟨k + 1, A4, c4, r ++ [k], by omega, by go_num, by rw [natsI_snoc]; simp, by rw [HF.out]; simp [Hid], by rw [natsI_snoc]; simp; omega, by rw [natsI_snoc]; exact hown4, hbel3.trans hb4, g4⟩
            case measure => simp [intOf]; omega)
        · have hc0 : catL es cs l k = false := by rw [hct, decide_eq_false hxy]; rfl
          rw [hc0] at hfk
          have HF := Lib.hid hfk
          clear hct hc0 hfk hx hm hy
          go_wp2
          go_region_with (first
            | (go_at_call 127; refine (HC.out).mono ?_; rintro e w' ⟨rfl, rfl⟩)
            | (go_at_call 128; refine (JC.out).mono ?_; rintro e w2 ⟨rfl, hb2⟩; have e2 := (hb2.cell (p := ⟨b, off + k, none⟩) (by show b < wr.heap.size; omega)).trans hcell))
          all_goals (
            have hb3 : Below wr.heap.size wr w2 := (Below.refl _ _).drew.trans hb2
            go_wp2
            go_roundw
            case rel => exact ⟨k + 1, A', c', r, by omega, by go_num, rfl, by rw [HF.out]; simp [Hid], by omega, hown.next hb3, hbel.trans (hb3.mono hsz), g1.next hb3⟩
            case measure => simp [intOf]; omega)
    · obtain rfl : k = n := by omega
      go_wp2
      go_ret
      exact ⟨A', c', by rw [HRD.out, HR.out, natsI_length]; rfl, by rw [HRD.out, HR.out]; exact hown, hbel⟩
end Go.Proofs.Ythbannpmfdflaaa

