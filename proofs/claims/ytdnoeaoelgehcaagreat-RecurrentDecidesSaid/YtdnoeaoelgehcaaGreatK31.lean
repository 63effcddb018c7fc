/-
  Texts of this claim, put together: RCalm, RRVer2, BitsP, RSets.
-/
import Derived.Test.YtdnoeaoelgehcaaGreatK13
import Derived.Test.YtdnoeaoelgehcaaGreatK20
import Derived.Test.YtdnoeaoelgehcaaGreatK28
import Derived.Deep.RegionHeld3
import Derived.Test.YtdnoeaoelgehcaaGreatK29
import Derived.Test.YtdnoeaoelgehcaaGreatK30
import Derived.Test.YtdnoeaoelgehcaaGreatK04
import Derived.WalkKit
/-! ref08.Valence, ref19.Waiting, ref19.Calm. -/
namespace Go.Proofs.YtdnoeaoelgehcaaGreat
open Go.RowKit

theorem valS_bd {N : Int} {es : List E3} (hok : ∀ e ∈ es, okE N e) (v k : Nat) : 0 ≤ sumTo (fun w => tt es v w) k ∧ sumTo (fun w => tt es v w) k ≤ 50 * k := by
  induction k with
  | zero => simp [sumTo]
  | succ k ih =>
    have := tt_bd hok v k
    rw [sumTo]
    omega
set_option maxRecDepth 100000 in
set_option maxHeartbeats 4000000 in
theorem val08_any (n : Nat) (A : Option Addr) (c : Nat) (es : List E3) (hlen : es.length ≤ 10000) (hG : RightG n es) (v : Nat) (w : World) (h : Reads w w.heap.size 3 A es.length (edgeCells es)) :
    Calls Tryz.prog 32 #[.agg #[.int .i64 n, .slice A es.length c], .int .i64 v] w fun e w' => e = .returned (.int .i64 (valE es v)) ∧ Below w.heap.size w w' := by
  have HSB := Lib.hid (fun k => valS_bd hG.ok v k)
  have HVS : Hid (valE es v = sumTo (fun w => tt es v w) n) := valE_valS hG
  have hn12 : n ≤ 12 := by have := hG.hi; omega
  have HOK := Lib.hid hG.ok
  have g0 := Blk.new w 24 #[.int .i64 n, .slice A es.length c]
  have B0 : Below w.heap.size w (w.alloc (.cells #[.int .i64 n, .slice A es.length c] 24)) := (Below.refl _ _).alloc (Nat.le_refl _) _
  clear hG
  go_enter Tryz.func32, Tryz.ntmps32
  go_wp2_with fail
  go_loopw [5, 6] (fun s i wl => ∃ (k : Nat), i = .int .i64 k ∧ k ≤ n ∧ s = .int .i64 (sumTo (fun w => tt es v w) k) ∧ Hid (Below w.heap.size w wl) ∧ Hid (Blk wl w.heap.size 24 #[.int .i64 n, .slice A es.length c])) (fun _ i _ => n - (intOf i).toNat)
  case atStart => exact ⟨0, rfl, by omega, rfl, B0, g0⟩
  case round =>
    obtain ⟨k, rfl, hk, rfl, HB, HGr⟩ := hrel
    clear g0 B0
    have c0 := HGr.out.cell 0
    have c1 := HGr.out.cell 1
    have hs := HSB.out k
    obtain ⟨x, hx⟩ : ∃ x, sumTo (fun w => tt es v w) k = x := ⟨_, rfl⟩
    have hxs : sumTo (fun w => tt es v w) (k + 1) = x + tt es v k := by rw [sumTo, hx]
    rw [hx] at hs ⊢
    clear hx
    by_cases hlt : k < n
    · have hi : (k : Int) < (n : Int) := by omega
      by_cases hkv : k = v
      · have hne : ((k : Int) != (v : Int)) = false := by simp [hkv]
        have ht : tt es v k = 0 := by unfold tt; rw [if_pos hkv.symm]
        rw [ht, Int.add_zero] at hxs
        have HX := Lib.hid hxs
        clear hxs ht
        go_wp2
        go_roundw
        case rel => exact ⟨k + 1, by go_num, by omega, by rw [HX.out], HB, HGr⟩
        case measure => simp [intOf]; omega
      · have hne : ((k : Int) != (v : Int)) = true := by rw [bne_iff_ne]; omega
        have ht : tt es v k = btw es k v := by rw [tt_comm]; unfold tt; rw [if_neg hkv]
        have hbd := btw_bd HOK.out (k : Int) (v : Int)
        have BC := Lib.hid (between_any n A c es (by omega) k v wr ((h.below HB.out).more HB.out.size))
        rw [ht] at hxs
        obtain ⟨y, hy⟩ : ∃ y, btw es k v = y := ⟨_, rfl⟩
        rw [hy] at hxs hbd BC
        have hw1 : IntKind.i64.wrap (x + y) = x + y := IntWalk.i64_in _ (by omega)
        have HX := Lib.hid hxs
        clear hxs ht hy
        go_wp2_with fail
        refine (BC.out).mono ?_
        rintro e w5 ⟨rfl, b5⟩
        have B5 := Lib.hid (HB.out.trans (b5.mono HB.out.size))
        have G5 := Lib.hid (HGr.out.next b5)
        go_wp2
        go_roundw
        case rel => exact ⟨k + 1, by go_num, by omega, by rw [HX.out], B5, G5⟩
        case measure => simp [intOf]; omega
    · obtain rfl : k = n := by omega
      have hB := HB.out
      have HVX : Hid (valE es v = x) := by rw [Hid, HVS.out]; rw [sumTo] at hxs; omega
      go_wp2
      go_ret
      exact ⟨by rw [HVX.out]; rfl, hB⟩

/-- The unstable vertices below k. -/
def unsL (es : List E3) (q : Nat) (cs : List Int) (k : Nat) : List Nat := (List.range k).filter fun v => decide (v ≠ q) && decide (valE es v ≤ cs.getD v 0)
theorem unsL_succ (es : List E3) (q : Nat) (cs : List Int) (k : Nat) : unsL es q cs (k + 1) = unsL es q cs k ++ if k ≠ q ∧ valE es k ≤ cs.getD k 0 then [k] else [] := by
  unfold unsL
  rw [List.range_succ, List.filter_append]
  congr 1
  cases hp : (decide (k ≠ q) && decide (valE es k ≤ cs.getD k 0))
  · rw [if_neg (fun hc => by rw [decide_eq_true hc.1, decide_eq_true hc.2] at hp; cases hp)]
    rw [List.filter_cons, if_neg (by rw [hp]; simp), List.filter_nil]
  · rw [Bool.and_eq_true] at hp
    rw [if_pos ⟨of_decide_eq_true hp.1, of_decide_eq_true hp.2⟩]
    rw [List.filter_cons, if_pos (by rw [Bool.and_eq_true]; exact hp), List.filter_nil]
theorem unsL_len (es : List E3) (q : Nat) (cs : List Int) (k : Nat) : (unsL es q cs k).length ≤ k := by
  unfold unsL; exact Nat.le_trans (List.length_filter_le _ _) (by simp)
theorem unsL_nil (es : List E3) (q : Nat) (cs : List Int) (n : Nat) : decide ((unsL es q cs n).length = 0) = stabTo es cs q n := by
  rw [Bool.eq_iff_iff, decide_eq_true_iff, stabTo_iff, List.length_eq_zero_iff]
  unfold unsL
  rw [List.filter_eq_nil_iff]
  constructor
  · intro h v hv hq
    have := h v (List.mem_range.2 hv)
    rw [Bool.and_eq_true, not_and] at this
    have := this (by simpa using hq)
    simp at this
    rw [List.getD_eq_getElem?_getD]; omega
  · intro h v hv hc
    rw [Bool.and_eq_true] at hc
    have h1 := of_decide_eq_true hc.1
    have h2 := of_decide_eq_true hc.2
    have := h v (List.mem_range.1 hv) h1
    omega

set_option maxRecDepth 100000 in
set_option maxHeartbeats 4000000 in
theorem waiting_any (n : Nat) (A : Option Addr) (c : Nat) (es : List E3) (hlen : es.length ≤ 10000) (hG : RightG n es) (q : Nat) (B : Option Addr) (d : Nat) (cs : List Int) (hcl : cs.length = n) (w : World)
    (h : Reads w w.heap.size 3 A es.length (edgeCells es)) (h' : Reads w w.heap.size 1 B n (ints cs)) :
    Calls Tryz.prog 105 #[.agg #[.int .i64 n, .slice A es.length c], .int .i64 q, .slice B n d] w fun e w' => ∃ A' c', e = .returned (.slice A' (unsL es q cs n).length c') ∧ Below w.heap.size w w' := by
  have hn12 : n ≤ 12 := by have := hG.hi; omega
  have HV := Lib.hid (fun (v : Nat) (W : World) (hB : Below w.heap.size w W) => val08_any n A c es hlen hG v W ((h.below hB).more hB.size))
  have HCL := Lib.hid hcl
  have g0 := Blk.new w 24 #[.int .i64 n, .slice A es.length c]
  have B0 : Below w.heap.size w (w.alloc (.cells #[.int .i64 n, .slice A es.length c] 24)) := (Below.refl _ _).alloc (Nat.le_refl _) _
  clear hG hcl
  go_enter Tryz.func105, Tryz.ntmps105
  go_wp2_with fail
  go_loopw [7, 8] (fun o i wl => ∃ (k : Nat) (A' : Option Addr) (c' : Nat), i = .int .i64 k ∧ k ≤ n ∧ o = .slice A' (natI (unsL es q cs k)).length c' ∧ Hid (OwnI wl w.heap.size A' c' (natI (unsL es q cs k))) ∧ Hid (Below w.heap.size w wl) ∧ Hid (Blk wl w.heap.size 24 #[.int .i64 n, .slice A es.length c])) (fun _ i _ => n - (intOf i).toNat)
  case atStart => exact ⟨0, none, 0, rfl, by omega, rfl, OwnI.nil_ _ _, B0, g0⟩
  case round =>
    obtain ⟨k, A', c', rfl, hk, rfl, HO, HB, HGr⟩ := hrel
    clear g0 B0
    have c0 := HGr.out.cell 0
    have c1 := HGr.out.cell 1
    by_cases hlt : k < n
    · have hi : (k : Int) < (n : Int) := by omega
      obtain ⟨x, hx⟩ := get_of_lt (xs := cs) (k := k) (by rw [HCL.out]; exact hlt)
      obtain ⟨bB, oB, hA, hbB, hcell⟩ := (h'.below HB.out).at_ (ints_at hx)
      subst hA
      have hus := unsL_succ es q cs k
      rw [getD_at hx] at hus
      by_cases hkq : k = q
      · have hne : ((k : Int) != (q : Int)) = false := by simp [hkq]
        rw [if_neg (fun hc => hc.1 hkq), List.append_nil] at hus
        have HUS := Lib.hid hus
        clear hus hx hkq
        go_wp2_with fail
        go_quiet (fail)
        have OD : Hid (OwnI (wr.drewN nq) w.heap.size A' c' (natI (unsL es q cs k))) := HO.out.drewN nq
        have BD : Hid (Below w.heap.size w (wr.drewN nq)) := ⟨HB.out.os, HB.out.tape, HB.out.output, HB.out.size, HB.out.block⟩
        have GD : Hid (Blk (wr.drewN nq) w.heap.size 24 #[.int .i64 n, .slice A es.length c]) := HGr.out
        go_wp2
        go_roundw
        case rel => exact ⟨k + 1, A', c', by go_num, by omega, by rw [HUS.out], by rw [HUS.out]; exact OD, BD, GD⟩
        case measure => simp [intOf]; omega
      · have hne : ((k : Int) != (q : Int)) = true := by rw [bne_iff_ne]; omega
        have HV1 := HV.out k wr.drew HB.out.drew
        obtain ⟨V, hVV⟩ : ∃ V, valE es k = V := ⟨_, rfl⟩
        rw [hVV] at HV1 hus
        have HV1 := Lib.hid HV1
        have hgl := HGr.out.lt
        have hbl : bB < wr.heap.size := by have := HB.out.size; omega
        have HGL := Lib.hid hgl
        have HBL := Lib.hid hbl
        by_cases hge : V ≤ x
        · rw [if_pos ⟨hkq, hge⟩] at hus
          have HUS := Lib.hid hus
          have HKQ := Lib.hid hkq
          clear hus hx hkq hVV hgl hbl
          go_wp2_with fail
          go_region_held3 (fun W => W.cell? ⟨w.heap.size, 0, none⟩ = some (.int .i64 n) ∧ W.cell? ⟨w.heap.size, 1, none⟩ = some (.slice A es.length c) ∧ W.cell? ⟨bB, oB + k, none⟩ = some (.int .i64 x)) (go_keep)
            (first | (go_at_call 32; refine (HV1.out).mono ?_; rintro e w5 ⟨rfl, b5⟩
                      have k0 := (b5.cell (p := ⟨w.heap.size, 0, none⟩) HGL.out).trans c0
                      have k1 := (b5.cell (p := ⟨w.heap.size, 1, none⟩) HGL.out).trans c1
                      have k2 := (b5.cell (p := ⟨bB, oB + k, none⟩) HBL.out).trans hcell))
          all_goals
            have B5 := HB.out.drew.trans (b5.mono HB.out.drew.size)
            have O5 : OwnI w5 w.heap.size A' c' (natI (unsL es q cs k)) := OwnI.next (w := wr.drew) HO.out b5
            have G5 : Blk w5 w.heap.size 24 #[.int .i64 n, .slice A es.length c] := Blk.next (w := wr.drew) HGr.out b5
            have hl5 : (natI (unsL es q cs k)).length ≤ 1048000 := by rw [natI_length]; have := unsL_len es q cs k; omega
            have hsz5 := B5.size
            go_wp2_with (at_builtin; refine push_int rfl (.tmp 28) (.tmp 30) _ rfl Tryz.underlying25 w.heap.size A' c' (natI (unsL es q cs k)) (k : Int) rfl O5 rfl rfl hl5 hsz5 ?_; intro A2 c2 w2 ho2 hgr hb2)
            have G6 := (G5.alloc (.cells #[.int .i64 k] 3)).grown hgr (own_blk_ne O5 G5 (by decide))
            have B6 := B5.trans hb2
            have hsn : natI (unsL es q cs (k + 1)) = natI (unsL es q cs k) ++ [(k : Int)] := by rw [HUS.out, natI_snoc]
            go_roundw
            case rel => exact ⟨k + 1, A2, c2, by go_num, by omega, by rw [hsn]; simp, by rw [hsn]; exact ho2, B6, G6⟩
            case measure => simp [intOf]; omega
        · rw [if_neg (fun hc => hge hc.2), List.append_nil] at hus
          have HUS := Lib.hid hus
          clear hus hx hkq hVV hgl hbl
          go_wp2_with fail
          go_region_held3 (fun W => W.cell? ⟨w.heap.size, 0, none⟩ = some (.int .i64 n) ∧ W.cell? ⟨w.heap.size, 1, none⟩ = some (.slice A es.length c) ∧ W.cell? ⟨bB, oB + k, none⟩ = some (.int .i64 x)) (go_keep)
            (first | (go_at_call 32; refine (HV1.out).mono ?_; rintro e w5 ⟨rfl, b5⟩
                      have k0 := (b5.cell (p := ⟨w.heap.size, 0, none⟩) HGL.out).trans c0
                      have k1 := (b5.cell (p := ⟨w.heap.size, 1, none⟩) HGL.out).trans c1
                      have k2 := (b5.cell (p := ⟨bB, oB + k, none⟩) HBL.out).trans hcell))
          all_goals
            have B5 : Hid (Below w.heap.size w w5) := HB.out.drew.trans (b5.mono HB.out.drew.size)
            have O5 : Hid (OwnI w5 w.heap.size A' c' (natI (unsL es q cs k))) := OwnI.next (w := wr.drew) HO.out b5
            have G5 : Hid (Blk w5 w.heap.size 24 #[.int .i64 n, .slice A es.length c]) := Blk.next (w := wr.drew) HGr.out b5
            go_wp2
            go_roundw
            case rel => exact ⟨k + 1, A', c', by go_num, by omega, by rw [HUS.out], by rw [HUS.out]; exact O5, B5, G5⟩
            case measure => simp [intOf]; omega
    · obtain rfl : k = n := by omega
      have hB := HB.out
      have HL : Hid ((natI (unsL es q cs k)).length = (unsL es q cs k).length) := natI_length _
      go_wp2
      go_ret
      exact ⟨A', c', by rw [← HL.out]; rfl, hB⟩
set_option maxHeartbeats 2000000 in
theorem calm19_any (n : Nat) (A : Option Addr) (c : Nat) (es : List E3) (hlen : es.length ≤ 10000) (hG : RightG n es) (q : Nat) (B : Option Addr) (d : Nat) (cs : List Int) (hcl : cs.length = n) (w : World)
    (h : Reads w w.heap.size 3 A es.length (edgeCells es)) (h' : Reads w w.heap.size 1 B n (ints cs)) :
    Calls Tryz.prog 64 #[.agg #[.int .i64 n, .slice A es.length c], .int .i64 q, .slice B n d] w fun e w' => e = .returned (.bool (stabTo es cs q n)) ∧ Below w.heap.size w w' := by
  have WC := Lib.hid (fun (W : World) (hB : Below w.heap.size w W) => waiting_any n A c es hlen hG q B d cs hcl W ((h.below hB).more hB.size) ((h'.below hB).more hB.size))
  have B0 : Below w.heap.size w (w.alloc (.cells #[.int .i64 n, .slice A es.length c] 24)) := (Below.refl _ _).alloc (Nat.le_refl _) _
  have HU := Lib.hid (unsL_nil es q cs n)
  have g0 := Blk.new w 24 #[.int .i64 n, .slice A es.length c]
  have c0 := g0.cell 0
  have c1 := g0.cell 1
  clear hG hcl
  go_enter Tryz.func64, Tryz.ntmps64
  go_wp2_with fail
  refine (WC.out _ B0).mono ?_
  rintro e w1 ⟨A', c', rfl, hb1⟩
  go_wp2
  go_ret
  exact ⟨ret_bool (by rw [← HU.out, Bool.eq_iff_iff]; simp), B0.trans (hb1.mono B0.size)⟩
end Go.Proofs.YtdnoeaoelgehcaaGreat

/-! ref24.catches, Proves, Verify. -/
namespace Go.Proofs.YtdnoeaoelgehcaaGreat
open Go.RowKit

set_option maxRecDepth 100000 in
set_option maxHeartbeats 8000000 in
theorem rrcatches_any (n : Nat) (A : Option Addr) (c : Nat) (es : List E3) (B : Option Addr) (d : Nat) (cs : List Int) (hR : RArgs n es cs) (v : Nat) (hv : v < n) (D : Option Addr) (f : Nat) (l : List Nat) (hl : LOk n l) (hvl : v ∉ l) (w : World)
    (h : Reads w w.heap.size 3 A es.length (edgeCells es)) (h' : Reads w w.heap.size 1 B n (ints cs)) (h'' : Reads w w.heap.size 1 D l.length (ints (natsI l))) :
    Calls Tryz.prog 100 #[.agg #[.int .i64 n, .slice A es.length c], .slice B n d, .int .i64 v, .slice D l.length f] w fun e w' => e = .returned (.bool (catchB es cs l v)) ∧ Below w.heap.size w w' := by
  have hG := right_of hR.hz
  have hn := hR.hn
  have hhi := hG.hi
  have hll := nodup_len hl
  obtain ⟨x, hx⟩ := get_of_lt (xs := cs) (k := v) (by rw [hR.hcl]; exact hv)
  have hxb := hR.hcb x (List.mem_of_getElem? hx)
  obtain ⟨bB, oB, rfl, hbB, hcell⟩ := h'.at_ (ints_at hx)
  have JB := jnE_bd hG.ok l v
  have HJ := Lib.hid (fun (W : World) (hB : Below w.heap.size w W) => jns_any n A c es (by omega) n hG.ok v D f l (by omega) W ((h.below hB).more hB.size) ((h''.below hB).more hB.size))
  have HV := Lib.hid (fun (W : World) (hB : Below w.heap.size w W) => val08_any n A c es hn hG v W ((h.below hB).more hB.size))
  rw [← jn_joins hG hl hvl] at HJ
  unfold catchB
  rw [getD_at hx]
  have g0 := Blk.new w 24 #[.int .i64 n, .slice A es.length c]
  have hB0 : Below w.heap.size w (w.alloc (.cells #[.int .i64 n, .slice A es.length c] 24)) := (Below.refl _ _).alloc (Nat.le_refl _) _
  have hce := (hB0.cell (p := ⟨bB, oB + v, none⟩) hbB).trans hcell
  have hi : (v : Int) < (n : Int) := by omega
  obtain ⟨J, hJ⟩ : ∃ J, jnE es l v = J := ⟨_, rfl⟩
  obtain ⟨V, hV⟩ : ∃ V, valE es v = V := ⟨_, rfl⟩
  rw [hJ] at HJ JB ⊢
  rw [hV] at HV ⊢
  have hw : IntKind.i64.wrap (x + J) = x + J := IntWalk.i64_in _ (by omega)
  clear hJ hV hR hG hx hcell hl hvl hll
  have c0 := g0.cell 0
  have c1 := g0.cell 1
  have hgw : w.heap.size < (w.alloc (.cells #[.int .i64 n, .slice A es.length c] 24)).heap.size := by simp
  obtain ⟨W0, hW0⟩ : ∃ W0, w.alloc (.cells #[.int .i64 n, .slice A es.length c] 24) = W0 := ⟨_, rfl⟩
  have HW0 := Lib.hid hW0
  rw [hW0] at g0 hB0 hce c0 c1 hgw
  clear hW0
  have HJ2 := Lib.hid (fun (W : World) (hB : Below W0.heap.size W0 W) => HJ.out W (hB0.trans (hB.mono hB0.size)))
  have HV2 := Lib.hid (fun (W : World) (hB : Below W0.heap.size W0 W) => HV.out W (hB0.trans (hB.mono hB0.size)))
  have hb5 : bB < W0.heap.size := by have := hB0.size; omega
  have KC := Lib.hid (fun (W : World) (hB : Below W0.heap.size W0 W) => (⟨(hB.cell (p := ⟨w.heap.size, 0, none⟩) hgw).trans c0, (hB.cell (p := ⟨w.heap.size, 1, none⟩) hgw).trans c1, (hB.cell (p := ⟨bB, oB + v, none⟩) hb5).trans hce⟩ :
    W.cell? ⟨w.heap.size, 0, none⟩ = some (.int .i64 n) ∧ W.cell? ⟨w.heap.size, 1, none⟩ = some (.slice A es.length c) ∧ W.cell? ⟨bB, oB + v, none⟩ = some (.int .i64 x)))
  have B0 : Below W0.heap.size W0 W0.drew := (Below.refl _ _).drew
  clear g0 HJ HV
  go_enter Tryz.func100, Tryz.ntmps100
  go_wp2_with fail
  rw [HW0.out]
  go_region_held3 (fun W => W.cell? ⟨w.heap.size, 0, none⟩ = some (.int .i64 n) ∧ W.cell? ⟨w.heap.size, 1, none⟩ = some (.slice A es.length c) ∧ W.cell? ⟨bB, oB + v, none⟩ = some (.int .i64 x)) (go_keep)
    (first
      | (go_at_call 143; refine (HJ2.out _ B0).mono ?_; rintro e wJ ⟨rfl, bJ⟩; have BJ := B0.trans (bJ.mono (Nat.le_refl _)); obtain ⟨j0, j1, j2⟩ := KC.out wJ BJ)
      | (go_at_call 143; refine (HJ2.out _ BV).mono ?_; rintro e wJ ⟨rfl, bJ⟩; have BJ := BV.trans (bJ.mono BV.size); obtain ⟨j0, j1, j2⟩ := KC.out wJ BJ)
      | (go_at_call 32; refine (HV2.out _ B0).mono ?_; rintro e wV ⟨rfl, bV⟩; have BV := B0.trans (bV.mono (Nat.le_refl _)); obtain ⟨l0, l1, l2⟩ := KC.out wV BV)
      | (go_at_call 32; refine (HV2.out _ BJ).mono ?_; rintro e wV ⟨rfl, bV⟩; have BV := BJ.trans (bV.mono BJ.size); obtain ⟨l0, l1, l2⟩ := KC.out wV BV))
  all_goals
    go_wp2
    go_ret
    first
      | exact ⟨rfl, hB0.trans (BV.mono hB0.size)⟩
      | exact ⟨rfl, hB0.trans (BJ.mono hB0.size)⟩

end Go.Proofs.YtdnoeaoelgehcaaGreat

/-! Plain laws of sets as binary numbers. No program is in sight. -/
namespace Go.Proofs.YtdnoeaoelgehcaaGreat

/-- The numbers below k whose binary digits are in a number. -/
def bitsL (k D : Nat) : List Nat := (List.range k).filter fun i => decide (D / 2 ^ i % 2 = 1)
theorem bitsL_yes {k D : Nat} (h : D / 2 ^ k % 2 = 1) : bitsL (k + 1) D = bitsL k D ++ [k] := by simp [bitsL, List.range_succ, h]
theorem bitsL_no {k D : Nat} (h : ¬ D / 2 ^ k % 2 = 1) : bitsL (k + 1) D = bitsL k D := by simp [bitsL, List.range_succ, h]
theorem bitsL_length (k D : Nat) : (bitsL k D).length ≤ k := Nat.le_trans (List.length_filter_le _ _) (by simp)
theorem bits_lt {k D : Nat} : ∀ v ∈ bitsL k D, v < k := fun v hv => by
  have := (List.mem_filter.1 hv).1
  simpa using this
/-! Sets as numbers. -/
theorem bits_all (p : Nat → Bool) : ∀ n, ∃ D, D < 2 ^ n ∧ bitsL n D = (List.range n).filter p
  | 0 => ⟨0, by simp, rfl⟩
  | n + 1 => by
    obtain ⟨D, hD, hb⟩ := bits_all p n
    have key : ∀ E : Nat, (∀ i, i < n → E.testBit i = D.testBit i) → bitsL n E = bitsL n D := by
      intro E hE
      unfold bitsL
      refine List.filter_congr fun i hi => ?_
      have := hE i (by simpa using hi)
      rwa [Nat.testBit_eq_decide_div_mod_eq, Nat.testBit_eq_decide_div_mod_eq] at this
    by_cases hp : p n = true
    · refine ⟨2 ^ n + D, by rw [Nat.pow_succ]; omega, ?_⟩
      have h1 : (2 ^ n + D) / 2 ^ n % 2 = 1 := by
        rw [Nat.add_div_left _ (Nat.two_pow_pos n), Nat.div_eq_of_lt hD]
      rw [bitsL_yes h1, key _ (fun i hi => Nat.testBit_two_pow_add_gt hi D), hb, List.range_succ, List.filter_append]
      simp [hp]
    · refine ⟨D, by rw [Nat.pow_succ]; omega, ?_⟩
      have h1 : ¬ D / 2 ^ n % 2 = 1 := by rw [Nat.div_eq_of_lt hD]; decide
      rw [bitsL_no h1, hb, List.range_succ, List.filter_append]
      simp [hp]
theorem mem_bits {k D v : Nat} : v ∈ bitsL k D ↔ v < k ∧ D.testBit v = true := by
  unfold bitsL
  rw [List.mem_filter, List.mem_range, Nat.testBit_eq_decide_div_mod_eq]
theorem bits_inj {k D D' : Nat} (h1 : D < 2 ^ k) (h2 : D' < 2 ^ k) (h : bitsL k D = bitsL k D') : D = D' := by
  apply Nat.eq_of_testBit_eq
  intro i
  rcases Nat.lt_or_ge i k with hi | hi
  · have e : (i ∈ bitsL k D) ↔ (i ∈ bitsL k D') := by rw [h]
    rw [mem_bits, mem_bits] at e
    rw [Bool.eq_iff_iff]
    exact ⟨fun x => (e.1 ⟨hi, x⟩).2, fun x => (e.2 ⟨hi, x⟩).2⟩
  · have hp : 2 ^ k ≤ 2 ^ i := Nat.pow_le_pow_right (by omega) hi
    rw [Nat.testBit_lt_two_pow (by omega), Nat.testBit_lt_two_pow (by omega)]
theorem bits_asc' (k D : Nat) : (bitsL k D).Pairwise (· < ·) := List.Pairwise.sublist List.filter_sublist List.pairwise_lt_range
/-- Each ascending list of numbers is a set with a number. -/
theorem bits_of {k : Nat} {x : List Nat} (h : x.Pairwise (· < ·)) (hl : ∀ v ∈ x, v < k) : ∃ D, D < 2 ^ k ∧ bitsL k D = x := by
  obtain ⟨D, hD, hb⟩ := bits_all (fun v => decide (v ∈ x)) k
  refine ⟨D, hD, ?_⟩
  rw [hb]
  refine List.Perm.eq_of_pairwise (le := (· < ·)) (fun a b _ _ h1 h2 => by omega) (List.Pairwise.sublist List.filter_sublist List.pairwise_lt_range) h ?_
  refine (List.perm_ext_iff_of_nodup (List.Nodup.sublist List.filter_sublist List.nodup_range) (h.imp fun h => by omega)).2 fun v => ?_
  rw [List.mem_filter, List.mem_range, decide_eq_true_eq]
  exact ⟨fun h => h.2, fun h => ⟨hl v h, h⟩⟩
end Go.Proofs.YtdnoeaoelgehcaaGreat

/-! ref23.members and Subsets: all sets of vertices. -/
namespace Go.Proofs.YtdnoeaoelgehcaaGreat
open Go.RowKit

/-- All sets. -/
def subsL (n K : Nat) : List (List Int) := (List.range K).map fun D => natsI (bitsL n D)
theorem subsL_succ (n K : Nat) : subsL n (K + 1) = subsL n K ++ [natsI (bitsL n K)] := by simp [subsL, List.range_succ]
theorem subsL_length (n K : Nat) : (subsL n K).length = K := by simp [subsL]

set_option maxHeartbeats 2000000 in
theorem members_any (n D : Nat) (hn : n ≤ 12) (hD : D ≤ 4096) (w : World) :
    Calls Tryz.prog 146 #[.int .i64 n, .int .i64 D] w fun e w' => ∃ A c, e = .returned (.slice A (bitsL n D).length c) ∧ OwnI w' w.heap.size A c (natsI (bitsL n D)) ∧ Below w.heap.size w w' := by
  go_enter Tryz.func146, Tryz.ntmps146
  go_wp2
  go_loopw [1, 5, 6] (fun dg s i wr => ∃ (k m : Nat) (A : Option Addr) (c : Nat) (r : List Nat), k ≤ n ∧ m ≤ 4096 ∧ dg = .int .i64 m ∧ i = .int .i64 k ∧ s = .slice A (natsI r).length c ∧ Hid (m = D / 2 ^ k) ∧ Hid (r = bitsL k D) ∧ (natsI r).length ≤ k ∧ OwnI wr w.heap.size A c (natsI r) ∧ Below w.heap.size w wr) (fun _ _ i _ => n - (intOf i).toNat)
  case atStart => exact ⟨0, D, none, 0, [], by omega, hD, rfl, rfl, rfl, by simp [Hid], by simp [Hid, bitsL], by simp [natsI], OwnI.nil_ _ _, Below.refl _ _⟩
  case round =>
    obtain ⟨k, m, A, c, r, hk, hm, rfl, rfl, rfl, HM, HR, hrl, hown, hbel⟩ := hrel
    have hsz := hbel.size
    by_cases hlt : k < n
    · have hi : (k : Int) < (n : Int) := by omega
      have hquo : (m : Int).tdiv 2 = ((m / 2 : Nat) : Int) := rfl
      have hnext : Hid (m / 2 = D / 2 ^ (k + 1)) := by rw [Hid, HM.out, Nat.pow_succ, Nat.div_div_eq_div_mul]
      have hm2 : m / 2 ≤ 4096 := by omega
      obtain ⟨m', hm'⟩ : ∃ m', m / 2 = m' := ⟨_, rfl⟩
      rw [hm'] at hquo hnext hm2
      by_cases hb : m % 2 = 1
      · have hrem : (m : Int).tmod 2 = 1 := by show ((m % 2 : Nat) : Int) = 1; omega
        have HS : Hid (r ++ [k] = bitsL (k + 1) D) := by rw [Hid, bitsL_yes (by rw [← HM.out]; exact hb), HR.out]
        clear hb hm'
        go_wp2_with (at_builtin; refine push_int rfl (.tmp 15) (.tmp 17) _ rfl Tryz.underlying25 w.heap.size A c (natsI r) (k : Int) rfl hown rfl rfl (by omega) (by omega) ?_; intro A2 c2 w2 hown2 hg2 hb2)
        have hb3 : Below w.heap.size w w2 := hbel.trans hb2
        go_roundw
        case rel => exact ⟨k + 1, m', A2, c2, r ++ [k], by omega, hm2, by go_num, by go_num, by rw [natsI_snoc]; simp, hnext, HS, by rw [natsI_snoc]; simp; omega, by rw [natsI_snoc]; exact hown2, hb3⟩
        case measure => simp [intOf]; omega
      · have hrem : (m : Int).tmod 2 = 0 := by show ((m % 2 : Nat) : Int) = 0; omega
        have HS : Hid (r = bitsL (k + 1) D) := by rw [Hid, bitsL_no (by rw [← HM.out]; exact hb), HR.out]
        clear hb hm'
        go_wp2
        go_roundw
        case rel => exact ⟨k + 1, m', A, c, r, by omega, hm2, by go_num, by go_num, rfl, hnext, HS, by omega, hown, hbel⟩
        case measure => simp [intOf]; omega
    · obtain rfl : k = n := by omega
      go_wp2
      go_ret
      refine ⟨A, c, ?_, ?_, hbel⟩
      · rw [← HR.out, natsI_length]; rfl
      · rw [← HR.out]; exact hown

set_option maxHeartbeats 2000000 in
theorem subsets_any (n : Nat) (hn : n ≤ 6) (A : Option Addr) (c l : Nat) (w : World) :
    Calls Tryz.prog 102 #[.agg #[.int .i64 n, .slice A l c]] w fun e w' => ∃ A' c' vs, e = .returned (.slice A' (2 ^ n) c') ∧ OwnRows w' w.heap.size A' c' vs (subsL n (2 ^ n)) ∧ Below w.heap.size w w' := by
  have g0 := Blk.new w 24 #[.int .i64 n, .slice A l c]
  have hb0 : Below w.heap.size w (w.alloc (.cells #[.int .i64 n, .slice A l c] 24)) := (Below.refl _ _).alloc (Nat.le_refl _) _
  have hpow : ∀ k, k ≤ n → 2 ^ k ≤ 64 := fun k hk => Nat.le_trans (Nat.pow_le_pow_right (by omega) (Nat.le_trans hk hn)) (by decide)
  have HP := Lib.hid hpow
  clear hpow
  have c0 := g0.cell 0
  go_enter Tryz.func102, Tryz.ntmps102
  go_wp2
  go_loopw [3, 4] (fun p i wr => ∃ (k m : Nat), k ≤ n ∧ m ≤ 64 ∧ p = .int .i64 m ∧ i = .int .i64 k ∧ Hid (m = 2 ^ k) ∧ wr = w.alloc (.cells #[.int .i64 n, .slice A l c] 24)) (fun _ i _ => n - (intOf i).toNat)
  case atStart => exact ⟨0, 1, by omega, by omega, rfl, rfl, rfl, rfl⟩
  case round =>
    obtain ⟨k, m, hk, hm, rfl, rfl, HM, rfl⟩ := hrel
    by_cases hlt : k < n
    · have hi : (k : Int) < (n : Int) := by omega
      have hm2 : Hid (2 * m = 2 ^ (k + 1)) := by rw [Hid, HM.out, Nat.pow_succ, Nat.mul_comm]
      have hm3 : 2 * m ≤ 64 := by rw [hm2.out]; exact HP.out _ (by omega)
      go_wp2
      go_roundw
      case rel => exact ⟨k + 1, 2 * m, by omega, hm3, by go_num, by go_num, hm2, trivial⟩
      case measure => simp [intOf]; omega
    · obtain rfl : k = n := by omega
      have HN := HM
      clear HM HP
      have MC := Lib.hid (fun D w hD => members_any k D (by omega) hD w)
      go_wp2
      go_loopw [5, 6] (fun s i wr => ∃ (j : Nat) (A' : Option Addr) (c' : Nat) (vs : List Value), j ≤ m ∧ i = .int .i64 j ∧ s = .slice A' (subsL k j).length c' ∧ OwnRows wr w.heap.size A' c' vs (subsL k j) ∧ Blk wr w.heap.size 24 #[.int .i64 k, .slice A l c] ∧ Below w.heap.size w wr) (fun _ i _ => m - (intOf i).toNat)
      case atStart => exact ⟨0, none, 0, [], by omega, rfl, rfl, OwnRows.nil_ _ _, g0, hb0⟩
      case round =>
        obtain ⟨j, A', c', vs, hj, rfl, rfl, hown, gw, hbel⟩ := hrel
        clear c0
        have c0 := gw.cell 0
        have hsz := hbel.size
        by_cases hlt : j < m
        · have hi : (j : Int) < (m : Int) := by omega
          go_wp2_with fail
          refine (MC.out j _ (by omega)).mono ?_
          rintro e w1 ⟨A1, c1, rfl, o1, hb1⟩
          have hown1 := hown.next hb1
          have g1 := gw.next hb1
          have hB1 := hbel.trans (hb1.mono hsz)
          have hs1 := hB1.size
          obtain ⟨d, hd⟩ : ∃ d, natsI (bitsL k j) = d := ⟨_, rfl⟩
          have hdl : (bitsL k j).length = d.length := by rw [← hd, natsI_length]
          have HS : Hid (subsL k (j + 1) = subsL k j ++ [d]) := by rw [Hid, subsL_succ, hd]
          have HSL := Lib.hid (subsL_length k j)
          rw [hd] at o1
          rw [hdl]
          have o1' := o1.mono (base' := w.heap.size) (by omega)
          clear hdl hd hown hb1
          go_wp2_with (at_builtin; refine append_go rfl (.tmp 20) (.tmp 25) _ rfl w.heap.size 25 Tryz.underlying117 info_row rfl (by omega) A' c' (subsL k j).length vs rfl (World.ownsRow.alloc hown1.1 _) _ [.slice A1 d.length c1] rfl (Reads.box _ _ _) (by simp [Value.oneCell']) (by have := HSL.out; omega) (by simp; omega) ?_; intro A6 c6 w6 hown6 hg6 hb6 hw6)
          go_roundw
          case rel =>
            have k2 : OwnRows w6 w.heap.size A6 c6 (vs ++ [.slice A1 d.length c1]) (subsL k j ++ [d]) := OwnRows.push (hown1.kept fun k hk => Below.heap_alloc _ _ _ (hown1.lt hk).2) (OwnI.alloc o1' _) hown6 hg6
            refine ⟨j + 1, A6, c6, vs ++ [.slice A1 d.length c1], by omega, by go_num, ?_, ?_, ?_, (hB1.alloc hB1.size _).trans hb6⟩
            · rw [HS.out]; simp
            · rw [HS.out]; exact k2
            · exact Blk.grown (g1.alloc _) hg6 (own_blk_ne hown1.1 g1 (by decide))
          case measure => simp [intOf]; omega
        · obtain rfl : j = m := by omega
          go_wp2
          go_ret
          refine ⟨A', c', vs, by rw [subsL_length, HN.out]; rfl, ?_, hbel⟩
          rw [← HN.out]; exact hown

end Go.Proofs.YtdnoeaoelgehcaaGreat

