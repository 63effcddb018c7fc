/-
  Texts of this claim, put together: RConf2, Right, Right24, DulP, RCalm, RTop.
-/
import Derived.Test.YtdnoeaoelgehcaaGreatK28
import Derived.Test.YtdnoeaoelgehcaaGreatK27
import Derived.WalkKit
import Derived.Test.YtdnoeaoelgehcaaGreatK12
import Derived.Test.YtdnoeaoelgehcaaGreatK13
import Derived.Test.YtdnoeaoelgehcaaGreatK20
import Derived.Deep.RegionHeld3
import Derived.Test.YtdnoeaoelgehcaaGreatK21
/-! ref19.Check and ref23.Check. -/
namespace Go.Proofs.YtdnoeaoelgehcaaGreat
open Go.RowKit

set_option maxRecDepth 100000 in
set_option maxHeartbeats 4000000 in
theorem rscheck_any (n : Int) (A : Option Addr) (c : Nat) (es : List E3) (hn : es.length ≤ 1048576) (q : Int) (B : Option Addr) (d : Nat) (cs : List Int) (hm : cs.length ≤ 1048576) (w : World) (h : Reads w w.heap.size 3 A es.length (edgeCells es)) (h' : Reads w w.heap.size 1 B cs.length (ints cs)) :
    Calls Tryz.prog 95 #[.agg #[.int .i64 n, .slice A es.length c], .int .i64 q, .slice B cs.length d] w fun e w' => e = .returned (.int .i64 (confErr n es q cs)) ∧ Below w.heap.size w w' := by
  have GC := Lib.hid (rrooted_any n A c es hn q)
  have DC := Lib.hid (rdcheck_any B d cs hm n)
  have g0 := Blk.new w 24 #[.int .i64 n, .slice A es.length c]
  rcases conf_cases n es q cs with ⟨h1, hE⟩ | ⟨h1, h2, hE⟩ | ⟨h1, h2, hE⟩
  · rw [hE]
    obtain ⟨r, hr⟩ : ∃ r, rootErr n es q = r := ⟨_, rfl⟩
    rw [hr] at GC h1 ⊢
    have hb : (r != 0) = true := by simpa using h1
    clear hr h1 hE
    go_enter Tryz.func95, Tryz.ntmps95
    go_wp2_with fail
    refine (GC.out _ ((h.alloc (Nat.le_refl _) _).more (by simp))).mono ?_
    rintro e w1 ⟨rfl, hb1⟩
    have hbel1 : Below w.heap.size w w1 := ((Below.refl _ _).alloc (Nat.le_refl _) _).trans (hb1.mono (by simp))
    go_wp2
    go_ret
    exact ⟨rfl, hbel1⟩
  · rw [hE]
    rw [h1] at GC
    obtain ⟨r, hr⟩ : ∃ r, divErr cs n = r := ⟨_, rfl⟩
    rw [hr] at DC h2 ⊢
    have hb : (r != 0) = true := by simpa using h2
    clear hr h1 hE h2
    go_enter Tryz.func95, Tryz.ntmps95
    go_wp2_with fail
    refine (GC.out _ ((h.alloc (Nat.le_refl _) _).more (by simp))).mono ?_
    rintro e w1 ⟨rfl, hb1⟩
    have hbel1 : Below w.heap.size w w1 := ((Below.refl _ _).alloc (Nat.le_refl _) _).trans (hb1.mono (by simp))
    have g1 := g0.next hb1
    have c0 := g1.cell 0
    go_wp2_with fail
    refine (DC.out _ ((h'.below hbel1).more hbel1.size)).mono ?_
    rintro e w2 ⟨rfl, rfl⟩
    go_wp2
    go_ret
    exact ⟨rfl, hbel1⟩
  · rw [hE]
    rw [h1] at GC
    obtain ⟨r, hr⟩ : ∃ r, (if debtTo cs q cs.length then (2 : Int) else 0) = r := ⟨_, rfl⟩
    rw [hr]
    have HR := Lib.hid hr
    have hlen := (divErr_zero h2).2.1
    have hlen2 := (divErr_zero h2).2.2.1
    rw [h2] at DC
    clear hr h1 hE h2
    subst hlen2
    go_enter Tryz.func95, Tryz.ntmps95
    go_wp2_with fail
    refine (GC.out _ ((h.alloc (Nat.le_refl _) _).more (by simp))).mono ?_
    rintro e w1 ⟨rfl, hb1⟩
    have hbel1 : Below w.heap.size w w1 := ((Below.refl _ _).alloc (Nat.le_refl _) _).trans (hb1.mono (by simp))
    have g1 := g0.next hb1
    have c0 := g1.cell 0
    have hr1 := (h'.below hbel1).more hbel1.size
    go_wp2_with fail
    refine (DC.out _ hr1).mono ?_
    rintro e w2 ⟨rfl, rfl⟩
    go_wp2
    go_loop [9] (fun i => ∃ k : Nat, k ≤ cs.length ∧ i = .int .i64 k ∧ Hid (debtTo cs q k = false)) (fun i => cs.length - (intOf i).toNat)
    case atStart => exact ⟨0, by omega, rfl, by simp [Hid, debtTo]⟩
    case round =>
      obtain ⟨k, hk, rfl, HS⟩ := hrel
      by_cases hlt : k < cs.length
      · obtain ⟨x, hx⟩ := get_of_lt hlt
        obtain ⟨b, off, rfl, hb', hcell⟩ := hr1.at_ (ints_at hx)
        have hi : (k : Int) < (cs.length : Int) := by omega
        have hds := debtTo_succ cs q k
        rw [HS.out, getD_at hx] at hds
        have hkn : ∀ z, debtTo cs q (k + 1) = z → (z = true → r = 2) ∧ (z = false → Hid (debtTo cs q (k + 1) = false)) := fun z hz => ⟨fun e => by rw [← HR.out, if_pos (debtTo_mono (by omega) (hz.trans e))], fun e => hz.trans e⟩
        have HK := Lib.hid hkn
        clear hx h h' hkn
        by_cases h3 : (k : Int) = q
        · have hb : ((k : Int) != q) = false := by simpa using h3
          have HN := (HK.out _ hds).2 (by simp [h3])
          clear hds HK h3
          go_wp2
          go_round
          case rel => exact ⟨k + 1, by omega, by go_num, HN⟩
          case measure => simp [intOf]; omega
        · have hb : ((k : Int) != q) = true := by simpa using h3
          by_cases h4 : x < 0
          · obtain rfl := (HK.out _ hds).1 (by simp [h3, h4])
            clear hds HK h3
            go_wp2
            go_ret
            exact ⟨rfl, hbel1⟩
          · have HN := (HK.out _ hds).2 (by simp [h4])
            clear hds HK h3
            go_wp2
            go_round
            case rel => exact ⟨k + 1, by omega, by go_num, HN⟩
            case measure => simp [intOf]; omega
      · obtain rfl : k = cs.length := by omega
        go_wp2
        go_ret
        exact ⟨ret_int (by rw [← HR.out, HS.out]; rfl), hbel1⟩


set_option maxRecDepth 100000 in
set_option maxHeartbeats 2000000 in
theorem rbcheck_any (n : Int) (A : Option Addr) (c : Nat) (es : List E3) (hn : es.length ≤ 1048576) (q : Int) (B : Option Addr) (d : Nat) (cs : List Int) (hm : cs.length ≤ 1048576) (w : World) (h : Reads w w.heap.size 3 A es.length (edgeCells es)) (h' : Reads w w.heap.size 1 B cs.length (ints cs)) :
    Calls Tryz.prog 49 #[.agg #[.int .i64 n, .slice A es.length c], .int .i64 q, .slice B cs.length d] w fun e w' => e = .returned (.int .i64 (burnErr n es q cs)) ∧ Below w.heap.size w w' := by
  have GC := Lib.hid (rscheck_any n A c es hn q B d cs hm)
  rcases burn_cases n es q cs with ⟨h1, hE⟩ | ⟨h1, h2, hE⟩ | ⟨h1, h2, hE⟩
  · rw [hE]
    obtain ⟨r, hr⟩ : ∃ r, confErr n es q cs = r := ⟨_, rfl⟩
    rw [hr] at GC h1 ⊢
    have hb : (r != 0) = true := by simpa using h1
    clear hr h1 hE
    go_enter Tryz.func49, Tryz.ntmps49
    go_wp2_with fail
    refine (GC.out _ ((h.alloc (Nat.le_refl _) _).more (by simp)) ((h'.alloc (Nat.le_refl _) _).more (by simp))).mono ?_
    rintro e w1 ⟨rfl, hb1⟩
    have hbel1 : Below w.heap.size w w1 := ((Below.refl _ _).alloc (Nat.le_refl _) _).trans (hb1.mono (by simp))
    go_wp2
    go_ret
    exact ⟨rfl, hbel1⟩
  all_goals
    rw [hE]
    obtain ⟨_, _, hq0, hqn, hlen, _, _⟩ := conf_zero h1
    obtain ⟨v, rfl⟩ := Int.eq_ofNat_of_zero_le hq0
    rw [Int.toNat_natCast] at h2
    obtain ⟨x, hx⟩ := get_of_lt (xs := cs) (k := v) (by omega)
    rw [getD_at hx] at h2
    rw [h1] at GC
    have hi : (v : Int) < (cs.length : Int) := by omega
    have HX := Lib.hid hx
    clear h1 hE hx hlen
    go_enter Tryz.func49, Tryz.ntmps49
    go_wp2_with fail
    refine (GC.out _ ((h.alloc (Nat.le_refl _) _).more (by simp)) ((h'.alloc (Nat.le_refl _) _).more (by simp))).mono ?_
    rintro e w1 ⟨rfl, hb1⟩
    have hbel1 : Below w.heap.size w w1 := ((Below.refl _ _).alloc (Nat.le_refl _) _).trans (hb1.mono (by simp))
    obtain ⟨b, off, rfl, hb', hcell⟩ := (h'.below hbel1).at_ (ints_at HX.out)
    first
      | (have hb0 : (x != 0) = true := by simpa using h2
         clear h2
         go_wp2
         go_ret
         exact ⟨rfl, hbel1⟩)
      | (subst h2
         go_wp2
         go_ret
         exact ⟨rfl, hbel1⟩)
end Go.Proofs.YtdnoeaoelgehcaaGreat

/-! right of chapter 23: is a configuration right and small? -/
namespace Go.Proofs.YtdnoeaoelgehcaaGreat
open Go.RowKit

/-- Is a configuration right and small? -/
def rightB (n : Int) (es : List E3) (q : Int) (cs : List Int) : Bool := few23 n es cs && decide (burnErr n es q cs = 0)
theorem right_parts {n : Int} {es : List E3} {q : Int} {cs : List Int} (h : rightB n es q cs = true) : es.length ≤ 40 ∧ cs.length ≤ 24 ∧ n ≤ 6 ∧ (∀ x ∈ cs, x ≤ 60) ∧ burnErr n es q cs = 0 := by
  unfold rightB at h
  rw [Bool.and_eq_true, decide_eq_true_eq] at h
  obtain ⟨h1, h2, h3, h4⟩ := few23_parts h.1
  obtain ⟨hG, _, _, _, _, hbd, _⟩ := conf_zero (burn_zero h.2).1
  have hg : checkG n es = 0 := by
    refine Classical.byContradiction fun hc => ?_
    have h5 := (burn_zero h.2).1
    have h6 : rootErr n es q = checkG n es := by unfold rootErr; rw [if_pos hc]
    unfold confErr at h5
    rw [h6, if_pos hc] at h5
    exact hc h5
  exact ⟨h1, h2, (h3 hg).1, fun x hx => h4 x hx (hbd x hx).2, h.2⟩
end Go.Proofs.YtdnoeaoelgehcaaGreat

/-! right of chapter 24: is a configuration right and small? -/
namespace Go.Proofs.YtdnoeaoelgehcaaGreat
open Go.RowKit

set_option maxHeartbeats 1000000 in
theorem right24_any (n : Int) (A : Option Addr) (c : Nat) (es : List E3) (q : Int) (B : Option Addr) (d : Nat) (cs : List Int) (w : World) (h : Reads w w.heap.size 3 A es.length (edgeCells es)) (h' : Reads w w.heap.size 1 B cs.length (ints cs)) :
    Calls Tryz.prog 23 #[.agg #[.int .i64 n, .slice A es.length c], .int .i64 q, .slice B cs.length d] w fun e w' => e = .returned (.bool (rightB n es q cs)) ∧ Below w.heap.size w w' := by
  have FC := Lib.hid (fun w h h' => few23_any n A c es B d cs w h h')
  have g0 := Blk.new w 24 #[.int .i64 n, .slice A es.length c]
  have hb0 : Below w.heap.size w (w.alloc (.cells #[.int .i64 n, .slice A es.length c] 24)) := (Below.refl _ _).alloc (Nat.le_refl _) _
  cases hf : few23 n es cs
  · have HF := Lib.hid hf
    have HR : Hid (rightB n es q cs = false) := by rw [Hid]; unfold rightB; rw [hf]; rfl
    clear hf
    go_enter Tryz.func23, Tryz.ntmps23
    go_wp2_with fail
    refine (FC.out _ ((h.alloc (Nat.le_refl _) _).more (by simp)) ((h'.alloc (Nat.le_refl _) _).more (by simp))).mono ?_
    rintro e w1 ⟨he, hb1⟩
    rw [HF.out] at he
    subst he
    go_wp2
    go_ret
    exact ⟨ret_bool HR.out.symm, hb0.trans (hb1.mono hb0.size)⟩
  · obtain ⟨h1, h2, _⟩ := few23_parts hf
    have KC := Lib.hid (fun w h h' => rbcheck_any n A c es (by omega) q B d cs (by omega) w h h')
    have HF := Lib.hid hf
    have HR : Hid (rightB n es q cs = decide (burnErr n es q cs = 0)) := by rw [Hid]; unfold rightB; rw [hf]; rfl
    clear hf
    rw [HR.out]
    clear HR
    obtain ⟨z, hz⟩ : ∃ z, burnErr n es q cs = z := ⟨_, rfl⟩
    rw [hz] at KC ⊢
    clear hz
    go_enter Tryz.func23, Tryz.ntmps23
    go_wp2_with fail
    refine (FC.out _ ((h.alloc (Nat.le_refl _) _).more (by simp)) ((h'.alloc (Nat.le_refl _) _).more (by simp))).mono ?_
    rintro e w1 ⟨he, hb1⟩
    rw [HF.out] at he
    subst he
    have g1 := g0.next hb1
    have c0 := g1.cell 0
    have c1 := g1.cell 1
    have hB1 := hb0.trans (hb1.mono hb0.size)
    go_wp2_with fail
    refine (KC.out _ ((h.below hB1).more hB1.size) ((h'.below hB1).more hB1.size)).mono ?_
    rintro e w2 ⟨rfl, hb2⟩
    go_wp2
    go_ret
    exact ⟨rfl, hB1.trans (hb2.mono hB1.size)⟩
end Go.Proofs.YtdnoeaoelgehcaaGreat

/-! Plain: the dual of a configuration. -/
namespace Go.Proofs.YtdnoeaoelgehcaaGreat
open Go.RowKit

/-- The dual of a configuration, as far as k: no chips at the sink. -/
def dulTo (n : Nat) (es : List E3) (cs : List Int) (q k : Nat) : List Int := (List.range n).map fun v : Nat => if v < k ∧ v ≠ q then valE es v - 1 - cs.getD v 0 else 0
def dulL (n : Nat) (es : List E3) (cs : List Int) (q : Nat) : List Int := dulTo n es cs q n
theorem dulTo_length (n : Nat) (es : List E3) (cs : List Int) (q k : Nat) : (dulTo n es cs q k).length = n := by simp [dulTo]
theorem dulL_length (n : Nat) (es : List E3) (cs : List Int) (q : Nat) : (dulL n es cs q).length = n := dulTo_length n es cs q n
theorem dulTo_zero (n : Nat) (es : List E3) (cs : List Int) (q : Nat) : dulTo n es cs q 0 = List.replicate n 0 := by
  apply List.ext_getElem?
  intro i
  unfold dulTo
  by_cases hi : i < n
  · simp [hi]
  · simp [hi]
theorem dulTo_sink (n : Nat) (es : List E3) (cs : List Int) (q : Nat) : dulTo n es cs q (q + 1) = dulTo n es cs q q := by
  unfold dulTo
  apply List.map_congr_left
  intro v _
  by_cases h1 : v < q
  · rw [if_pos ⟨by omega, by omega⟩, if_pos ⟨h1, by omega⟩]
  · rw [if_neg (by omega), if_neg (by omega)]
theorem dulTo_succ (n : Nat) (es : List E3) (cs : List Int) (q k : Nat) (hk : k ≠ q) : dulTo n es cs q (k + 1) = (dulTo n es cs q k).set k (valE es k - 1 - cs.getD k 0) := by
  apply List.ext_getElem?
  intro i
  unfold dulTo
  by_cases hi : i < n
  · by_cases h : i = k
    · subst h
      rw [List.getElem?_set_self (by simpa using hi)]
      simp [hi, hk]
    · rw [List.getElem?_set_ne (fun e => h e.symm)]
      simp only [List.getElem?_map, List.getElem?_range hi, Option.map_some]
      by_cases h2 : i < k ∧ i ≠ q
      · rw [if_pos h2, if_pos ⟨by omega, h2.2⟩]
      · rw [if_neg h2, if_neg (by omega)]
  · rw [List.getElem?_eq_none (by simp; omega), List.getElem?_eq_none (by simp; omega)]
theorem dulL_get {n v : Nat} (es : List E3) (cs : List Int) (q : Nat) (hv : v < n) : (dulL n es cs q).getD v 0 = if v = q then 0 else valE es v - 1 - cs.getD v 0 := by
  unfold dulL dulTo
  rw [List.getD_eq_getElem?_getD]
  simp only [List.getElem?_map, List.getElem?_range hv, Option.map_some, Option.getD_some]
  by_cases h : v = q
  · rw [if_neg (fun e => e.2 h), if_pos h]
  · rw [if_pos ⟨hv, h⟩, if_neg h]
end Go.Proofs.YtdnoeaoelgehcaaGreat

/-! ref08.Valence, ref19.Waiting, ref19.Calm. -/
namespace Go.Proofs.YtdnoeaoelgehcaaGreat
open Go.RowKit

theorem valS_bd {N : Int} {es : List E3} (hok : ∀ e ∈ es, okE N e) (v k : Nat) : 0 ≤ sumTo (fun w => tt es v w) k ∧ sumTo (fun w => tt es v w) k ≤ 50 * k := by
  induction k with
  | zero => simp [sumTo]
  | succ k ih =>
    have := tt_bd hok v k
    rw [sumTo]
    omega
set_option maxRecDepth 100000 in
set_option maxHeartbeats 4000000 in
theorem val08_any (n : Nat) (A : Option Addr) (c : Nat) (es : List E3) (hlen : es.length ≤ 10000) (hG : RightG n es) (v : Nat) (w : World) (h : Reads w w.heap.size 3 A es.length (edgeCells es)) :
    Calls Tryz.prog 32 #[.agg #[.int .i64 n, .slice A es.length c], .int .i64 v] w fun e w' => e = .returned (.int .i64 (valE es v)) ∧ Below w.heap.size w w' := by
  have HSB := Lib.hid (fun k => valS_bd hG.ok v k)
  have HVS : Hid (valE es v = sumTo (fun w => tt es v w) n) := valE_valS hG
  have hn12 : n ≤ 12 := by have := hG.hi; omega
  have HOK := Lib.hid hG.ok
  have g0 := Blk.new w 24 #[.int .i64 n, .slice A es.length c]
  have B0 : Below w.heap.size w (w.alloc (.cells #[.int .i64 n, .slice A es.length c] 24)) := (Below.refl _ _).alloc (Nat.le_refl _) _
  clear hG
  go_enter Tryz.func32, Tryz.ntmps32
  go_wp2_with fail
  go_loopw [5, 6] (fun s i wl => ∃ (k : Nat), i = .int .i64 k ∧ k ≤ n ∧ s = .int .i64 (sumTo (fun w => tt es v w) k) ∧ Hid (Below w.heap.size w wl) ∧ Hid (Blk wl w.heap.size 24 #[.int .i64 n, .slice A es.length c])) (fun _ i _ => n - (intOf i).toNat)
  case atStart => exact ⟨0, rfl, by omega, rfl, B0, g0⟩
  case round =>
    obtain ⟨k, rfl, hk, rfl, HB, HGr⟩ := hrel
    clear g0 B0
    have c0 := HGr.out.cell 0
    have c1 := HGr.out.cell 1
    have hs := HSB.out k
    obtain ⟨x, hx⟩ : ∃ x, sumTo (fun w => tt es v w) k = x := ⟨_, rfl⟩
    have hxs : sumTo (fun w => tt es v w) (k + 1) = x + tt es v k := by rw [sumTo, hx]
    rw [hx] at hs ⊢
    clear hx
    by_cases hlt : k < n
    · have hi : (k : Int) < (n : Int) := by omega
      by_cases hkv : k = v
      · have hne : ((k : Int) != (v : Int)) = false := by simp [hkv]
        have ht : tt es v k = 0 := by unfold tt; rw [if_pos hkv.symm]
        rw [ht, Int.add_zero] at hxs
        have HX := Lib.hid hxs
        clear hxs ht
        go_wp2
        go_roundw
        case rel => exact ⟨k + 1, by go_num, by omega, by rw [HX.out], HB, HGr⟩
        case measure => simp [intOf]; omega
      · have hne : ((k : Int) != (v : Int)) = true := by rw [bne_iff_ne]; omega
        have ht : tt es v k = btw es k v := by rw [tt_comm]; unfold tt; rw [if_neg hkv]
        have hbd := btw_bd HOK.out (k : Int) (v : Int)
        have BC := Lib.hid (between_any n A c es (by omega) k v wr ((h.below HB.out).more HB.out.size))
        rw [ht] at hxs
        obtain ⟨y, hy⟩ : ∃ y, btw es k v = y := ⟨_, rfl⟩
        rw [hy] at hxs hbd BC
        have hw1 : IntKind.i64.wrap (x + y) = x + y := IntWalk.i64_in _ (by omega)
        have HX := Lib.hid hxs
        clear hxs ht hy
        go_wp2_with fail
        refine (BC.out).mono ?_
        rintro e w5 ⟨rfl, b5⟩
        have B5 := Lib.hid (HB.out.trans (b5.mono HB.out.size))
        have G5 := Lib.hid (HGr.out.next b5)
        go_wp2
        go_roundw
        case rel => exact ⟨k + 1, by go_num, by omega, by rw [HX.out], B5, G5⟩
        case measure => simp [intOf]; omega
    · obtain rfl : k = n := by omega
      have hB := HB.out
      have HVX : Hid (valE es v = x) := by rw [Hid, HVS.out]; rw [sumTo] at hxs; omega
      go_wp2
      go_ret
      exact ⟨by rw [HVX.out]; rfl, hB⟩

/-- The unstable vertices below k. -/
def unsL (es : List E3) (q : Nat) (cs : List Int) (k : Nat) : List Nat := (List.range k).filter fun v => decide (v ≠ q) && decide (valE es v ≤ cs.getD v 0)
theorem unsL_succ (es : List E3) (q : Nat) (cs : List Int) (k : Nat) : unsL es q cs (k + 1) = unsL es q cs k ++ if k ≠ q ∧ valE es k ≤ cs.getD k 0 then [k] else [] := by
  unfold unsL
  rw [List.range_succ, List.filter_append]
  congr 1
  cases hp : (decide (k ≠ q) && decide (valE es k ≤ cs.getD k 0))
  · rw [if_neg (fun hc => by rw [decide_eq_true hc.1, decide_eq_true hc.2] at hp; cases hp)]
    rw [List.filter_cons, if_neg (by rw [hp]; simp), List.filter_nil]
  · rw [Bool.and_eq_true] at hp
    rw [if_pos ⟨of_decide_eq_true hp.1, of_decide_eq_true hp.2⟩]
    rw [List.filter_cons, if_pos (by rw [Bool.and_eq_true]; exact hp), List.filter_nil]
theorem unsL_len (es : List E3) (q : Nat) (cs : List Int) (k : Nat) : (unsL es q cs k).length ≤ k := by
  unfold unsL; exact Nat.le_trans (List.length_filter_le _ _) (by simp)
theorem unsL_nil (es : List E3) (q : Nat) (cs : List Int) (n : Nat) : decide ((unsL es q cs n).length = 0) = stabTo es cs q n := by
  rw [Bool.eq_iff_iff, decide_eq_true_iff, stabTo_iff, List.length_eq_zero_iff]
  unfold unsL
  rw [List.filter_eq_nil_iff]
  constructor
  · intro h v hv hq
    have := h v (List.mem_range.2 hv)
    rw [Bool.and_eq_true, not_and] at this
    have := this (by simpa using hq)
    simp at this
    rw [List.getD_eq_getElem?_getD]; omega
  · intro h v hv hc
    rw [Bool.and_eq_true] at hc
    have h1 := of_decide_eq_true hc.1
    have h2 := of_decide_eq_true hc.2
    have := h v (List.mem_range.1 hv) h1
    omega

set_option maxRecDepth 100000 in
set_option maxHeartbeats 4000000 in
theorem waiting_any (n : Nat) (A : Option Addr) (c : Nat) (es : List E3) (hlen : es.length ≤ 10000) (hG : RightG n es) (q : Nat) (B : Option Addr) (d : Nat) (cs : List Int) (hcl : cs.length = n) (w : World)
    (h : Reads w w.heap.size 3 A es.length (edgeCells es)) (h' : Reads w w.heap.size 1 B n (ints cs)) :
    Calls Tryz.prog 105 #[.agg #[.int .i64 n, .slice A es.length c], .int .i64 q, .slice B n d] w fun e w' => ∃ A' c', e = .returned (.slice A' (unsL es q cs n).length c') ∧ Below w.heap.size w w' := by
  have hn12 : n ≤ 12 := by have := hG.hi; omega
  have HV := Lib.hid (fun (v : Nat) (W : World) (hB : Below w.heap.size w W) => val08_any n A c es hlen hG v W ((h.below hB).more hB.size))
  have HCL := Lib.hid hcl
  have g0 := Blk.new w 24 #[.int .i64 n, .slice A es.length c]
  have B0 : Below w.heap.size w (w.alloc (.cells #[.int .i64 n, .slice A es.length c] 24)) := (Below.refl _ _).alloc (Nat.le_refl _) _
  clear hG hcl
  go_enter Tryz.func105, Tryz.ntmps105
  go_wp2_with fail
  go_loopw [7, 8] (fun o i wl => ∃ (k : Nat) (A' : Option Addr) (c' : Nat), i = .int .i64 k ∧ k ≤ n ∧ o = .slice A' (natI (unsL es q cs k)).length c' ∧ Hid (OwnI wl w.heap.size A' c' (natI (unsL es q cs k))) ∧ Hid (Below w.heap.size w wl) ∧ Hid (Blk wl w.heap.size 24 #[.int .i64 n, .slice A es.length c])) (fun _ i _ => n - (intOf i).toNat)
  case atStart => exact ⟨0, none, 0, rfl, by omega, rfl, OwnI.nil_ _ _, B0, g0⟩
  case round =>
    obtain ⟨k, A', c', rfl, hk, rfl, HO, HB, HGr⟩ := hrel
    clear g0 B0
    have c0 := HGr.out.cell 0
    have c1 := HGr.out.cell 1
    by_cases hlt : k < n
    · have hi : (k : Int) < (n : Int) := by omega
      obtain ⟨x, hx⟩ := get_of_lt (xs := cs) (k := k) (by rw [HCL.out]; exact hlt)
      obtain ⟨bB, oB, hA, hbB, hcell⟩ := (h'.below HB.out).at_ (ints_at hx)
      subst hA
      have hus := unsL_succ es q cs k
      rw [getD_at hx] at hus
      by_cases hkq : k = q
      · have hne : ((k : Int) != (q : Int)) = false := by simp [hkq]
        rw [if_neg (fun hc => hc.1 hkq), List.append_nil] at hus
        have HUS := Lib.hid hus
        clear hus hx hkq
        go_wp2_with fail
        go_quiet (fail)
        have OD : Hid (OwnI (wr.drewN nq) w.heap.size A' c' (natI (unsL es q cs k))) := HO.out.drewN nq
        have BD : Hid (Below w.heap.size w (wr.drewN nq)) := ⟨HB.out.os, HB.out.tape, HB.out.output, HB.out.size, HB.out.block⟩
        have GD : Hid (Blk (wr.drewN nq) w.heap.size 24 #[.int .i64 n, .slice A es.length c]) := HGr.out
        go_wp2
        go_roundw
        case rel => exact ⟨k + 1, A', c', by go_num, by omega, by rw [HUS.out], by rw [HUS.out]; exact OD, BD, GD⟩
        case measure => simp [intOf]; omega
      · have hne : ((k : Int) != (q : Int)) = true := by rw [bne_iff_ne]; omega
        have HV1 := HV.out k wr.drew HB.out.drew
        obtain ⟨V, hVV⟩ : ∃ V, valE es k = V := ⟨_, rfl⟩
        rw [hVV] at HV1 hus
        have HV1 := Lib.hid HV1
        have hgl := HGr.out.lt
        have hbl : bB < wr.heap.size := by have := HB.out.size; omega
        have HGL := Lib.hid hgl
        have HBL := Lib.hid hbl
        by_cases hge : V ≤ x
        · rw [if_pos ⟨hkq, hge⟩] at hus
          have HUS := Lib.hid hus
          have HKQ := Lib.hid hkq
          clear hus hx hkq hVV hgl hbl
          go_wp2_with fail
          go_region_held3 (fun W => W.cell? ⟨w.heap.size, 0, none⟩ = some (.int .i64 n) ∧ W.cell? ⟨w.heap.size, 1, none⟩ = some (.slice A es.length c) ∧ W.cell? ⟨bB, oB + k, none⟩ = some (.int .i64 x)) (go_keep)
            (first | (go_at_call 32; refine (HV1.out).mono ?_; rintro e w5 ⟨rfl, b5⟩
                      have k0 := (b5.cell (p := ⟨w.heap.size, 0, none⟩) HGL.out).trans c0
                      have k1 := (b5.cell (p := ⟨w.heap.size, 1, none⟩) HGL.out).trans c1
                      have k2 := (b5.cell (p := ⟨bB, oB + k, none⟩) HBL.out).trans hcell))
          all_goals
            have B5 := HB.out.drew.trans (b5.mono HB.out.drew.size)
            have O5 : OwnI w5 w.heap.size A' c' (natI (unsL es q cs k)) := OwnI.next (w := wr.drew) HO.out b5
            have G5 : Blk w5 w.heap.size 24 #[.int .i64 n, .slice A es.length c] := Blk.next (w := wr.drew) HGr.out b5
            have hl5 : (natI (unsL es q cs k)).length ≤ 1048000 := by rw [natI_length]; have := unsL_len es q cs k; omega
            have hsz5 := B5.size
            go_wp2_with (at_builtin; refine push_int rfl (.tmp 28) (.tmp 30) _ rfl Tryz.underlying25 w.heap.size A' c' (natI (unsL es q cs k)) (k : Int) rfl O5 rfl rfl hl5 hsz5 ?_; intro A2 c2 w2 ho2 hgr hb2)
            have G6 := (G5.alloc (.cells #[.int .i64 k] 3)).grown hgr (own_blk_ne O5 G5 (by decide))
            have B6 := B5.trans hb2
            have hsn : natI (unsL es q cs (k + 1)) = natI (unsL es q cs k) ++ [(k : Int)] := by rw [HUS.out, natI_snoc]
            go_roundw
            case rel => exact ⟨k + 1, A2, c2, by go_num, by omega, by rw [hsn]; simp, by rw [hsn]; exact ho2, B6, G6⟩
            case measure => simp [intOf]; omega
        · rw [if_neg (fun hc => hge hc.2), List.append_nil] at hus
          have HUS := Lib.hid hus
          clear hus hx hkq hVV hgl hbl
          go_wp2_with fail
          go_region_held3 (fun W => W.cell? ⟨w.heap.size, 0, none⟩ = some (.int .i64 n) ∧ W.cell? ⟨w.heap.size, 1, none⟩ = some (.slice A es.length c) ∧ W.cell? ⟨bB, oB + k, none⟩ = some (.int .i64 x)) (go_keep)
            (first | (go_at_call 32; refine (HV1.out).mono ?_; rintro e w5 ⟨rfl, b5⟩
                      have k0 := (b5.cell (p := ⟨w.heap.size, 0, none⟩) HGL.out).trans c0
                      have k1 := (b5.cell (p := ⟨w.heap.size, 1, none⟩) HGL.out).trans c1
                      have k2 := (b5.cell (p := ⟨bB, oB + k, none⟩) HBL.out).trans hcell))
          all_goals
            have B5 : Hid (Below w.heap.size w w5) := HB.out.drew.trans (b5.mono HB.out.drew.size)
            have O5 : Hid (OwnI w5 w.heap.size A' c' (natI (unsL es q cs k))) := OwnI.next (w := wr.drew) HO.out b5
            have G5 : Hid (Blk w5 w.heap.size 24 #[.int .i64 n, .slice A es.length c]) := Blk.next (w := wr.drew) HGr.out b5
            go_wp2
            go_roundw
            case rel => exact ⟨k + 1, A', c', by go_num, by omega, by rw [HUS.out], by rw [HUS.out]; exact O5, B5, G5⟩
            case measure => simp [intOf]; omega
    · obtain rfl : k = n := by omega
      have hB := HB.out
      have HL : Hid ((natI (unsL es q cs k)).length = (unsL es q cs k).length) := natI_length _
      go_wp2
      go_ret
      exact ⟨A', c', by rw [← HL.out]; rfl, hB⟩
set_option maxHeartbeats 2000000 in
theorem calm19_any (n : Nat) (A : Option Addr) (c : Nat) (es : List E3) (hlen : es.length ≤ 10000) (hG : RightG n es) (q : Nat) (B : Option Addr) (d : Nat) (cs : List Int) (hcl : cs.length = n) (w : World)
    (h : Reads w w.heap.size 3 A es.length (edgeCells es)) (h' : Reads w w.heap.size 1 B n (ints cs)) :
    Calls Tryz.prog 64 #[.agg #[.int .i64 n, .slice A es.length c], .int .i64 q, .slice B n d] w fun e w' => e = .returned (.bool (stabTo es cs q n)) ∧ Below w.heap.size w w' := by
  have WC := Lib.hid (fun (W : World) (hB : Below w.heap.size w W) => waiting_any n A c es hlen hG q B d cs hcl W ((h.below hB).more hB.size) ((h'.below hB).more hB.size))
  have B0 : Below w.heap.size w (w.alloc (.cells #[.int .i64 n, .slice A es.length c] 24)) := (Below.refl _ _).alloc (Nat.le_refl _) _
  have HU := Lib.hid (unsL_nil es q cs n)
  have g0 := Blk.new w 24 #[.int .i64 n, .slice A es.length c]
  have c0 := g0.cell 0
  have c1 := g0.cell 1
  clear hG hcl
  go_enter Tryz.func64, Tryz.ntmps64
  go_wp2_with fail
  refine (WC.out _ B0).mono ?_
  rintro e w1 ⟨A', c', rfl, hb1⟩
  go_wp2
  go_ret
  exact ⟨ret_bool (by rw [← HU.out, Bool.eq_iff_iff]; simp), B0.trans (hb1.mono B0.size)⟩
end Go.Proofs.YtdnoeaoelgehcaaGreat

/-! ref19.Top: the maximal stable configuration. -/
namespace Go.Proofs.YtdnoeaoelgehcaaGreat
open Go.RowKit

theorem valE_at {n v : Nat} {es : List E3} (hok : ∀ e ∈ es, okE n e) (hv : v < n) : (valL n (endsL es))[v]? = some (valE es v) := by
  have hl := (valL_bd n (endsL es)).1
  obtain ⟨x, hx⟩ := get_of_lt (xs := valL n (endsL es)) (k := v) (by rw [hl]; exact hv)
  have := valL_val (n := n) hok (v := v)
  rw [getD_at hx] at this
  rw [hx, this]

set_option maxRecDepth 100000 in
set_option maxHeartbeats 4000000 in
theorem rtop_any (n : Nat) (A : Option Addr) (c : Nat) (es : List E3) (hlen : es.length ≤ 10000) (hG : RightG n es) (q : Nat) (w : World) (h : Reads w w.heap.size 3 A es.length (edgeCells es)) :
    Calls Tryz.prog 106 #[.agg #[.int .i64 n, .slice A es.length c], .int .i64 q] w fun e w' => ∃ Am cm, e = .returned (.slice Am n cm) ∧ OwnI w' w.heap.size Am cm (maxL n es q) ∧ Below w.heap.size w w' := by
  have hn : n ≤ 12 := by have := hG.hi; omega
  have g0 := Blk.new w 24 #[.int .i64 n, .slice A es.length c]
  have B0 : Below w.heap.size w (w.alloc (.cells #[.int .i64 n, .slice A es.length c] 24)) := (Below.refl _ _).alloc (Nat.le_refl _) _
  have c0 := g0.cell 0
  have hmd := make_div n (by omega)
  have VC := Lib.hid (fun (v : Nat) (W : World) (hB : Below w.heap.size w W) => val08_any n A c es hlen hG v W ((h.below hB).more hB.size))
  have HV := Lib.hid (fun (v : Nat) (hv : v < n) => valE_at hG.ok hv)
  have HVB := Lib.hid (fun v : Nat => valE_bd hG.ok v)
  have O1 := Blk.new (w.alloc (.cells #[.int .i64 n, .slice A es.length c] 24)) 3 (ints (List.replicate n 0)).toArray
  have hs1 : (w.alloc (.cells #[.int .i64 n, .slice A es.length c] 24)).heap.size = w.heap.size + 1 := by simp
  rw [hs1] at O1
  have g1 := g0.alloc (.cells (ints (List.replicate n 0)).toArray 3)
  have B1 := B0.alloc (by simp) (.cells (ints (List.replicate n 0)).toArray 3)
  have HM : Hid (maxTo n (valL n (endsL es)) q n = maxL n es q) := rfl
  obtain ⟨val, hval⟩ : ∃ val, valL n (endsL es) = val := ⟨_, rfl⟩
  rw [hval] at HV HM
  clear hG hval
  go_enter Tryz.func106, Tryz.ntmps106
  go_wp2_with fail
  go_loopw [6] (fun i wl => ∃ v : Nat, v ≤ n ∧ i = .int .i64 v ∧ Blk wl (w.heap.size + 1) 3 (intCells (maxTo n val q v)) ∧ Blk wl w.heap.size 24 #[.int .i64 n, .slice A es.length c] ∧ Below w.heap.size w wl) (fun i _ => n - (intOf i).toNat)
  case atStart => exact ⟨0, by omega, rfl, by rw [maxTo_zero]; exact O1, g1, B1⟩
  case round =>
    obtain ⟨v, hv, rfl, O7, G7, hB7⟩ := hrel
    clear O1 g1 B1 g0 B0 c0
    have hs7 := hB7.size
    have c0 := G7.cell 0
    have c1 := G7.cell 1
    by_cases hlv : v < n
    · have hi : (v : Int) < (n : Int) := by omega
      by_cases hvq : v = q
      · have hne2 : ((v : Int) != (q : Int)) = false := by simp [hvq]
        subst hvq
        have hms := Lib.hid (maxTo_sink n val v)
        go_wp2
        go_roundw
        case rel => exact ⟨v + 1, by omega, by go_num, by rw [hms.out]; exact O7, G7, hB7⟩
        case measure => simp [intOf]; omega
      · have hne2 : ((v : Int) != (q : Int)) = true := by rw [bne_iff_ne]; omega
        have hms := Lib.hid (maxTo_succ n val q v hvq _ (HV.out v hlv))
        obtain ⟨y, hy⟩ := get_of_lt (xs := maxTo n val q v) (k := v) (by rw [maxTo_length]; exact hlv)
        have HY := Lib.hid hy
        have VC1 := Lib.hid (VC.out v wr hB7)
        have hvb := HVB.out v
        obtain ⟨x, hx⟩ : ∃ x, valE es v = x := ⟨_, rfl⟩
        rw [hx] at VC1 hms hvb
        clear hy hx
        go_wp2_with fail
        refine (VC1.out).mono ?_
        rintro e w5 ⟨rfl, hb5⟩
        have O5 := O7.next hb5
        have G5 := G7.next hb5
        have B5 := hB7.trans (hb5.mono hs7)
        have hs5 := B5.size
        have co := (O5.cell v).trans (intCells_get HY.out)
        have cf := O5.frozen v
        have O8 := O5.set_ v (.int .i64 (x - 1))
        rw [intCells_set, ← hms.out] at O8
        have G8 := G5.far (p := ⟨w.heap.size + 1, v, none⟩) (by simp) (.int .i64 (x - 1))
        have B8 := B5.setCell (p := ⟨w.heap.size + 1, v, none⟩) (by simp) (.int .i64 (x - 1))
        have HO8 := Lib.hid O8
        clear O8 O7 G7 hb5
        go_wp2
        go_roundw
        case rel => exact ⟨v + 1, by omega, by go_num, HO8.out, G8, B8⟩
        case measure => simp [intOf]; omega
    · obtain rfl : v = n := by omega
      go_wp2
      go_ret
      refine ⟨_, _, rfl, ?_, hB7⟩
      have hl := maxTo_length v val q v
      have := OwnI.of_blk O7 (show w.heap.size ≤ w.heap.size + 1 by omega) (by rw [hl]; simp [maxLen]; omega)
      rw [hl] at this
      rw [← HM.out]
      exact this
end Go.Proofs.YtdnoeaoelgehcaaGreat

