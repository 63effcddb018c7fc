/-
  Texts of this claim, put together: Reach, RConf2, DualE, DualS.
-/
import Derived.Test.YtghigdcpinengaaGreatK32
import Derived.Test.YtghigdcpinengaaGreatK08
import Derived.Test.YtghigdcpinengaaGreatK25
import Derived.Test.YtghigdcpinengaaGreatK09
import Derived.Test.YtghigdcpinengaaGreatK31
import Derived.Test.YtghigdcpinengaaGreatK35
import Derived.Test.YtghigdcpinengaaGreatK30
import Derived.Test.YtghigdcpinengaaGreatK23
/-! ref08.Reached, ref08.Parts, ref08.Connected. -/
namespace Go.Proofs.YtghigdcpinengaaGreat
open Go.RowKit

theorem bools_getB {o : List Bool} {k : Nat} (h : k < o.length) : (bools o)[k]? = some (.bool (getB o k)) := by
  simp [bools, getB, List.getD_eq_getElem?_getD, List.getElem?_eq_getElem h]

set_option maxRecDepth 100000 in
set_option maxHeartbeats 4000000 in
theorem reached_any (n : Nat) (hn12 : n ≤ 12) (A : Option Addr) (c : Nat) (es : List E3) (hn : es.length ≤ 1048576) (v : Nat) (hv : v < n) (w : World) (h : Reads w w.heap.size 3 A es.length (edgeCells es)) :
    Calls Tryz.prog 95 #[.agg #[.int .i64 n, .slice A es.length c], .int .i64 v] w fun e w' => ∃ g, e = .returned (.slice (some ⟨g, 0, none⟩) n n) ∧ Blk w' g 4 (bools (reached es n v)) ∧ w.heap.size ≤ g ∧ Below w.heap.size w w' := by
  have hmk := make_bools n (by omega)
  have hvi : (v : Int) < (n : Int) := by omega
  have hc0 : ((bools (List.replicate n false)))[v]? = some (.bool false) := by rw [bools_getB (by simpa using hv)]; simp [getB, List.getD_eq_getElem?_getD, hv]
  have g0 := (Blk.new w 24 #[.int .i64 n, .slice A es.length c]).alloc (.cells (bools (List.replicate n false)) 4)
  have gs := Blk.new (w.alloc (.cells #[.int .i64 n, .slice A es.length c] 24)) 4 (bools (List.replicate n false))
  rw [show (w.alloc (.cells #[.int .i64 n, .slice A es.length c] 24)).heap.size = w.heap.size + 1 from by simp] at gs
  have q1 := gs.cell v
  rw [hc0] at q1
  have q2 := gs.frozen v
  have HR : Hid (reached es n v = reachR es n ((List.replicate n false).set v true) n) := rfl
  obtain ⟨o0, ho0⟩ : ∃ o0, (List.replicate n false).set v true = o0 := ⟨_, rfl⟩
  have hl0 : o0.length = n := by rw [← ho0]; simp
  have e0 : (bools (List.replicate n false)).setIfInBounds v (.bool true) = bools o0 := by rw [bools_set, ho0]
  have g0' := (Blk.new w 24 #[.int .i64 n, .slice A es.length c]).alloc (.cells ((bools (List.replicate n false)).setIfInBounds v (.bool true)) 4)
  have gs' : Blk ((w.alloc (.cells #[.int .i64 n, .slice A es.length c] 24)).alloc (.cells ((bools (List.replicate n false)).setIfInBounds v (.bool true)) 4)) (w.heap.size + 1) 4 (bools o0) := by
    rw [← e0]
    have := Blk.new (w.alloc (.cells #[.int .i64 n, .slice A es.length c] 24)) 4 ((bools (List.replicate n false)).setIfInBounds v (.bool true))
    rwa [show (w.alloc (.cells #[.int .i64 n, .slice A es.length c] 24)).heap.size = w.heap.size + 1 from by simp] at this
  rw [ho0] at HR
  have HL := Lib.hid hl0
  clear ho0 hl0 hc0 g0 gs e0
  go_enter Tryz.func95, Tryz.ntmps95
  go_wp2
  go_loopw [6] (fun i wr => ∃ k : Nat, k ≤ n ∧ i = .int .i64 k ∧ Below w.heap.size w wr ∧ Blk wr w.heap.size 24 #[.int .i64 n, .slice A es.length c] ∧ Blk wr (w.heap.size + 1) 4 (bools (reachR es n o0 k))) (fun i _ => n - (intOf i).toNat)
  case atStart => exact ⟨0, by omega, rfl, ((Below.refl _ _).alloc (Nat.le_refl _) _).alloc (by simp) _, g0', gs'⟩
  case round =>
    obtain ⟨k, hk, rfl, hbel, g1, g2⟩ := hrel
    clear g0' gs' q1 q2 hmk
    obtain ⟨o1, ho1⟩ : ∃ o1, reachR es n o0 k = o1 := ⟨_, rfl⟩
    have hl1 : o1.length = n := by rw [← ho1, reachR_length, HL.out]
    have HO1 := Lib.hid ho1
    have HL1 := Lib.hid hl1
    rw [ho1] at g2
    clear ho1 hl1
    have c0 := g1.cell 0
    by_cases hlt : k < n
    · have hi : (k : Int) < (n : Int) := by omega
      go_wp2
      obtain ⟨wo, rfl⟩ : ∃ wo : World, wo = wr := ⟨_, rfl⟩
      clear c0
      go_loopw [7] (fun i wr => ∃ a : Nat, a ≤ n ∧ i = .int .i64 a ∧ Below w.heap.size w wr ∧ Blk wr w.heap.size 24 #[.int .i64 n, .slice A es.length c] ∧ Blk wr (w.heap.size + 1) 4 (bools (reachA es n o1 a))) (fun i _ => n - (intOf i).toNat)
      case atStart => exact ⟨0, by omega, rfl, hbel, g1, g2⟩
      case round =>
        obtain ⟨a, ha, rfl, hbel', g1', g2'⟩ := hrel
        clear hbel g1 g2
        obtain ⟨o2, ho2⟩ : ∃ o2, reachA es n o1 a = o2 := ⟨_, rfl⟩
        have hl2 : o2.length = n := by rw [← ho2, reachA_length, HL1.out]
        have HO2 := Lib.hid ho2
        have HL2 := Lib.hid hl2
        rw [ho2] at g2'
        clear ho2 hl2
        have c0 := g1'.cell 0
        by_cases hlta : a < n
        · have hi : (a : Int) < (n : Int) := by omega
          go_wp2
          obtain ⟨wo', rfl⟩ : ∃ wo : World, wo = wr := ⟨_, rfl⟩
          clear c0
          go_loopw [8] (fun i wr => ∃ b : Nat, b ≤ n ∧ i = .int .i64 b ∧ Below w.heap.size w wr ∧ Blk wr w.heap.size 24 #[.int .i64 n, .slice A es.length c] ∧ Blk wr (w.heap.size + 1) 4 (bools (reachB es a o2 b))) (fun i _ => n - (intOf i).toNat)
          case atStart => exact ⟨0, by omega, rfl, hbel', g1', g2'⟩
          case round =>
            obtain ⟨b, hb, rfl, hbel, g1, g2⟩ := hrel
            clear hbel' g1' g2'
            have hbs := reachB_succ es a o2 b
            obtain ⟨o3, ho3⟩ : ∃ o3, reachB es a o2 b = o3 := ⟨_, rfl⟩
            have hl3 : o3.length = n := by rw [← ho3, reachB_length, HL2.out]
            rw [ho3] at g2 hbs
            have HO3 := Lib.hid ho3
            clear ho3
            have c0 := g1.cell 0
            have c1 := g1.cell 1
            by_cases hltb : b < n
            · have hib : (b : Int) < (n : Int) := by omega
              have ca := g2.cell a
              rw [bools_getB (by omega)] at ca
              have cb := g2.cell b
              rw [bools_getB (by omega)] at cb
              have fb := g2.frozen b
              have hsz := hbel.size
              unfold stepB at hbs
              cases hga : getB o3 a
              · rw [hga] at ca hbs
                rw [if_neg (fun hc => by cases hc.1)] at hbs
                have HBS := Lib.hid hbs
                clear hbs hga cb fb
                go_wp2
                go_roundw
                case rel => exact ⟨b + 1, by omega, by go_num, hbel, g1, by rw [HBS.out]; exact g2⟩
                case measure => simp [intOf]; omega
              · rw [hga] at ca hbs
                have BC := Lib.hid (between_any n A c es hn a b wr ((h.below hbel).more hsz))
                obtain ⟨q, hq⟩ : ∃ q, btw es a b = q := ⟨_, rfl⟩
                rw [hq] at BC hbs
                clear hq hga
                by_cases hpos : 0 < q
                · rw [if_pos ⟨rfl, hpos⟩] at hbs
                  have HBS := Lib.hid hbs
                  clear hbs
                  go_wp2_with (go_at_call 125; (with_reducible refine (BC.out).mono ?_); rintro e w' ⟨rfl, hb'⟩
                               have k1 := g1.next hb'
                               have k2 := g2.next hb'
                               have d0 := k2.cell b
                               rw [bools_getB (by omega)] at d0
                               have d1 := k2.frozen b)
                  go_roundw
                  case rel =>
                    refine ⟨b + 1, by omega, by go_num, (hbel.trans (hb'.mono hsz)).setCell (by simp) _, k1.far (by simp) _, ?_⟩
                    have := k2.set_ b (.bool true)
                    rw [bools_set] at this
                    rw [HBS.out]; exact this
                  case measure => simp [intOf]; omega
                · rw [if_neg (fun hc => hpos hc.2)] at hbs
                  have HBS := Lib.hid hbs
                  clear hbs
                  go_wp2_with (go_at_call 125; (with_reducible refine (BC.out).mono ?_); rintro e w' ⟨rfl, hb'⟩)
                  go_roundw
                  case rel => exact ⟨b + 1, by omega, by go_num, hbel.trans (hb'.mono hsz), g1.next hb', by rw [HBS.out]; exact g2.next hb'⟩
                  case measure => simp [intOf]; omega
            · obtain rfl : b = n := by omega
              clear hbs
              go_wp2
              go_roundw
              case rel => exact ⟨a + 1, by omega, by go_num, hbel, g1, by rw [reachA_succ, HO2.out, HO3.out]; exact g2⟩
              case measure => simp [intOf]; omega
        · obtain rfl : a = n := by omega
          go_wp2
          go_roundw
          case rel => exact ⟨k + 1, by omega, by go_num, hbel', g1', by rw [reachR_succ, HO1.out, HO2.out]; exact g2'⟩
          case measure => simp [intOf]; omega
    · obtain rfl : k = n := by omega
      go_wp2
      go_ret
      exact ⟨w.heap.size + 1, rfl, by rw [HR.out, HO1.out]; exact g2, by omega, hbel⟩
end Go.Proofs.YtghigdcpinengaaGreat

/-! ref08.Parts, ref08.Connected; the errors of graphs with sinks and configurations, as the reference finds them. -/
namespace Go.Proofs.YtghigdcpinengaaGreat
open Go.RowKit

set_option maxRecDepth 100000 in
set_option maxHeartbeats 4000000 in
theorem rparts_any (n : Nat) (hn12 : n ≤ 12) (A : Option Addr) (c : Nat) (es : List E3) (hn : es.length ≤ 1048576) (w : World) (h : Reads w w.heap.size 3 A es.length (edgeCells es)) :
    Calls Tryz.prog 66 #[.agg #[.int .i64 n, .slice A es.length c]] w fun e w' => e = .returned (.int .i64 ((partsTo es n n).1 : Nat)) ∧ Below w.heap.size w w' := by
  have hmk := make_bools n (by omega)
  have g0 := (Blk.new w 24 #[.int .i64 n, .slice A es.length c]).alloc (.cells (bools (List.replicate n false)) 4)
  have gs := Blk.new (w.alloc (.cells #[.int .i64 n, .slice A es.length c] 24)) 4 (bools (List.replicate n false))
  rw [show (w.alloc (.cells #[.int .i64 n, .slice A es.length c] 24)).heap.size = w.heap.size + 1 from by simp] at gs
  go_enter Tryz.func66, Tryz.ntmps66
  go_wp2
  go_loopw [3, 5] (fun m i wr => ∃ (k x : Nat) (s : List Bool), k ≤ n ∧ i = .int .i64 k ∧ m = .int .i64 x ∧ x ≤ k ∧ Hid (partsTo es n k = (x, s)) ∧ Below w.heap.size w wr ∧ Blk wr w.heap.size 24 #[.int .i64 n, .slice A es.length c] ∧ Blk wr (w.heap.size + 1) 4 (bools s)) (fun _ i _ => n - (intOf i).toNat)
  case atStart => exact ⟨0, 0, _, by omega, rfl, rfl, by omega, rfl, ((Below.refl _ _).alloc (Nat.le_refl _) _).alloc (by simp) _, g0, gs⟩
  case round =>
    obtain ⟨k, x, s, hk, rfl, rfl, hx, HS, hbel, g1, g2⟩ := hrel
    clear g0 gs hmk
    have c0 := g1.cell 0
    have hsl : s.length = n := by have := partsTo_length es n k; rw [HS.out] at this; exact this
    have hps := partsTo_succ es n k
    rw [HS.out] at hps
    have hsz := hbel.size
    have hlt2 := g2.lt
    by_cases hlt : k < n
    · have hi : (k : Int) < (n : Int) := by omega
      have ck := g2.cell k
      rw [bools_getB (by omega)] at ck
      cases hsk : getB s k
      · rw [hsk] at ck
        rw [show getB (x, s).2 k = getB s k from rfl, hsk] at hps
        simp only [Bool.false_eq_true, if_false] at hps
        have HP := Lib.hid hps
        have RC := Lib.hid (reached_any n hn12 A c es hn k hlt wr ((h.below hbel).more hsz))
        obtain ⟨r, hr⟩ : ∃ r, reached es n k = r := ⟨_, rfl⟩
        have hrl : r.length = n := by rw [← hr, reached_length]
        rw [hr] at RC HP
        have c1 := g1.cell 1
        have hx1 : (x : Int) + 1 ≤ 100 := by omega
        clear hps hsk hr
        go_wp2_with (go_at_call 95; (with_reducible refine (RC.out).mono ?_); rintro e w' ⟨gr, rfl, kr, hgr, hb'⟩
                     have k1 := g1.next hb'
                     have k2 := g2.next hb'
                     have kB := hbel.trans (hb'.mono hsz)
                     have kc := k1.cell 0)
        obtain ⟨wo, rfl⟩ : ∃ wo : World, wo = w' := ⟨_, rfl⟩
        clear g1 g2 hbel hb' kc c0 ck c1
        have hne : gr ≠ w.heap.size + 1 := by omega
        go_loopw [7] (fun i wr => ∃ u : Nat, u ≤ n ∧ i = .int .i64 u ∧ Below w.heap.size w wr ∧ Blk wr w.heap.size 24 #[.int .i64 n, .slice A es.length c] ∧ Blk wr (w.heap.size + 1) 4 (bools (orTo s r u)) ∧ Blk wr gr 4 (bools r)) (fun i _ => n - (intOf i).toNat)
        case atStart => exact ⟨0, by omega, rfl, kB, k1, k2, kr⟩
        case round =>
          obtain ⟨u, hu, rfl, hbel, g1, g2, g3⟩ := hrel
          clear kB k1 k2 kr
          have hos := orTo_succ s r u
          have hol : (orTo s r u).length = n := by rw [orTo_length, hsl]
          obtain ⟨o, ho⟩ : ∃ o, orTo s r u = o := ⟨_, rfl⟩
          rw [ho] at hos hol g2
          have HO := Lib.hid ho
          clear ho
          have c0 := g1.cell 0
          by_cases hltu : u < n
          · have hi : (u : Int) < (n : Int) := by omega
            have ca := g2.cell u
            rw [bools_getB (by omega)] at ca
            have cb := g3.cell u
            rw [bools_getB (by omega)] at cb
            have fa := g2.frozen u
            cases ha : getB o u <;> cases hb : getB r u
            all_goals
              rw [ha] at ca hos
              rw [hb] at cb hos
              have HOS := Lib.hid hos
              clear hos ha hb
              go_wp2
              go_roundw
              case rel =>
                refine ⟨u + 1, by omega, by go_num, hbel.setCell (by simp) _, g1.far (by simp) _, ?_, g3.far (by simpa using hne) _⟩
                rw [HOS.out, ← bools_set]
                exact g2.set_ u _
              case measure => simp [intOf]; omega
          · obtain rfl : u = n := by omega
            clear hos
            go_wp2
            go_roundw
            case rel => exact ⟨k + 1, x + 1, o, by omega, by go_num, by go_num, by omega, by rw [Hid, HP.out, HO.out], hbel, g1, g2⟩
            case measure => simp [intOf]; omega
      · rw [hsk] at ck
        rw [show getB (x, s).2 k = getB s k from rfl, hsk] at hps
        simp only [if_true] at hps
        have HP := Lib.hid hps
        clear hps hsk
        go_wp2
        go_roundw
        case rel => exact ⟨k + 1, x, s, by omega, by go_num, rfl, by omega, HP.out, hbel, g1, g2⟩
        case measure => simp [intOf]; omega
    · obtain rfl : k = n := by omega
      clear hps
      go_wp2
      go_ret
      exact ⟨ret_int (by rw [HS.out]), hbel⟩
set_option maxHeartbeats 1000000 in
theorem rconnected_any (n : Nat) (hn12 : n ≤ 12) (A : Option Addr) (c : Nat) (es : List E3) (hn : es.length ≤ 1048576) (w : World) (h : Reads w w.heap.size 3 A es.length (edgeCells es)) :
    Calls Tryz.prog 73 #[.agg #[.int .i64 n, .slice A es.length c]] w fun e w' => e = .returned (.bool (connB n es)) ∧ Below w.heap.size w w' := by
  have PC := Lib.hid (rparts_any n hn12 A c es hn)
  unfold connB
  obtain ⟨q, hq⟩ : ∃ q, (partsTo es n n).1 = q := ⟨_, rfl⟩
  rw [hq] at PC ⊢
  clear hq
  go_enter Tryz.func73, Tryz.ntmps73
  go_wp2_with fail
  refine (PC.out _ ((h.alloc (Nat.le_refl _) _).more (by simp))).mono ?_
  rintro e w1 ⟨rfl, hb1⟩
  have hbel1 : Below w.heap.size w w1 := ((Below.refl _ _).alloc (Nat.le_refl _) _).trans (hb1.mono (by simp))
  go_wp2
  go_ret
  refine ⟨ret_bool ?_, hbel1⟩
  rw [Bool.eq_iff_iff]; simp; omega

set_option maxHeartbeats 2000000 in
theorem rrooted_any (n : Int) (A : Option Addr) (c : Nat) (es : List E3) (hn : es.length ≤ 1048576) (q : Int) (w : World) (h : Reads w w.heap.size 3 A es.length (edgeCells es)) :
    Calls Tryz.prog 40 #[.agg #[.int .i64 n, .slice A es.length c], .int .i64 q] w fun e w' => e = .returned (.int .i64 (rootErr n es q)) ∧ Below w.heap.size w w' := by
  have GC := Lib.hid (rgcheck_any n A c es hn)
  have g0 := Blk.new w 24 #[.int .i64 n, .slice A es.length c]
  rcases root_cases n es q with ⟨h1, hE⟩ | ⟨h1, h2, hE⟩ | ⟨h1, h2, h3, hE⟩ | ⟨h1, h2, h3, hE⟩
  · rw [hE]
    obtain ⟨r, hr⟩ : ∃ r, checkG n es = r := ⟨_, rfl⟩
    rw [hr] at GC h1 ⊢
    have hb : (r != 0) = true := by simpa using h1
    clear hr h1 hE
    go_enter Tryz.func40, Tryz.ntmps40
    go_wp2_with fail
    refine (GC.out _ ((h.alloc (Nat.le_refl _) _).more (by simp))).mono ?_
    rintro e w1 ⟨rfl, hb1⟩
    have hbel1 : Below w.heap.size w w1 := ((Below.refl _ _).alloc (Nat.le_refl _) _).trans (hb1.mono (by simp))
    go_wp2
    go_ret
    exact ⟨rfl, hbel1⟩
  all_goals
    rw [hE]
    have hG := right_of h1
    have hlo := hG.lo
    have hhi := hG.hi
    rw [h1] at GC
    obtain ⟨m, rfl⟩ := Int.eq_ofNat_of_zero_le (show 0 ≤ n by omega)
    have CC := Lib.hid (rconnected_any m (by omega) A c es hn)
    rw [Int.toNat_natCast] at h2
    rw [h2] at CC
    clear h1 hE hG h2
    go_enter Tryz.func40, Tryz.ntmps40
    go_wp2_with fail
    refine (GC.out _ ((h.alloc (Nat.le_refl _) _).more (by simp))).mono ?_
    rintro e w1 ⟨rfl, hb1⟩
    have hbel1 : Below w.heap.size w w1 := ((Below.refl _ _).alloc (Nat.le_refl _) _).trans (hb1.mono (by simp))
    have g1 := g0.next hb1
    have c0 := g1.cell 0
    have c1 := g1.cell 1
    have hs1 := hbel1.size
    go_wp2_with fail
    refine (CC.out _ ((h.below hbel1).more hs1)).mono ?_
    rintro e w2 ⟨rfl, hb2⟩
    have hbel2 := hbel1.trans (hb2.mono hs1)
    have g2 := g1.next hb2
    have d0 := g2.cell 0
    have d1 := g2.cell 1
    have hs2 := hbel2.size
    first
      | (go_wp2_with fail
         go_ret
         exact ⟨rfl, hbel2⟩)
      | (go_wp2_with (go_at_call 74; refine (rvertex_any _ _ _ _ _ _).mono ?_; rintro e w' ⟨rfl, rfl⟩)
         go_ret
         exact ⟨rfl, hbel2.alloc hs2 _⟩)
end Go.Proofs.YtghigdcpinengaaGreat

/-! ref19.Check and ref23.Check. -/
namespace Go.Proofs.YtghigdcpinengaaGreat
open Go.RowKit

end Go.Proofs.YtghigdcpinengaaGreat

/-! recurrent.Dual; ref24.Turned, Dual: the dual of a stable configuration. -/
namespace Go.Proofs.YtghigdcpinengaaGreat
open Go.RowKit

/-- A list less another one, as far as k. -/
def trnTo (n : Nat) (top cs : List Int) (k : Nat) : List Int := (List.range n).map fun v : Nat => if v < k then top.getD v 0 - cs.getD v 0 else top.getD v 0
theorem trnTo_length (n : Nat) (top cs : List Int) (k : Nat) : (trnTo n top cs k).length = n := by simp [trnTo]
theorem trnTo_zero {n : Nat} {top : List Int} (cs : List Int) (h : top.length = n) : trnTo n top cs 0 = top := by
  apply List.ext_getElem?
  intro i
  unfold trnTo
  by_cases hi : i < n
  · simp [hi, h]
  · simp [hi, h]
theorem trnTo_at {n v : Nat} {top cs : List Int} (hv : v < n) {x : Int} (hx : top[v]? = some x) : (trnTo n top cs v)[v]? = some x := by
  unfold trnTo
  simp [hv, hx]
theorem trnTo_succ {n k : Nat} {top cs : List Int} {x y : Int} (hx : top[k]? = some x) (hy : cs[k]? = some y) : trnTo n top cs (k + 1) = (trnTo n top cs k).set k (x - y) := by
  apply List.ext_getElem?
  intro i
  unfold trnTo
  by_cases hi : i < n
  · by_cases h : i = k
    · subst h
      rw [List.getElem?_set_self (by simpa using hi)]
      simp [hi, hx, hy]
    · rw [List.getElem?_set_ne (fun e => h e.symm)]
      simp only [List.getElem?_map, List.getElem?_range hi, Option.map_some]
      by_cases h2 : i < k
      · rw [if_pos h2, if_pos (by omega)]
      · rw [if_neg h2, if_neg (by omega)]
  · rw [List.getElem?_eq_none (by simp; omega), List.getElem?_eq_none (by simp; omega)]
theorem trn_dul {n q : Nat} {es : List E3} {cs : List Int} (hok : ∀ e ∈ es, okE n e) (h0 : cs.getD q 0 = 0) : trnTo n (maxL n es q) cs n = dulL n es cs q := by
  unfold trnTo dulL dulTo
  apply List.map_congr_left
  intro v hv
  have hv := List.mem_range.1 hv
  rw [if_pos hv, maxL_get hok hv]
  by_cases h : v = q
  · rw [if_pos h, if_neg (fun e => e.2 h), h, h0]; rfl
  · rw [if_neg h, if_pos ⟨hv, h⟩]
theorem maxL_bd {n q : Nat} {es : List E3} (hlen : es.length ≤ 10000) (hok : ∀ e ∈ es, okE n e) : ∀ x ∈ maxL n es q, -1 ≤ x ∧ x ≤ 1000000 := fun x hx => by
  obtain ⟨i, hi⟩ := List.getElem?_of_mem hx
  have hin : i < n := by have := (List.getElem?_eq_some_iff.1 hi).1; rw [maxL_length] at this; exact this
  have h1 := maxL_get (q := q) hok hin
  rw [getD_at hi] at h1
  have h2 := valE_bd hok i
  rw [h1]
  split <;> omega

end Go.Proofs.YtghigdcpinengaaGreat

/-! stabilize.Stable; superstable.Dual of a superstable configuration; ref28.Turned. -/
namespace Go.Proofs.YtghigdcpinengaaGreat
open Go.RowKit

theorem firstT_neg (ws : List Bool) : decide (firstT ws < 0) = (List.range ws.length).all fun v => !ws.getD v false := by
  unfold firstT
  rcases hf : (List.range ws.length).find? fun v => ws.getD v false with _ | v
  · rw [List.find?_eq_none] at hf
    symm
    show ((List.range ws.length).all fun v => !ws.getD v false) = true
    rw [List.all_eq_true]
    intro v hv
    have := hf v hv
    simpa using this
  · have h1 := List.find?_some hf
    have h2 := List.mem_of_find?_eq_some hf
    have h3 : ¬ ((v : Int) < 0) := by omega
    simp only [decide_eq_false h3]
    symm
    rw [List.all_eq_false]
    exact ⟨v, h2, by simpa using h1⟩
theorem stable_wait {n q : Nat} {es : List E3} (hn : n ≤ 12) (hok : ∀ e ∈ es, okE n e) (cs : List Int) : decide (firstT (waitL n q cs (valL n (endsL es))) < 0) = stabTo es cs q n := by
  rw [firstT_neg]
  have hl : (waitL n q cs (valL n (endsL es))).length = 12 := by simp [waitL]
  have hg : ∀ v, v < 12 → (waitL n q cs (valL n (endsL es))).getD v false = (decide (v < n) && unst q cs (valL n (endsL es)) v) := fun v hv => by
    unfold waitL
    rw [List.getD_eq_getElem?_getD, List.getElem?_map, List.getElem?_range hv]; rfl
  rw [hl, Bool.eq_iff_iff]
  unfold stabTo
  rw [List.all_eq_true, List.all_eq_true]
  constructor
  · intro h v hv
    have hvn := List.mem_range.1 hv
    have := h v (List.mem_range.2 (by omega))
    rw [hg v (by omega), decide_eq_true hvn, Bool.true_and] at this
    unfold unst at this
    rw [valL_val (n := n) hok (v := v) ] at this
    by_cases hq : v = q
    · simp [hq]
    · have hq' : ((v : Int) ≠ (q : Int)) := by omega
      simp only [decide_eq_true hq', Bool.true_and, Bool.not_eq_true', decide_eq_false_iff_not] at this
      rw [Bool.or_eq_true]; right; exact decide_eq_true (by omega)
  · intro h v hv
    rw [hg v (List.mem_range.1 hv)]
    by_cases hvn : v < n
    · have := h v (List.mem_range.2 hvn)
      rw [Bool.or_eq_true, decide_eq_true_eq, decide_eq_true_eq] at this
      unfold unst
      rw [valL_val (n := n) hok (v := v)]
      rcases this with h1 | h1
      · simp [h1]
      · have h2 : ¬ valE es v ≤ cs.getD v 0 := by omega
        rw [decide_eq_false h2]; simp
    · simp [hvn]

set_option maxRecDepth 100000 in
set_option maxHeartbeats 4000000 in
theorem sstable_ok (n : Nat) (A : Option Addr) (c : Nat) (es : List E3) (hlen : es.length ≤ 10000) (q : Nat) (B : Option Addr) (cB : Nat) (d : List Int) (hc : confErr n es q d = 0) (w : World)
    (h : Reads w w.heap.size 3 A es.length (edgeCells es)) (h' : Reads w w.heap.size 1 B d.length (ints d)) :
    Calls Tryz.prog 91 #[.agg #[.int .i64 n, .slice A es.length c], .int .i64 q, .slice B d.length cB] w fun e w' => e = .returned (.tuple #[.bool (stabTo es d q n), .int .i64 0]) ∧ Below w.heap.size w w' := by
  have hG := (conf_zero hc).1
  have hn12 : n ≤ 12 := by have := hG.hi; omega
  have hST : decide (firstT (waitL n q d (valL n (endsL es))) < 0) = stabTo es d q n := stable_wait hn12 hG.ok d
  have GC := Lib.hid (fun (W : World) (hB : Below w.heap.size w W) => given_ok n A c es hlen q B cB d hc W ((h.below hB).more hB.size) ((h'.below hB).more hB.size))
  have g0 := Blk.new w 24 #[.int .i64 n, .slice A es.length c]
  have hb0 : Below w.heap.size w (w.alloc (.cells #[.int .i64 n, .slice A es.length c] 24)) := (Below.refl _ _).alloc (Nat.le_refl _) _
  have c0 := g0.cell 0
  have c1 := g0.cell 1
  obtain ⟨S, hS⟩ : ∃ S, stabTo es d q n = S := ⟨_, rfl⟩
  rw [hS] at hST ⊢
  obtain ⟨rows, hrows⟩ : ∃ r, rowsL n (endsL es) = r := ⟨_, rfl⟩
  obtain ⟨val, hval⟩ : ∃ r, valL n (endsL es) = r := ⟨_, rfl⟩
  rw [hrows, hval] at GC
  rw [hval] at hST
  obtain ⟨ws, hws⟩ : ∃ r, waitL n q d val = r := ⟨_, rfl⟩
  rw [hws] at GC hST
  obtain ⟨x, hx⟩ : ∃ x, firstT ws = x := ⟨_, rfl⟩
  have HX := Lib.hid hx
  rw [hx] at hST
  clear hS hrows hval hws hG hc h h' hx
  have HS := Lib.hid hST
  clear hST
  go_enter Tryz.func91, Tryz.ntmps91
  go_wp2_with fail
  refine (GC.out _ hb0).mono ?_
  rintro e w1 ⟨bp, a, rfl, P1, hb1⟩
  have B1 := hb0.trans (hb1.mono hb0.size)
  have NX : Hid (Calls Tryz.prog 121 #[.pointer (some ⟨bp, 0, none⟩)] w1 fun e w' => e = .returned (.int .i64 x) ∧ w' = w1) := by
    have := pnext_any _ bp n a d q rows val (List.replicate n 0) 0 ws w1 P1
    rw [HX.out] at this
    exact this
  clear P1
  go_wp2_with fail
  refine (NX.out).mono ?_
  rintro e w2 ⟨rfl, rfl⟩
  go_wp2
  go_ret2
  exact ⟨by rw [← HS.out]; rfl, B1⟩

set_option maxRecDepth 100000 in
set_option maxHeartbeats 4000000 in
theorem sdual_ok (n : Nat) (A : Option Addr) (c : Nat) (es : List E3) (hlen : es.length ≤ 10000) (q : Nat) (B : Option Addr) (d : Nat) (cs : List Int) (hb : burnErr n es q cs = 0) (hst : stabTo es cs q n = true) (w : World)
    (h : Reads w w.heap.size 3 A es.length (edgeCells es)) (h' : Reads w w.heap.size 1 B cs.length (ints cs)) :
    Calls Tryz.prog 58 #[.agg #[.int .i64 n, .slice A es.length c], .int .i64 q, .slice B cs.length d] w fun e w' => ∃ A' c', e = .returned (.tuple #[.slice A' n c', .int .i64 0]) ∧ OwnI w' w.heap.size A' c' (dulL n es cs q) ∧ Below w.heap.size w w' := by
  obtain ⟨hc, h0⟩ := burn_zero hb
  rw [Int.toNat_natCast] at h0
  obtain ⟨hG, _, hq0, hqn, hcl, hcb, _⟩ := conf_zero hc
  have hcl : cs.length = n := by omega
  have hr : rootErr n es q = 0 := by
    rcases conf_cases n es q cs with ⟨h1, h2⟩ | ⟨h1, _⟩ | ⟨h1, _⟩
    · exact absurd (h2 ▸ hc) h1
    · exact h1
    · exact h1
  have SU : Hid (∀ W, Below w.heap.size w W → Calls Tryz.prog 84 #[.agg #[.int .i64 n, .slice A es.length c], .int .i64 q, .slice B cs.length d] W fun e w' => ∃ b, e = .returned (.tuple #[.bool b, .int .i64 0]) ∧ Below W.heap.size W w') := by
    intro W hB
    refine (super_any n A c es (by omega) q B d cs (by have := hG.hi; omega) W ((h.below hB).more hB.size) ((h'.below hB).more hB.size)).mono ?_
    rintro e w' ⟨rfl, hb'⟩
    have e0 : (superE n es q cs).2 = 0 := by unfold superE; rw [if_pos hb]
    exact ⟨_, by rw [e0], hb'⟩
  have ST : Hid (∀ W, Below w.heap.size w W → Calls Tryz.prog 91 #[.agg #[.int .i64 n, .slice A es.length c], .int .i64 q, .slice B cs.length d] W fun e w' => e = .returned (.tuple #[.bool true, .int .i64 0]) ∧ Below W.heap.size W w') := by
    intro W hB
    have := sstable_ok n A c es hlen q B d cs hc W ((h.below hB).more hB.size) ((h'.below hB).more hB.size)
    rw [hst] at this
    exact this
  have FI' := Lib.hid (fun (W : World) (hB : Below w.heap.size w W) => sfirst_ok n A c es hlen q hr W ((h.below hB).more hB.size))
  have g0 := Blk.new w 24 #[.int .i64 n, .slice A es.length c]
  have B0 : Below w.heap.size w (w.alloc (.cells #[.int .i64 n, .slice A es.length c] 24)) := (Below.refl _ _).alloc (Nat.le_refl _) _
  have c0 := g0.cell 0
  have c1 := g0.cell 1
  have HD : Hid (trnTo n (maxL n es q) cs n = dulL n es cs q) := trn_dul hG.ok h0
  have HDl : Hid ((dulL n es cs q).length = n) := dulL_length n es cs q
  have hml := maxL_length n es q
  have HTB : Hid (∀ x ∈ maxL n es q, -1 ≤ x ∧ x ≤ 1000000) := maxL_bd hlen hG.ok
  have HCL := Lib.hid hcl
  have HCB := Lib.hid hcb
  have hn1 : 1 ≤ n := by have := hG.lo; omega
  have hn12 : n ≤ 12 := by have := hG.hi; omega
  obtain ⟨T, hT⟩ : ∃ T, maxL n es q = T := ⟨_, rfl⟩
  obtain ⟨R, hR⟩ : ∃ R, dulL n es cs q = R := ⟨_, rfl⟩
  rw [hT] at FI' HD hml HTB
  rw [hR] at HD HDl ⊢
  have HML := Lib.hid hml
  rw [hcl] at SU ST h' ⊢
  clear hG hcl hcb h0 hml hT hR hb hc hst hr hq0 hqn
  go_enter Tryz.func58, Tryz.ntmps58
  go_wp2_with fail
  refine (SU.out _ B0).mono ?_
  rintro e w1 ⟨bb, rfl, hb1⟩
  have B1 := B0.trans (hb1.mono B0.size)
  have g1 := g0.next hb1
  have c0 := g1.cell 0
  have c1 := g1.cell 1
  clear hb1
  go_wp2_with fail
  refine (ST.out _ B1).mono ?_
  rintro e w2 ⟨rfl, hb2⟩
  have B2 := B1.trans (hb2.mono B1.size)
  have g2 := g1.next hb2
  have c0 := g2.cell 0
  have c1 := g2.cell 1
  clear hb2
  go_wp2_with fail
  refine (FI'.out _ B2).mono ?_
  rintro e w3 ⟨A3, c3, rfl, o3, hb3⟩
  have B3 := B2.trans (hb3.mono B2.size)
  have o3 := o3.mono B2.size
  obtain ⟨g, rfl, hg, _, _⟩ := o3.block (by rw [HML.out]; omega)
  clear g0 B0 c0 c1 hb3 g1 g2 B1 B2
  go_wp2_with fail
  go_loopw [13, 14, 48] (fun _ _ i wl => ∃ v : Nat, v ≤ n ∧ i = .int .i64 v ∧ Hid (OwnI wl w.heap.size (some ⟨g, 0, none⟩) c3 (trnTo n T cs v)) ∧ Hid (Below w.heap.size w wl)) (fun _ _ i _ => n - (intOf i).toNat)
  case atStart => exact ⟨0, by omega, rfl, by rw [Hid, trnTo_zero cs HML.out]; exact o3, B3⟩
  case round =>
    obtain ⟨v, hv, rfl, HO, HB⟩ := hrel
    clear o3 B3
    by_cases hlt : v < n
    · have hi : (v : Int) < (n : Int) := by omega
      obtain ⟨x, hx⟩ := get_of_lt (xs := T) (k := v) (by rw [HML.out]; exact hlt)
      obtain ⟨y, hy⟩ := get_of_lt (xs := cs) (k := v) (by rw [HCL.out]; exact hlt)
      have hxb := HTB.out x (List.mem_of_getElem? hx)
      have hyb := HCB.out y (List.mem_of_getElem? hy)
      obtain ⟨bB, oB, hA, hbB, hcell⟩ := (h'.below HB.out).at_ (ints_at hy)
      subst hA
      have hms := trnTo_succ (n := n) hx hy
      have hat := trnTo_at (n := n) (cs := cs) hlt hx
      obtain ⟨g', hg', hgb, hfz, hcz⟩ := HO.out.block (by rw [trnTo_length]; omega)
      injection hg' with hg'
      injection hg' with hg'
      subst hg'
      have k0 := hcz v x hat
      have f0 := hfz v
      have hw1 : IntKind.i64.wrap (x - y) = x - y := IntWalk.i64_in _ (by omega)
      have O2 := HO.out.put v (x - y)
      rw [← hms] at O2
      have HO2 := Lib.hid O2
      have B2 := Lib.hid (HB.out.setCell (p := ⟨g, v, none⟩) (by show w.heap.size ≤ g; exact hgb) (.int .i64 (x - y)))
      clear hx hy hms hat O2 hfz hcz
      go_wp2
      go_roundw
      case rel => exact ⟨v + 1, by omega, by go_num, HO2, B2⟩
      case measure => simp [intOf]; omega
    · obtain rfl : v = n := by omega
      have hO := HO.out
      rw [HD.out] at hO
      have hB := HB.out
      go_wp2
      go_ret2
      exact ⟨_, _, rfl, hO, hB⟩
end Go.Proofs.YtghigdcpinengaaGreat

