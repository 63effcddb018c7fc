/-
  Texts of this claim, put together: Reach, RCatch.
-/
import Derived.Test.YtplgbapbgcipdaaGreatK13
import Derived.Test.YtplgbapbgcipdaaGreatK02
import Derived.Test.YtplgbapbgcipdaaGreatK10
import Derived.Test.YtplgbapbgcipdaaGreatK14
import Derived.Deep.RegionHeld3
/-! ref08.Reached, ref08.Parts, ref08.Connected. -/
namespace Go.Proofs.YtplgbapbgcipdaaGreat
open Go.RowKit

theorem bools_getB {o : List Bool} {k : Nat} (h : k < o.length) : (bools o)[k]? = some (.bool (getB o k)) := by
  simp [bools, getB, List.getD_eq_getElem?_getD, List.getElem?_eq_getElem h]

set_option maxRecDepth 100000 in
set_option maxHeartbeats 4000000 in
theorem reached_any (n : Nat) (hn12 : n ≤ 12) (A : Option Addr) (c : Nat) (es : List E3) (hn : es.length ≤ 1048576) (v : Nat) (hv : v < n) (w : World) (h : Reads w w.heap.size 3 A es.length (edgeCells es)) :
    Calls Tryz.prog 112 #[.agg #[.int .i64 n, .slice A es.length c], .int .i64 v] w fun e w' => ∃ g, e = .returned (.slice (some ⟨g, 0, none⟩) n n) ∧ Blk w' g 4 (bools (reached es n v)) ∧ w.heap.size ≤ g ∧ Below w.heap.size w w' := by
  have hmk := make_bools n (by omega)
  have hvi : (v : Int) < (n : Int) := by omega
  have hc0 : ((bools (List.replicate n false)))[v]? = some (.bool false) := by rw [bools_getB (by simpa using hv)]; simp [getB, List.getD_eq_getElem?_getD, hv]
  have g0 := (Blk.new w 24 #[.int .i64 n, .slice A es.length c]).alloc (.cells (bools (List.replicate n false)) 4)
  have gs := Blk.new (w.alloc (.cells #[.int .i64 n, .slice A es.length c] 24)) 4 (bools (List.replicate n false))
  rw [show (w.alloc (.cells #[.int .i64 n, .slice A es.length c] 24)).heap.size = w.heap.size + 1 from by simp] at gs
  have q1 := gs.cell v
  rw [hc0] at q1
  have q2 := gs.frozen v
  have HR : Hid (reached es n v = reachR es n ((List.replicate n false).set v true) n) := rfl
  obtain ⟨o0, ho0⟩ : ∃ o0, (List.replicate n false).set v true = o0 := ⟨_, rfl⟩
  have hl0 : o0.length = n := by rw [← ho0]; simp
  have e0 : (bools (List.replicate n false)).setIfInBounds v (.bool true) = bools o0 := by rw [bools_set, ho0]
  have g0' := (Blk.new w 24 #[.int .i64 n, .slice A es.length c]).alloc (.cells ((bools (List.replicate n false)).setIfInBounds v (.bool true)) 4)
  have gs' : Blk ((w.alloc (.cells #[.int .i64 n, .slice A es.length c] 24)).alloc (.cells ((bools (List.replicate n false)).setIfInBounds v (.bool true)) 4)) (w.heap.size + 1) 4 (bools o0) := by
    rw [← e0]
    have := Blk.new (w.alloc (.cells #[.int .i64 n, .slice A es.length c] 24)) 4 ((bools (List.replicate n false)).setIfInBounds v (.bool true))
    rwa [show (w.alloc (.cells #[.int .i64 n, .slice A es.length c] 24)).heap.size = w.heap.size + 1 from by simp] at this
  rw [ho0] at HR
  have HL := Lib.hid hl0
  clear ho0 hl0 hc0 g0 gs e0
  go_enter Tryz.func112, Tryz.ntmps112
  go_wp2
  go_loopw [6] (fun i wr => ∃ k : Nat, k ≤ n ∧ i = .int .i64 k ∧ Below w.heap.size w wr ∧ Blk wr w.heap.size 24 #[.int .i64 n, .slice A es.length c] ∧ Blk wr (w.heap.size + 1) 4 (bools (reachR es n o0 k))) (fun i _ => n - (intOf i).toNat)
  case atStart => exact ⟨0, by omega, rfl, ((Below.refl _ _).alloc (Nat.le_refl _) _).alloc (by simp) _, g0', gs'⟩
  case round =>
    obtain ⟨k, hk, rfl, hbel, g1, g2⟩ := hrel
    clear g0' gs' q1 q2 hmk
    obtain ⟨o1, ho1⟩ : ∃ o1, reachR es n o0 k = o1 := ⟨_, rfl⟩
    have hl1 : o1.length = n := by rw [← ho1, reachR_length, HL.out]
    have HO1 := Lib.hid ho1
    have HL1 := Lib.hid hl1
    rw [ho1] at g2
    clear ho1 hl1
    have c0 := g1.cell 0
    by_cases hlt : k < n
    · have hi : (k : Int) < (n : Int) := by omega
      go_wp2
      obtain ⟨wo, rfl⟩ : ∃ wo : World, wo = wr := ⟨_, rfl⟩
      clear c0
      go_loopw [7] (fun i wr => ∃ a : Nat, a ≤ n ∧ i = .int .i64 a ∧ Below w.heap.size w wr ∧ Blk wr w.heap.size 24 #[.int .i64 n, .slice A es.length c] ∧ Blk wr (w.heap.size + 1) 4 (bools (reachA es n o1 a))) (fun i _ => n - (intOf i).toNat)
      case atStart => exact ⟨0, by omega, rfl, hbel, g1, g2⟩
      case round =>
        obtain ⟨a, ha, rfl, hbel', g1', g2'⟩ := hrel
        clear hbel g1 g2
        obtain ⟨o2, ho2⟩ : ∃ o2, reachA es n o1 a = o2 := ⟨_, rfl⟩
        have hl2 : o2.length = n := by rw [← ho2, reachA_length, HL1.out]
        have HO2 := Lib.hid ho2
        have HL2 := Lib.hid hl2
        rw [ho2] at g2'
        clear ho2 hl2
        have c0 := g1'.cell 0
        by_cases hlta : a < n
        · have hi : (a : Int) < (n : Int) := by omega
          go_wp2
          obtain ⟨wo', rfl⟩ : ∃ wo : World, wo = wr := ⟨_, rfl⟩
          clear c0
          go_loopw [8] (fun i wr => ∃ b : Nat, b ≤ n ∧ i = .int .i64 b ∧ Below w.heap.size w wr ∧ Blk wr w.heap.size 24 #[.int .i64 n, .slice A es.length c] ∧ Blk wr (w.heap.size + 1) 4 (bools (reachB es a o2 b))) (fun i _ => n - (intOf i).toNat)
          case atStart => exact ⟨0, by omega, rfl, hbel', g1', g2'⟩
          case round =>
            obtain ⟨b, hb, rfl, hbel, g1, g2⟩ := hrel
            clear hbel' g1' g2'
            have hbs := reachB_succ es a o2 b
            obtain ⟨o3, ho3⟩ : ∃ o3, reachB es a o2 b = o3 := ⟨_, rfl⟩
            have hl3 : o3.length = n := by rw [← ho3, reachB_length, HL2.out]
            rw [ho3] at g2 hbs
            have HO3 := Lib.hid ho3
            clear ho3
            have c0 := g1.cell 0
            have c1 := g1.cell 1
            by_cases hltb : b < n
            · have hib : (b : Int) < (n : Int) := by omega
              have ca := g2.cell a
              rw [bools_getB (by omega)] at ca
              have cb := g2.cell b
              rw [bools_getB (by omega)] at cb
              have fb := g2.frozen b
              have hsz := hbel.size
              unfold stepB at hbs
              cases hga : getB o3 a
              · rw [hga] at ca hbs
                rw [if_neg (fun hc => by cases hc.1)] at hbs
                have HBS := Lib.hid hbs
                clear hbs hga cb fb
                go_wp2
                go_roundw
                case rel => exact ⟨b + 1, by omega, by go_num, hbel, g1, by rw [HBS.out]; exact g2⟩
                case measure => simp [intOf]; omega
              · rw [hga] at ca hbs
                have BC := Lib.hid (between_any n A c es hn a b wr ((h.below hbel).more hsz))
                obtain ⟨q, hq⟩ : ∃ q, btw es a b = q := ⟨_, rfl⟩
                rw [hq] at BC hbs
                clear hq hga
                by_cases hpos : 0 < q
                · rw [if_pos ⟨rfl, hpos⟩] at hbs
                  have HBS := Lib.hid hbs
                  clear hbs
                  go_wp2_with (go_at_call 41; (with_reducible refine (BC.out).mono ?_); rintro e w' ⟨rfl, hb'⟩
                               have k1 := g1.next hb'
                               have k2 := g2.next hb'
                               have d0 := k2.cell b
                               rw [bools_getB (by omega)] at d0
                               have d1 := k2.frozen b)
                  go_roundw
                  case rel =>
                    refine ⟨b + 1, by omega, by go_num, (hbel.trans (hb'.mono hsz)).setCell (by simp) _, k1.far (by simp) _, ?_⟩
                    have := k2.set_ b (.bool true)
                    rw [bools_set] at this
                    rw [HBS.out]; exact this
                  case measure => simp [intOf]; omega
                · rw [if_neg (fun hc => hpos hc.2)] at hbs
                  have HBS := Lib.hid hbs
                  clear hbs
                  go_wp2_with (go_at_call 41; (with_reducible refine (BC.out).mono ?_); rintro e w' ⟨rfl, hb'⟩)
                  go_roundw
                  case rel => exact ⟨b + 1, by omega, by go_num, hbel.trans (hb'.mono hsz), g1.next hb', by rw [HBS.out]; exact g2.next hb'⟩
                  case measure => simp [intOf]; omega
            · obtain rfl : b = n := by omega
              clear hbs
              go_wp2
              go_roundw
              case rel => exact ⟨a + 1, by omega, by go_num, hbel, g1, by rw [reachA_succ, HO2.out, HO3.out]; exact g2⟩
              case measure => simp [intOf]; omega
        · obtain rfl : a = n := by omega
          go_wp2
          go_roundw
          case rel => exact ⟨k + 1, by omega, by go_num, hbel', g1', by rw [reachR_succ, HO1.out, HO2.out]; exact g2'⟩
          case measure => simp [intOf]; omega
    · obtain rfl : k = n := by omega
      go_wp2
      go_ret
      exact ⟨w.heap.size + 1, rfl, by rw [HR.out, HO1.out]; exact g2, by omega, hbel⟩
end Go.Proofs.YtplgbapbgcipdaaGreat

/-! ref08.Parts, ref08.Connected; the errors of graphs with sinks and configurations, as the reference finds them. -/
namespace Go.Proofs.YtplgbapbgcipdaaGreat
open Go.RowKit

set_option maxRecDepth 100000 in
set_option maxHeartbeats 4000000 in
theorem rparts_any (n : Nat) (hn12 : n ≤ 12) (A : Option Addr) (c : Nat) (es : List E3) (hn : es.length ≤ 1048576) (w : World) (h : Reads w w.heap.size 3 A es.length (edgeCells es)) :
    Calls Tryz.prog 77 #[.agg #[.int .i64 n, .slice A es.length c]] w fun e w' => e = .returned (.int .i64 ((partsTo es n n).1 : Nat)) ∧ Below w.heap.size w w' := by
  have hmk := make_bools n (by omega)
  have g0 := (Blk.new w 24 #[.int .i64 n, .slice A es.length c]).alloc (.cells (bools (List.replicate n false)) 4)
  have gs := Blk.new (w.alloc (.cells #[.int .i64 n, .slice A es.length c] 24)) 4 (bools (List.replicate n false))
  rw [show (w.alloc (.cells #[.int .i64 n, .slice A es.length c] 24)).heap.size = w.heap.size + 1 from by simp] at gs
  go_enter Tryz.func77, Tryz.ntmps77
  go_wp2
  go_loopw [3, 5] (fun m i wr => ∃ (k x : Nat) (s : List Bool), k ≤ n ∧ i = .int .i64 k ∧ m = .int .i64 x ∧ x ≤ k ∧ Hid (partsTo es n k = (x, s)) ∧ Below w.heap.size w wr ∧ Blk wr w.heap.size 24 #[.int .i64 n, .slice A es.length c] ∧ Blk wr (w.heap.size + 1) 4 (bools s)) (fun _ i _ => n - (intOf i).toNat)
  case atStart => exact ⟨0, 0, _, by omega, rfl, rfl, by omega, rfl, ((Below.refl _ _).alloc (Nat.le_refl _) _).alloc (by simp) _, g0, gs⟩
  case round =>
    obtain ⟨k, x, s, hk, rfl, rfl, hx, HS, hbel, g1, g2⟩ := hrel
    clear g0 gs hmk
    have c0 := g1.cell 0
    have hsl : s.length = n := by have := partsTo_length es n k; rw [HS.out] at this; exact this
    have hps := partsTo_succ es n k
    rw [HS.out] at hps
    have hsz := hbel.size
    have hlt2 := g2.lt
    by_cases hlt : k < n
    · have hi : (k : Int) < (n : Int) := by omega
      have ck := g2.cell k
      rw [bools_getB (by omega)] at ck
      cases hsk : getB s k
      · rw [hsk] at ck
        rw [show getB (x, s).2 k = getB s k from rfl, hsk] at hps
        simp only [Bool.false_eq_true, if_false] at hps
        have HP := Lib.hid hps
        have RC := Lib.hid (reached_any n hn12 A c es hn k hlt wr ((h.below hbel).more hsz))
        obtain ⟨r, hr⟩ : ∃ r, reached es n k = r := ⟨_, rfl⟩
        have hrl : r.length = n := by rw [← hr, reached_length]
        rw [hr] at RC HP
        have c1 := g1.cell 1
        have hx1 : (x : Int) + 1 ≤ 100 := by omega
        clear hps hsk hr
        go_wp2_with (go_at_call 112; (with_reducible refine (RC.out).mono ?_); rintro e w' ⟨gr, rfl, kr, hgr, hb'⟩
                     have k1 := g1.next hb'
                     have k2 := g2.next hb'
                     have kB := hbel.trans (hb'.mono hsz)
                     have kc := k1.cell 0)
        obtain ⟨wo, rfl⟩ : ∃ wo : World, wo = w' := ⟨_, rfl⟩
        clear g1 g2 hbel hb' kc c0 ck c1
        have hne : gr ≠ w.heap.size + 1 := by omega
        go_loopw [7] (fun i wr => ∃ u : Nat, u ≤ n ∧ i = .int .i64 u ∧ Below w.heap.size w wr ∧ Blk wr w.heap.size 24 #[.int .i64 n, .slice A es.length c] ∧ Blk wr (w.heap.size + 1) 4 (bools (orTo s r u)) ∧ Blk wr gr 4 (bools r)) (fun i _ => n - (intOf i).toNat)
        case atStart => exact ⟨0, by omega, rfl, kB, k1, k2, kr⟩
        case round =>
          obtain ⟨u, hu, rfl, hbel, g1, g2, g3⟩ := hrel
          clear kB k1 k2 kr
          have hos := orTo_succ s r u
          have hol : (orTo s r u).length = n := by rw [orTo_length, hsl]
          obtain ⟨o, ho⟩ : ∃ o, orTo s r u = o := ⟨_, rfl⟩
          rw [ho] at hos hol g2
          have HO := Lib.hid ho
          clear ho
          have c0 := g1.cell 0
          by_cases hltu : u < n
          · have hi : (u : Int) < (n : Int) := by omega
            have ca := g2.cell u
            rw [bools_getB (by omega)] at ca
            have cb := g3.cell u
            rw [bools_getB (by omega)] at cb
            have fa := g2.frozen u
            cases ha : getB o u <;> cases hb : getB r u
            all_goals
              rw [ha] at ca hos
              rw [hb] at cb hos
              have HOS := Lib.hid hos
              clear hos ha hb
              go_wp2
              go_roundw
              case rel =>
                refine ⟨u + 1, by omega, by go_num, hbel.setCell (by simp) _, g1.far (by simp) _, ?_, g3.far (by simpa using hne) _⟩
                rw [HOS.out, ← bools_set]
                exact g2.set_ u _
              case measure => simp [intOf]; omega
          · obtain rfl : u = n := by omega
            clear hos
            go_wp2
            go_roundw
            case rel => exact ⟨k + 1, x + 1, o, by omega, by go_num, by go_num, by omega, by rw [Hid, HP.out, HO.out], hbel, g1, g2⟩
            case measure => simp [intOf]; omega
      · rw [hsk] at ck
        rw [show getB (x, s).2 k = getB s k from rfl, hsk] at hps
        simp only [if_true] at hps
        have HP := Lib.hid hps
        clear hps hsk
        go_wp2
        go_roundw
        case rel => exact ⟨k + 1, x, s, by omega, by go_num, rfl, by omega, HP.out, hbel, g1, g2⟩
        case measure => simp [intOf]; omega
    · obtain rfl : k = n := by omega
      clear hps
      go_wp2
      go_ret
      exact ⟨ret_int (by rw [HS.out]), hbel⟩
set_option maxHeartbeats 1000000 in
theorem rconnected_any (n : Nat) (hn12 : n ≤ 12) (A : Option Addr) (c : Nat) (es : List E3) (hn : es.length ≤ 1048576) (w : World) (h : Reads w w.heap.size 3 A es.length (edgeCells es)) :
    Calls Tryz.prog 46 #[.agg #[.int .i64 n, .slice A es.length c]] w fun e w' => e = .returned (.bool (connB n es)) ∧ Below w.heap.size w w' := by
  have PC := Lib.hid (rparts_any n hn12 A c es hn)
  unfold connB
  obtain ⟨q, hq⟩ : ∃ q, (partsTo es n n).1 = q := ⟨_, rfl⟩
  rw [hq] at PC ⊢
  clear hq
  go_enter Tryz.func46, Tryz.ntmps46
  go_wp2_with fail
  refine (PC.out _ ((h.alloc (Nat.le_refl _) _).more (by simp))).mono ?_
  rintro e w1 ⟨rfl, hb1⟩
  have hbel1 : Below w.heap.size w w1 := ((Below.refl _ _).alloc (Nat.le_refl _) _).trans (hb1.mono (by simp))
  go_wp2
  go_ret
  refine ⟨ret_bool ?_, hbel1⟩
  rw [Bool.eq_iff_iff]; simp; omega

set_option maxHeartbeats 2000000 in
theorem rrooted_any (n : Int) (A : Option Addr) (c : Nat) (es : List E3) (hn : es.length ≤ 1048576) (q : Int) (w : World) (h : Reads w w.heap.size 3 A es.length (edgeCells es)) :
    Calls Tryz.prog 15 #[.agg #[.int .i64 n, .slice A es.length c], .int .i64 q] w fun e w' => e = .returned (.int .i64 (rootErr n es q)) ∧ Below w.heap.size w w' := by
  have GC := Lib.hid (rgcheck_any n A c es hn)
  have g0 := Blk.new w 24 #[.int .i64 n, .slice A es.length c]
  rcases root_cases n es q with ⟨h1, hE⟩ | ⟨h1, h2, hE⟩ | ⟨h1, h2, h3, hE⟩ | ⟨h1, h2, h3, hE⟩
  · rw [hE]
    obtain ⟨r, hr⟩ : ∃ r, checkG n es = r := ⟨_, rfl⟩
    rw [hr] at GC h1 ⊢
    have hb : (r != 0) = true := by simpa using h1
    clear hr h1 hE
    go_enter Tryz.func15, Tryz.ntmps15
    go_wp2_with fail
    refine (GC.out _ ((h.alloc (Nat.le_refl _) _).more (by simp))).mono ?_
    rintro e w1 ⟨rfl, hb1⟩
    have hbel1 : Below w.heap.size w w1 := ((Below.refl _ _).alloc (Nat.le_refl _) _).trans (hb1.mono (by simp))
    go_wp2
    go_ret
    exact ⟨rfl, hbel1⟩
  all_goals
    rw [hE]
    have hG := right_of h1
    have hlo := hG.lo
    have hhi := hG.hi
    rw [h1] at GC
    obtain ⟨m, rfl⟩ := Int.eq_ofNat_of_zero_le (show 0 ≤ n by omega)
    have CC := Lib.hid (rconnected_any m (by omega) A c es hn)
    rw [Int.toNat_natCast] at h2
    rw [h2] at CC
    clear h1 hE hG h2
    go_enter Tryz.func15, Tryz.ntmps15
    go_wp2_with fail
    refine (GC.out _ ((h.alloc (Nat.le_refl _) _).more (by simp))).mono ?_
    rintro e w1 ⟨rfl, hb1⟩
    have hbel1 : Below w.heap.size w w1 := ((Below.refl _ _).alloc (Nat.le_refl _) _).trans (hb1.mono (by simp))
    have g1 := g0.next hb1
    have c0 := g1.cell 0
    have c1 := g1.cell 1
    have hs1 := hbel1.size
    go_wp2_with fail
    refine (CC.out _ ((h.below hbel1).more hs1)).mono ?_
    rintro e w2 ⟨rfl, hb2⟩
    have hbel2 := hbel1.trans (hb2.mono hs1)
    have g2 := g1.next hb2
    have d0 := g2.cell 0
    have d1 := g2.cell 1
    have hs2 := hbel2.size
    first
      | (go_wp2_with fail
         go_ret
         exact ⟨rfl, hbel2⟩)
      | (go_wp2_with (go_at_call 39; refine (rvertex_any _ _ _ _ _ _).mono ?_; rintro e w' ⟨rfl, rfl⟩)
         go_ret
         exact ⟨rfl, hbel2.alloc hs2 _⟩)
end Go.Proofs.YtplgbapbgcipdaaGreat

/-! Package recurrent: catches, stable. -/
namespace Go.Proofs.YtplgbapbgcipdaaGreat
open Go.RowKit

def catchB (es : List E3) (cs : List Int) (l : List Nat) (v : Nat) : Bool := decide (valE es v ≤ cs.getD v 0 + jnE es l v)
/-- Is no vertex below k but the sink unstable? -/
def stabTo (es : List E3) (cs : List Int) (q : Nat) (k : Nat) : Bool := (List.range k).all fun v => decide (v = q) || decide (cs.getD v 0 < valE es v)
theorem stabTo_succ (es : List E3) (cs : List Int) (q k : Nat) : stabTo es cs q (k + 1) = (stabTo es cs q k && (decide (k = q) || decide (cs.getD k 0 < valE es k))) := by simp [stabTo, List.range_succ]
theorem stabTo_false {es : List E3} {cs : List Int} {q k n : Nat} (hk : k < n) (hq : k ≠ q) (h : valE es k ≤ cs.getD k 0) : stabTo es cs q n = false := by
  unfold stabTo
  rw [List.all_eq_false]
  refine ⟨k, by simpa using hk, ?_⟩
  rw [decide_eq_false hq, decide_eq_false (by omega)]
  simp

set_option maxRecDepth 100000 in
set_option maxHeartbeats 8000000 in
theorem rcatches_any (n : Nat) (A : Option Addr) (c : Nat) (es : List E3) (hn : es.length ≤ 10000) (hz : checkG n es = 0) (q : Int) (B : Option Addr) (d : Nat) (cs : List Int) (hcl : cs.length = n) (hcb : ∀ x ∈ cs, -1048576 ≤ x ∧ x ≤ 1048577) (v : Nat) (hv : v < n) (g : Nat) (l : List Nat) (w : World)
    (h : Reads w w.heap.size 3 A es.length (edgeCells es)) (h' : Reads w w.heap.size 1 B n (ints cs)) (hm : Blk w g 4 (bools (marks n l))) :
    Calls Tryz.prog 103 #[pileV n A es.length c q B n d, .int .i64 v, .slice (some ⟨g, 0, none⟩) n n] w fun e w' => e = .returned (.bool (catchB es cs l v)) ∧ Below w.heap.size w w' := by
  have hok := (right_of hz).ok
  obtain ⟨x, hx⟩ := get_of_lt (xs := cs) (k := v) (by omega)
  have hxb := hcb x (List.mem_of_getElem? hx)
  obtain ⟨bB, oB, rfl, hbB, hcell⟩ := h'.at_ (ints_at hx)
  have JB := jnE_bd hok l v
  have HJ := Lib.hid (fun (W : World) (hB : Below w.heap.size w W) => rjoins_any n A c es hn hok q (some ⟨bB, oB, none⟩) n d v g l W ((h.below hB).more hB.size) (hm.below hB hm.lt))
  have HV := Lib.hid (fun (W : World) (hB : Below w.heap.size w W) => rvalence_any n A c es hn hz q (some ⟨bB, oB, none⟩) n d v hv W ((h.below hB).more hB.size))
  unfold catchB
  rw [getD_at hx]
  have g0 := Blk.new w 80 (pileC n A es.length c q (some ⟨bB, oB, none⟩) n d)
  have hB0 : Below w.heap.size w (w.alloc (.cells (pileC n A es.length c q (some ⟨bB, oB, none⟩) n d) 80)) := (Below.refl _ _).alloc (Nat.le_refl _) _
  have hce := (hB0.cell (p := ⟨bB, oB + v, none⟩) hbB).trans hcell
  have hi : (v : Int) < (n : Int) := by omega
  obtain ⟨J, hJ⟩ : ∃ J, jnE es l v = J := ⟨_, rfl⟩
  obtain ⟨V, hV⟩ : ∃ V, valE es v = V := ⟨_, rfl⟩
  rw [hJ] at HJ JB ⊢
  rw [hV] at HV ⊢
  have hw : IntKind.i64.wrap (x + J) = x + J := IntWalk.i64_in _ (by omega)
  clear hJ hV hz hok hx hcell
  simp only [pileV, pileC] at g0 hB0 hce HJ HV ⊢
  have c0 := g0.cell 0
  have c1 := g0.cell 1
  have c2 := g0.cell 2
  have c3 := g0.cell 3
  have hgw : w.heap.size < (w.alloc (.cells #[.int .i64 n, .slice A es.length c, .int .i64 q, .slice (some ⟨bB, oB, none⟩) n d] 80)).heap.size := by simp
  obtain ⟨W0, hW0⟩ : ∃ W0, w.alloc (.cells #[.int .i64 n, .slice A es.length c, .int .i64 q, .slice (some ⟨bB, oB, none⟩) n d] 80) = W0 := ⟨_, rfl⟩
  have HW0 := Lib.hid hW0
  rw [hW0] at g0 hB0 hce c0 c1 c2 c3 hgw
  clear hW0
  have HJ2 := Lib.hid (fun (W : World) (hB : Below W0.heap.size W0 W) => HJ.out W (hB0.trans (hB.mono hB0.size)))
  have HV2 := Lib.hid (fun (W : World) (hB : Below W0.heap.size W0 W) => HV.out W (hB0.trans (hB.mono hB0.size)))
  have hb5 : bB < W0.heap.size := by have := hB0.size; omega
  have KC := Lib.hid (fun (W : World) (hB : Below W0.heap.size W0 W) => (⟨(hB.cell (p := ⟨w.heap.size, 0, none⟩) hgw).trans c0, (hB.cell (p := ⟨w.heap.size, 1, none⟩) hgw).trans c1, (hB.cell (p := ⟨w.heap.size, 2, none⟩) hgw).trans c2, (hB.cell (p := ⟨w.heap.size, 3, none⟩) hgw).trans c3, (hB.cell (p := ⟨bB, oB + v, none⟩) hb5).trans hce⟩ :
    W.cell? ⟨w.heap.size, 0, none⟩ = some (.int .i64 n) ∧ W.cell? ⟨w.heap.size, 1, none⟩ = some (.slice A es.length c) ∧ W.cell? ⟨w.heap.size, 2, none⟩ = some (.int .i64 q) ∧ W.cell? ⟨w.heap.size, 3, none⟩ = some (.slice (some ⟨bB, oB, none⟩) n d) ∧ W.cell? ⟨bB, oB + v, none⟩ = some (.int .i64 x)))
  have B0 : Below W0.heap.size W0 W0.drew := (Below.refl _ _).drew
  clear g0 HJ HV
  go_enter Tryz.func103, Tryz.ntmps103
  go_wp2_with fail
  rw [HW0.out]
  go_region_held3 (fun W => W.cell? ⟨w.heap.size, 0, none⟩ = some (.int .i64 n) ∧ W.cell? ⟨w.heap.size, 1, none⟩ = some (.slice A es.length c) ∧ W.cell? ⟨w.heap.size, 2, none⟩ = some (.int .i64 q) ∧ W.cell? ⟨w.heap.size, 3, none⟩ = some (.slice (some ⟨bB, oB, none⟩) n d) ∧ W.cell? ⟨bB, oB + v, none⟩ = some (.int .i64 x)) (go_keep)
    (first
      | (go_at_call 67; refine (HJ2.out _ B0).mono ?_; rintro e wJ ⟨rfl, bJ⟩; have BJ := B0.trans (bJ.mono (Nat.le_refl _)); obtain ⟨j0, j1, j2, j3, j4⟩ := KC.out wJ BJ)
      | (go_at_call 67; refine (HJ2.out _ BV).mono ?_; rintro e wJ ⟨rfl, bJ⟩; have BJ := BV.trans (bJ.mono BV.size); obtain ⟨j0, j1, j2, j3, j4⟩ := KC.out wJ BJ)
      | (go_at_call 122; refine (HV2.out _ B0).mono ?_; rintro e wV ⟨rfl, bV⟩; have BV := B0.trans (bV.mono (Nat.le_refl _)); obtain ⟨l0, l1, l2, l3, l4⟩ := KC.out wV BV)
      | (go_at_call 122; refine (HV2.out _ BJ).mono ?_; rintro e wV ⟨rfl, bV⟩; have BV := BJ.trans (bV.mono BJ.size); obtain ⟨l0, l1, l2, l3, l4⟩ := KC.out wV BV))
  all_goals
    go_wp2
    go_ret
    first
      | exact ⟨rfl, hB0.trans (BV.mono hB0.size)⟩
      | exact ⟨rfl, hB0.trans (BJ.mono hB0.size)⟩

set_option maxRecDepth 100000 in
set_option maxHeartbeats 8000000 in
theorem stable_any (n : Nat) (hn12 : n ≤ 12) (A : Option Addr) (c : Nat) (es : List E3) (hn : es.length ≤ 10000) (hz : checkG n es = 0) (q : Nat) (B : Option Addr) (d : Nat) (cs : List Int) (hcl : cs.length = n) (w : World)
    (h : Reads w w.heap.size 3 A es.length (edgeCells es)) (h' : Reads w w.heap.size 1 B n (ints cs)) :
    Calls Tryz.prog 92 #[pileV n A es.length c q B n d] w fun e w' => e = .returned (.bool (stabTo es cs q n)) ∧ Below w.heap.size w w' := by
  have HV := Lib.hid (fun (v : Nat) (hv : v < n) (W : World) (hB : Below w.heap.size w W) => rvalence_any n A c es hn hz q B n d v hv W ((h.below hB).more hB.size))
  have g0 := Blk.new w 80 (pileC n A es.length c q B n d)
  have hB0 : Below w.heap.size w (w.alloc (.cells (pileC n A es.length c q B n d) 80)) := (Below.refl _ _).alloc (Nat.le_refl _) _
  have HCL := Lib.hid hcl
  clear hz hcl
  simp only [pileV, pileC] at g0 hB0 HV ⊢
  have c3 := g0.cell 3
  go_enter Tryz.func92, Tryz.ntmps92
  go_wp2_with fail
  go_loopw [3, 4, 8] (fun _ _ i wl => ∃ k : Nat, k ≤ n ∧ i = .int .i64 k ∧ Hid (stabTo es cs q k = true) ∧ Below w.heap.size w wl ∧ Blk wl w.heap.size 80 #[.int .i64 n, .slice A es.length c, .int .i64 q, .slice B n d]) (fun _ _ i _ => n - (intOf i).toNat)
  case atStart => exact ⟨0, by omega, rfl, by simp [Hid, stabTo], hB0, g0⟩
  case round =>
    obtain ⟨k, hk, rfl, HT, hbel, g1⟩ := hrel
    clear g0 c3 hB0
    by_cases hlt : k < n
    · obtain ⟨x, hx⟩ := get_of_lt (xs := cs) (k := k) (by rw [HCL.out]; exact hlt)
      have hi : (k : Int) < (n : Int) := by omega
      obtain ⟨bB, oB, hA, hbB, hcell⟩ := (h'.below hbel).at_ (ints_at hx)
      subst hA
      have c0 := g1.cell 0
      have c1 := g1.cell 1
      have c2 := g1.cell 2
      have c3 := g1.cell 3
      have hst := stabTo_succ es cs q k
      rw [HT.out, Bool.true_and, getD_at hx] at hst
      have hge := fun hq hv => stabTo_false (es := es) (cs := cs) (q := q) (k := k) (n := n) hlt hq hv
      rw [getD_at hx] at hge
      have HG := Lib.hid hge
      clear hge
      by_cases hkq : k = q
      · have n1 : ((k : Int) != (q : Int)) = false := by simp [hkq]
        rw [decide_eq_true hkq, Bool.true_or] at hst
        have HS := Lib.hid hst
        clear hst hx hkq
        go_wp2
        go_roundw
        case rel => exact ⟨k + 1, by omega, by go_num, HS.out, hbel, g1⟩
        case measure => simp [intOf]; omega
      · have n1 : ((k : Int) != (q : Int)) = true := by rw [bne_iff_ne]; omega
        rw [decide_eq_false hkq, Bool.false_or] at hst
        have VC := Lib.hid (HV.out k hlt wr hbel)
        have HK := Lib.hid hkq
        by_cases hge : valE es k ≤ x
        · have hsf := HG.out hkq hge
          have HS := Lib.hid hsf
          obtain ⟨V, hV⟩ : ∃ V, valE es k = V := ⟨_, rfl⟩
          rw [hV] at VC hge
          clear hst hsf hx hkq hV
          go_wp2_with (go_at_call 122; refine (VC.out).mono ?_; rintro e wV ⟨rfl, bV⟩)
          go_ret
          exact ⟨by rw [HS.out]; rfl, hbel.trans (bV.mono hbel.size)⟩
        · rw [decide_eq_true (by omega)] at hst
          have HS := Lib.hid hst
          obtain ⟨V, hV⟩ : ∃ V, valE es k = V := ⟨_, rfl⟩
          rw [hV] at VC hge
          clear hst hx hkq hV
          go_wp2_with (go_at_call 122; refine (VC.out).mono ?_; rintro e wV ⟨rfl, bV⟩)
          go_roundw
          case rel => exact ⟨k + 1, by omega, by go_num, HS.out, hbel.trans (bV.mono hbel.size), g1.next bV⟩
          case measure => simp [intOf]; omega
    · obtain rfl : k = n := by omega
      go_wp2
      go_ret
      exact ⟨by rw [HT.out]; rfl, hbel⟩
end Go.Proofs.YtplgbapbgcipdaaGreat

