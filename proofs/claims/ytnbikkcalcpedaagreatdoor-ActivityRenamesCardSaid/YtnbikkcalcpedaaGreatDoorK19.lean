/-
  Texts of this claim, put together: Reach, RBurn.
-/
import Derived.Test.YtnbikkcalcpedaaGreatDoorK16
import Derived.Test.YtnbikkcalcpedaaGreatDoorK02
import Derived.Test.YtnbikkcalcpedaaGreatDoorK15
import Derived.Test.YtnbikkcalcpedaaGreatDoorK14
import Derived.Test.YtnbikkcalcpedaaGreatDoorK06
import Derived.Test.YtnbikkcalcpedaaGreatDoorK10
import Derived.StillTailTactics
import Derived.Deep.QuietTactic
import Derived.BigQuiet
import Derived.Deep.RegionWith
/-! ref08.Reached, ref08.Parts, ref08.Connected. -/
namespace Go.Proofs.YtnbikkcalcpedaaGreatDoor
open Go.RowKit

theorem bools_getB {o : List Bool} {k : Nat} (h : k < o.length) : (bools o)[k]? = some (.bool (getB o k)) := by
  simp [bools, getB, List.getD_eq_getElem?_getD, List.getElem?_eq_getElem h]

set_option maxRecDepth 100000 in
set_option maxHeartbeats 4000000 in
theorem reached_any (n : Nat) (hn12 : n ≤ 12) (A : Option Addr) (c : Nat) (es : List E3) (hn : es.length ≤ 1048576) (v : Nat) (hv : v < n) (w : World) (h : Reads w w.heap.size 3 A es.length (edgeCells es)) :
    Calls Tryz.prog 76 #[.agg #[.int .i64 n, .slice A es.length c], .int .i64 v] w fun e w' => ∃ g, e = .returned (.slice (some ⟨g, 0, none⟩) n n) ∧ Blk w' g 4 (bools (reached es n v)) ∧ w.heap.size ≤ g ∧ Below w.heap.size w w' := by
  have hmk := make_bools n (by omega)
  have hvi : (v : Int) < (n : Int) := by omega
  have hc0 : ((bools (List.replicate n false)))[v]? = some (.bool false) := by rw [bools_getB (by simpa using hv)]; simp [getB, List.getD_eq_getElem?_getD, hv]
  have g0 := (Blk.new w 24 #[.int .i64 n, .slice A es.length c]).alloc (.cells (bools (List.replicate n false)) 4)
  have gs := Blk.new (w.alloc (.cells #[.int .i64 n, .slice A es.length c] 24)) 4 (bools (List.replicate n false))
  rw [show (w.alloc (.cells #[.int .i64 n, .slice A es.length c] 24)).heap.size = w.heap.size + 1 from by simp] at gs
  have q1 := gs.cell v
  rw [hc0] at q1
  have q2 := gs.frozen v
  have HR : Hid (reached es n v = reachR es n ((List.replicate n false).set v true) n) := rfl
  obtain ⟨o0, ho0⟩ : ∃ o0, (List.replicate n false).set v true = o0 := ⟨_, rfl⟩
  have hl0 : o0.length = n := by rw [← ho0]; simp
  have e0 : (bools (List.replicate n false)).setIfInBounds v (.bool true) = bools o0 := by rw [bools_set, ho0]
  have g0' := (Blk.new w 24 #[.int .i64 n, .slice A es.length c]).alloc (.cells ((bools (List.replicate n false)).setIfInBounds v (.bool true)) 4)
  have gs' : Blk ((w.alloc (.cells #[.int .i64 n, .slice A es.length c] 24)).alloc (.cells ((bools (List.replicate n false)).setIfInBounds v (.bool true)) 4)) (w.heap.size + 1) 4 (bools o0) := by
    rw [← e0]
    have := Blk.new (w.alloc (.cells #[.int .i64 n, .slice A es.length c] 24)) 4 ((bools (List.replicate n false)).setIfInBounds v (.bool true))
    rwa [show (w.alloc (.cells #[.int .i64 n, .slice A es.length c] 24)).heap.size = w.heap.size + 1 from by simp] at this
  rw [ho0] at HR
  have HL := Lib.hid hl0
  clear ho0 hl0 hc0 g0 gs e0
  go_enter Tryz.func76, Tryz.ntmps76
  go_wp2
  go_loopw [6] (fun i wr => ∃ k : Nat, k ≤ n ∧ i = .int .i64 k ∧ Below w.heap.size w wr ∧ Blk wr w.heap.size 24 #[.int .i64 n, .slice A es.length c] ∧ Blk wr (w.heap.size + 1) 4 (bools (reachR es n o0 k))) (fun i _ => n - (intOf i).toNat)
  case atStart => exact ⟨0, by omega, rfl, ((Below.refl _ _).alloc (Nat.le_refl _) _).alloc (by simp) _, g0', gs'⟩
  case round =>
    obtain ⟨k, hk, rfl, hbel, g1, g2⟩ := hrel
    clear g0' gs' q1 q2 hmk
    obtain ⟨o1, ho1⟩ : ∃ o1, reachR es n o0 k = o1 := ⟨_, rfl⟩
    have hl1 : o1.length = n := by rw [← ho1, reachR_length, HL.out]
    have HO1 := Lib.hid ho1
    have HL1 := Lib.hid hl1
    rw [ho1] at g2
    clear ho1 hl1
    have c0 := g1.cell 0
    by_cases hlt : k < n
    · have hi : (k : Int) < (n : Int) := by omega
      go_wp2
      obtain ⟨wo, rfl⟩ : ∃ wo : World, wo = wr := ⟨_, rfl⟩
      clear c0
      go_loopw [7] (fun i wr => ∃ a : Nat, a ≤ n ∧ i = .int .i64 a ∧ Below w.heap.size w wr ∧ Blk wr w.heap.size 24 #[.int .i64 n, .slice A es.length c] ∧ Blk wr (w.heap.size + 1) 4 (bools (reachA es n o1 a))) (fun i _ => n - (intOf i).toNat)
      case atStart => exact ⟨0, by omega, rfl, hbel, g1, g2⟩
      case round =>
        obtain ⟨a, ha, rfl, hbel', g1', g2'⟩ := hrel
        clear hbel g1 g2
        obtain ⟨o2, ho2⟩ : ∃ o2, reachA es n o1 a = o2 := ⟨_, rfl⟩
        have hl2 : o2.length = n := by rw [← ho2, reachA_length, HL1.out]
        have HO2 := Lib.hid ho2
        have HL2 := Lib.hid hl2
        rw [ho2] at g2'
        clear ho2 hl2
        have c0 := g1'.cell 0
        by_cases hlta : a < n
        · have hi : (a : Int) < (n : Int) := by omega
          go_wp2
          obtain ⟨wo', rfl⟩ : ∃ wo : World, wo = wr := ⟨_, rfl⟩
          clear c0
          go_loopw [8] (fun i wr => ∃ b : Nat, b ≤ n ∧ i = .int .i64 b ∧ Below w.heap.size w wr ∧ Blk wr w.heap.size 24 #[.int .i64 n, .slice A es.length c] ∧ Blk wr (w.heap.size + 1) 4 (bools (reachB es a o2 b))) (fun i _ => n - (intOf i).toNat)
          case atStart => exact ⟨0, by omega, rfl, hbel', g1', g2'⟩
          case round =>
            obtain ⟨b, hb, rfl, hbel, g1, g2⟩ := hrel
            clear hbel' g1' g2'
            have hbs := reachB_succ es a o2 b
            obtain ⟨o3, ho3⟩ : ∃ o3, reachB es a o2 b = o3 := ⟨_, rfl⟩
            have hl3 : o3.length = n := by rw [← ho3, reachB_length, HL2.out]
            rw [ho3] at g2 hbs
            have HO3 := Lib.hid ho3
            clear ho3
            have c0 := g1.cell 0
            have c1 := g1.cell 1
            by_cases hltb : b < n
            · have hib : (b : Int) < (n : Int) := by omega
              have ca := g2.cell a
              rw [bools_getB (by omega)] at ca
              have cb := g2.cell b
              rw [bools_getB (by omega)] at cb
              have fb := g2.frozen b
              have hsz := hbel.size
              unfold stepB at hbs
              cases hga : getB o3 a
              · rw [hga] at ca hbs
                rw [if_neg (fun hc => by cases hc.1)] at hbs
                have HBS := Lib.hid hbs
                clear hbs hga cb fb
                go_wp2
                go_roundw
                case rel => exact ⟨b + 1, by omega, by go_num, hbel, g1, by rw [HBS.out]; exact g2⟩
                case measure => simp [intOf]; omega
              · rw [hga] at ca hbs
                have BC := Lib.hid (between_any n A c es hn a b wr ((h.below hbel).more hsz))
                obtain ⟨q, hq⟩ : ∃ q, btw es a b = q := ⟨_, rfl⟩
                rw [hq] at BC hbs
                clear hq hga
                by_cases hpos : 0 < q
                · rw [if_pos ⟨rfl, hpos⟩] at hbs
                  have HBS := Lib.hid hbs
                  clear hbs
                  go_wp2_with (go_at_call 104; (with_reducible refine (BC.out).mono ?_); rintro e w' ⟨rfl, hb'⟩
                               have k1 := g1.next hb'
                               have k2 := g2.next hb'
                               have d0 := k2.cell b
                               rw [bools_getB (by omega)] at d0
                               have d1 := k2.frozen b)
                  go_roundw
                  case rel =>
                    refine ⟨b + 1, by omega, by go_num, (hbel.trans (hb'.mono hsz)).setCell (by simp) _, k1.far (by simp) _, ?_⟩
                    have := k2.set_ b (.bool true)
                    rw [bools_set] at this
                    rw [HBS.out]; exact this
                  case measure => simp [intOf]; omega
                · rw [if_neg (fun hc => hpos hc.2)] at hbs
                  have HBS := Lib.hid hbs
                  clear hbs
                  go_wp2_with (go_at_call 104; (with_reducible refine (BC.out).mono ?_); rintro e w' ⟨rfl, hb'⟩)
                  go_roundw
                  case rel => exact ⟨b + 1, by omega, by go_num, hbel.trans (hb'.mono hsz), g1.next hb', by rw [HBS.out]; exact g2.next hb'⟩
                  case measure => simp [intOf]; omega
            · obtain rfl : b = n := by omega
              clear hbs
              go_wp2
              go_roundw
              case rel => exact ⟨a + 1, by omega, by go_num, hbel, g1, by rw [reachA_succ, HO2.out, HO3.out]; exact g2⟩
              case measure => simp [intOf]; omega
        · obtain rfl : a = n := by omega
          go_wp2
          go_roundw
          case rel => exact ⟨k + 1, by omega, by go_num, hbel', g1', by rw [reachR_succ, HO1.out, HO2.out]; exact g2'⟩
          case measure => simp [intOf]; omega
    · obtain rfl : k = n := by omega
      go_wp2
      go_ret
      exact ⟨w.heap.size + 1, rfl, by rw [HR.out, HO1.out]; exact g2, by omega, hbel⟩
end Go.Proofs.YtnbikkcalcpedaaGreatDoor

/-! ref08.Parts, ref08.Connected; the errors of graphs with sinks and configurations, as the reference finds them. -/
namespace Go.Proofs.YtnbikkcalcpedaaGreatDoor
open Go.RowKit

set_option maxRecDepth 100000 in
set_option maxHeartbeats 4000000 in
theorem rparts_any (n : Nat) (hn12 : n ≤ 12) (A : Option Addr) (c : Nat) (es : List E3) (hn : es.length ≤ 1048576) (w : World) (h : Reads w w.heap.size 3 A es.length (edgeCells es)) :
    Calls Tryz.prog 102 #[.agg #[.int .i64 n, .slice A es.length c]] w fun e w' => e = .returned (.int .i64 ((partsTo es n n).1 : Nat)) ∧ Below w.heap.size w w' := by
  have hmk := make_bools n (by omega)
  have g0 := (Blk.new w 24 #[.int .i64 n, .slice A es.length c]).alloc (.cells (bools (List.replicate n false)) 4)
  have gs := Blk.new (w.alloc (.cells #[.int .i64 n, .slice A es.length c] 24)) 4 (bools (List.replicate n false))
  rw [show (w.alloc (.cells #[.int .i64 n, .slice A es.length c] 24)).heap.size = w.heap.size + 1 from by simp] at gs
  go_enter Tryz.func102, Tryz.ntmps102
  go_wp2
  go_loopw [3, 5] (fun m i wr => ∃ (k x : Nat) (s : List Bool), k ≤ n ∧ i = .int .i64 k ∧ m = .int .i64 x ∧ x ≤ k ∧ Hid (partsTo es n k = (x, s)) ∧ Below w.heap.size w wr ∧ Blk wr w.heap.size 24 #[.int .i64 n, .slice A es.length c] ∧ Blk wr (w.heap.size + 1) 4 (bools s)) (fun _ i _ => n - (intOf i).toNat)
  case atStart => exact ⟨0, 0, _, by omega, rfl, rfl, by omega, rfl, ((Below.refl _ _).alloc (Nat.le_refl _) _).alloc (by simp) _, g0, gs⟩
  case round =>
    obtain ⟨k, x, s, hk, rfl, rfl, hx, HS, hbel, g1, g2⟩ := hrel
    clear g0 gs hmk
    have c0 := g1.cell 0
    have hsl : s.length = n := by have := partsTo_length es n k; rw [HS.out] at this; exact this
    have hps := partsTo_succ es n k
    rw [HS.out] at hps
    have hsz := hbel.size
    have hlt2 := g2.lt
    by_cases hlt : k < n
    · have hi : (k : Int) < (n : Int) := by omega
      have ck := g2.cell k
      rw [bools_getB (by omega)] at ck
      cases hsk : getB s k
      · rw [hsk] at ck
        rw [show getB (x, s).2 k = getB s k from rfl, hsk] at hps
        simp only [Bool.false_eq_true, if_false] at hps
        have HP := Lib.hid hps
        have RC := Lib.hid (reached_any n hn12 A c es hn k hlt wr ((h.below hbel).more hsz))
        obtain ⟨r, hr⟩ : ∃ r, reached es n k = r := ⟨_, rfl⟩
        have hrl : r.length = n := by rw [← hr, reached_length]
        rw [hr] at RC HP
        have c1 := g1.cell 1
        have hx1 : (x : Int) + 1 ≤ 100 := by omega
        clear hps hsk hr
        go_wp2_with (go_at_call 76; (with_reducible refine (RC.out).mono ?_); rintro e w' ⟨gr, rfl, kr, hgr, hb'⟩
                     have k1 := g1.next hb'
                     have k2 := g2.next hb'
                     have kB := hbel.trans (hb'.mono hsz)
                     have kc := k1.cell 0)
        obtain ⟨wo, rfl⟩ : ∃ wo : World, wo = w' := ⟨_, rfl⟩
        clear g1 g2 hbel hb' kc c0 ck c1
        have hne : gr ≠ w.heap.size + 1 := by omega
        go_loopw [7] (fun i wr => ∃ u : Nat, u ≤ n ∧ i = .int .i64 u ∧ Below w.heap.size w wr ∧ Blk wr w.heap.size 24 #[.int .i64 n, .slice A es.length c] ∧ Blk wr (w.heap.size + 1) 4 (bools (orTo s r u)) ∧ Blk wr gr 4 (bools r)) (fun i _ => n - (intOf i).toNat)
        case atStart => exact ⟨0, by omega, rfl, kB, k1, k2, kr⟩
        case round =>
          obtain ⟨u, hu, rfl, hbel, g1, g2, g3⟩ := hrel
          clear kB k1 k2 kr
          have hos := orTo_succ s r u
          have hol : (orTo s r u).length = n := by rw [orTo_length, hsl]
          obtain ⟨o, ho⟩ : ∃ o, orTo s r u = o := ⟨_, rfl⟩
          rw [ho] at hos hol g2
          have HO := Lib.hid ho
          clear ho
          have c0 := g1.cell 0
          by_cases hltu : u < n
          · have hi : (u : Int) < (n : Int) := by omega
            have ca := g2.cell u
            rw [bools_getB (by omega)] at ca
            have cb := g3.cell u
            rw [bools_getB (by omega)] at cb
            have fa := g2.frozen u
            cases ha : getB o u <;> cases hb : getB r u
            all_goals
              rw [ha] at ca hos
              rw [hb] at cb hos
              have HOS := Lib.hid hos
              clear hos ha hb
              go_wp2
              go_roundw
              case rel =>
                refine ⟨u + 1, by omega, by go_num, hbel.setCell (by simp) _, g1.far (by simp) _, ?_, g3.far (by simpa using hne) _⟩
                rw [HOS.out, ← bools_set]
                exact g2.set_ u _
              case measure => simp [intOf]; omega
          · obtain rfl : u = n := by omega
            clear hos
            go_wp2
            go_roundw
            case rel => exact ⟨k + 1, x + 1, o, by omega, by go_num, by go_num, by omega, by rw [Hid, HP.out, HO.out], hbel, g1, g2⟩
            case measure => simp [intOf]; omega
      · rw [hsk] at ck
        rw [show getB (x, s).2 k = getB s k from rfl, hsk] at hps
        simp only [if_true] at hps
        have HP := Lib.hid hps
        clear hps hsk
        go_wp2
        go_roundw
        case rel => exact ⟨k + 1, x, s, by omega, by go_num, rfl, by omega, HP.out, hbel, g1, g2⟩
        case measure => simp [intOf]; omega
    · obtain rfl : k = n := by omega
      clear hps
      go_wp2
      go_ret
      exact ⟨ret_int (by rw [HS.out]), hbel⟩
set_option maxHeartbeats 1000000 in
theorem rconnected_any (n : Nat) (hn12 : n ≤ 12) (A : Option Addr) (c : Nat) (es : List E3) (hn : es.length ≤ 1048576) (w : World) (h : Reads w w.heap.size 3 A es.length (edgeCells es)) :
    Calls Tryz.prog 108 #[.agg #[.int .i64 n, .slice A es.length c]] w fun e w' => e = .returned (.bool (connB n es)) ∧ Below w.heap.size w w' := by
  have PC := Lib.hid (rparts_any n hn12 A c es hn)
  unfold connB
  obtain ⟨q, hq⟩ : ∃ q, (partsTo es n n).1 = q := ⟨_, rfl⟩
  rw [hq] at PC ⊢
  clear hq
  go_enter Tryz.func108, Tryz.ntmps108
  go_wp2_with fail
  refine (PC.out _ ((h.alloc (Nat.le_refl _) _).more (by simp))).mono ?_
  rintro e w1 ⟨rfl, hb1⟩
  have hbel1 : Below w.heap.size w w1 := ((Below.refl _ _).alloc (Nat.le_refl _) _).trans (hb1.mono (by simp))
  go_wp2
  go_ret
  refine ⟨ret_bool ?_, hbel1⟩
  rw [Bool.eq_iff_iff]; simp; omega

end Go.Proofs.YtnbikkcalcpedaaGreatDoor

/-! The reference's fire: ref08.Holds, ref23.Joins, ref23.ready, ref23.Burnt, ref23.Unburnt. -/
namespace Go.Proofs.YtnbikkcalcpedaaGreatDoor
open Go.RowKit

def natsI (l : List Nat) : List Int := l.map fun u : Nat => (u : Int)
set_option maxHeartbeats 1000000 in
theorem holds_any (A : Option Addr) (c : Nat) (xs : List Int) (hn : xs.length ≤ 1048576) (v : Int) (w : World) (h : Reads w w.heap.size 1 A xs.length (ints xs)) :
    Calls Tryz.prog 51 #[.slice A xs.length c, .int .i64 v] w fun e w' => e = .returned (.bool (decide (v ∈ xs))) ∧ w = w' := by
  obtain ⟨r, hr⟩ : ∃ r, decide (v ∈ xs) = r := ⟨_, rfl⟩
  rw [hr]
  have HR := Lib.hid hr
  clear hr
  go_enter Tryz.func51, Tryz.ntmps51
  go_wp2
  go_loop [5] (fun i => ∃ k : Nat, k ≤ xs.length ∧ i = .int .i64 k ∧ Hid (v ∉ xs.take k)) (fun i => xs.length - (intOf i).toNat)
  case atStart => exact ⟨0, by omega, rfl, by simp [Hid]⟩
  case round =>
    obtain ⟨k, hk, rfl, HS⟩ := hrel
    by_cases hlt : k < xs.length
    · obtain ⟨x, hx⟩ := get_of_lt hlt
      obtain ⟨b, off, rfl, hb, hcell⟩ := h.at_ (ints_at hx)
      have hi : (k : Int) < (xs.length : Int) := by omega
      have htk := take_snoc hx
      by_cases hv : x = v
      · have e : (x == v) = true := by simpa using hv
        have HT : Hid (decide (v ∈ xs) = true) := by
          rw [Hid, decide_eq_true_eq, ← hv]; exact List.mem_of_getElem? hx
        clear hx htk hv
        go_wp2
        go_ret
        exact ⟨ret_bool (by rw [← HR.out, HT.out]), rfl⟩
      · have e : (x == v) = false := by simpa using hv
        have HN : Hid (v ∉ xs.take (k + 1)) := by
          rw [htk, Hid, List.mem_append]
          rintro (hc | hc)
          · exact HS.out hc
          · exact hv (List.mem_singleton.1 hc).symm
        clear hx htk hv
        go_wp2
        go_round
        case rel => exact ⟨k + 1, by omega, by go_num, HN⟩
        case measure => simp [intOf]; omega
    · obtain rfl : k = xs.length := by omega
      rw [List.take_length] at HS
      go_wp2
      go_ret
      refine ⟨ret_bool ?_, rfl⟩
      rw [← HR.out, decide_eq_false HS.out]

end Go.Proofs.YtnbikkcalcpedaaGreatDoor

