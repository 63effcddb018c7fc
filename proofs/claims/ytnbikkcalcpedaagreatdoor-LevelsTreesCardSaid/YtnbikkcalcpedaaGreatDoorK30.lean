/-
 Texts of this claim, put together: Stab, RRecur, RCalm, EarP, WorstP, AgreesP, RClosed.
-/
import Derived.Test.YtnbikkcalcpedaaGreatDoorK29
import Derived.Test.YtnbikkcalcpedaaGreatDoorK20
import Derived.Test.YtnbikkcalcpedaaGreatDoorK22
import Derived.Test.YtnbikkcalcpedaaGreatDoorK15
import Derived.Deep.RegionHeld3
import Derived.Test.YtnbikkcalcpedaaGreatDoorK27
import Derived.Test.YtnbikkcalcpedaaGreatDoorK26
import Derived.Test.YtnbikkcalcpedaaGreatDoorK21
import Derived.Test.YtnbikkcalcpedaaGreatDoorK11
import Derived.Test.YtnbikkcalcpedaaGreatDoorK19
set_option maxRecDepth 100000
set_option maxHeartbeats 8000000
namespace Go.Proofs.YtnbikkcalcpedaaGreatDoor
open Go.RowKit
theorem conf_sargs {n q : Nat} {es : List E3} {d : List Int} (hlen : es.length ≤ 10000) (hc : confErr n es q d = 0) : SArgs n q es d := by
 obtain ⟨hG, hC, _, hqn, hl, hb, hnn⟩ := conf_zero hc
 have hck : checkG n es = 0 := by
  rcases conf_cases n es q d with ⟨h1, hE⟩ | ⟨h1, h2, hE⟩ | ⟨h1, h2, hE⟩
  ·exact absurd (hE ▸ hc) h1
  ·exact absurd (hE ▸ hc) h2
  ·exact (root_zero h1).1
 rw [Int.toNat_natCast] at hC
 refine ⟨hlen, hck, hC, by omega, by omega, fun v hv => ?_, fun v hv hq => hnn v (by omega) (by omega)⟩
 obtain ⟨x, hx⟩ := get_of_lt (xs := d) (k := v) (by omega)
 rw [getD_at hx]
 exact hb x (List.mem_of_getElem? hx)
theorem given_ok (n : Nat) (A : Option Addr) (c : Nat) (es : List E3) (hlen : es.length ≤ 10000) (q : Nat) (B : Option Addr) (cB : Nat) (d : List Int) (hc : confErr n es q d = 0) (w : World)
  (h : Reads w w.heap.size 3 A es.length (edgeCells es)) (h' : Reads w w.heap.size 1 B d.length (ints d)) :
  Calls Tryz.prog 259 #[.agg #[.int .i64 n, .slice A es.length c], .int .i64 q, .slice B d.length cB] w fun e w' => ∃ bp a, e = .returned (.tuple #[.pointer (some ⟨bp, 0, none⟩), .int .i64 0]) ∧
   PileW w' w.heap.size bp n a d q (rowsL n (endsL es)) (valL n (endsL es)) (List.replicate n 0) 0 (waitL n q d (valL n (endsL es))) ∧ Below w.heap.size w w' := by
 have hS := conf_sargs hlen hc
 have hG := right_of hS.hz
 have hn12 : n ≤ 12 := by have := hG.hi; omega
 have hq := hS.hq
 have hdl := hS.dl
 have SC := Lib.hid (scheck_any n A c es (by omega) q B cB d (by omega))
 rw [hc] at SC
 have PO := Lib.hid (fun (W : World) (hB : Below w.heap.size w W) => pileOf_any n hn12 (by omega) A c es hlen hS.hz hG.ok q B cB d hS.dl W ((h.below hB).more hB.size) ((h'.below hB).more hB.size))
 have g0 := Blk.new w 24 #[.int .i64 n, .slice A es.length c]
 clear hS hG hc hdl
 go_enter Tryz.func259, Tryz.ntmps259
 go_wp2_with fail
 refine (SC.out _ ((h.alloc (Nat.le_refl _) _).more (by simp)) ((h'.alloc (Nat.le_refl _) _).more (by simp))).mono ?_
 rintro e w1 ⟨rfl, hb1⟩
 have hB1 : Below w.heap.size w w1 := ((Below.refl _ _).alloc (Nat.le_refl _) _).trans (hb1.mono (by simp))
 have g1 := g0.next hb1
 have c0 := g1.cell 0
 have c1 := g1.cell 1
 clear g0 hb1
 go_wp2_with fail
 refine (PO.out _ hB1).mono ?_
 rintro e w2 ⟨bp, a, rfl, hP, hb2⟩
 go_wp2
 go_ret2
 exact ⟨bp, a, rfl, hP.mono hB1.size, hB1.trans (hb2.mono hB1.size)⟩
theorem reccheck_any (n : Int) (A : Option Addr) (c : Nat) (es : List E3) (hn : es.length ≤ 1048576) (q : Int) (B : Option Addr) (d : Nat) (cs : List Int) (hm : cs.length ≤ 1048576) (w : World) (h : Reads w w.heap.size 3 A es.length (edgeCells es)) (h' : Reads w w.heap.size 1 B cs.length (ints cs)) :
  Calls Tryz.prog 99 #[.agg #[.int .i64 n, .slice A es.length c], .int .i64 q, .slice B cs.length d] w fun e w' => e = .returned (.int .i64 (burnErr n es q cs)) ∧ Below w.heap.size w w' := by
 have GC := Lib.hid (scheck_any n A c es hn q B d cs hm)
 rcases burn_cases n es q cs with ⟨h1, hE⟩ | ⟨h1, h2, hE⟩ | ⟨h1, h2, hE⟩
 ·rw [hE]
  obtain ⟨r, hr⟩ : ∃ r, confErr n es q cs = r := ⟨_, rfl⟩
  rw [hr] at GC h1 ⊢
  have hb : (r != 0) = true := by simpa using h1
  clear hr h1 hE
  go_enter Tryz.func99, Tryz.ntmps99
  go_wp2_with fail
  refine (GC.out _ ((h.alloc (Nat.le_refl _) _).more (by simp)) ((h'.alloc (Nat.le_refl _) _).more (by simp))).mono ?_
  rintro e w1 ⟨rfl, hb1⟩
  have hbel1 : Below w.heap.size w w1 := ((Below.refl _ _).alloc (Nat.le_refl _) _).trans (hb1.mono (by simp))
  go_wp2
  go_ret
  exact ⟨rfl, hbel1⟩
 all_goals
  rw [hE]
  obtain ⟨_, _, hq0, hqn, hlen, _, _⟩ := conf_zero h1
  obtain ⟨v, rfl⟩ := Int.eq_ofNat_of_zero_le hq0
  rw [Int.toNat_natCast] at h2
  obtain ⟨x, hx⟩ := get_of_lt (xs := cs) (k := v) (by omega)
  rw [getD_at hx] at h2
  rw [h1] at GC
  have hi : (v : Int) < (cs.length : Int) := by omega
  have HX := Lib.hid hx
  clear h1 hE hx hlen
  go_enter Tryz.func99, Tryz.ntmps99
  go_wp2_with fail
  refine (GC.out _ ((h.alloc (Nat.le_refl _) _).more (by simp)) ((h'.alloc (Nat.le_refl _) _).more (by simp))).mono ?_
  rintro e w1 ⟨rfl, hb1⟩
  have hbel1 : Below w.heap.size w w1 := ((Below.refl _ _).alloc (Nat.le_refl _) _).trans (hb1.mono (by simp))
  obtain ⟨b, off, rfl, hb', hcell⟩ := (h'.below hbel1).at_ (ints_at HX.out)
  first
   | (have hb0 : (x != 0) = true := by simpa using h2
      clear h2
      go_wp2
      go_ret
      exact ⟨rfl, hbel1⟩)
   | (subst h2
      go_wp2
      go_ret
      exact ⟨rfl, hbel1⟩)
theorem recurs_any (n : Nat) (A : Option Addr) (c : Nat) (es : List E3) (q : Nat) (hq : q < n) (B : Option Addr) (d : Nat) (cs : List Int) (hR : RArgs n es cs) (w : World)
  (h : Reads w w.heap.size 3 A es.length (edgeCells es)) (h' : Reads w w.heap.size 1 B n (ints cs)) :
  Calls Tryz.prog 137 #[pileV n A es.length c q B n d] w fun e w' => e = .returned (.bool (recB n es cs q)) ∧ Below w.heap.size w w' := by
 have hn12 : n ≤ 12 := by have := (right_of hR.hz).hi; omega
 have HS := Lib.hid (fun (W : World) (hB : Below w.heap.size w W) => stable_any n hn12 A c es hR.hn hR.hz q B d cs hR.hcl W ((h.below hB).more hB.size) ((h'.below hB).more hB.size))
 have HF := Lib.hid (fun (W : World) (hB : Below w.heap.size w W) => rfire_any n A c es q hq B d cs hR W ((h.below hB).more hB.size) ((h'.below hB).more hB.size))
 have g0 := Blk.new w 138 (pileC n A es.length c q B n d)
 have hB0 : Below w.heap.size w (w.alloc (.cells (pileC n A es.length c q B n d) 138)) := (Below.refl _ _).alloc (Nat.le_refl _) _
 unfold recB
 obtain ⟨S, hS⟩ : ∃ S, stabTo es cs q n = S := ⟨_, rfl⟩
 obtain ⟨R, hRL⟩ : ∃ R, recL n es cs q = R := ⟨_, rfl⟩
 rw [hS] at HS ⊢
 rw [hRL] at HF ⊢
 clear hS hRL
 simp only [pileV, pileC] at g0 hB0 HS HF ⊢
 have hgw : w.heap.size < (w.alloc (.cells #[.int .i64 n, .slice A es.length c, .int .i64 q, .slice B n d] 138)).heap.size := by simp
 have c0 := g0.cell 0
 have c1 := g0.cell 1
 have c2 := g0.cell 2
 have c3 := g0.cell 3
 obtain ⟨W0, hW0⟩ : ∃ W0, w.alloc (.cells #[.int .i64 n, .slice A es.length c, .int .i64 q, .slice B n d] 138) = W0 := ⟨_, rfl⟩
 have HW0 := Lib.hid hW0
 rw [hW0] at g0 hB0 c0 c1 c2 c3 hgw
 clear hW0
 have HS2 := Lib.hid (HS.out W0.drew hB0.drew)
 have HF2 := Lib.hid (fun (W : World) (hB : Below W0.heap.size W0 W) => HF.out W (hB0.trans (hB.mono hB0.size)))
 have KC := Lib.hid (fun (W : World) (hB : Below W0.heap.size W0 W) => (⟨(hB.cell (p := ⟨w.heap.size, 0, none⟩) hgw).trans c0, (hB.cell (p := ⟨w.heap.size, 1, none⟩) hgw).trans c1, (hB.cell (p := ⟨w.heap.size, 2, none⟩) hgw).trans c2, (hB.cell (p := ⟨w.heap.size, 3, none⟩) hgw).trans c3⟩ :
  W.cell? ⟨w.heap.size, 0, none⟩ = some (.int .i64 n) ∧ W.cell? ⟨w.heap.size, 1, none⟩ = some (.slice A es.length c) ∧ W.cell? ⟨w.heap.size, 2, none⟩ = some (.int .i64 q) ∧ W.cell? ⟨w.heap.size, 3, none⟩ = some (.slice B n d)))
 have B0 : Below W0.heap.size W0 W0.drew := (Below.refl _ _).drew
 clear g0 HS HF hR
 cases S
 ·go_enter Tryz.func137, Tryz.ntmps137
  go_wp2_with fail
  rw [HW0.out]
  first
   | go_region_with ((go_at_call 100; refine (HS2.out).mono ?_; rintro e wJ ⟨rfl, bJ⟩; have BJ := B0.trans (bJ.mono (Nat.le_refl _)); obtain ⟨j0, j1, j2, j3⟩ := KC.out wJ BJ))
   | fail
  all_goals
   go_wp2
   go_ret
   exact ⟨rfl, hB0.trans (BJ.mono hB0.size)⟩
 ·go_enter Tryz.func137, Tryz.ntmps137
  go_wp2_with fail
  rw [HW0.out]
  go_region_held3 (fun W => W.cell? ⟨w.heap.size, 0, none⟩ = some (.int .i64 n) ∧ W.cell? ⟨w.heap.size, 1, none⟩ = some (.slice A es.length c) ∧ W.cell? ⟨w.heap.size, 2, none⟩ = some (.int .i64 q) ∧ W.cell? ⟨w.heap.size, 3, none⟩ = some (.slice B n d)) (go_keep)
   (first
    | (go_at_call 100; refine (HS2.out).mono ?_; rintro e wJ ⟨rfl, bJ⟩; have BJ := B0.trans (bJ.mono (Nat.le_refl _)); obtain ⟨j0, j1, j2, j3⟩ := KC.out wJ BJ)
    | (go_at_call 138; refine (HF2.out _ BJ).mono ?_; rintro e wV ⟨A', c', rfl, _, bV⟩; have BV := BJ.trans (bV.mono BJ.size); obtain ⟨l0, l1, l2, l3⟩ := KC.out wV BV))
  all_goals
   go_wp2
   go_ret
   exact ⟨ret_bool (by rw [Bool.true_and, Bool.eq_iff_iff]; simp; omega), hB0.trans (BV.mono hB0.size)⟩
theorem burn_rargs {n q : Nat} {es : List E3} {cs : List Int} (hlen : es.length ≤ 10000) (hz : burnErr n es q cs = 0) : RArgs n es cs ∧ q < n ∧ cs.length = n := by
 have hc := (burn_zero hz).1
 obtain ⟨_, _, _, hqn, hl, hb, _⟩ := conf_zero hc
 have hck : checkG n es = 0 := by
  rcases conf_cases n es q cs with ⟨h1, hE⟩ | ⟨h1, h2, hE⟩ | ⟨h1, h2, hE⟩
  ·exact absurd (hE ▸ hc) h1
  ·exact absurd (hE ▸ hc) h2
  ·rcases root_cases n es q with ⟨k1, kE⟩ | ⟨k1, k2, kE⟩ | ⟨k1, k2, k3, kE⟩ | ⟨k1, k2, k3, kE⟩
   ·exact absurd (kE ▸ h1) k1
   ·exact k1
   ·exact k1
   ·exact k1
 exact ⟨⟨hlen, hck, by omega, fun x hx => by have := hb x hx; omega⟩, by omega, by omega⟩
def recE (n : Int) (es : List E3) (q : Int) (cs : List Int) : Bool × List Int × Int := if burnErr n es q cs = 0 then (if recB n.toNat es cs q.toNat then (true, natI (recL n.toNat es cs q.toNat), 0) else (false, [], 0)) else (false, [], burnErr n es q cs)
theorem recurrent_ok (n : Nat) (A : Option Addr) (c : Nat) (es : List E3) (hlen : es.length ≤ 10000) (q : Nat) (B : Option Addr) (d : Nat) (cs : List Int) (hz : burnErr n es q cs = 0) (w : World)
  (h : Reads w w.heap.size 3 A es.length (edgeCells es)) (h' : Reads w w.heap.size 1 B cs.length (ints cs)) :
  Calls Tryz.prog 82 #[.agg #[.int .i64 n, .slice A es.length c], .int .i64 q, .slice B cs.length d] w fun e w' => ∃ A' c', e = .returned (.tuple #[.bool (recE n es q cs).1, .slice A' (recE n es q cs).2.1.length c', .int .i64 (recE n es q cs).2.2]) ∧ OwnI w' w.heap.size A' c' (recE n es q cs).2.1 ∧ Below w.heap.size w w' := by
 obtain ⟨hR, hq, hcl⟩ := burn_rargs hlen hz
 have hn12 : n ≤ 12 := by have := (right_of hR.hz).hi; omega
 have BC := Lib.hid (reccheck_any n A c es (by omega) q B d cs (by omega))
 rw [hz] at BC
 rw [hcl] at h' BC ⊢
 have HS := Lib.hid (fun (W : World) (hB : Below w.heap.size w W) => recurs_any n A c es q hq B d cs hR W ((h.below hB).more hB.size) ((h'.below hB).more hB.size))
 have HF := Lib.hid (fun (W : World) (hB : Below w.heap.size w W) => rfire_any n A c es q hq B d cs hR W ((h.below hB).more hB.size) ((h'.below hB).more hB.size))
 have hE : recE n es q cs = if recB n es cs q then (true, natI (recL n es cs q), 0) else (false, [], 0) := by unfold recE; rw [if_pos hz]; simp
 rw [hE]
 have hnl : (natI (recL n es cs q)).length = (recL n es cs q).length := natI_length _
 have g0 := Blk.new w 24 #[.int .i64 n, .slice A es.length c]
 obtain ⟨S, hS⟩ : ∃ S, recB n es cs q = S := ⟨_, rfl⟩
 obtain ⟨R, hRL⟩ : ∃ R, recL n es cs q = R := ⟨_, rfl⟩
 rw [hS] at HS ⊢
 rw [hRL] at HF hnl ⊢
 have HNL := Lib.hid hnl
 simp only [pileV] at HS HF
 clear hS hRL hR hz hE hnl hcl
 go_enter Tryz.func82, Tryz.ntmps82
 go_wp2_with fail
 refine (BC.out _ ((h.alloc (Nat.le_refl _) _).more (by simp)) ((h'.alloc (Nat.le_refl _) _).more (by simp))).mono ?_
 rintro e w1 ⟨rfl, hb1⟩
 have hB1 : Below w.heap.size w w1 := ((Below.refl _ _).alloc (Nat.le_refl _) _).trans (hb1.mono (by simp))
 have g1 := g0.next hb1
 have c0 := g1.cell 0
 have c1 := g1.cell 1
 clear g0 hb1
 have P2 := Blk.new w1 138 #[.int .i64 n, .slice A es.length c, .int .i64 q, .slice B n d]
 have p0 := P2.cell 0
 have p1 := P2.cell 1
 have p2 := P2.cell 2
 have p3 := P2.cell 3
 have B2 := hB1.alloc hB1.size (.cells #[.int .i64 n, .slice A es.length c, .int .i64 q, .slice B n d] 138)
 go_wp2_with fail
 refine (HS.out _ B2).mono ?_
 rintro e w3 ⟨rfl, hb3⟩
 have P3 := P2.next hb3
 have B3 := B2.trans (hb3.mono B2.size)
 have r0 := P3.cell 0
 have r1 := P3.cell 1
 have r2 := P3.cell 2
 have r3 := P3.cell 3
 clear p0 p1 p2 p3 c0 c1 hb3
 cases S
 ·go_wp2
  go_ret3
  exact ⟨none, 0, rfl, OwnI.nil_ _ _, B3⟩
 ·go_wp2_with fail
  refine (HF.out _ B3).mono ?_
  rintro e w4 ⟨A', c', rfl, ho, hb4⟩
  go_wp2
  go_ret3
  exact ⟨A', c', by simp [HNL.out], ho.mono B3.size, B3.trans (hb4.mono B3.size)⟩
theorem recurrent_any (n : Int) (A : Option Addr) (c : Nat) (es : List E3) (hlen : es.length ≤ 10000) (q : Int) (B : Option Addr) (d : Nat) (cs : List Int) (hm : cs.length ≤ 1048000) (w : World)
  (h : Reads w w.heap.size 3 A es.length (edgeCells es)) (h' : Reads w w.heap.size 1 B cs.length (ints cs)) :
  Calls Tryz.prog 82 #[.agg #[.int .i64 n, .slice A es.length c], .int .i64 q, .slice B cs.length d] w fun e w' => ∃ A' c', e = .returned (.tuple #[.bool (recE n es q cs).1, .slice A' (recE n es q cs).2.1.length c', .int .i64 (recE n es q cs).2.2]) ∧ OwnI w' w.heap.size A' c' (recE n es q cs).2.1 ∧ Below w.heap.size w w' := by
 by_cases hz : burnErr n es q cs = 0
 ·obtain ⟨hG, _, hq0, hqn, _⟩ := conf_zero (burn_zero hz).1
  have hlo := hG.lo
  obtain ⟨m, rfl⟩ := Int.eq_ofNat_of_zero_le (show 0 ≤ n by omega)
  obtain ⟨p, rfl⟩ := Int.eq_ofNat_of_zero_le hq0
  exact recurrent_ok m A c es hlen p B d cs hz w h h'
 ·have hE : recE n es q cs = (false, [], burnErr n es q cs) := by unfold recE; rw [if_neg hz]
  rw [hE]
  have hbc := reccheck_any n A c es (by omega) q B d cs (by omega)
  obtain ⟨z, hzz⟩ : ∃ z, burnErr n es q cs = z := ⟨_, rfl⟩
  rw [hzz] at hbc hz ⊢
  have hb : (z == 0) = false := by simpa using hz
  have hb2 : (z != 0) = true := by simpa using hz
  have BC := Lib.hid hbc
  clear hz hE hbc hzz
  go_enter Tryz.func82, Tryz.ntmps82
  go_wp2_with fail
  refine (BC.out _ ((h.alloc (Nat.le_refl _) _).more (by simp)) ((h'.alloc (Nat.le_refl _) _).more (by simp))).mono ?_
  rintro e w1 ⟨rfl, hb1⟩
  have hB1 : Below w.heap.size w w1 := ((Below.refl _ _).alloc (Nat.le_refl _) _).trans (hb1.mono (by simp))
  go_wp2
  go_ret3
  exact ⟨none, 0, rfl, OwnI.nil_ _ _, hB1⟩
theorem valS_bd {N : Int} {es : List E3} (hok : ∀ e ∈ es, okE N e) (v k : Nat) : 0 ≤ sumTo (fun w => tt es v w) k ∧ sumTo (fun w => tt es v w) k ≤ 50 * k := by
 induction k with
 | zero => simp [sumTo]
 | succ k ih =>
   have := tt_bd hok v k
   rw [sumTo]
   omega
theorem val08_any (n : Nat) (A : Option Addr) (c : Nat) (es : List E3) (hlen : es.length ≤ 10000) (hG : RightG n es) (v : Nat) (w : World) (h : Reads w w.heap.size 3 A es.length (edgeCells es)) :
  Calls Tryz.prog 48 #[.agg #[.int .i64 n, .slice A es.length c], .int .i64 v] w fun e w' => e = .returned (.int .i64 (valE es v)) ∧ Below w.heap.size w w' := by
 have HSB := Lib.hid (fun k => valS_bd hG.ok v k)
 have HVS : Hid (valE es v = sumTo (fun w => tt es v w) n) := valE_valS hG
 have hn12 : n ≤ 12 := by have := hG.hi; omega
 have HOK := Lib.hid hG.ok
 have g0 := Blk.new w 24 #[.int .i64 n, .slice A es.length c]
 have B0 : Below w.heap.size w (w.alloc (.cells #[.int .i64 n, .slice A es.length c] 24)) := (Below.refl _ _).alloc (Nat.le_refl _) _
 clear hG
 go_enter Tryz.func48, Tryz.ntmps48
 go_wp2_with fail
 go_loopw [5, 6] (fun s i wl => ∃ (k : Nat), i = .int .i64 k ∧ k ≤ n ∧ s = .int .i64 (sumTo (fun w => tt es v w) k) ∧ Hid (Below w.heap.size w wl) ∧ Hid (Blk wl w.heap.size 24 #[.int .i64 n, .slice A es.length c])) (fun _ i _ => n - (intOf i).toNat)
 case atStart => exact ⟨0, rfl, by omega, rfl, B0, g0⟩
 case round =>
  obtain ⟨k, rfl, hk, rfl, HB, HGr⟩ := hrel
  clear g0 B0
  have c0 := HGr.out.cell 0
  have c1 := HGr.out.cell 1
  have hs := HSB.out k
  obtain ⟨x, hx⟩ : ∃ x, sumTo (fun w => tt es v w) k = x := ⟨_, rfl⟩
  have hxs : sumTo (fun w => tt es v w) (k + 1) = x + tt es v k := by rw [sumTo, hx]
  rw [hx] at hs ⊢
  clear hx
  by_cases hlt : k < n
  ·have hi : (k : Int) < (n : Int) := by omega
   by_cases hkv : k = v
   ·have hne : ((k : Int) != (v : Int)) = false := by simp [hkv]
    have ht : tt es v k = 0 := by unfold tt; rw [if_pos hkv.symm]
    rw [ht, Int.add_zero] at hxs
    have HX := Lib.hid hxs
    clear hxs ht
    go_wp2
    go_roundw
    case rel => exact ⟨k + 1, by go_num, by omega, by rw [HX.out], HB, HGr⟩
    case measure => simp [intOf]; omega
   ·have hne : ((k : Int) != (v : Int)) = true := by rw [bne_iff_ne]; omega
    have ht : tt es v k = btw es k v := by rw [tt_comm]; unfold tt; rw [if_neg hkv]
    have hbd := btw_bd HOK.out (k : Int) (v : Int)
    have BC := Lib.hid (between_any n A c es (by omega) k v wr ((h.below HB.out).more HB.out.size))
    rw [ht] at hxs
    obtain ⟨y, hy⟩ : ∃ y, btw es k v = y := ⟨_, rfl⟩
    rw [hy] at hxs hbd BC
    have hw1 : IntKind.i64.wrap (x + y) = x + y := IntWalk.i64_in _ (by omega)
    have HX := Lib.hid hxs
    clear hxs ht hy
    go_wp2_with fail
    refine (BC.out).mono ?_
    rintro e w5 ⟨rfl, b5⟩
    have B5 := Lib.hid (HB.out.trans (b5.mono HB.out.size))
    have G5 := Lib.hid (HGr.out.next b5)
    go_wp2
    go_roundw
    case rel => exact ⟨k + 1, by go_num, by omega, by rw [HX.out], B5, G5⟩
    case measure => simp [intOf]; omega
  ·obtain rfl : k = n := by omega
   have hB := HB.out
   have HVX : Hid (valE es v = x) := by rw [Hid, HVS.out]; rw [sumTo] at hxs; omega
   go_wp2
   go_ret
   exact ⟨by rw [HVX.out]; rfl, hB⟩
end Go.Proofs.YtnbikkcalcpedaaGreatDoor
namespace Go.Proofs.YtnbikkcalcpedaaGreatDoor
set_option maxRecDepth 100000
end Go.Proofs.YtnbikkcalcpedaaGreatDoor
namespace Go.Proofs.YtnbikkcalcpedaaGreatDoor
open Go.RowKit
end Go.Proofs.YtnbikkcalcpedaaGreatDoor
namespace Go.Proofs.YtnbikkcalcpedaaGreatDoor
section
variable {es : List E3} {cs : List Int} {n : Nat}
theorem burn_proves (he : LOk n []) : ∀ (k : Nat) (l : List Nat), ∃ r, burnL es cs n k l = l ++ r ∧ provFrom es cs l r = true
 | 0, l => ⟨[], by simp [burnL], rfl⟩
 | k + 1, l => by
   cases hv : (readyL es cs n l).head? with
   | none => exact ⟨[], by rw [burnL_stop hv]; simp, rfl⟩
   | some v =>
     obtain ⟨r, h1, h2⟩ := burn_proves he k (l ++ [v])
     refine ⟨v :: r, by rw [burnL_step hv, h1]; simp, ?_⟩
     rw [provFrom, h2, decide_eq_true (head_ready hv).2.2]; rfl
end
theorem ren_zero {n : Nat} {l : List Nat} (h : LOk n l) (hl : l.length = n) : renErr n (natsI l) = 0 := by
 have key : ∀ (r s : List Nat), (s ++ r).Nodup → (∀ v ∈ r, v < n) → renFrom n (natsI s) (natsI r) = 0 := by
  intro r
  induction r with
  | nil => intro s _ _; simp [natsI, renFrom]
  | cons v r ih =>
    intro s hn hv
    have h1 := hv v (by simp)
    have h2 : v ∉ s := fun hc => by
     rw [List.nodup_append] at hn
     exact hn.2.2 v hc v (by simp) rfl
    have e : natsI (v :: r) = (v : Int) :: natsI r := rfl
    rw [e, renFrom, if_neg (by omega), if_neg (fun hc => h2 (natsI_mem.1 hc)), ← natsI_snoc]
    exact ih (s ++ [v]) (by simpa using hn) fun u hu => hv u (by simp [hu])
 unfold renErr
 rw [if_neg (by rw [natsI_length]; omega)]
 exact key l [] (by simpa using h.1) h.2
theorem ver_true {n q : Nat} {es : List E3} {cs : List Int} {r : List Nat} (hz : burnErr n es q cs = 0) (h : LOk n ([q] ++ r)) (hl : ([q] ++ r).length = n) (hp : provFrom es cs [q] r = true) : verErr n es q cs (natsI ([q] ++ r)) = 0 ∧ verB n es q cs (natsI ([q] ++ r)) = true := by
 have h1 : verErr n es q cs (natsI ([q] ++ r)) = 0 := by unfold verErr; rw [if_neg (by omega)]; exact ren_zero h hl
 refine ⟨h1, ?_⟩
 unfold verB
 rw [if_pos h1, nats_toNat, natsI_getD]
 unfold provL
 simp [hp]
end Go.Proofs.YtnbikkcalcpedaaGreatDoor
namespace Go.Proofs.YtnbikkcalcpedaaGreatDoor
open Go.RowKit
end Go.Proofs.YtnbikkcalcpedaaGreatDoor
