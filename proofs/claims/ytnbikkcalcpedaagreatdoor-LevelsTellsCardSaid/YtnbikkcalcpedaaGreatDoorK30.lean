/-
  Texts of this claim, put together: Stab, RRecur, RCalm, EarP, WorstP, AgreesP, RClosed, ActP.
-/
import Derived.Test.YtnbikkcalcpedaaGreatDoorK29
import Derived.Test.YtnbikkcalcpedaaGreatDoorK21
import Derived.Test.YtnbikkcalcpedaaGreatDoorK24
import Derived.Test.YtnbikkcalcpedaaGreatDoorK17
import Derived.Deep.RegionHeld3
import Derived.Test.YtnbikkcalcpedaaGreatDoorK27
import Derived.Test.YtnbikkcalcpedaaGreatDoorK26
import Derived.Test.YtnbikkcalcpedaaGreatDoorK22
import Derived.Test.YtnbikkcalcpedaaGreatDoorK13
import Derived.Test.YtnbikkcalcpedaaGreatDoorK20
import Derived.Test.YtnbikkcalcpedaaGreatDoorK14
namespace Go.Proofs.YtnbikkcalcpedaaGreatDoor
open Go.RowKit
theorem conf_sargs {n q : Nat} {es : List E3} {d : List Int} (hlen : es.length ≤ 10000) (hc : confErr n es q d = 0) : SArgs n q es d := by
  obtain ⟨hG, hC, _, hqn, hl, hb, hnn⟩ := conf_zero hc
  have hck : checkG n es = 0 := by
    rcases conf_cases n es q d with ⟨h1, hE⟩ | ⟨h1, h2, hE⟩ | ⟨h1, h2, hE⟩
    · exact absurd (hE ▸ hc) h1
    · exact absurd (hE ▸ hc) h2
    · exact (root_zero h1).1
  rw [Int.toNat_natCast] at hC
  refine ⟨hlen, hck, hC, by omega, by omega, fun v hv => ?_, fun v hv hq => hnn v (by omega) (by omega)⟩
  obtain ⟨x, hx⟩ := get_of_lt (xs := d) (k := v) (by omega)
  rw [getD_at hx]
  exact hb x (List.mem_of_getElem? hx)
set_option maxRecDepth 100000 in
set_option maxHeartbeats 4000000 in
theorem given_ok (n : Nat) (A : Option Addr) (c : Nat) (es : List E3) (hlen : es.length ≤ 10000) (q : Nat) (B : Option Addr) (cB : Nat) (d : List Int) (hc : confErr n es q d = 0) (w : World)
    (h : Reads w w.heap.size 3 A es.length (edgeCells es)) (h' : Reads w w.heap.size 1 B d.length (ints d)) :
    Calls Tryz.prog 259 #[.agg #[.int .i64 n, .slice A es.length c], .int .i64 q, .slice B d.length cB] w fun e w' => ∃ bp a, e = .returned (.tuple #[.pointer (some ⟨bp, 0, none⟩), .int .i64 0]) ∧
      PileW w' w.heap.size bp n a d q (rowsL n (endsL es)) (valL n (endsL es)) (List.replicate n 0) 0 (waitL n q d (valL n (endsL es))) ∧ Below w.heap.size w w' := by
  have hS := conf_sargs hlen hc
  have hG := right_of hS.hz
  have hn12 : n ≤ 12 := by have := hG.hi; omega
  have hq := hS.hq
  have hdl := hS.dl
  have SC := Lib.hid (scheck_any n A c es (by omega) q B cB d (by omega))
  rw [hc] at SC
  have PO := Lib.hid (fun (W : World) (hB : Below w.heap.size w W) => pileOf_any n hn12 (by omega) A c es hlen hS.hz hG.ok q B cB d hS.dl W ((h.below hB).more hB.size) ((h'.below hB).more hB.size))
  have g0 := Blk.new w 24 #[.int .i64 n, .slice A es.length c]
  clear hS hG hc hdl
  go_enter Tryz.func259, Tryz.ntmps259
  go_wp2_with fail
  refine (SC.out _ ((h.alloc (Nat.le_refl _) _).more (by simp)) ((h'.alloc (Nat.le_refl _) _).more (by simp))).mono ?_
  rintro e w1 ⟨rfl, hb1⟩
  have hB1 : Below w.heap.size w w1 := ((Below.refl _ _).alloc (Nat.le_refl _) _).trans (hb1.mono (by simp))
  have g1 := g0.next hb1
  have c0 := g1.cell 0
  have c1 := g1.cell 1
  clear g0 hb1
  go_wp2_with fail
  refine (PO.out _ hB1).mono ?_
  rintro e w2 ⟨bp, a, rfl, hP, hb2⟩
  go_wp2
  go_ret2
  exact ⟨bp, a, rfl, hP.mono hB1.size, hB1.trans (hb2.mono hB1.size)⟩
end Go.Proofs.YtnbikkcalcpedaaGreatDoor
namespace Go.Proofs.YtnbikkcalcpedaaGreatDoor
open Go.RowKit
set_option maxRecDepth 100000 in
set_option maxHeartbeats 2000000 in
theorem reccheck_any (n : Int) (A : Option Addr) (c : Nat) (es : List E3) (hn : es.length ≤ 1048576) (q : Int) (B : Option Addr) (d : Nat) (cs : List Int) (hm : cs.length ≤ 1048576) (w : World) (h : Reads w w.heap.size 3 A es.length (edgeCells es)) (h' : Reads w w.heap.size 1 B cs.length (ints cs)) :
    Calls Tryz.prog 99 #[.agg #[.int .i64 n, .slice A es.length c], .int .i64 q, .slice B cs.length d] w fun e w' => e = .returned (.int .i64 (burnErr n es q cs)) ∧ Below w.heap.size w w' := by
  have GC := Lib.hid (scheck_any n A c es hn q B d cs hm)
  rcases burn_cases n es q cs with ⟨h1, hE⟩ | ⟨h1, h2, hE⟩ | ⟨h1, h2, hE⟩
  · rw [hE]
    obtain ⟨r, hr⟩ : ∃ r, confErr n es q cs = r := ⟨_, rfl⟩
    rw [hr] at GC h1 ⊢
    have hb : (r != 0) = true := by simpa using h1
    clear hr h1 hE
    go_enter Tryz.func99, Tryz.ntmps99
    go_wp2_with fail
    refine (GC.out _ ((h.alloc (Nat.le_refl _) _).more (by simp)) ((h'.alloc (Nat.le_refl _) _).more (by simp))).mono ?_
    rintro e w1 ⟨rfl, hb1⟩
    have hbel1 : Below w.heap.size w w1 := ((Below.refl _ _).alloc (Nat.le_refl _) _).trans (hb1.mono (by simp))
    go_wp2
    go_ret
    exact ⟨rfl, hbel1⟩
  all_goals
    rw [hE]
    obtain ⟨_, _, hq0, hqn, hlen, _, _⟩ := conf_zero h1
    obtain ⟨v, rfl⟩ := Int.eq_ofNat_of_zero_le hq0
    rw [Int.toNat_natCast] at h2
    obtain ⟨x, hx⟩ := get_of_lt (xs := cs) (k := v) (by omega)
    rw [getD_at hx] at h2
    rw [h1] at GC
    have hi : (v : Int) < (cs.length : Int) := by omega
    have HX := Lib.hid hx
    clear h1 hE hx hlen
    go_enter Tryz.func99, Tryz.ntmps99
    go_wp2_with fail
    refine (GC.out _ ((h.alloc (Nat.le_refl _) _).more (by simp)) ((h'.alloc (Nat.le_refl _) _).more (by simp))).mono ?_
    rintro e w1 ⟨rfl, hb1⟩
    have hbel1 : Below w.heap.size w w1 := ((Below.refl _ _).alloc (Nat.le_refl _) _).trans (hb1.mono (by simp))
    obtain ⟨b, off, rfl, hb', hcell⟩ := (h'.below hbel1).at_ (ints_at HX.out)
    first
      | (have hb0 : (x != 0) = true := by simpa using h2
         clear h2
         go_wp2
         go_ret
         exact ⟨rfl, hbel1⟩)
      | (subst h2
         go_wp2
         go_ret
         exact ⟨rfl, hbel1⟩)
set_option maxRecDepth 100000 in
set_option maxHeartbeats 8000000 in
theorem recurs_any (n : Nat) (A : Option Addr) (c : Nat) (es : List E3) (q : Nat) (hq : q < n) (B : Option Addr) (d : Nat) (cs : List Int) (hR : RArgs n es cs) (w : World)
    (h : Reads w w.heap.size 3 A es.length (edgeCells es)) (h' : Reads w w.heap.size 1 B n (ints cs)) :
    Calls Tryz.prog 137 #[pileV n A es.length c q B n d] w fun e w' => e = .returned (.bool (recB n es cs q)) ∧ Below w.heap.size w w' := by
  have hn12 : n ≤ 12 := by have := (right_of hR.hz).hi; omega
  have HS := Lib.hid (fun (W : World) (hB : Below w.heap.size w W) => stable_any n hn12 A c es hR.hn hR.hz q B d cs hR.hcl W ((h.below hB).more hB.size) ((h'.below hB).more hB.size))
  have HF := Lib.hid (fun (W : World) (hB : Below w.heap.size w W) => rfire_any n A c es q hq B d cs hR W ((h.below hB).more hB.size) ((h'.below hB).more hB.size))
  have g0 := Blk.new w 138 (pileC n A es.length c q B n d)
  have hB0 : Below w.heap.size w (w.alloc (.cells (pileC n A es.length c q B n d) 138)) := (Below.refl _ _).alloc (Nat.le_refl _) _
  unfold recB
  obtain ⟨S, hS⟩ : ∃ S, stabTo es cs q n = S := ⟨_, rfl⟩
  obtain ⟨R, hRL⟩ : ∃ R, recL n es cs q = R := ⟨_, rfl⟩
  rw [hS] at HS ⊢
  rw [hRL] at HF ⊢
  clear hS hRL
  simp only [pileV, pileC] at g0 hB0 HS HF ⊢
  have hgw : w.heap.size < (w.alloc (.cells #[.int .i64 n, .slice A es.length c, .int .i64 q, .slice B n d] 138)).heap.size := by simp
  have c0 := g0.cell 0
  have c1 := g0.cell 1
  have c2 := g0.cell 2
  have c3 := g0.cell 3
  obtain ⟨W0, hW0⟩ : ∃ W0, w.alloc (.cells #[.int .i64 n, .slice A es.length c, .int .i64 q, .slice B n d] 138) = W0 := ⟨_, rfl⟩
  have HW0 := Lib.hid hW0
  rw [hW0] at g0 hB0 c0 c1 c2 c3 hgw
  clear hW0
  have HS2 := Lib.hid (HS.out W0.drew hB0.drew)
  have HF2 := Lib.hid (fun (W : World) (hB : Below W0.heap.size W0 W) => HF.out W (hB0.trans (hB.mono hB0.size)))
  have KC := Lib.hid (fun (W : World) (hB : Below W0.heap.size W0 W) => (⟨(hB.cell (p := ⟨w.heap.size, 0, none⟩) hgw).trans c0, (hB.cell (p := ⟨w.heap.size, 1, none⟩) hgw).trans c1, (hB.cell (p := ⟨w.heap.size, 2, none⟩) hgw).trans c2, (hB.cell (p := ⟨w.heap.size, 3, none⟩) hgw).trans c3⟩ :
    W.cell? ⟨w.heap.size, 0, none⟩ = some (.int .i64 n) ∧ W.cell? ⟨w.heap.size, 1, none⟩ = some (.slice A es.length c) ∧ W.cell? ⟨w.heap.size, 2, none⟩ = some (.int .i64 q) ∧ W.cell? ⟨w.heap.size, 3, none⟩ = some (.slice B n d)))
  have B0 : Below W0.heap.size W0 W0.drew := (Below.refl _ _).drew
  clear g0 HS HF hR
  cases S
  · go_enter Tryz.func137, Tryz.ntmps137
    go_wp2_with fail
    rw [HW0.out]
    first
      | go_region_with ((go_at_call 100; refine (HS2.out).mono ?_; rintro e wJ ⟨rfl, bJ⟩; have BJ := B0.trans (bJ.mono (Nat.le_refl _)); obtain ⟨j0, j1, j2, j3⟩ := KC.out wJ BJ))
      | fail
    all_goals
      go_wp2
      go_ret
      exact ⟨rfl, hB0.trans (BJ.mono hB0.size)⟩
  · go_enter Tryz.func137, Tryz.ntmps137
    go_wp2_with fail
    rw [HW0.out]
    go_region_held3 (fun W => W.cell? ⟨w.heap.size, 0, none⟩ = some (.int .i64 n) ∧ W.cell? ⟨w.heap.size, 1, none⟩ = some (.slice A es.length c) ∧ W.cell? ⟨w.heap.size, 2, none⟩ = some (.int .i64 q) ∧ W.cell? ⟨w.heap.size, 3, none⟩ = some (.slice B n d)) (go_keep)
      (first
        | (go_at_call 100; refine (HS2.out).mono ?_; rintro e wJ ⟨rfl, bJ⟩; have BJ := B0.trans (bJ.mono (Nat.le_refl _)); obtain ⟨j0, j1, j2, j3⟩ := KC.out wJ BJ)
        | (go_at_call 138; refine (HF2.out _ BJ).mono ?_; rintro e wV ⟨A', c', rfl, _, bV⟩; have BV := BJ.trans (bV.mono BJ.size); obtain ⟨l0, l1, l2, l3⟩ := KC.out wV BV))
    all_goals
      go_wp2
      go_ret
      exact ⟨ret_bool (by rw [Bool.true_and, Bool.eq_iff_iff]; simp; omega), hB0.trans (BV.mono hB0.size)⟩
theorem burn_rargs {n q : Nat} {es : List E3} {cs : List Int} (hlen : es.length ≤ 10000) (hz : burnErr n es q cs = 0) : RArgs n es cs ∧ q < n ∧ cs.length = n := by
  have hc := (burn_zero hz).1
  obtain ⟨_, _, _, hqn, hl, hb, _⟩ := conf_zero hc
  have hck : checkG n es = 0 := by
    rcases conf_cases n es q cs with ⟨h1, hE⟩ | ⟨h1, h2, hE⟩ | ⟨h1, h2, hE⟩
    · exact absurd (hE ▸ hc) h1
    · exact absurd (hE ▸ hc) h2
    · rcases root_cases n es q with ⟨k1, kE⟩ | ⟨k1, k2, kE⟩ | ⟨k1, k2, k3, kE⟩ | ⟨k1, k2, k3, kE⟩
      · exact absurd (kE ▸ h1) k1
      · exact k1
      · exact k1
      · exact k1
  exact ⟨⟨hlen, hck, by omega, fun x hx => by have := hb x hx; omega⟩, by omega, by omega⟩
def recE (n : Int) (es : List E3) (q : Int) (cs : List Int) : Bool × List Int × Int := if burnErr n es q cs = 0 then (if recB n.toNat es cs q.toNat then (true, natI (recL n.toNat es cs q.toNat), 0) else (false, [], 0)) else (false, [], burnErr n es q cs)
set_option maxRecDepth 100000 in
set_option maxHeartbeats 8000000 in
theorem recurrent_ok (n : Nat) (A : Option Addr) (c : Nat) (es : List E3) (hlen : es.length ≤ 10000) (q : Nat) (B : Option Addr) (d : Nat) (cs : List Int) (hz : burnErr n es q cs = 0) (w : World)
    (h : Reads w w.heap.size 3 A es.length (edgeCells es)) (h' : Reads w w.heap.size 1 B cs.length (ints cs)) :
    Calls Tryz.prog 82 #[.agg #[.int .i64 n, .slice A es.length c], .int .i64 q, .slice B cs.length d] w fun e w' => ∃ A' c', e = .returned (.tuple #[.bool (recE n es q cs).1, .slice A' (recE n es q cs).2.1.length c', .int .i64 (recE n es q cs).2.2]) ∧ OwnI w' w.heap.size A' c' (recE n es q cs).2.1 ∧ Below w.heap.size w w' := by
  obtain ⟨hR, hq, hcl⟩ := burn_rargs hlen hz
  have hn12 : n ≤ 12 := by have := (right_of hR.hz).hi; omega
  have BC := Lib.hid (reccheck_any n A c es (by omega) q B d cs (by omega))
  rw [hz] at BC
  rw [hcl] at h' BC ⊢
  have HS := Lib.hid (fun (W : World) (hB : Below w.heap.size w W) => recurs_any n A c es q hq B d cs hR W ((h.below hB).more hB.size) ((h'.below hB).more hB.size))
  have HF := Lib.hid (fun (W : World) (hB : Below w.heap.size w W) => rfire_any n A c es q hq B d cs hR W ((h.below hB).more hB.size) ((h'.below hB).more hB.size))
  have hE : recE n es q cs = if recB n es cs q then (true, natI (recL n es cs q), 0) else (false, [], 0) := by unfold recE; rw [if_pos hz]; simp
  rw [hE]
  have hnl : (natI (recL n es cs q)).length = (recL n es cs q).length := natI_length _
  have g0 := Blk.new w 24 #[.int .i64 n, .slice A es.length c]
  obtain ⟨S, hS⟩ : ∃ S, recB n es cs q = S := ⟨_, rfl⟩
  obtain ⟨R, hRL⟩ : ∃ R, recL n es cs q = R := ⟨_, rfl⟩
  rw [hS] at HS ⊢
  rw [hRL] at HF hnl ⊢
  have HNL := Lib.hid hnl
  simp only [pileV] at HS HF
  clear hS hRL hR hz hE hnl hcl
  go_enter Tryz.func82, Tryz.ntmps82
  go_wp2_with fail
  refine (BC.out _ ((h.alloc (Nat.le_refl _) _).more (by simp)) ((h'.alloc (Nat.le_refl _) _).more (by simp))).mono ?_
  rintro e w1 ⟨rfl, hb1⟩
  have hB1 : Below w.heap.size w w1 := ((Below.refl _ _).alloc (Nat.le_refl _) _).trans (hb1.mono (by simp))
  have g1 := g0.next hb1
  have c0 := g1.cell 0
  have c1 := g1.cell 1
  clear g0 hb1
  have P2 := Blk.new w1 138 #[.int .i64 n, .slice A es.length c, .int .i64 q, .slice B n d]
  have p0 := P2.cell 0
  have p1 := P2.cell 1
  have p2 := P2.cell 2
  have p3 := P2.cell 3
  have B2 := hB1.alloc hB1.size (.cells #[.int .i64 n, .slice A es.length c, .int .i64 q, .slice B n d] 138)
  go_wp2_with fail
  refine (HS.out _ B2).mono ?_
  rintro e w3 ⟨rfl, hb3⟩
  have P3 := P2.next hb3
  have B3 := B2.trans (hb3.mono B2.size)
  have r0 := P3.cell 0
  have r1 := P3.cell 1
  have r2 := P3.cell 2
  have r3 := P3.cell 3
  clear p0 p1 p2 p3 c0 c1 hb3
  cases S
  · go_wp2
    go_ret3
    exact ⟨none, 0, rfl, OwnI.nil_ _ _, B3⟩
  · go_wp2_with fail
    refine (HF.out _ B3).mono ?_
    rintro e w4 ⟨A', c', rfl, ho, hb4⟩
    go_wp2
    go_ret3
    exact ⟨A', c', by simp [HNL.out], ho.mono B3.size, B3.trans (hb4.mono B3.size)⟩
set_option maxHeartbeats 2000000 in
theorem recurrent_any (n : Int) (A : Option Addr) (c : Nat) (es : List E3) (hlen : es.length ≤ 10000) (q : Int) (B : Option Addr) (d : Nat) (cs : List Int) (hm : cs.length ≤ 1048000) (w : World)
    (h : Reads w w.heap.size 3 A es.length (edgeCells es)) (h' : Reads w w.heap.size 1 B cs.length (ints cs)) :
    Calls Tryz.prog 82 #[.agg #[.int .i64 n, .slice A es.length c], .int .i64 q, .slice B cs.length d] w fun e w' => ∃ A' c', e = .returned (.tuple #[.bool (recE n es q cs).1, .slice A' (recE n es q cs).2.1.length c', .int .i64 (recE n es q cs).2.2]) ∧ OwnI w' w.heap.size A' c' (recE n es q cs).2.1 ∧ Below w.heap.size w w' := by
  by_cases hz : burnErr n es q cs = 0
  · obtain ⟨hG, _, hq0, hqn, _⟩ := conf_zero (burn_zero hz).1
    have hlo := hG.lo
    obtain ⟨m, rfl⟩ := Int.eq_ofNat_of_zero_le (show 0 ≤ n by omega)
    obtain ⟨p, rfl⟩ := Int.eq_ofNat_of_zero_le hq0
    exact recurrent_ok m A c es hlen p B d cs hz w h h'
  · have hE : recE n es q cs = (false, [], burnErr n es q cs) := by unfold recE; rw [if_neg hz]
    rw [hE]
    have hbc := reccheck_any n A c es (by omega) q B d cs (by omega)
    obtain ⟨z, hzz⟩ : ∃ z, burnErr n es q cs = z := ⟨_, rfl⟩
    rw [hzz] at hbc hz ⊢
    have hb : (z == 0) = false := by simpa using hz
    have hb2 : (z != 0) = true := by simpa using hz
    have BC := Lib.hid hbc
    clear hz hE hbc hzz
    go_enter Tryz.func82, Tryz.ntmps82
    go_wp2_with fail
    refine (BC.out _ ((h.alloc (Nat.le_refl _) _).more (by simp)) ((h'.alloc (Nat.le_refl _) _).more (by simp))).mono ?_
    rintro e w1 ⟨rfl, hb1⟩
    have hB1 : Below w.heap.size w w1 := ((Below.refl _ _).alloc (Nat.le_refl _) _).trans (hb1.mono (by simp))
    go_wp2
    go_ret3
    exact ⟨none, 0, rfl, OwnI.nil_ _ _, hB1⟩
end Go.Proofs.YtnbikkcalcpedaaGreatDoor
namespace Go.Proofs.YtnbikkcalcpedaaGreatDoor
open Go.RowKit
theorem valS_bd {N : Int} {es : List E3} (hok : ∀ e ∈ es, okE N e) (v k : Nat) : 0 ≤ sumTo (fun w => tt es v w) k ∧ sumTo (fun w => tt es v w) k ≤ 50 * k := by
  induction k with
  | zero => simp [sumTo]
  | succ k ih =>
    have := tt_bd hok v k
    rw [sumTo]
    omega
set_option maxRecDepth 100000 in
set_option maxHeartbeats 4000000 in
theorem val08_any (n : Nat) (A : Option Addr) (c : Nat) (es : List E3) (hlen : es.length ≤ 10000) (hG : RightG n es) (v : Nat) (w : World) (h : Reads w w.heap.size 3 A es.length (edgeCells es)) :
    Calls Tryz.prog 48 #[.agg #[.int .i64 n, .slice A es.length c], .int .i64 v] w fun e w' => e = .returned (.int .i64 (valE es v)) ∧ Below w.heap.size w w' := by
  have HSB := Lib.hid (fun k => valS_bd hG.ok v k)
  have HVS : Hid (valE es v = sumTo (fun w => tt es v w) n) := valE_valS hG
  have hn12 : n ≤ 12 := by have := hG.hi; omega
  have HOK := Lib.hid hG.ok
  have g0 := Blk.new w 24 #[.int .i64 n, .slice A es.length c]
  have B0 : Below w.heap.size w (w.alloc (.cells #[.int .i64 n, .slice A es.length c] 24)) := (Below.refl _ _).alloc (Nat.le_refl _) _
  clear hG
  go_enter Tryz.func48, Tryz.ntmps48
  go_wp2_with fail
  go_loopw [5, 6] (fun s i wl => ∃ (k : Nat), i = .int .i64 k ∧ k ≤ n ∧ s = .int .i64 (sumTo (fun w => tt es v w) k) ∧ Hid (Below w.heap.size w wl) ∧ Hid (Blk wl w.heap.size 24 #[.int .i64 n, .slice A es.length c])) (fun _ i _ => n - (intOf i).toNat)
  case atStart => exact ⟨0, rfl, by omega, rfl, B0, g0⟩
  case round =>
    obtain ⟨k, rfl, hk, rfl, HB, HGr⟩ := hrel
    clear g0 B0
    have c0 := HGr.out.cell 0
    have c1 := HGr.out.cell 1
    have hs := HSB.out k
    obtain ⟨x, hx⟩ : ∃ x, sumTo (fun w => tt es v w) k = x := ⟨_, rfl⟩
    have hxs : sumTo (fun w => tt es v w) (k + 1) = x + tt es v k := by rw [sumTo, hx]
    rw [hx] at hs ⊢
    clear hx
    by_cases hlt : k < n
    · have hi : (k : Int) < (n : Int) := by omega
      by_cases hkv : k = v
      · have hne : ((k : Int) != (v : Int)) = false := by simp [hkv]
        have ht : tt es v k = 0 := by unfold tt; rw [if_pos hkv.symm]
        rw [ht, Int.add_zero] at hxs
        have HX := Lib.hid hxs
        clear hxs ht
        go_wp2
        go_roundw
        case rel => exact ⟨k + 1, by go_num, by omega, by rw [HX.out], HB, HGr⟩
        case measure => simp [intOf]; omega
      · have hne : ((k : Int) != (v : Int)) = true := by rw [bne_iff_ne]; omega
        have ht : tt es v k = btw es k v := by rw [tt_comm]; unfold tt; rw [if_neg hkv]
        have hbd := btw_bd HOK.out (k : Int) (v : Int)
        have BC := Lib.hid (between_any n A c es (by omega) k v wr ((h.below HB.out).more HB.out.size))
        rw [ht] at hxs
        obtain ⟨y, hy⟩ : ∃ y, btw es k v = y := ⟨_, rfl⟩
        rw [hy] at hxs hbd BC
        have hw1 : IntKind.i64.wrap (x + y) = x + y := IntWalk.i64_in _ (by omega)
        have HX := Lib.hid hxs
        clear hxs ht hy
        go_wp2_with fail
        refine (BC.out).mono ?_
        rintro e w5 ⟨rfl, b5⟩
        have B5 := Lib.hid (HB.out.trans (b5.mono HB.out.size))
        have G5 := Lib.hid (HGr.out.next b5)
        go_wp2
        go_roundw
        case rel => exact ⟨k + 1, by go_num, by omega, by rw [HX.out], B5, G5⟩
        case measure => simp [intOf]; omega
    · obtain rfl : k = n := by omega
      have hB := HB.out
      have HVX : Hid (valE es v = x) := by rw [Hid, HVS.out]; rw [sumTo] at hxs; omega
      go_wp2
      go_ret
      exact ⟨by rw [HVX.out]; rfl, hB⟩
def unsL (es : List E3) (q : Nat) (cs : List Int) (k : Nat) : List Nat := (List.range k).filter fun v => decide (v ≠ q) && decide (valE es v ≤ cs.getD v 0)
theorem unsL_succ (es : List E3) (q : Nat) (cs : List Int) (k : Nat) : unsL es q cs (k + 1) = unsL es q cs k ++ if k ≠ q ∧ valE es k ≤ cs.getD k 0 then [k] else [] := by
  unfold unsL
  rw [List.range_succ, List.filter_append]
  congr 1
  cases hp : (decide (k ≠ q) && decide (valE es k ≤ cs.getD k 0))
  · rw [if_neg (fun hc => by rw [decide_eq_true hc.1, decide_eq_true hc.2] at hp; cases hp)]
    rw [List.filter_cons, if_neg (by rw [hp]; simp), List.filter_nil]
  · rw [Bool.and_eq_true] at hp
    rw [if_pos ⟨of_decide_eq_true hp.1, of_decide_eq_true hp.2⟩]
    rw [List.filter_cons, if_pos (by rw [Bool.and_eq_true]; exact hp), List.filter_nil]
theorem unsL_len (es : List E3) (q : Nat) (cs : List Int) (k : Nat) : (unsL es q cs k).length ≤ k := by
  unfold unsL; exact Nat.le_trans (List.length_filter_le _ _) (by simp)
theorem unsL_nil (es : List E3) (q : Nat) (cs : List Int) (n : Nat) : decide ((unsL es q cs n).length = 0) = stabTo es cs q n := by
  rw [Bool.eq_iff_iff, decide_eq_true_iff, stabTo_iff, List.length_eq_zero_iff]
  unfold unsL
  rw [List.filter_eq_nil_iff]
  constructor
  · intro h v hv hq
    have := h v (List.mem_range.2 hv)
    rw [Bool.and_eq_true, not_and] at this
    have := this (by simpa using hq)
    simp at this
    rw [List.getD_eq_getElem?_getD]; omega
  · intro h v hv hc
    rw [Bool.and_eq_true] at hc
    have h1 := of_decide_eq_true hc.1
    have h2 := of_decide_eq_true hc.2
    have := h v (List.mem_range.1 hv) h1
    omega
set_option maxRecDepth 100000 in
set_option maxHeartbeats 4000000 in
theorem waiting_any (n : Nat) (A : Option Addr) (c : Nat) (es : List E3) (hlen : es.length ≤ 10000) (hG : RightG n es) (q : Nat) (B : Option Addr) (d : Nat) (cs : List Int) (hcl : cs.length = n) (w : World)
    (h : Reads w w.heap.size 3 A es.length (edgeCells es)) (h' : Reads w w.heap.size 1 B n (ints cs)) :
    Calls Tryz.prog 196 #[.agg #[.int .i64 n, .slice A es.length c], .int .i64 q, .slice B n d] w fun e w' => ∃ A' c', e = .returned (.slice A' (unsL es q cs n).length c') ∧ Below w.heap.size w w' := by
  have hn12 : n ≤ 12 := by have := hG.hi; omega
  have HV := Lib.hid (fun (v : Nat) (W : World) (hB : Below w.heap.size w W) => val08_any n A c es hlen hG v W ((h.below hB).more hB.size))
  have HCL := Lib.hid hcl
  have g0 := Blk.new w 24 #[.int .i64 n, .slice A es.length c]
  have B0 : Below w.heap.size w (w.alloc (.cells #[.int .i64 n, .slice A es.length c] 24)) := (Below.refl _ _).alloc (Nat.le_refl _) _
  clear hG hcl
  go_enter Tryz.func196, Tryz.ntmps196
  go_wp2_with fail
  go_loopw [7, 8] (fun o i wl => ∃ (k : Nat) (A' : Option Addr) (c' : Nat), i = .int .i64 k ∧ k ≤ n ∧ o = .slice A' (natI (unsL es q cs k)).length c' ∧ Hid (OwnI wl w.heap.size A' c' (natI (unsL es q cs k))) ∧ Hid (Below w.heap.size w wl) ∧ Hid (Blk wl w.heap.size 24 #[.int .i64 n, .slice A es.length c])) (fun _ i _ => n - (intOf i).toNat)
  case atStart => exact ⟨0, none, 0, rfl, by omega, rfl, OwnI.nil_ _ _, B0, g0⟩
  case round =>
    obtain ⟨k, A', c', rfl, hk, rfl, HO, HB, HGr⟩ := hrel
    clear g0 B0
    have c0 := HGr.out.cell 0
    have c1 := HGr.out.cell 1
    by_cases hlt : k < n
    · have hi : (k : Int) < (n : Int) := by omega
      obtain ⟨x, hx⟩ := get_of_lt (xs := cs) (k := k) (by rw [HCL.out]; exact hlt)
      obtain ⟨bB, oB, hA, hbB, hcell⟩ := (h'.below HB.out).at_ (ints_at hx)
      subst hA
      have hus := unsL_succ es q cs k
      rw [getD_at hx] at hus
      by_cases hkq : k = q
      · have hne : ((k : Int) != (q : Int)) = false := by simp [hkq]
        rw [if_neg (fun hc => hc.1 hkq), List.append_nil] at hus
        have HUS := Lib.hid hus
        clear hus hx hkq
        go_wp2_with fail
        go_quiet (fail)
        have OD : Hid (OwnI (wr.drewN nq) w.heap.size A' c' (natI (unsL es q cs k))) := HO.out.drewN nq
        have BD : Hid (Below w.heap.size w (wr.drewN nq)) := ⟨HB.out.os, HB.out.tape, HB.out.output, HB.out.size, HB.out.block⟩
        have GD : Hid (Blk (wr.drewN nq) w.heap.size 24 #[.int .i64 n, .slice A es.length c]) := HGr.out
        go_wp2
        go_roundw
        case rel => exact ⟨k + 1, A', c', by go_num, by omega, by rw [HUS.out], by rw [HUS.out]; exact OD, BD, GD⟩
        case measure => simp [intOf]; omega
      · have hne : ((k : Int) != (q : Int)) = true := by rw [bne_iff_ne]; omega
        have HV1 := HV.out k wr.drew HB.out.drew
        obtain ⟨V, hVV⟩ : ∃ V, valE es k = V := ⟨_, rfl⟩
        rw [hVV] at HV1 hus
        have HV1 := Lib.hid HV1
        have hgl := HGr.out.lt
        have hbl : bB < wr.heap.size := by have := HB.out.size; omega
        have HGL := Lib.hid hgl
        have HBL := Lib.hid hbl
        by_cases hge : V ≤ x
        · rw [if_pos ⟨hkq, hge⟩] at hus
          have HUS := Lib.hid hus
          have HKQ := Lib.hid hkq
          clear hus hx hkq hVV hgl hbl
          go_wp2_with fail
          go_region_held3 (fun W => W.cell? ⟨w.heap.size, 0, none⟩ = some (.int .i64 n) ∧ W.cell? ⟨w.heap.size, 1, none⟩ = some (.slice A es.length c) ∧ W.cell? ⟨bB, oB + k, none⟩ = some (.int .i64 x)) (go_keep)
            (first | (go_at_call 48; refine (HV1.out).mono ?_; rintro e w5 ⟨rfl, b5⟩
                      have k0 := (b5.cell (p := ⟨w.heap.size, 0, none⟩) HGL.out).trans c0
                      have k1 := (b5.cell (p := ⟨w.heap.size, 1, none⟩) HGL.out).trans c1
                      have k2 := (b5.cell (p := ⟨bB, oB + k, none⟩) HBL.out).trans hcell))
          all_goals
            have B5 := HB.out.drew.trans (b5.mono HB.out.drew.size)
            have O5 : OwnI w5 w.heap.size A' c' (natI (unsL es q cs k)) := OwnI.next (w := wr.drew) HO.out b5
            have G5 : Blk w5 w.heap.size 24 #[.int .i64 n, .slice A es.length c] := Blk.next (w := wr.drew) HGr.out b5
            have hl5 : (natI (unsL es q cs k)).length ≤ 1048000 := by rw [natI_length]; have := unsL_len es q cs k; omega
            have hsz5 := B5.size
            go_wp2_with (at_builtin; refine push_int rfl (.tmp 28) (.tmp 30) _ rfl Tryz.underlying25 w.heap.size A' c' (natI (unsL es q cs k)) (k : Int) rfl O5 rfl rfl hl5 hsz5 ?_; intro A2 c2 w2 ho2 hgr hb2)
            have G6 := (G5.alloc (.cells #[.int .i64 k] 3)).grown hgr (own_blk_ne O5 G5 (by decide))
            have B6 := B5.trans hb2
            have hsn : natI (unsL es q cs (k + 1)) = natI (unsL es q cs k) ++ [(k : Int)] := by rw [HUS.out, natI_snoc]
            go_roundw
            case rel => exact ⟨k + 1, A2, c2, by go_num, by omega, by rw [hsn]; simp, by rw [hsn]; exact ho2, B6, G6⟩
            case measure => simp [intOf]; omega
        · rw [if_neg (fun hc => hge hc.2), List.append_nil] at hus
          have HUS := Lib.hid hus
          clear hus hx hkq hVV hgl hbl
          go_wp2_with fail
          go_region_held3 (fun W => W.cell? ⟨w.heap.size, 0, none⟩ = some (.int .i64 n) ∧ W.cell? ⟨w.heap.size, 1, none⟩ = some (.slice A es.length c) ∧ W.cell? ⟨bB, oB + k, none⟩ = some (.int .i64 x)) (go_keep)
            (first | (go_at_call 48; refine (HV1.out).mono ?_; rintro e w5 ⟨rfl, b5⟩
                      have k0 := (b5.cell (p := ⟨w.heap.size, 0, none⟩) HGL.out).trans c0
                      have k1 := (b5.cell (p := ⟨w.heap.size, 1, none⟩) HGL.out).trans c1
                      have k2 := (b5.cell (p := ⟨bB, oB + k, none⟩) HBL.out).trans hcell))
          all_goals
            have B5 : Hid (Below w.heap.size w w5) := HB.out.drew.trans (b5.mono HB.out.drew.size)
            have O5 : Hid (OwnI w5 w.heap.size A' c' (natI (unsL es q cs k))) := OwnI.next (w := wr.drew) HO.out b5
            have G5 : Hid (Blk w5 w.heap.size 24 #[.int .i64 n, .slice A es.length c]) := Blk.next (w := wr.drew) HGr.out b5
            go_wp2
            go_roundw
            case rel => exact ⟨k + 1, A', c', by go_num, by omega, by rw [HUS.out], by rw [HUS.out]; exact O5, B5, G5⟩
            case measure => simp [intOf]; omega
    · obtain rfl : k = n := by omega
      have hB := HB.out
      have HL : Hid ((natI (unsL es q cs k)).length = (unsL es q cs k).length) := natI_length _
      go_wp2
      go_ret
      exact ⟨A', c', by rw [← HL.out]; rfl, hB⟩
set_option maxHeartbeats 2000000 in
theorem calm19_any (n : Nat) (A : Option Addr) (c : Nat) (es : List E3) (hlen : es.length ≤ 10000) (hG : RightG n es) (q : Nat) (B : Option Addr) (d : Nat) (cs : List Int) (hcl : cs.length = n) (w : World)
    (h : Reads w w.heap.size 3 A es.length (edgeCells es)) (h' : Reads w w.heap.size 1 B n (ints cs)) :
    Calls Tryz.prog 142 #[.agg #[.int .i64 n, .slice A es.length c], .int .i64 q, .slice B n d] w fun e w' => e = .returned (.bool (stabTo es cs q n)) ∧ Below w.heap.size w w' := by
  have WC := Lib.hid (fun (W : World) (hB : Below w.heap.size w W) => waiting_any n A c es hlen hG q B d cs hcl W ((h.below hB).more hB.size) ((h'.below hB).more hB.size))
  have B0 : Below w.heap.size w (w.alloc (.cells #[.int .i64 n, .slice A es.length c] 24)) := (Below.refl _ _).alloc (Nat.le_refl _) _
  have HU := Lib.hid (unsL_nil es q cs n)
  have g0 := Blk.new w 24 #[.int .i64 n, .slice A es.length c]
  have c0 := g0.cell 0
  have c1 := g0.cell 1
  clear hG hcl
  go_enter Tryz.func142, Tryz.ntmps142
  go_wp2_with fail
  refine (WC.out _ B0).mono ?_
  rintro e w1 ⟨A', c', rfl, hb1⟩
  go_wp2
  go_ret
  exact ⟨ret_bool (by rw [← HU.out, Bool.eq_iff_iff]; simp), B0.trans (hb1.mono B0.size)⟩
end Go.Proofs.YtnbikkcalcpedaaGreatDoor
namespace Go.Proofs.YtnbikkcalcpedaaGreatDoor
set_option maxRecDepth 100000
end Go.Proofs.YtnbikkcalcpedaaGreatDoor
namespace Go.Proofs.YtnbikkcalcpedaaGreatDoor
open Go.RowKit
theorem flm_erase {es : List E3} {v : Nat} {l : List Nat} (h : l.Nodup) : ∀ k, flmTo es (l.erase v) v k = flmTo es l v k
  | 0 => rfl
  | k + 1 => by
    rw [flmTo, flmTo, flm_erase h k]
    by_cases hk : k = v
    · subst hk
      have h0 : tt es k k = 0 := by unfold tt; rw [if_pos rfl]
      rw [h0]; simp
    · congr 1
      have hm : k ∈ l.erase v ↔ k ∈ l := by rw [h.mem_erase_iff]; exact ⟨fun x => x.2, fun x => ⟨hk, x⟩⟩
      by_cases hl : k ∈ l
      · rw [if_pos hl, if_pos (hm.2 hl)]
      · rw [if_neg hl, if_neg (fun x => hl (hm.1 x))]
theorem ban_jn {n : Nat} {es : List E3} (hG : RightG n es) {S : List Nat} (hS : LOk n S) {v : Nat} (hv : v ∈ S) : joinsN es v S - btw es v v = jnE es S v := by
  rw [joinsN_erase es v v hv, jnE_flm hG, ← flm_erase hS.1, flm_joins (S.erase v) ⟨hS.1.erase v, fun u hu => hS.2 u (List.mem_of_mem_erase hu)⟩ (fun hc => (hS.1.mem_erase_iff.1 hc).1 rfl)]
  omega
def banT (es : List E3) (cs : List Int) (S : List Nat) (v : Nat) : Bool := !decide (joinsN es v S - btw es v v ≤ cs.getD v 0)
def banB (es : List E3) (cs : List Int) (q : Nat) (S : List Nat) : Bool := !decide (S = []) && (!decide (q ∈ S) && S.all (banT es cs S))
theorem bits_ok (n D : Nat) : LOk n (bitsL n D) := ⟨List.Nodup.sublist List.filter_sublist List.nodup_range, bits_lt⟩
theorem rest_rest_bits (n D : Nat) : restL n (restL n (bitsL n D)) = bitsL n D := by
  have h : ∀ v, v < n → (v ∈ bitsL n D ↔ decide (D / 2 ^ v % 2 = 1) = true) := fun v hv => by
    unfold bitsL
    rw [List.mem_filter, List.mem_range]
    exact ⟨fun x => x.2, fun x => ⟨hv, x⟩⟩
  conv => rhs; unfold bitsL
  unfold restL
  refine List.filter_congr fun v hv => ?_
  have hv' := List.mem_range.1 hv
  have hm : v ∈ (List.range n).filter (fun v => !decide (v ∈ bitsL n D)) ↔ v ∉ bitsL n D := by
    rw [List.mem_filter]
    constructor
    · intro x; simpa using x.2
    · intro x; exact ⟨hv, by simpa using x⟩
  by_cases hb : v ∈ bitsL n D
  · rw [decide_eq_false (fun hc => (hm.1 hc) hb), (h v hv').1 hb]; rfl
  · rw [decide_eq_true (hm.2 hb)]
    have := mt (h v hv').2 hb
    rw [Bool.not_eq_true] at this
    rw [this]; rfl
theorem ban_sub {n q : Nat} {es : List E3} {cs : List Int} (hG : RightG n es) (hq : q < n) {D : Nat} (hb : banB es cs q (bitsL n D) = true) : ∀ v ∈ bitsL n D, v ∈ worstL n es cs q := by
  unfold banB at hb
  rw [Bool.and_eq_true, Bool.and_eq_true, List.all_eq_true] at hb
  obtain ⟨_, hqs, hall⟩ := hb
  have hqs : q ∉ bitsL n D := by simpa using hqs
  have hL : LOk n (restL n (bitsL n D)) := ⟨List.Nodup.sublist List.filter_sublist List.nodup_range, fun u hu => (mem_rest.1 hu).1⟩
  have hcl : ∀ v, v < n → catL es (dualL n es cs) (restL n (bitsL n D)) v = false := by
    intro v hv
    rw [cat_dual hG cs hL hv]
    by_cases hm : v ∈ bitsL n D
    · rw [← rest_catch hG, rest_rest_bits]
      have := hall v hm
      unfold banT at this
      rw [ban_jn hG (bits_ok n D) hm, Bool.not_eq_true'] at this
      rw [this, Bool.and_false]
    · rw [decide_eq_true (mem_rest.2 ⟨hv, hm⟩)]; rfl
  intro v hv
  refine mem_rest.2 ⟨bits_lt v hv, fun hc => ?_⟩
  have := burns_same (l := [q]) (l' := restL n (bitsL n D)) (by intro u hu; rw [List.mem_singleton.1 hu]; exact mem_rest.2 ⟨hq, hqs⟩) hcl hL (fun a b => (btw_bd hG.ok a b).1) n (lok_one hq) v hc
  exact (mem_rest.1 this).2 hv
theorem worst_ban {n q : Nat} {es : List E3} {cs : List Int} (hG : RightG n es) (hq : q < n) (hne : worstL n es cs q ≠ []) : banB es cs q (worstL n es cs q) = true := by
  have hW : LOk n (worstL n es cs q) := ⟨List.Nodup.sublist List.filter_sublist List.nodup_range, fun u hu => (mem_rest.1 hu).1⟩
  unfold banB
  have hqW : q ∉ worstL n es cs q := fun hc => (mem_rest.1 hc).2 recL_sink
  rw [decide_eq_false hne, decide_eq_false hqW]
  rw [Bool.not_false, Bool.true_and, Bool.true_and, List.all_eq_true]
  intro v hv
  have hv' := mem_rest.1 hv
  have h2 := burnL_done (es := es) (c := dualL n es cs) (k := n) (lok_one hq) (by simp) v hv'.1
  change catL es (dualL n es cs) (recL n es cs q) v = false at h2
  rw [cat_dual hG cs (recL_ok hq) hv'.1, decide_eq_false hv'.2, Bool.not_false, Bool.true_and, ← rest_catch hG] at h2
  unfold banT
  rw [ban_jn hG hW hv, Bool.not_eq_true']
  exact h2
def inBan (n : Nat) (es : List E3) (cs : List Int) (q k v : Nat) : Bool := (List.range k).any fun D => banB es cs q (bitsL n D) && decide (v ∈ bitsL n D)
theorem inBan_succ (n : Nat) (es : List E3) (cs : List Int) (q k v : Nat) : inBan n es cs q (k + 1) v = (inBan n es cs q k v || (banB es cs q (bitsL n k) && decide (v ∈ bitsL n k))) := by simp [inBan, List.range_succ]
theorem worst_sets {n q : Nat} {es : List E3} {cs : List Int} (hG : RightG n es) (hq : q < n) : (List.range n).filter (inBan n es cs q (2 ^ n)) = worstL n es cs q := by
  unfold worstL
  conv => rhs; unfold restL
  refine List.filter_congr fun v hv => ?_
  have hv' := List.mem_range.1 hv
  by_cases hm : v ∈ recL n es cs q
  · rw [decide_eq_true hm, Bool.not_true, ← Bool.not_eq_true]
    intro hc
    unfold inBan at hc
    obtain ⟨D, _, hD⟩ := List.any_eq_true.1 hc
    rw [Bool.and_eq_true] at hD
    exact (mem_rest.1 (ban_sub hG hq hD.1 v (of_decide_eq_true hD.2))).2 hm
  · rw [decide_eq_false hm, Bool.not_false]
    obtain ⟨D, hD, hb⟩ := bits_all (fun v => !decide (v ∈ recL n es cs q)) n
    have he : bitsL n D = worstL n es cs q := hb
    have hw : v ∈ worstL n es cs q := mem_rest.2 ⟨hv', hm⟩
    unfold inBan
    refine List.any_eq_true.2 ⟨D, List.mem_range.2 hD, ?_⟩
    rw [he, worst_ban hG hq (fun hc => by rw [hc] at hw; cases hw), decide_eq_true hw]
    rfl
end Go.Proofs.YtnbikkcalcpedaaGreatDoor
namespace Go.Proofs.YtnbikkcalcpedaaGreatDoor
section
variable {es : List E3} {cs : List Int} {n : Nat}
theorem burn_proves (he : LOk n []) : ∀ (k : Nat) (l : List Nat), ∃ r, burnL es cs n k l = l ++ r ∧ provFrom es cs l r = true
  | 0, l => ⟨[], by simp [burnL], rfl⟩
  | k + 1, l => by
    cases hv : (readyL es cs n l).head? with
    | none => exact ⟨[], by rw [burnL_stop hv]; simp, rfl⟩
    | some v =>
      obtain ⟨r, h1, h2⟩ := burn_proves he k (l ++ [v])
      refine ⟨v :: r, by rw [burnL_step hv, h1]; simp, ?_⟩
      rw [provFrom, h2, decide_eq_true (head_ready hv).2.2]; rfl
end
theorem ren_zero {n : Nat} {l : List Nat} (h : LOk n l) (hl : l.length = n) : renErr n (natsI l) = 0 := by
  have key : ∀ (r s : List Nat), (s ++ r).Nodup → (∀ v ∈ r, v < n) → renFrom n (natsI s) (natsI r) = 0 := by
    intro r
    induction r with
    | nil => intro s _ _; simp [natsI, renFrom]
    | cons v r ih =>
      intro s hn hv
      have h1 := hv v (by simp)
      have h2 : v ∉ s := fun hc => by
        rw [List.nodup_append] at hn
        exact hn.2.2 v hc v (by simp) rfl
      have e : natsI (v :: r) = (v : Int) :: natsI r := rfl
      rw [e, renFrom, if_neg (by omega), if_neg (fun hc => h2 (natsI_mem.1 hc)), ← natsI_snoc]
      exact ih (s ++ [v]) (by simpa using hn) fun u hu => hv u (by simp [hu])
  unfold renErr
  rw [if_neg (by rw [natsI_length]; omega)]
  exact key l [] (by simpa using h.1) h.2
theorem ver_true {n q : Nat} {es : List E3} {cs : List Int} {r : List Nat} (hz : burnErr n es q cs = 0) (h : LOk n ([q] ++ r)) (hl : ([q] ++ r).length = n) (hp : provFrom es cs [q] r = true) : verErr n es q cs (natsI ([q] ++ r)) = 0 ∧ verB n es q cs (natsI ([q] ++ r)) = true := by
  have h1 : verErr n es q cs (natsI ([q] ++ r)) = 0 := by unfold verErr; rw [if_neg (by omega)]; exact ren_zero h hl
  refine ⟨h1, ?_⟩
  unfold verB
  rw [if_pos h1, nats_toNat, natsI_getD]
  unfold provL
  simp [hp]
end Go.Proofs.YtnbikkcalcpedaaGreatDoor
namespace Go.Proofs.YtnbikkcalcpedaaGreatDoor
open Go.RowKit
end Go.Proofs.YtnbikkcalcpedaaGreatDoor
namespace Go.Proofs.YtnbikkcalcpedaaGreatDoor
section
variable {n : Nat} {E : List (Nat × Nat)} {t : List Nat} {e f : Nat}
end
end Go.Proofs.YtnbikkcalcpedaaGreatDoor
