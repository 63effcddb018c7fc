/-
  Texts of this claim, put together: RRecur, Stab, RCalm.
-/
import Derived.Test.YtplgbapbgcipdaaGreatK22
import Derived.Test.YtplgbapbgcipdaaGreatK18
import Derived.Test.YtplgbapbgcipdaaGreatK20
import Derived.Test.YtplgbapbgcipdaaGreatK13
import Derived.Deep.RegionHeld3
/-! Package recurrent: check, recurs, Recurrent. -/
namespace Go.Proofs.YtplgbapbgcipdaaGreat
open Go.RowKit


set_option maxRecDepth 100000 in
set_option maxHeartbeats 2000000 in
theorem reccheck_any (n : Int) (A : Option Addr) (c : Nat) (es : List E3) (hn : es.length ≤ 1048576) (q : Int) (B : Option Addr) (d : Nat) (cs : List Int) (hm : cs.length ≤ 1048576) (w : World) (h : Reads w w.heap.size 3 A es.length (edgeCells es)) (h' : Reads w w.heap.size 1 B cs.length (ints cs)) :
    Calls Tryz.prog 36 #[.agg #[.int .i64 n, .slice A es.length c], .int .i64 q, .slice B cs.length d] w fun e w' => e = .returned (.int .i64 (burnErr n es q cs)) ∧ Below w.heap.size w w' := by
  have GC := Lib.hid (scheck_any n A c es hn q B d cs hm)
  rcases burn_cases n es q cs with ⟨h1, hE⟩ | ⟨h1, h2, hE⟩ | ⟨h1, h2, hE⟩
  · rw [hE]
    obtain ⟨r, hr⟩ : ∃ r, confErr n es q cs = r := ⟨_, rfl⟩
    rw [hr] at GC h1 ⊢
    have hb : (r != 0) = true := by simpa using h1
    clear hr h1 hE
    go_enter Tryz.func36, Tryz.ntmps36
    go_wp2_with fail
    refine (GC.out _ ((h.alloc (Nat.le_refl _) _).more (by simp)) ((h'.alloc (Nat.le_refl _) _).more (by simp))).mono ?_
    rintro e w1 ⟨rfl, hb1⟩
    have hbel1 : Below w.heap.size w w1 := ((Below.refl _ _).alloc (Nat.le_refl _) _).trans (hb1.mono (by simp))
    go_wp2
    go_ret
    exact ⟨rfl, hbel1⟩
  all_goals
    rw [hE]
    obtain ⟨_, _, hq0, hqn, hlen, _, _⟩ := conf_zero h1
    obtain ⟨v, rfl⟩ := Int.eq_ofNat_of_zero_le hq0
    rw [Int.toNat_natCast] at h2
    obtain ⟨x, hx⟩ := get_of_lt (xs := cs) (k := v) (by omega)
    rw [getD_at hx] at h2
    rw [h1] at GC
    have hi : (v : Int) < (cs.length : Int) := by omega
    have HX := Lib.hid hx
    clear h1 hE hx hlen
    go_enter Tryz.func36, Tryz.ntmps36
    go_wp2_with fail
    refine (GC.out _ ((h.alloc (Nat.le_refl _) _).more (by simp)) ((h'.alloc (Nat.le_refl _) _).more (by simp))).mono ?_
    rintro e w1 ⟨rfl, hb1⟩
    have hbel1 : Below w.heap.size w w1 := ((Below.refl _ _).alloc (Nat.le_refl _) _).trans (hb1.mono (by simp))
    obtain ⟨b, off, rfl, hb', hcell⟩ := (h'.below hbel1).at_ (ints_at HX.out)
    first
      | (have hb0 : (x != 0) = true := by simpa using h2
         clear h2
         go_wp2
         go_ret
         exact ⟨rfl, hbel1⟩)
      | (subst h2
         go_wp2
         go_ret
         exact ⟨rfl, hbel1⟩)

set_option maxRecDepth 100000 in
set_option maxHeartbeats 8000000 in
theorem recurs_any (n : Nat) (A : Option Addr) (c : Nat) (es : List E3) (q : Nat) (hq : q < n) (B : Option Addr) (d : Nat) (cs : List Int) (hR : RArgs n es cs) (w : World)
    (h : Reads w w.heap.size 3 A es.length (edgeCells es)) (h' : Reads w w.heap.size 1 B n (ints cs)) :
    Calls Tryz.prog 56 #[pileV n A es.length c q B n d] w fun e w' => e = .returned (.bool (recB n es cs q)) ∧ Below w.heap.size w w' := by
  have hn12 : n ≤ 12 := by have := (right_of hR.hz).hi; omega
  have HS := Lib.hid (fun (W : World) (hB : Below w.heap.size w W) => stable_any n hn12 A c es hR.hn hR.hz q B d cs hR.hcl W ((h.below hB).more hB.size) ((h'.below hB).more hB.size))
  have HF := Lib.hid (fun (W : World) (hB : Below w.heap.size w W) => rfire_any n A c es q hq B d cs hR W ((h.below hB).more hB.size) ((h'.below hB).more hB.size))
  have g0 := Blk.new w 80 (pileC n A es.length c q B n d)
  have hB0 : Below w.heap.size w (w.alloc (.cells (pileC n A es.length c q B n d) 80)) := (Below.refl _ _).alloc (Nat.le_refl _) _
  unfold recB
  obtain ⟨S, hS⟩ : ∃ S, stabTo es cs q n = S := ⟨_, rfl⟩
  obtain ⟨R, hRL⟩ : ∃ R, recL n es cs q = R := ⟨_, rfl⟩
  rw [hS] at HS ⊢
  rw [hRL] at HF ⊢
  clear hS hRL
  simp only [pileV, pileC] at g0 hB0 HS HF ⊢
  have hgw : w.heap.size < (w.alloc (.cells #[.int .i64 n, .slice A es.length c, .int .i64 q, .slice B n d] 80)).heap.size := by simp
  have c0 := g0.cell 0
  have c1 := g0.cell 1
  have c2 := g0.cell 2
  have c3 := g0.cell 3
  obtain ⟨W0, hW0⟩ : ∃ W0, w.alloc (.cells #[.int .i64 n, .slice A es.length c, .int .i64 q, .slice B n d] 80) = W0 := ⟨_, rfl⟩
  have HW0 := Lib.hid hW0
  rw [hW0] at g0 hB0 c0 c1 c2 c3 hgw
  clear hW0
  have HS2 := Lib.hid (HS.out W0.drew hB0.drew)
  have HF2 := Lib.hid (fun (W : World) (hB : Below W0.heap.size W0 W) => HF.out W (hB0.trans (hB.mono hB0.size)))
  have KC := Lib.hid (fun (W : World) (hB : Below W0.heap.size W0 W) => (⟨(hB.cell (p := ⟨w.heap.size, 0, none⟩) hgw).trans c0, (hB.cell (p := ⟨w.heap.size, 1, none⟩) hgw).trans c1, (hB.cell (p := ⟨w.heap.size, 2, none⟩) hgw).trans c2, (hB.cell (p := ⟨w.heap.size, 3, none⟩) hgw).trans c3⟩ :
    W.cell? ⟨w.heap.size, 0, none⟩ = some (.int .i64 n) ∧ W.cell? ⟨w.heap.size, 1, none⟩ = some (.slice A es.length c) ∧ W.cell? ⟨w.heap.size, 2, none⟩ = some (.int .i64 q) ∧ W.cell? ⟨w.heap.size, 3, none⟩ = some (.slice B n d)))
  have B0 : Below W0.heap.size W0 W0.drew := (Below.refl _ _).drew
  clear g0 HS HF hR
  cases S
  · go_enter Tryz.func56, Tryz.ntmps56
    go_wp2_with fail
    rw [HW0.out]
    first
      | go_region_with ((go_at_call 92; refine (HS2.out).mono ?_; rintro e wJ ⟨rfl, bJ⟩; have BJ := B0.trans (bJ.mono (Nat.le_refl _)); obtain ⟨j0, j1, j2, j3⟩ := KC.out wJ BJ))
      | fail
    all_goals
      go_wp2
      go_ret
      exact ⟨rfl, hB0.trans (BJ.mono hB0.size)⟩
  · go_enter Tryz.func56, Tryz.ntmps56
    go_wp2_with fail
    rw [HW0.out]
    go_region_held3 (fun W => W.cell? ⟨w.heap.size, 0, none⟩ = some (.int .i64 n) ∧ W.cell? ⟨w.heap.size, 1, none⟩ = some (.slice A es.length c) ∧ W.cell? ⟨w.heap.size, 2, none⟩ = some (.int .i64 q) ∧ W.cell? ⟨w.heap.size, 3, none⟩ = some (.slice B n d)) (go_keep)
      (first
        | (go_at_call 92; refine (HS2.out).mono ?_; rintro e wJ ⟨rfl, bJ⟩; have BJ := B0.trans (bJ.mono (Nat.le_refl _)); obtain ⟨j0, j1, j2, j3⟩ := KC.out wJ BJ)
        | (go_at_call 65; refine (HF2.out _ BJ).mono ?_; rintro e wV ⟨A', c', rfl, _, bV⟩; have BV := BJ.trans (bV.mono BJ.size); obtain ⟨l0, l1, l2, l3⟩ := KC.out wV BV))
    all_goals
      go_wp2
      go_ret
      exact ⟨ret_bool (by rw [Bool.true_and, Bool.eq_iff_iff]; simp; omega), hB0.trans (BV.mono hB0.size)⟩
theorem burn_rargs {n q : Nat} {es : List E3} {cs : List Int} (hlen : es.length ≤ 10000) (hz : burnErr n es q cs = 0) : RArgs n es cs ∧ q < n ∧ cs.length = n := by
  have hc := (burn_zero hz).1
  obtain ⟨_, _, _, hqn, hl, hb, _⟩ := conf_zero hc
  have hck : checkG n es = 0 := by
    rcases conf_cases n es q cs with ⟨h1, hE⟩ | ⟨h1, h2, hE⟩ | ⟨h1, h2, hE⟩
    · exact absurd (hE ▸ hc) h1
    · exact absurd (hE ▸ hc) h2
    · rcases root_cases n es q with ⟨k1, kE⟩ | ⟨k1, k2, kE⟩ | ⟨k1, k2, k3, kE⟩ | ⟨k1, k2, k3, kE⟩
      · exact absurd (kE ▸ h1) k1
      · exact k1
      · exact k1
      · exact k1
  exact ⟨⟨hlen, hck, by omega, fun x hx => by have := hb x hx; omega⟩, by omega, by omega⟩
/-- What Recurrent returns. -/
def recE (n : Int) (es : List E3) (q : Int) (cs : List Int) : Bool × List Int × Int := if burnErr n es q cs = 0 then (if recB n.toNat es cs q.toNat then (true, natI (recL n.toNat es cs q.toNat), 0) else (false, [], 0)) else (false, [], burnErr n es q cs)

set_option maxRecDepth 100000 in
set_option maxHeartbeats 8000000 in
theorem recurrent_ok (n : Nat) (A : Option Addr) (c : Nat) (es : List E3) (hlen : es.length ≤ 10000) (q : Nat) (B : Option Addr) (d : Nat) (cs : List Int) (hz : burnErr n es q cs = 0) (w : World)
    (h : Reads w w.heap.size 3 A es.length (edgeCells es)) (h' : Reads w w.heap.size 1 B cs.length (ints cs)) :
    Calls Tryz.prog 32 #[.agg #[.int .i64 n, .slice A es.length c], .int .i64 q, .slice B cs.length d] w fun e w' => ∃ A' c', e = .returned (.tuple #[.bool (recE n es q cs).1, .slice A' (recE n es q cs).2.1.length c', .int .i64 (recE n es q cs).2.2]) ∧ OwnI w' w.heap.size A' c' (recE n es q cs).2.1 ∧ Below w.heap.size w w' := by
  obtain ⟨hR, hq, hcl⟩ := burn_rargs hlen hz
  have hn12 : n ≤ 12 := by have := (right_of hR.hz).hi; omega
  have BC := Lib.hid (reccheck_any n A c es (by omega) q B d cs (by omega))
  rw [hz] at BC
  rw [hcl] at h' BC ⊢
  have HS := Lib.hid (fun (W : World) (hB : Below w.heap.size w W) => recurs_any n A c es q hq B d cs hR W ((h.below hB).more hB.size) ((h'.below hB).more hB.size))
  have HF := Lib.hid (fun (W : World) (hB : Below w.heap.size w W) => rfire_any n A c es q hq B d cs hR W ((h.below hB).more hB.size) ((h'.below hB).more hB.size))
  have hE : recE n es q cs = if recB n es cs q then (true, natI (recL n es cs q), 0) else (false, [], 0) := by unfold recE; rw [if_pos hz]; simp
  rw [hE]
  have hnl : (natI (recL n es cs q)).length = (recL n es cs q).length := natI_length _
  have g0 := Blk.new w 24 #[.int .i64 n, .slice A es.length c]
  obtain ⟨S, hS⟩ : ∃ S, recB n es cs q = S := ⟨_, rfl⟩
  obtain ⟨R, hRL⟩ : ∃ R, recL n es cs q = R := ⟨_, rfl⟩
  rw [hS] at HS ⊢
  rw [hRL] at HF hnl ⊢
  have HNL := Lib.hid hnl
  simp only [pileV] at HS HF
  clear hS hRL hR hz hE hnl hcl
  go_enter Tryz.func32, Tryz.ntmps32
  go_wp2_with fail
  refine (BC.out _ ((h.alloc (Nat.le_refl _) _).more (by simp)) ((h'.alloc (Nat.le_refl _) _).more (by simp))).mono ?_
  rintro e w1 ⟨rfl, hb1⟩
  have hB1 : Below w.heap.size w w1 := ((Below.refl _ _).alloc (Nat.le_refl _) _).trans (hb1.mono (by simp))
  have g1 := g0.next hb1
  have c0 := g1.cell 0
  have c1 := g1.cell 1
  clear g0 hb1
  have P2 := Blk.new w1 80 #[.int .i64 n, .slice A es.length c, .int .i64 q, .slice B n d]
  have p0 := P2.cell 0
  have p1 := P2.cell 1
  have p2 := P2.cell 2
  have p3 := P2.cell 3
  have B2 := hB1.alloc hB1.size (.cells #[.int .i64 n, .slice A es.length c, .int .i64 q, .slice B n d] 80)
  go_wp2_with fail
  refine (HS.out _ B2).mono ?_
  rintro e w3 ⟨rfl, hb3⟩
  have P3 := P2.next hb3
  have B3 := B2.trans (hb3.mono B2.size)
  have r0 := P3.cell 0
  have r1 := P3.cell 1
  have r2 := P3.cell 2
  have r3 := P3.cell 3
  clear p0 p1 p2 p3 c0 c1 hb3
  cases S
  · go_wp2
    go_ret3
    exact ⟨none, 0, rfl, OwnI.nil_ _ _, B3⟩
  · go_wp2_with fail
    refine (HF.out _ B3).mono ?_
    rintro e w4 ⟨A', c', rfl, ho, hb4⟩
    go_wp2
    go_ret3
    exact ⟨A', c', by simp [HNL.out], ho.mono B3.size, B3.trans (hb4.mono B3.size)⟩

set_option maxHeartbeats 2000000 in
theorem recurrent_any (n : Int) (A : Option Addr) (c : Nat) (es : List E3) (hlen : es.length ≤ 10000) (q : Int) (B : Option Addr) (d : Nat) (cs : List Int) (hm : cs.length ≤ 1048000) (w : World)
    (h : Reads w w.heap.size 3 A es.length (edgeCells es)) (h' : Reads w w.heap.size 1 B cs.length (ints cs)) :
    Calls Tryz.prog 32 #[.agg #[.int .i64 n, .slice A es.length c], .int .i64 q, .slice B cs.length d] w fun e w' => ∃ A' c', e = .returned (.tuple #[.bool (recE n es q cs).1, .slice A' (recE n es q cs).2.1.length c', .int .i64 (recE n es q cs).2.2]) ∧ OwnI w' w.heap.size A' c' (recE n es q cs).2.1 ∧ Below w.heap.size w w' := by
  by_cases hz : burnErr n es q cs = 0
  · obtain ⟨hG, _, hq0, hqn, _⟩ := conf_zero (burn_zero hz).1
    have hlo := hG.lo
    obtain ⟨m, rfl⟩ := Int.eq_ofNat_of_zero_le (show 0 ≤ n by omega)
    obtain ⟨p, rfl⟩ := Int.eq_ofNat_of_zero_le hq0
    exact recurrent_ok m A c es hlen p B d cs hz w h h'
  · have hE : recE n es q cs = (false, [], burnErr n es q cs) := by unfold recE; rw [if_neg hz]
    rw [hE]
    have hbc := reccheck_any n A c es (by omega) q B d cs (by omega)
    obtain ⟨z, hzz⟩ : ∃ z, burnErr n es q cs = z := ⟨_, rfl⟩
    rw [hzz] at hbc hz ⊢
    have hb : (z == 0) = false := by simpa using hz
    have hb2 : (z != 0) = true := by simpa using hz
    have BC := Lib.hid hbc
    clear hz hE hbc hzz
    go_enter Tryz.func32, Tryz.ntmps32
    go_wp2_with fail
    refine (BC.out _ ((h.alloc (Nat.le_refl _) _).more (by simp)) ((h'.alloc (Nat.le_refl _) _).more (by simp))).mono ?_
    rintro e w1 ⟨rfl, hb1⟩
    have hB1 : Below w.heap.size w w1 := ((Below.refl _ _).alloc (Nat.le_refl _) _).trans (hb1.mono (by simp))
    go_wp2
    go_ret3
    exact ⟨none, 0, rfl, OwnI.nil_ _ _, hB1⟩
end Go.Proofs.YtplgbapbgcipdaaGreat

/-! Package stabilize: settled, given, Stabilize. -/
namespace Go.Proofs.YtplgbapbgcipdaaGreat
open Go.RowKit

/-- What stabilization tells: the configuration, the odometer, the error. -/
def stabOut (q : Nat) : Option (List Int × List Int) → List Int × List Int × Int
  | none => ([], [], 12)
  | some (x, s) => if 1048576 < x.getD q 0 then ([], [], 11) else (x, s, 0)
set_option maxRecDepth 100000 in
set_option maxHeartbeats 8000000 in
theorem settled_any (base bp n q : Nat) (es : List E3) (d : List Int) (hS : SArgs n q es d) (a : PA) (w : World)
    (h : PileW w base bp n a d q (rowsL n (endsL es)) (valL n (endsL es)) (cntD n []) 0 (waitL n q d (valL n (endsL es)))) :
    Calls Tryz.prog 107 #[.pointer (some ⟨bp, 0, none⟩)] w fun e w' => Only (PB a bp) w w' ∧ ∃ r, StabR es n q d r ∧ e = .returned (.int .i64 (stabOut q r).2.2) ∧
      ∀ x s, r = some (x, s) → ∃ total ws, PileW w' base bp n a x q (rowsL n (endsL es)) (valL n (endsL es)) s total ws := by
  have SC := Lib.hid (settle_any base bp n q es d hS a w h)
  have HDL : Hid (∀ l, (runD es n d l).length = n) := fun l => runD_length hS.dl
  have HQ := Lib.hid hS.hq
  clear hS h
  go_enter Tryz.func107, Tryz.ntmps107
  go_wp2_with fail
  refine (SC.out).mono ?_
  rintro e w1 ⟨ho, ⟨rfl, l, hl, hll⟩ | ⟨rfl, l, ws, hl, hll, hc, P1⟩⟩
  · have HL : Hid (StabR es n q d none) := ⟨l, hl, hll⟩
    clear hl hll
    go_wp2
    go_ret
    exact ⟨ho, none, HL.out, rfl, (fun x s h => by cases h)⟩
  · have HL : Hid (StabR es n q d (some (runD es n d l, cntD n l))) := ⟨l, hl, hll, hc, rfl, rfl⟩
    obtain ⟨z, hz⟩ := get_of_lt (xs := runD es n d l) (k := q) (by rw [HDL.out]; exact HQ.out)
    have e0 := P1.c0
    have e1 := P1.c1
    have ed := P1.cd hz
    have hqi : (q : Int) < (n : Int) := by have := HQ.out; omega
    have hq0 : ¬ (q : Int) < 0 := by omega
    have HZ := Lib.hid (getD_at hz)
    have HP1 := Lib.hid P1
    clear hl hll hc hz P1
    by_cases hbig : 1048576 < z
    · have HB : Hid ((stabOut q (some (runD es n d l, cntD n l))).2.2 = 11) := by unfold stabOut Hid; dsimp only; rw [HZ.out, if_pos hbig]
      go_wp2_with fail
      go_quiet (fail)
      go_wp2
      go_ret
      exact ⟨⟨ho.os, ho.tape, ho.output, ho.size, ho.block⟩, _, HL.out, by rw [HB.out]; rfl, (fun x s h => by cases h; exact ⟨_, _, HP1.out.drewN _⟩)⟩
    · have HB : Hid ((stabOut q (some (runD es n d l, cntD n l))).2.2 = 0) := by unfold stabOut Hid; dsimp only; rw [HZ.out, if_neg hbig]
      go_wp2_with fail
      go_quiet (fail)
      go_wp2
      go_ret
      exact ⟨⟨ho.os, ho.tape, ho.output, ho.size, ho.block⟩, _, HL.out, by rw [HB.out]; rfl, (fun x s h => by cases h; exact ⟨_, _, HP1.out.drewN _⟩)⟩

theorem conf_sargs {n q : Nat} {es : List E3} {d : List Int} (hlen : es.length ≤ 10000) (hc : confErr n es q d = 0) : SArgs n q es d := by
  obtain ⟨hG, hC, _, hqn, hl, hb, hnn⟩ := conf_zero hc
  have hck : checkG n es = 0 := by
    rcases conf_cases n es q d with ⟨h1, hE⟩ | ⟨h1, h2, hE⟩ | ⟨h1, h2, hE⟩
    · exact absurd (hE ▸ hc) h1
    · exact absurd (hE ▸ hc) h2
    · exact (root_zero h1).1
  rw [Int.toNat_natCast] at hC
  refine ⟨hlen, hck, hC, by omega, by omega, fun v hv => ?_, fun v hv hq => hnn v (by omega) (by omega)⟩
  obtain ⟨x, hx⟩ := get_of_lt (xs := d) (k := v) (by omega)
  rw [getD_at hx]
  exact hb x (List.mem_of_getElem? hx)
theorem cntD_nil (n : Nat) : cntD n [] = List.replicate n 0 := by
  refine list_ext_n (n := n) cntD_length (by simp) fun i hi => ?_
  simp [cntD, hi]
theorem PileW.dreads {w : World} {base bp n : Nat} {a : PA} {d : List Int} {q : Int} {rows : List (List Int)} {val fired : List Int} {total : Int} {ws : List Bool} (h : PileW w base bp n a d q rows val fired total ws) : Reads w w.heap.size 1 (some ⟨a.bd, 0, none⟩) n (ints d) := by
  obtain ⟨sl, hs⟩ := h.dd
  refine ⟨by rw [ints_length, h.dl, Nat.mul_one], fun _ => ⟨a.bd, 0, rfl, hs.lt, fun j u hu => ?_⟩⟩
  rw [Nat.zero_add, hs.cell j, List.getElem?_toArray, List.getElem?_append_left (List.getElem?_eq_some_iff.1 hu).1]
  exact hu
theorem PileW.freads {w : World} {base bp n : Nat} {a : PA} {d : List Int} {q : Int} {rows : List (List Int)} {val fired : List Int} {total : Int} {ws : List Bool} (h : PileW w base bp n a d q rows val fired total ws) : Reads w w.heap.size 1 (some ⟨a.bf, 0, none⟩) n (ints fired) := by
  refine ⟨by rw [ints_length, h.fl, Nat.mul_one], fun _ => ⟨a.bf, 0, rfl, h.ff.lt, fun j u hu => ?_⟩⟩
  rw [Nat.zero_add, h.ff.cell j]
  simpa [intCells] using hu

set_option maxRecDepth 100000 in
set_option maxHeartbeats 4000000 in
theorem given_ok (n : Nat) (A : Option Addr) (c : Nat) (es : List E3) (hlen : es.length ≤ 10000) (q : Nat) (B : Option Addr) (cB : Nat) (d : List Int) (hc : confErr n es q d = 0) (w : World)
    (h : Reads w w.heap.size 3 A es.length (edgeCells es)) (h' : Reads w w.heap.size 1 B d.length (ints d)) :
    Calls Tryz.prog 106 #[.agg #[.int .i64 n, .slice A es.length c], .int .i64 q, .slice B d.length cB] w fun e w' => ∃ bp a, e = .returned (.tuple #[.pointer (some ⟨bp, 0, none⟩), .int .i64 0]) ∧
      PileW w' w.heap.size bp n a d q (rowsL n (endsL es)) (valL n (endsL es)) (List.replicate n 0) 0 (waitL n q d (valL n (endsL es))) ∧ Below w.heap.size w w' := by
  have hS := conf_sargs hlen hc
  have hG := right_of hS.hz
  have hn12 : n ≤ 12 := by have := hG.hi; omega
  have hq := hS.hq
  have hdl := hS.dl
  have SC := Lib.hid (scheck_any n A c es (by omega) q B cB d (by omega))
  rw [hc] at SC
  have PO := Lib.hid (fun (W : World) (hB : Below w.heap.size w W) => pileOf_any n hn12 (by omega) A c es hlen hS.hz hG.ok q B cB d hS.dl W ((h.below hB).more hB.size) ((h'.below hB).more hB.size))
  have g0 := Blk.new w 24 #[.int .i64 n, .slice A es.length c]
  clear hS hG hc hdl
  go_enter Tryz.func106, Tryz.ntmps106
  go_wp2_with fail
  refine (SC.out _ ((h.alloc (Nat.le_refl _) _).more (by simp)) ((h'.alloc (Nat.le_refl _) _).more (by simp))).mono ?_
  rintro e w1 ⟨rfl, hb1⟩
  have hB1 : Below w.heap.size w w1 := ((Below.refl _ _).alloc (Nat.le_refl _) _).trans (hb1.mono (by simp))
  have g1 := g0.next hb1
  have c0 := g1.cell 0
  have c1 := g1.cell 1
  clear g0 hb1
  go_wp2_with fail
  refine (PO.out _ hB1).mono ?_
  rintro e w2 ⟨bp, a, rfl, hP, hb2⟩
  go_wp2
  go_ret2
  exact ⟨bp, a, rfl, hP.mono hB1.size, hB1.trans (hb2.mono hB1.size)⟩
set_option maxRecDepth 100000 in
set_option maxHeartbeats 8000000 in
theorem stab_ok (n : Nat) (A : Option Addr) (c : Nat) (es : List E3) (hlen : es.length ≤ 10000) (q : Nat) (B : Option Addr) (cB : Nat) (d : List Int) (hc : confErr n es q d = 0) (w : World)
    (h : Reads w w.heap.size 3 A es.length (edgeCells es)) (h' : Reads w w.heap.size 1 B d.length (ints d)) :
    Calls Tryz.prog 70 #[.agg #[.int .i64 n, .slice A es.length c], .int .i64 q, .slice B d.length cB] w fun e w' => ∃ r A1 c1 A2 c2, StabR es n q d r ∧ e = .returned (.tuple #[.slice A1 (stabOut q r).1.length c1, .slice A2 (stabOut q r).2.1.length c2, .int .i64 (stabOut q r).2.2]) ∧
      Reads w' w'.heap.size 1 A1 (stabOut q r).1.length (ints (stabOut q r).1) ∧ Reads w' w'.heap.size 1 A2 (stabOut q r).2.1.length (ints (stabOut q r).2.1) ∧ Below w.heap.size w w' := by
  have hS := conf_sargs hlen hc
  have hdl := hS.dl
  have GV := Lib.hid (fun (W : World) (hB : Below w.heap.size w W) => given_ok n A c es hlen q B cB d hc W ((h.below hB).more hB.size) ((h'.below hB).more hB.size))
  have ST := Lib.hid (fun (base bp : Nat) (a : PA) (w : World) (h : PileW w base bp n a d q (rowsL n (endsL es)) (valL n (endsL es)) (List.replicate n 0) 0 (waitL n q d (valL n (endsL es)))) => settled_any base bp n q es d hS a w (by rw [cntD_nil]; exact h))
  have g0 := Blk.new w 24 #[.int .i64 n, .slice A es.length c]
  have B0 : Below w.heap.size w (w.alloc (.cells #[.int .i64 n, .slice A es.length c] 24)) := (Below.refl _ _).alloc (Nat.le_refl _) _
  have c0 := g0.cell 0
  have c1 := g0.cell 1
  clear hS hc hdl
  go_enter Tryz.func70, Tryz.ntmps70
  go_wp2_with fail
  refine (GV.out _ B0).mono ?_
  rintro e w1 ⟨bp, a, rfl, hP, hb1⟩
  have hB1 := B0.trans (hb1.mono B0.size)
  have HL := Lib.hid (fun k hk => hP.lt (k := k) hk)
  have SS := Lib.hid (ST.out _ bp a w1 hP)
  clear g0 c0 c1 hP
  go_wp2_with fail
  refine (SS.out).mono ?_
  rintro e w2 ⟨ho, r, hr, rfl, hp⟩
  have hB2 : Below w.heap.size w w2 := hB1.trans (ho.below (fun k hk hp => by have := (HL.out k hp).1; have := B0.size; omega) hB1.size)
  have HR := Lib.hid hr
  rcases r with _ | ⟨x, s⟩
  · have HE : Hid ((stabOut q none).2.2 = 12) := rfl
    clear hp
    simp only [stabOut]
    go_wp2
    go_ret3
    exact ⟨none, none, 0, none, 0, HR.out, rfl, Reads.nil_, Reads.nil_, hB2⟩
  · obtain ⟨total, ws, hP2⟩ := hp x s rfl
    clear hp
    have HP2 := Lib.hid hP2
    have e0 := hP2.c0
    have e4 := hP2.c4
    have hxl := Lib.hid hP2.dl
    have hsl := Lib.hid hP2.fl
    clear hP2
    by_cases hbig : 1048576 < x.getD q 0
    · have hst : stabOut q (some (x, s)) = ([], [], 11) := by unfold stabOut; dsimp only; rw [if_pos hbig]
      have HST := Lib.hid hst
      rw [hst]
      clear hst hbig
      go_wp2
      go_ret3
      exact ⟨_, none, 0, none, 0, HR.out, by rw [HST.out]; rfl, by rw [HST.out]; exact Reads.nil_, by rw [HST.out]; exact Reads.nil_, hB2⟩
    · have hst : stabOut q (some (x, s)) = (x, s, 0) := by unfold stabOut; dsimp only; rw [if_neg hbig]
      have HST := Lib.hid hst
      rw [hst]
      clear hst hbig
      go_wp2_with fail
      go_quiet (fail)
      go_wp2
      go_ret3
      have P3 := HP2.out.drewN nq
      exact ⟨_, some ⟨a.bd, 0, none⟩, a.cd, some ⟨a.bf, 0, none⟩, n, HR.out, by rw [HST.out, hxl.out, hsl.out]; rfl, by rw [HST.out, hxl.out]; exact P3.dreads, by rw [HST.out, hsl.out]; exact P3.freads, ⟨hB2.os, hB2.tape, hB2.output, hB2.size, hB2.block⟩⟩
end Go.Proofs.YtplgbapbgcipdaaGreat

/-! ref08.Valence, ref19.Waiting, ref19.Calm. -/
namespace Go.Proofs.YtplgbapbgcipdaaGreat
open Go.RowKit

theorem valS_bd {N : Int} {es : List E3} (hok : ∀ e ∈ es, okE N e) (v k : Nat) : 0 ≤ sumTo (fun w => tt es v w) k ∧ sumTo (fun w => tt es v w) k ≤ 50 * k := by
  induction k with
  | zero => simp [sumTo]
  | succ k ih =>
    have := tt_bd hok v k
    rw [sumTo]
    omega
set_option maxRecDepth 100000 in
set_option maxHeartbeats 4000000 in
theorem val08_any (n : Nat) (A : Option Addr) (c : Nat) (es : List E3) (hlen : es.length ≤ 10000) (hG : RightG n es) (v : Nat) (w : World) (h : Reads w w.heap.size 3 A es.length (edgeCells es)) :
    Calls Tryz.prog 18 #[.agg #[.int .i64 n, .slice A es.length c], .int .i64 v] w fun e w' => e = .returned (.int .i64 (valE es v)) ∧ Below w.heap.size w w' := by
  have HSB := Lib.hid (fun k => valS_bd hG.ok v k)
  have HVS : Hid (valE es v = sumTo (fun w => tt es v w) n) := valE_valS hG
  have hn12 : n ≤ 12 := by have := hG.hi; omega
  have HOK := Lib.hid hG.ok
  have g0 := Blk.new w 24 #[.int .i64 n, .slice A es.length c]
  have B0 : Below w.heap.size w (w.alloc (.cells #[.int .i64 n, .slice A es.length c] 24)) := (Below.refl _ _).alloc (Nat.le_refl _) _
  clear hG
  go_enter Tryz.func18, Tryz.ntmps18
  go_wp2_with fail
  go_loopw [5, 6] (fun s i wl => ∃ (k : Nat), i = .int .i64 k ∧ k ≤ n ∧ s = .int .i64 (sumTo (fun w => tt es v w) k) ∧ Hid (Below w.heap.size w wl) ∧ Hid (Blk wl w.heap.size 24 #[.int .i64 n, .slice A es.length c])) (fun _ i _ => n - (intOf i).toNat)
  case atStart => exact ⟨0, rfl, by omega, rfl, B0, g0⟩
  case round =>
    obtain ⟨k, rfl, hk, rfl, HB, HGr⟩ := hrel
    clear g0 B0
    have c0 := HGr.out.cell 0
    have c1 := HGr.out.cell 1
    have hs := HSB.out k
    obtain ⟨x, hx⟩ : ∃ x, sumTo (fun w => tt es v w) k = x := ⟨_, rfl⟩
    have hxs : sumTo (fun w => tt es v w) (k + 1) = x + tt es v k := by rw [sumTo, hx]
    rw [hx] at hs ⊢
    clear hx
    by_cases hlt : k < n
    · have hi : (k : Int) < (n : Int) := by omega
      by_cases hkv : k = v
      · have hne : ((k : Int) != (v : Int)) = false := by simp [hkv]
        have ht : tt es v k = 0 := by unfold tt; rw [if_pos hkv.symm]
        rw [ht, Int.add_zero] at hxs
        have HX := Lib.hid hxs
        clear hxs ht
        go_wp2
        go_roundw
        case rel => exact ⟨k + 1, by go_num, by omega, by rw [HX.out], HB, HGr⟩
        case measure => simp [intOf]; omega
      · have hne : ((k : Int) != (v : Int)) = true := by rw [bne_iff_ne]; omega
        have ht : tt es v k = btw es k v := by rw [tt_comm]; unfold tt; rw [if_neg hkv]
        have hbd := btw_bd HOK.out (k : Int) (v : Int)
        have BC := Lib.hid (between_any n A c es (by omega) k v wr ((h.below HB.out).more HB.out.size))
        rw [ht] at hxs
        obtain ⟨y, hy⟩ : ∃ y, btw es k v = y := ⟨_, rfl⟩
        rw [hy] at hxs hbd BC
        have hw1 : IntKind.i64.wrap (x + y) = x + y := IntWalk.i64_in _ (by omega)
        have HX := Lib.hid hxs
        clear hxs ht hy
        go_wp2_with fail
        refine (BC.out).mono ?_
        rintro e w5 ⟨rfl, b5⟩
        have B5 := Lib.hid (HB.out.trans (b5.mono HB.out.size))
        have G5 := Lib.hid (HGr.out.next b5)
        go_wp2
        go_roundw
        case rel => exact ⟨k + 1, by go_num, by omega, by rw [HX.out], B5, G5⟩
        case measure => simp [intOf]; omega
    · obtain rfl : k = n := by omega
      have hB := HB.out
      have HVX : Hid (valE es v = x) := by rw [Hid, HVS.out]; rw [sumTo] at hxs; omega
      go_wp2
      go_ret
      exact ⟨by rw [HVX.out]; rfl, hB⟩

end Go.Proofs.YtplgbapbgcipdaaGreat

