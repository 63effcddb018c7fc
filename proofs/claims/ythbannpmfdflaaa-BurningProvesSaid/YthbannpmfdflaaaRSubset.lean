/-
  ref08.Subset; ref23.Blocks.
-/
import Derived.Test.YthbannpmfdflaaaLegal
import Derived.Test.YthbannpmfdflaaaGraph2
import Derived.Test.YthbannpmfdflaaaRBlk
import Derived.Test.YthbannpmfdflaaaRConf2
import Derived.Test.YthbannpmfdflaaaBlocks
import Derived.Deep.RegionHeld3
import Derived.Deep.QuietTactic
import Derived.BigQuiet
namespace Go.Proofs.Ythbannpmfdflaaa
open Go.RowKit

set_option maxRecDepth 100000 in
set_option maxHeartbeats 2000000 in
theorem rsubset_any (n : Int) (A : Option Addr) (m c : Nat) (B : Option Addr) (d : Nat) (xs : List Int) (hm : xs.length ≤ 1048576) (w : World) (h' : Reads w w.heap.size 1 B xs.length (ints xs)) :
    Calls Try.prog 79 #[.agg #[.int .i64 n, .slice A m c], .slice B xs.length d] w fun e w' => e = .returned (.int .i64 (setErr n xs)) ∧ Below w.heap.size w w' := by
  have g0 := Blk.new w 24 #[.int .i64 n, .slice A m c]
  have VC : ∀ (v : Int) (w : World), Calls Try.prog 129 #[.agg #[.int .i64 n, .slice A m c], .int .i64 v] w fun e w' => e = .returned (.bool (vertB n v)) ∧ Below w.heap.size w w' := fun v w =>
    (rvertex_any n v A m c w).mono fun e w' ⟨he, hw⟩ => ⟨he, by rw [← hw]; exact (Below.refl _ _).alloc (Nat.le_refl _) _⟩
  obtain ⟨r, hr⟩ : ∃ r, setErr n xs = r := ⟨_, rfl⟩
  rw [hr]
  have HS0 : Hid (r = setFrom n (prevI xs 0) (xs.drop 0)) := hr.symm
  clear hr
  go_enter Try.func79, Try.ntmps79
  go_wp2
  go_loopw [5] (fun i wr => ∃ k : Nat, k ≤ xs.length ∧ i = .int .i64 k ∧ Hid (r = setFrom n (prevI xs k) (xs.drop k)) ∧ Below w.heap.size w wr ∧ Blk wr w.heap.size 24 #[.int .i64 n, .slice A m c]) (fun i _ => xs.length - (intOf i).toNat)
  case atStart => exact ⟨0, by omega, rfl, HS0, (Below.refl _ _).alloc (Nat.le_refl _) _, g0⟩
  case round =>
    obtain ⟨k, hk, rfl, HS, hbel, g1⟩ := hrel
    clear g0 HS0
    have hsz := hbel.size
    have c0 := g1.cell 0
    have c1 := g1.cell 1
    have hgl := g1.lt
    by_cases hlt : k < xs.length
    · obtain ⟨x, hx⟩ := get_of_lt hlt
      obtain ⟨b, off, rfl, hb', hcell⟩ := (h'.below hbel).at_ (ints_at hx)
      have hi : (k : Int) < (xs.length : Int) := by omega
      have hd := setFrom_drop (n := n) hx
      rw [← HS.out] at hd
      have VX := VC x
      cases hv : vertB n x
      · rw [hv] at hd VX
        have HD := Lib.hid hd
        have VX := Lib.hid VX
        clear hd hx hv VC
        go_wp2
        go_region_held3 (fun W => W.cell? ⟨w.heap.size, 0, none⟩ = some (.int .i64 n) ∧ W.cell? ⟨w.heap.size, 1, none⟩ = some (.slice A m c) ∧ W.cell? ⟨b, off + k, none⟩ = some (.int .i64 x)) (go_keep)
          (first | (go_at_call 129; refine (VX.out _).mono ?_; rintro e w5 ⟨rfl, hb5⟩
                    have k0 := (hb5.cell (p := ⟨w.heap.size, 0, none⟩) (by exact hgl)).trans c0
                    have k1 := (hb5.cell (p := ⟨w.heap.size, 1, none⟩) (by exact hgl)).trans c1
                    have k2 := (hb5.cell (p := ⟨b, off + k, none⟩) (by show b < wr.heap.size; omega)).trans hcell))
        all_goals (
          have hb5' : Below wr.heap.size wr w5 := (Below.refl _ _).drew.trans hb5
          go_wp2
          go_ret
          exact ⟨ret_int (by rw [HD.out]; rfl), hbel.trans (hb5'.mono hsz)⟩)
      · rw [hv] at hd VX
        have VX := Lib.hid VX
        simp only [Bool.true_eq_false, if_false] at hd
        by_cases hk0 : k = 0
        · subst hk0
          have hd2 : r = setFrom n (prevI xs (0 + 1)) (xs.drop (0 + 1)) := hd
          have HD := Lib.hid hd2
          rw [Nat.add_zero] at hcell
          clear hd hd2 hx hv VC
          go_wp2
          go_region_held3 (fun W => W.cell? ⟨w.heap.size, 0, none⟩ = some (.int .i64 n) ∧ W.cell? ⟨w.heap.size, 1, none⟩ = some (.slice A m c) ∧ W.cell? ⟨b, off, none⟩ = some (.int .i64 x)) (go_keep)
            (first | (go_at_call 129; refine (VX.out _).mono ?_; rintro e w5 ⟨rfl, hb5⟩
                      have k0 := (hb5.cell (p := ⟨w.heap.size, 0, none⟩) (by exact hgl)).trans c0
                      have k1 := (hb5.cell (p := ⟨w.heap.size, 1, none⟩) (by exact hgl)).trans c1
                      have k2 := (hb5.cell (p := ⟨b, off, none⟩) (by show b < wr.heap.size; omega)).trans hcell))
          all_goals (
            have hb5' : Below wr.heap.size wr w5 := (Below.refl _ _).drew.trans hb5
            have hB5 := hbel.trans (hb5'.mono hsz)
            have g5 := g1.next hb5'
            clear g1 hbel c0 c1 k0 k1 hcell
            go_wp2
            go_quiet (fail)
            go_wp2
            go_roundw
            case rel => exact ⟨1, by omega, by go_num, HD.out, below_drewN hB5 _, g5.drewN _⟩
            case measure => simp [intOf]; omega)
        · obtain ⟨j, hj⟩ : ∃ j, j + 1 = k := ⟨k - 1, by omega⟩
          obtain ⟨y, hy⟩ := get_of_lt (xs := xs) (k := j) (by omega)
          obtain ⟨b2, off2, hA2, hb2, hcy⟩ := (h'.below hbel).at_ (ints_at hy)
          injection hA2 with hA2; injection hA2 with e1 e2; subst e1 e2
          have hpk : prevI xs k = some y := by simp [prevI, ← hj, hy]
          rw [hpk] at hd
          dsimp only at hd
          have hk2 : (k : Int) - 1 = (j : Int) := by omega
          have hkw : IntKind.i64.wrap ((k : Int) - 1) = (j : Int) := by rw [hk2]; exact IntWalk.i64_in _ (by omega)
          have hk3 : (j : Int) < (xs.length : Int) := by omega
          have hk4 : (0 : Int) < (k : Int) := by omega
          have hk5 : 0 < k := by omega
          have hk6 : decide (0 < k) = true := decide_eq_true hk5
          by_cases hxy : x ≤ y
          · rw [if_pos hxy] at hd
            have HD := Lib.hid hd
            have HJ := Lib.hid hj
            clear hd hx hy hpk hj hv VC
            go_wp2
            go_region_held3 (fun W => W.cell? ⟨w.heap.size, 0, none⟩ = some (.int .i64 n) ∧ W.cell? ⟨w.heap.size, 1, none⟩ = some (.slice A m c) ∧ W.cell? ⟨b, off + k, none⟩ = some (.int .i64 x)) (go_keep)
              (first | (go_at_call 129; refine (VX.out _).mono ?_; rintro e w5 ⟨rfl, hb5⟩
                        have k0 := (hb5.cell (p := ⟨w.heap.size, 0, none⟩) (by exact hgl)).trans c0
                        have k1 := (hb5.cell (p := ⟨w.heap.size, 1, none⟩) (by exact hgl)).trans c1
                        have k2 := (hb5.cell (p := ⟨b, off + k, none⟩) (by show b < wr.heap.size; omega)).trans hcell
                        have k3 := (hb5.cell (p := ⟨b, off + j, none⟩) (by show b < wr.heap.size; omega)).trans hcy))
            all_goals (
              have hb5' : Below wr.heap.size wr w5 := (Below.refl _ _).drew.trans hb5
              have hB5 := hbel.trans (hb5'.mono hsz)
              clear g1 hbel c0 c1 k0 k1 hcell hcy
              go_wp2
              go_quiet (fail)
              go_wp2
              go_ret
              exact ⟨ret_int HD.out.symm, below_drewN hB5 _⟩)
          · rw [if_neg hxy] at hd
            have HD := Lib.hid hd
            have HJ := Lib.hid hj
            clear hd hx hy hpk hj hv VC
            go_wp2
            go_region_held3 (fun W => W.cell? ⟨w.heap.size, 0, none⟩ = some (.int .i64 n) ∧ W.cell? ⟨w.heap.size, 1, none⟩ = some (.slice A m c) ∧ W.cell? ⟨b, off + k, none⟩ = some (.int .i64 x)) (go_keep)
              (first | (go_at_call 129; refine (VX.out _).mono ?_; rintro e w5 ⟨rfl, hb5⟩
                        have k0 := (hb5.cell (p := ⟨w.heap.size, 0, none⟩) (by exact hgl)).trans c0
                        have k1 := (hb5.cell (p := ⟨w.heap.size, 1, none⟩) (by exact hgl)).trans c1
                        have k2 := (hb5.cell (p := ⟨b, off + k, none⟩) (by show b < wr.heap.size; omega)).trans hcell
                        have k3 := (hb5.cell (p := ⟨b, off + j, none⟩) (by show b < wr.heap.size; omega)).trans hcy))
            all_goals (
              have hb5' : Below wr.heap.size wr w5 := (Below.refl _ _).drew.trans hb5
              have hB5 := hbel.trans (hb5'.mono hsz)
              have g5 := g1.next hb5'
              clear g1 hbel c0 c1 k0 k1 hcell hcy
              go_wp2
              go_quiet (fail)
              go_wp2
              go_roundw
              case rel => exact ⟨k + 1, by omega, by go_num, HD.out, below_drewN hB5 _, g5.drewN _⟩
              case measure => simp [intOf]; omega)
    · obtain rfl : k = xs.length := by omega
      go_wp2
      go_ret
      exact ⟨ret_int (by rw [HS.out, List.drop_length]; rfl), hbel⟩

theorem blk_err {n : Int} {es : List E3} {q : Int} {cs S : List Int} (hz : burnErr n es q cs = 0) : blkErr n es q cs S = setErr n S := by
  unfold blkErr subErr
  rw [if_neg (by omega), if_neg (fun hc => hc (burn_parts hz).1)]
set_option maxRecDepth 100000 in
set_option maxHeartbeats 2000000 in
theorem rblocks_any (n : Int) (A : Option Addr) (c : Nat) (es : List E3) (hn : es.length ≤ 1048576) (q : Int) (B : Option Addr) (d : Nat) (cs : List Int) (hm : cs.length ≤ 1048576) (D : Option Addr) (f : Nat) (S : List Int) (hs : S.length ≤ 1000) (w : World)
    (h : Reads w w.heap.size 3 A es.length (edgeCells es)) (h' : Reads w w.heap.size 1 B cs.length (ints cs)) (h'' : Reads w w.heap.size 1 D S.length (ints S)) :
    Calls Try.prog 31 #[.agg #[.int .i64 n, .slice A es.length c], .int .i64 q, .slice B cs.length d, .slice D S.length f] w fun e w' => e = .returned (.tuple #[.bool (blkB n es q cs S), .int .i64 (blkErr n es q cs S)]) ∧ Below w.heap.size w w' := by
  have g0 := Blk.new w 24 #[.int .i64 n, .slice A es.length c]
  have hb0 : Below w.heap.size w (w.alloc (.cells #[.int .i64 n, .slice A es.length c] 24)) := (Below.refl _ _).alloc (Nat.le_refl _) _
  have hbc := rbcheck_any n A c es hn q B d cs (by omega)
  by_cases hz : burnErr n es q cs = 0
  · rw [hz] at hbc
    have BC := Lib.hid hbc
    have hE : blkErr n es q cs S = setErr n S := blk_err hz
    obtain ⟨hG, _, hq0, hqn, hlen, hbd, _⟩ := conf_zero (burn_zero hz).1
    have hhi := hG.hi
    have hlo := hG.lo
    obtain ⟨m, rfl⟩ := Int.eq_ofNat_of_zero_le (show 0 ≤ n by omega)
    have RC := Lib.hid (fun w h => rsubset_any m A es.length c D f S (by omega) w h)
    by_cases hr : setErr m S = 0
    · have hV : blkB m es q cs S = (legB es cs S && !decide (q ∈ S)) := by unfold blkB; rw [hE, if_pos hr]
      have PC := Lib.hid (fun W r1 r2 r3 => rblocking_any m (by omega) A c es hn hG q B d cs (by omega) D f S hs (setFrom_zero hr) W r1 r2 r3)
      rw [hE, hV]
      rw [hr] at RC ⊢
      clear hz hE hbc hG hbd hr hV hlen
      go_enter Try.func31, Try.ntmps31
      go_wp2_with fail
      refine (BC.out _ ((h.alloc (Nat.le_refl _) _).more (by simp)) ((h'.alloc (Nat.le_refl _) _).more (by simp))).mono ?_
      rintro e w1 ⟨rfl, hb1⟩
      have g1 := g0.next hb1
      have c0 := g1.cell 0
      have c1 := g1.cell 1
      have hB1 := hb0.trans (hb1.mono hb0.size)
      go_wp2_with fail
      refine (RC.out _ ((h''.below hB1).more hB1.size)).mono ?_
      rintro e w2 ⟨rfl, hb2⟩
      have g2 := g1.next hb2
      have c0 := g2.cell 0
      have c1 := g2.cell 1
      have hB2 := hB1.trans (hb2.mono hB1.size)
      go_wp2_with fail
      refine (PC.out _ ((h.below hB2).more hB2.size) ((h'.below hB2).more hB2.size) ((h''.below hB2).more hB2.size)).mono ?_
      rintro e w3 ⟨rfl, hb3⟩
      go_wp2
      go_ret2
      exact ⟨rfl, hB2.trans (hb3.mono hB2.size)⟩
    · have HV : Hid (blkB m es q cs S = false) := by rw [Hid]; unfold blkB; rw [hE, if_neg hr]
      rw [hE]
      obtain ⟨z, hzz⟩ : ∃ z, setErr m S = z := ⟨_, rfl⟩
      rw [hzz] at RC hr ⊢
      have hb : (z != 0) = true := by simpa using hr
      clear hz hE hbc hG hbd hr hzz hlen
      go_enter Try.func31, Try.ntmps31
      go_wp2_with fail
      refine (BC.out _ ((h.alloc (Nat.le_refl _) _).more (by simp)) ((h'.alloc (Nat.le_refl _) _).more (by simp))).mono ?_
      rintro e w1 ⟨rfl, hb1⟩
      have g1 := g0.next hb1
      have c0 := g1.cell 0
      have c1 := g1.cell 1
      have hB1 := hb0.trans (hb1.mono hb0.size)
      go_wp2_with fail
      refine (RC.out _ ((h''.below hB1).more hB1.size)).mono ?_
      rintro e w2 ⟨rfl, hb2⟩
      go_wp2
      go_ret2
      exact ⟨by rw [HV.out]; rfl, hB1.trans (hb2.mono hB1.size)⟩
  · have hE : blkErr n es q cs S = burnErr n es q cs := by unfold blkErr; rw [if_pos hz]
    have HV : Hid (blkB n es q cs S = false) := by rw [Hid]; unfold blkB; rw [hE, if_neg hz]
    rw [hE]
    obtain ⟨z, hzz⟩ : ∃ z, burnErr n es q cs = z := ⟨_, rfl⟩
    rw [hzz] at hbc hz ⊢
    have hb : (z != 0) = true := by simpa using hz
    have BC := Lib.hid hbc
    clear hz hE hbc hzz
    go_enter Try.func31, Try.ntmps31
    go_wp2_with fail
    refine (BC.out _ ((h.alloc (Nat.le_refl _) _).more (by simp)) ((h'.alloc (Nat.le_refl _) _).more (by simp))).mono ?_
    rintro e w1 ⟨rfl, hb1⟩
    have hB1 := hb0.trans (hb1.mono hb0.size)
    go_wp2
    go_ret2
    exact ⟨by rw [HV.out]; rfl, hB1⟩
end Go.Proofs.Ythbannpmfdflaaa
