/-
  burning.Verify.
-/
import Derived.Test.YthbannpmfdflaaaVerP
import Derived.Test.YthbannpmfdflaaaKindle
import Derived.Test.YthbannpmfdflaaaConf
import Derived.Test.YthbannpmfdflaaaLegal
import Derived.BigRegion
namespace Go.Proofs.Ythbannpmfdflaaa
open Go.RowKit

theorem ret_two {K : Ending → World → Prop} {b b' : Bool} {x x' : Int} {w : World} (h : K (.returned (.tuple #[.bool b, .int .i64 x])) w) (hb : b = b') (hx : x = x') : K (.returned (.tuple #[.bool b', .int .i64 x'])) w := by subst hb hx; exact h
set_option maxRecDepth 100000 in
set_option maxHeartbeats 4000000 in
theorem verify_any (n : Int) (A : Option Addr) (c : Nat) (es : List E3) (hn : es.length ≤ 1048576) (q : Int) (B : Option Addr) (d : Nat) (cs : List Int) (hm : cs.length ≤ 1048000) (D : Option Addr) (f : Nat) (xs : List Int) (hf : xs.length ≤ f) (hs : xs.length ≤ 1048576) (w : World)
    (h : Reads w w.heap.size 3 A es.length (edgeCells es)) (h' : Reads w w.heap.size 1 B cs.length (ints cs)) (h'' : Reads w w.heap.size 1 D xs.length (ints xs)) :
    Calls Try.prog 29 #[.agg #[.int .i64 n, .slice A es.length c], .int .i64 q, .slice B cs.length d, .slice D xs.length f] w fun e w' => e = .returned (.tuple #[.bool (verB n es q cs xs), .int .i64 (verErr n es q cs xs)]) ∧ Below w.heap.size w w' := by
  have g0 := Blk.new w 24 #[.int .i64 n, .slice A es.length c]
  have hb0 : Below w.heap.size w (w.alloc (.cells #[.int .i64 n, .slice A es.length c] 24)) := (Below.refl _ _).alloc (Nat.le_refl _) _
  have hbc := bcheck_any n A c es hn q B d cs (by omega)
  by_cases hz : burnErr n es q cs = 0
  · rw [hz] at hbc
    have BC := Lib.hid hbc
    have hE : verErr n es q cs xs = renErr n xs := by unfold verErr; rw [if_neg (by omega)]
    obtain ⟨hG, _, hq0, hqn, hlen, hbd, _⟩ := conf_zero (burn_zero hz).1
    have hhi := hG.hi
    have hlo := hG.lo
    obtain ⟨m, rfl⟩ := Int.eq_ofNat_of_zero_le (show 0 ≤ n by omega)
    obtain ⟨p, rfl⟩ := Int.eq_ofNat_of_zero_le hq0
    have KC := Lib.hid (kindled_any m A c es hn hG p (by omega) B d cs hm)
    have HG := Lib.hid hG
    have HCL := Lib.hid (show cs.length = m by omega)
    have HE := Lib.hid hE
    have hpm : p < m := by omega
    have hm1 : 1 ≤ m := by omega
    have hm12 : m ≤ 12 := by omega
    have HV : Hid (verB m es p cs xs = if renErr m xs = 0 then decide (xs.getD 0 0 = p) && provL es cs (xs.map Int.toNat) else false) := by rw [Hid]; unfold verB; rw [hE]
    rw [HE.out]
    clear hz hbc hE hG hbd hlen hhi hlo hqn
    by_cases hl : xs.length = m
    · have HL := Lib.hid hl
      have hi0 : ((xs.length : Int) != (m : Int)) = false := by simp; omega
      have hR0 : Hid (renErr m xs = renFrom m (xs.take 0) (xs.drop 0)) := by rw [Hid]; unfold renErr; rw [if_neg (by omega)]; rfl
      have h0 : 0 < xs.length := by omega
      obtain ⟨b, off, rfl, hbk, hcells⟩ := h''.2 h0
      clear hl hcells
      go_enter Try.func29, Try.ntmps29
      go_wp2_with fail
      refine (BC.out _ ((h.alloc (Nat.le_refl _) _).more (by simp)) ((h'.alloc (Nat.le_refl _) _).more (by simp))).mono ?_
      rintro e w1 ⟨rfl, hb1⟩
      have g1 := g0.next hb1
      have c0 := g1.cell 0
      have hB1 := hb0.trans (hb1.mono hb0.size)
      clear g0 hb0 hb1
      go_wp2
      go_loopw [11, 12, 30] (fun t11 t12 i wr => ∃ k : Nat, k ≤ xs.length ∧ i = .int .i64 k ∧ Hid (renErr m xs = renFrom m (xs.take k) (xs.drop k)) ∧ Below w.heap.size w wr ∧ Blk wr w.heap.size 24 #[.int .i64 m, .slice A es.length c]) (fun _ _ i _ => xs.length - (intOf i).toNat)
      case atStart => exact ⟨0, by omega, rfl, hR0, hB1, g1⟩
      case round =>
        obtain ⟨k, hk, rfl, HS, hbel, g2⟩ := hrel
        clear hR0 hB1 g1 c0
        have hsz := hbel.size
        have c0 := g2.cell 0
        by_cases hlt : k < xs.length
        · obtain ⟨x, hx⟩ := get_of_lt hlt
          have hd := renFrom_at (n := m) hx
          rw [← HS.out] at hd
          obtain ⟨b', off', hA, _, hcell⟩ := (h''.below hbel).at_ (ints_at hx)
          injection hA with hA; injection hA with e1 e2; subst e1 e2
          have hi : (k : Int) < (xs.length : Int) := by omega
          have hkf : (k : Int) ≤ (f : Int) := by omega
          have hrt := ((h''.below hbel).more hsz).upto k hlt
          by_cases h1 : x < 0
          · rw [if_pos (.inl h1)] at hd
            have HD := Lib.hid hd
            clear hd hx
            go_wp2
            go_ret2
            exact ⟨by rw [HV.out, HD.out]; rfl, hbel⟩
          · by_cases h2 : (m : Int) ≤ x
            · rw [if_pos (.inr h2)] at hd
              have HD := Lib.hid hd
              clear hd hx
              go_wp2
              go_ret2
              exact ⟨by rw [HV.out, HD.out]; rfl, hbel⟩
            · rw [if_neg (by omega)] at hd
              have CC := contains_any (some ⟨b, off, none⟩) f (xs.take k) (by rw [List.length_take]; omega) x wr (by rw [List.length_take, Nat.min_eq_left (by omega)]; exact hrt)
              rw [List.length_take, Nat.min_eq_left (by omega)] at CC
              by_cases h3 : x ∈ xs.take k
              · rw [if_pos h3] at hd
                rw [decide_eq_true h3] at CC
                have HD := Lib.hid hd
                have CC := Lib.hid CC
                clear hd hx h3 hrt
                go_wp2_with fail
                refine (CC.out).mono ?_
                rintro e w3 ⟨rfl, rfl⟩
                go_wp2
                go_ret2
                exact ⟨by rw [HV.out, HD.out]; rfl, hbel⟩
              · rw [if_neg h3] at hd
                rw [decide_eq_false h3] at CC
                have HD := Lib.hid hd
                have CC := Lib.hid CC
                clear hd hx h3 hrt
                go_wp2_with fail
                refine (CC.out).mono ?_
                rintro e w3 ⟨rfl, rfl⟩
                go_wp2
                go_roundw
                case rel => exact ⟨k + 1, by omega, by go_num, HD.out, hbel, g2⟩
                case measure => simp [intOf]; omega
        · obtain rfl : k = xs.length := by omega
          have hz0 : renErr m xs = 0 := by rw [HS.out, renFrom_end]
          obtain ⟨l, hl, hlo, hll⟩ := ren_nats hz0
          have HV2 : Hid (verB m es p cs xs = (decide (((l.getD 0 0 : Nat) : Int) = p) && provL es cs l)) := by rw [Hid, HV.out, if_pos hz0, hl, nats_toNat, natsI_getD]
          have HZ0 := Lib.hid hz0
          clear HV HS hz0
          have HLL := Lib.hid hl
          have HLO := Lib.hid hlo
          obtain ⟨x0, hx0⟩ := get_of_lt (xs := l) (k := 0) (by omega)
          have hxg : l.getD 0 0 = x0 := by rw [List.getD_eq_getElem?_getD, hx0]; rfl
          rw [hxg] at HV2
          obtain ⟨b', off', hA, _, hcell⟩ := (h''.below hbel).at_ (k := 0) (ints_at (show xs[0]? = some (x0 : Int) by rw [hl]; exact natsI_at hx0))
          injection hA with hA; injection hA with e1 e2; subst e1 e2
          have h00 : (0 : Int) < (xs.length : Int) := by omega
          have h1f : (1 : Int) ≤ (xs.length : Int) := by omega
          have h2f : (xs.length : Int) ≤ (f : Int) := by omega
          have c1 := g2.cell 1
          clear hl hlo
          go_wp2_with fail
          refine (KC.out _ ((h.below hbel).more hsz) ((h'.below hbel).more hsz)).mono ?_
          rintro e w3 ⟨g, A', c', rfl, gw, ow, hg, hb3⟩
          have hB3 := hbel.trans (hb3.mono hsz)
          have hcell3 := (hb3.cell (p := ⟨b, off + 0, none⟩) (by show b < wr.heap.size; omega)).trans hcell
          clear g2 c0 c1 hcell
          rw [Nat.add_zero] at hcell3
          by_cases hxp : x0 = p
          · have HV3 : Hid (verB m es p cs xs = provFrom es cs (l.take 1) (l.drop 1)) := by rw [Hid, HV2.out, hxp, decide_eq_true rfl, Bool.true_and]; rfl
            have hxb : ((x0 : Int) != (p : Int)) = false := by simp; omega
            have gw0 : Wood w3 g m es (.slice A' cs.length c') (l.take 1) := by
              have : l.take 1 = [p] := by rw [show (1 : Nat) = 0 + 1 from rfl, take_snoc hx0, hxp]; rfl
              rw [this]; exact gw
            have hls : xs.length - 1 + 1 = xs.length := by omega
            by_cases hf1 : f = 1
            · subst hf1
              have HV4 : Hid (verB m es p cs xs = true) := by
                rw [Hid, HV3.out, List.drop_eq_nil_of_le (by have := HL.out; omega)]; rfl
              have hx1 : xs.length = 1 := by omega
              clear HV2 HV3 gw hxp hx0 hxg
              go_wp2
              go_loopw [15, 63] (fun _ i wr => i = .int .i64 0 ∧ wr = w3) (fun _ _ _ => 0)
              case atStart => exact ⟨rfl, rfl⟩
              case round =>
                obtain ⟨rfl, rfl⟩ := hrel
                go_wp2
                go_ret2
                exact ⟨by rw [HV4.out, HZ0.out]; rfl, hB3⟩
            · clear HV2 gw hxp hx0 hxg
              go_wp2
              have : ∃ z, (xs.length - 1) = z := ⟨_, rfl⟩
              obtain ⟨N1, hN1⟩ := this
              rw [hN1]
              go_loopw [15, 63] (fun t15 i wr => ∃ j : Nat, j ≤ N1 ∧ i = .int .i64 j ∧ Hid (verB m es p cs xs = provFrom es cs (l.take (j + 1)) (l.drop (j + 1))) ∧ Below w.heap.size w wr ∧ Wood wr g m es (.slice A' cs.length c') (l.take (j + 1)) ∧ OwnI wr w.heap.size A' c' cs) (fun _ i _ => N1 - (intOf i).toNat)
              case atStart => exact ⟨0, by omega, rfl, HV3, hB3, gw0, ow.mono (by omega)⟩
              case round =>
                obtain ⟨j, hj, rfl, HP, hbl, gwj, owj⟩ := hrel
                have hsl := hbl.size
                by_cases hlt2 : j < N1
                · obtain ⟨v, hv⟩ := get_of_lt (xs := l) (k := j + 1) (by have := HL.out; omega)
                  have hvm : v < m := HLO.out.2 v (List.mem_of_getElem? hv)
                  have htk := take_snoc hv
                  have hok1 : LOk m (l.take (j + 1)) := ⟨HLO.out.1.sublist (List.take_sublist _ _), fun u hu => HLO.out.2 u (List.mem_of_mem_take hu)⟩
                  have hnot : v ∉ l.take (j + 1) := by
                    have h1 := HLO.out.1.sublist (List.take_sublist (j + 1 + 1) l)
                    rw [htk, List.nodup_append] at h1
                    exact fun hc => h1.2.2 v hc v (by simp) rfl
                  have CA := catches_any g m hm12 es m HG.out.ok A' c' cs HCL.out (l.take (j + 1)) hok1 v hvm wr gwj owj.reads
                  rw [cat_fresh hnot] at CA
                  have hP := HP.out
                  rw [provFrom_at hv] at hP
                  obtain ⟨b', off', hA, _, hce⟩ := (h''.below hbl).at_ (k := j + 1) (ints_at (show xs[j + 1]? = some (v : Int) by rw [HLL.out]; exact natsI_at hv))
                  injection hA with hA; injection hA with e1 e2; subst e1 e2
                  rw [show off + (j + 1) = off + 1 + j from by omega] at hce
                  have hji : (j : Int) < (N1 : Int) := by omega
                  have hv12 : (v : Int) < 12 := by omega
                  have hbv := gwj.burnt_ (u := v) (by omega)
                  have hfv := Blk.frozen gwj (146 + v)
                  cases hdc : decide (cs.getD v 0 < joinsN es v (l.take (j + 1)))
                  · rw [hdc] at CA hP
                    have CA := Lib.hid CA
                    have HP2 : Hid (verB m es p cs xs = false) := hP
                    clear hdc hP hv htk hok1 hnot
                    go_wp2_with fail
                    refine (CA.out).mono ?_
                    rintro e w5 ⟨rfl, m5, rfl⟩
                    go_wp2
                    go_ret2
                    exact ⟨by rw [HP2.out, HZ0.out]; rfl, below_drewN hbl _⟩
                  · rw [hdc, Bool.true_and] at hP
                    rw [hdc] at CA
                    have CA := Lib.hid CA
                    have HP2 := Lib.hid hP
                    have HTK := Lib.hid htk
                    clear hdc hP hv htk hok1 hnot
                    go_wp2_with fail
                    refine (CA.out).mono ?_
                    rintro e w5 ⟨rfl, m5, rfl⟩
                    go_wp2
                    go_roundw
                    case rel =>
                      refine ⟨j + 1, by omega, by go_num, HP2.out, (below_drewN hbl m5).setCell (p := ⟨g, 146 + v, none⟩) (by show w.heap.size ≤ g; omega) _, ?_, (OwnI.drewN owj m5).set_blk (Blk.drewN gwj m5) (by decide) _ _⟩
                      rw [HTK.out]
                      exact (Wood.burn (Blk.drewN gwj m5) (by omega))
                    case measure => simp [intOf]; omega
                · obtain rfl : j = N1 := by omega
                  have HP2 : Hid (verB m es p cs xs = true) := by
                    rw [Hid, HP.out, List.drop_eq_nil_of_le (by have := HL.out; omega)]; rfl
                  go_wp2
                  go_ret2
                  exact ⟨by rw [HP2.out, HZ0.out]; rfl, hbl⟩
          · have HV3 : Hid (verB m es p cs xs = false) := by rw [Hid, HV2.out, decide_eq_false (by omega)]; rfl
            have hxb : ((x0 : Int) != (p : Int)) = true := by simp; omega
            clear HV2 gw
            go_wp2
            go_ret2
            exact ⟨by rw [HV3.out, HZ0.out]; rfl, hB3⟩
    · have hi0 : ((xs.length : Int) != (m : Int)) = true := by simp; omega
      have hR : renErr m xs = 8 := by unfold renErr; rw [if_pos (by omega)]
      have HV2 : Hid (verB m es p cs xs = false) := by rw [Hid, HV.out, hR]; rfl
      rw [hR]
      clear hR hl
      go_enter Try.func29, Try.ntmps29
      go_wp2_with fail
      refine (BC.out _ ((h.alloc (Nat.le_refl _) _).more (by simp)) ((h'.alloc (Nat.le_refl _) _).more (by simp))).mono ?_
      rintro e w1 ⟨rfl, hb1⟩
      have g1 := g0.next hb1
      have c0 := g1.cell 0
      have hB1 := hb0.trans (hb1.mono hb0.size)
      go_wp2
      go_ret2
      exact ⟨by rw [HV2.out]; rfl, hB1⟩
  · have hE : verErr n es q cs xs = burnErr n es q cs := by unfold verErr; rw [if_pos hz]
    have HV : Hid (verB n es q cs xs = false) := by rw [Hid]; unfold verB; rw [hE, if_neg hz]
    rw [hE]
    obtain ⟨z, hzz⟩ : ∃ z, burnErr n es q cs = z := ⟨_, rfl⟩
    rw [hzz] at hbc hz ⊢
    have hb : (z == 0) = false := by simpa using hz
    have BC := Lib.hid hbc
    clear hz hE hbc hzz
    go_enter Try.func29, Try.ntmps29
    go_wp2_with fail
    refine (BC.out _ ((h.alloc (Nat.le_refl _) _).more (by simp)) ((h'.alloc (Nat.le_refl _) _).more (by simp))).mono ?_
    rintro e w1 ⟨rfl, hb1⟩
    have hB1 := hb0.trans (hb1.mono hb0.size)
    go_wp2
    go_ret2
    exact ⟨by rw [HV.out]; rfl, hB1⟩
end Go.Proofs.Ythbannpmfdflaaa
