/-
  Texts of this claim, put together: DualP, Ver, Waves, Fire.
-/
import Derived.Test.YtdnoeaoelgehcaaGreatK29
import Derived.Test.YtdnoeaoelgehcaaGreatK13
import Derived.Test.YtdnoeaoelgehcaaGreatK31
import Derived.Test.YtdnoeaoelgehcaaGreatK33
import Derived.Test.YtdnoeaoelgehcaaGreatK32
import Derived.Test.YtdnoeaoelgehcaaGreatK30
import Derived.Test.YtdnoeaoelgehcaaGreatK12
import Derived.Test.YtdnoeaoelgehcaaGreatK11
import Derived.BigRegion
import Derived.Test.YtdnoeaoelgehcaaGreatK07
import Derived.Test.YtdnoeaoelgehcaaGreatK14
import Derived.Stop.RegionWithIn
/-! Plain: the dual of a stable configuration is superstable exactly if the configuration is recurrent; the same order proves both; the dual of the dual is the configuration. No program is in sight. -/
namespace Go.Proofs.YtdnoeaoelgehcaaGreat
open Go.RowKit

theorem cat_same {es : List E3} {c c' : List Int} {l : List Nat} {v : Nat} (h : v ∉ l → c.getD v 0 = c'.getD v 0) : catL es c l v = catL es c' l v := by
  unfold catL
  by_cases hm : v ∈ l
  · simp [hm]
  · rw [h hm]
theorem burnL_same {n q : Nat} {es : List E3} {c c' : List Int} (h : ∀ v, v < n → v ≠ q → c.getD v 0 = c'.getD v 0) : ∀ (k : Nat) (l : List Nat), q ∈ l → burnL es c n k l = burnL es c' n k l
  | 0, _, _ => rfl
  | k + 1, l, hq => by
    have hr : readyL es c n l = readyL es c' n l := List.filter_congr fun v hv => cat_same fun hm => h v (List.mem_range.1 hv) (fun e => hm (e ▸ hq))
    rw [burnL, burnL, hr]
    cases (readyL es c' n l).head? with
    | none => rfl
    | some v => exact burnL_same h k _ (by simp [hq])
theorem burnt_dual (n : Nat) (es : List E3) (cs : List Int) (q : Nat) : burntL es (dulL n es cs q) n q = recL n es cs q :=
  burnL_same (q := q) (fun v hv hvq => by rw [dulL_get es cs q hv, if_neg hvq, dualL_get es cs hv]) n [q] (by simp)

theorem prv_dual {n q : Nat} {es : List E3} (hG : RightG n es) (cs : List Int) : ∀ (r l : List Nat), LOk n (l ++ r) → q ∈ l → prvFrom es cs l r = provFrom es (dulL n es cs q) l r
  | [], _, _, _ => rfl
  | x :: r, l, h, hq => by
    have hxl : x ∉ l := fun hc => by
      have := h.1
      rw [List.nodup_append] at this
      exact this.2.2 x hc x (by simp) rfl
    have hxn : x < n := h.2 x (by simp)
    have hlo : LOk n l := ⟨(List.nodup_append.1 h.1).1, fun v hv => h.2 v (by simp [hv])⟩
    have h1 := cat_dual hG cs hlo hxn
    have h2 : catL es (dulL n es cs q) l x = catL es (dualL n es cs) l x := cat_same fun _ => by
      have hxq : x ≠ q := by rintro rfl; exact hxl hq
      rw [dulL_get es cs q hxn, if_neg hxq, dualL_get es cs hxn]
    have h3 : catchB es cs l x = decide ((dulL n es cs q).getD x 0 < joinsN es x l) := by
      rw [h1] at h2
      unfold catL at h2
      rw [decide_eq_false hxl, Bool.not_false, Bool.true_and, Bool.true_and] at h2
      exact h2.symm
    rw [prvFrom, provFrom, h3, prv_dual (q := q) hG cs r (l ++ [x]) (by simpa using h) (by simp [hq])]

section
variable {n q : Nat} {es : List E3} {cs : List Int}
theorem dul_err (hlen : es.length ≤ 10000) (hz : burnErr n es q cs = 0) (hs : stabTo es cs q n = true) : burnErr n es q (dulL n es cs q) = 0 := by
  obtain ⟨hG, _, _, hq, hl, hb, h0⟩ := conf_zero (burn_zero hz).1
  have hz0 := (burn_zero hz).2
  have hq : q < n := by omega
  have hl : cs.length = n := by omega
  have hst := stabTo_iff.1 hs
  have hget : ∀ v, v < n → 0 ≤ (dulL n es cs q).getD v 0 ∧ (dulL n es cs q).getD v 0 ≤ 1048576 := by
    intro v hv
    rw [dulL_get es cs q hv]
    by_cases hvq : v = q
    · rw [if_pos hvq]; omega
    · rw [if_neg hvq]
      have h1 := hst v hv hvq
      have h2 := h0 v (by omega) (by omega)
      have h3 := valE_bd hG.ok v
      omega
  refine burn_zero_of hz (by rw [dulL_length]) (fun x hx => ?_) (fun v => ?_) ?_
  · obtain ⟨i, hi⟩ := List.getElem?_of_mem hx
    have hin : i < n := by have := (List.getElem?_eq_some_iff.1 hi).1; rw [dulL_length] at this; exact this
    have := hget i hin
    rw [getD_at hi] at this
    omega
  · by_cases hv : v < n
    · exact (hget v hv).1
    · rw [List.getD_eq_getElem?_getD, List.getElem?_eq_none (by rw [dulL_length]; omega)]
      simp
  · rw [Int.toNat_natCast, dulL_get es cs q hq, if_pos rfl]
theorem dul_stab (hz : burnErr n es q cs = 0) : stabTo es (dulL n es cs q) q n = true := by
  obtain ⟨_, _, _, _, _, _, h0⟩ := conf_zero (burn_zero hz).1
  rw [stabTo_iff]
  intro v hv hvq
  rw [dulL_get es cs q hv, if_neg hvq]
  have := h0 v (by omega) (by omega)
  omega
theorem dul_dul (hz : burnErr n es q cs = 0) : dulL n es (dulL n es cs q) q = cs := by
  obtain ⟨_, _, _, _, hl, _, _⟩ := conf_zero (burn_zero hz).1
  have hz0 := (burn_zero hz).2
  rw [Int.toNat_natCast] at hz0
  have hl : cs.length = n := by omega
  apply List.ext_getElem?
  intro i
  by_cases hi : i < n
  · have h1 : ∀ {l : List Int}, l.length = n → l[i]? = some (l.getD i 0) := fun {l} h => by
      rw [List.getD_eq_getElem?_getD, List.getElem?_eq_getElem (by omega)]; rfl
    rw [h1 (dulL_length n es _ q), h1 hl, dulL_get es _ q hi]
    by_cases h : i = q
    · rw [if_pos h, h, hz0]
    · rw [if_neg h, dulL_get es cs q hi, if_neg h]
      congr 1
      omega
  · rw [List.getElem?_eq_none (by rw [dulL_length]; omega), List.getElem?_eq_none (by omega)]
/-- All that the law asks of a stable configuration. -/
theorem dual_plain (hlen : es.length ≤ 10000) (hz : burnErr n es q cs = 0) (hs : stabTo es cs q n = true) :
    burnErr n es q (dulL n es cs q) = 0 ∧ stabTo es (dulL n es cs q) q n = true ∧ dulL n es (dulL n es cs q) q = cs ∧
    decide (restL n (burntL es (dulL n es cs q) n q) = []) = recB n es cs q ∧ recB n es cs q = decide (worstL n es cs q = []) ∧
    (recB n es cs q = true → verErr n es q cs (natsI (recL n es cs q)) = 0 ∧ rverB n es q cs (natsI (recL n es cs q)) = true ∧
      verErr n es q (dulL n es cs q) (natsI (recL n es cs q)) = 0 ∧ verB n es q (dulL n es cs q) (natsI (recL n es cs q)) = true) := by
  have hd := dul_err hlen hz hs
  obtain ⟨hG, _, _, hq, hl, hb, h0⟩ := conf_zero (burn_zero hz).1
  have hq : q < n := by omega
  have hrb : recB n es cs q = decide (worstL n es cs q = []) := by
    unfold recB
    rw [hs, Bool.true_and, decide_eq_decide]
    exact full_iff hq
  refine ⟨hd, dul_stab hz, dul_dul hz, by rw [burnt_dual, hrb]; rfl, hrb, fun hr => ?_⟩
  have hw : worstL n es cs q = [] := by rw [hrb] at hr; exact of_decide_eq_true hr
  have hfull := (full_iff hq).2 hw
  have hlo := recL_ok (n := n) (q := q) (es := es) (cs := cs) hq
  obtain ⟨r, hbr, hpr⟩ := burn_proves (es := es) (cs := dulL n es cs q) (n := n) ⟨by simp, by simp⟩ n [q]
  have hbr : recL n es cs q = [q] ++ r := (burnt_dual n es cs q).symm.trans hbr
  rw [hbr] at hlo hfull
  rw [hbr]
  obtain ⟨v1, v2⟩ := ver_true hd hlo hfull hpr
  have v3 : verErr n es q cs (natsI ([q] ++ r)) = 0 := by unfold verErr; rw [if_neg (by omega)]; exact ren_zero hlo hfull
  refine ⟨v3, ?_, v1, v2⟩
  unfold rverB
  rw [if_pos v3, nats_toNat, natsI_getD]
  unfold prvL
  have := prv_dual (q := q) hG cs r [q] hlo (by simp)
  simp [this, hpr, hs]
end
end Go.Proofs.YtdnoeaoelgehcaaGreat

/-! burning.Verify. -/
namespace Go.Proofs.YtdnoeaoelgehcaaGreat
open Go.RowKit

theorem ret_two {K : Ending → World → Prop} {b b' : Bool} {x x' : Int} {w : World} (h : K (.returned (.tuple #[.bool b, .int .i64 x])) w) (hb : b = b') (hx : x = x') : K (.returned (.tuple #[.bool b', .int .i64 x'])) w := by subst hb hx; exact h
set_option maxRecDepth 100000 in
set_option maxHeartbeats 4000000 in
theorem verify_any (n : Int) (A : Option Addr) (c : Nat) (es : List E3) (hn : es.length ≤ 1048576) (q : Int) (B : Option Addr) (d : Nat) (cs : List Int) (hm : cs.length ≤ 1048000) (D : Option Addr) (f : Nat) (xs : List Int) (hf : xs.length ≤ f) (hs : xs.length ≤ 1048576) (w : World)
    (h : Reads w w.heap.size 3 A es.length (edgeCells es)) (h' : Reads w w.heap.size 1 B cs.length (ints cs)) (h'' : Reads w w.heap.size 1 D xs.length (ints xs)) :
    Calls Tryz.prog 27 #[.agg #[.int .i64 n, .slice A es.length c], .int .i64 q, .slice B cs.length d, .slice D xs.length f] w fun e w' => e = .returned (.tuple #[.bool (verB n es q cs xs), .int .i64 (verErr n es q cs xs)]) ∧ Below w.heap.size w w' := by
  have g0 := Blk.new w 24 #[.int .i64 n, .slice A es.length c]
  have hb0 : Below w.heap.size w (w.alloc (.cells #[.int .i64 n, .slice A es.length c] 24)) := (Below.refl _ _).alloc (Nat.le_refl _) _
  have hbc := bcheck_any n A c es hn q B d cs (by omega)
  by_cases hz : burnErr n es q cs = 0
  · rw [hz] at hbc
    have BC := Lib.hid hbc
    have hE : verErr n es q cs xs = renErr n xs := by unfold verErr; rw [if_neg (by omega)]
    obtain ⟨hG, _, hq0, hqn, hlen, hbd, _⟩ := conf_zero (burn_zero hz).1
    have hhi := hG.hi
    have hlo := hG.lo
    obtain ⟨m, rfl⟩ := Int.eq_ofNat_of_zero_le (show 0 ≤ n by omega)
    obtain ⟨p, rfl⟩ := Int.eq_ofNat_of_zero_le hq0
    have KC := Lib.hid (kindled_any m A c es hn hG p (by omega) B d cs hm)
    have HG := Lib.hid hG
    have HCL := Lib.hid (show cs.length = m by omega)
    have HE := Lib.hid hE
    have hpm : p < m := by omega
    have hm1 : 1 ≤ m := by omega
    have hm12 : m ≤ 12 := by omega
    have HV : Hid (verB m es p cs xs = if renErr m xs = 0 then decide (xs.getD 0 0 = p) && provL es cs (xs.map Int.toNat) else false) := by rw [Hid]; unfold verB; rw [hE]
    rw [HE.out]
    clear hz hbc hE hG hbd hlen hhi hlo hqn
    by_cases hl : xs.length = m
    · have HL := Lib.hid hl
      have hi0 : ((xs.length : Int) != (m : Int)) = false := by simp; omega
      have hR0 : Hid (renErr m xs = renFrom m (xs.take 0) (xs.drop 0)) := by rw [Hid]; unfold renErr; rw [if_neg (by omega)]; rfl
      have h0 : 0 < xs.length := by omega
      obtain ⟨b, off, rfl, hbk, hcells⟩ := h''.2 h0
      clear hl hcells
      go_enter Tryz.func27, Tryz.ntmps27
      go_wp2_with fail
      refine (BC.out _ ((h.alloc (Nat.le_refl _) _).more (by simp)) ((h'.alloc (Nat.le_refl _) _).more (by simp))).mono ?_
      rintro e w1 ⟨rfl, hb1⟩
      have g1 := g0.next hb1
      have c0 := g1.cell 0
      have hB1 := hb0.trans (hb1.mono hb0.size)
      clear g0 hb0 hb1
      go_wp2
      go_loopw [11, 12, 30] (fun t11 t12 i wr => ∃ k : Nat, k ≤ xs.length ∧ i = .int .i64 k ∧ Hid (renErr m xs = renFrom m (xs.take k) (xs.drop k)) ∧ Below w.heap.size w wr ∧ Blk wr w.heap.size 24 #[.int .i64 m, .slice A es.length c]) (fun _ _ i _ => xs.length - (intOf i).toNat)
      case atStart => exact ⟨0, by omega, rfl, hR0, hB1, g1⟩
      case round =>
        obtain ⟨k, hk, rfl, HS, hbel, g2⟩ := hrel
        clear hR0 hB1 g1 c0
        have hsz := hbel.size
        have c0 := g2.cell 0
        by_cases hlt : k < xs.length
        · obtain ⟨x, hx⟩ := get_of_lt hlt
          have hd := renFrom_at (n := m) hx
          rw [← HS.out] at hd
          obtain ⟨b', off', hA, _, hcell⟩ := (h''.below hbel).at_ (ints_at hx)
          injection hA with hA; injection hA with e1 e2; subst e1 e2
          have hi : (k : Int) < (xs.length : Int) := by omega
          have hkf : (k : Int) ≤ (f : Int) := by omega
          have hrt := ((h''.below hbel).more hsz).upto k hlt
          by_cases h1 : x < 0
          · rw [if_pos (.inl h1)] at hd
            have HD := Lib.hid hd
            clear hd hx
            go_wp2
            go_ret2
            exact ⟨by rw [HV.out, HD.out]; rfl, hbel⟩
          · by_cases h2 : (m : Int) ≤ x
            · rw [if_pos (.inr h2)] at hd
              have HD := Lib.hid hd
              clear hd hx
              go_wp2
              go_ret2
              exact ⟨by rw [HV.out, HD.out]; rfl, hbel⟩
            · rw [if_neg (by omega)] at hd
              have CC := contains_any (some ⟨b, off, none⟩) f (xs.take k) (by rw [List.length_take]; omega) x wr (by rw [List.length_take, Nat.min_eq_left (by omega)]; exact hrt)
              rw [List.length_take, Nat.min_eq_left (by omega)] at CC
              by_cases h3 : x ∈ xs.take k
              · rw [if_pos h3] at hd
                rw [decide_eq_true h3] at CC
                have HD := Lib.hid hd
                have CC := Lib.hid CC
                clear hd hx h3 hrt
                go_wp2_with fail
                refine (CC.out).mono ?_
                rintro e w3 ⟨rfl, rfl⟩
                go_wp2
                go_ret2
                exact ⟨by rw [HV.out, HD.out]; rfl, hbel⟩
              · rw [if_neg h3] at hd
                rw [decide_eq_false h3] at CC
                have HD := Lib.hid hd
                have CC := Lib.hid CC
                clear hd hx h3 hrt
                go_wp2_with fail
                refine (CC.out).mono ?_
                rintro e w3 ⟨rfl, rfl⟩
                go_wp2
                go_roundw
                case rel => exact ⟨k + 1, by omega, by go_num, HD.out, hbel, g2⟩
                case measure => simp [intOf]; omega
        · obtain rfl : k = xs.length := by omega
          have hz0 : renErr m xs = 0 := by rw [HS.out, renFrom_end]
          obtain ⟨l, hl, hlo, hll⟩ := ren_nats hz0
          have HV2 : Hid (verB m es p cs xs = (decide (((l.getD 0 0 : Nat) : Int) = p) && provL es cs l)) := by rw [Hid, HV.out, if_pos hz0, hl, nats_toNat, natsI_getD]
          have HZ0 := Lib.hid hz0
          clear HV HS hz0
          have HLL := Lib.hid hl
          have HLO := Lib.hid hlo
          obtain ⟨x0, hx0⟩ := get_of_lt (xs := l) (k := 0) (by omega)
          have hxg : l.getD 0 0 = x0 := by rw [List.getD_eq_getElem?_getD, hx0]; rfl
          rw [hxg] at HV2
          obtain ⟨b', off', hA, _, hcell⟩ := (h''.below hbel).at_ (k := 0) (ints_at (show xs[0]? = some (x0 : Int) by rw [hl]; exact natsI_at hx0))
          injection hA with hA; injection hA with e1 e2; subst e1 e2
          have h00 : (0 : Int) < (xs.length : Int) := by omega
          have h1f : (1 : Int) ≤ (xs.length : Int) := by omega
          have h2f : (xs.length : Int) ≤ (f : Int) := by omega
          have c1 := g2.cell 1
          clear hl hlo
          go_wp2_with fail
          refine (KC.out _ ((h.below hbel).more hsz) ((h'.below hbel).more hsz)).mono ?_
          rintro e w3 ⟨g, A', c', rfl, gw, ow, hg, hb3⟩
          have hB3 := hbel.trans (hb3.mono hsz)
          have hcell3 := (hb3.cell (p := ⟨b, off + 0, none⟩) (by show b < wr.heap.size; omega)).trans hcell
          clear g2 c0 c1 hcell
          rw [Nat.add_zero] at hcell3
          by_cases hxp : x0 = p
          · have HV3 : Hid (verB m es p cs xs = provFrom es cs (l.take 1) (l.drop 1)) := by rw [Hid, HV2.out, hxp, decide_eq_true rfl, Bool.true_and]; rfl
            have hxb : ((x0 : Int) != (p : Int)) = false := by simp; omega
            have gw0 : Wood w3 g m es (.slice A' cs.length c') (l.take 1) := by
              have : l.take 1 = [p] := by rw [show (1 : Nat) = 0 + 1 from rfl, take_snoc hx0, hxp]; rfl
              rw [this]; exact gw
            have hls : xs.length - 1 + 1 = xs.length := by omega
            by_cases hf1 : f = 1
            · subst hf1
              have HV4 : Hid (verB m es p cs xs = true) := by
                rw [Hid, HV3.out, List.drop_eq_nil_of_le (by have := HL.out; omega)]; rfl
              have hx1 : xs.length = 1 := by omega
              clear HV2 HV3 gw hxp hx0 hxg
              go_wp2
              go_loopw [15, 63] (fun _ i wr => i = .int .i64 0 ∧ wr = w3) (fun _ _ _ => 0)
              case atStart => exact ⟨rfl, rfl⟩
              case round =>
                obtain ⟨rfl, rfl⟩ := hrel
                go_wp2
                go_ret2
                exact ⟨by rw [HV4.out, HZ0.out]; rfl, hB3⟩
            · clear HV2 gw hxp hx0 hxg
              go_wp2
              have : ∃ z, (xs.length - 1) = z := ⟨_, rfl⟩
              obtain ⟨N1, hN1⟩ := this
              rw [hN1]
              go_loopw [15, 63] (fun t15 i wr => ∃ j : Nat, j ≤ N1 ∧ i = .int .i64 j ∧ Hid (verB m es p cs xs = provFrom es cs (l.take (j + 1)) (l.drop (j + 1))) ∧ Below w.heap.size w wr ∧ Wood wr g m es (.slice A' cs.length c') (l.take (j + 1)) ∧ OwnI wr w.heap.size A' c' cs) (fun _ i _ => N1 - (intOf i).toNat)
              case atStart => exact ⟨0, by omega, rfl, HV3, hB3, gw0, ow.mono (by omega)⟩
              case round =>
                obtain ⟨j, hj, rfl, HP, hbl, gwj, owj⟩ := hrel
                have hsl := hbl.size
                by_cases hlt2 : j < N1
                · obtain ⟨v, hv⟩ := get_of_lt (xs := l) (k := j + 1) (by have := HL.out; omega)
                  have hvm : v < m := HLO.out.2 v (List.mem_of_getElem? hv)
                  have htk := take_snoc hv
                  have hok1 : LOk m (l.take (j + 1)) := ⟨HLO.out.1.sublist (List.take_sublist _ _), fun u hu => HLO.out.2 u (List.mem_of_mem_take hu)⟩
                  have hnot : v ∉ l.take (j + 1) := by
                    have h1 := HLO.out.1.sublist (List.take_sublist (j + 1 + 1) l)
                    rw [htk, List.nodup_append] at h1
                    exact fun hc => h1.2.2 v hc v (by simp) rfl
                  have CA := catches_any g m hm12 es m HG.out.ok A' c' cs HCL.out (l.take (j + 1)) hok1 v hvm wr gwj owj.reads
                  rw [cat_fresh hnot] at CA
                  have hP := HP.out
                  rw [provFrom_at hv] at hP
                  obtain ⟨b', off', hA, _, hce⟩ := (h''.below hbl).at_ (k := j + 1) (ints_at (show xs[j + 1]? = some (v : Int) by rw [HLL.out]; exact natsI_at hv))
                  injection hA with hA; injection hA with e1 e2; subst e1 e2
                  rw [show off + (j + 1) = off + 1 + j from by omega] at hce
                  have hji : (j : Int) < (N1 : Int) := by omega
                  have hv12 : (v : Int) < 12 := by omega
                  have hbv := gwj.burnt_ (u := v) (by omega)
                  have hfv := Blk.frozen gwj (146 + v)
                  cases hdc : decide (cs.getD v 0 < joinsN es v (l.take (j + 1)))
                  · rw [hdc] at CA hP
                    have CA := Lib.hid CA
                    have HP2 : Hid (verB m es p cs xs = false) := hP
                    clear hdc hP hv htk hok1 hnot
                    go_wp2_with fail
                    refine (CA.out).mono ?_
                    rintro e w5 ⟨rfl, m5, rfl⟩
                    go_wp2
                    go_ret2
                    exact ⟨by rw [HP2.out, HZ0.out]; rfl, below_drewN hbl _⟩
                  · rw [hdc, Bool.true_and] at hP
                    rw [hdc] at CA
                    have CA := Lib.hid CA
                    have HP2 := Lib.hid hP
                    have HTK := Lib.hid htk
                    clear hdc hP hv htk hok1 hnot
                    go_wp2_with fail
                    refine (CA.out).mono ?_
                    rintro e w5 ⟨rfl, m5, rfl⟩
                    go_wp2
                    go_roundw
                    case rel =>
                      refine ⟨j + 1, by omega, by go_num, HP2.out, (below_drewN hbl m5).setCell (p := ⟨g, 146 + v, none⟩) (by show w.heap.size ≤ g; omega) _, ?_, (OwnI.drewN owj m5).set_blk (Blk.drewN gwj m5) (by decide) _ _⟩
                      rw [HTK.out]
                      exact (Wood.burn (Blk.drewN gwj m5) (by omega))
                    case measure => simp [intOf]; omega
                · obtain rfl : j = N1 := by omega
                  have HP2 : Hid (verB m es p cs xs = true) := by
                    rw [Hid, HP.out, List.drop_eq_nil_of_le (by have := HL.out; omega)]; rfl
                  go_wp2
                  go_ret2
                  exact ⟨by rw [HP2.out, HZ0.out]; rfl, hbl⟩
          · have HV3 : Hid (verB m es p cs xs = false) := by rw [Hid, HV2.out, decide_eq_false (by omega)]; rfl
            have hxb : ((x0 : Int) != (p : Int)) = true := by simp; omega
            clear HV2 gw
            go_wp2
            go_ret2
            exact ⟨by rw [HV3.out, HZ0.out]; rfl, hB3⟩
    · have hi0 : ((xs.length : Int) != (m : Int)) = true := by simp; omega
      have hR : renErr m xs = 8 := by unfold renErr; rw [if_pos (by omega)]
      have HV2 : Hid (verB m es p cs xs = false) := by rw [Hid, HV.out, hR]; rfl
      rw [hR]
      clear hR hl
      go_enter Tryz.func27, Tryz.ntmps27
      go_wp2_with fail
      refine (BC.out _ ((h.alloc (Nat.le_refl _) _).more (by simp)) ((h'.alloc (Nat.le_refl _) _).more (by simp))).mono ?_
      rintro e w1 ⟨rfl, hb1⟩
      have g1 := g0.next hb1
      have c0 := g1.cell 0
      have hB1 := hb0.trans (hb1.mono hb0.size)
      go_wp2
      go_ret2
      exact ⟨by rw [HV2.out]; rfl, hB1⟩
  · have hE : verErr n es q cs xs = burnErr n es q cs := by unfold verErr; rw [if_pos hz]
    have HV : Hid (verB n es q cs xs = false) := by rw [Hid]; unfold verB; rw [hE, if_neg hz]
    rw [hE]
    obtain ⟨z, hzz⟩ : ∃ z, burnErr n es q cs = z := ⟨_, rfl⟩
    rw [hzz] at hbc hz ⊢
    have hb : (z == 0) = false := by simpa using hz
    have BC := Lib.hid hbc
    clear hz hE hbc hzz
    go_enter Tryz.func27, Tryz.ntmps27
    go_wp2_with fail
    refine (BC.out _ ((h.alloc (Nat.le_refl _) _).more (by simp)) ((h'.alloc (Nat.le_refl _) _).more (by simp))).mono ?_
    rintro e w1 ⟨rfl, hb1⟩
    have hB1 := hb0.trans (hb1.mono hb0.size)
    go_wp2
    go_ret2
    exact ⟨by rw [HV.out]; rfl, hB1⟩
end Go.Proofs.YtdnoeaoelgehcaaGreat

/-! burning.Waves. -/
namespace Go.Proofs.YtdnoeaoelgehcaaGreat
open Go.RowKit

theorem own_blk_of {w : World} {base g : Nat} {e : TypeId} {cs : Array Value} (h : Blk w g e cs) (hb : base ≤ g) (hl : cs.size ≤ maxLen) : w.ownsRow base e 1 (.slice (some ⟨g, 0, none⟩) cs.size cs.size) cs.size cs.toList :=
  ⟨by simp, .inr ⟨g, cs.size, cs, rfl, hb, h, Nat.le_refl _, hl, by simp, by rw [Nat.mul_one, ← Array.length_toList, List.take_length]⟩⟩
/-- A row of one number, alone. -/
theorem rows_one {w : World} {base : Nat} (hb : base ≤ w.heap.size) (x : Int) : OwnRows ((w.alloc (.cells #[.int .i64 x] 3)).alloc (.cells #[.slice (some ⟨w.heap.size, 0, none⟩) 1 1] 25)) base (some ⟨w.heap.size + 1, 0, none⟩) 1 [.slice (some ⟨w.heap.size, 0, none⟩) 1 1] [[x]] := by
  have h1 := Blk.new (w.alloc (.cells #[.int .i64 x] 3)) 25 #[.slice (some ⟨w.heap.size, 0, none⟩) 1 1]
  rw [show (w.alloc (.cells #[.int .i64 x] 3)).heap.size = w.heap.size + 1 from by simp] at h1
  have h2 := (Blk.new w 3 #[.int .i64 x]).alloc (.cells #[.slice (some ⟨w.heap.size, 0, none⟩) 1 1] 25)
  refine ⟨own_blk_of h1 (by omega) (by simp [maxLen]), by simp [Value.oneCell'], fun i xs hi => ?_⟩
  match i, hi with
  | 0, hi =>
    injection hi with hi
    subst hi
    exact ⟨_, 1, rfl, OwnI.of_blk (l := [x]) h2 hb (by simp [maxLen])⟩
  | n + 1, hi => simp at hi

theorem wave_yes {es : List E3} {cs : List Int} {l : List Nat} {k : Nat} (h : catL es cs l k = true) : readyL es cs (k + 1) l = readyL es cs k l ++ [k] := by simp [readyL, List.range_succ, List.filter_append, h]
theorem wave_no {es : List E3} {cs : List Int} {l : List Nat} {k : Nat} (h : catL es cs l k = false) : readyL es cs (k + 1) l = readyL es cs k l := by simp [readyL, List.range_succ, List.filter_append, h]

def lenOf : Value → Nat
  | .slice _ n _ => n
  | _ => 0
theorem rounds_next {es : List E3} {cs : List Int} {n : Nat} {l : List Nat} (hn : 0 < n) (h : LOk n l) (hr : readyL es cs n l ≠ []) : roundsL es cs n n l = readyL es cs n l :: roundsL es cs n n (l ++ readyL es cs n l) := by
  obtain ⟨k, rfl⟩ : ∃ k, n = k + 1 := ⟨n - 1, by omega⟩
  rw [rounds_some hr]
  congr 1
  refine rounds_more _ _ (ready_ok h) ?_ (by omega)
  have := List.length_pos_iff.2 hr
  rw [List.length_append]; omega
theorem ready_len (es : List E3) (cs : List Int) (k : Nat) (l : List Nat) : (readyL es cs k l).length ≤ k := Nat.le_trans (List.length_filter_le _ _) (by simp)
theorem ready_lt {es : List E3} {cs : List Int} {k : Nat} {l : List Nat} : ∀ v ∈ readyL es cs k l, v < k := fun _ hv => (mem_ready.1 hv).1

end Go.Proofs.YtdnoeaoelgehcaaGreat

/-! Package burning: the fire. -/
namespace Go.Proofs.YtdnoeaoelgehcaaGreat
open Go.RowKit Go.Shelf
attribute [local go_sem] Oper.semAt_some

/-- How many vertices are not burnt, read off the wood. -/
def leftW (w : World) (g n : Nat) : Nat := ((List.range n).filter fun u => match w.cell? ⟨g, 146 + u, none⟩ with | some (.bool false) => true | _ => false).length
theorem leftW_eq {w : World} {g n : Nat} {es : List E3} {ch : Value} {l : List Nat} (hn : n ≤ 12) (h : Wood w g n es ch l) : leftW w g n = (restL n l).length := by
  unfold leftW restL
  congr 1
  apply List.filter_congr
  intro u hu
  rw [List.mem_range] at hu
  rw [h.burnt_ (by omega)]
  by_cases hm : u ∈ l <;> simp [hm]

/-- The argument of a round is an int. -/
def ArgN (x : Nat) (args : Array Value) (_ : Nat → Prop) (_ : World) : Prop := args = #[.int .i64 x]

set_option maxHeartbeats 400000 in
theorem fire_any (g : Nat) (w : World) :
    Calls Tryz.prog 107 #[.pointer (some ⟨g, 0, none⟩)] w fun e w' =>
      e = .returned (.func (.func 148) #[] #[.pointer (some ⟨w.heap.size, 0, none⟩)]) ∧ w.alloc (.cells #[.pointer (some ⟨g, 0, none⟩)] 98) = w' := by
  have hmf : ∀ (fn : Fn) (first cap : Array Value) (w : World), (Instr.makeFunc fn first cap).run Tryz.prog w = .ok (.func fn first cap) w := fun _ _ _ _ => rfl
  go_enter Tryz.func107, Tryz.ntmps107
  go_wp2
  go_ret
  exact ⟨rfl, rfl⟩

set_option maxRecDepth 100000 in
set_option maxHeartbeats 4000000 in
theorem fire_iter (g n : Nat) (hn : n ≤ 12) (hn1 : 1 ≤ n) (es : List E3) (N : Int) (hok : ∀ e ∈ es, okE N e) (A : Option Addr) (c : Nat) (cs : List Int) (hcl : cs.length = n) (l : List Nat) (hl : LOk n l) (bw : Nat) (W0 : World)
    (h1 : Blk W0 bw 98 #[.pointer (some ⟨g, 0, none⟩)]) (h2 : Wood W0 g n es (.slice A cs.length c) l) (h3 : Reads W0 W0.heap.size 1 A cs.length (ints cs)) (hAg : ∀ k, blockOf A k → ¬ k = g) :
    IterF Tryz.prog 148 #[.pointer (some ⟨bw, 0, none⟩)] ArgN (fun k => k = bw ∨ k = g ∨ blockOf A k) (fun k => k = g) (fireS es cs n l) (fun W => Wood W g n es (.slice A cs.length c) (burnL es cs n n l)) W0 := by
  intro l' J Jx C W hL hC hJ hJx hY h0
  have k1 : Blk W bw 98 #[.pointer (some ⟨g, 0, none⟩)] := (hL.block bw h1.lt (.inl rfl)).trans h1
  have k2 : Wood W g n es (.slice A cs.length c) l := (hL.block g (Blk.lt h2) (.inr (.inl rfl))).trans h2
  have k3 : Reads W W.heap.size 1 A cs.length (ints cs) := ⟨h3.1, fun hn => by
    obtain ⟨b, off, rfl, hb, hc⟩ := h3.2 hn
    exact ⟨b, off, rfl, by have := hL.size; omega, fun j u hu => (World.cell?_of_block (w := W0) (hL.block b hb (.inr (.inr ⟨_, rfl, rfl⟩)))).trans (hc j u hu)⟩⟩
  have hgb : g ≠ bw := Blk.ne_ k2 k1 (by decide)
  have hgW : g < W.heap.size := Blk.lt k2
  have hbW : bw < W.heap.size := k1.lt
  have HA : Hid (∀ k, blockOf A k → k < W.heap.size) := fun k ⟨a, ha, hk⟩ => by
    rcases Nat.eq_zero_or_pos cs.length with h0 | h0
    · omega
    · obtain ⟨b, off, e, hb, _⟩ := k3.2 h0
      rw [e] at ha; injection ha with ha; subst ha; subst hk; exact hb
  have HOK := Lib.hid hok
  have HCL := Lib.hid hcl
  have HL := Lib.hid hl
  clear h1 h2 h3 hL hok hcl hl
  refine (callsIn_wide (n := 3)).1 ?_
  refine callsIn_of_wp_marks Tryz.func148 rfl trivial ?_
  simp only [Tryz.ntmps148, List.size_toArray, List.length_cons, List.length_nil, Nat.reduceAdd, Nat.reduceSub, Array.replicate_succ, Array.replicate_zero, List.push_toArray, List.append_toArray, List.nil_append, List.cons_append]
  gi_wp2_with fail
  gi_loopw [3] (fun v wl => ∃ (u : Nat) (pre : List Nat) (C' : Nat → Prop), v = .int .i64 u ∧ u ≤ n ∧ W.heap.size ≤ wl.heap.size ∧ Blk wl bw 98 #[.pointer (some ⟨g, 0, none⟩)] ∧ Wood wl g n es (.slice A cs.length c) (l ++ pre) ∧ Reads wl W.heap.size 1 A cs.length (ints cs) ∧
    Hid (LOk n (l ++ pre)) ∧ Hid (J pre C' wl) ∧ Hid (∀ k, C' k → k < wl.heap.size ∧ ¬ (k = bw ∨ k = g ∨ blockOf A k)) ∧ Hid (∀ x, x < u → catL es cs (l ++ pre) x = false) ∧ Hid (burnL es cs n n (l ++ pre) = burnL es cs n n l)) (fun v wl => leftW wl g n * 13 + (n - (intOf v).toNat))
  case atStart => exact ⟨0, [], C, rfl, by omega, Nat.le_refl _, k1, by rw [List.append_nil]; exact k2, k3, by rw [List.append_nil]; exact HL.out, h0, hC, fun x hx => by omega, by rw [List.append_nil]; rfl⟩
  case round =>
    obtain ⟨u, pre, C', rfl, hu, hsz, i1, i2, i3, IL, IJ, IC, IU, IB⟩ := hrel
    clear k1 k2 k3 h0
    have HY := Lib.hid hY
    have HJ := Lib.hid hJ
    clear hY hJ
    have c1 := i1.cell 0
    have c2 := i2.n_
    have hlw := leftW_eq hn i2
    by_cases hlt : u < n
    · have hi : (u : Int) < (n : Int) := by omega
      have hi2 : (u : Int) < 12 := by omega
      have hcl := HCL.out
      have CC := Lib.hid (catches_any g n hn es N HOK.out A c cs hcl (l ++ pre) IL.out u hlt wr i2 (i3.more hsz))
      cases hcat : catL es cs (l ++ pre) u
      · rw [hcat] at CC
        have HC := Lib.hid hcat
        clear hcat hcl
        gi_wp2_with fail
        refine ⟨trivial, ?_⟩
        refine (inW (CC.out)).mono ?_
        rintro e w' ⟨rfl, m, rfl⟩
        gi_wp2
        go_roundw
        case rel =>
          refine ⟨u + 1, pre, C', by go_num, by omega, hsz, i1.drewN m, Blk.drewN i2 m, i3.drewN m, IL, HJ.out _ _ _ _ IJ.out (Stays.of_only ((Only.refl (fun _ => False) wr).drewN m) (fun _ _ h => h.elim)), IC.out, ?_, IB⟩
          intro x hx
          by_cases he : x = u
          · subst he; exact HC.out
          · exact IU.out x (by omega)
        case measure =>
          rw [show leftW (wr.drewN m) g n = leftW wr g n from rfl]
          simp [intOf]; omega
      · have hct := catL_true.1 hcat
        rw [hcat] at CC
        have hhead := head_ready_of hlt hcat IU.out
        have HB2 := Lib.hid ((burnL_next IL.out hhead).symm.trans IB.out)
        rw [List.append_assoc] at HB2
        have HLO := Lib.hid (IL.out.snoc hct.1 hlt)
        rw [List.append_assoc] at HLO
        have HPX := Lib.hid (fire_pre HB2.out)
        have hrl := rest_len (n := n) (l ++ pre) IL.out
        have hrl2 := rest_len (n := n) (l ++ (pre ++ [u])) HLO.out
        have hll : (l ++ (pre ++ [u])).length = (l ++ pre).length + 1 := by simp; omega
        rw [← hlw] at hrl
        obtain ⟨rl2, hrl3⟩ : ∃ r, (restL n (l ++ (pre ++ [u]))).length = r := ⟨_, rfl⟩
        have HRL := Lib.hid hrl3
        rw [hrl3, hll] at hrl2
        obtain ⟨LL, hLL⟩ : ∃ r, (l ++ pre).length = r := ⟨_, rfl⟩
        rw [hLL] at hrl hrl2
        clear hcat hcl hct hhead hlw hll hrl3 hLL
        gi_wp2_with fail
        refine ⟨trivial, ?_⟩
        refine (inW (CC.out)).mono ?_
        rintro e w' ⟨rfl, m, rfl⟩
        have j1 : Blk ((wr.drewN m).setCell ⟨g, 146 + u, none⟩ (.bool true)) bw 98 #[.pointer (some ⟨g, 0, none⟩)] := (i1.drewN m).far (by simpa using Ne.symm hgb) _
        have j2 : Wood ((wr.drewN m).setCell ⟨g, 146 + u, none⟩ (.bool true)) g n es (.slice A cs.length c) (l ++ (pre ++ [u])) := by
          have := Wood.burn (w := wr.drewN m) (Blk.drewN i2 m) (u := u) (by omega)
          rwa [List.append_assoc] at this
        have hoS : Only (fun k => k = g) wr ((wr.drewN m).setCell ⟨g, 146 + u, none⟩ (.bool true)) := Only.setCell (C := fun k => k = g) (p := ⟨g, 146 + u, none⟩) ((Only.refl _ wr).drewN m) (.inl rfl) _
        have hIC := IC.out
        have hJ1 := HJ.out _ _ _ _ IJ.out (Stays.of_only (B := W.heap.size) (M := fun k => k = g) (C' := C') hoS (fun k _ hk => ⟨fun hc => (hIC k hc).2 (.inr (.inl hk)), .inr hk⟩))
        have hIB : ∀ k, k < W.heap.size → k = bw ∨ k = g ∨ blockOf A k → ¬ C' k := fun k _ hk hc => (hIC k hc).2 hk
        have hsz1 : wr.heap.size ≤ ((wr.drewN m).setCell ⟨g, 146 + u, none⟩ (.bool true)).heap.size := hoS.size
        obtain ⟨fn, tmps, assign, body, hy, hR⟩ := HY.out pre u C' ((wr.drewN m).setCell ⟨g, 146 + u, none⟩ (.bool true)) #[.int .i64 u] (fun _ => False) HPX.out hJ1 (by omega) (fun k hk => Nat.lt_of_lt_of_le (hIC k hk).1 hsz1) (fun k hk => hk.elim) rfl
        have c3 : (wr.drewN m).cell? ⟨bw, 0, none⟩ = some (.pointer (some ⟨g, 0, none⟩)) := c1
        have c4 : (wr.drewN m).cell? ⟨g, 146 + u, none⟩ = some (.bool (decide (u ∈ l ++ pre))) := Wood.burnt_ (w := wr.drewN m) (Blk.drewN i2 m) (by omega)
        have f4 : (wr.drewN m).frozen? ⟨g, 146 + u, none⟩ = false := Blk.frozen i2 _
        gi_wp2_with fail
        refine (roundIn_wide hR).mono ?_
        rintro e w2 ⟨C2, b2, ho2, hg2, rfl, hj2, hx2⟩
        cases b2
        · have HX2 := Lib.hid (hx2 rfl)
          clear hj2 hx2
          gi_wp2
          exact ⟨_, results_none rfl _ _ _, ⟨⟨_, rfl⟩, C2, .inr ⟨pre ++ [u], HPX.out, HX2.out⟩⟩⟩
        · have hJ2 := Lib.hid (hj2 rfl)
          have m1 := j1.only ho2 (fun hc => hc.elim (fun hc => (hIC _ hc).2 (.inl rfl)) id)
          have m2 : Wood w2 g n es (.slice A cs.length c) (l ++ (pre ++ [u])) := Blk.only j2 ho2 (fun hc => hc.elim (fun hc => (hIC _ hc).2 (.inr (.inl rfl))) id)
          have m3 := reads_only (reads_only i3 hoS hsz hAg) ho2 (by omega) (fun k hk hc => hc.elim (fun hc => (hIC _ hc).2 (.inr (.inr hk))) id)
          have hsz2 := ho2.size
          have hIC2 : Hid (∀ k, C2 k → k < w2.heap.size ∧ ¬ (k = bw ∨ k = g ∨ blockOf A k)) := by
            intro k hk
            rcases hg2 k hk with h | h | h
            · have := hIC k h; exact ⟨by omega, this.2⟩
            · exact h.elim
            · refine ⟨h.2, ?_⟩
              rintro (e | e | e)
              · omega
              · omega
              · have := HA.out k e; omega
          have hlw2 := leftW_eq hn m2
          rw [HRL.out] at hlw2
          clear hj2 hx2 j1 j2 ho2 hg2 hR hy c3 c4 f4 hJ1 hIB hoS i1 i2 i3 hIC
          gi_wp2
          go_roundw
          case rel => exact ⟨0, pre ++ [u], C2, rfl, by omega, by omega, m1, m2, m3, HLO.out, hJ2.out, hIC2.out, fun x hx => by omega, HB2.out⟩
          case measure => simp [intOf]; omega
    · obtain rfl : u = n := by omega
      obtain ⟨e1, e2⟩ := fire_end IB.out IU.out
      have E1 := Lib.hid e1
      have E2 := Lib.hid e2
      clear e1 e2
      gi_wp2
      exact ⟨_, results_none rfl _ _ _, ⟨⟨_, rfl⟩, C', .inl ⟨by rw [← E1.out]; exact IJ.out, by rw [E2.out]; exact i2⟩⟩⟩
end Go.Proofs.YtdnoeaoelgehcaaGreat

