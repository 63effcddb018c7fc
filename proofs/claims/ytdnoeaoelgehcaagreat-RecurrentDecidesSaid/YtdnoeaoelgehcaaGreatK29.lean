/-
  Texts of this claim, put together: RRVer.
-/
import Derived.Test.YtdnoeaoelgehcaaGreatK28
import Derived.Test.YtdnoeaoelgehcaaGreatK13
/-! recurrent.Verify. -/
namespace Go.Proofs.YtdnoeaoelgehcaaGreat
open Go.RowKit

/-- Does each vertex of a list catch fire when the earlier ones burn? -/
def prvFrom (es : List E3) (cs : List Int) : List Nat → List Nat → Bool
  | _, [] => true
  | s, x :: r => catchB es cs s x && prvFrom es cs (s ++ [x]) r
def prvL (es : List E3) (cs : List Int) (l : List Nat) : Bool := prvFrom es cs (l.take 1) (l.drop 1)
theorem prvFrom_at {es : List E3} {cs : List Int} {l : List Nat} {k x : Nat} (h : l[k]? = some x) :
    prvFrom es cs (l.take k) (l.drop k) = (catchB es cs (l.take k) x && prvFrom es cs (l.take (k + 1)) (l.drop (k + 1))) := by
  obtain ⟨l1, e1⟩ := List.getElem?_eq_some_iff.1 h
  rw [List.drop_eq_getElem_cons l1, e1, prvFrom, take_snoc h]
/-- What Verify returns. -/
def rverB (n : Int) (es : List E3) (q : Int) (cs xs : List Int) : Bool := if verErr n es q cs xs = 0 then decide (xs.getD 0 0 = q) && stabTo es cs q.toNat n.toNat && prvL es cs (xs.map Int.toNat) else false

set_option maxRecDepth 100000 in
set_option maxHeartbeats 4000000 in
theorem recver_any (n : Int) (A : Option Addr) (c : Nat) (es : List E3) (hn : es.length ≤ 10000) (q : Int) (B : Option Addr) (d : Nat) (cs : List Int) (hm : cs.length ≤ 1048000) (D : Option Addr) (f : Nat) (xs : List Int) (hf : xs.length ≤ f) (hs : xs.length ≤ 1048576) (w : World)
    (h : Reads w w.heap.size 3 A es.length (edgeCells es)) (h' : Reads w w.heap.size 1 B cs.length (ints cs)) (h'' : Reads w w.heap.size 1 D xs.length (ints xs)) :
    Calls Tryz.prog 26 #[.agg #[.int .i64 n, .slice A es.length c], .int .i64 q, .slice B cs.length d, .slice D xs.length f] w fun e w' => e = .returned (.tuple #[.bool (rverB n es q cs xs), .int .i64 (verErr n es q cs xs)]) ∧ Below w.heap.size w w' := by
  have g0 := Blk.new w 24 #[.int .i64 n, .slice A es.length c]
  have hb0 : Below w.heap.size w (w.alloc (.cells #[.int .i64 n, .slice A es.length c] 24)) := (Below.refl _ _).alloc (Nat.le_refl _) _
  have hbc := reccheck_any n A c es (by omega) q B d cs (by omega)
  by_cases hz : burnErr n es q cs = 0
  · rw [hz] at hbc
    have BC := Lib.hid hbc
    have hE : verErr n es q cs xs = renErr n xs := by unfold verErr; rw [if_neg (by omega)]
    obtain ⟨hG, _, hq0, hqn, hlen, hbd, _⟩ := conf_zero (burn_zero hz).1
    have hhi := hG.hi
    have hlo := hG.lo
    obtain ⟨m, rfl⟩ := Int.eq_ofNat_of_zero_le (show 0 ≤ n by omega)
    obtain ⟨p, rfl⟩ := Int.eq_ofNat_of_zero_le hq0
    obtain ⟨hR, hpm0, hcl0⟩ := burn_rargs hn hz
    have SC := Lib.hid (fun (W : World) (hB : Below w.heap.size w W) => stable_any m (by omega) A c es hn hR.hz p B d cs hcl0 W ((h.below hB).more hB.size) (by rw [← hcl0]; exact (h'.below hB).more hB.size))
    have CT := Lib.hid (fun (v : Nat) (hv : v < m) (g : Nat) (l : List Nat) (W : World) (hB : Below w.heap.size w W) (hm : Blk W g 4 (bools (marks m l))) => rcatches_any m A c es hn hR.hz p B d cs hR.hcl hR.hcb v hv g l W ((h.below hB).more hB.size) (by rw [← hcl0]; exact (h'.below hB).more hB.size) hm)
    simp only [pileV] at SC CT
    have HG := Lib.hid hG
    have HCL := Lib.hid (show cs.length = m by omega)
    have HE := Lib.hid hE
    have hpm : p < m := by omega
    have hm1 : 1 ≤ m := by omega
    have hm12 : m ≤ 12 := by omega
    have HV : Hid (rverB m es p cs xs = if renErr m xs = 0 then decide (xs.getD 0 0 = p) && stabTo es cs p m && prvL es cs (xs.map Int.toNat) else false) := by rw [Hid]; unfold rverB; rw [hE]; simp
    rw [HE.out]
    rw [hcl0] at BC h' ⊢
    clear hz hbc hE hG hbd hhi hlo hqn hR hpm0 hcl0 hlen
    by_cases hl : xs.length = m
    · have HL := Lib.hid hl
      have hi0 : ((xs.length : Int) != (m : Int)) = false := by simp; omega
      have hR0 : Hid (renErr m xs = renFrom m (xs.take 0) (xs.drop 0)) := by rw [Hid]; unfold renErr; rw [if_neg (by omega)]; rfl
      have h0 : 0 < xs.length := by omega
      obtain ⟨b, off, rfl, hbk, hcells⟩ := h''.2 h0
      clear hl hcells
      go_enter Tryz.func26, Tryz.ntmps26
      go_wp2_with fail
      refine (BC.out _ ((h.alloc (Nat.le_refl _) _).more (by simp)) ((h'.alloc (Nat.le_refl _) _).more (by simp))).mono ?_
      rintro e w1 ⟨rfl, hb1⟩
      have g1 := g0.next hb1
      have c0 := g1.cell 0
      have hB1 := hb0.trans (hb1.mono hb0.size)
      clear g0 hb0 hb1
      go_wp2
      go_loopw [11, 12, 31] (fun t11 t12 i wr => ∃ k : Nat, k ≤ xs.length ∧ i = .int .i64 k ∧ Hid (renErr m xs = renFrom m (xs.take k) (xs.drop k)) ∧ Below w.heap.size w wr ∧ Blk wr w.heap.size 24 #[.int .i64 m, .slice A es.length c]) (fun _ _ i _ => xs.length - (intOf i).toNat)
      case atStart => exact ⟨0, by omega, rfl, hR0, hB1, g1⟩
      case round =>
        obtain ⟨k, hk, rfl, HS, hbel, g2⟩ := hrel
        clear hR0 hB1 g1 c0
        have hsz := hbel.size
        have c0 := g2.cell 0
        by_cases hlt : k < xs.length
        · obtain ⟨x, hx⟩ := get_of_lt hlt
          have hd := renFrom_at (n := m) hx
          rw [← HS.out] at hd
          obtain ⟨b', off', hA, _, hcell⟩ := (h''.below hbel).at_ (ints_at hx)
          injection hA with hA; injection hA with e1 e2; subst e1 e2
          have hi : (k : Int) < (xs.length : Int) := by omega
          have hkf : (k : Int) ≤ (f : Int) := by omega
          have hrt := ((h''.below hbel).more hsz).upto k hlt
          by_cases h1 : x < 0
          · rw [if_pos (.inl h1)] at hd
            have HD := Lib.hid hd
            clear hd hx
            go_wp2
            go_ret2
            exact ⟨by rw [HV.out, HD.out]; rfl, hbel⟩
          · by_cases h2 : (m : Int) ≤ x
            · rw [if_pos (.inr h2)] at hd
              have HD := Lib.hid hd
              clear hd hx
              go_wp2
              go_ret2
              exact ⟨by rw [HV.out, HD.out]; rfl, hbel⟩
            · rw [if_neg (by omega)] at hd
              have CC := contains_any (some ⟨b, off, none⟩) f (xs.take k) (by rw [List.length_take]; omega) x wr (by rw [List.length_take, Nat.min_eq_left (by omega)]; exact hrt)
              rw [List.length_take, Nat.min_eq_left (by omega)] at CC
              by_cases h3 : x ∈ xs.take k
              · rw [if_pos h3] at hd
                rw [decide_eq_true h3] at CC
                have HD := Lib.hid hd
                have CC := Lib.hid CC
                clear hd hx h3 hrt
                go_wp2_with fail
                refine (CC.out).mono ?_
                rintro e w3 ⟨rfl, rfl⟩
                go_wp2
                go_ret2
                exact ⟨by rw [HV.out, HD.out]; rfl, hbel⟩
              · rw [if_neg h3] at hd
                rw [decide_eq_false h3] at CC
                have HD := Lib.hid hd
                have CC := Lib.hid CC
                clear hd hx h3 hrt
                go_wp2_with fail
                refine (CC.out).mono ?_
                rintro e w3 ⟨rfl, rfl⟩
                go_wp2
                go_roundw
                case rel => exact ⟨k + 1, by omega, by go_num, HD.out, hbel, g2⟩
                case measure => simp [intOf]; omega
        · obtain rfl : k = xs.length := by omega
          have hz0 : renErr m xs = 0 := by rw [HS.out, renFrom_end]
          obtain ⟨l, hl, hlo, hll⟩ := ren_nats hz0
          have HV2 : Hid (rverB m es p cs xs = (decide (((l.getD 0 0 : Nat) : Int) = p) && stabTo es cs p m && prvL es cs l)) := by rw [Hid, HV.out, if_pos hz0, hl, nats_toNat, natsI_getD]
          have HZ0 := Lib.hid hz0
          clear HV HS hz0
          have HLL := Lib.hid hl
          have HLO := Lib.hid hlo
          obtain ⟨x0, hx0⟩ := get_of_lt (xs := l) (k := 0) (by omega)
          have hxg : l.getD 0 0 = x0 := by rw [List.getD_eq_getElem?_getD, hx0]; rfl
          rw [hxg] at HV2
          obtain ⟨b', off', hA, _, hcell⟩ := (h''.below hbel).at_ (k := 0) (ints_at (show xs[0]? = some (x0 : Int) by rw [hl]; exact natsI_at hx0))
          injection hA with hA; injection hA with e1 e2; subst e1 e2
          have h00 : (0 : Int) < (xs.length : Int) := by omega
          have c1 := g2.cell 1
          rw [Nat.add_zero] at hcell
          have P2 := Blk.new wr 86 #[.int .i64 m, .slice A es.length c, .int .i64 p, .slice B m d]
          have p0 := P2.cell 0
          have p1 := P2.cell 1
          have p2 := P2.cell 2
          have p3 := P2.cell 3
          have B2 := hbel.alloc hsz (.cells #[.int .i64 m, .slice A es.length c, .int .i64 p, .slice B m d] 86)
          have hbw : b < wr.heap.size := by omega
          have hcell2 := ((((Below.refl wr.heap.size wr).alloc (Nat.le_refl _) (.cells #[.int .i64 m, .slice A es.length c, .int .i64 p, .slice B m d] 86))).cell (p := ⟨b, off, none⟩) hbw).trans hcell
          have G2 := g2.alloc (.cells #[.int .i64 m, .slice A es.length c, .int .i64 p, .slice B m d] 86)
          have k0 := G2.cell 0
          clear hl hlo
          have SC2 := Lib.hid (SC.out _ B2)
          have hmb := make_bools m (by omega)
          by_cases hxp : x0 = p
          · have hxb : ((x0 : Int) != (p : Int)) = false := by simp; omega
            rw [decide_eq_true (show (x0 : Int) = (p : Int) by omega), Bool.true_and] at HV2
            go_wp2_with fail
            refine (SC2.out).mono ?_
            rintro e w3 ⟨rfl, b3⟩
            have B3 := B2.trans (b3.mono B2.size)
            have P3 := P2.next b3
            have G3 := G2.next b3
            have k0 := G3.cell 0
            cases hS : stabTo es cs p m
            · have HV4 : Hid (rverB m es p cs xs = false) := by rw [Hid, HV2.out, hS]; rfl
              clear hS HV2 hmb p0 p1 p2 p3 hcell2 hcell c0 c1
              go_wp2
              go_ret2
              exact ⟨by rw [HV4.out, HZ0.out]; rfl, B3⟩
            · have HV4 : Hid (rverB m es p cs xs = prvFrom es cs (l.take (max 0 1)) (l.drop (max 0 1))) := by rw [Hid, HV2.out, hS, Bool.true_and]; rfl
              have M4' : Blk (w3.alloc (.cells (bools (List.replicate m false)) 4)) w3.heap.size 4 (bools (marks m (l.take 0))) := by rw [List.take_zero, marks_nil]; exact Blk.new w3 _ _
              have HM4 := Lib.hid M4'
              have P4 := Lib.hid (P3.alloc (.cells (bools (List.replicate m false)) 4))
              have B4 := Lib.hid (B3.alloc B3.size (.cells (bools (List.replicate m false)) 4))
              have hB3s := B3.size
              have hxlm : xs.length = m := HL.out
              have HX12 : xs.length ≤ 12 := by omega
              clear hS HV2 M4' p0 p1 p2 p3 hcell2 hcell c0 c1 hxlm
              go_wp2_with fail
              obtain ⟨gM, hgM⟩ : ∃ gM, w3.heap.size = gM := ⟨_, rfl⟩
              rw [hgM] at HM4 hB3s ⊢
              obtain ⟨wo, hwo⟩ : ∃ wo : World, wo = wr := ⟨wr, rfl⟩
              subst hwo
              go_loopw [15, 16, 69] (fun _ _ i wl => ∃ k : Nat, i = .int .i64 k ∧ k ≤ xs.length ∧ Hid (rverB m es p cs xs = prvFrom es cs (l.take (max k 1)) (l.drop (max k 1))) ∧ Hid (Blk wl gM 4 (bools (marks m (l.take k)))) ∧ Hid (Blk wl wo.heap.size 86 #[.int .i64 m, .slice A es.length c, .int .i64 p, .slice B m d]) ∧ Hid (Below w.heap.size w wl)) (fun _ _ i _ => xs.length - (intOf i).toNat)
              case atStart => exact ⟨0, rfl, by omega, HV4, HM4, P4, B4⟩
              case round =>
                obtain ⟨k, rfl, hk, HP, HM, HPi, HB⟩ := hrel
                clear hmb k0
                by_cases hlt : k < xs.length
                · obtain ⟨v, hv⟩ := get_of_lt (xs := l) (k := k) (by have := HL.out; have := hll; omega)
                  have hvm : v < m := HLO.out.2 v (List.mem_of_getElem? hv)
                  have hvi : (v : Int) < (m : Int) := by omega
                  have hki : (k : Int) < (xs.length : Int) := by omega
                  obtain ⟨b', off', hA, _, hce⟩ := (h''.below HB.out).at_ (ints_at (show xs[k]? = some (v : Int) by rw [HLL.out]; exact natsI_at hv))
                  injection hA with hA; injection hA with e1 e2; subst e1 e2
                  have htk : marks m (l.take k ++ [v]) = marks m (l.take (k + 1)) := by rw [take_snoc hv]
                  have HTK := Lib.hid htk
                  have q0 := HPi.out.cell 0
                  have q1 := HPi.out.cell 1
                  have q2 := HPi.out.cell 2
                  have q3 := HPi.out.cell 3
                  by_cases hk0 : k = 0
                  · have hkz : ¬ (0 : Int) < (k : Int) := by omega
                    have hkd : decide ((0 : Int) < (k : Int)) = false := by simp; omega
                    have HP0 : Hid (rverB m es p cs xs = prvFrom es cs (l.take (max (k + 1) 1)) (l.drop (max (k + 1) 1))) := by have := HP.out; rw [hk0] at this ⊢; exact this
                    have mc := (HM.out.cell v).trans (bools_get (marks_get hvm _))
                    have mf := HM.out.frozen v
                    have M5 := HM.out.set_ v (.bool true)
                    rw [bools_set, marks_set hvm, htk] at M5
                    have HM5 := Lib.hid M5
                    have hne : wo.heap.size ≠ gM := (HM.out.ne_ HPi.out (by decide)).symm
                    have P5 := Lib.hid (HPi.out.far (p := ⟨gM, v, none⟩) hne (.bool true))
                    have B5 := Lib.hid (HB.out.setCell (p := ⟨gM, v, none⟩) hB3s (.bool true))
                    clear hv htk M5 hne hk0
                    go_wp2
                    go_roundw
                    case rel => exact ⟨k + 1, by go_num, by omega, HP0, HM5, P5, B5⟩
                    case measure => simp [intOf]; omega
                  · have hkp : (0 : Int) < (k : Int) := by omega
                    have hkd : decide ((0 : Int) < (k : Int)) = true := by simp; omega
                    have hP := HP.out
                    rw [Nat.max_eq_left (by omega), prvFrom_at hv] at hP
                    have CT2 := CT.out v hvm gM (l.take k) wr HB.out HM.out
                    cases hcb : catchB es cs (l.take k) v
                    · rw [hcb] at CT2
                      rw [hcb, Bool.false_and] at hP
                      have CT2 := Lib.hid CT2
                      have HPF := Lib.hid hP
                      clear hv htk hP hcb
                      go_wp2_with fail
                      refine (CT2.out).mono ?_
                      rintro e w5 ⟨rfl, b5⟩
                      have hB5 := HB.out.trans (b5.mono HB.out.size)
                      go_wp2
                      go_ret2
                      exact ⟨by rw [HPF.out, HZ0.out]; rfl, hB5⟩
                    · rw [hcb] at CT2
                      rw [hcb, Bool.true_and] at hP
                      have CT2 := Lib.hid CT2
                      have HPF : Hid (rverB m es p cs xs = prvFrom es cs (l.take (max (k + 1) 1)) (l.drop (max (k + 1) 1))) := by rw [Hid, Nat.max_eq_left (by omega)]; exact hP
                      clear hv htk hP hcb
                      go_wp2_with fail
                      refine (CT2.out).mono ?_
                      rintro e w5 ⟨rfl, b5⟩
                      have hB5 := HB.out.trans (b5.mono HB.out.size)
                      have hM5 := HM.out.next b5
                      have hP5 := HPi.out.next b5
                      have mc := (hM5.cell v).trans (bools_get (marks_get hvm _))
                      have mf := hM5.frozen v
                      have M6 := hM5.set_ v (.bool true)
                      rw [bools_set, marks_set hvm, HTK.out] at M6
                      have HM6 := Lib.hid M6
                      have hne : wo.heap.size ≠ gM := (hM5.ne_ hP5 (by decide)).symm
                      have P6 := Lib.hid (hP5.far (p := ⟨gM, v, none⟩) hne (.bool true))
                      have B6 := Lib.hid (hB5.setCell (p := ⟨gM, v, none⟩) hB3s (.bool true))
                      clear M6 hne
                      go_wp2
                      go_roundw
                      case rel => exact ⟨k + 1, by go_num, by omega, HPF, HM6, P6, B6⟩
                      case measure => simp [intOf]; omega
                · have hkl : k = l.length := by have := HL.out; have := hll; omega
                  have HPF : Hid (rverB m es p cs xs = true) := by rw [Hid, HP.out, List.drop_eq_nil_of_le (by omega)]; rfl
                  have hB := HB.out
                  clear hkl
                  go_wp2
                  go_ret2
                  exact ⟨by rw [HPF.out, HZ0.out]; rfl, hB⟩
          · have hxb : ((x0 : Int) != (p : Int)) = true := by simp; omega
            have HV3 : Hid (rverB m es p cs xs = false) := by rw [Hid, HV2.out, decide_eq_false (by omega)]; rfl
            clear HV2 hmb
            go_wp2
            go_ret2
            exact ⟨by rw [HV3.out, HZ0.out]; rfl, B2⟩
    · have hi0 : ((xs.length : Int) != (m : Int)) = true := by simp; omega
      have hR : renErr m xs = 8 := by unfold renErr; rw [if_pos (by omega)]
      have HV2 : Hid (rverB m es p cs xs = false) := by rw [Hid, HV.out, hR]; rfl
      rw [hR]
      clear hR hl
      go_enter Tryz.func26, Tryz.ntmps26
      go_wp2_with fail
      refine (BC.out _ ((h.alloc (Nat.le_refl _) _).more (by simp)) ((h'.alloc (Nat.le_refl _) _).more (by simp))).mono ?_
      rintro e w1 ⟨rfl, hb1⟩
      have g1 := g0.next hb1
      have c0 := g1.cell 0
      have hB1 := hb0.trans (hb1.mono hb0.size)
      go_wp2
      go_ret2
      exact ⟨by rw [HV2.out]; rfl, hB1⟩
  · have hE : verErr n es q cs xs = burnErr n es q cs := by unfold verErr; rw [if_pos hz]
    have HV : Hid (rverB n es q cs xs = false) := by rw [Hid]; unfold rverB; rw [hE, if_neg hz]
    rw [hE]
    obtain ⟨z, hzz⟩ : ∃ z, burnErr n es q cs = z := ⟨_, rfl⟩
    rw [hzz] at hbc hz ⊢
    have hb : (z == 0) = false := by simpa using hz
    have hb2 : (z != 0) = true := by simpa using hz
    have BC := Lib.hid hbc
    clear hz hE hbc hzz
    go_enter Tryz.func26, Tryz.ntmps26
    go_wp2_with fail
    refine (BC.out _ ((h.alloc (Nat.le_refl _) _).more (by simp)) ((h'.alloc (Nat.le_refl _) _).more (by simp))).mono ?_
    rintro e w1 ⟨rfl, hb1⟩
    have hB1 := hb0.trans (hb1.mono hb0.size)
    go_wp2
    go_ret2
    exact ⟨by rw [HV.out]; rfl, hB1⟩
end Go.Proofs.YtdnoeaoelgehcaaGreat

