/-
  Texts of this claim, put together: RForb, Tri24, Order, SameAll.
-/
import Derived.Test.YtdnoeaoelgehcaaGreatK13
import Derived.Test.YtdnoeaoelgehcaaGreatK24
import Derived.Test.YtdnoeaoelgehcaaGreatK06
import Derived.Test.YtdnoeaoelgehcaaGreatK22
import Derived.Test.YtdnoeaoelgehcaaGreatK01
import Derived.Deep.QuietTactic
import Derived.BigQuiet
import Derived.Test.YtdnoeaoelgehcaaGreatK04
/-! Package recurrent: Forbidden. -/
namespace Go.Proofs.YtdnoeaoelgehcaaGreat
open Go.RowKit

/-- What Forbidden returns. -/
def forbE (n : Int) (es : List E3) (q : Int) (cs : List Int) : List Int × Int := if burnErr n es q cs = 0 then (natI (worstL n.toNat es cs q.toNat), 0) else ([], burnErr n es q cs)
/-- How many cells hold true. -/
def leftM (g : Nat) (w : World) : Nat := match w.heap[g]? with
  | some (.cells cs _ _) => (cs.toList.filter fun v => match v with | .bool b => b | _ => false).length
  | _ => 0
theorem leftM_of {w : World} {g : Nat} {s : List Bool} (h : Blk w g 4 (bools s)) : leftM g w = (s.filter id).length := by
  unfold leftM
  rw [show w.heap[g]? = _ from h]
  simp only [bools]
  rw [List.filter_map, List.length_map]
  rfl
def flagV : Value → Nat
  | .bool true => 1
  | _ => 0
theorem marks_count {n : Nat} {l : List Nat} : ((marks n l).filter id).length = ((List.range n).filter fun u => decide (u ∈ l)).length := by
  unfold marks
  rw [List.filter_map, List.length_map]
  rfl
theorem rest_count {n : Nat} {l : List Nat} (hl : LOk n l) : ((marks n (restL n l)).filter id).length + l.length = n := by
  rw [marks_count]
  have h1 : ((List.range n).filter fun u => decide (u ∈ restL n l)) = restL n l := by
    unfold restL
    apply List.filter_congr
    intro u hu
    rw [Bool.eq_iff_iff]
    simp [List.mem_range.1 hu]
  rw [h1]
  exact rest_len l hl

set_option maxRecDepth 100000 in
set_option maxHeartbeats 8000000 in
theorem forb_ok (n : Nat) (A : Option Addr) (c : Nat) (es : List E3) (hlen : es.length ≤ 10000) (q : Nat) (B : Option Addr) (d : Nat) (cs : List Int) (hz : burnErr n es q cs = 0) (w : World)
    (h : Reads w w.heap.size 3 A es.length (edgeCells es)) (h' : Reads w w.heap.size 1 B cs.length (ints cs)) :
    Calls Tryz.prog 18 #[.agg #[.int .i64 n, .slice A es.length c], .int .i64 q, .slice B cs.length d] w fun e w' => ∃ A' c', e = .returned (.tuple #[.slice A' (natI (worstL n es cs q)).length c', .int .i64 0]) ∧ OwnI w' w.heap.size A' c' (natI (worstL n es cs q)) ∧ Below w.heap.size w w' := by
  obtain ⟨hR, hq, hcl⟩ := burn_rargs hlen hz
  have hG := right_of hR.hz
  have hn12 : n ≤ 12 := by have := hG.hi; omega
  have BC := Lib.hid (reccheck_any n A c es (by omega) q B d cs (by omega))
  rw [hz] at BC
  rw [hcl] at h' BC ⊢
  have HJ := Lib.hid (fun (v : Nat) (g : Nat) (l : List Nat) (W : World) (hB : Below w.heap.size w W) (hm : Blk W g 4 (bools (marks n l))) => rjoins_any n A c es hlen hG.ok q B n d v g l W ((h.below hB).more hB.size) hm)
  have RP := Lib.hid (repeat_any n (by omega) hn12)
  have g0 := Blk.new w 24 #[.int .i64 n, .slice A es.length c]
  have HQ := Lib.hid hq
  have HGG := Lib.hid hG
  have HCL := Lib.hid hcl
  obtain ⟨R, hRR⟩ : ∃ R, natI (worstL n es cs q) = R := ⟨_, rfl⟩
  rw [hRR]
  have HRR := Lib.hid hRR
  simp only [pileV] at HJ
  have hqi : (q : Int) < (n : Int) := by omega
  clear hR hz hcl hRR hG
  go_enter Tryz.func18, Tryz.ntmps18
  go_wp2_with fail
  refine (BC.out _ ((h.alloc (Nat.le_refl _) _).more (by simp)) ((h'.alloc (Nat.le_refl _) _).more (by simp))).mono ?_
  rintro e w1 ⟨rfl, hb1⟩
  have hB1 : Below w.heap.size w w1 := ((Below.refl _ _).alloc (Nat.le_refl _) _).trans (hb1.mono (by simp))
  have g1 := g0.next hb1
  have c0 := g1.cell 0
  have c1 := g1.cell 1
  have c0' := (g1.alloc (.cells #[.int .i64 n, .slice A es.length c, .int .i64 q, .slice B n d] 86)).cell 0
  have c1' := (g1.alloc (.cells #[.int .i64 n, .slice A es.length c, .int .i64 q, .slice B n d] 86)).cell 1
  have c0'' := ((g1.alloc (.cells #[.int .i64 n, .slice A es.length c, .int .i64 q, .slice B n d] 86)).alloc (.cells #[.bool true] 4)).cell 0
  clear g0 hb1
  have P2 := (Blk.new w1 86 #[.int .i64 n, .slice A es.length c, .int .i64 q, .slice B n d]).alloc (.cells #[.bool true] 4)
  have B2 := (hB1.alloc hB1.size (.cells #[.int .i64 n, .slice A es.length c, .int .i64 q, .slice B n d] 86))
  have B3 := B2.alloc B2.size (.cells #[.bool true] 4)
  have T3 := Blk.new (w1.alloc (.cells #[.int .i64 n, .slice A es.length c, .int .i64 q, .slice B n d] 86)) 4 #[.bool true]
  have hs1 : (w1.alloc (.cells #[.int .i64 n, .slice A es.length c, .int .i64 q, .slice B n d] 86)).heap.size = w1.heap.size + 1 := by simp
  rw [hs1] at T3
  go_wp2_with fail
  obtain ⟨W3, hW3⟩ : ∃ W3, (w1.alloc (.cells #[.int .i64 n, .slice A es.length c, .int .i64 q, .slice B n d] 86)).alloc (.cells #[.bool true] 4) = W3 := ⟨_, rfl⟩
  rw [hW3] at B3 T3 P2 ⊢
  clear c0 c1 c0' c1' c0'' g1 B2 hW3 hs1
  refine (RP.out _ _ T3).mono ?_
  rintro e w4 ⟨rfl, M4, b4⟩
  have B4 := B3.trans (b4.mono B3.size)
  have P4 := P2.next b4
  rw [marks_all] at M4
  obtain ⟨g, hg⟩ : ∃ g, W3.heap.size = g := ⟨_, rfl⟩
  have hgw : w.heap.size ≤ g := by have := B3.size; omega
  rw [hg] at M4 ⊢
  obtain ⟨p, hp⟩ : ∃ p, w1.heap.size = p := ⟨_, rfl⟩
  have hpw : w.heap.size ≤ p := by have := hB1.size; omega
  rw [hp] at P4 ⊢
  have hgp : g ≠ p := M4.ne_ P4 (by decide)
  have mq := (M4.cell q).trans (bools_get (marks_get hq _))
  have mf := M4.frozen q
  have M5 := M4.set_ q (.bool false)
  rw [bools_set, marks_rest_set hq, List.nil_append] at M5
  have P5 := P4.far (p := ⟨g, q, none⟩) hgp.symm (.bool false)
  have B5 := B4.setCell (p := ⟨g, q, none⟩) hgw (.bool false)
  have HM5 := Lib.hid M5
  clear M4 P2 T3 B3 b4 M5
  go_wp2_with fail
  obtain ⟨w5, hw5⟩ : ∃ w5, w4.setCell ⟨g, q, none⟩ (.bool false) = w5 := ⟨_, rfl⟩
  rw [hw5] at HM5 P5 B5 ⊢
  clear hw5 mq mf P4 B4
  go_loopw [11, 12, 37] (fun ag _ _ wl => ∃ (fl : Bool) (l : List Nat), ag = .bool fl ∧ Hid (LOk n l) ∧ q ∈ l ∧ Hid (∀ u ∈ l, u ∈ recL n es cs q) ∧ Hid (fl = false → ∀ v, v < n → catL es (dualL n es cs) l v = false) ∧
    Hid (Blk wl g 4 (bools (marks n (restL n l)))) ∧ Blk wl p 86 #[.int .i64 n, .slice A es.length c, .int .i64 q, .slice B n d] ∧ Below w.heap.size w wl) (fun ag _ _ wl => 2 * leftM g wl + flagV ag)
  case atStart => exact ⟨true, [q], rfl, lok_one hq, by simp, fun u hu => by rw [List.mem_singleton.1 hu]; exact recL_sink, (fun e => by cases e), HM5, P5, B5⟩
  case round =>
    obtain ⟨fl, l, rfl, HLO, hql, HS, HC, HMl, Pl, Bl⟩ := hrel
    clear P5 B5
    have HQL := Lib.hid hql
    clear hql
    cases fl
    · have hend := forb_end HGG.out HQ.out HLO.out HQL.out HS.out (HC.out rfl)
      have HEN := Lib.hid hend
      clear hend
      go_wp2_with fail
      go_loopw [13, 14, 15, 61] (fun o _ _ i wl => ∃ (k : Nat) (A' : Option Addr) (c' : Nat), i = .int .i64 k ∧ k ≤ n ∧ o = .slice A' (natI (restL k l)).length c' ∧ Hid (OwnI wl w.heap.size A' c' (natI (restL k l))) ∧ Hid (Blk wl g 4 (bools (marks n (restL n l)))) ∧ Hid (Below w.heap.size w wl)) (fun _ _ _ i _ => n - (intOf i).toNat)
      case atStart => exact ⟨0, none, 0, rfl, by omega, rfl, OwnI.nil_ _ _, HMl, Bl⟩
      case round =>
        obtain ⟨k, A', c', rfl, hk, rfl, HO, HM, HBl⟩ := hrel
        by_cases hlt : k < n
        · have hi : (k : Int) < (n : Int) := by omega
          have mk := (HM.out.cell k).trans (bools_get (marks_get hlt _))
          by_cases hm : k ∈ l
          · rw [decide_eq_false (fun hc => (mem_rest.1 hc).2 hm)] at mk
            have hr : natI (restL (k + 1) l) = natI (restL k l) := by unfold restL; rw [List.range_succ]; simp [hm]
            have HR := Lib.hid hr
            clear hr hm
            go_wp2
            go_roundw
            case rel => exact ⟨k + 1, A', c', by go_num, by omega, by rw [HR.out], by rw [HR.out]; exact HO, HM, HBl⟩
            case measure => simp [intOf]; omega
          · rw [decide_eq_true (mem_rest.2 ⟨hlt, hm⟩)] at mk
            have hr : natI (restL (k + 1) l) = natI (restL k l) ++ [(k : Int)] := by unfold restL; rw [List.range_succ]; simp [hm, natI]
            have HR := Lib.hid hr
            have hl2 : (natI (restL k l)).length ≤ 1048000 := by
              rw [natI_length]
              have : (restL k l).length ≤ k := by unfold restL; exact Nat.le_trans (List.length_filter_le _ _) (by simp)
              omega
            have ho := HO.out
            have hsz := HBl.out.size
            have bl := HBl.out
            clear hr hm
            go_wp2_with (at_builtin; refine push_int rfl (.tmp 67) (.tmp 69) _ rfl Tryz.underlying25 w.heap.size A' c' (natI (restL k l)) (k : Int) rfl ho rfl rfl hl2 hsz ?_; intro A2 c2 w2 ho2 hgr hb2)
            have m2 := (HM.out.alloc (.cells #[.int .i64 k] 3)).grown hgr (own_blk_ne ho HM.out (by decide))
            go_roundw
            case rel => exact ⟨k + 1, A2, c2, by go_num, by omega, by rw [HR.out]; simp, by rw [HR.out]; exact ho2, m2, bl.trans hb2⟩
            case measure => simp [intOf]; omega
        · obtain rfl : k = n := by omega
          have hRR : R = natI (restL k l) := by rw [HEN.out, HRR.out]
          have HE2 := Lib.hid hRR
          clear hRR
          go_wp2
          go_ret2
          exact ⟨A', c', by rw [HE2.out]; rfl, by rw [HE2.out]; exact HO, HBl⟩
    · have hcount := rest_count HLO.out
      have hleft := leftM_of HMl.out
      have HCO := Lib.hid hcount
      have HLE := Lib.hid hleft
      clear hcount hleft
      go_wp2_with fail
      obtain ⟨wo, rfl⟩ : ∃ wo : World, wo = wr := ⟨_, rfl⟩
      go_loopw [11, 12, 37] (fun ag _ i wl => ∃ (fl : Bool) (l' : List Nat) (k : Nat), ag = .bool fl ∧ i = .int .i64 k ∧ k ≤ n ∧ Hid (LOk n l') ∧ Hid (q ∈ l') ∧ Hid (∀ u ∈ l', u ∈ recL n es cs q) ∧ Hid (fl = false → l' = l ∧ ∀ v, v < k → catL es (dualL n es cs) l v = false) ∧ Hid (fl = true → l.length < l'.length) ∧
        Hid (Blk wl g 4 (bools (marks n (restL n l')))) ∧ Blk wl p 86 #[.int .i64 n, .slice A es.length c, .int .i64 q, .slice B n d] ∧ Below w.heap.size w wl) (fun _ _ i _ => n - (intOf i).toNat)
      case atStart => exact ⟨false, l, 0, rfl, rfl, by omega, HLO, HQL, HS, fun _ => ⟨rfl, fun v hv => by omega⟩, (fun e => by cases e), HMl, Pl, Bl⟩
      case round =>
        obtain ⟨fl, l', k, rfl, rfl, hk, HLO', HQL', HS', HF', HT', HM', Pl', Bl'⟩ := hrel
        clear Pl Bl
        by_cases hlt : k < n
        · have hi : (k : Int) < (n : Int) := by omega
          have mk := (HM'.out.cell k).trans (bools_get (marks_get hlt _))
          by_cases hm : k ∈ l'
          · rw [decide_eq_false (fun hc => (mem_rest.1 hc).2 hm)] at mk
            have hcf : catL es (dualL n es cs) l' k = false := by unfold catL; simp [hm]
            have HCF := Lib.hid hcf
            clear hcf hm
            go_wp2_with fail
            go_quiet (fail)
            all_goals
              go_wp2
              go_roundw
              case rel => exact ⟨fl, l', k + 1, rfl, by go_num, by omega, HLO', HQL', HS', (fun e => ⟨(HF'.out e).1, fun v hv => by
                by_cases hvk : v = k
                · rw [hvk, ← (HF'.out e).1]; exact HCF.out
                · exact (HF'.out e).2 v (by omega)⟩), HT', HM', Pl', ⟨Bl'.os, Bl'.tape, Bl'.output, Bl'.size, Bl'.block⟩⟩
              case measure => simp [intOf]; omega
          · rw [decide_eq_true (mem_rest.2 ⟨hlt, hm⟩)] at mk
            obtain ⟨x, hx⟩ := get_of_lt (xs := cs) (k := k) (by rw [HCL.out]; exact hlt)
            obtain ⟨bB, oB, hA, hbB, hcell⟩ := (h'.below Bl').at_ (ints_at hx)
            subst hA
            have hrc := rest_catch HGG.out cs l' k
            have hcd := cat_dual HGG.out cs HLO'.out hlt
            rw [← hrc, getD_at hx, decide_eq_false hm, Bool.not_false, Bool.true_and] at hcd
            obtain ⟨J, hJJ⟩ : ∃ J, jnE es (restL n l') k = J := ⟨_, rfl⟩
            have JC := HJ.out k g (restL n l') wr.drew Bl'.drew HM'.out
            rw [hJJ] at hcd JC
            have JC := Lib.hid JC
            have HCD := Lib.hid hcd
            have p0 := Pl'.cell 0
            have p1 := Pl'.cell 1
            have p2 := Pl'.cell 2
            have p3 := Pl'.cell 3
            have hgl := HM'.out.lt
            have hpl := Pl'.lt
            have hbl : bB < wr.heap.size := by have := Bl'.size; omega
            have HM := Lib.hid hm
            clear hcd hrc hJJ hx hm
            go_wp2_with fail
            by_cases hge : J ≤ x
            · go_region_held3 (fun W => W.cell? ⟨g, k, none⟩ = some (.bool true) ∧ W.cell? ⟨p, 0, none⟩ = some (.int .i64 n) ∧ W.cell? ⟨p, 1, none⟩ = some (.slice A es.length c) ∧ W.cell? ⟨p, 2, none⟩ = some (.int .i64 q) ∧ W.cell? ⟨p, 3, none⟩ = some (.slice (some ⟨bB, oB, none⟩) n d) ∧ W.cell? ⟨bB, oB + k, none⟩ = some (.int .i64 x)) (go_keep)
                (first | (go_at_call 60; refine (JC.out).mono ?_; rintro e w5 ⟨rfl, b5⟩
                          have k0 := (b5.cell (p := ⟨g, k, none⟩) hgl).trans mk
                          have k1 := (b5.cell (p := ⟨p, 0, none⟩) hpl).trans p0
                          have k2 := (b5.cell (p := ⟨p, 1, none⟩) hpl).trans p1
                          have k3 := (b5.cell (p := ⟨p, 2, none⟩) hpl).trans p2
                          have k4 := (b5.cell (p := ⟨p, 3, none⟩) hpl).trans p3
                          have k5 := (b5.cell (p := ⟨bB, oB + k, none⟩) hbl).trans hcell))
              all_goals
                have M5 : Blk w5 g 4 (bools (marks n (restL n l'))) := Blk.next (w := wr.drew) HM'.out b5
                have P5 : Blk w5 p 86 #[.int .i64 n, .slice A es.length c, .int .i64 q, .slice (some ⟨bB, oB, none⟩) n d] := Blk.next (w := wr.drew) Pl' b5
                have B5 := Bl'.drew.trans (b5.mono Bl'.drew.size)
                have f5 := M5.frozen k
                have M6 := M5.set_ k (.bool false)
                rw [bools_set, marks_rest_set hlt] at M6
                have P6 := P5.far (p := ⟨g, k, none⟩) hgp.symm (.bool false)
                have B6 := B5.setCell (p := ⟨g, k, none⟩) hgw (.bool false)
                have HM6 := Lib.hid M6
                have hct : catL es (dualL n es cs) l' k = true := by rw [HCD.out, decide_eq_true hge]
                have HS6 := Lib.hid (forb_step HGG.out HQ.out HLO'.out HS'.out hlt hct)
                have HL6 := Lib.hid (HLO'.out.snoc HM.out hlt)
                clear M6 hct
                go_wp2
                go_roundw
                case rel => exact ⟨true, l' ++ [k], k + 1, rfl, by go_num, by omega, HL6, List.mem_append_left _ HQL'.out, HS6.out, (fun e => by cases e), (fun _ => by
                    cases hfl : fl
                    · rw [(HF'.out hfl).1]; simp
                    · have := HT'.out hfl; simp; omega), HM6, P6, B6⟩
                case measure => simp [intOf]; omega
            · go_region_held3 (fun W => W.cell? ⟨g, k, none⟩ = some (.bool true) ∧ W.cell? ⟨p, 0, none⟩ = some (.int .i64 n) ∧ W.cell? ⟨p, 1, none⟩ = some (.slice A es.length c) ∧ W.cell? ⟨p, 2, none⟩ = some (.int .i64 q) ∧ W.cell? ⟨p, 3, none⟩ = some (.slice (some ⟨bB, oB, none⟩) n d) ∧ W.cell? ⟨bB, oB + k, none⟩ = some (.int .i64 x)) (go_keep)
                (first | (go_at_call 60; refine (JC.out).mono ?_; rintro e w5 ⟨rfl, b5⟩
                          have k0 := (b5.cell (p := ⟨g, k, none⟩) hgl).trans mk
                          have k1 := (b5.cell (p := ⟨p, 0, none⟩) hpl).trans p0
                          have k2 := (b5.cell (p := ⟨p, 1, none⟩) hpl).trans p1
                          have k3 := (b5.cell (p := ⟨p, 2, none⟩) hpl).trans p2
                          have k4 := (b5.cell (p := ⟨p, 3, none⟩) hpl).trans p3
                          have k5 := (b5.cell (p := ⟨bB, oB + k, none⟩) hbl).trans hcell))
              all_goals
                have M5 : Blk w5 g 4 (bools (marks n (restL n l'))) := Blk.next (w := wr.drew) HM'.out b5
                have P5 : Blk w5 p 86 #[.int .i64 n, .slice A es.length c, .int .i64 q, .slice (some ⟨bB, oB, none⟩) n d] := Blk.next (w := wr.drew) Pl' b5
                have B5 := Bl'.drew.trans (b5.mono Bl'.drew.size)
                have HM6 := Lib.hid M5
                have hct : catL es (dualL n es cs) l' k = false := by rw [HCD.out, decide_eq_false (by omega)]
                have HCF := Lib.hid hct
                clear M5 hct
                go_wp2
                go_roundw
                case rel => exact ⟨fl, l', k + 1, rfl, by go_num, by omega, HLO', HQL', HS', (fun e => ⟨(HF'.out e).1, fun v hv => by
                    by_cases hvk : v = k
                    · rw [hvk, ← (HF'.out e).1]; exact HCF.out
                    · exact (HF'.out e).2 v (by omega)⟩), HT', HM6, P5, B5⟩
                case measure => simp [intOf]; omega
        · obtain rfl : k = n := by omega
          go_wp2
          go_roundw
          case rel =>
            refine ⟨fl, l', rfl, HLO', HQL'.out, HS', fun e => ?_, HM', Pl', Bl'⟩
            obtain ⟨rfl, hf⟩ := HF'.out e
            exact hf
          case measure =>
            have h1 := rest_count HLO'.out
            have h2 := leftM_of HM'.out
            have h3 := HCO.out
            have h4 := HLE.out
            cases fl
            · obtain ⟨e, _⟩ := HF'.out rfl
              rw [e] at h1 h2
              simp only [flagV]
              omega
            · have h5 := HT'.out rfl
              simp only [flagV]
              omega

theorem forb_len {n : Int} {es : List E3} {q : Int} {cs : List Int} : (forbE n es q cs).1.length ≤ 12 := by
  unfold forbE
  split
  · rename_i hz
    obtain ⟨hG, _⟩ := conf_zero (burn_zero hz).1
    have hhi := hG.hi
    rw [natI_length]
    have : (worstL n.toNat es cs q.toNat).length ≤ n.toNat := by unfold worstL restL; exact Nat.le_trans (List.length_filter_le _ _) (by simp)
    omega
  · simp
set_option maxHeartbeats 2000000 in
theorem forb_any (n : Int) (A : Option Addr) (c : Nat) (es : List E3) (hlen : es.length ≤ 10000) (q : Int) (B : Option Addr) (d : Nat) (cs : List Int) (hm : cs.length ≤ 1048000) (w : World)
    (h : Reads w w.heap.size 3 A es.length (edgeCells es)) (h' : Reads w w.heap.size 1 B cs.length (ints cs)) :
    Calls Tryz.prog 18 #[.agg #[.int .i64 n, .slice A es.length c], .int .i64 q, .slice B cs.length d] w fun e w' => ∃ A' c', e = .returned (.tuple #[.slice A' (forbE n es q cs).1.length c', .int .i64 (forbE n es q cs).2]) ∧ OwnI w' w.heap.size A' c' (forbE n es q cs).1 ∧ Below w.heap.size w w' := by
  by_cases hz : burnErr n es q cs = 0
  · obtain ⟨hG, _, hq0, hqn, _⟩ := conf_zero (burn_zero hz).1
    have hlo := hG.lo
    obtain ⟨m, rfl⟩ := Int.eq_ofNat_of_zero_le (show 0 ≤ n by omega)
    obtain ⟨p, rfl⟩ := Int.eq_ofNat_of_zero_le hq0
    have hE : forbE m es p cs = (natI (worstL m es cs p), 0) := by unfold forbE; rw [if_pos hz]; simp
    rw [hE]
    exact forb_ok m A c es hlen p B d cs hz w h h'
  · have hE : forbE n es q cs = ([], burnErr n es q cs) := by unfold forbE; rw [if_neg hz]
    rw [hE]
    have hbc := reccheck_any n A c es (by omega) q B d cs (by omega)
    obtain ⟨z, hzz⟩ : ∃ z, burnErr n es q cs = z := ⟨_, rfl⟩
    rw [hzz] at hbc hz ⊢
    have hb2 : (z != 0) = true := by simpa using hz
    have BC := Lib.hid hbc
    clear hz hE hbc hzz
    go_enter Tryz.func18, Tryz.ntmps18
    go_wp2_with fail
    refine (BC.out _ ((h.alloc (Nat.le_refl _) _).more (by simp)) ((h'.alloc (Nat.le_refl _) _).more (by simp))).mono ?_
    rintro e w1 ⟨rfl, hb1⟩
    have hB1 : Below w.heap.size w w1 := ((Below.refl _ _).alloc (Nat.le_refl _) _).trans (hb1.mono (by simp))
    go_wp2
    go_ret2
    exact ⟨none, 0, rfl, OwnI.nil_ _ _, hB1⟩
end Go.Proofs.YtdnoeaoelgehcaaGreat

/-! The examples of chapter 24 on the triangle, as plain facts. -/
namespace Go.Proofs.YtdnoeaoelgehcaaGreat
open Go.RowKit

theorem tri_rec : recE 3 tri 0 [0, 1, 0] = (true, [0, 1, 2], 0) := by decide +kernel
theorem tri_forb : forbE 3 tri 0 [0, 0, 0] = ([1, 2], 0) := by decide +kernel
theorem tri_all : allE 3 tri 0 = ([[0, 0, 1], [0, 1, 0], [0, 1, 1]], 0) := by decide +kernel
theorem tri_min : minimE 3 tri 0 = ([[0, 0, 1], [0, 1, 0]], 0) := by decide +kernel
set_option maxRecDepth 100000 in
theorem tri_stab : StabR tri 3 0 [0, 2, 1] (some ([2, 1, 0], [0, 1, 1])) := by
  refine ⟨[1, 2], ?_, by decide, ?_, by decide +kernel, by decide +kernel⟩
  · exact .snoc (l := [1]) (.snoc (l := []) .nil (by decide) (by decide) (by decide +kernel)) (by decide) (by decide) (by decide +kernel)
  · unfold CalmD
    decide +kernel
set_option maxRecDepth 100000 in
theorem tri_set : SetE 3 tri 0 [0, 2, 1] [0, 1, 0] [0, 1, 1] 0 := by
  unfold SetE
  rw [if_pos (by decide)]
  exact ⟨_, tri_stab, by decide +kernel⟩
theorem tri_okE : ∀ x ∈ tri, okE ((3 : Nat) : Int) x := by unfold okE; decide +kernel
set_option maxRecDepth 100000 in
theorem tri_next {ds : List Int} {e : Int} (h : NextE 3 tri 0 [0, 1, 1] 1 ds e) : ds = [0, 1, 0] ∧ e = 0 := by
  unfold NextE at h
  rw [if_neg (by decide +kernel), if_neg (by decide)] at h
  obtain ⟨ss, h⟩ := h
  have := SetE.unique (n := 3) (q := 0) (es := tri) tri_okE (d := [0, 2, 1]) rfl h tri_set
  exact ⟨this.1, this.2.2⟩
set_option maxRecDepth 100000 in
theorem tri_kick {ds ss : List Int} {e : Int} (h : KickE 3 tri 0 [0, 1, 0] ds ss e) : ds = [0, 1, 0] ∧ ss = [0, 1, 1] ∧ e = 0 := by
  unfold KickE at h
  rw [if_neg (by decide +kernel)] at h
  exact SetE.unique (n := 3) (q := 0) (es := tri) tri_okE (d := [0, 2, 1]) rfl h tri_set
end Go.Proofs.YtdnoeaoelgehcaaGreat

/-! ref17.Order and ref17.Same: the order and the equality of divisors. -/
namespace Go.Proofs.YtdnoeaoelgehcaaGreat
open Go.RowKit

/-- The order of two lists of one length. -/
def ordS : List Int → List Int → Int
  | x :: xs, y :: ys => if x < y then -1 else if y < x then 1 else ordS xs ys
  | _, _ => 0
theorem ordS_drop {xs ys : List Int} {k : Nat} {x y : Int} (h : xs[k]? = some x) (h' : ys[k]? = some y) :
    ordS (xs.drop k) (ys.drop k) = if x < y then -1 else if y < x then 1 else ordS (xs.drop (k + 1)) (ys.drop (k + 1)) := by
  obtain ⟨l1, e1⟩ := List.getElem?_eq_some_iff.1 h
  obtain ⟨l2, e2⟩ := List.getElem?_eq_some_iff.1 h'
  rw [List.drop_eq_getElem_cons l1, List.drop_eq_getElem_cons l2, e1, e2, ordS]
theorem ordS_zero : ∀ {xs ys : List Int}, xs.length = ys.length → (ordS xs ys = 0 ↔ xs = ys)
  | [], [], _ => by simp [ordS]
  | [], _ :: _, h => by simp at h
  | _ :: _, [], h => by simp at h
  | x :: xs, y :: ys, h => by
    have ih := ordS_zero (xs := xs) (ys := ys) (by simpa using h)
    rw [ordS]
    by_cases h1 : x < y
    · rw [if_pos h1]; simp; intro e; omega
    · by_cases h2 : y < x
      · rw [if_neg h1, if_pos h2]; simp; intro e; omega
      · have : x = y := by omega
        subst this
        rw [if_neg h1, if_neg h1, ih]; simp

theorem drew_once {w wr : World} {a : Nat} (h : ∃ m, wr = w.drewN m) : ∃ m, wr.drewN a = w.drewN m := by
  obtain ⟨m, e⟩ := h
  exact ⟨m + a, by rw [e, World.drewN_drewN]⟩
theorem drew_twice {w wr : World} {a b : Nat} (h : ∃ m, wr = w.drewN m) : ∃ m, (wr.drewN a).drewN b = w.drewN m := by
  obtain ⟨m, e⟩ := h
  exact ⟨m + (a + b), by rw [e, World.drewN_drewN, World.drewN_drewN]⟩
set_option maxHeartbeats 800000 in
theorem rorder_any (A : Option Addr) (c : Nat) (xs : List Int) (B : Option Addr) (d : Nat) (ys : List Int) (hn : xs.length ≤ 1048576) (hl : xs.length = ys.length) (w : World) (b0 : Nat) (h : Reads w b0 1 A xs.length (ints xs)) (h' : Reads w b0 1 B ys.length (ints ys)) :
    Calls Tryz.prog 53 #[.slice A xs.length c, .slice B ys.length d] w fun e w' => e = .returned (.int .i64 (ordS xs ys)) ∧ ∃ m, w' = w.drewN m := by
  have HL := Lib.hid hl
  clear hl
  go_enter Tryz.func53, Tryz.ntmps53
  go_wp2
  go_loopw [5] (fun i wr => ∃ k : Nat, k ≤ xs.length ∧ i = .int .i64 k ∧ Hid (∃ m, wr = w.drewN m) ∧ Hid (ordS xs ys = ordS (xs.drop k) (ys.drop k))) (fun i _ => xs.length - (intOf i).toNat)
  case atStart => exact ⟨0, by omega, rfl, ⟨0, rfl⟩, by simp [Hid]⟩
  case round =>
    obtain ⟨k, hk, rfl, HM, HS⟩ := hrel
    have hrd : Reads wr b0 1 A xs.length (ints xs) := by obtain ⟨m, e⟩ := HM.out; rw [e]; exact h
    have hrd' : Reads wr b0 1 B ys.length (ints ys) := by obtain ⟨m, e⟩ := HM.out; rw [e]; exact h'
    by_cases hlt : k < xs.length
    · obtain ⟨x, hx⟩ := get_of_lt hlt
      obtain ⟨y, hy⟩ := get_of_lt (xs := ys) (k := k) (by have := HL.out; omega)
      have hd := ordS_drop hx hy
      obtain ⟨b, off, rfl, hb, hcell⟩ := hrd.at_ (ints_at hx)
      obtain ⟨b', off', rfl, hb', hcell'⟩ := hrd'.at_ (ints_at hy)
      have hi : (k : Int) < (xs.length : Int) := by omega
      have hi' : (k : Int) < (ys.length : Int) := by have := HL.out; omega
      clear hx hy h h' hrd hrd'
      by_cases h1 : x < y
      · have d1 : decide (x < y) = true := decide_eq_true h1
        rw [if_pos h1] at hd
        have HD := Lib.hid hd
        clear hd
        go_wp2
        go_quiet (fail)
        go_wp2
        go_ret
        exact ⟨by rw [HS.out, HD.out]; rfl, by obtain ⟨m, e⟩ := HM.out; exact ⟨m + nq, by rw [e, World.drewN_drewN]⟩⟩
      · have d1 : decide (x < y) = false := decide_eq_false h1
        by_cases h2 : y < x
        · have d2 : decide (y < x) = true := decide_eq_true h2
          rw [if_neg h1, if_pos h2] at hd
          have HD := Lib.hid hd
          clear hd
          go_wp2
          go_quiet (fail)
          go_wp2
          go_quiet (fail)
          go_wp2
          go_ret
          exact ⟨by rw [HS.out, HD.out]; rfl, drew_twice HM.out⟩
        · have d2 : decide (y < x) = false := decide_eq_false h2
          rw [if_neg h1, if_neg h2] at hd
          have HD := Lib.hid hd
          clear hd
          go_wp2
          go_quiet (fail)
          go_wp2
          go_quiet (fail)
          go_wp2
          go_roundw
          case rel => exact ⟨k + 1, by omega, by go_num, drew_once HM.out, by rw [Hid, HS.out, HD.out]⟩
          case measure => simp [intOf]; omega
    · go_wp2
      go_ret
      refine ⟨?_, HM.out⟩
      have e : ordS xs ys = 0 := by rw [HS.out, List.drop_eq_nil_of_le (by omega)]; rfl
      rw [e]; rfl

set_option maxHeartbeats 400000 in
theorem dsame_any (A : Option Addr) (c : Nat) (xs : List Int) (B : Option Addr) (d : Nat) (ys : List Int) (hn : xs.length ≤ 1048576) (w : World) (b0 : Nat) (h : Reads w b0 1 A xs.length (ints xs)) (h' : Reads w b0 1 B ys.length (ints ys)) :
    Calls Tryz.prog 14 #[.slice A xs.length c, .slice B ys.length d] w fun e w' => e = .returned (.bool (decide (xs = ys))) ∧ ∃ m, w' = w.drewN m := by
  by_cases hl : xs.length = ys.length
  · have hb : ((xs.length : Int) != (ys.length : Int)) = false := by simp; omega
    have HO := Lib.hid (rorder_any A c xs B d ys hn hl w b0 h h')
    have HZ := Lib.hid (ordS_zero hl)
    clear hl
    go_enter Tryz.func14, Tryz.ntmps14
    go_wp2_with (go_at_call 53; refine (HO.out).mono ?_; rintro e w' ⟨rfl, hw'⟩)
    go_ret
    refine ⟨ret_bool ?_, hw'⟩
    by_cases he : xs = ys
    · have := HZ.out.2 he; simp [he] at this ⊢; exact this
    · have : ¬ ordS xs ys = 0 := fun e => he (HZ.out.1 e)
      simp [he, this]
  · have hb : ((xs.length : Int) != (ys.length : Int)) = true := by simp; omega
    go_enter Tryz.func14, Tryz.ntmps14
    go_wp2
    go_ret
    have : ¬ xs = ys := fun e => hl (by rw [e])
    exact ⟨ret_bool (by simp [this]), 0, rfl⟩
end Go.Proofs.YtdnoeaoelgehcaaGreat

/-! ref23.Same. -/
namespace Go.Proofs.YtdnoeaoelgehcaaGreat
open Go.RowKit

end Go.Proofs.YtdnoeaoelgehcaaGreat

/-! ref17.SameAll, ref24.SameAll. -/
namespace Go.Proofs.YtdnoeaoelgehcaaGreat
open Go.RowKit

set_option maxRecDepth 100000 in
set_option maxHeartbeats 4000000 in
theorem sameall_any (A : Option Addr) (c : Nat) (xss : List (List Int)) (B : Option Addr) (d : Nat) (yss : List (List Int)) (hn : ∀ xs ∈ xss, xs.length ≤ 1048576) (hn2 : xss.length ≤ 1048576) (w : World) (b0 : Nat) (h : RowsR w b0 A xss) (h' : RowsR w b0 B yss) :
    Calls Tryz.prog 81 #[.slice A xss.length c, .slice B yss.length d] w fun e w' => e = .returned (.bool (decide (xss = yss))) ∧ ∃ m, w' = w.drewN m := by
  by_cases hl : xss.length = yss.length
  · have hb : ((xss.length : Int) != (yss.length : Int)) = false := by simp; omega
    obtain ⟨vs, hv, hrow⟩ := h
    obtain ⟨us, hu, hrow'⟩ := h'
    have HV := Lib.hid hv
    have HU := Lib.hid hu
    have HR := Lib.hid hrow
    have HR' := Lib.hid hrow'
    have HN := Lib.hid hn
    have HL := Lib.hid hl
    rw [← hl]
    clear hv hu hrow hrow' hn hl
    go_enter Tryz.func81, Tryz.ntmps81
    go_wp2_with fail
    go_loopw [5] (fun i wl => ∃ k : Nat, i = .int .i64 k ∧ k ≤ xss.length ∧ Hid (∀ j, j < k → xss[j]? = yss[j]?) ∧ ∃ m, wl = w.drewN m) (fun i _ => xss.length - (intOf i).toNat)
    case atStart => exact ⟨0, rfl, by omega, fun j hj => by omega, 0, rfl⟩
    case round =>
      obtain ⟨k, rfl, hk, HE, m, rfl⟩ := hrel
      by_cases hlt : k < xss.length
      · have hi : (k : Int) < (xss.length : Int) := by omega
        obtain ⟨xs, hx⟩ := get_of_lt hlt
        obtain ⟨ys, hy⟩ := get_of_lt (xs := yss) (k := k) (by have := HL.out; omega)
        obtain ⟨A1, c1, hvk, hr1⟩ := HR.out k xs hx
        obtain ⟨A2, c2, huk, hr2⟩ := HR'.out k ys hy
        obtain ⟨b1, o1, hA, _, e1⟩ := HV.out.at_ hvk
        subst hA
        obtain ⟨b2, o2, hB, _, e2⟩ := HU.out.at_ huk
        subst hB
        have DS := Lib.hid (dsame_any A1 c1 xs A2 c2 ys (HN.out xs (List.mem_of_getElem? hx)) ((w.drewN m).drew) b0 hr1 hr2)
        have HX := Lib.hid hx
        have HY := Lib.hid hy
        have hi2 : (k : Int) < (yss.length : Int) := by have := HL.out; omega
        clear hx hy hvk huk hr1 hr2
        by_cases he : xs = ys
        · rw [decide_eq_true he] at DS
          have HS : Hid (xss[k]? = yss[k]?) := by rw [Hid, HX.out, HY.out, he]
          clear he
          go_wp2_with fail
          refine region_tail 8 (by kernel_rfl) (by kernel_rfl) ?_
          simp only [List.take_succ_cons, List.take_zero, List.drop_succ_cons, List.drop_zero]
          repeat still_step
          refine wpStill_nil ?_
          go_wp2_with fail
          refine (DS.out).mono ?_
          rintro e w5 ⟨rfl, m5, hw5⟩
          have HW5 : Hid (∃ m', w5 = w.drewN m') := ⟨m + 1 + m5, by rw [hw5]; simp [World.drewN, World.drew, Nat.add_assoc]⟩
          clear hw5
          go_wp2
          go_roundw
          case rel => exact ⟨k + 1, by go_num, by omega, fun j hj => by
            by_cases hjk : j = k
            · rw [hjk]; exact HS.out
            · exact HE.out j (by omega), HW5.out⟩
          case measure => simp [intOf]; omega
        · rw [decide_eq_false he] at DS
          have HF : Hid (decide (xss = yss) = false) := by
            rw [Hid, decide_eq_false_iff_not]
            intro hh
            rw [hh, HY.out] at HX
            have := HX.out
            injection this with this
            exact he this.symm
          clear he
          go_wp2_with fail
          refine region_tail 8 (by kernel_rfl) (by kernel_rfl) ?_
          simp only [List.take_succ_cons, List.take_zero, List.drop_succ_cons, List.drop_zero]
          repeat still_step
          refine wpStill_nil ?_
          go_wp2_with fail
          refine (DS.out).mono ?_
          rintro e w5 ⟨rfl, m5, hw5⟩
          have HW5 : Hid (∃ m', w5 = w.drewN m') := ⟨m + 1 + m5, by rw [hw5]; simp [World.drewN, World.drew, Nat.add_assoc]⟩
          clear hw5
          go_wp2
          go_ret
          exact ⟨by rw [HF.out]; rfl, HW5.out⟩
      · have hkl : k = xss.length := by omega
        subst hkl
        have HF : Hid (decide (xss = yss) = true) := by
          rw [Hid, decide_eq_true_iff]
          apply List.ext_getElem?
          intro i
          by_cases hi : i < xss.length
          · exact HE.out i hi
          · have := HL.out
            rw [List.getElem?_eq_none (by omega), List.getElem?_eq_none (by omega)]
        go_wp2
        go_ret
        exact ⟨by rw [HF.out]; rfl, m, rfl⟩
  · have hb : ((xss.length : Int) != (yss.length : Int)) = true := by simp; omega
    have HF : Hid (decide (xss = yss) = false) := by
      rw [Hid, decide_eq_false_iff_not]
      exact fun hh => hl (by rw [hh])
    go_enter Tryz.func81, Tryz.ntmps81
    go_wp2
    go_ret
    exact ⟨by rw [HF.out]; rfl, 0, rfl⟩
set_option maxHeartbeats 800000 in
theorem rsameall_any (A : Option Addr) (c : Nat) (xss : List (List Int)) (B : Option Addr) (d : Nat) (yss : List (List Int)) (hn : ∀ xs ∈ xss, xs.length ≤ 1048576) (hn2 : xss.length ≤ 1048576) (w : World) (b0 : Nat) (h : RowsR w b0 A xss) (h' : RowsR w b0 B yss) :
    Calls Tryz.prog 38 #[.slice A xss.length c, .slice B yss.length d] w fun e w' => e = .returned (.bool (decide (xss = yss))) ∧ ∃ m, w' = w.drewN m := by
  have HC := Lib.hid (sameall_any A c xss B d yss hn hn2 w b0 h h')
  go_enter Tryz.func38, Tryz.ntmps38
  go_wp2_with fail
  refine (HC.out).mono ?_
  rintro e w1 ⟨rfl, hm⟩
  go_wp2
  go_ret
  exact ⟨rfl, hm⟩
end Go.Proofs.YtdnoeaoelgehcaaGreat

