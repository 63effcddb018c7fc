/-
  For every graph, sink and vertex the law RecurrentPermutes answers true: adding a chip permutes the recurrent configurations, and stable configurations above a recurrent one are recurrent. There are no conditions.
-/
import Derived.Test.YtplgbapbgcipdaaGreatK37
import Derived.Test.YtplgbapbgcipdaaGreatK19
import Derived.Test.YtplgbapbgcipdaaGreatK14
import Derived.Test.YtplgbapbgcipdaaGreatK08
import Derived.Test.YtplgbapbgcipdaaGreatK35
import Derived.Test.YtplgbapbgcipdaaGreatK20
import Derived.Test.YtplgbapbgcipdaaGreatK36
import Derived.Test.YtplgbapbgcipdaaGreatK28
import Derived.Test.YtplgbapbgcipdaaGreatK15
import Derived.Deep.RegionHeld3
namespace Go.Proofs.YtplgbapbgcipdaaGreat
open Go.RowKit

theorem smallP {n : Int} {es : List E3} (h : smallB n es 5 8 = true) : es.length ≤ 40 ∧ (checkG n es = 0 → n ≤ 5 ∧ sizeE es ≤ 8) := by
  unfold smallB at h
  by_cases h1 : 40 < es.length
  · rw [if_pos h1] at h; cases h
  · refine ⟨by omega, fun h2 => ?_⟩
    rw [if_neg h1, if_neg (fun hc => hc h2), Bool.and_eq_true] at h
    have := of_decide_eq_true h.1
    have := of_decide_eq_true h.2
    omega
theorem sameallP_true (A : Option Addr) (c : Nat) (xss : List (List Int)) (B : Option Addr) (d : Nat) (hn : ∀ xs ∈ xss, xs.length ≤ 1048576) (hn2 : xss.length ≤ 1048576) (w : World) (h : RowsR w w.heap.size A xss) (h' : RowsR w w.heap.size B xss) :
    Calls Tryz.prog 25 #[.slice A xss.length c, .slice B xss.length d] w fun e w' => e = .returned (.bool true) ∧ Below w.heap.size w w' := by
  refine (rsameall_any A c xss B d xss hn hn2 w _ h h').mono ?_
  rintro e w' ⟨he, m, rfl⟩
  rw [decide_eq_true rfl] at he
  exact ⟨he, rfl, rfl, rfl, Nat.le_refl _, fun _ _ => rfl⟩
/-- What lies above a recurrent configuration and is stable is recurrent. -/
theorem more_rec {n q : Nat} {es : List E3} {c : List Int} (hr : rootErr n es q = 0) (hc : c ∈ recsL n es q) {v : Nat} (hv : v < n) (hvq : v ≠ q) (h : c.getD v 0 + 1 < valE es v) : c.set v (c.getD v 0 + 1) ∈ recsL n es q := by
  obtain ⟨_, hG, hC, hq⟩ := root_zero hr
  obtain ⟨hcl, hcr, hcb⟩ := recsL_mem hG hq hc
  have hg : ∀ y, (c.set v (c.getD v 0 + 1)).getD y 0 = c.getD y 0 + if y = v then 1 else 0 := by
    intro y
    by_cases hy : y = v
    · subst hy
      rw [if_pos rfl, List.getD_eq_getElem?_getD, List.getElem?_set_self (by omega)]; rfl
    · rw [if_neg hy, List.getD_eq_getElem?_getD, List.getElem?_set_ne (Ne.symm hy), ← List.getD_eq_getElem?_getD, Int.add_zero]
  have hb : ∀ i, i < n → 0 ≤ (c.set v (c.getD v 0 + 1)).getD i 0 ∧ (c.set v (c.getD v 0 + 1)).getD i 0 ≤ (maxL n es q).getD i 0 := by
    intro i hi
    obtain ⟨h1, h2⟩ := hcb i hi
    rw [hg]
    by_cases hiv : i = v
    · subst hiv
      rw [if_pos rfl, maxL_get hG.ok hi, if_neg hvq]
      omega
    · rw [if_neg hiv]; omega
  have hst : stabTo es (c.set v (c.getD v 0 + 1)) q n = true := maxL_stab hG fun i hi => (hb i hi).2
  rw [recsL_bel hG hq, List.mem_filter]
  refine ⟨mem_bel n _ (by rw [List.length_set]; exact hcl) hb, ?_⟩
  show recB n es _ q = true
  refine rec_of_noforb hG hq hst ?_
  exact noforb_mono (noforb_of_rec hG hq hcr) fun y _ _ => by rw [hg]; split <;> omega

set_option maxRecDepth 100000 in
set_option maxHeartbeats 8000000 in
theorem recurrentPermutes_walk (w : World) (n : Int) (A : Option Addr) (c : Nat) (es : List E3) (_hm : es.length ≤ maxLen) (_hw : (Lit.int .i64 n).wf = true) (h : Reads w w.heap.size 3 A es.length (edgeCells es)) (q : Int) (_hq : (Lit.int .i64 q).wf = true) (v : Int) (_hv : (Lit.int .i64 v).wf = true) :
    Calls Tryz.prog 4 #[.agg #[.int .i64 n, .slice A es.length c], .int .i64 q, .int .i64 v] w fun e w' => e = .returned (.bool true) ∧ Below w.heap.size w w' := by
  have AW := Lib.hid (fun w => awake24_any w)
  have g := Blk.new w 24 #[.int .i64 n, .slice A es.length c]
  have hB : Below w.heap.size w (w.alloc (.cells #[.int .i64 n, .slice A es.length c] 24)) := (Below.refl _ _).alloc (Nat.le_refl _) _
  have k0 := g.cell 0
  have k1 := g.cell 1
  have FC := Lib.hid (fun w h => fewtrees_any n A c es w h)
  by_cases hf : smallB n es 5 8 = true
  · rw [hf] at FC
    obtain ⟨hlen, hsm⟩ := smallP hf
    have RC := Lib.hid (fun w h => rrooted_any n A c es (by omega) q w h)
    by_cases hz : rootErr n es q = 0
    · rw [hz] at RC
      by_cases hv : 0 ≤ v ∧ v < n ∧ v ≠ q
      · obtain ⟨m, p, rfl, rfl⟩ := root_nat hz
        obtain ⟨u, rfl⟩ := Int.eq_ofNat_of_zero_le hv.1
        obtain ⟨hck, hG, _, hp⟩ := root_zero hz
        obtain ⟨hm5, hs8⟩ := hsm hck
        have hum : u < m := by omega
        have hup : u ≠ p := by intro hc; exact hv.2.2 (by omega)
        have hE : allE m es p = (recsL m es p, 0) := by unfold allE; rw [if_pos hz]; simp
        obtain ⟨_, hR⟩ := few_bel hz (by omega) hs8
        have PA := Lib.hid (fun w h => rall_any m A c es (by omega) p (by rw [hE]; exact hR) w h)
        rw [hE] at PA
        have hu0 : ¬ (u : Int) < 0 := by omega
        have hu1 : ¬ (m : Int) ≤ (u : Int) := by omega
        have hu2 : ((u : Int) == (p : Int)) = false := by simp; omega
        have VC : Hid (∀ (W : World) (h : Reads W W.heap.size 3 A es.length (edgeCells es)), Calls Tryz.prog 18 #[.agg #[.int .i64 m, .slice A es.length c], .int .i64 u] W fun e w' => e = .returned (.int .i64 (valE es u)) ∧ Below W.heap.size W w') := fun W h => val08_any m A c es (by omega) hG u W h
        have NP : Hid (∀ (x : List Int), x ∈ recsL m es p → ∀ (B : Option Addr) (d : Nat) (W : World) (h : Reads W W.heap.size 3 A es.length (edgeCells es)) (h' : Reads W W.heap.size 1 B x.length (ints x)), Calls Tryz.prog 8 #[.agg #[.int .i64 m, .slice A es.length c], .int .i64 p, .slice B x.length d, .int .i64 u] W fun e w' => ∃ (ds : List Int) (A1 : Option Addr) (c1 : Nat), e = .returned (.tuple #[.slice A1 ds.length c1, .int .i64 0]) ∧ ds ∈ recsL m es p ∧ Hid (∃ er, NextE m es p x u ds er) ∧ OwnI w' W.heap.size A1 c1 ds ∧ Below W.heap.size W w') := by
          intro x hx B d W h h'
          have hxl := (recsL_mem hG hp hx).1
          refine (next_any m A c es (by omega) p B d x (by omega) u W h h').mono ?_
          rintro e w' ⟨ds, er, A1, c1, HE, rfl, o1, b1⟩
          obtain ⟨he, hd, _⟩ := next_plain hz (by omega) hs8 hlen hx hum hup HE
          subst he
          exact ⟨ds, A1, c1, rfl, hd, ⟨_, HE⟩, o1, b1⟩
        have HL := Lib.hid (fun x (hx : x ∈ recsL m es p) => (recsL_mem hG hp hx).1)
        have HM := Lib.hid (fun x (hx : x ∈ recsL m es p) => more_rec hz hx hum hup)
        have HA := Lib.hid (fun L hL h => next_all (L := L) hz (by omega) hs8 hlen hum hup hL h)
        have HS := Lib.hid (recsL_sorted (es := es) hG hp)
        have HV := Lib.hid (valE_bd hG.ok (u : Int))
        have HX := Lib.hid (fun x (hx : x ∈ recsL m es p) => recsL_bd hz (by omega) hx)
        obtain ⟨R, hRR⟩ : ∃ R, recsL m es p = R := ⟨_, rfl⟩
        rw [hRR] at PA NP HL HM HA HS HX hR
        dsimp only at PA
        obtain ⟨N, hN⟩ : ∃ N, R.length = N := ⟨_, rfl⟩
        rw [hN] at PA hR
        have HN := Lib.hid hN
        clear hz hck hG hsm hE hN hRR hv hf hs8
        go_enter Tryz.func4, Tryz.ntmps4
        go_wp2_with fail
        refine (FC.out _ ((h.below hB).more hB.size)).mono ?_
        rintro e wn ⟨rfl, hb⟩
        have g := g.next hb
        have hB := hB.trans (hb.mono hB.size)
        have k0 := g.cell 0
        have k1 := g.cell 1
        clear hb
        go_wp2_with fail
        refine (RC.out _ ((h.below hB).more hB.size)).mono ?_
        rintro e wn ⟨rfl, hb⟩
        have g := g.next hb
        have hB := hB.trans (hb.mono hB.size)
        have k0 := g.cell 0
        have k1 := g.cell 1
        clear hb
        go_wp2_with fail
        refine (PA.out _ ((h.below hB).more hB.size)).mono ?_
        rintro e wn ⟨Aa, da, rfl, q2, hb⟩
        have g := g.next hb
        have hB := hB.trans (hb.mono hB.size)
        have k0 := g.cell 0
        have k1 := g.cell 1
        clear hb
        by_cases h60 : 60 < N
        · have h60i : (60 : Int) < (N : Int) := by omega
          clear h60
          go_wp2_with fail
          refine (AW.out _).mono ?_
          rintro e wn ⟨rfl, hb⟩
          have hB := hB.trans (hb.mono hB.size)
          go_wp2
          go_ret
          exact ⟨rfl, hB⟩
        · have h60i : ¬ (60 : Int) < (N : Int) := by omega
          have hn60 : N ≤ 60 := by omega
          have Q2 := Lib.hid q2
          have HB := Lib.hid hB
          have HG := Lib.hid g
          have hz4 := hB.size
          clear q2 hB k0 k1 g h60
          go_wp2_with fail
          go_loopw [9, 60] (fun o i wr => ∃ (k : Nat) (A' : Option Addr) (c' : Nat) (vs : List Value) (L : List (List Int)), k ≤ N ∧ i = .int .i64 k ∧ o = .slice A' k c' ∧ L.length = k ∧ Hid (∀ x ∈ L, x ∈ R) ∧ Hid (∀ (i : Nat) (c d : List Int), R[i]? = some c → L[i]? = some d → ∃ e, NextE m es p c u d e) ∧ Hid (OwnDivs wr wn.heap.size A' c' vs L) ∧ Hid (Below wn.heap.size wn wr)) (fun _ i _ => N - (intOf i).toNat)
          case atStart => exact ⟨0, none, 0, [], [], by omega, rfl, rfl, rfl, by simp [Hid], by simp [Hid], OwnDivs.nil_ _ _, Below.refl _ _⟩
          case round =>
            obtain ⟨k, A', c', vs, L, hk, rfl, rfl, hLl, HLR, HLN, HO, HW⟩ := hrel
            obtain ⟨wo, hwo⟩ : ∃ wo : World, wo = wr := ⟨wr, rfl⟩
            subst hwo
            have hsz := HW.out.size
            by_cases hlt : k < N
            · have hi : (k : Int) < (N : Int) := by omega
              obtain ⟨x, hx⟩ := get_of_lt (xs := R) (k := k) (by rw [HN.out]; exact hlt)
              obtain ⟨b1, o1, A1, c1, hA1, hb1, e1, r1⟩ := (Q2.out.below HW.out).at_ hx
              subst hA1
              have HXR := Lib.hid (List.mem_of_getElem? hx)
              have HXK := Lib.hid hx
              have hxl := HL.out x HXR.out
              have g2 := HG.out.next HW.out
              have k0 := g2.cell 0
              have k1 := g2.cell 1
              have HBw := Lib.hid (HB.out.trans (HW.out.mono hz4))
              have NX := fun B d w h h' => NP.out x HXR.out B d w h h'
              rw [hxl] at NX e1 r1
              replace NX := Lib.hid NX
              have R1 := Lib.hid r1
              have HXL := Lib.hid hxl
              clear hx r1 hxl
              go_wp2_with fail
              refine (NX.out _ _ _ ((h.below HBw.out).more HBw.out.size) (R1.out.more hsz)).mono ?_
              rintro e w5 ⟨ds, A5, c5, rfl, hdR, HE, o5, hb5⟩
              have HDR := Lib.hid hdR
              have hdl := HL.out ds hdR
              rw [hdl]
              have HW5 : Hid (Below wn.heap.size wn w5) := HW.out.trans (hb5.mono hsz)
              have HO5 := Lib.hid (HO.out.next hb5)
              have O5 := Lib.hid (o5.mono hsz)
              have R5 := Lib.hid (R1.out.below (hb5.mono hsz))
              have hs5 := HW5.out.size
              have ow5 : w5.ownsRow wn.heap.size 26 1 (.slice A' k c') k vs := by have := HO5.out.1; rw [hLl] at this; exact this
              have HDL := Lib.hid hdl
              have g5 := g2.next hb5
              clear o5 hb5 hdR hdl g2 k0 k1
              go_wp2_with (first | (at_builtin; refine append_go rfl (.tmp 74) (.tmp 76) _ rfl wn.heap.size 26 Tryz.underlying46 info_divs rfl (by omega) A' c' k vs rfl (World.ownsRow.alloc ow5 _) _ [.slice A5 m c5] rfl (Reads.box _ _ _) (by simp [Value.oneCell']) (by omega) (by simp; omega) ?_; intro A6 c6 w6 hown6 hg6 hb6 hw6) | fail)
              have B56 := ((Below.refl wn.heap.size w5).alloc hs5 (.cells #[.slice A5 m c5] 26)).trans hb6
              have HO6 : Hid (OwnDivs w6 wn.heap.size A6 c6 (vs ++ [.slice A5 ds.length c5]) (L ++ [ds])) := (HO5.out.next ((Below.refl _ _).alloc (Nat.le_refl _) (.cells #[.slice A5 m c5] 26))).push (OwnI.alloc O5.out _) (by rw [hLl, HDL.out]; exact hown6) (by rw [hLl]; exact hg6)
              have B6 : Below wn.heap.size wn w6 := HW5.out.trans B56
              have hs6 := B6.size
              have R6 := R5.out.below B56
              have g6 := HG.out.next B6
              have HB6 := Lib.hid B6
              have CX := fun A d W h => dclone_any A d x (by rw [HXL.out]; omega) W h
              rw [HXL.out] at CX
              replace CX := Lib.hid CX
              have HR6 := Lib.hid R6
              replace HG6 := Lib.hid g6
              clear B56 R6 hown6 hg6 hb6 hw6 g6 B6 g5 ow5
              go_wp2_with fail
              refine (CX.out _ _ _ (HR6.out.more hs6)).mono ?_
              rintro e w7 ⟨A7, c7, rfl, o7, hb7⟩
              obtain ⟨b7, rfl, hb7l, hfr7, hc7⟩ := o7.block (by rw [HXL.out]; omega)
              obtain ⟨y, hy⟩ := get_of_lt (xs := x) (k := u) (by rw [HXL.out]; exact hum)
              have hcy := hc7 u y hy
              have hfy := hfr7 u
              have hlt7 := (o7.at_ (by rw [HXL.out]; omega)).2.1
              have HB7 := Lib.hid (HB6.out.trans (hb7.mono hs6))
              have HY := Lib.hid hy
              have O7 := Lib.hid o7
              have hyb := (HX.out x HXR.out).2 y (List.mem_of_getElem? hy)
              have hwy : IntKind.i64.wrap (y + 1) = y + 1 := IntWalk.i64_in _ (by omega)
              have hui : (u : Int) < (m : Int) := by omega
              clear hc7 hfr7 hy o7
              go_upto_region 16 with fail
              obtain ⟨W8, hW8⟩ : ∃ W8, ((w7.setCell ⟨b7, u, none⟩ (.int .i64 (y + 1))).alloc (.cells #[.slice (some ⟨b7, 0, none⟩) m c7] 26)) = W8 := ⟨_, rfl⟩
              rw [hW8]
              obtain ⟨gc, hgc⟩ : ∃ gc, w7.heap.size = gc := ⟨_, rfl⟩
              rw [hgc]
              have hss : (w7.setCell ⟨b7, u, none⟩ (.int .i64 (y + 1))).heap.size = gc := by rw [← hgc]; simp [World.setCell]
              have O8 : OwnI W8 w6.heap.size (some ⟨b7, 0, none⟩) c7 (x.set u (y + 1)) := by rw [← hW8]; exact (O7.out.put u (y + 1)).alloc _
              have G8 : Blk W8 gc 26 #[.slice (some ⟨b7, 0, none⟩) m c7] := by rw [← hW8]; exact Blk.new_at hss.symm
              have B8 : Below wn.heap.size wn W8 := by
                rw [← hW8]
                refine (HB7.out.setCell ?_ _).alloc ?_ _
                · show wn.heap.size ≤ b7; omega
                · rw [hss, ← hgc]; exact HB7.out.size
              have HO8 : OwnDivs W8 wn.heap.size A6 c6 (vs ++ [.slice A5 ds.length c5]) (L ++ [ds]) := by
                have hbb : Below w6.heap.size w7 W8 := by
                  rw [← hW8]
                  refine ((Below.refl w6.heap.size w7).setCell ?_ _).alloc ?_ _
                  · exact hb7l
                  · rw [hss, ← hgc]; omega
                exact HO6.out.next ((hb7.trans hbb))
              have gcl : gc < W8.heap.size := G8.lt
              have HGC := Lib.hid G8
              have RO8 := O8.reads
              have hxl8 : (x.set u (y + 1)).length = m := by rw [List.length_set]; exact HXL.out
              rw [hxl8] at RO8
              have c80 := G8.cell 0
              have c81 := (O8.at_ (by rw [hxl8]; omega)).2.2.2 u (y + 1) (by rw [List.getElem?_set_self (by rw [HXL.out]; exact hum)])
              have hb7w := (O8.at_ (by rw [hxl8]; omega)).2.1
              have g8 := HG.out.next B8
              have k0 := g8.cell 0
              have k1 := g8.cell 1
              have hgl := g8.lt
              have HBd := Lib.hid (HB.out.trans (B8.mono hz4)).drew
              have HBn := Lib.hid B8.drew
              have HO8 := Lib.hid (HO8.next (Below.drew (Below.refl _ _)))
              have R8 : Hid (Reads W8.drew W8.drew.heap.size 1 (some ⟨b7, 0, none⟩) m (ints (x.set u (y + 1)))) := RO8
              have Q8 : Hid (RowsR W8.drew W8.drew.heap.size (some ⟨b1, o1, none⟩) R) := (Q2.out.below B8).more B8.size
              have HMX := HM.out x HXR.out
              rw [getD_at HY.out] at HMX
              obtain ⟨z, hzv⟩ : ∃ z, valE es u = z := ⟨_, rfl⟩
              have VD := VC
              have HLR2 : Hid (∀ y ∈ L ++ [ds], y ∈ R) := by
                intro y hy
                rcases List.mem_append.1 hy with hy | hy
                · exact HLR.out y hy
                · rw [List.mem_singleton.1 hy]; exact HDR.out
              have HLN2 : Hid (∀ (i : Nat) (c d : List Int), R[i]? = some c → (L ++ [ds])[i]? = some d → ∃ e, NextE m es p c u d e) := by
                intro i c1 d1 h1 h2
                by_cases hik : i < L.length
                · rw [List.getElem?_append_left hik] at h2
                  exact HLN.out i c1 d1 h1 h2
                · rw [List.getElem?_append_right (by omega)] at h2
                  have hi0 : i = k := by
                    have := (List.getElem?_eq_some_iff.1 h2).1
                    simp at this; omega
                  subst hi0
                  rw [hLl, Nat.sub_self] at h2
                  have h3 : ds = d1 := by simpa using h2
                  subst h3
                  rw [HXK.out] at h1
                  injection h1 with h1
                  subst h1
                  exact HE.out
              rw [hzv] at VD HMX
              by_cases hval : y + 1 < z
              · have HC := Lib.hid (HMX hval)
                have CD : Hid (∀ (W : World), gc < W.heap.size → W.cell? ⟨gc, 0, none⟩ = some (.slice (some ⟨b7, 0, none⟩) m c7) → RowsR W W.heap.size (some ⟨b1, o1, none⟩) R → Reads W W.heap.size 1 (some ⟨b7, 0, none⟩) m (ints (x.set u (y + 1))) → Calls Tryz.prog 19 #[.slice (some ⟨b1, o1, none⟩) N da, .func (.func 20) #[] #[.pointer (some ⟨gc, 0, none⟩)]] W fun e w' => e = .returned (.bool true) ∧ Below W.heap.size W w') := by
                  intro W h1 h2 h3 h4
                  have := containsD_any (some ⟨b1, o1, none⟩) da R gc (some ⟨b7, 0, none⟩) c7 (x.set u (y + 1)) (fun xs hx => by rw [HL.out xs hx]; omega) (by rw [HN.out]; omega) W h1 (by rw [hxl8]; exact h2) h3 (by rw [hxl8]; exact h4) HC.out
                  rw [HN.out] at this
                  exact this
                clear hW8 hgc hss O8 G8 B8 HMX RO8 hxl8 g8 hcy hfy hzv HX HM HO6 HO5 O5 R5 R1 HW HO HXK
                go_region_held3 (fun W => W.cell? ⟨gc, 0, none⟩ = some (.slice (some ⟨b7, 0, none⟩) m c7) ∧ W.cell? ⟨b7, u, none⟩ = some (.int .i64 (y + 1)) ∧ W.cell? ⟨w.heap.size, 0, none⟩ = some (.int .i64 m) ∧ W.cell? ⟨w.heap.size, 1, none⟩ = some (.slice A es.length c)) (go_keep)
                  (first
                  | (go_at_call 18; refine (VD.out _ ((h.below HBd.out).more HBd.out.size)).mono ?_; rintro e w9 ⟨rfl, hb9⟩
                     have c90 := (hb9.cell (p := ⟨gc, 0, none⟩) (by exact gcl)).trans c80
                     have c91 := (hb9.cell (p := ⟨b7, u, none⟩) (by exact hb7w)).trans c81
                     have k09 := (hb9.cell (p := ⟨w.heap.size, 0, none⟩) (by exact hgl)).trans k0
                     have k19 := (hb9.cell (p := ⟨w.heap.size, 1, none⟩) (by exact hgl)).trans k1
                     have gcl9 := Nat.lt_of_lt_of_le gcl hb9.size
                     have hb7w9 := Nat.lt_of_lt_of_le hb7w hb9.size
                     have hgl9 := Nat.lt_of_lt_of_le hgl hb9.size
                     have HB9 := Lib.hid (HBn.out.trans (hb9.mono HBn.out.size))
                     have Q9 := Lib.hid (Q8.out.next hb9)
                     have R9 := Lib.hid (R8.out.next hb9)
                     have HO9 := Lib.hid (HO8.out.next hb9))
                  | (go_at_call 19; refine (CD.out _ gcl9 c90 Q9.out R9.out).mono ?_; rintro e w10 ⟨rfl, hb10⟩
                     have c100 := (hb10.cell (p := ⟨gc, 0, none⟩) (by exact gcl9)).trans c90
                     have c101 := (hb10.cell (p := ⟨b7, u, none⟩) (by exact hb7w9)).trans c91
                     have k010 := (hb10.cell (p := ⟨w.heap.size, 0, none⟩) (by exact hgl9)).trans k09
                     have k110 := (hb10.cell (p := ⟨w.heap.size, 1, none⟩) (by exact hgl9)).trans k19
                     have HB10 := Lib.hid (HB9.out.trans (hb10.mono HB9.out.size))
                     have HO10 := Lib.hid (HO9.out.next hb10))
                  | fail)
                go_wp2
                go_roundw
                case rel => exact ⟨k + 1, A6, c6, _, L ++ [ds], by omega, by go_num, rfl, by simp [hLl], HLR2.out, HLN2.out, HO10.out, HB10.out⟩
                case measure => simp [intOf]; omega
              · have hd1 : decide (y + 1 < z) = false := decide_eq_false hval
                have hd2 : (y + 1 < z) = False := eq_false hval
                have hd3 : z ≤ y + 1 := by omega
                have hd4 : decide (z ≤ y + 1) = true := decide_eq_true hd3
                clear hW8 hgc hss O8 G8 B8 HMX RO8 hxl8 g8 hcy hfy hzv HX HM HO6 HO5 O5 R5 R1 HW HO HXK
                refine wp_region_held_drew (S := (fun W => W.cell? ⟨gc, 0, none⟩ = some (.slice (some ⟨b7, 0, none⟩) m c7) ∧ W.cell? ⟨b7, u, none⟩ = some (.int .i64 (y + 1)) ∧ W.cell? ⟨w.heap.size, 0, none⟩ = some (.int .i64 m) ∧ W.cell? ⟨w.heap.size, 1, none⟩ = some (.slice A es.length c))) (by kernel_rfl) ⟨c80, c81, k0, k1⟩ (fun hSw => ?_)
                refine h_take (i := 0) (.slice (some ⟨b7, 0, none⟩) m c7) rfl (by kernel_rfl) (by kernel_rfl) (by kernel_rfl) (fun _ _ _ h => h) (by kernel_rfl) hSw ?_ ?_
                · intro w hw; (try dsimp only at hw); go_split_ands; go_simp
                refine h_take (i := 1) (.int .i64 u) rfl (by kernel_rfl) (by kernel_rfl) (by kernel_rfl) (fun _ _ _ h => h) (by kernel_rfl) hSw ?_ ?_
                · intro w hw; (try dsimp only at hw); go_split_ands; go_simp
                refine h_take (i := 2) (.pointer (some ⟨b7, 0 + u, none⟩)) rfl (by kernel_rfl) (by kernel_rfl) (by kernel_rfl) (fun _ _ _ h => h) (by kernel_rfl) hSw ?_ ?_
                · intro w hw; (try dsimp only at hw); go_split_ands; go_simp
                refine h_take (i := 3) (.int .i64 (y + 1)) rfl (by kernel_rfl) (by kernel_rfl) (by kernel_rfl) (fun _ _ _ h => h) (by kernel_rfl) hSw ?_ ?_
                · intro w hw; (try dsimp only at hw); go_split_ands; go_simp
                refine h_take (i := 4) (.agg #[.int .i64 m, .slice A es.length c]) rfl (by kernel_rfl) (by kernel_rfl) (by kernel_rfl) (fun _ _ _ h => h) (by kernel_rfl) hSw ?_ ?_
                · intro w hw; (try dsimp only at hw); go_split_ands; go_simp
                refine h_take (i := 5) (.int .i64 u) rfl (by kernel_rfl) (by kernel_rfl) (by kernel_rfl) (fun _ _ _ h => h) (by kernel_rfl) hSw ?_ ?_
                · intro w hw; (try dsimp only at hw); go_split_ands; go_simp
                refine h_step (i := 6) rfl (by kernel_rfl) (by kernel_rfl) ?_
                intro K hK
                go_simp
                go_at_call 18
                refine (VD.out _ ((h.below HBd.out).more HBd.out.size)).mono ?_
                rintro e w9 ⟨rfl, hb9⟩
                have c90 := (hb9.cell (p := ⟨gc, 0, none⟩) (by exact gcl)).trans c80
                have c91 := (hb9.cell (p := ⟨b7, u, none⟩) (by exact hb7w)).trans c81
                have k09 := (hb9.cell (p := ⟨w.heap.size, 0, none⟩) (by exact hgl)).trans k0
                have k19 := (hb9.cell (p := ⟨w.heap.size, 1, none⟩) (by exact hgl)).trans k1
                have HB9 := Lib.hid (HBn.out.trans (hb9.mono HBn.out.size))
                have HO9 := Lib.hid (HO8.out.next hb9)
                try go_simp
                refine hK _ _ ⟨c90, c91, k09, k19⟩ ?_
                clear hK K hSw
                have hSw : (fun W => W.cell? ⟨gc, 0, none⟩ = some (.slice (some ⟨b7, 0, none⟩) m c7) ∧ W.cell? ⟨b7, u, none⟩ = some (.int .i64 (y + 1)) ∧ W.cell? ⟨w.heap.size, 0, none⟩ = some (.int .i64 m) ∧ W.cell? ⟨w.heap.size, 1, none⟩ = some (.slice A es.length c)) w9 := ⟨c90, c91, k09, k19⟩
                refine h_take (i := 7) (.bool false) rfl (by kernel_rfl) (by kernel_rfl) (by kernel_rfl) (fun _ _ _ h => h) (by kernel_rfl) hSw ?_ ?_
                · intro w hw; (try dsimp only at hw); go_split_ands; go_simp
                refine h_take (i := 8) (.bool false) rfl (by kernel_rfl) (by kernel_rfl) (by kernel_rfl) (fun _ _ _ h => h) (by kernel_rfl) hSw ?_ ?_
                · intro w hw; (try dsimp only at hw); go_split_ands; go_simp
                refine h_skip (i := 9) rfl (by kernel_rfl) (by kernel_rfl) (by kernel_rfl) (fun _ _ _ h => h) (by kernel_rfl) hSw ?_
                refine h_skip (i := 10) rfl (by kernel_rfl) (by kernel_rfl) (by kernel_rfl) (fun _ _ _ h => h) (by kernel_rfl) hSw ?_
                refine h_skip (i := 11) rfl (by kernel_rfl) (by kernel_rfl) (by kernel_rfl) (fun _ _ _ h => h) (by kernel_rfl) hSw ?_
                refine h_skip (i := 12) rfl (by kernel_rfl) (by kernel_rfl) (by kernel_rfl) (fun _ _ _ h => h) (by kernel_rfl) hSw ?_
                refine h_take (i := 13) (.bool false) rfl (by kernel_rfl) (by kernel_rfl) (by kernel_rfl) (fun _ _ _ h => h) (by kernel_rfl) hSw ?_ ?_
                · intro w hw; (try dsimp only at hw); go_split_ands; go_simp
                refine wpAnyH_done (by kernel_rfl) ?_ _
                go_simp
                go_wp2
                go_roundw
                case rel => exact ⟨k + 1, A6, c6, _, L ++ [ds], by omega, by go_num, rfl, by simp [hLl], HLR2.out, HLN2.out, HO9.out, HB9.out⟩
                case measure => simp [intOf]; omega
            · obtain rfl : k = N := by omega
              have hf : ¬ (k : Int) < (k : Int) := by omega
              have hp := HA.out L (by rw [hLl, HN.out]) HLN.out
              have hsort : Hid (sortG bfI L = R) := sorted_eq bfI_an (sortG_sorted bfI_tr bfI_as L) (HS.out.imp fun h => bfI_as _ _ h) ((sortG_perm L).trans hp)
              have SC := sortRows_any wn.heap.size A' c' vs L (by omega) (fun xs hx => by rw [HL.out xs (HLR.out xs hx)]; omega) wo HO.out
              rw [hLl, hsort.out] at SC
              replace SC := Lib.hid SC
              have HBw := Lib.hid (HB.out.trans (HW.out.mono hz4))
              clear hp
              go_wp2_with fail
              refine (SC.out).mono ?_
              rintro e w5 ⟨rfl, vs5, o5, hb5⟩
              have HB5 := Lib.hid (HW.out.trans hb5)
              have Q5 := Lib.hid ((Q2.out.below HB5.out).more HB5.out.size)
              have O5 := Lib.hid o5.reads
              have SA := sameallP_true A' c' R Aa da (fun xs hx => by rw [HL.out xs hx]; omega) (by rw [HN.out]; omega) w5 O5.out Q5.out
              rw [HN.out] at SA
              replace SA := Lib.hid SA
              have HBz := Lib.hid (HB.out.trans (HB5.out.mono hz4))
              clear hb5 o5
              go_wp2_with fail
              refine (SA.out).mono ?_
              rintro e w6 ⟨rfl, hb6⟩
              have HB6 := Lib.hid (HBz.out.trans (hb6.mono HBz.out.size))
              go_wp2_with fail
              refine (AW.out _).mono ?_
              rintro e w7 ⟨rfl, hb7⟩
              have HB7 := HB6.out.trans (hb7.mono HB6.out.size)
              go_wp2
              go_ret
              exact ⟨rfl, HB7⟩
      · have hcs : v < 0 ∨ (¬ v < 0 ∧ n ≤ v) ∨ (¬ v < 0 ∧ ¬ n ≤ v ∧ v = q) := by omega
        clear hz hv hsm hf
        rcases hcs with h1 | ⟨h1, h2⟩ | ⟨h1, h2, rfl⟩
        · go_enter Tryz.func4, Tryz.ntmps4
          go_wp2_with fail
          refine (FC.out _ ((h.below hB).more hB.size)).mono ?_
          rintro e wn ⟨rfl, hb⟩
          have g := g.next hb
          have hB := hB.trans (hb.mono hB.size)
          have k0 := g.cell 0
          have k1 := g.cell 1
          clear hb
          go_wp2_with fail
          refine (RC.out _ ((h.below hB).more hB.size)).mono ?_
          rintro e wn ⟨rfl, hb⟩
          have g := g.next hb
          have hB := hB.trans (hb.mono hB.size)
          have k0 := g.cell 0
          have k1 := g.cell 1
          clear hb
          go_wp2_with fail
          refine (AW.out _).mono ?_
          rintro e wn ⟨rfl, hb⟩
          have hB := hB.trans (hb.mono hB.size)
          go_wp2
          go_ret
          exact ⟨rfl, hB⟩
        · go_enter Tryz.func4, Tryz.ntmps4
          go_wp2_with fail
          refine (FC.out _ ((h.below hB).more hB.size)).mono ?_
          rintro e wn ⟨rfl, hb⟩
          have g := g.next hb
          have hB := hB.trans (hb.mono hB.size)
          have k0 := g.cell 0
          have k1 := g.cell 1
          clear hb
          go_wp2_with fail
          refine (RC.out _ ((h.below hB).more hB.size)).mono ?_
          rintro e wn ⟨rfl, hb⟩
          have g := g.next hb
          have hB := hB.trans (hb.mono hB.size)
          have k0 := g.cell 0
          have k1 := g.cell 1
          clear hb
          go_wp2_with fail
          refine (AW.out _).mono ?_
          rintro e wn ⟨rfl, hb⟩
          have hB := hB.trans (hb.mono hB.size)
          go_wp2
          go_ret
          exact ⟨rfl, hB⟩
        · go_enter Tryz.func4, Tryz.ntmps4
          go_wp2_with fail
          refine (FC.out _ ((h.below hB).more hB.size)).mono ?_
          rintro e wn ⟨rfl, hb⟩
          have g := g.next hb
          have hB := hB.trans (hb.mono hB.size)
          have k0 := g.cell 0
          have k1 := g.cell 1
          clear hb
          go_wp2_with fail
          refine (RC.out _ ((h.below hB).more hB.size)).mono ?_
          rintro e wn ⟨rfl, hb⟩
          have g := g.next hb
          have hB := hB.trans (hb.mono hB.size)
          have k0 := g.cell 0
          have k1 := g.cell 1
          clear hb
          go_wp2_with fail
          refine (AW.out _).mono ?_
          rintro e wn ⟨rfl, hb⟩
          have hB := hB.trans (hb.mono hB.size)
          go_wp2
          go_ret
          exact ⟨rfl, hB⟩
    · have RC' : Hid (rootErr n es q ≠ 0) := hz
      obtain ⟨z, hzz⟩ : ∃ z, rootErr n es q = z := ⟨_, rfl⟩
      rw [hzz] at RC hz
      have hzb : (z != 0) = true := by simpa using hz
      clear hz hzz hsm hf RC'
      go_enter Tryz.func4, Tryz.ntmps4
      go_wp2_with fail
      refine (FC.out _ ((h.below hB).more hB.size)).mono ?_
      rintro e wn ⟨rfl, hb⟩
      have g := g.next hb
      have hB := hB.trans (hb.mono hB.size)
      have k0 := g.cell 0
      have k1 := g.cell 1
      clear hb
      go_wp2_with fail
      refine (RC.out _ ((h.below hB).more hB.size)).mono ?_
      rintro e wn ⟨rfl, hb⟩
      have g := g.next hb
      have hB := hB.trans (hb.mono hB.size)
      have k0 := g.cell 0
      have k1 := g.cell 1
      clear hb
      go_wp2_with fail
      refine (AW.out _).mono ?_
      rintro e wn ⟨rfl, hb⟩
      have hB := hB.trans (hb.mono hB.size)
      go_wp2
      go_ret
      exact ⟨rfl, hB⟩
  · have hf : smallB n es 5 8 = false := by rw [← Bool.not_eq_true]; exact hf
    rw [hf] at FC
    clear hf
    go_enter Tryz.func4, Tryz.ntmps4
    go_wp2_with fail
    refine (FC.out _ ((h.below hB).more hB.size)).mono ?_
    rintro e wn ⟨rfl, hb⟩
    have g := g.next hb
    have hB := hB.trans (hb.mono hB.size)
    have k0 := g.cell 0
    have k1 := g.cell 1
    clear hb
    go_wp2_with fail
    refine (AW.out _).mono ?_
    rintro e wn ⟨rfl, hb⟩
    have hB := hB.trans (hb.mono hB.size)
    go_wp2
    go_ret
    exact ⟨rfl, hB⟩

namespace lawRecurrentPermutes
open Go.ChangeShapes Go.WideShapes Go.ChangeAt Go.RowKit
set_option linter.unusedVariables false
set_option maxRecDepth 100000 in
theorem lifted (os : Os) (started : os.Started) (H : Type) (enc : TypeId × Value → H) :
    ReturnsInHanded {} Tryz.checked os 4 .any (Rows.recurrentPermutesSpec.pre6 enc Tryz.prog Tryz.f4 Rows.recurrentPermutesRow.domain false) (Rows.recurrentPermutesSpec.post enc Tryz.prog Tryz.f4 false true false false) := by
  refine returnsInHanded_of_change (C := Tryz.checked) own started (by kernel_rfl) Tryz.func4
    (ChangeSpec.witness6 (enc := enc) (C := Tryz.checked) false ⟨#[], #[.agg #[.int .i64 0, .slice none 0 0], .int .i64 0, .int .i64 0], []⟩ 8 (by kernel_rfl) (by kernel_rfl) (by kernel_rfl) (by kernel_rfl)) ?_
  intro W base args ds gs before hval0 hW hcnd _
  have hval : ∀ (j : Nat) t v, Tryz.f4.params[j]? = some t → args[j]? = some v → Value.okWide Tryz.prog W .any base t v := hval0
  have hW' := hW
  obtain ⟨p, q, hA0, hV, rfl, hfz, hnd⟩ := hW
  have hA : DataW.TrodAll enc Tryz.prog W 0 (fun _ => true) true Tryz.f4.params.toList args.toList ds p := hA0
  rw [Tryz.params4] at hA hval
  obtain ⟨v0, vs0, d0, ds0, p0, q0, hargs, rfl, rfl, h0, r0⟩ := trodAll_cons hA
  obtain ⟨v1, vs1, d1, ds1, p1, q1, rfl, rfl, rfl, h1, r1⟩ := trodAll_cons r0
  obtain ⟨v2, vs2, d2, ds2, p2, q2, rfl, rfl, rfl, h2, r2⟩ := trodAll_cons r1
  obtain ⟨rfl, rfl, rfl⟩ := trodAll_nil r2
  obtain rfl : args = #[v0, v1, v2] := by cases args; simp_all
  obtain ⟨rfl, rfl⟩ := trodVars_none hV
  obtain ⟨cs0, rfl, _⟩ := okWide_struct Tryz.underlying24 (hval 0 24 v0 rfl rfl)
  have k0 := h0
  have lt0 : ∀ x ∈ p0, x.block < W.heap.size := by obtain ⟨m, hm⟩ := k0; exact DataW.trod_lt m _ _ _ hm
  obtain ⟨_, hf0⟩ := h0
  obtain ⟨n0, a0, cap0, xs0, hcs0, hm0, hr0, hw0⟩ := open_graph hf0
  obtain rfl : cs0 = #[.int .i64 n0, .slice a0 xs0.length cap0] := Array.toList_inj.1 hcs0
  obtain ⟨a1, rfl, rfl, rfl, w1⟩ := open_int Tryz.underlying3 (hval 1 3 v1 rfl rfl) h1
  obtain ⟨a2, rfl, rfl, rfl, w2⟩ := open_int Tryz.underlying3 (hval 2 3 v2 rfl rfl) h2
  clear hA0 hval0
  refine (recurrentPermutes_walk W n0 a0 cap0 xs0 hm0 hw0 hr0 a1 w1 a2 w2).mono fun e W' ⟨he, bel⟩ => ?_
  subst he
  exact ⟨_, rfl, _, _, _, [], _, [], hW', trodAll_mk1 (shut_bool Tryz.underlying4 _), (trodAll_cons_mk (Below.trod laidOut (by kernel_rfl) (of_decide_eq_true (by kernel_rfl)) k0 bel lt0) (trodAll_cons_mk (shut_int Tryz.underlying3 w1) (trodAll_cons_mk (shut_int Tryz.underlying3 w2) trodAll_mk0))), rfl, bel.frame _, fun h => by cases h⟩

theorem over : Rows.recurrentPermutesRow.holds Tryz.pinned (OpenSpec.ofChange Rows.recurrentPermutesSpec) :=
  OpenClaim.holds_of_wide 4 Tryz.f4 rfl rfl rfl rfl rfl rfl rfl ⟨rfl, rfl, rfl, rfl, rfl⟩ rfl rfl rfl rfl rfl (by kernel_rfl) Tryz.func4 (by kernel_rfl)
    (of_decide_eq_true (by kernel_rfl)) (by unfold Func.isWrapper; first | (rw [if_pos (by decide +kernel)]; kernel_rfl) | (rw [if_neg (by decide +kernel)]; exact ⟨rfl, rfl⟩))
    (fun os started H enc _ => lifted os started H enc)

/-- Adding a chip at a vertex permutes the recurrent configurations; stable configurations above a recurrent one are recurrent. -/
theorem proved : Rows.RecurrentPermutesSaid := over
#print axioms proved
end lawRecurrentPermutes

end Go.Proofs.YtplgbapbgcipdaaGreat
