/-
  For every graph and sink the law TreebijectionMatches answers true: the pairs have all superstable configurations, and all spanning trees, each once. There are no conditions.
-/
import Derived.Test.YtghigdcpinengaaGreatK42
import Derived.Test.YtghigdcpinengaaGreatK14
import Derived.Test.YtghigdcpinengaaGreatK40
import Derived.Test.YtghigdcpinengaaGreatK35
import Derived.Test.YtghigdcpinengaaGreatK41
import Derived.Test.YtghigdcpinengaaGreatK29
import Derived.Test.YtghigdcpinengaaGreatK19
import Derived.Test.YtghigdcpinengaaGreatK09
import Derived.Deep.RegionHeld3
namespace Go.Proofs.YtghigdcpinengaaGreat
open Go.RowKit

set_option maxRecDepth 100000 in
set_option maxHeartbeats 8000000 in
theorem treebijectionMatches_walk (w : World) (n : Int) (A : Option Addr) (c : Nat) (es : List E3) (_hm : es.length ≤ maxLen) (_hw : (Lit.int .i64 n).wf = true) (h : Reads w w.heap.size 3 A es.length (edgeCells es)) (q : Int) (_hq : (Lit.int .i64 q).wf = true) :
    Calls Tryz.prog 9 #[.agg #[.int .i64 n, .slice A es.length c], .int .i64 q] w fun e w' => e = .returned (.bool true) ∧ Below w.heap.size w w' := by
  have AW := Lib.hid (fun w => awake30_any w)
  have g := Blk.new w 24 #[.int .i64 n, .slice A es.length c]
  have hB : Below w.heap.size w (w.alloc (.cells #[.int .i64 n, .slice A es.length c] 24)) := (Below.refl _ _).alloc (Nat.le_refl _) _
  have k0 := g.cell 0
  have k1 := g.cell 1
  have RC := Lib.hid (fun w h => right30_any n A c es q w h)
  by_cases hr : right30B n es q = true
  · rw [hr] at RC
    obtain ⟨m, p, rfl, rfl, hp, hm5, hlen, hm8, hG, hC, hck, hj, hroot⟩ := right30_parts hr
    have hn0 : 0 < m := by omega
    obtain ⟨_, hS⟩ := few_sup hroot hj hm5 hm8
    have hE : allSE m es p = (supL m es p, 0) := by unfold allSE; rw [if_pos hroot]; rfl
    have hP : pairsE m es p = ((supL m es p).map (pairOf (endsL es) m p), 0) := by unfold pairsE; rw [if_pos hroot]; rfl
    have hT : tallE m es = ((treesT m (endsL es)).map nI, 0) := by unfold tallE; rw [if_neg (fun hc => hc hj), Int.toNat_natCast]
    have hTl : (treesT m (endsL es)).length ≤ 256 := Nat.le_trans (treesT_length (bd_ends hG) hn0) (Nat.pow_le_pow_right (show 2 > 0 by omega) hm8)
    have PC := Lib.hid (fun w h => pairs30_any m p A c es (by omega) (fun _ => by omega) (by rw [hE]; exact hS) w h)
    have TC := Lib.hid (fun w h => tall_any m A c es (by omega) (by rw [hT]; simp; omega) w h)
    have SC := Lib.hid (fun w h => sall_any m p A c es (by omega) (by rw [hE]; exact hS) w h)
    rw [hP] at PC
    rw [hT] at TC
    rw [hE] at SC
    have hsl : (supL m es p).length = (treesT m (endsL es)).length := by
      have := (match_perm hroot hj hG hp (by omega)).length_eq
      rwa [List.length_map] at this
    have hms := match_sort hroot hj hG hp (by omega)
    have hcf : ∀ x ∈ supL m es p, x.length ≤ 1000 := fun x hx => by
      have := cfg_len (((supL_mem hroot hj hG hp (by omega)).2 x).1 hx)
      omega
    have hF2 : (fun c => nI (treeN (endsL es) m p c)) = fun c => (pairOf (endsL es) m p c).2 := rfl
    have hF1 : ∀ c, (pairOf (endsL es) m p c).1 = c := fun c => rfl
    have hFl : ∀ c, (pairOf (endsL es) m p c).2.length ≤ 1000 := fun c => by
      show (nI (treeN (endsL es) m p c)).length ≤ 1000
      rw [nI_length]
      exact Nat.le_trans treeN_len (by omega)
    rw [hF2] at hms
    have htl : ∀ x ∈ (treesT m (endsL es)).map nI, x.length ≤ 1000 := by
      intro x hx
      rw [← hms] at hx
      obtain ⟨y, _, rfl⟩ := List.mem_map.1 ((sortG_perm (lt := bfI) _).mem_iff.1 hx)
      exact hFl y
    obtain ⟨F, hF⟩ : ∃ F, pairOf (endsL es) m p = F := ⟨_, rfl⟩
    obtain ⟨X, hX⟩ : ∃ X, supL m es p = X := ⟨_, rfl⟩
    obtain ⟨T, hTT⟩ : ∃ T, (treesT m (endsL es)).map nI = T := ⟨_, rfl⟩
    have hTl2 : T.length = (treesT m (endsL es)).length := by rw [← hTT, List.length_map]
    rw [hF] at PC hms hF1 hFl
    rw [hX] at PC SC hms hsl hcf
    rw [hTT] at TC hms htl
    dsimp only at PC TC SC
    rw [List.length_map] at PC
    rw [← hTl2] at hsl hTl
    rw [← hsl] at TC
    rw [hsl] at PC SC TC
    obtain ⟨N, hN⟩ : ∃ N, T.length = N := ⟨_, rfl⟩
    rw [hN] at PC SC TC hsl hTl
    have OC : Hid (∀ (A : Option Addr) (c : Nat) (w : World) (_ : RowsR w w.heap.size A (X.map fun c => (F c).2)), Calls Tryz.prog 46 #[.slice A N c] w fun e w' => ∃ A' c', e = .returned (.slice A' N c') ∧ RowsR w' w'.heap.size A' T ∧ Below w.heap.size w w') := by
      intro A c w h
      have := rordR_any A c (X.map fun c => (F c).2) (by rw [List.length_map]; omega) (fun x hx => by obtain ⟨y, _, rfl⟩ := List.mem_map.1 hx; have := hFl y; omega) w h
      rw [List.length_map, hsl, hms] at this
      exact this
    have SL : Hid (∀ (A : Option Addr) (c : Nat) (B : Option Addr) (d : Nat) (w : World) (_ : RowsR w w.heap.size A T) (_ : RowsR w w.heap.size B T), Calls Tryz.prog 16 #[.slice A N c, .slice B N d] w fun e w' => e = .returned (.bool true) ∧ Below w.heap.size w w') := by
      intro A c B d w h h'
      have := samelists_any A c T B d T (fun x hx => by have := htl x hx; omega) (by omega) w h h'
      rw [decide_eq_true rfl, hN] at this
      exact this
    have EQ : Hid (∀ (x : List Int), x ∈ X → ∀ (A : Option Addr) (c : Nat) (B : Option Addr) (d : Nat) (w : World) (_ : Reads w w.heap.size 1 A x.length (ints x)) (_ : Reads w w.heap.size 1 B x.length (ints x)), Calls Tryz.prog 28 #[.slice A x.length c, .slice B x.length d] w fun e w' => e = .returned (.bool true) ∧ Below w.heap.size w w') := by
      intro x hx A c B d w h h'
      have := dequal_any A c x B d x (by have := hcf x hx; omega) w h h'
      rw [decide_eq_true rfl] at this
      exact this
    have HXN := Lib.hid hsl
    have HF1 := Lib.hid hF1
    clear hr hroot hck hj hG hC hE hP hT hms hcf hF2 hF1 hFl htl hF hX hTT hTl2 hsl hS hn0
    clear hN
    go_enter Tryz.func9, Tryz.ntmps9
    go_wp2_with fail
    refine (RC.out _ ((h.below hB).more hB.size)).mono ?_
    rintro e wn ⟨rfl, hb⟩
    have g := g.next hb
    have hB := hB.trans (hb.mono hB.size)
    have k0 := g.cell 0
    have k1 := g.cell 1
    clear hb
    go_wp2_with fail
    refine (PC.out _ ((h.below hB).more hB.size)).mono ?_
    rintro e wn ⟨Ap, dp, rfl, q1, hb⟩
    have g := g.next hb
    have hB := hB.trans (hb.mono hB.size)
    have k0 := g.cell 0
    have k1 := g.cell 1
    clear hb
    go_wp2_with fail
    refine (TC.out _ ((h.below hB).more hB.size)).mono ?_
    rintro e wn ⟨At, dt, vt, rfl, qt, hb⟩
    have q1 := q1.next hb
    have g := g.next hb
    have hB := hB.trans (hb.mono hB.size)
    have k0 := g.cell 0
    have k1 := g.cell 1
    clear hb
    have q2 := qt.reads
    clear qt
    go_wp2_with fail
    refine (SC.out _ ((h.below hB).more hB.size)).mono ?_
    rintro e wn ⟨As, ds, rfl, q3, hb⟩
    have q1 := q1.next hb
    have q2 := q2.next hb
    have g := g.next hb
    have hB := hB.trans (hb.mono hB.size)
    have k0 := g.cell 0
    have k1 := g.cell 1
    clear hb
    have Q1 := Lib.hid q1
    have Q2 := Lib.hid q2
    have Q3 := Lib.hid q3
    have HB := Lib.hid hB
    have hz4 := hB.size
    clear q1 q2 q3 hB k0 k1
    go_wp2_with fail
    go_loopw [11, 58] (fun o i wr => ∃ (k : Nat) (A' : Option Addr) (c' : Nat) (vs : List Value) (L : List (List Int)), k ≤ N ∧ i = .int .i64 k ∧ o = .slice A' k c' ∧ L.length = k ∧ Hid ((X.take k).map (fun c => (F c).2) = L) ∧ Hid (SharI wn wr A' c' vs L) ∧ Hid (Below wn.heap.size wn wr)) (fun _ i _ => N - (intOf i).toNat)
    case atStart => exact ⟨0, none, 0, [], [], by omega, rfl, rfl, rfl, by simp [Hid], SharI.nil_ _ _, Below.refl _ _⟩
    case round =>
      obtain ⟨k, A', c', vs, L, hk, rfl, rfl, hLl, HL, SH, HW⟩ := hrel
      obtain ⟨wo, hwo⟩ : ∃ wo : World, wo = wr := ⟨wr, rfl⟩
      subst hwo
      have hsz := HW.out.size
      by_cases hlt : k < N
      · have hi : (k : Int) < (N : Int) := by omega
        obtain ⟨x, hx⟩ := get_of_lt (xs := X) (k := k) (by rw [HXN.out]; exact hlt)
        have hpx : (X.map F)[k]? = some (F x) := by rw [List.getElem?_map, hx]; rfl
        obtain ⟨b1, o1, A1, c1, A2, c2, hA1, hb1, e1, e2, r1, r2⟩ := (Q1.out.below HW.out).at_ hpx
        subst hA1
        obtain ⟨b3, o3, A3, c3, hA3, hb3, e3, r3⟩ := (Q3.out.below HW.out).at_ hx
        subst hA3
        have hLs : Hid ((X.take (k + 1)).map (fun c => (F c).2) = L ++ [(F x).2]) := by
          rw [Hid, take_snoc hx, List.map_append, HL.out]; rfl
        have EX := Lib.hid (fun A c B d w h h' => EQ.out x (List.mem_of_getElem? hx) A c B d w h h')
        have R2 : Hid (Reads wn wn.heap.size 1 A2 (F x).2.length (ints (F x).2)) := by
          obtain ⟨b1', o1', A1', c1', A2', c2', hA1', hb1', e1', e2', r1', r2'⟩ := Q1.out.at_ hpx
          have h1 := (HW.out.cell (p := ⟨b1', o1' + k * 2 + 1, none⟩) hb1').trans e2'
          injection hA1' with hA1'
          injection hA1' with hA1' hA2'
          subst hA1' hA2'
          rw [h1] at e2
          injection e2 with e2
          injection e2 with e2
          subst e2
          exact r2'
        rw [HF1.out] at e1 r1
        obtain ⟨l1, hl1⟩ : ∃ l, x.length = l := ⟨_, rfl⟩
        obtain ⟨l2, hl2⟩ : ∃ l, (F x).2.length = l := ⟨_, rfl⟩
        rw [hl1] at e1 e3 EX
        rw [hl2] at e2
        have r1' : Reads wo wn.heap.size 1 A1 l1 (ints x) := by rw [← hl1]; exact r1
        have r3' : Reads wo wn.heap.size 1 A3 l1 (ints x) := by rw [← hl1]; exact r3
        have HL2 := Lib.hid hl2
        obtain ⟨Wk, hWk⟩ : ∃ Wk, wo.alloc (.cells #[.slice A1 l1 c1, .slice A2 l2 c2] 78) = Wk := ⟨_, rfl⟩
        have nb : Blk Wk wo.heap.size 78 #[.slice A1 l1 c1, .slice A2 l2 c2] := by rw [← hWk]; exact Blk.newF rfl
        have bk : Below wo.heap.size wo Wk := by rw [← hWk]; exact (Below.refl _ _).alloc (Nat.le_refl _) _
        have n0 := nb.cell 0
        have n1 := nb.cell 1
        have n3 := (bk.cell (p := ⟨b3, o3 + k, none⟩) (by show b3 < wo.heap.size; omega)).trans e3
        have hnl := nb.lt
        have RA := Lib.hid ((r1'.below (bk.mono hsz)).more (show wn.heap.size ≤ Wk.heap.size by omega))
        have RB := Lib.hid ((r3'.below (bk.mono hsz)).more (show wn.heap.size ≤ Wk.heap.size by omega))
        have BK := Lib.hid bk
        have HWk := Lib.hid hWk
        have LW : ∀ p : Addr, (wo.alloc (.cells #[.slice A1 l1 c1, .slice A2 l2 c2] 78)).cell? p = Wk.cell? p := fun p => by rw [hWk]
        clear hpx r1 r2 r3 r1' r3' hx hl1 hl2 bk hWk nb HL
        go_wp2_with fail
        try rw [HWk.out]
        go_region_held3 (fun W => W.cell? ⟨wo.heap.size, 0, none⟩ = some (.slice A1 l1 c1) ∧ W.cell? ⟨b3, o3 + k, none⟩ = some (.slice A3 l1 c3)) (go_keep)
          (first | (go_at_call 28; refine (EX.out _ _ _ _ _ (by exact RA.out) (by exact RB.out)).mono ?_; rintro e w5 ⟨rfl, hb5⟩
                    have m0 := (hb5.cell (p := ⟨wo.heap.size, 0, none⟩) (by exact hnl)).trans n0
                    have m1 := (hb5.cell (p := ⟨wo.heap.size, 1, none⟩) (by exact hnl)).trans n1
                    have m3 := (hb5.cell (p := ⟨b3, o3 + k, none⟩) (by show b3 < Wk.heap.size; omega)).trans n3))
        have hb5' : Below wo.heap.size wo w5 := (BK.out.drew).trans (hb5.mono BK.out.size)
        have HW5 : Hid (Below wn.heap.size wn w5) := HW.out.trans (hb5'.mono hsz)
        have SH5 := Lib.hid (SH.out.next hb5')
        have hs5 := HW5.out.size
        have ow5 : w5.ownsRow wn.heap.size 25 1 (.slice A' k c') k vs := by have := SH5.out.1; rw [hLl] at this; exact this
        clear hb5 hb5'
        go_wp2_with (at_builtin; refine append_go rfl (.tmp 71) (.tmp 74) _ rfl wn.heap.size 25 Tryz.underlying39 info_row rfl (by omega) A' c' k vs rfl (World.ownsRow.alloc ow5 _) _ [.slice A2 l2 c2] rfl (Reads.box _ _ _) (by simp [Value.oneCell']) (by omega) (by simp; omega) ?_; intro A6 c6 w6 hown6 hg6 hb6 hw6)
        have B6 := (HW5.out.alloc hs5 (.cells #[.slice A2 l2 c2] 25)).trans hb6
        have SH6 : Hid (SharI wn w6 A6 c6 (vs ++ [.slice A2 (F x).2.length c2]) (L ++ [(F x).2])) := SH5.out.push R2.out (by rw [hLl, HL2.out]; exact hown6)
        go_roundw
        case rel => exact ⟨k + 1, A6, c6, _, L ++ [(F x).2], by omega, by go_num, rfl, by simp [hLl], hLs.out, SH6.out, B6⟩
        case measure => simp [intOf]; omega
      · obtain rfl : k = N := by omega
        have hf : ¬ (k : Int) < (k : Int) := by omega
        have hfull : X.map (fun c => (F c).2) = L := by rw [← HL.out, List.take_of_length_le (by rw [HXN.out]; exact Nat.le_refl _)]
        have R1 := SH.out.reads HW.out
        rw [← hfull] at R1
        have R2 := (Q2.out.below HW.out).more hsz
        have hB := HB.out.trans (HW.out.mono hz4)
        clear hfull
        go_wp2_with fail
        refine (OC.out _ _ _ R1).mono ?_
        rintro e w5 ⟨A5, c5, rfl, R5, hb⟩
        have hB := hB.trans (hb.mono hB.size)
        have R2 := R2.next hb
        clear hb
        go_wp2_with fail
        refine (SL.out _ _ _ _ _ R5 R2).mono ?_
        rintro e w6 ⟨rfl, hb⟩
        have hB := hB.trans (hb.mono hB.size)
        clear hb
        go_wp2_with fail
        refine (AW.out _).mono ?_
        rintro e w7 ⟨rfl, hb⟩
        have hB := hB.trans (hb.mono hB.size)
        go_wp2
        go_ret
        exact ⟨rfl, hB⟩
  · have hr : right30B n es q = false := by rw [← Bool.not_eq_true]; exact hr
    rw [hr] at RC
    clear hr
    go_enter Tryz.func9, Tryz.ntmps9
    go_wp2_with fail
    refine (RC.out _ ((h.below hB).more hB.size)).mono ?_
    rintro e wn ⟨rfl, hb⟩
    have g := g.next hb
    have hB := hB.trans (hb.mono hB.size)
    have k0 := g.cell 0
    have k1 := g.cell 1
    clear hb
    go_wp2_with fail
    refine (AW.out _).mono ?_
    rintro e wn ⟨rfl, hb⟩
    have hB := hB.trans (hb.mono hB.size)
    go_wp2
    go_ret
    exact ⟨rfl, hB⟩

namespace lawTreebijectionMatches
open Go.ChangeShapes Go.WideShapes Go.ChangeAt Go.RowKit
set_option linter.unusedVariables false
set_option maxRecDepth 100000 in
theorem lifted (os : Os) (started : os.Started) (H : Type) (enc : TypeId × Value → H) :
    ReturnsInHanded {} Tryz.checked os 9 .any (Rows.treebijectionMatchesSpec.pre6 enc Tryz.prog Tryz.f9 Rows.treebijectionMatchesRow.domain false) (Rows.treebijectionMatchesSpec.post enc Tryz.prog Tryz.f9 false true false false) := by
  refine returnsInHanded_of_change (C := Tryz.checked) own started (by kernel_rfl) Tryz.func9
    (ChangeSpec.witness6 (enc := enc) (C := Tryz.checked) false ⟨#[], #[.agg #[.int .i64 0, .slice none 0 0], .int .i64 0], []⟩ 8 (by kernel_rfl) (by kernel_rfl) (by kernel_rfl) (by kernel_rfl)) ?_
  intro W base args ds gs before hval0 hW hcnd _
  have hval : ∀ (j : Nat) t v, Tryz.f9.params[j]? = some t → args[j]? = some v → Value.okWide Tryz.prog W .any base t v := hval0
  have hW' := hW
  obtain ⟨p, q, hA0, hV, rfl, hfz, hnd⟩ := hW
  have hA : DataW.TrodAll enc Tryz.prog W 0 (fun _ => true) true Tryz.f9.params.toList args.toList ds p := hA0
  rw [Tryz.params9] at hA hval
  obtain ⟨v0, vs0, d0, ds0, p0, q0, hargs, rfl, rfl, h0, r0⟩ := trodAll_cons hA
  obtain ⟨v1, vs1, d1, ds1, p1, q1, rfl, rfl, rfl, h1, r1⟩ := trodAll_cons r0
  obtain ⟨rfl, rfl, rfl⟩ := trodAll_nil r1
  obtain rfl : args = #[v0, v1] := by cases args; simp_all
  obtain ⟨rfl, rfl⟩ := trodVars_none hV
  obtain ⟨cs0, rfl, _⟩ := okWide_struct Tryz.underlying24 (hval 0 24 v0 rfl rfl)
  have k0 := h0
  have lt0 : ∀ x ∈ p0, x.block < W.heap.size := by obtain ⟨m, hm⟩ := k0; exact DataW.trod_lt m _ _ _ hm
  obtain ⟨_, hf0⟩ := h0
  obtain ⟨n0, a0, cap0, xs0, hcs0, hm0, hr0, hw0⟩ := open_graph hf0
  obtain rfl : cs0 = #[.int .i64 n0, .slice a0 xs0.length cap0] := Array.toList_inj.1 hcs0
  obtain ⟨a1, rfl, rfl, rfl, w1⟩ := open_int Tryz.underlying3 (hval 1 3 v1 rfl rfl) h1
  clear hA0 hval0
  refine (treebijectionMatches_walk W n0 a0 cap0 xs0 hm0 hw0 hr0 a1 w1).mono fun e W' ⟨he, bel⟩ => ?_
  subst he
  exact ⟨_, rfl, _, _, _, [], _, [], hW', trodAll_mk1 (shut_bool Tryz.underlying4 _), (trodAll_cons_mk (Below.trod laidOut (by kernel_rfl) (of_decide_eq_true (by kernel_rfl)) k0 bel lt0) (trodAll_cons_mk (shut_int Tryz.underlying3 w1) trodAll_mk0)), rfl, bel.frame _, fun h => by cases h⟩

theorem over : Rows.treebijectionMatchesRow.holds Tryz.pinned (OpenSpec.ofChange Rows.treebijectionMatchesSpec) :=
  OpenClaim.holds_of_wide 9 Tryz.f9 rfl rfl rfl rfl rfl rfl rfl ⟨rfl, rfl, rfl, rfl, rfl⟩ rfl rfl rfl rfl rfl (by kernel_rfl) Tryz.func9 (by kernel_rfl)
    (of_decide_eq_true (by kernel_rfl)) (by unfold Func.isWrapper; first | (rw [if_pos (by decide +kernel)]; kernel_rfl) | (rw [if_neg (by decide +kernel)]; exact ⟨rfl, rfl⟩))
    (fun os started H enc _ => lifted os started H enc)

/-- For every graph and sink the law answers true: the pairs have all superstable configurations, and all spanning trees, each once. -/
theorem proved : Rows.TreebijectionMatchesSaid := over
#print axioms proved
end lawTreebijectionMatches
end Go.Proofs.YtghigdcpinengaaGreat
