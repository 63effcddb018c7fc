/-
  For every graph and sink the law TreebijectionRecurs answers true: the recurrent configurations of all trees are recurrent, and all of them. There are no conditions.
-/
import Derived.Test.YtghigdcpinengaaGreatK45
import Derived.Test.YtghigdcpinengaaGreatK16
import Derived.Test.YtghigdcpinengaaGreatK44
import Derived.Test.YtghigdcpinengaaGreatK38
import Derived.Test.YtghigdcpinengaaGreatK37
import Derived.Test.YtghigdcpinengaaGreatK42
import Derived.Test.YtghigdcpinengaaGreatK11
namespace Go.Proofs.YtghigdcpinengaaGreat
open Go.RowKit

set_option maxRecDepth 100000 in
set_option maxHeartbeats 8000000 in
theorem treebijectionRecurs_walk (w : World) (n : Int) (A : Option Addr) (c : Nat) (es : List E3) (_hm : es.length ≤ maxLen) (_hw : (Lit.int .i64 n).wf = true) (h : Reads w w.heap.size 3 A es.length (edgeCells es)) (q : Int) (_hq : (Lit.int .i64 q).wf = true) :
    Calls Tryz.prog 10 #[.agg #[.int .i64 n, .slice A es.length c], .int .i64 q] w fun e w' => e = .returned (.bool true) ∧ Below w.heap.size w w' := by
  have AW := Lib.hid (fun w => awake30_any w)
  have g := Blk.new w 24 #[.int .i64 n, .slice A es.length c]
  have hB : Below w.heap.size w (w.alloc (.cells #[.int .i64 n, .slice A es.length c] 24)) := (Below.refl _ _).alloc (Nat.le_refl _) _
  have k0 := g.cell 0
  have k1 := g.cell 1
  have RC := Lib.hid (fun w h => right30_any n A c es q w h)
  by_cases hr : right30B n es q = true
  · rw [hr] at RC
    obtain ⟨m, p, rfl, rfl, hp, hm5, hlen, hm8, hG, hC, hck, hj, hroot⟩ := right30_parts hr
    have hn0 : 0 < m := by omega
    have hRl : (recsL m es p).length ≤ 16384 := (few_bel hroot hm5 (by rw [size_ends]; exact hm8)).2
    have hE : allE m es p = (recsL m es p, 0) := by unfold allE; rw [if_pos hroot]; rfl
    have hT : tallE m es = ((treesT m (endsL es)).map nI, 0) := by unfold tallE; rw [if_neg (fun hc => hc hj), Int.toNat_natCast]
    have hTl : (treesT m (endsL es)).length ≤ 256 := Nat.le_trans (treesT_length (bd_ends hG) hn0) (Nat.pow_le_pow_right (show 2 > 0 by omega) hm8)
    have TC := Lib.hid (fun w h => tall_any m A c es (by omega) (by rw [hT]; simp; omega) w h)
    have SC := Lib.hid (fun w h => rall_any m A c es (by omega) p (by rw [hE]; exact hRl) w h)
    rw [hT] at TC
    rw [hE] at SC
    have hz : ∀ t, IsTr m (endsL es) t → recFE m es p (nI t) = (dulL m es (confN (endsL es) m p t) p, 0) := by
      intro t ht
      have h1 : grownErr m es p (nI t) = 0 := by
        unfold grownErr; rw [if_neg (fun h => h (tree_ok hj ht)), if_neg (by omega)]
      unfold recFE
      rw [if_pos h1, nI_toNat]; rfl
    have hmt : ∀ x ∈ (treesT m (endsL es)).map nI, ∃ t, IsTr m (endsL es) t ∧ x = nI t := by
      intro x hx
      obtain ⟨t, ht, rfl⟩ := List.mem_map.1 hx
      exact ⟨t, ((treesT_spec (bd_ends hG) hn0).1 t).1 ht, rfl⟩
    obtain ⟨G, hGG⟩ : ∃ G : List Int → List Int, (fun x => (recFE m es p x).1) = G := ⟨_, rfl⟩
    have hG' : ∀ x, (recFE m es p x).1 = G x := fun x => congrFun hGG x
    have hms : sortG bfI (((treesT m (endsL es)).map nI).map G) = recsL m es p := by
      rw [← recur_sort hroot hj hG hp (by omega) (by omega), List.map_map]
      congr 1
      refine List.map_congr_left fun t ht => ?_
      show G (nI t) = _
      rw [← hG', hz t (((treesT_spec (bd_ends hG) hn0).1 t).1 ht)]
    have hgl : ∀ x ∈ (treesT m (endsL es)).map nI, (G x).length ≤ 1000 := by
      intro x hx
      obtain ⟨t, ht, rfl⟩ := hmt x hx
      rw [← hG', hz t ht, dulL_length]; omega
    have PC : Hid (∀ (x : List Int), x ∈ (treesT m (endsL es)).map nI → ∀ (B : Option Addr) (d : Nat) (w : World) (_ : Reads w w.heap.size 3 A es.length (edgeCells es)) (_ : Reads w w.heap.size 1 B x.length (ints x)), Calls Tryz.prog 22 #[.agg #[.int .i64 m, .slice A es.length c], .int .i64 p, .slice B x.length d] w fun e w' => ∃ A' c', e = .returned (.tuple #[.slice A' (G x).length c', .int .i64 0]) ∧ OwnI w' w.heap.size A' c' (G x) ∧ Below w.heap.size w w') := by
      intro x hx B d w h h'
      obtain ⟨t, ht, hxt⟩ := hmt x hx
      have hxl : x.length ≤ 1048576 := by
        have := ht.len
        rw [hxt, nI_length]; omega
      have h1 := recur30_any m p A c es (by omega) (fun _ => by omega) B d x hxl w h h'
      have h2 : (recFE m es p x).2 = 0 := by rw [hxt, hz t ht]
      rw [hG', h2] at h1
      exact h1
    obtain ⟨X, hX⟩ : ∃ X, recsL m es p = X := ⟨_, rfl⟩
    obtain ⟨T, hTT⟩ : ∃ T, (treesT m (endsL es)).map nI = T := ⟨_, rfl⟩
    have hTl2 : T.length = (treesT m (endsL es)).length := by rw [← hTT, List.length_map]
    rw [hX] at SC hms
    rw [hTT] at TC PC hms hgl
    dsimp only at TC SC
    rw [← hTl2] at hTl
    have hsl : X.length = T.length := by rw [← hms, sortG_length, List.length_map]
    rw [hsl] at SC
    obtain ⟨N, hN⟩ : ∃ N, T.length = N := ⟨_, rfl⟩
    rw [hN] at SC TC hsl hTl
    have OC : Hid (∀ (A : Option Addr) (c : Nat) (w : World) (_ : RowsR w w.heap.size A (T.map G)), Calls Tryz.prog 46 #[.slice A N c] w fun e w' => ∃ A' c', e = .returned (.slice A' N c') ∧ RowsR w' w'.heap.size A' X ∧ Below w.heap.size w w') := by
      intro A c w h
      have := rordR_any A c (T.map G) (by rw [List.length_map]; omega) (fun x hx => by obtain ⟨y, hy, rfl⟩ := List.mem_map.1 hx; have := hgl y hy; omega) w h
      rw [List.length_map, hN, hms] at this
      exact this
    have hXl : ∀ x ∈ X, x.length ≤ 1000 := by
      intro x hx
      rw [← hms] at hx
      obtain ⟨y, hy, rfl⟩ := List.mem_map.1 ((sortG_perm (lt := bfI) _).mem_iff.1 hx)
      exact hgl y hy
    have EQ : Hid (∀ (x : List Int), x ∈ X → ∀ (A : Option Addr) (c : Nat) (B : Option Addr) (d : Nat) (w : World) (_ : Reads w w.heap.size 1 A x.length (ints x)) (_ : Reads w w.heap.size 1 B x.length (ints x)), Calls Tryz.prog 28 #[.slice A x.length c, .slice B x.length d] w fun e w' => e = .returned (.bool true) ∧ Below w.heap.size w w') := by
      intro x hx A c B d w h h'
      have := dequal_any A c x B d x (by have := hXl x hx; omega) w h h'
      rw [decide_eq_true rfl] at this
      exact this
    have HXN := Lib.hid hsl
    have HTN := Lib.hid hN
    clear hr hroot hck hj hC hE hT hms hXl hgl hG' hGG hmt hX hTT hTl2 hsl hRl hn0 hN hz hG
    go_enter Tryz.func10, Tryz.ntmps10
    go_wp2_with fail
    refine (RC.out _ ((h.below hB).more hB.size)).mono ?_
    rintro e wn ⟨rfl, hb⟩
    have g := g.next hb
    have hB := hB.trans (hb.mono hB.size)
    have k0 := g.cell 0
    have k1 := g.cell 1
    clear hb
    go_wp2_with fail
    refine (TC.out _ ((h.below hB).more hB.size)).mono ?_
    rintro e wn ⟨At, dt, vt, rfl, qt, hb⟩
    have g := g.next hb
    have hB := hB.trans (hb.mono hB.size)
    have k0 := g.cell 0
    have k1 := g.cell 1
    clear hb
    have q2 := qt.reads
    clear qt
    go_wp2_with fail
    refine (SC.out _ ((h.below hB).more hB.size)).mono ?_
    rintro e wn ⟨As, ds, rfl, q3, hb⟩
    have q2 := q2.next hb
    have g := g.next hb
    have hB := hB.trans (hb.mono hB.size)
    have k0 := g.cell 0
    have k1 := g.cell 1
    clear hb
    have Q2 := Lib.hid q2
    have Q3 := Lib.hid q3
    have HB := Lib.hid hB
    have HG := Lib.hid g
    have hz4 := hB.size
    clear q2 q3 hB k0 k1 g
    go_wp2_with fail
    go_loopw [9, 45] (fun o i wr => ∃ (k : Nat) (A' : Option Addr) (c' : Nat) (vs : List Value) (L : List (List Int)), k ≤ N ∧ i = .int .i64 k ∧ o = .slice A' k c' ∧ L.length = k ∧ Hid ((T.take k).map G = L) ∧ Hid (OwnRows wr wn.heap.size A' c' vs L) ∧ Hid (Below wn.heap.size wn wr)) (fun _ i _ => N - (intOf i).toNat)
    case atStart => exact ⟨0, none, 0, [], [], by omega, rfl, rfl, rfl, by simp [Hid], OwnRows.nil_ _ _, Below.refl _ _⟩
    case round =>
      obtain ⟨k, A', c', vs, L, hk, rfl, rfl, hLl, HL, HO, HW⟩ := hrel
      obtain ⟨wo, hwo⟩ : ∃ wo : World, wo = wr := ⟨wr, rfl⟩
      subst hwo
      have hsz := HW.out.size
      by_cases hlt : k < N
      · have hi : (k : Int) < (N : Int) := by omega
        obtain ⟨x, hx⟩ := get_of_lt (xs := T) (k := k) (by rw [HTN.out]; exact hlt)
        obtain ⟨b1, o1, A1, c1, hA1, hb1, e1, r1⟩ := (Q2.out.below HW.out).at_ hx
        subst hA1
        have g2 := HG.out.next HW.out
        have k0 := g2.cell 0
        have k1 := g2.cell 1
        have HBw := Lib.hid (HB.out.trans (HW.out.mono hz4))
        have hLs : Hid ((T.take (k + 1)).map G = L ++ [G x]) := by
          rw [Hid, take_snoc hx, List.map_append, HL.out]; rfl
        have PX := Lib.hid (fun B d w h h' => PC.out x (List.mem_of_getElem? hx) B d w h h')
        have RX := Lib.hid (r1.more hsz)
        clear hx r1 HL g2
        go_wp2_with fail
        refine (PX.out _ _ _ ((h.below HBw.out).more HBw.out.size) RX.out).mono ?_
        rintro e w5 ⟨A5, c5, rfl, o5, hb5⟩
        have HW5 : Hid (Below wn.heap.size wn w5) := HW.out.trans (hb5.mono hsz)
        have HO5 := Lib.hid (HO.out.next hb5)
        have O5 := Lib.hid (o5.mono hsz)
        have hs5 := HW5.out.size
        obtain ⟨l2, hl2⟩ : ∃ l, (G x).length = l := ⟨_, rfl⟩
        rw [hl2]
        have HL2 := Lib.hid hl2
        have ow5 : w5.ownsRow wn.heap.size 25 1 (.slice A' k c') k vs := by have := HO5.out.1; rw [hLl] at this; exact this
        clear o5 hb5 hl2
        go_wp2_with (at_builtin; refine append_go rfl (.tmp 58) (.tmp 60) _ rfl wn.heap.size 25 Tryz.underlying39 info_row rfl (by omega) A' c' k vs rfl (World.ownsRow.alloc ow5 _) _ [.slice A5 l2 c5] rfl (Reads.box _ _ _) (by simp [Value.oneCell']) (by omega) (by simp; omega) ?_; intro A6 c6 w6 hown6 hg6 hb6 hw6)
        have B6 := (HW5.out.alloc hs5 (.cells #[.slice A5 l2 c5] 25)).trans hb6
        have HO6 : Hid (OwnRows w6 wn.heap.size A6 c6 (vs ++ [.slice A5 (G x).length c5]) (L ++ [G x])) := (HO5.out.next ((Below.refl _ _).alloc (Nat.le_refl _) (.cells #[.slice A5 l2 c5] 25))).push (OwnI.alloc O5.out _) (by rw [hLl, HL2.out]; exact hown6) (by rw [hLl]; exact hg6)
        go_roundw
        case rel => exact ⟨k + 1, A6, c6, _, L ++ [G x], by omega, by go_num, rfl, by simp [hLl], hLs.out, HO6.out, B6⟩
        case measure => simp [intOf]; omega
      · obtain rfl : k = N := by omega
        have hf : ¬ (k : Int) < (k : Int) := by omega
        have hfull : T.map G = L := by rw [← HL.out, List.take_of_length_le (by rw [HTN.out]; exact Nat.le_refl _)]
        have R1 := HO.out.reads
        rw [← hfull] at R1
        have R2 := (Q3.out.below HW.out).more hsz
        have hB := HB.out.trans (HW.out.mono hz4)
        clear hfull
        go_wp2_with fail
        refine (OC.out _ _ _ R1).mono ?_
        rintro e w5 ⟨A5, c5, rfl, R5, hb⟩
        have HB5 := Lib.hid (hB.trans (hb.mono hB.size))
        have RX := Lib.hid (R2.next hb)
        have RY := Lib.hid R5
        have hz5 := HB5.out.size
        clear hb R1 R2 R5 hB HL HO HW HB HG Q2 Q3 PC OC TC SC RC
        go_wp2_with fail
        go_loopw [67] (fun i wr => ∃ (j : Nat), j ≤ k ∧ i = .int .i64 j ∧ Hid (Below w5.heap.size w5 wr)) (fun i _ => k - (intOf i).toNat)
        case atStart => exact ⟨0, by omega, rfl, Below.refl _ _⟩
        case round =>
          obtain ⟨j, hj, rfl, HW⟩ := hrel
          have hsj := HW.out.size
          by_cases hlj : j < k
          · have hij : (j : Int) < (k : Int) := by omega
            obtain ⟨x, hx⟩ := get_of_lt (xs := X) (k := j) (by rw [HXN.out]; exact hlj)
            obtain ⟨b1, o1, A1, c1, hA1, hb1, e1, r1⟩ := (RX.out.below HW.out).at_ hx
            subst hA1
            obtain ⟨b2, o2, A2, c2, hA2, hb2, e2, r2⟩ := (RY.out.below HW.out).at_ hx
            subst hA2
            have EX := Lib.hid (EQ.out x (List.mem_of_getElem? hx) A1 c1 A2 c2 _ (r1.more hsj) (r2.more hsj))
            clear hx r1 r2
            go_wp2_with fail
            refine (EX.out).mono ?_
            rintro e w7 ⟨rfl, hb7⟩
            have HW7 : Hid (Below w5.heap.size w5 w7) := HW.out.trans (hb7.mono hsj)
            go_wp2
            go_roundw
            case rel => exact ⟨j + 1, by omega, by go_num, HW7.out⟩
            case measure => simp [intOf]; omega
          · obtain rfl : j = k := by omega
            have hf : ¬ (j : Int) < (j : Int) := by omega
            have hB := HB5.out.trans (HW.out.mono hz5)
            go_wp2_with fail
            refine (AW.out _).mono ?_
            rintro e w7 ⟨rfl, hb⟩
            have hB := hB.trans (hb.mono hB.size)
            go_wp2
            go_ret
            exact ⟨rfl, hB⟩
  · have hr : right30B n es q = false := by rw [← Bool.not_eq_true]; exact hr
    rw [hr] at RC
    clear hr
    go_enter Tryz.func10, Tryz.ntmps10
    go_wp2_with fail
    refine (RC.out _ ((h.below hB).more hB.size)).mono ?_
    rintro e wn ⟨rfl, hb⟩
    have g := g.next hb
    have hB := hB.trans (hb.mono hB.size)
    have k0 := g.cell 0
    have k1 := g.cell 1
    clear hb
    go_wp2_with fail
    refine (AW.out _).mono ?_
    rintro e wn ⟨rfl, hb⟩
    have hB := hB.trans (hb.mono hB.size)
    go_wp2
    go_ret
    exact ⟨rfl, hB⟩

namespace lawTreebijectionRecurs
open Go.ChangeShapes Go.WideShapes Go.ChangeAt Go.RowKit
set_option linter.unusedVariables false
set_option maxRecDepth 100000 in
theorem lifted (os : Os) (started : os.Started) (H : Type) (enc : TypeId × Value → H) :
    ReturnsInHanded {} Tryz.checked os 10 .any (Rows.treebijectionRecursSpec.pre6 enc Tryz.prog Tryz.f10 Rows.treebijectionRecursRow.domain false) (Rows.treebijectionRecursSpec.post enc Tryz.prog Tryz.f10 false true false false) := by
  refine returnsInHanded_of_change (C := Tryz.checked) own started (by kernel_rfl) Tryz.func10
    (ChangeSpec.witness6 (enc := enc) (C := Tryz.checked) false ⟨#[], #[.agg #[.int .i64 0, .slice none 0 0], .int .i64 0], []⟩ 8 (by kernel_rfl) (by kernel_rfl) (by kernel_rfl) (by kernel_rfl)) ?_
  intro W base args ds gs before hval0 hW hcnd _
  have hval : ∀ (j : Nat) t v, Tryz.f10.params[j]? = some t → args[j]? = some v → Value.okWide Tryz.prog W .any base t v := hval0
  have hW' := hW
  obtain ⟨p, q, hA0, hV, rfl, hfz, hnd⟩ := hW
  have hA : DataW.TrodAll enc Tryz.prog W 0 (fun _ => true) true Tryz.f10.params.toList args.toList ds p := hA0
  rw [Tryz.params10] at hA hval
  obtain ⟨v0, vs0, d0, ds0, p0, q0, hargs, rfl, rfl, h0, r0⟩ := trodAll_cons hA
  obtain ⟨v1, vs1, d1, ds1, p1, q1, rfl, rfl, rfl, h1, r1⟩ := trodAll_cons r0
  obtain ⟨rfl, rfl, rfl⟩ := trodAll_nil r1
  obtain rfl : args = #[v0, v1] := by cases args; simp_all
  obtain ⟨rfl, rfl⟩ := trodVars_none hV
  obtain ⟨cs0, rfl, _⟩ := okWide_struct Tryz.underlying24 (hval 0 24 v0 rfl rfl)
  have k0 := h0
  have lt0 : ∀ x ∈ p0, x.block < W.heap.size := by obtain ⟨m, hm⟩ := k0; exact DataW.trod_lt m _ _ _ hm
  obtain ⟨_, hf0⟩ := h0
  obtain ⟨n0, a0, cap0, xs0, hcs0, hm0, hr0, hw0⟩ := open_graph hf0
  obtain rfl : cs0 = #[.int .i64 n0, .slice a0 xs0.length cap0] := Array.toList_inj.1 hcs0
  obtain ⟨a1, rfl, rfl, rfl, w1⟩ := open_int Tryz.underlying3 (hval 1 3 v1 rfl rfl) h1
  clear hA0 hval0
  refine (treebijectionRecurs_walk W n0 a0 cap0 xs0 hm0 hw0 hr0 a1 w1).mono fun e W' ⟨he, bel⟩ => ?_
  subst he
  exact ⟨_, rfl, _, _, _, [], _, [], hW', trodAll_mk1 (shut_bool Tryz.underlying4 _), (trodAll_cons_mk (Below.trod laidOut (by kernel_rfl) (of_decide_eq_true (by kernel_rfl)) k0 bel lt0) (trodAll_cons_mk (shut_int Tryz.underlying3 w1) trodAll_mk0)), rfl, bel.frame _, fun h => by cases h⟩

theorem over : Rows.treebijectionRecursRow.holds Tryz.pinned (OpenSpec.ofChange Rows.treebijectionRecursSpec) :=
  OpenClaim.holds_of_wide 10 Tryz.f10 rfl rfl rfl rfl rfl rfl rfl ⟨rfl, rfl, rfl, rfl, rfl⟩ rfl rfl rfl rfl rfl (by kernel_rfl) Tryz.func10 (by kernel_rfl)
    (of_decide_eq_true (by kernel_rfl)) (by unfold Func.isWrapper; first | (rw [if_pos (by decide +kernel)]; kernel_rfl) | (rw [if_neg (by decide +kernel)]; exact ⟨rfl, rfl⟩))
    (fun os started H enc _ => lifted os started H enc)

/-- For every graph and sink the law answers true: the recurrent configurations of all trees are recurrent, and all of them. -/
theorem proved : Rows.TreebijectionRecursSaid := over
#print axioms proved
end lawTreebijectionRecurs
end Go.Proofs.YtghigdcpinengaaGreat
