/-
  For every graph and sink the law TreebijectionLists answers true: Pairs returns the pairs of the reference, or the specified error. There are no conditions.
-/
import Derived.Test.YtghigdcpinengaaGreatK43
import Derived.Test.YtghigdcpinengaaGreatK51
import Derived.Deep.RegionHeld3
namespace Go.Proofs.YtghigdcpinengaaGreat
open Go.RowKit

set_option maxRecDepth 100000 in
set_option maxHeartbeats 8000000 in
theorem treebijectionLists_walk (w : World) (n : Int) (A : Option Addr) (c : Nat) (es : List E3) (_hm : es.length ≤ maxLen) (_hw : (Lit.int .i64 n).wf = true) (h : Reads w w.heap.size 3 A es.length (edgeCells es)) (q : Int) (_hq : (Lit.int .i64 q).wf = true) :
    Calls Tryz.prog 8 #[.agg #[.int .i64 n, .slice A es.length c], .int .i64 q] w fun e w' => e = .returned (.bool true) ∧ Below w.heap.size w w' := by
  have AW := Lib.hid (fun w => awake30_any w)
  have g := Blk.new w 24 #[.int .i64 n, .slice A es.length c]
  have hB : Below w.heap.size w (w.alloc (.cells #[.int .i64 n, .slice A es.length c] 24)) := (Below.refl _ _).alloc (Nat.le_refl _) _
  have k0 := g.cell 0
  have k1 := g.cell 1
  have FC := Lib.hid (fun w h => rfewtrees_any n A c es w h)
  by_cases hf : smallB n es 5 8 = true
  · rw [hf] at FC
    obtain ⟨hlen, hsm⟩ := small30 hf
    have RC := Lib.hid (fun w h => rrooted_any n A c es (by omega) q w h)
    by_cases hz : rootErr n es q = 0
    · rw [hz] at RC
      obtain ⟨m, p, rfl, rfl, hp, hG, hC, hck, hj⟩ := root_natF hz
      obtain ⟨h5, h8⟩ := hsm hck
      obtain ⟨hM, hS⟩ := few_sup hz hj (by omega) h8
      have hE : allSE m es p = (supL m es p, 0) := by unfold allSE; rw [if_pos hz]; rfl
      have PC := Lib.hid (fun w h => pairs30_any m p A c es (by omega) (fun _ => by omega) (by rw [hE]; exact hS) w h)
      have RP := Lib.hid (fun w h => rpairs30_any m p A c es hlen (by omega) hz (by omega) hM w h)
      have hP : pairsE m es p = ((supL m es p).map (pairOf (endsL es) m p), 0) := by unfold pairsE; rw [if_pos hz]; rfl
      have hm1 : ∀ x ∈ (pairsE m es p).1, x.1.length ≤ 1000 ∧ x.2.length ≤ 1000 := by
        rw [hP]
        intro x hx
        obtain ⟨y, hy, rfl⟩ := List.mem_map.1 hx
        have hyl := cfg_len (((supL_mem hz hj hG hp (by omega)).2 y).1 hy)
        have hyt := treeN_len (n := m) (q := p) (es := es) (c := y)
        refine ⟨?_, ?_⟩
        · show y.length ≤ 1000; omega
        · show (nI (treeN (endsL es) m p y)).length ≤ 1000
          rw [nI_length]; omega
      have hml : (pairsE m es p).1.length ≤ 1000000 := by rw [hP, List.length_map]; omega
      have h20 : (pairsE m es p).2 = 0 := by rw [hP]
      rw [h20] at PC
      obtain ⟨X, hX⟩ : ∃ X, (pairsE m es p).1 = X := ⟨_, rfl⟩
      rw [hX] at PC RP hm1 hml
      have OC := Lib.hid (fun B d w h => own30_any B d X hml w h)
      have SP := Lib.hid (fun B d B' d' w h h' => samePairs_true B d B' d' X hm1 hml w h h')
      obtain ⟨N, hN⟩ : ∃ N, X.length = N := ⟨_, rfl⟩
      rw [hN] at PC RP OC SP
      clear hf hz hsm hX hN hm1 hml h20 hP hE hM hS hG hC hck hj
      go_enter Tryz.func8, Tryz.ntmps8
      go_wp2_with fail
      refine (FC.out _ ((h.below hB).more hB.size)).mono ?_
      rintro e wn ⟨rfl, hb⟩
      have g := g.next hb
      have hB := hB.trans (hb.mono hB.size)
      have k0 := g.cell 0
      have k1 := g.cell 1
      clear hb
      go_wp2_with fail
      refine (PC.out _ ((h.below hB).more hB.size)).mono ?_
      rintro e wn ⟨Ap, dp, rfl, q1, hb⟩
      have g := g.next hb
      have hB := hB.trans (hb.mono hB.size)
      have k0 := g.cell 0
      have k1 := g.cell 1
      clear hb
      go_wp2_with fail
      refine (RC.out _ ((h.below hB).more hB.size)).mono ?_
      rintro e wn ⟨rfl, hb⟩
      have q1 := q1.next hb
      have g := g.next hb
      have hB := hB.trans (hb.mono hB.size)
      have k0 := g.cell 0
      have k1 := g.cell 1
      clear hb
      go_wp2_with fail
      have HB := Lib.hid hB.drew
      have hgl := g.lt
      have Q1 : Hid (PrsR wn.drew wn.drew.heap.size Ap X) := q1
      go_region_held3 (fun W => W.cell? ⟨w.heap.size, 0, none⟩ = some (.int .i64 m) ∧ W.cell? ⟨w.heap.size, 1, none⟩ = some (.slice A es.length c)) (go_keep)
        (first
        | (go_at_call 12; refine (AW.out _).mono ?_; rintro e w5 ⟨rfl, hb5⟩
           have k05 := (hb5.cell (p := ⟨w.heap.size, 0, none⟩) (by exact hgl)).trans k0
           have k15 := (hb5.cell (p := ⟨w.heap.size, 1, none⟩) (by exact hgl)).trans k1
           have hgl5 := Nat.lt_of_lt_of_le hgl hb5.size
           have HB5 := Lib.hid (HB.out.trans (hb5.mono HB.out.size))
           have Q5 := Lib.hid (Q1.out.next hb5))
        | (go_at_call 42; refine (OC.out _ _ _ Q5.out).mono ?_; rintro e w6 ⟨A6, c6, rfl, q6, hb6⟩
           have k06 := (hb6.cell (p := ⟨w.heap.size, 0, none⟩) (by exact hgl5)).trans k05
           have k16 := (hb6.cell (p := ⟨w.heap.size, 1, none⟩) (by exact hgl5)).trans k15
           have hgl6 := Nat.lt_of_lt_of_le hgl5 hb6.size
           have HB6 := Lib.hid (HB5.out.trans (hb6.mono HB5.out.size))
           have Q6 := Lib.hid q6)
        | (go_at_call 43; refine (RP.out _ ((h.below HB6.out).more HB6.out.size)).mono ?_; rintro e w7 ⟨A7, c7, rfl, q7, hb7⟩
           have k07 := (hb7.cell (p := ⟨w.heap.size, 0, none⟩) (by exact hgl6)).trans k06
           have k17 := (hb7.cell (p := ⟨w.heap.size, 1, none⟩) (by exact hgl6)).trans k16
           have hgl7 := Nat.lt_of_lt_of_le hgl6 hb7.size
           have HB7 := Lib.hid (HB6.out.trans (hb7.mono HB6.out.size))
           have Q67 := Lib.hid (Q6.out.next hb7)
           have Q7 := Lib.hid q7)
        | (go_at_call 41; refine (SP.out _ _ _ _ _ Q67.out Q7.out).mono ?_; rintro e w8 ⟨rfl, hb8⟩
           have k08 := (hb8.cell (p := ⟨w.heap.size, 0, none⟩) (by exact hgl7)).trans k07
           have k18 := (hb8.cell (p := ⟨w.heap.size, 1, none⟩) (by exact hgl7)).trans k17
           have HB8 := Lib.hid (HB7.out.trans (hb8.mono HB7.out.size)))
        | fail)
      go_wp2
      go_ret
      exact ⟨rfl, HB8.out⟩
    · have hP : pairsE n es q = ([], rootErr n es q) := by unfold pairsE; rw [if_neg hz]
      have hE : allSE n es q = ([], rootErr n es q) := by unfold allSE; rw [if_neg hz]
      have PC := Lib.hid (fun w h => pairs30_any n q A c es (by omega) (fun hc => by have := (hsm hc).2; omega) (by rw [hE]; simp) w h)
      rw [hP] at PC
      obtain ⟨z, hzz⟩ : ∃ z, rootErr n es q = z := ⟨_, rfl⟩
      rw [hzz] at PC RC hz
      have hzb : (z != 0) = true := by simpa using hz
      clear hf hP hE hzz hz hsm
      go_enter Tryz.func8, Tryz.ntmps8
      go_wp2_with fail
      refine (FC.out _ ((h.below hB).more hB.size)).mono ?_
      rintro e wn ⟨rfl, hb⟩
      have g := g.next hb
      have hB := hB.trans (hb.mono hB.size)
      have k0 := g.cell 0
      have k1 := g.cell 1
      clear hb
      go_wp2_with fail
      refine (PC.out _ ((h.below hB).more hB.size)).mono ?_
      rintro e wn ⟨Ap, dp, rfl, _, hb⟩
      have g := g.next hb
      have hB := hB.trans (hb.mono hB.size)
      have k0 := g.cell 0
      have k1 := g.cell 1
      clear hb
      go_wp2_with fail
      refine (RC.out _ ((h.below hB).more hB.size)).mono ?_
      rintro e wn ⟨rfl, hb⟩
      have g := g.next hb
      have hB := hB.trans (hb.mono hB.size)
      have k0 := g.cell 0
      have k1 := g.cell 1
      clear hb
      go_wp2_with fail
      refine (AW.out _).mono ?_
      rintro e wn ⟨rfl, hb⟩
      have hB := hB.trans (hb.mono hB.size)
      go_wp2
      go_ret
      exact ⟨rfl, hB⟩
  · have hf : smallB n es 5 8 = false := by rw [← Bool.not_eq_true]; exact hf
    rw [hf] at FC
    clear hf
    go_enter Tryz.func8, Tryz.ntmps8
    go_wp2_with fail
    refine (FC.out _ ((h.below hB).more hB.size)).mono ?_
    rintro e wn ⟨rfl, hb⟩
    have g := g.next hb
    have hB := hB.trans (hb.mono hB.size)
    have k0 := g.cell 0
    have k1 := g.cell 1
    clear hb
    go_wp2_with fail
    refine (AW.out _).mono ?_
    rintro e wn ⟨rfl, hb⟩
    have hB := hB.trans (hb.mono hB.size)
    go_wp2
    go_ret
    exact ⟨rfl, hB⟩

namespace lawTreebijectionLists
open Go.ChangeShapes Go.WideShapes Go.ChangeAt Go.RowKit
set_option linter.unusedVariables false
set_option maxRecDepth 100000 in
theorem lifted (os : Os) (started : os.Started) (H : Type) (enc : TypeId × Value → H) :
    ReturnsInHanded {} Tryz.checked os 8 .any (Rows.treebijectionListsSpec.pre6 enc Tryz.prog Tryz.f8 Rows.treebijectionListsRow.domain false) (Rows.treebijectionListsSpec.post enc Tryz.prog Tryz.f8 false true false false) := by
  refine returnsInHanded_of_change (C := Tryz.checked) own started (by kernel_rfl) Tryz.func8
    (ChangeSpec.witness6 (enc := enc) (C := Tryz.checked) false ⟨#[], #[.agg #[.int .i64 0, .slice none 0 0], .int .i64 0], []⟩ 8 (by kernel_rfl) (by kernel_rfl) (by kernel_rfl) (by kernel_rfl)) ?_
  intro W base args ds gs before hval0 hW hcnd _
  have hval : ∀ (j : Nat) t v, Tryz.f8.params[j]? = some t → args[j]? = some v → Value.okWide Tryz.prog W .any base t v := hval0
  have hW' := hW
  obtain ⟨p, q, hA0, hV, rfl, hfz, hnd⟩ := hW
  have hA : DataW.TrodAll enc Tryz.prog W 0 (fun _ => true) true Tryz.f8.params.toList args.toList ds p := hA0
  rw [Tryz.params8] at hA hval
  obtain ⟨v0, vs0, d0, ds0, p0, q0, hargs, rfl, rfl, h0, r0⟩ := trodAll_cons hA
  obtain ⟨v1, vs1, d1, ds1, p1, q1, rfl, rfl, rfl, h1, r1⟩ := trodAll_cons r0
  obtain ⟨rfl, rfl, rfl⟩ := trodAll_nil r1
  obtain rfl : args = #[v0, v1] := by cases args; simp_all
  obtain ⟨rfl, rfl⟩ := trodVars_none hV
  obtain ⟨cs0, rfl, _⟩ := okWide_struct Tryz.underlying24 (hval 0 24 v0 rfl rfl)
  have k0 := h0
  have lt0 : ∀ x ∈ p0, x.block < W.heap.size := by obtain ⟨m, hm⟩ := k0; exact DataW.trod_lt m _ _ _ hm
  obtain ⟨_, hf0⟩ := h0
  obtain ⟨n0, a0, cap0, xs0, hcs0, hm0, hr0, hw0⟩ := open_graph hf0
  obtain rfl : cs0 = #[.int .i64 n0, .slice a0 xs0.length cap0] := Array.toList_inj.1 hcs0
  obtain ⟨a1, rfl, rfl, rfl, w1⟩ := open_int Tryz.underlying3 (hval 1 3 v1 rfl rfl) h1
  clear hA0 hval0
  refine (treebijectionLists_walk W n0 a0 cap0 xs0 hm0 hw0 hr0 a1 w1).mono fun e W' ⟨he, bel⟩ => ?_
  subst he
  exact ⟨_, rfl, _, _, _, [], _, [], hW', trodAll_mk1 (shut_bool Tryz.underlying4 _), (trodAll_cons_mk (Below.trod laidOut (by kernel_rfl) (of_decide_eq_true (by kernel_rfl)) k0 bel lt0) (trodAll_cons_mk (shut_int Tryz.underlying3 w1) trodAll_mk0)), rfl, bel.frame _, fun h => by cases h⟩

theorem over : Rows.treebijectionListsRow.holds Tryz.pinned (OpenSpec.ofChange Rows.treebijectionListsSpec) :=
  OpenClaim.holds_of_wide 8 Tryz.f8 rfl rfl rfl rfl rfl rfl rfl ⟨rfl, rfl, rfl, rfl, rfl⟩ rfl rfl rfl rfl rfl (by kernel_rfl) Tryz.func8 (by kernel_rfl)
    (of_decide_eq_true (by kernel_rfl)) (by unfold Func.isWrapper; first | (rw [if_pos (by decide +kernel)]; kernel_rfl) | (rw [if_neg (by decide +kernel)]; exact ⟨rfl, rfl⟩))
    (fun os started H enc _ => lifted os started H enc)

/-- For every graph and sink the law answers true: Pairs returns the pairs of the reference, or the specified error. -/
theorem proved : Rows.TreebijectionListsSaid := over
#print axioms proved
end lawTreebijectionLists
end Go.Proofs.YtghigdcpinengaaGreat
