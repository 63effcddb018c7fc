/-
  For every graph, sink and two divisors the law BurningAdds answers true: adding chips and pushing then leads to the same configuration, whether one has pushed before or not. There are no conditions.
-/
import Derived.Test.YthbannpmfdflaaaAwakeB
import Derived.Test.YthbannpmfdflaaaLawT
import Derived.Test.YthbannpmfdflaaaRight
import Derived.Test.YthbannpmfdflaaaSumD
namespace Go.Proofs.Ythbannpmfdflaaa
open Go.RowKit

set_option maxRecDepth 100000 in
set_option maxHeartbeats 4000000 in
theorem burningAdds_walk (w : World) (n : Int) (A : Option Addr) (c : Nat) (es : List E3) (_hm : es.length ≤ maxLen) (_hw : (Lit.int .i64 n).wf = true) (h : Reads w w.heap.size 3 A es.length (edgeCells es)) (q : Int) (_hq : (Lit.int .i64 q).wf = true)
    (B : Option Addr) (d : Nat) (a : List Int) (_hma : a.length ≤ maxLen) (_hwa : ∀ x ∈ a, (Lit.int .i64 x).wf = true) (ha : Reads w w.heap.size 1 B a.length (ints a))
    (B' : Option Addr) (d' : Nat) (b : List Int) (_hmb : b.length ≤ maxLen) (_hwb : ∀ x ∈ b, (Lit.int .i64 x).wf = true) (hb : Reads w w.heap.size 1 B' b.length (ints b)) :
    Calls Try.prog 5 #[.agg #[.int .i64 n, .slice A es.length c], .int .i64 q, .agg #[.slice B a.length d, .slice B' b.length d']] w fun e w' => e = .returned (.bool true) ∧ Below w.heap.size w w' := by
  have g0 := (Blk.new w 24 #[.int .i64 n, .slice A es.length c]).alloc (.cells #[.slice B a.length d, .slice B' b.length d'] 47)
  have t0 := Blk.new (w.alloc (.cells #[.int .i64 n, .slice A es.length c] 24)) 47 #[.slice B a.length d, .slice B' b.length d']
  rw [show (w.alloc (.cells #[.int .i64 n, .slice A es.length c] 24)).heap.size = w.heap.size + 1 from by simp] at t0
  have hb0 : Below w.heap.size w ((w.alloc (.cells #[.int .i64 n, .slice A es.length c] 24)).alloc (.cells #[.slice B a.length d, .slice B' b.length d'] 47)) := ((Below.refl _ _).alloc (Nat.le_refl _) _).alloc (by simp) _
  obtain ⟨W0, hW0⟩ : ∃ W0, ((w.alloc (.cells #[.int .i64 n, .slice A es.length c] 24)).alloc (.cells #[.slice B a.length d, .slice B' b.length d'] 47)) = W0 := ⟨_, rfl⟩
  have RA := Lib.hid (fun w h h' => right_any n A c es q B d a w h h')
  have RB := Lib.hid (fun w h h' => right_any n A c es q B' d' b w h h')
  have hz0 : w.heap.size + 2 ≤ W0.heap.size := by rw [← hW0]; simp
  rw [hW0] at g0 t0 hb0
  have HW0 := Lib.hid hW0
  clear hW0
  have c0 := g0.cell 0
  have c1 := g0.cell 1
  have d0 := t0.cell 0
  have d1 := t0.cell 1
  have hb1 : Below w.heap.size w W0.drew := hb0.drew
  have g1 : Blk W0.drew w.heap.size 24 #[.int .i64 n, .slice A es.length c] := g0.drew
  obtain ⟨W1, hW1⟩ : ∃ W1, W0.drew = W1 := ⟨_, rfl⟩
  rw [hW1] at hb1 g1
  have HW1 := Lib.hid hW1
  clear hW1
  have e0 := g1.cell 0
  have e1 := g1.cell 1
  cases hra : rightB n es q a
  · rw [hra] at RA
    clear hra RB
    go_enter Try.func5, Try.ntmps5
    go_wp2
    rw [HW0.out]
    go_region
    all_goals (
      rw [HW1.out]
      go_wp2_with fail
      refine (RA.out _ ((h.below hb1).more hb1.size) ((ha.below hb1).more hb1.size)).mono ?_
      rintro e w2 ⟨rfl, hb2⟩
      have hB2 := hb1.trans (hb2.mono hb1.size)
      go_wp2_with fail
      refine (awake_any w2).mono ?_
      rintro e w3 ⟨rfl, hb3⟩
      go_wp2
      go_ret
      exact ⟨rfl, hB2.trans (hb3.mono hB2.size)⟩)
  · rw [hra] at RA
    cases hrb : rightB n es q b
    · rw [hrb] at RB
      clear hra hrb
      go_enter Try.func5, Try.ntmps5
      go_wp2
      rw [HW0.out]
      go_region
      all_goals (
        rw [HW1.out]
        go_wp2_with fail
        refine (RA.out _ ((h.below hb1).more hb1.size) ((ha.below hb1).more hb1.size)).mono ?_
        rintro e w2 ⟨rfl, hb2⟩
        have hB2 := hb1.trans (hb2.mono hb1.size)
        have g2 := g1.next hb2
        have f0 := g2.cell 0
        have f1 := g2.cell 1
        go_wp2_with fail
        refine (RB.out _ ((h.below hB2).more hB2.size) ((hb.below hB2).more hB2.size)).mono ?_
        rintro e w3 ⟨rfl, hb3⟩
        have hB3 := hB2.trans (hb3.mono hB2.size)
        go_wp2_with fail
        refine (awake_any w3).mono ?_
        rintro e w4 ⟨rfl, hb4⟩
        go_wp2
        go_ret
        exact ⟨rfl, hB3.trans (hb4.mono hB3.size)⟩)
    · rw [hrb] at RB
      obtain ⟨l1, l2, h6, ha60, hza⟩ := right_parts hra
      obtain ⟨_, l2', _, hb60, hzb⟩ := right_parts hrb
      obtain ⟨hG, _, hq0, hqn, hlen, hbda, _⟩ := conf_zero (burn_zero hza).1
      obtain ⟨_, _, _, _, hlenb, hbdb, _⟩ := conf_zero (burn_zero hzb).1
      have hlo := hG.lo
      obtain ⟨m, rfl⟩ := Int.eq_ofNat_of_zero_le (show 0 ≤ n by omega)
      obtain ⟨p, rfl⟩ := Int.eq_ofNat_of_zero_le hq0
      obtain ⟨xs, s, cs, t, u, P1, P2, hcl, P3, hxl, hbc⟩ := adds_same hza hzb (by omega) ha60 hb60
      have hab : a.length = b.length := by omega
      have hcb : cs.length = b.length := by omega
      have DA := Lib.hid (fun w h h' => dsum_any B d a B' d' b hab (by omega) hbda hbdb w h h')
      have DC := Lib.hid (fun C f w h h' => dsum_any C f cs B' d' b hcb (by omega) hbc hbdb w h h')
      have PA : Hid (∀ (D : Option Addr) (f : Nat) (W : World), Reads W W.heap.size 3 A es.length (edgeCells es) → Reads W W.heap.size 1 D (sumL a b).length (ints (sumL a b)) → Calls Try.prog 15 #[.agg #[.int .i64 m, .slice A es.length c], .int .i64 p, .slice D a.length f] W fun e w' => ∃ C c' S c'',
          e = .returned (.tuple #[.slice C xs.length c', .slice S s.length c'', .int .i64 0]) ∧ OwnI w' W.heap.size C c' xs ∧ OwnI w' W.heap.size S c'' s ∧ Below W.heap.size W w') := by
        intro D f W r1 r2
        have := push_any m A c es (by omega) p D f (sumL a b) xs s 0 (by rw [sumL_length]; omega) P1 W r1 r2
        rwa [sumL_length] at this
      have PB := Lib.hid (fun W r1 r2 => push_any m A c es (by omega) p B d a cs t 0 (by omega) P2 W r1 r2)
      have PC : Hid (∀ (D : Option Addr) (f : Nat) (W : World), Reads W W.heap.size 3 A es.length (edgeCells es) → Reads W W.heap.size 1 D (sumL cs b).length (ints (sumL cs b)) → Calls Try.prog 15 #[.agg #[.int .i64 m, .slice A es.length c], .int .i64 p, .slice D cs.length f] W fun e w' => ∃ C c' S c'',
          e = .returned (.tuple #[.slice C xs.length c', .slice S u.length c'', .int .i64 0]) ∧ OwnI w' W.heap.size C c' xs ∧ OwnI w' W.heap.size S c'' u ∧ Below W.heap.size W w') := by
        intro D f W r1 r2
        have := push_any m A c es (by omega) p D f (sumL cs b) xs u 0 (by rw [sumL_length]; omega) P3 W r1 r2
        rwa [sumL_length] at this
      have SD := Lib.hid (fun C c' C' c'' W r1 r2 => rsdiv_any C c' xs C' c'' (by omega) W r1 r2)
      have hci : ((cs.length : Int) != (m : Int)) = false := by simp; omega
      clear hra hrb hza hzb hG hlen hbda hlenb hbdb P1 P2 P3 hxl hbc ha60 hb60 hab hcb hcl
      go_enter Try.func5, Try.ntmps5
      go_wp2
      rw [HW0.out]
      go_region
      all_goals (
        rw [HW1.out]
        go_wp2_with fail
        refine (RA.out _ ((h.below hb1).more hb1.size) ((ha.below hb1).more hb1.size)).mono ?_
        rintro e w2 ⟨rfl, hb2⟩
        have hB2 := hb1.trans (hb2.mono hb1.size)
        have g2 := g1.next hb2
        have f0 := g2.cell 0
        have f1 := g2.cell 1
        go_wp2_with fail
        refine (RB.out _ ((h.below hB2).more hB2.size) ((hb.below hB2).more hB2.size)).mono ?_
        rintro e w3 ⟨rfl, hb3⟩
        have hB3 := hB2.trans (hb3.mono hB2.size)
        have g3 := g2.next hb3
        have f0 := g3.cell 0
        have f1 := g3.cell 1
        clear RA RB c0 c1 d0 d1 e0 e1 hb1 g1 hb2 hB2 g2 hb3 t0 g0
        have hg3 := g3.lt
        have hs3 := hB3.size
        have ra3 := (ha.below hB3).more hB3.size
        have rb3 := (hb.below hB3).more hB3.size
        have RH := Lib.hid h
        clear h ha hb
        go_wp2
        go_region_with (first
          | (go_at_call 27; refine (DA.out _ (by exact ra3) (by exact rb3)).mono ?_; rintro e w4 ⟨C4, c4, rfl, o4, hb4⟩
             have f40 := (hb4.cell (p := ⟨w.heap.size, 0, none⟩) (by show w.heap.size < w3.heap.size; exact hg3)).trans f0
             have f41 := (hb4.cell (p := ⟨w.heap.size, 1, none⟩) (by show w.heap.size < w3.heap.size; exact hg3)).trans f1
             have hb4' : Below w3.heap.size w3 w4 := (Below.refl _ _).drew.trans hb4)
          | (go_at_call 15; refine (PA.out C4 _ w4 ((RH.out.below (hB3.trans (hb4'.mono hs3))).more (hB3.trans (hb4'.mono hs3)).size) o4.reads).mono ?_; rintro e w5 ⟨C5, c5, S5, s5, rfl, o5, _, hb5⟩))
        all_goals (
          have hb5' : Below w3.heap.size w3 w5 := hb4'.trans (hb5.mono hb4'.size)
          have g5 := g3.next hb5'
          have hB5 := hB3.trans (hb5'.mono hs3)
          have k0 := g5.cell 0
          have k1 := g5.cell 1
          clear f0 f1 f40 f41 hb4 hb4' hb5 o4
          go_wp2_with fail
          refine (PB.out _ ((RH.out.below hB5).more hB5.size) ((ra3.next hb5').more (Nat.le_refl _))).mono ?_
          rintro e w6 ⟨C6, c6, S6, s6, rfl, o6, _, hb6⟩
          have g6 := g5.next hb6
          have k0 := g6.cell 0
          have k1 := g6.cell 1
          have o56 := o5.next hb6
          have hB6 := hB5.trans (hb6.mono hB5.size)
          have rb6 := (rb3.next hb5').next hb6
          have hg6 := g6.lt
          have hs6 := hB6.size
          have r6 := o6.reads
          go_wp2_with fail
          go_region_with (first
            | (go_at_call 27; refine (DC.out C6 c6 _ (by exact r6) (by exact rb6)).mono ?_; rintro e w7 ⟨C7, c7, rfl, o7, hb7⟩
               have f70 := (hb7.cell (p := ⟨w.heap.size, 0, none⟩) (by show w.heap.size < w6.heap.size; exact hg6)).trans k0
               have f71 := (hb7.cell (p := ⟨w.heap.size, 1, none⟩) (by show w.heap.size < w6.heap.size; exact hg6)).trans k1
               have hb7' : Below w6.heap.size w6 w7 := (Below.refl _ _).drew.trans hb7)
            | (go_at_call 15; refine (PC.out C7 _ w7 ((RH.out.below (hB6.trans (hb7'.mono hs6))).more (hB6.trans (hb7'.mono hs6)).size) o7.reads).mono ?_; rintro e w8 ⟨C8, c8, S8, s8, rfl, o8, _, hb8⟩))
          all_goals (
            have hb8' : Below w6.heap.size w6 w8 := hb7'.trans (hb8.mono hb7'.size)
            have o58 := o56.next hb8'
            have hB8 := hB6.trans (hb8'.mono hs6)
            go_wp2_with fail
            refine (SD.out C5 _ C8 _ w8 o58.reads o8.reads).mono ?_
            rintro e w9 ⟨rfl, hb9⟩
            have hB9 := hB8.trans (hb9.mono hB8.size)
            go_wp2_with fail
            refine (awake_any w9).mono ?_
            rintro e w10 ⟨rfl, hb10⟩
            go_wp2
            go_ret
            exact ⟨rfl, hB9.trans (hb10.mono hB9.size)⟩)))

namespace lawBurningAdds
open Go.ChangeShapes Go.WideShapes Go.ChangeAt Go.RowKit
set_option linter.unusedVariables false
set_option maxRecDepth 100000 in
theorem lifted (os : Os) (started : os.Started) (H : Type) (enc : TypeId × Value → H) :
    ReturnsInHanded {} Try.checked os 5 .any (Rows.burningAddsSpec.pre6 enc Try.prog Try.f5 Rows.burningAddsRow.domain false) (Rows.burningAddsSpec.post enc Try.prog Try.f5 false true false false) := by
  refine returnsInHanded_of_change (C := Try.checked) own started (by kernel_rfl) Try.func5
    (ChangeSpec.witness6 (enc := enc) (C := Try.checked) false ⟨#[], #[.agg #[.int .i64 0, .slice none 0 0], .int .i64 0, .agg #[.slice none 0 0, .slice none 0 0]], []⟩ 8 (by kernel_rfl) (by kernel_rfl) (by kernel_rfl) (by kernel_rfl)) ?_
  intro W base args ds gs before hval0 hW hcnd _
  have hval : ∀ (j : Nat) t v, Try.f5.params[j]? = some t → args[j]? = some v → Value.okWide Try.prog W .any base t v := hval0
  have hW' := hW
  obtain ⟨p, q, hA0, hV, rfl, hfz, hnd⟩ := hW
  have hA : DataW.TrodAll enc Try.prog W 0 (fun _ => true) true Try.f5.params.toList args.toList ds p := hA0
  rw [Try.params5] at hA hval
  obtain ⟨v0, vs0, d0, ds0, p0, q0, hargs, rfl, rfl, h0, r0⟩ := trodAll_cons hA
  obtain ⟨v1, vs1, d1, ds1, p1, q1, rfl, rfl, rfl, h1, r1⟩ := trodAll_cons r0
  obtain ⟨v2, vs2, d2, ds2, p2, q2, rfl, rfl, rfl, h2, r2⟩ := trodAll_cons r1
  obtain ⟨rfl, rfl, rfl⟩ := trodAll_nil r2
  obtain rfl : args = #[v0, v1, v2] := by cases args; simp_all
  obtain ⟨rfl, rfl⟩ := trodVars_none hV
  obtain ⟨cs0, rfl, _⟩ := okWide_struct Try.underlying24 (hval 0 24 v0 rfl rfl)
  have k0 := h0
  have lt0 : ∀ x ∈ p0, x.block < W.heap.size := by obtain ⟨m, hm⟩ := k0; exact DataW.trod_lt m _ _ _ hm
  obtain ⟨_, hf0⟩ := h0
  obtain ⟨n0, a0, cap0, xs0, hcs0, hm0, hr0, hw0⟩ := open_graph hf0
  obtain rfl : cs0 = #[.int .i64 n0, .slice a0 xs0.length cap0] := Array.toList_inj.1 hcs0
  obtain ⟨a1, rfl, rfl, rfl, w1⟩ := open_int Try.underlying3 (hval 1 3 v1 rfl rfl) h1
  obtain ⟨cs2, rfl, _⟩ := okWide_array Try.underlying47 (hval 2 47 v2 rfl rfl)
  have k2 := h2
  have lt2 : ∀ x ∈ p2, x.block < W.heap.size := by obtain ⟨m, hm⟩ := k2; exact DataW.trod_lt m _ _ _ hm
  obtain ⟨_, hf2⟩ := h2
  obtain ⟨a2, cap2, xs2, a2', cap2', xs2', hcs2, hm2, hr2, hw2, hm2', hr2', hw2'⟩ := open_two hf2
  obtain rfl : cs2 = #[.slice a2 xs2.length cap2, .slice a2' xs2'.length cap2'] := Array.toList_inj.1 hcs2
  clear hA0 hval0
  refine (burningAdds_walk W n0 a0 cap0 xs0 hm0 hw0 hr0 a1 w1 a2 cap2 xs2 hm2 hw2 hr2 a2' cap2' xs2' hm2' hw2' hr2').mono fun e W' ⟨he, bel⟩ => ?_
  subst he
  exact ⟨_, rfl, _, _, _, [], _, [], hW', trodAll_mk1 (shut_bool Try.underlying4 _), (trodAll_cons_mk (Below.trod laidOut (by kernel_rfl) (of_decide_eq_true (by kernel_rfl)) k0 bel lt0) (trodAll_cons_mk (shut_int Try.underlying3 w1) (trodAll_cons_mk (Below.trod laidOut (by kernel_rfl) (of_decide_eq_true (by kernel_rfl)) k2 bel lt2) trodAll_mk0))), rfl, bel.frame _, fun h => by cases h⟩

theorem over : Rows.burningAddsRow.holds Try.pinned (OpenSpec.ofChange Rows.burningAddsSpec) :=
  OpenClaim.holds_of_wide 5 Try.f5 rfl rfl rfl rfl rfl rfl rfl ⟨rfl, rfl, rfl, rfl, rfl⟩ rfl rfl rfl rfl rfl (by kernel_rfl) Try.func5 (by kernel_rfl)
    (of_decide_eq_true (by kernel_rfl)) (by unfold Func.isWrapper; first | (rw [if_pos (by decide +kernel)]; kernel_rfl) | (rw [if_neg (by decide +kernel)]; exact ⟨rfl, rfl⟩))
    (fun os started H enc _ => lifted os started H enc)

/-- For every graph, sink and two divisors the law BurningAdds answers true. -/
theorem proved : Rows.BurningAddsSaid := over
#print axioms proved
end lawBurningAdds
end Go.Proofs.Ythbannpmfdflaaa
