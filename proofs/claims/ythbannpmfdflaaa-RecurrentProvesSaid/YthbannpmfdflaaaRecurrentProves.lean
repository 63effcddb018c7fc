/-
  For every graph, divisor and place the law RecurrentProves answers true: recurrent.Verify returns the result of the reference, or its error. There are no conditions.
-/
import Derived.Test.YthbannpmfdflaaaK26
import Derived.Test.YthbannpmfdflaaaK27
import Derived.Test.YthbannpmfdflaaaK33
namespace Go.Proofs.Ythbannpmfdflaaa
open Go.RowKit

set_option maxRecDepth 100000 in
set_option maxHeartbeats 4000000 in
theorem recurrentProves_walk (w : World) (n : Int) (A : Option Addr) (c : Nat) (es : List E3) (_hm : es.length ≤ maxLen) (_hw : (Lit.int .i64 n).wf = true) (h : Reads w w.heap.size 3 A es.length (edgeCells es))
    (B : Option Addr) (d : Nat) (cs : List Int) (_hm' : cs.length ≤ maxLen) (_hw' : ∀ x ∈ cs, (Lit.int .i64 x).wf = true) (h' : Reads w w.heap.size 1 B cs.length (ints cs))
    (q : Int) (D : Option Addr) (f : Nat) (xs : List Int) (hx : xs.length ≤ maxLen ∧ xs.length ≤ f) (_hq : (Lit.int .i64 q).wf = true) (h'' : Reads w w.heap.size 1 D xs.length (ints xs)) :
    Calls Try.prog 12 #[.agg #[.int .i64 n, .slice A es.length c], .slice B cs.length d, .agg #[.int .i64 q, .slice D xs.length f]] w fun e w' => e = .returned (.bool true) ∧ Below w.heap.size w w' := by
  have FC := Lib.hid (fun w h h' => few23_any n A c es B d cs w h h')
  have g0 := (Blk.new w 24 #[.int .i64 n, .slice A es.length c]).alloc (.cells #[.int .i64 q, .slice D xs.length f] 83)
  have t0 := Blk.new (w.alloc (.cells #[.int .i64 n, .slice A es.length c] 24)) 83 #[.int .i64 q, .slice D xs.length f]
  rw [show (w.alloc (.cells #[.int .i64 n, .slice A es.length c] 24)).heap.size = w.heap.size + 1 from by simp] at t0
  have hb0 : Below w.heap.size w ((w.alloc (.cells #[.int .i64 n, .slice A es.length c] 24)).alloc (.cells #[.int .i64 q, .slice D xs.length f] 83)) := ((Below.refl _ _).alloc (Nat.le_refl _) _).alloc (by simp) _
  obtain ⟨W0, hW0⟩ : ∃ W0, ((w.alloc (.cells #[.int .i64 n, .slice A es.length c] 24)).alloc (.cells #[.int .i64 q, .slice D xs.length f] 83)) = W0 := ⟨_, rfl⟩
  rw [hW0] at g0 t0 hb0
  have HW0 := Lib.hid hW0
  clear hW0
  have c0 := g0.cell 0
  have c1 := g0.cell 1
  have d0 := t0.cell 0
  have d1 := t0.cell 1
  have hxf := hx.2
  by_cases hf : few23 n es cs = true
  · obtain ⟨h1, h2, _⟩ := few23_parts hf
    have HF := Lib.hid hf
    clear hf
    by_cases hl : 40 < xs.length
    · have hli : (40 : Int) < (xs.length : Int) := by omega
      go_enter Try.func12, Try.ntmps12
      go_wp2_with fail
      rw [HW0.out]
      refine (FC.out _ ((h.below hb0).more hb0.size) ((h'.below hb0).more hb0.size)).mono ?_
      rintro e w1 ⟨he, hb1⟩
      rw [HF.out] at he
      subst he
      have hB1 := hb0.trans (hb1.mono hb0.size)
      have d0 := (t0.next hb1).cell 0
      have d1 := (t0.next hb1).cell 1
      go_wp2_with fail
      refine (awake24_any w1).mono ?_
      rintro e w2 ⟨rfl, hb2⟩
      go_wp2
      go_ret
      exact ⟨rfl, hB1.trans (hb2.mono hB1.size)⟩
    · have hli : ¬ (40 : Int) < (xs.length : Int) := by omega
      have VC := Lib.hid (fun w r1 r2 r3 => recver_any n A c es (by omega) q B d cs (by omega) D f xs hxf (by omega) w r1 r2 r3)
      have VR := Lib.hid (fun w r1 r2 r3 => rrverify_any n A c es (by omega) q B d cs (by omega) D f xs hxf (by omega) w r1 r2 r3)
      obtain ⟨v1, hv1⟩ : ∃ z, rverB n es q cs xs = z := ⟨_, rfl⟩
      obtain ⟨v2, hv2⟩ : ∃ z, verErr n es q cs xs = z := ⟨_, rfl⟩
      rw [hv1, hv2] at VC VR
      clear hv1 hv2
      go_enter Try.func12, Try.ntmps12
      go_wp2_with fail
      rw [HW0.out]
      refine (FC.out _ ((h.below hb0).more hb0.size) ((h'.below hb0).more hb0.size)).mono ?_
      rintro e w1 ⟨he, hb1⟩
      rw [HF.out] at he
      subst he
      have hB1 := hb0.trans (hb1.mono hb0.size)
      have g1 := g0.next hb1
      have t1 := t0.next hb1
      have c0 := g1.cell 0
      have c1 := g1.cell 1
      have d0 := t1.cell 0
      have d1 := t1.cell 1
      clear g0 t0 hb0 hb1
      go_wp2_with fail
      refine (VC.out _ ((h.below hB1).more hB1.size) ((h'.below hB1).more hB1.size) ((h''.below hB1).more hB1.size)).mono ?_
      rintro e w2 ⟨rfl, hb2⟩
      have hB2 := hB1.trans (hb2.mono hB1.size)
      have g2 := g1.next hb2
      have t2 := t1.next hb2
      have c0 := g2.cell 0
      have c1 := g2.cell 1
      have d0 := t2.cell 0
      have d1 := t2.cell 1
      clear g1 t1 hB1 hb2
      go_wp2_with fail
      refine (VR.out _ ((h.below hB2).more hB2.size) ((h'.below hB2).more hB2.size) ((h''.below hB2).more hB2.size)).mono ?_
      rintro e w3 ⟨rfl, hb3⟩
      have hB3 := hB2.trans (hb3.mono hB2.size)
      have g3 := g2.next hb3
      have t3 := t2.next hb3
      have c0 := g3.cell 0
      have c1 := g3.cell 1
      have d0 := t3.cell 0
      have d1 := t3.cell 1
      clear g2 t2 hB2 hb3
      go_wp2_with fail
      refine (awake24_any w3).mono ?_
      rintro e w6 ⟨rfl, hb6⟩
      go_wp2
      go_ret
      exact ⟨by simp, hB3.trans (hb6.mono hB3.size)⟩
  · have HF : Hid (few23 n es cs = false) := by rw [Hid, ← Bool.not_eq_true]; exact hf
    clear hf
    go_enter Try.func12, Try.ntmps12
    go_wp2_with fail
    rw [HW0.out]
    refine (FC.out _ ((h.below hb0).more hb0.size) ((h'.below hb0).more hb0.size)).mono ?_
    rintro e w1 ⟨he, hb1⟩
    rw [HF.out] at he
    subst he
    have hB1 := hb0.trans (hb1.mono hb0.size)
    go_wp2_with fail
    refine (awake24_any w1).mono ?_
    rintro e w2 ⟨rfl, hb2⟩
    go_wp2
    go_ret
    exact ⟨rfl, hB1.trans (hb2.mono hB1.size)⟩


namespace lawRecurrentProves
open Go.ChangeShapes Go.WideShapes Go.ChangeAt Go.RowKit
set_option linter.unusedVariables false
set_option maxRecDepth 100000 in
theorem lifted (os : Os) (started : os.Started) (H : Type) (enc : TypeId × Value → H) :
    ReturnsInHanded {} Try.checked os 12 .any (Rows.recurrentProvesSpec.pre6 enc Try.prog Try.f12 Rows.recurrentProvesRow.domain false) (Rows.recurrentProvesSpec.post enc Try.prog Try.f12 false true false false) := by
  refine returnsInHanded_of_change (C := Try.checked) own started (by kernel_rfl) Try.func12
    (ChangeSpec.witness6 (enc := enc) (C := Try.checked) false ⟨#[], #[.agg #[.int .i64 0, .slice none 0 0], .slice none 0 0, .agg #[.int .i64 0, .slice none 0 0]], []⟩ 8 (by kernel_rfl) (by kernel_rfl) (by kernel_rfl) (by kernel_rfl)) ?_
  intro W base args ds gs before hval0 hW hcnd _
  have hval : ∀ (j : Nat) t v, Try.f12.params[j]? = some t → args[j]? = some v → Value.okWide Try.prog W .any base t v := hval0
  have hW' := hW
  obtain ⟨p, q, hA0, hV, rfl, hfz, hnd⟩ := hW
  have hA : DataW.TrodAll enc Try.prog W 0 (fun _ => true) true Try.f12.params.toList args.toList ds p := hA0
  rw [Try.params12] at hA hval
  obtain ⟨v0, vs0, d0, ds0, p0, q0, hargs, rfl, rfl, h0, r0⟩ := trodAll_cons hA
  obtain ⟨v1, vs1, d1, ds1, p1, q1, rfl, rfl, rfl, h1, r1⟩ := trodAll_cons r0
  obtain ⟨v2, vs2, d2, ds2, p2, q2, rfl, rfl, rfl, h2, r2⟩ := trodAll_cons r1
  obtain ⟨rfl, rfl, rfl⟩ := trodAll_nil r2
  obtain rfl : args = #[v0, v1, v2] := by cases args; simp_all
  obtain ⟨rfl, rfl⟩ := trodVars_none hV
  obtain ⟨cs0, rfl, _⟩ := okWide_struct Try.underlying24 (hval 0 24 v0 rfl rfl)
  have k0 := h0
  have lt0 : ∀ x ∈ p0, x.block < W.heap.size := by obtain ⟨m, hm⟩ := k0; exact DataW.trod_lt m _ _ _ hm
  obtain ⟨_, hf0⟩ := h0
  obtain ⟨n0, a0, cap0, xs0, hcs0, hm0, hr0, hw0⟩ := open_graph hf0
  obtain rfl : cs0 = #[.int .i64 n0, .slice a0 xs0.length cap0] := Array.toList_inj.1 hcs0
  obtain ⟨b1, len1, c1, rfl⟩ := okWide_slice Try.underlying26 (hval 1 26 v1 rfl rfl)
  have k1 := h1
  have lt1 : ∀ x ∈ p1, x.block < W.heap.size := by obtain ⟨m, hm⟩ := k1; exact DataW.trod_lt m _ _ _ hm
  obtain ⟨_, hf1⟩ := h1
  obtain ⟨a1, cap1, xs1, hcs1, hm1, hr1, hw1⟩ := open_row Try.underlying26 hf1
  obtain ⟨rfl, rfl, rfl⟩ : b1 = a1 ∧ len1 = xs1.length ∧ c1 = cap1 := by simpa [Value.cells] using hcs1
  obtain ⟨cs2, rfl, _⟩ := okWide_struct Try.underlying83 (hval 2 83 v2 rfl rfl)
  have k2 := h2
  have lt2 : ∀ x ∈ p2, x.block < W.heap.size := by obtain ⟨m, hm⟩ := k2; exact DataW.trod_lt m _ _ _ hm
  obtain ⟨_, hf2⟩ := h2
  obtain ⟨n2, a2, cap2, xs2, hcs2, hm2, hr2, hw2⟩ := open_place hf2
  obtain rfl : cs2 = #[.int .i64 n2, .slice a2 xs2.length cap2] := Array.toList_inj.1 hcs2
  clear hA0 hval0
  refine (recurrentProves_walk W n0 a0 cap0 xs0 hm0 hw0 hr0 b1 c1 xs1 hm1 hw1 hr1 n2 a2 cap2 xs2 hm2 hw2 hr2).mono fun e W' ⟨he, bel⟩ => ?_
  subst he
  exact ⟨_, rfl, _, _, _, [], _, [], hW', trodAll_mk1 (shut_bool Try.underlying4 _), (trodAll_cons_mk (Below.trod laidOut (by kernel_rfl) (of_decide_eq_true (by kernel_rfl)) k0 bel lt0) (trodAll_cons_mk (Below.trod laidOut (by kernel_rfl) (of_decide_eq_true (by kernel_rfl)) k1 bel lt1) (trodAll_cons_mk (Below.trod laidOut (by kernel_rfl) (of_decide_eq_true (by kernel_rfl)) k2 bel lt2) trodAll_mk0))), rfl, bel.frame _, fun h => by cases h⟩

theorem over : Rows.recurrentProvesRow.holds Try.pinned (OpenSpec.ofChange Rows.recurrentProvesSpec) :=
  OpenClaim.holds_of_wide 12 Try.f12 rfl rfl rfl rfl rfl rfl rfl ⟨rfl, rfl, rfl, rfl, rfl⟩ rfl rfl rfl rfl rfl (by kernel_rfl) Try.func12 (by kernel_rfl)
    (of_decide_eq_true (by kernel_rfl)) (by unfold Func.isWrapper; first | (rw [if_pos (by decide +kernel)]; kernel_rfl) | (rw [if_neg (by decide +kernel)]; exact ⟨rfl, rfl⟩))
    (fun os started H enc _ => lifted os started H enc)

/-- Verify returns the specified result, or the specified error, for all graphs, divisors, sinks and lists -/
theorem proved : Rows.RecurrentProvesSaid := over
#print axioms proved
end lawRecurrentProves

end Go.Proofs.Ythbannpmfdflaaa
