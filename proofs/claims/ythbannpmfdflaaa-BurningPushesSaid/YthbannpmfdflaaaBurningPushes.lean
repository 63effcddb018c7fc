/-
  For every graph, sink and divisor the law BurningPushes answers true: Push returns the superstable configuration and the script of the reference, or its error. There are no conditions.
-/
import Derived.Test.YthbannpmfdflaaaAwakeB
import Derived.Test.YthbannpmfdflaaaLawG
import Derived.Test.YthbannpmfdflaaaRFew
import Derived.Test.YthbannpmfdflaaaOrder
import Derived.Test.YthbannpmfdflaaaRPush
namespace Go.Proofs.Ythbannpmfdflaaa
open Go.RowKit

theorem PushR.len {es : List E3} {n q : Nat} {c s : List Int} {m : Nat} {r} (h : PushR es n q c s m r) : ∀ d t, r = some (d, t) → d.length = c.length ∧ t.length = s.length := by
  induction h with
  | done _ => intro d t e; injection e with e; injection e with e1 e2; subst e1 e2; exact ⟨rfl, rfl⟩
  | over _ _ => intro d t e; cases e
  | step _ _ _ ih => intro d t e; have := ih d t e; rw [stepC_length, bumpL_length] at this; exact this
theorem PushE.len {n : Int} {es : List E3} {q : Int} {cs ds ss : List Int} {e : Int} (h : PushE n es q cs ds ss e) : ds.length ≤ 12 ∧ ss.length ≤ 12 := by
  rcases h with ⟨_, rfl, rfl, _⟩ | ⟨hz, r, hr, ⟨hr2, _⟩ | ⟨_, rfl, rfl, _⟩⟩
  · simp
  · obtain ⟨hG, _, _, _, hlen, _, _⟩ := conf_zero (burn_zero hz).1
    have hhi := hG.hi
    obtain ⟨h1, h2⟩ := hr.len _ _ hr2
    rw [List.length_replicate] at h2
    omega
  · simp

set_option maxRecDepth 100000 in
set_option maxHeartbeats 2000000 in
theorem burningPushes_walk (w : World) (n : Int) (A : Option Addr) (c : Nat) (es : List E3) (_hm : es.length ≤ maxLen) (_hw : (Lit.int .i64 n).wf = true) (h : Reads w w.heap.size 3 A es.length (edgeCells es)) (q : Int) (_hq : (Lit.int .i64 q).wf = true)
    (B : Option Addr) (d : Nat) (cs : List Int) (_hm' : cs.length ≤ maxLen) (_hw' : ∀ x ∈ cs, (Lit.int .i64 x).wf = true) (h' : Reads w w.heap.size 1 B cs.length (ints cs)) :
    Calls Try.prog 3 #[.agg #[.int .i64 n, .slice A es.length c], .int .i64 q, .slice B cs.length d] w fun e w' => e = .returned (.bool true) ∧ Below w.heap.size w w' := by
  have FC := Lib.hid (fun w h h' => few23_any n A c es B d cs w h h')
  have g0 := Blk.new w 24 #[.int .i64 n, .slice A es.length c]
  have hb0 : Below w.heap.size w (w.alloc (.cells #[.int .i64 n, .slice A es.length c] 24)) := (Below.refl _ _).alloc (Nat.le_refl _) _
  by_cases hf : few23 n es cs = true
  · obtain ⟨h1, h2, _⟩ := few23_parts hf
    obtain ⟨ds, ss, x, hP⟩ := PushE.total n es q cs
    obtain ⟨hdl, hsl⟩ := hP.len
    have PC := Lib.hid (fun w h h' => push_any n A c es (by omega) q B d cs ds ss x (by omega) hP w h h')
    have RC := Lib.hid (fun w h h' => rpush_any n A c es (by omega) q B d cs ds ss x (by omega) hP w h h')
    have HF := Lib.hid hf
    clear hf hP
    go_enter Try.func3, Try.ntmps3
    go_wp2_with fail
    refine (FC.out _ ((h.alloc (Nat.le_refl _) _).more (by simp)) ((h'.alloc (Nat.le_refl _) _).more (by simp))).mono ?_
    rintro e w1 ⟨he, hb1⟩
    rw [HF.out] at he
    subst he
    have g1 := g0.next hb1
    have c0 := g1.cell 0
    have c1 := g1.cell 1
    have hB1 := hb0.trans (hb1.mono hb0.size)
    go_wp2_with fail
    refine (PC.out _ ((h.below hB1).more hB1.size) ((h'.below hB1).more hB1.size)).mono ?_
    rintro e w2 ⟨C1, c1, S1, e1, rfl, o1, o2, hb2⟩
    have g2 := g1.next hb2
    have c0 := g2.cell 0
    have c1 := g2.cell 1
    have hB2 := hB1.trans (hb2.mono hB1.size)
    go_wp2_with fail
    refine (RC.out _ ((h.below hB2).more hB2.size) ((h'.below hB2).more hB2.size)).mono ?_
    rintro e w3 ⟨C2, c2, S2, e2, rfl, r1, r2, hb3⟩
    have hB3 := hB2.trans (hb3.mono hB2.size)
    have o1 := o1.next hb3
    have o2 := o2.next hb3
    go_wp2_with fail
    refine (awake_any w3).mono ?_
    rintro e w4 ⟨rfl, hb4⟩
    have hB4 := hB3.trans (hb4.mono hB3.size)
    have o1 := o1.next hb4
    have o2 := o2.next hb4
    have r1 := r1.next hb4
    have r2 := r2.next hb4
    go_wp2_with fail
    refine (rsame_any C1 _ ds C2 _ ds (by omega) w4 o1.reads r1).mono ?_
    rintro e w5 ⟨he, hb5⟩
    rw [decide_eq_true rfl] at he
    subst he
    have hB5 := hB4.trans (hb5.mono hB4.size)
    have o2 := o2.next hb5
    have r2 := r2.next hb5
    go_wp2_with fail
    refine (rsame_any S1 _ ss S2 _ ss (by omega) w5 o2.reads r2).mono ?_
    rintro e w6 ⟨he, hb6⟩
    rw [decide_eq_true rfl] at he
    subst he
    have hB6 := hB5.trans (hb6.mono hB5.size)
    go_wp2
    go_ret
    exact ⟨by simp, hB6⟩
  · have HF : Hid (few23 n es cs = false) := by rw [Hid, ← Bool.not_eq_true]; exact hf
    clear hf
    go_enter Try.func3, Try.ntmps3
    go_wp2_with fail
    refine (FC.out _ ((h.alloc (Nat.le_refl _) _).more (by simp)) ((h'.alloc (Nat.le_refl _) _).more (by simp))).mono ?_
    rintro e w1 ⟨he, hb1⟩
    rw [HF.out] at he
    subst he
    have hB1 := hb0.trans (hb1.mono hb0.size)
    go_wp2_with fail
    refine (awake_any w1).mono ?_
    rintro e w2 ⟨rfl, hb2⟩
    go_wp2
    go_ret
    exact ⟨rfl, hB1.trans (hb2.mono hB1.size)⟩

namespace lawBurningPushes
open Go.ChangeShapes Go.WideShapes Go.ChangeAt Go.RowKit
set_option linter.unusedVariables false
set_option maxRecDepth 100000 in
theorem lifted (os : Os) (started : os.Started) (H : Type) (enc : TypeId × Value → H) :
    ReturnsInHanded {} Try.checked os 3 .any (Rows.burningPushesSpec.pre6 enc Try.prog Try.f3 Rows.burningPushesRow.domain false) (Rows.burningPushesSpec.post enc Try.prog Try.f3 false true false false) := by
  refine returnsInHanded_of_change (C := Try.checked) own started (by kernel_rfl) Try.func3
    (ChangeSpec.witness6 (enc := enc) (C := Try.checked) false ⟨#[], #[.agg #[.int .i64 0, .slice none 0 0], .int .i64 0, .slice none 0 0], []⟩ 8 (by kernel_rfl) (by kernel_rfl) (by kernel_rfl) (by kernel_rfl)) ?_
  intro W base args ds gs before hval0 hW hcnd _
  have hval : ∀ (j : Nat) t v, Try.f3.params[j]? = some t → args[j]? = some v → Value.okWide Try.prog W .any base t v := hval0
  have hW' := hW
  obtain ⟨p, q, hA0, hV, rfl, hfz, hnd⟩ := hW
  have hA : DataW.TrodAll enc Try.prog W 0 (fun _ => true) true Try.f3.params.toList args.toList ds p := hA0
  rw [Try.params3] at hA hval
  obtain ⟨v0, vs0, d0, ds0, p0, q0, hargs, rfl, rfl, h0, r0⟩ := trodAll_cons hA
  obtain ⟨v1, vs1, d1, ds1, p1, q1, rfl, rfl, rfl, h1, r1⟩ := trodAll_cons r0
  obtain ⟨v2, vs2, d2, ds2, p2, q2, rfl, rfl, rfl, h2, r2⟩ := trodAll_cons r1
  obtain ⟨rfl, rfl, rfl⟩ := trodAll_nil r2
  obtain rfl : args = #[v0, v1, v2] := by cases args; simp_all
  obtain ⟨rfl, rfl⟩ := trodVars_none hV
  obtain ⟨cs0, rfl, _⟩ := okWide_struct Try.underlying24 (hval 0 24 v0 rfl rfl)
  have k0 := h0
  have lt0 : ∀ x ∈ p0, x.block < W.heap.size := by obtain ⟨m, hm⟩ := k0; exact DataW.trod_lt m _ _ _ hm
  obtain ⟨_, hf0⟩ := h0
  obtain ⟨n0, a0, cap0, xs0, hcs0, hm0, hr0, hw0⟩ := open_graph hf0
  obtain rfl : cs0 = #[.int .i64 n0, .slice a0 xs0.length cap0] := Array.toList_inj.1 hcs0
  obtain ⟨a1, rfl, rfl, rfl, w1⟩ := open_int Try.underlying3 (hval 1 3 v1 rfl rfl) h1
  obtain ⟨b2, len2, c2, rfl⟩ := okWide_slice Try.underlying26 (hval 2 26 v2 rfl rfl)
  have k2 := h2
  have lt2 : ∀ x ∈ p2, x.block < W.heap.size := by obtain ⟨m, hm⟩ := k2; exact DataW.trod_lt m _ _ _ hm
  obtain ⟨_, hf2⟩ := h2
  obtain ⟨a2, cap2, xs2, hcs2, hm2, hr2, hw2⟩ := open_row Try.underlying26 hf2
  obtain ⟨rfl, rfl, rfl⟩ : b2 = a2 ∧ len2 = xs2.length ∧ c2 = cap2 := by simpa [Value.cells] using hcs2
  clear hA0 hval0
  refine (burningPushes_walk W n0 a0 cap0 xs0 hm0 hw0 hr0 a1 w1 b2 c2 xs2 hm2 hw2 hr2).mono fun e W' ⟨he, bel⟩ => ?_
  subst he
  exact ⟨_, rfl, _, _, _, [], _, [], hW', trodAll_mk1 (shut_bool Try.underlying4 _), (trodAll_cons_mk (Below.trod laidOut (by kernel_rfl) (of_decide_eq_true (by kernel_rfl)) k0 bel lt0) (trodAll_cons_mk (shut_int Try.underlying3 w1) (trodAll_cons_mk (Below.trod laidOut (by kernel_rfl) (of_decide_eq_true (by kernel_rfl)) k2 bel lt2) trodAll_mk0))), rfl, bel.frame _, fun h => by cases h⟩

theorem over : Rows.burningPushesRow.holds Try.pinned (OpenSpec.ofChange Rows.burningPushesSpec) :=
  OpenClaim.holds_of_wide 3 Try.f3 rfl rfl rfl rfl rfl rfl rfl ⟨rfl, rfl, rfl, rfl, rfl⟩ rfl rfl rfl rfl rfl (by kernel_rfl) Try.func3 (by kernel_rfl)
    (of_decide_eq_true (by kernel_rfl)) (by unfold Func.isWrapper; first | (rw [if_pos (by decide +kernel)]; kernel_rfl) | (rw [if_neg (by decide +kernel)]; exact ⟨rfl, rfl⟩))
    (fun os started H enc _ => lifted os started H enc)

/-- For every graph, sink and divisor the law BurningPushes answers true. -/
theorem proved : Rows.BurningPushesSaid := over
#print axioms proved
end lawBurningPushes
end Go.Proofs.Ythbannpmfdflaaa
