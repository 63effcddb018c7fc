/-
  For every graph and sink the law RecurrentLists answers true: recurrent.All and Minimal return the lists of the reference, or its error. There are no conditions.
-/
import Derived.Test.YthbannpmfdflaaaK26
import Derived.Test.YthbannpmfdflaaaK33
namespace Go.Proofs.Ythbannpmfdflaaa
open Go.RowKit

theorem small_parts {n : Int} {es : List E3} (h : smallB n es 5 8 = true) : es.length ≤ 40 ∧ (checkG n es = 0 → n ≤ 5 ∧ sizeE es ≤ 8) := by
  unfold smallB at h
  by_cases h1 : 40 < es.length
  · rw [if_pos h1] at h; cases h
  · refine ⟨by omega, fun h2 => ?_⟩
    rw [if_neg h1, if_neg (fun hc => hc h2), Bool.and_eq_true] at h
    have := of_decide_eq_true h.1
    have := of_decide_eq_true h.2
    omega
theorem sameall24_true (A : Option Addr) (c : Nat) (xss : List (List Int)) (B : Option Addr) (d : Nat) (hn : ∀ xs ∈ xss, xs.length ≤ 1048576) (hn2 : xss.length ≤ 1048576) (w : World) (h : RowsR w w.heap.size A xss) (h' : RowsR w w.heap.size B xss) :
    Calls Try.prog 53 #[.slice A xss.length c, .slice B xss.length d] w fun e w' => e = .returned (.bool true) ∧ Below w.heap.size w w' := by
  refine (rsameall_any A c xss B d xss hn hn2 w _ h h').mono ?_
  rintro e w' ⟨he, m, rfl⟩
  rw [decide_eq_true rfl] at he
  exact ⟨he, rfl, rfl, rfl, Nat.le_refl _, fun _ _ => rfl⟩
theorem few_lists {n q : Int} {es : List E3} (hlen : es.length ≤ 40) (hsm : checkG n es = 0 → n ≤ 5 ∧ sizeE es ≤ 8) :
    ((allE n es q).1.length ≤ 16384 ∧ ∀ x ∈ (allE n es q).1, x.length ≤ 1048576) ∧ (minimE n es q).1.length ≤ 16384 ∧ ∀ x ∈ (minimE n es q).1, x.length ≤ 1048576 := by
  by_cases hx : rootErr n es q = 0
  · obtain ⟨m, p, rfl, rfl⟩ := root_nat hx
    obtain ⟨hck, hG, _, hp⟩ := root_zero hx
    obtain ⟨hn5, hs8⟩ := hsm hck
    obtain ⟨_, hR⟩ := few_bel hx (by omega) hs8
    have hE : allE m es p = (recsL m es p, 0) := by unfold allE; rw [if_pos hx]; simp
    have hF : minimE m es p = ((recsL m es p).filter fun xs => minTo m es p xs m, 0) := by unfold minimE; rw [if_pos hx]; simp
    have hl : ∀ x ∈ recsL m es p, x.length ≤ 1048576 := fun x hxm => by have := (recsL_bd hx (by omega) hxm).1; omega
    rw [hE, hF]
    exact ⟨⟨hR, hl⟩, Nat.le_trans (List.length_filter_le _ _) hR, fun x hxm => hl x (List.mem_filter.1 hxm).1⟩
  · have hE : allE n es q = ([], rootErr n es q) := by unfold allE; rw [if_neg hx]
    have hF : minimE n es q = ([], rootErr n es q) := by unfold minimE; rw [if_neg hx]
    rw [hE, hF]
    simp

set_option maxRecDepth 100000 in
set_option maxHeartbeats 4000000 in
theorem recurrentLists_walk (w : World) (n : Int) (A : Option Addr) (c : Nat) (es : List E3) (_hm : es.length ≤ maxLen) (_hw : (Lit.int .i64 n).wf = true) (h : Reads w w.heap.size 3 A es.length (edgeCells es))
    (q : Int) (_hq : (Lit.int .i64 q).wf = true) :
    Calls Try.prog 10 #[.agg #[.int .i64 n, .slice A es.length c], .int .i64 q] w fun e w' => e = .returned (.bool true) ∧ Below w.heap.size w w' := by
  have FC := Lib.hid (fun w h => fewtrees_any n A c es w h)
  have g0 := Blk.new w 24 #[.int .i64 n, .slice A es.length c]
  have hb0 : Below w.heap.size w (w.alloc (.cells #[.int .i64 n, .slice A es.length c] 24)) := (Below.refl _ _).alloc (Nat.le_refl _) _
  have c0 := g0.cell 0
  have c1 := g0.cell 1
  by_cases hf : smallB n es 5 8 = true
  · obtain ⟨hlen, hsm⟩ := small_parts hf
    obtain ⟨⟨hl1, hn1⟩, hl2, hn2⟩ := few_lists (q := q) hlen hsm
    have HF := Lib.hid hf
    have PA := Lib.hid (fun w h => rall_any n A c es (by omega) q hl1 w h)
    have PM := Lib.hid (fun w h => minimal_any n A c es (by omega) q hl1 w h)
    have RA := Lib.hid (fun w h => rall24_any n A c es (by omega) q hsm w h)
    have RM := Lib.hid (fun w h => rmin24_any n A c es (by omega) q hsm w h)
    obtain ⟨X, hX⟩ : ∃ X, (allE n es q).1 = X := ⟨_, rfl⟩
    obtain ⟨x, hx⟩ : ∃ x, (allE n es q).2 = x := ⟨_, rfl⟩
    obtain ⟨Y, hY⟩ : ∃ X, (minimE n es q).1 = X := ⟨_, rfl⟩
    obtain ⟨y, hy⟩ : ∃ x, (minimE n es q).2 = x := ⟨_, rfl⟩
    rw [hX] at hl1 hn1
    rw [hY] at hl2 hn2
    rw [hX, hx] at PA RA
    rw [hY, hy] at PM RM
    have S1 := Lib.hid (fun (A : Option Addr) (c : Nat) (B : Option Addr) (d : Nat) (w : World) h h' => sameall24_true A c X B d hn1 (by omega) w h h')
    have S2 := Lib.hid (fun (A : Option Addr) (c : Nat) (B : Option Addr) (d : Nat) (w : World) h h' => sameall24_true A c Y B d hn2 (by omega) w h h')
    clear hf hX hx hY hy hn1 hn2 hsm
    go_enter Try.func10, Try.ntmps10
    go_wp2_with fail
    refine (FC.out _ ((h.below hb0).more hb0.size)).mono ?_
    rintro e w1 ⟨he, hb1⟩
    rw [HF.out] at he
    subst he
    have hB1 := hb0.trans (hb1.mono hb0.size)
    have g1 := g0.next hb1
    have c0 := g1.cell 0
    have c1 := g1.cell 1
    clear g0 hb0 hb1
    go_wp2_with fail
    refine (PA.out _ ((h.below hB1).more hB1.size)).mono ?_
    rintro e w2 ⟨A2, c2, rfl, r2, hb2⟩
    have hB2 := hB1.trans (hb2.mono hB1.size)
    have g2 := g1.next hb2
    have c0 := g2.cell 0
    have c1 := g2.cell 1
    clear g1 hB1 hb2
    go_wp2_with fail
    refine (RA.out _ ((h.below hB2).more hB2.size)).mono ?_
    rintro e w3 ⟨A3, c3, rfl, r3, hb3⟩
    have hB3 := hB2.trans (hb3.mono hB2.size)
    have g3 := g2.next hb3
    have r2 := r2.next hb3
    have c0 := g3.cell 0
    have c1 := g3.cell 1
    clear g2 hB2 hb3
    go_wp2_with fail
    refine (PM.out _ ((h.below hB3).more hB3.size)).mono ?_
    rintro e w4 ⟨A4, c4, rfl, r4, hb4⟩
    have hB4 := hB3.trans (hb4.mono hB3.size)
    have g4 := g3.next hb4
    have r2 := r2.next hb4
    have r3 := r3.next hb4
    have c0 := g4.cell 0
    have c1 := g4.cell 1
    clear g3 hB3 hb4
    go_wp2_with fail
    refine (RM.out _ ((h.below hB4).more hB4.size)).mono ?_
    rintro e w5 ⟨A5, c5, rfl, r5, hb5⟩
    have hB5 := hB4.trans (hb5.mono hB4.size)
    have r2 := r2.next hb5
    have r3 := r3.next hb5
    have r4 := r4.next hb5
    clear g4 hB4 hb5 c0 c1
    go_wp2_with fail
    refine (awake24_any w5).mono ?_
    rintro e w6 ⟨rfl, hb6⟩
    have hB6 := hB5.trans (hb6.mono hB5.size)
    have r2 := r2.next hb6
    have r3 := r3.next hb6
    have r4 := r4.next hb6
    have r5 := r5.next hb6
    clear hB5 hb6
    go_wp2_with fail
    refine (S1.out _ _ _ _ _ (by exact r2) (by exact r3)).mono ?_
    rintro e w7 ⟨rfl, hb7⟩
    have hB7 := hB6.trans (hb7.mono hB6.size)
    have r4 := r4.next hb7
    have r5 := r5.next hb7
    clear hB6 hb7 r2 r3
    go_wp2_with fail
    refine (S2.out _ _ _ _ _ (by exact r4) (by exact r5)).mono ?_
    rintro e w8 ⟨rfl, hb8⟩
    have hB8 := hB7.trans (hb8.mono hB7.size)
    go_wp2
    go_ret
    exact ⟨by simp, hB8⟩
  · have HF : Hid (smallB n es 5 8 = false) := by rw [Hid, ← Bool.not_eq_true]; exact hf
    clear hf
    go_enter Try.func10, Try.ntmps10
    go_wp2_with fail
    refine (FC.out _ ((h.below hb0).more hb0.size)).mono ?_
    rintro e w1 ⟨he, hb1⟩
    rw [HF.out] at he
    subst he
    have hB1 := hb0.trans (hb1.mono hb0.size)
    go_wp2_with fail
    refine (awake24_any w1).mono ?_
    rintro e w2 ⟨rfl, hb2⟩
    go_wp2
    go_ret
    exact ⟨rfl, hB1.trans (hb2.mono hB1.size)⟩

namespace lawRecurrentLists
open Go.ChangeShapes Go.WideShapes Go.ChangeAt Go.RowKit
set_option linter.unusedVariables false
set_option maxRecDepth 100000 in
theorem lifted (os : Os) (started : os.Started) (H : Type) (enc : TypeId × Value → H) :
    ReturnsInHanded {} Try.checked os 10 .any (Rows.recurrentListsSpec.pre6 enc Try.prog Try.f10 Rows.recurrentListsRow.domain false) (Rows.recurrentListsSpec.post enc Try.prog Try.f10 false true false false) := by
  refine returnsInHanded_of_change (C := Try.checked) own started (by kernel_rfl) Try.func10
    (ChangeSpec.witness6 (enc := enc) (C := Try.checked) false ⟨#[], #[.agg #[.int .i64 0, .slice none 0 0], .int .i64 0], []⟩ 8 (by kernel_rfl) (by kernel_rfl) (by kernel_rfl) (by kernel_rfl)) ?_
  intro W base args ds gs before hval0 hW hcnd _
  have hval : ∀ (j : Nat) t v, Try.f10.params[j]? = some t → args[j]? = some v → Value.okWide Try.prog W .any base t v := hval0
  have hW' := hW
  obtain ⟨p, q, hA0, hV, rfl, hfz, hnd⟩ := hW
  have hA : DataW.TrodAll enc Try.prog W 0 (fun _ => true) true Try.f10.params.toList args.toList ds p := hA0
  rw [Try.params10] at hA hval
  obtain ⟨v0, vs0, d0, ds0, p0, q0, hargs, rfl, rfl, h0, r0⟩ := trodAll_cons hA
  obtain ⟨v1, vs1, d1, ds1, p1, q1, rfl, rfl, rfl, h1, r1⟩ := trodAll_cons r0
  obtain ⟨rfl, rfl, rfl⟩ := trodAll_nil r1
  obtain rfl : args = #[v0, v1] := by cases args; simp_all
  obtain ⟨rfl, rfl⟩ := trodVars_none hV
  obtain ⟨cs0, rfl, _⟩ := okWide_struct Try.underlying24 (hval 0 24 v0 rfl rfl)
  have k0 := h0
  have lt0 : ∀ x ∈ p0, x.block < W.heap.size := by obtain ⟨m, hm⟩ := k0; exact DataW.trod_lt m _ _ _ hm
  obtain ⟨_, hf0⟩ := h0
  obtain ⟨n0, a0, cap0, xs0, hcs0, hm0, hr0, hw0⟩ := open_graph hf0
  obtain rfl : cs0 = #[.int .i64 n0, .slice a0 xs0.length cap0] := Array.toList_inj.1 hcs0
  obtain ⟨a1, rfl, rfl, rfl, w1⟩ := open_int Try.underlying3 (hval 1 3 v1 rfl rfl) h1
  clear hA0 hval0
  refine (recurrentLists_walk W n0 a0 cap0 xs0 hm0 hw0 hr0 a1 w1).mono fun e W' ⟨he, bel⟩ => ?_
  subst he
  exact ⟨_, rfl, _, _, _, [], _, [], hW', trodAll_mk1 (shut_bool Try.underlying4 _), (trodAll_cons_mk (Below.trod laidOut (by kernel_rfl) (of_decide_eq_true (by kernel_rfl)) k0 bel lt0) (trodAll_cons_mk (shut_int Try.underlying3 w1) trodAll_mk0)), rfl, bel.frame _, fun h => by cases h⟩

theorem over : Rows.recurrentListsRow.holds Try.pinned (OpenSpec.ofChange Rows.recurrentListsSpec) :=
  OpenClaim.holds_of_wide 10 Try.f10 rfl rfl rfl rfl rfl rfl rfl ⟨rfl, rfl, rfl, rfl, rfl⟩ rfl rfl rfl rfl rfl (by kernel_rfl) Try.func10 (by kernel_rfl)
    (of_decide_eq_true (by kernel_rfl)) (by unfold Func.isWrapper; first | (rw [if_pos (by decide +kernel)]; kernel_rfl) | (rw [if_neg (by decide +kernel)]; exact ⟨rfl, rfl⟩))
    (fun os started H enc _ => lifted os started H enc)

/-- All and Minimal return the lists, or the specified errors, for all graphs and sinks -/
theorem proved : Rows.RecurrentListsSaid := over
#print axioms proved
end lawRecurrentLists

end Go.Proofs.Ythbannpmfdflaaa
