/-
  For every graph, sink and divisor the law BurningBurns answers true: Burn, Waves and Superstable return the results of the reference, or its errors. There are no conditions.
-/
import Derived.Test.YthbannpmfdflaaaAwakeB
import Derived.Test.YthbannpmfdflaaaLawG
import Derived.Test.YthbannpmfdflaaaRFew
import Derived.Test.YthbannpmfdflaaaRBurnE
import Derived.Test.YthbannpmfdflaaaEqF
namespace Go.Proofs.Ythbannpmfdflaaa
open Go.RowKit

theorem rounds_mem {es : List E3} {cs : List Int} {n : Nat} : ∀ (k : Nat) (l : List Nat), ∀ r ∈ roundsL es cs n k l, r.length ≤ n
  | 0, _, r, hr => by simp [roundsL] at hr
  | k + 1, l, r, hr => by
    by_cases hl : readyL es cs n l = []
    · rw [rounds_none hl] at hr; simp at hr
    · rw [rounds_some hl] at hr
      rcases List.mem_cons.1 hr with rfl | hr
      · exact ready_len _ _ _ _
      · exact rounds_mem k _ r hr
theorem wavesE_mem {n : Int} {es : List E3} {q : Int} {cs : List Int} : ∀ xs ∈ (wavesE n es q cs).1, xs.length ≤ 1048576 := by
  unfold wavesE
  split
  · rename_i hz
    obtain ⟨hG, _⟩ := conf_zero (burn_zero hz).1
    have hhi := hG.hi
    intro xs hx
    obtain ⟨r, hr, rfl⟩ := List.mem_map.1 hx
    rw [natsI_length]
    rcases List.mem_cons.1 hr with rfl | hr
    · simp
    · have := rounds_mem _ _ r hr
      omega
  · simp

set_option maxRecDepth 100000 in
set_option maxHeartbeats 4000000 in
theorem burningBurns_walk (w : World) (n : Int) (A : Option Addr) (c : Nat) (es : List E3) (_hm : es.length ≤ maxLen) (_hw : (Lit.int .i64 n).wf = true) (h : Reads w w.heap.size 3 A es.length (edgeCells es)) (q : Int) (_hq : (Lit.int .i64 q).wf = true)
    (B : Option Addr) (d : Nat) (cs : List Int) (_hm' : cs.length ≤ maxLen) (_hw' : ∀ x ∈ cs, (Lit.int .i64 x).wf = true) (h' : Reads w w.heap.size 1 B cs.length (ints cs)) :
    Calls Try.prog 7 #[.agg #[.int .i64 n, .slice A es.length c], .int .i64 q, .slice B cs.length d] w fun e w' => e = .returned (.bool true) ∧ Below w.heap.size w w' := by
  have FC := Lib.hid (fun w h h' => few23_any n A c es B d cs w h h')
  have g0 := Blk.new w 24 #[.int .i64 n, .slice A es.length c]
  have hb0 : Below w.heap.size w (w.alloc (.cells #[.int .i64 n, .slice A es.length c] 24)) := (Below.refl _ _).alloc (Nat.le_refl _) _
  by_cases hf : few23 n es cs = true
  · obtain ⟨h1, h2, h3, _⟩ := few23_parts hf
    have P1 := Lib.hid (fun w h h' => burn_any n A c es (by omega) q B d cs (by omega) w h h')
    have P2 := Lib.hid (fun w h h' => rburnE_any n A c es (by omega) q B d cs (by omega) w h h')
    have P3 := Lib.hid (fun w h h' => waves_any n A c es (by omega) q B d cs (by omega) w h h')
    have P4 := Lib.hid (fun w h h' => rwaves_any n A c es (by omega) q B d cs (by omega) w h h')
    have P5 := Lib.hid (fun w h h' => super_any n A c es (by omega) q B d cs (by omega) w h h')
    have P6 := Lib.hid (fun w h h' => rsuper_any n A c es (fun hg => (h3 hg).1) (by omega) q B d cs (by omega) w h h')
    obtain ⟨l1, l2⟩ := burnE_len (n := n) (es := es) (q := q) (cs := cs)
    have l3 := wavesE_len (n := n) (es := es) (q := q) (cs := cs)
    have HWM := Lib.hid (wavesE_mem (n := n) (es := es) (q := q) (cs := cs))
    obtain ⟨⟨xs, ys, x⟩, hE1⟩ : ∃ p, burnE n es q cs = p := ⟨_, rfl⟩
    obtain ⟨⟨ws, y⟩, hE2⟩ : ∃ p, wavesE n es q cs = p := ⟨_, rfl⟩
    obtain ⟨⟨b, z⟩, hE3⟩ : ∃ p, superE n es q cs = p := ⟨_, rfl⟩
    rw [hE1] at P1 P2 l1 l2
    rw [hE2] at P3 P4 l3 HWM
    rw [hE3] at P5 P6
    dsimp only at P1 P2 P3 P4 P5 P6 l1 l2 l3 HWM
    have HF := Lib.hid hf
    clear hf hE1 hE2 hE3 h3
    go_enter Try.func7, Try.ntmps7
    go_wp2_with fail
    refine (FC.out _ ((h.alloc (Nat.le_refl _) _).more (by simp)) ((h'.alloc (Nat.le_refl _) _).more (by simp))).mono ?_
    rintro e w1 ⟨he, hb1⟩
    rw [HF.out] at he
    subst he
    have g1 := g0.next hb1
    have c0 := g1.cell 0
    have c1 := g1.cell 1
    have hB1 := hb0.trans (hb1.mono hb0.size)
    go_wp2_with fail
    refine (P1.out _ ((h.below hB1).more hB1.size) ((h'.below hB1).more hB1.size)).mono ?_
    rintro e w2 ⟨A1, k1, A2, k2, rfl, o1, o2, hb2⟩
    have g2 := g1.next hb2
    have c0 := g2.cell 0
    have c1 := g2.cell 1
    have hB2 := hB1.trans (hb2.mono hB1.size)
    clear g0 g1 hb0 hb1 hb2 hB1
    go_wp2_with fail
    refine (P2.out _ ((h.below hB2).more hB2.size) ((h'.below hB2).more hB2.size)).mono ?_
    rintro e w3 ⟨A3, k3, A4, k4, rfl, o3, o4, hb3⟩
    have g3 := g2.next hb3
    have c0 := g3.cell 0
    have c1 := g3.cell 1
    have hB3 := hB2.trans (hb3.mono hB2.size)
    have o1 := o1.next hb3
    have o2 := o2.next hb3
    clear g2 hb3 hB2
    go_wp2_with fail
    refine (P3.out _ ((h.below hB3).more hB3.size) ((h'.below hB3).more hB3.size)).mono ?_
    rintro e w4 ⟨A5, k5, v5, rfl, o5, hb4⟩
    have g4 := g3.next hb4
    have c0 := g4.cell 0
    have c1 := g4.cell 1
    have hB4 := hB3.trans (hb4.mono hB3.size)
    have o1 := o1.next hb4
    have o2 := o2.next hb4
    have o3 := o3.next hb4
    have o4 := o4.next hb4
    clear g3 hb4 hB3
    go_wp2_with fail
    refine (P4.out _ ((h.below hB4).more hB4.size) ((h'.below hB4).more hB4.size)).mono ?_
    rintro e w5 ⟨A6, k6, v6, rfl, o6, hb5⟩
    have g5 := g4.next hb5
    have c0 := g5.cell 0
    have c1 := g5.cell 1
    have hB5 := hB4.trans (hb5.mono hB4.size)
    have o1 := o1.next hb5
    have o2 := o2.next hb5
    have o3 := o3.next hb5
    have o4 := o4.next hb5
    have o5 := o5.next hb5
    clear g4 hb5 hB4
    go_wp2_with fail
    refine (P5.out _ ((h.below hB5).more hB5.size) ((h'.below hB5).more hB5.size)).mono ?_
    rintro e w6 ⟨rfl, hb6⟩
    have g6 := g5.next hb6
    have c0 := g6.cell 0
    have c1 := g6.cell 1
    have hB6 := hB5.trans (hb6.mono hB5.size)
    have o1 := o1.next hb6
    have o2 := o2.next hb6
    have o3 := o3.next hb6
    have o4 := o4.next hb6
    have o5 := o5.next hb6
    have o6 := o6.next hb6
    clear g5 hb6 hB5
    go_wp2_with fail
    refine (P6.out _ ((h.below hB6).more hB6.size) ((h'.below hB6).more hB6.size)).mono ?_
    rintro e w7 ⟨rfl, hb7⟩
    have hB7 := hB6.trans (hb7.mono hB6.size)
    have o1 := o1.next hb7
    have o2 := o2.next hb7
    have o3 := o3.next hb7
    have o4 := o4.next hb7
    have o5 := o5.next hb7
    have o6 := o6.next hb7
    clear g6 hb7 hB6 c0 c1
    go_wp2_with fail
    refine (awake_any w7).mono ?_
    rintro e w8 ⟨rfl, hb8⟩
    have hB8 := hB7.trans (hb8.mono hB7.size)
    have o1 := o1.next hb8
    have o2 := o2.next hb8
    have o3 := o3.next hb8
    have o4 := o4.next hb8
    have o5 := o5.next hb8
    have o6 := o6.next hb8
    clear hb8 hB7
    go_wp2_with fail
    refine (sameints_any A1 _ xs A3 _ (by omega) w8 o1.reads o3.reads).mono ?_
    rintro e w9 ⟨rfl, hb9⟩
    have hB9 := hB8.trans (hb9.mono hB8.size)
    have o2 := o2.next hb9
    have o4 := o4.next hb9
    have o5 := o5.next hb9
    have o6 := o6.next hb9
    clear hb9 hB8
    go_wp2_with fail
    refine (sameints_any A2 _ ys A4 _ (by omega) w9 o2.reads o4.reads).mono ?_
    rintro e w10 ⟨rfl, hb10⟩
    have hB10 := hB9.trans (hb10.mono hB9.size)
    have o5 := o5.next hb10
    have o6 := o6.next hb10
    clear hb10 hB9
    go_wp2_with fail
    refine (equalf_any A5 _ ws A6 _ (by omega) HWM.out w10 o5.reads o6.reads).mono ?_
    rintro e w11 ⟨rfl, hb11⟩
    have hB11 := hB10.trans (hb11.mono hB10.size)
    go_wp2
    go_ret
    exact ⟨by simp, hB11⟩
  · have HF : Hid (few23 n es cs = false) := by rw [Hid, ← Bool.not_eq_true]; exact hf
    clear hf
    go_enter Try.func7, Try.ntmps7
    go_wp2_with fail
    refine (FC.out _ ((h.alloc (Nat.le_refl _) _).more (by simp)) ((h'.alloc (Nat.le_refl _) _).more (by simp))).mono ?_
    rintro e w1 ⟨he, hb1⟩
    rw [HF.out] at he
    subst he
    have hB1 := hb0.trans (hb1.mono hb0.size)
    go_wp2_with fail
    refine (awake_any w1).mono ?_
    rintro e w2 ⟨rfl, hb2⟩
    go_wp2
    go_ret
    exact ⟨rfl, hB1.trans (hb2.mono hB1.size)⟩

namespace lawBurningBurns
open Go.ChangeShapes Go.WideShapes Go.ChangeAt Go.RowKit
set_option linter.unusedVariables false
set_option maxRecDepth 100000 in
theorem lifted (os : Os) (started : os.Started) (H : Type) (enc : TypeId × Value → H) :
    ReturnsInHanded {} Try.checked os 7 .any (Rows.burningBurnsSpec.pre6 enc Try.prog Try.f7 Rows.burningBurnsRow.domain false) (Rows.burningBurnsSpec.post enc Try.prog Try.f7 false true false false) := by
  refine returnsInHanded_of_change (C := Try.checked) own started (by kernel_rfl) Try.func7
    (ChangeSpec.witness6 (enc := enc) (C := Try.checked) false ⟨#[], #[.agg #[.int .i64 0, .slice none 0 0], .int .i64 0, .slice none 0 0], []⟩ 8 (by kernel_rfl) (by kernel_rfl) (by kernel_rfl) (by kernel_rfl)) ?_
  intro W base args ds gs before hval0 hW hcnd _
  have hval : ∀ (j : Nat) t v, Try.f7.params[j]? = some t → args[j]? = some v → Value.okWide Try.prog W .any base t v := hval0
  have hW' := hW
  obtain ⟨p, q, hA0, hV, rfl, hfz, hnd⟩ := hW
  have hA : DataW.TrodAll enc Try.prog W 0 (fun _ => true) true Try.f7.params.toList args.toList ds p := hA0
  rw [Try.params7] at hA hval
  obtain ⟨v0, vs0, d0, ds0, p0, q0, hargs, rfl, rfl, h0, r0⟩ := trodAll_cons hA
  obtain ⟨v1, vs1, d1, ds1, p1, q1, rfl, rfl, rfl, h1, r1⟩ := trodAll_cons r0
  obtain ⟨v2, vs2, d2, ds2, p2, q2, rfl, rfl, rfl, h2, r2⟩ := trodAll_cons r1
  obtain ⟨rfl, rfl, rfl⟩ := trodAll_nil r2
  obtain rfl : args = #[v0, v1, v2] := by cases args; simp_all
  obtain ⟨rfl, rfl⟩ := trodVars_none hV
  obtain ⟨cs0, rfl, _⟩ := okWide_struct Try.underlying24 (hval 0 24 v0 rfl rfl)
  have k0 := h0
  have lt0 : ∀ x ∈ p0, x.block < W.heap.size := by obtain ⟨m, hm⟩ := k0; exact DataW.trod_lt m _ _ _ hm
  obtain ⟨_, hf0⟩ := h0
  obtain ⟨n0, a0, cap0, xs0, hcs0, hm0, hr0, hw0⟩ := open_graph hf0
  obtain rfl : cs0 = #[.int .i64 n0, .slice a0 xs0.length cap0] := Array.toList_inj.1 hcs0
  obtain ⟨a1, rfl, rfl, rfl, w1⟩ := open_int Try.underlying3 (hval 1 3 v1 rfl rfl) h1
  obtain ⟨b2, len2, c2, rfl⟩ := okWide_slice Try.underlying26 (hval 2 26 v2 rfl rfl)
  have k2 := h2
  have lt2 : ∀ x ∈ p2, x.block < W.heap.size := by obtain ⟨m, hm⟩ := k2; exact DataW.trod_lt m _ _ _ hm
  obtain ⟨_, hf2⟩ := h2
  obtain ⟨a2, cap2, xs2, hcs2, hm2, hr2, hw2⟩ := open_row Try.underlying26 hf2
  obtain ⟨rfl, rfl, rfl⟩ : b2 = a2 ∧ len2 = xs2.length ∧ c2 = cap2 := by simpa [Value.cells] using hcs2
  clear hA0 hval0
  refine (burningBurns_walk W n0 a0 cap0 xs0 hm0 hw0 hr0 a1 w1 b2 c2 xs2 hm2 hw2 hr2).mono fun e W' ⟨he, bel⟩ => ?_
  subst he
  exact ⟨_, rfl, _, _, _, [], _, [], hW', trodAll_mk1 (shut_bool Try.underlying4 _), (trodAll_cons_mk (Below.trod laidOut (by kernel_rfl) (of_decide_eq_true (by kernel_rfl)) k0 bel lt0) (trodAll_cons_mk (shut_int Try.underlying3 w1) (trodAll_cons_mk (Below.trod laidOut (by kernel_rfl) (of_decide_eq_true (by kernel_rfl)) k2 bel lt2) trodAll_mk0))), rfl, bel.frame _, fun h => by cases h⟩

theorem over : Rows.burningBurnsRow.holds Try.pinned (OpenSpec.ofChange Rows.burningBurnsSpec) :=
  OpenClaim.holds_of_wide 7 Try.f7 rfl rfl rfl rfl rfl rfl rfl ⟨rfl, rfl, rfl, rfl, rfl⟩ rfl rfl rfl rfl rfl (by kernel_rfl) Try.func7 (by kernel_rfl)
    (of_decide_eq_true (by kernel_rfl)) (by unfold Func.isWrapper; first | (rw [if_pos (by decide +kernel)]; kernel_rfl) | (rw [if_neg (by decide +kernel)]; exact ⟨rfl, rfl⟩))
    (fun os started H enc _ => lifted os started H enc)

/-- For every graph, sink and divisor the law BurningBurns answers true. -/
theorem proved : Rows.BurningBurnsSaid := over
#print axioms proved
end lawBurningBurns
end Go.Proofs.Ythbannpmfdflaaa
