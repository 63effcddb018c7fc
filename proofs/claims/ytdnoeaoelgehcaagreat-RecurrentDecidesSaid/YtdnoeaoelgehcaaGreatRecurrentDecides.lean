/-
  For every graph, sink and divisor the law RecurrentDecides answers true: recurrent.Recurrent, Forbidden and Dual return the results of the reference, or its errors. There are no conditions.
-/
import Derived.Test.YtdnoeaoelgehcaaGreatK26
import Derived.Test.YtdnoeaoelgehcaaGreatK27
import Derived.Test.YtdnoeaoelgehcaaGreatK25
import Derived.Test.YtdnoeaoelgehcaaGreatK34
import Derived.Test.YtdnoeaoelgehcaaGreatK35
namespace Go.Proofs.YtdnoeaoelgehcaaGreat
open Go.RowKit

theorem samed_true (A : Option Addr) (c : Nat) (xs : List Int) (B : Option Addr) (d : Nat) (hn : xs.length ≤ 1048576) (w : World) (h : Reads w w.heap.size 1 A xs.length (ints xs)) (h' : Reads w w.heap.size 1 B xs.length (ints xs)) :
    Calls Tryz.prog 14 #[.slice A xs.length c, .slice B xs.length d] w fun e w' => e = .returned (.bool true) ∧ Below w.heap.size w w' := by
  refine (dsame_any A c xs B d xs hn w _ h h').mono ?_
  rintro e w' ⟨he, m, rfl⟩
  rw [decide_eq_true rfl] at he
  exact ⟨he, rfl, rfl, rfl, Nat.le_refl _, fun _ _ => rfl⟩

set_option maxRecDepth 100000 in
set_option maxHeartbeats 4000000 in
theorem recurrentDecides_walk (w : World) (n : Int) (A : Option Addr) (c : Nat) (es : List E3) (_hm : es.length ≤ maxLen) (_hw : (Lit.int .i64 n).wf = true) (h : Reads w w.heap.size 3 A es.length (edgeCells es))
    (q : Int) (_hq : (Lit.int .i64 q).wf = true)
    (B : Option Addr) (d : Nat) (cs : List Int) (_hm' : cs.length ≤ maxLen) (_hw' : ∀ x ∈ cs, (Lit.int .i64 x).wf = true) (h' : Reads w w.heap.size 1 B cs.length (ints cs)) :
    Calls Tryz.prog 4 #[.agg #[.int .i64 n, .slice A es.length c], .int .i64 q, .slice B cs.length d] w fun e w' => e = .returned (.bool true) ∧ Below w.heap.size w w' := by
  have FC := Lib.hid (fun w h h' => few23_any n A c es B d cs w h h')
  have g0 := Blk.new w 24 #[.int .i64 n, .slice A es.length c]
  have hb0 : Below w.heap.size w (w.alloc (.cells #[.int .i64 n, .slice A es.length c] 24)) := (Below.refl _ _).alloc (Nat.le_refl _) _
  have c0 := g0.cell 0
  have c1 := g0.cell 1
  by_cases hf : few23 n es cs = true
  · obtain ⟨hlen, hcl, hsm, _⟩ := few23_parts hf
    have HF := Lib.hid hf
    have P1 := Lib.hid (fun w h h' => recurrent_any n A c es (by omega) q B d cs (by omega) w h h')
    have R1 := Lib.hid (fun w h h' => rrec24_any n A c es (by omega) (fun hz => (hsm hz).1) q B d cs (by omega) w h h')
    have P2 := Lib.hid (fun w h h' => forb_any n A c es (by omega) q B d cs (by omega) w h h')
    have R2 := Lib.hid (fun w h h' => rforb24_any n A c es (by omega) (fun hz => (hsm hz).1) q B d cs (by omega) w h h')
    have P3 := Lib.hid (fun w h h' => dualE_any n A c es (by omega) q B d cs (by omega) w h h')
    have R3 := Lib.hid (fun w h h' => rdualE_any n A c es (by omega) q B d cs (by omega) w h h')
    have hl1 := recE_len n es q cs
    have hl2 := forb_len (n := n) (es := es) (q := q) (cs := cs)
    have hl3 := dulE_len n es q cs
    obtain ⟨b, hb⟩ : ∃ x, (recE n es q cs).1 = x := ⟨_, rfl⟩
    obtain ⟨X, hX⟩ : ∃ x, (recE n es q cs).2.1 = x := ⟨_, rfl⟩
    obtain ⟨x, hx⟩ : ∃ x, (recE n es q cs).2.2 = x := ⟨_, rfl⟩
    obtain ⟨Y, hY⟩ : ∃ x, (forbE n es q cs).1 = x := ⟨_, rfl⟩
    obtain ⟨y, hy⟩ : ∃ x, (forbE n es q cs).2 = x := ⟨_, rfl⟩
    obtain ⟨Z, hZ⟩ : ∃ x, (dulE n es q cs).1 = x := ⟨_, rfl⟩
    obtain ⟨z, hz⟩ : ∃ x, (dulE n es q cs).2 = x := ⟨_, rfl⟩
    rw [hb, hX, hx] at P1 R1
    rw [hY, hy] at P2 R2
    rw [hZ, hz] at P3 R3
    rw [hX] at hl1
    rw [hY] at hl2
    rw [hZ] at hl3
    have S1 := Lib.hid (fun (A : Option Addr) (c : Nat) (B : Option Addr) (d : Nat) (w : World) h h' => sameints_any A c X B d (by omega) w h h')
    have S2 := Lib.hid (fun (A : Option Addr) (c : Nat) (B : Option Addr) (d : Nat) (w : World) h h' => sameints_any A c Y B d (by omega) w h h')
    have S3 := Lib.hid (fun (A : Option Addr) (c : Nat) (B : Option Addr) (d : Nat) (w : World) h h' => samed_true A c Z B d (by omega) w h h')
    clear hf hb hX hx hY hy hZ hz hsm hlen hcl
    go_enter Tryz.func4, Tryz.ntmps4
    go_wp2_with fail
    refine (FC.out _ ((h.below hb0).more hb0.size) ((h'.below hb0).more hb0.size)).mono ?_
    rintro e w1 ⟨he, hb1⟩
    rw [HF.out] at he
    subst he
    have hB1 := hb0.trans (hb1.mono hb0.size)
    have g1 := g0.next hb1
    have c0 := g1.cell 0
    have c1 := g1.cell 1
    clear g0 hb0 hb1
    go_wp2_with fail
    refine (P1.out _ ((h.below hB1).more hB1.size) ((h'.below hB1).more hB1.size)).mono ?_
    rintro e w2 ⟨A2, c2, rfl, o2, hb2⟩
    have hB2 := hB1.trans (hb2.mono hB1.size)
    have g2 := g1.next hb2
    have c0 := g2.cell 0
    have c1 := g2.cell 1
    have r2 := o2.reads
    clear g1 hB1 hb2 o2
    go_wp2_with fail
    refine (R1.out _ ((h.below hB2).more hB2.size) ((h'.below hB2).more hB2.size)).mono ?_
    rintro e w3 ⟨A3, c3, rfl, o3, hb3⟩
    have hB3 := hB2.trans (hb3.mono hB2.size)
    have g3 := g2.next hb3
    have c0 := g3.cell 0
    have c1 := g3.cell 1
    have r3 := o3.reads
    have r2 := r2.next hb3
    clear g2 hB2 hb3 o3
    go_wp2_with fail
    refine (P2.out _ ((h.below hB3).more hB3.size) ((h'.below hB3).more hB3.size)).mono ?_
    rintro e w4 ⟨A4, c4, rfl, o4, hb4⟩
    have hB4 := hB3.trans (hb4.mono hB3.size)
    have g4 := g3.next hb4
    have c0 := g4.cell 0
    have c1 := g4.cell 1
    have r4 := o4.reads
    have r2 := r2.next hb4
    have r3 := r3.next hb4
    clear g3 hB3 hb4 o4
    go_wp2_with fail
    refine (R2.out _ ((h.below hB4).more hB4.size) ((h'.below hB4).more hB4.size)).mono ?_
    rintro e w5 ⟨A5, c5, rfl, o5, hb5⟩
    have hB5 := hB4.trans (hb5.mono hB4.size)
    have g5 := g4.next hb5
    have c0 := g5.cell 0
    have c1 := g5.cell 1
    have r5 := o5.reads
    have r2 := r2.next hb5
    have r3 := r3.next hb5
    have r4 := r4.next hb5
    clear g4 hB4 hb5 o5
    go_wp2_with fail
    refine (P3.out _ ((h.below hB5).more hB5.size) ((h'.below hB5).more hB5.size)).mono ?_
    rintro e w6 ⟨A6, c6, rfl, o6, hb6⟩
    have hB6 := hB5.trans (hb6.mono hB5.size)
    have g6 := g5.next hb6
    have c0 := g6.cell 0
    have c1 := g6.cell 1
    have r6 := o6.reads
    have r2 := r2.next hb6
    have r3 := r3.next hb6
    have r4 := r4.next hb6
    have r5 := r5.next hb6
    clear g5 hB5 hb6 o6
    go_wp2_with fail
    refine (R3.out _ ((h.below hB6).more hB6.size) ((h'.below hB6).more hB6.size)).mono ?_
    rintro e w7 ⟨A7, c7, rfl, o7, hb7⟩
    have hB7 := hB6.trans (hb7.mono hB6.size)
    have g7 := g6.next hb7
    have c0 := g7.cell 0
    have c1 := g7.cell 1
    have r7 := o7.reads
    have r2 := r2.next hb7
    have r3 := r3.next hb7
    have r4 := r4.next hb7
    have r5 := r5.next hb7
    have r6 := r6.next hb7
    clear g6 hB6 hb7 o7
    clear g7 c0 c1
    go_wp2_with fail
    refine (awake24_any w7).mono ?_
    rintro e w8 ⟨rfl, hb8⟩
    have hB8 := hB7.trans (hb8.mono hB7.size)
    have r2 := r2.next hb8
    have r3 := r3.next hb8
    have r4 := r4.next hb8
    have r5 := r5.next hb8
    have r6 := r6.next hb8
    have r7 := r7.next hb8
    clear hB7 hb8
    go_wp2_with fail
    refine (S1.out _ _ _ _ _ (by exact r2) (by exact r3)).mono ?_
    rintro e w9 ⟨rfl, hb9⟩
    have hB9 := hB8.trans (hb9.mono hB8.size)
    have r2 := r2.next hb9
    have r3 := r3.next hb9
    have r4 := r4.next hb9
    have r5 := r5.next hb9
    have r6 := r6.next hb9
    have r7 := r7.next hb9
    clear hB8 hb9
    go_wp2_with fail
    refine (S2.out _ _ _ _ _ (by exact r4) (by exact r5)).mono ?_
    rintro e w10 ⟨rfl, hb10⟩
    have hB10 := hB9.trans (hb10.mono hB9.size)
    have r2 := r2.next hb10
    have r3 := r3.next hb10
    have r4 := r4.next hb10
    have r5 := r5.next hb10
    have r6 := r6.next hb10
    have r7 := r7.next hb10
    clear hB9 hb10
    go_wp2_with fail
    refine (S3.out _ _ _ _ _ (by exact r6) (by exact r7)).mono ?_
    rintro e w11 ⟨rfl, hb11⟩
    have hB11 := hB10.trans (hb11.mono hB10.size)
    have r2 := r2.next hb11
    have r3 := r3.next hb11
    have r4 := r4.next hb11
    have r5 := r5.next hb11
    have r6 := r6.next hb11
    have r7 := r7.next hb11
    clear hB10 hb11
    go_wp2
    go_ret
    exact ⟨by simp, hB11⟩
  · have HF : Hid (few23 n es cs = false) := by rw [Hid, ← Bool.not_eq_true]; exact hf
    clear hf
    go_enter Tryz.func4, Tryz.ntmps4
    go_wp2_with fail
    refine (FC.out _ ((h.below hb0).more hb0.size) ((h'.below hb0).more hb0.size)).mono ?_
    rintro e w1 ⟨he, hb1⟩
    rw [HF.out] at he
    subst he
    have hB1 := hb0.trans (hb1.mono hb0.size)
    go_wp2_with fail
    refine (awake24_any w1).mono ?_
    rintro e w2 ⟨rfl, hb2⟩
    go_wp2
    go_ret
    exact ⟨rfl, hB1.trans (hb2.mono hB1.size)⟩

namespace lawRecurrentDecides
open Go.ChangeShapes Go.WideShapes Go.ChangeAt Go.RowKit
set_option linter.unusedVariables false
set_option maxRecDepth 100000 in
theorem lifted (os : Os) (started : os.Started) (H : Type) (enc : TypeId × Value → H) :
    ReturnsInHanded {} Tryz.checked os 4 .any (Rows.recurrentDecidesSpec.pre6 enc Tryz.prog Tryz.f4 Rows.recurrentDecidesRow.domain false) (Rows.recurrentDecidesSpec.post enc Tryz.prog Tryz.f4 false true false false) := by
  refine returnsInHanded_of_change (C := Tryz.checked) own started (by kernel_rfl) Tryz.func4
    (ChangeSpec.witness6 (enc := enc) (C := Tryz.checked) false ⟨#[], #[.agg #[.int .i64 0, .slice none 0 0], .int .i64 0, .slice none 0 0], []⟩ 8 (by kernel_rfl) (by kernel_rfl) (by kernel_rfl) (by kernel_rfl)) ?_
  intro W base args ds gs before hval0 hW hcnd _
  have hval : ∀ (j : Nat) t v, Tryz.f4.params[j]? = some t → args[j]? = some v → Value.okWide Tryz.prog W .any base t v := hval0
  have hW' := hW
  obtain ⟨p, q, hA0, hV, rfl, hfz, hnd⟩ := hW
  have hA : DataW.TrodAll enc Tryz.prog W 0 (fun _ => true) true Tryz.f4.params.toList args.toList ds p := hA0
  rw [Tryz.params4] at hA hval
  obtain ⟨v0, vs0, d0, ds0, p0, q0, hargs, rfl, rfl, h0, r0⟩ := trodAll_cons hA
  obtain ⟨v1, vs1, d1, ds1, p1, q1, rfl, rfl, rfl, h1, r1⟩ := trodAll_cons r0
  obtain ⟨v2, vs2, d2, ds2, p2, q2, rfl, rfl, rfl, h2, r2⟩ := trodAll_cons r1
  obtain ⟨rfl, rfl, rfl⟩ := trodAll_nil r2
  obtain rfl : args = #[v0, v1, v2] := by cases args; simp_all
  obtain ⟨rfl, rfl⟩ := trodVars_none hV
  obtain ⟨cs0, rfl, _⟩ := okWide_struct Tryz.underlying24 (hval 0 24 v0 rfl rfl)
  have k0 := h0
  have lt0 : ∀ x ∈ p0, x.block < W.heap.size := by obtain ⟨m, hm⟩ := k0; exact DataW.trod_lt m _ _ _ hm
  obtain ⟨_, hf0⟩ := h0
  obtain ⟨n0, a0, cap0, xs0, hcs0, hm0, hr0, hw0⟩ := open_graph hf0
  obtain rfl : cs0 = #[.int .i64 n0, .slice a0 xs0.length cap0] := Array.toList_inj.1 hcs0
  obtain ⟨a1, rfl, rfl, rfl, w1⟩ := open_int Tryz.underlying3 (hval 1 3 v1 rfl rfl) h1
  obtain ⟨b2, len2, c2, rfl⟩ := okWide_slice Tryz.underlying26 (hval 2 26 v2 rfl rfl)
  have k2 := h2
  have lt2 : ∀ x ∈ p2, x.block < W.heap.size := by obtain ⟨m, hm⟩ := k2; exact DataW.trod_lt m _ _ _ hm
  obtain ⟨_, hf2⟩ := h2
  obtain ⟨a2, cap2, xs2, hcs2, hm2, hr2, hw2⟩ := open_row Tryz.underlying26 hf2
  obtain ⟨rfl, rfl, rfl⟩ : b2 = a2 ∧ len2 = xs2.length ∧ c2 = cap2 := by simpa [Value.cells] using hcs2
  clear hA0 hval0
  refine (recurrentDecides_walk W n0 a0 cap0 xs0 hm0 hw0 hr0 a1 w1 b2 c2 xs2 hm2 hw2 hr2).mono fun e W' ⟨he, bel⟩ => ?_
  subst he
  exact ⟨_, rfl, _, _, _, [], _, [], hW', trodAll_mk1 (shut_bool Tryz.underlying4 _), (trodAll_cons_mk (Below.trod laidOut (by kernel_rfl) (of_decide_eq_true (by kernel_rfl)) k0 bel lt0) (trodAll_cons_mk (shut_int Tryz.underlying3 w1) (trodAll_cons_mk (Below.trod laidOut (by kernel_rfl) (of_decide_eq_true (by kernel_rfl)) k2 bel lt2) trodAll_mk0))), rfl, bel.frame _, fun h => by cases h⟩

theorem over : Rows.recurrentDecidesRow.holds Tryz.pinned (OpenSpec.ofChange Rows.recurrentDecidesSpec) :=
  OpenClaim.holds_of_wide 4 Tryz.f4 rfl rfl rfl rfl rfl rfl rfl ⟨rfl, rfl, rfl, rfl, rfl⟩ rfl rfl rfl rfl rfl (by kernel_rfl) Tryz.func4 (by kernel_rfl)
    (of_decide_eq_true (by kernel_rfl)) (by unfold Func.isWrapper; first | (rw [if_pos (by decide +kernel)]; kernel_rfl) | (rw [if_neg (by decide +kernel)]; exact ⟨rfl, rfl⟩))
    (fun os started H enc _ => lifted os started H enc)

/-- Recurrent, Forbidden and Dual return the specified results, or the specified errors, for all graphs, sinks and divisors -/
theorem proved : Rows.RecurrentDecidesSaid := over
#print axioms proved
end lawRecurrentDecides

end Go.Proofs.YtdnoeaoelgehcaaGreat
