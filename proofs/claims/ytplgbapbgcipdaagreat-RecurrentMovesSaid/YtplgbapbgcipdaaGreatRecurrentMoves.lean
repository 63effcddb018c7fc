/-
  For every graph, divisor and spot the law RecurrentMoves answers true: recurrent.Next and Kick return the results of the reference, or its errors. There are no conditions.
-/
import Derived.Test.YtplgbapbgcipdaaGreatK33
import Derived.Test.YtplgbapbgcipdaaGreatK10
import Derived.Test.YtplgbapbgcipdaaGreatK18
import Derived.Test.YtplgbapbgcipdaaGreatK30
import Derived.Test.YtplgbapbgcipdaaGreatK08
namespace Go.Proofs.YtplgbapbgcipdaaGreat
open Go.RowKit

theorem NextE.unique {n q v : Int} {es : List E3} {cs ds ds' : List Int} {e e' : Int} (h : NextE n es q cs v ds e) (h' : NextE n es q cs v ds' e') : ds = ds' ∧ e = e' := by
  unfold NextE at h h'
  by_cases hz : burnErr n es q cs = 0
  · rw [if_neg (fun hc => hc hz)] at h h'
    split at h
    · rename_i hv
      rw [if_pos hv] at h'
      exact ⟨h.1.trans h'.1.symm, h.2.trans h'.2.symm⟩
    · rename_i hv
      rw [if_neg hv] at h'
      obtain ⟨ss, h⟩ := h
      obtain ⟨ss', h'⟩ := h'
      obtain ⟨hG, _, hq0, hqn, hl, _⟩ := conf_zero (burn_zero hz).1
      obtain ⟨m, rfl⟩ := Int.eq_ofNat_of_zero_le (show 0 ≤ n by omega)
      have := SetE.unique (n := m) hG.ok (by rw [addAt_length]; omega) h h'
      exact ⟨this.1, this.2.2⟩
  · rw [if_pos hz] at h h'
    exact ⟨h.1.trans h'.1.symm, h.2.trans h'.2.symm⟩
theorem KickE.unique {n q : Int} {es : List E3} {cs ds ss ds' ss' : List Int} {e e' : Int} (h : KickE n es q cs ds ss e) (h' : KickE n es q cs ds' ss' e') : ds = ds' ∧ ss = ss' ∧ e = e' := by
  unfold KickE at h h'
  by_cases hz : burnErr n es q cs = 0
  · rw [if_neg (fun hc => hc hz)] at h h'
    obtain ⟨hG, _, hq0, hqn, hl, _⟩ := conf_zero (burn_zero hz).1
    obtain ⟨m, rfl⟩ := Int.eq_ofNat_of_zero_le (show 0 ≤ n by omega)
    exact SetE.unique (n := m) hG.ok (by rw [kickL_length]; omega) h h'
  · rw [if_pos hz] at h h'
    exact ⟨h.1.trans h'.1.symm, h.2.1.trans h'.2.1.symm, h.2.2.trans h'.2.2.symm⟩
theorem SetE.len {n q : Nat} {es : List E3} {d ds ss : List Int} {e : Int} (hn : n ≤ 12) (hd : d.length = n) (h : SetE n es q d ds ss e) : ds.length ≤ 12 ∧ ss.length ≤ 12 := by
  unfold SetE at h
  split at h
  · obtain ⟨r, h1, h2⟩ := h
    have h3 := stabOut_len hd h1
    unfold setOut at h2
    injection h2 with e1 e2
    injection e2 with e2 _
    subst e1 e2
    rw [List.length_set]
    rcases h3 with ⟨_, h4, h5⟩ | ⟨_, h4⟩
    · omega
    · rw [h4]; simp
  · rw [h.1, h.2.1]; simp
theorem NextE.len {n q v : Int} {es : List E3} {cs ds : List Int} {e : Int} (h : NextE n es q cs v ds e) : ds.length ≤ 12 := by
  unfold NextE at h
  by_cases hz : burnErr n es q cs = 0
  · rw [if_neg (fun hc => hc hz)] at h
    split at h
    · rw [h.1]; simp
    · obtain ⟨ss, h⟩ := h
      obtain ⟨hG, _, hq0, hqn, hl, _⟩ := conf_zero (burn_zero hz).1
      have := hG.hi
      exact (SetE.len (by omega) (by rw [addAt_length]; omega) h).1
  · rw [if_pos hz] at h
    rw [h.1]; simp
theorem KickE.len {n q : Int} {es : List E3} {cs ds ss : List Int} {e : Int} (h : KickE n es q cs ds ss e) : ds.length ≤ 12 ∧ ss.length ≤ 12 := by
  unfold KickE at h
  by_cases hz : burnErr n es q cs = 0
  · rw [if_neg (fun hc => hc hz)] at h
    obtain ⟨hG, _, hq0, hqn, hl, _⟩ := conf_zero (burn_zero hz).1
    have := hG.hi
    exact SetE.len (by omega) (by rw [kickL_length]; omega) h
  · rw [if_pos hz] at h
    rw [h.1, h.2.1]; simp
theorem samem_true (A : Option Addr) (c : Nat) (xs : List Int) (B : Option Addr) (d : Nat) (hn : xs.length ≤ 12) (w : World) (h : Reads w w.heap.size 1 A xs.length (ints xs)) (h' : Reads w w.heap.size 1 B xs.length (ints xs)) :
    Calls Tryz.prog 12 #[.slice A xs.length c, .slice B xs.length d] w fun e w' => e = .returned (.bool true) ∧ Below w.heap.size w w' := by
  refine (dsame_any A c xs B d xs (by omega) w _ h h').mono ?_
  rintro e w' ⟨he, m, rfl⟩
  rw [decide_eq_true rfl] at he
  exact ⟨he, rfl, rfl, rfl, Nat.le_refl _, fun _ _ => rfl⟩
set_option maxHeartbeats 1000000 in
theorem sames_true (A : Option Addr) (c : Nat) (xs : List Int) (B : Option Addr) (d : Nat) (hn : xs.length ≤ 12) (w : World) (h : Reads w w.heap.size 1 A xs.length (ints xs)) (h' : Reads w w.heap.size 1 B xs.length (ints xs)) :
    Calls Tryz.prog 43 #[.slice A xs.length c, .slice B xs.length d] w fun e w' => e = .returned (.bool true) ∧ Below w.heap.size w w' := by
  have SC := Lib.hid (samem_true A c xs B d hn w h h')
  go_enter Tryz.func43, Tryz.ntmps43
  go_wp2_with fail
  refine (SC.out).mono ?_
  rintro e w1 ⟨rfl, hb⟩
  go_wp2
  go_ret
  exact ⟨rfl, hb⟩
set_option maxHeartbeats 1000000 in
theorem same19_true (A : Option Addr) (c : Nat) (xs : List Int) (B : Option Addr) (d : Nat) (hn : xs.length ≤ 12) (A' : Option Addr) (c' : Nat) (ys : List Int) (B' : Option Addr) (d' : Nat) (hn' : ys.length ≤ 12) (w : World) (h : Reads w w.heap.size 1 A xs.length (ints xs)) (h' : Reads w w.heap.size 1 B xs.length (ints xs))
    (g : Reads w w.heap.size 1 A' ys.length (ints ys)) (g' : Reads w w.heap.size 1 B' ys.length (ints ys)) :
    Calls Tryz.prog 13 #[.slice A xs.length c, .slice B xs.length d, .slice A' ys.length c', .slice B' ys.length d'] w fun e w' => e = .returned (.bool true) ∧ Below w.heap.size w w' := by
  have SC := Lib.hid (samem_true A c xs B d hn w h h')
  have SS := Lib.hid (fun (W : World) (hB : Below w.heap.size w W) => sames_true A' c' ys B' d' hn' W (g.next hB) (g'.next hB))
  go_enter Tryz.func13, Tryz.ntmps13
  go_wp2_with fail
  refine (SC.out).mono ?_
  rintro e w1 ⟨rfl, hb⟩
  go_wp2_with fail
  refine (SS.out _ hb).mono ?_
  rintro e w2 ⟨rfl, hb2⟩
  go_wp2
  go_ret
  exact ⟨rfl, hb.trans (hb2.mono hb.size)⟩

set_option maxRecDepth 100000 in
set_option maxHeartbeats 4000000 in
theorem recurrentMoves_walk (w : World) (n : Int) (A : Option Addr) (c : Nat) (es : List E3) (_hm : es.length ≤ maxLen) (_hw : (Lit.int .i64 n).wf = true) (h : Reads w w.heap.size 3 A es.length (edgeCells es))
    (B : Option Addr) (d : Nat) (cs : List Int) (_hm' : cs.length ≤ maxLen) (_hw' : ∀ x ∈ cs, (Lit.int .i64 x).wf = true) (h' : Reads w w.heap.size 1 B cs.length (ints cs))
    (q v : Int) (_hq : (Lit.int .i64 q).wf = true) (_hv : (Lit.int .i64 v).wf = true) :
    Calls Tryz.prog 3 #[.agg #[.int .i64 n, .slice A es.length c], .slice B cs.length d, .agg #[.int .i64 q, .int .i64 v]] w fun e w' => e = .returned (.bool true) ∧ Below w.heap.size w w' := by
  have FC := Lib.hid (fun w h h' => few23_any n A c es B d cs w h h')
  have g0 := (Blk.new w 24 #[.int .i64 n, .slice A es.length c]).alloc (.cells #[.int .i64 q, .int .i64 v] 28)
  have t0 := Blk.new (w.alloc (.cells #[.int .i64 n, .slice A es.length c] 24)) 28 #[.int .i64 q, .int .i64 v]
  rw [show (w.alloc (.cells #[.int .i64 n, .slice A es.length c] 24)).heap.size = w.heap.size + 1 from by simp] at t0
  have hb0 : Below w.heap.size w ((w.alloc (.cells #[.int .i64 n, .slice A es.length c] 24)).alloc (.cells #[.int .i64 q, .int .i64 v] 28)) := ((Below.refl _ _).alloc (Nat.le_refl _) _).alloc (by simp) _
  obtain ⟨W0, hW0⟩ : ∃ W0, ((w.alloc (.cells #[.int .i64 n, .slice A es.length c] 24)).alloc (.cells #[.int .i64 q, .int .i64 v] 28)) = W0 := ⟨_, rfl⟩
  rw [hW0] at g0 t0 hb0
  have HW0 := Lib.hid hW0
  clear hW0
  have c0 := g0.cell 0
  have c1 := g0.cell 1
  have d0 := t0.cell 0
  have d1 := t0.cell 1
  by_cases hf : few23 n es cs = true
  · obtain ⟨hlen, hcl, hsm, _⟩ := few23_parts hf
    have HF := Lib.hid hf
    have P1 := Lib.hid (fun w h h' => next_any n A c es (by omega) q B d cs (by omega) v w h h')
    have R1 := Lib.hid (fun w h h' => rnext24_any n A c es (by omega) q B d cs (by omega) v w h h')
    have P2 := Lib.hid (fun w h h' => kick_any n A c es (by omega) q B d cs (by omega) w h h')
    have R2 := Lib.hid (fun w h h' => rkick24_any n A c es (by omega) q B d cs (by omega) w h h')
    clear hf hsm hlen hcl
    go_enter Tryz.func3, Tryz.ntmps3
    go_wp2_with fail
    rw [HW0.out]
    refine (FC.out _ ((h.below hb0).more hb0.size) ((h'.below hb0).more hb0.size)).mono ?_
    rintro e w1 ⟨he, hb1⟩
    rw [HF.out] at he
    subst he
    have hB1 := hb0.trans (hb1.mono hb0.size)
    have g1 := g0.next hb1
    have t1 := t0.next hb1
    have c0 := g1.cell 0
    have c1 := g1.cell 1
    have d0 := t1.cell 0
    have d1 := t1.cell 1
    clear g0 t0 hb0 hb1
    go_wp2_with fail
    refine (P1.out _ ((h.below hB1).more hB1.size) ((h'.below hB1).more hB1.size)).mono ?_
    rintro e w2 ⟨xs, er, A2, c2, N2, rfl, o2, hb2⟩
    have hB2 := hB1.trans (hb2.mono hB1.size)
    have g2 := g1.next hb2
    have t2 := t1.next hb2
    have N2 := Lib.hid N2
    have c0 := g2.cell 0
    have c1 := g2.cell 1
    have d0 := t2.cell 0
    have d1 := t2.cell 1
    have r2 := o2.reads
    clear g1 t1 hB1 hb2
    go_wp2_with fail
    refine (R1.out _ ((h.below hB2).more hB2.size) ((h'.below hB2).more hB2.size)).mono ?_
    rintro e w3 ⟨xs', er', A3, c3, N3, rfl, o3, hb3⟩
    have hB3 := hB2.trans (hb3.mono hB2.size)
    have g3 := g2.next hb3
    have t3 := t2.next hb3
    obtain ⟨hx1, hx2⟩ := NextE.unique N2.out N3
    subst hx1 hx2
    have HL1 := Lib.hid N3.len
    clear N2 N3
    have c0 := g3.cell 0
    have c1 := g3.cell 1
    have d0 := t3.cell 0
    have d1 := t3.cell 1
    have r2 := r2.next hb3
    have r3 := o3.reads
    clear g2 t2 hB2 hb3
    go_wp2_with fail
    refine (P2.out _ ((h.below hB3).more hB3.size) ((h'.below hB3).more hB3.size)).mono ?_
    rintro e w4 ⟨ys, zs, fr, A4, c4, A5, c5, K4, rfl, o4, r5, hb4⟩
    have hB4 := hB3.trans (hb4.mono hB3.size)
    have g4 := g3.next hb4
    have t4 := t3.next hb4
    have K4 := Lib.hid K4
    have c0 := g4.cell 0
    have c1 := g4.cell 1
    have d0 := t4.cell 0
    have d1 := t4.cell 1
    have r2 := r2.next hb4
    have r3 := r3.next hb4
    have r4 := o4.reads
    have r5 := r5
    clear g3 t3 hB3 hb4
    go_wp2_with fail
    refine (R2.out _ ((h.below hB4).more hB4.size) ((h'.below hB4).more hB4.size)).mono ?_
    rintro e w5 ⟨ys', zs', fr', A6, c6, A7, c7, K5, rfl, o6, r7, hb5⟩
    have hB5 := hB4.trans (hb5.mono hB4.size)
    have g5 := g4.next hb5
    have t5 := t4.next hb5
    obtain ⟨hy1, hy2, hy3⟩ := KickE.unique K4.out K5
    subst hy1 hy2 hy3
    have HL2 := Lib.hid K5.len
    clear K4 K5
    have c0 := g5.cell 0
    have c1 := g5.cell 1
    have d0 := t5.cell 0
    have d1 := t5.cell 1
    have r2 := r2.next hb5
    have r3 := r3.next hb5
    have r4 := r4.next hb5
    have r5 := r5.next hb5
    have r6 := o6.reads
    have r7 := r7
    clear g4 t4 hB4 hb5
    clear g5 t5 c0 c1 d0 d1
    go_wp2_with fail
    refine (awake24_any w5).mono ?_
    rintro e w6 ⟨rfl, hb6⟩
    have hB6 := hB5.trans (hb6.mono hB5.size)
    have r2 := r2.next hb6
    have r3 := r3.next hb6
    have r4 := r4.next hb6
    have r5 := r5.next hb6
    have r6 := r6.next hb6
    have r7 := r7.next hb6
    clear hB5 hb6
    go_wp2_with fail
    refine (samem_true _ _ _ _ _ HL1.out _ (by exact r2) (by exact r3)).mono ?_
    rintro e w7 ⟨rfl, hb7⟩
    have hB7 := hB6.trans (hb7.mono hB6.size)
    have r2 := r2.next hb7
    have r3 := r3.next hb7
    have r4 := r4.next hb7
    have r5 := r5.next hb7
    have r6 := r6.next hb7
    have r7 := r7.next hb7
    clear hB6 hb7
    go_wp2_with fail
    refine (same19_true _ _ _ _ _ HL2.out.1 _ _ _ _ _ HL2.out.2 _ (by exact r4) (by exact r6) (by exact r5) (by exact r7)).mono ?_
    rintro e w8 ⟨rfl, hb8⟩
    have hB8 := hB7.trans (hb8.mono hB7.size)
    have r2 := r2.next hb8
    have r3 := r3.next hb8
    have r4 := r4.next hb8
    have r5 := r5.next hb8
    have r6 := r6.next hb8
    have r7 := r7.next hb8
    clear hB7 hb8
    go_wp2
    go_ret
    exact ⟨by simp, hB8⟩
  · have HF : Hid (few23 n es cs = false) := by rw [Hid, ← Bool.not_eq_true]; exact hf
    clear hf
    go_enter Tryz.func3, Tryz.ntmps3
    go_wp2_with fail
    rw [HW0.out]
    refine (FC.out _ ((h.below hb0).more hb0.size) ((h'.below hb0).more hb0.size)).mono ?_
    rintro e w1 ⟨he, hb1⟩
    rw [HF.out] at he
    subst he
    have hB1 := hb0.trans (hb1.mono hb0.size)
    go_wp2_with fail
    refine (awake24_any w1).mono ?_
    rintro e w2 ⟨rfl, hb2⟩
    go_wp2
    go_ret
    exact ⟨rfl, hB1.trans (hb2.mono hB1.size)⟩

namespace lawRecurrentMoves
open Go.ChangeShapes Go.WideShapes Go.ChangeAt Go.RowKit
set_option linter.unusedVariables false
set_option maxRecDepth 100000 in
theorem lifted (os : Os) (started : os.Started) (H : Type) (enc : TypeId × Value → H) :
    ReturnsInHanded {} Tryz.checked os 3 .any (Rows.recurrentMovesSpec.pre6 enc Tryz.prog Tryz.f3 Rows.recurrentMovesRow.domain false) (Rows.recurrentMovesSpec.post enc Tryz.prog Tryz.f3 false true false false) := by
  refine returnsInHanded_of_change (C := Tryz.checked) own started (by kernel_rfl) Tryz.func3
    (ChangeSpec.witness6 (enc := enc) (C := Tryz.checked) false ⟨#[], #[.agg #[.int .i64 0, .slice none 0 0], .slice none 0 0, .agg #[.int .i64 0, .int .i64 0]], []⟩ 8 (by kernel_rfl) (by kernel_rfl) (by kernel_rfl) (by kernel_rfl)) ?_
  intro W base args ds gs before hval0 hW hcnd _
  have hval : ∀ (j : Nat) t v, Tryz.f3.params[j]? = some t → args[j]? = some v → Value.okWide Tryz.prog W .any base t v := hval0
  have hW' := hW
  obtain ⟨p, q, hA0, hV, rfl, hfz, hnd⟩ := hW
  have hA : DataW.TrodAll enc Tryz.prog W 0 (fun _ => true) true Tryz.f3.params.toList args.toList ds p := hA0
  rw [Tryz.params3] at hA hval
  obtain ⟨v0, vs0, d0, ds0, p0, q0, hargs, rfl, rfl, h0, r0⟩ := trodAll_cons hA
  obtain ⟨v1, vs1, d1, ds1, p1, q1, rfl, rfl, rfl, h1, r1⟩ := trodAll_cons r0
  obtain ⟨v2, vs2, d2, ds2, p2, q2, rfl, rfl, rfl, h2, r2⟩ := trodAll_cons r1
  obtain ⟨rfl, rfl, rfl⟩ := trodAll_nil r2
  obtain rfl : args = #[v0, v1, v2] := by cases args; simp_all
  obtain ⟨rfl, rfl⟩ := trodVars_none hV
  obtain ⟨cs0, rfl, _⟩ := okWide_struct Tryz.underlying24 (hval 0 24 v0 rfl rfl)
  have k0 := h0
  have lt0 : ∀ x ∈ p0, x.block < W.heap.size := by obtain ⟨m, hm⟩ := k0; exact DataW.trod_lt m _ _ _ hm
  obtain ⟨_, hf0⟩ := h0
  obtain ⟨n0, a0, cap0, xs0, hcs0, hm0, hr0, hw0⟩ := open_graph hf0
  obtain rfl : cs0 = #[.int .i64 n0, .slice a0 xs0.length cap0] := Array.toList_inj.1 hcs0
  obtain ⟨b1, len1, c1, rfl⟩ := okWide_slice Tryz.underlying26 (hval 1 26 v1 rfl rfl)
  have k1 := h1
  have lt1 : ∀ x ∈ p1, x.block < W.heap.size := by obtain ⟨m, hm⟩ := k1; exact DataW.trod_lt m _ _ _ hm
  obtain ⟨_, hf1⟩ := h1
  obtain ⟨a1, cap1, xs1, hcs1, hm1, hr1, hw1⟩ := open_row Tryz.underlying26 hf1
  obtain ⟨rfl, rfl, rfl⟩ : b1 = a1 ∧ len1 = xs1.length ∧ c1 = cap1 := by simpa [Value.cells] using hcs1
  obtain ⟨cs2, rfl, _⟩ := okWide_struct Tryz.underlying28 (hval 2 28 v2 rfl rfl)
  have k2 := h2
  have lt2 : ∀ x ∈ p2, x.block < W.heap.size := by obtain ⟨m, hm⟩ := k2; exact DataW.trod_lt m _ _ _ hm
  obtain ⟨_, hf2⟩ := h2
  obtain ⟨n2, a2, hcs2, hm2, hw2⟩ := open_spot hf2
  obtain rfl : cs2 = #[.int .i64 n2, .int .i64 a2] := Array.toList_inj.1 hcs2
  clear hA0 hval0
  refine (recurrentMoves_walk W n0 a0 cap0 xs0 hm0 hw0 hr0 b1 c1 xs1 hm1 hw1 hr1 n2 a2 hm2 hw2).mono fun e W' ⟨he, bel⟩ => ?_
  subst he
  exact ⟨_, rfl, _, _, _, [], _, [], hW', trodAll_mk1 (shut_bool Tryz.underlying4 _), (trodAll_cons_mk (Below.trod laidOut (by kernel_rfl) (of_decide_eq_true (by kernel_rfl)) k0 bel lt0) (trodAll_cons_mk (Below.trod laidOut (by kernel_rfl) (of_decide_eq_true (by kernel_rfl)) k1 bel lt1) (trodAll_cons_mk (Below.trod laidOut (by kernel_rfl) (of_decide_eq_true (by kernel_rfl)) k2 bel lt2) trodAll_mk0))), rfl, bel.frame _, fun h => by cases h⟩

theorem over : Rows.recurrentMovesRow.holds Tryz.pinned (OpenSpec.ofChange Rows.recurrentMovesSpec) :=
  OpenClaim.holds_of_wide 3 Tryz.f3 rfl rfl rfl rfl rfl rfl rfl ⟨rfl, rfl, rfl, rfl, rfl⟩ rfl rfl rfl rfl rfl (by kernel_rfl) Tryz.func3 (by kernel_rfl)
    (of_decide_eq_true (by kernel_rfl)) (by unfold Func.isWrapper; first | (rw [if_pos (by decide +kernel)]; kernel_rfl) | (rw [if_neg (by decide +kernel)]; exact ⟨rfl, rfl⟩))
    (fun os started H enc _ => lifted os started H enc)

/-- Next and Kick return the specified results, or the specified errors, for all graphs, divisors, sinks and vertices -/
theorem proved : Rows.RecurrentMovesSaid := over
#print axioms proved
end lawRecurrentMoves

end Go.Proofs.YtplgbapbgcipdaaGreat
