/-
  For every graph, sink and list of single edges the law TreebijectionCounts answers true: Config, Unused and Recurrent return the results or errors of the reference. There are no conditions.
-/
import Derived.Test.YtghigdcpinengaaGreatK48
import Derived.Test.YtghigdcpinengaaGreatK53
import Derived.Test.YtghigdcpinengaaGreatK54
import Derived.Test.YtghigdcpinengaaGreatK45
namespace Go.Proofs.YtghigdcpinengaaGreat
open Go.RowKit

/-- The lists of a tree are short. -/
theorem grown_lens {n : Int} {es : List E3} {q : Int} {xs : List Int} (hsm : checkG n es = 0 → (endsL es).length ≤ 60) : (confFE n es q xs).1.length ≤ 1000 ∧ (unusedFE n es q xs).1.length ≤ 1000 ∧ (recFE n es q xs).1.length ≤ 1000 ∧ (confFE n es q xs).2 = grownErr n es q xs ∧ (unusedFE n es q xs).2 = grownErr n es q xs ∧ (recFE n es q xs).2 = grownErr n es q xs := by
  unfold confFE unusedFE recFE
  by_cases hz : grownErr n es q xs = 0
  · rw [if_pos hz, if_pos hz, if_pos hz]
    obtain ⟨m, p, t, rfl, rfl, rfl, hp, hm12, hR, hte⟩ := grown_nat hz
    have hm := hsm (join_zero (tree_join hte)).1
    simp only [Int.toNat_natCast]
    rw [nI_toNat]
    have h1 := (conf_facts hR.hT.bd hp t).1
    have h2 := (unused_facts hR.hT.bd hp hR.tr).2.2
    have h3 := nodup_sub_le (h2.1.imp Nat.ne_of_lt) (m := List.range (endsL es).length) (fun x hx => List.mem_range.2 (h2.2 x hx))
    rw [List.length_range] at h3
    refine ⟨by omega, by rw [nI_length]; omega, by rw [dulL_length]; omega, hz.symm, hz.symm, hz.symm⟩
  · rw [if_neg hz, if_neg hz, if_neg hz]
    simp

set_option maxRecDepth 100000 in
set_option maxHeartbeats 4000000 in
theorem treebijectionCounts_walk (w : World) (n : Int) (A : Option Addr) (c : Nat) (es : List E3) (_hm : es.length ≤ maxLen) (_hw : (Lit.int .i64 n).wf = true) (h : Reads w w.heap.size 3 A es.length (edgeCells es)) (q : Int) (_hq : (Lit.int .i64 q).wf = true)
    (B : Option Addr) (d : Nat) (xs : List Int) (_hm' : xs.length ≤ maxLen) (_hw' : ∀ x ∈ xs, (Lit.int .i64 x).wf = true) (h' : Reads w w.heap.size 1 B xs.length (ints xs)) :
    Calls Tryz.prog 4 #[.agg #[.int .i64 n, .slice A es.length c], .int .i64 q, .slice B xs.length d] w fun e w' => e = .returned (.bool true) ∧ Below w.heap.size w w' := by
  have FC := Lib.hid (fun w h => few13_any n A c es B xs.length d w h)
  have AW := Lib.hid (fun w => awake30_any w)
  have g := Blk.new w 24 #[.int .i64 n, .slice A es.length c]
  have hB : Below w.heap.size w (w.alloc (.cells #[.int .i64 n, .slice A es.length c] 24)) := (Below.refl _ _).alloc (Nat.le_refl _) _
  have k0 := g.cell 0
  have k1 := g.cell 1
  by_cases hf : few13 n es xs.length = true
  · obtain ⟨hlen, hl, hsm⟩ := few13_parts hf
    have hsm60 : checkG n es = 0 → (endsL es).length ≤ 60 := fun hc => by have := (hsm hc).2; rw [← size_ends]; omega
    have S1 := Lib.hid (fun w h h' => config30_any n q A c es (by omega) hsm60 B d xs (by omega) w h h')
    have S2 := Lib.hid (fun w h h' => rconfig30_any n q A c es hlen hsm60 B d xs (by omega) w h h')
    have S3 := Lib.hid (fun w h h' => unused30_any n q A c es (by omega) hsm60 B d xs (by omega) w h h')
    have S4 := Lib.hid (fun w h h' => runused30_any n q A c es hlen hsm60 B d xs (by omega) w h h')
    have S5 := Lib.hid (fun w h h' => recur30_any n q A c es (by omega) hsm60 B d xs (by omega) w h h')
    have S6 := Lib.hid (fun w h h' => rrecur30_any n q A c es hlen hsm60 B d xs (by omega) w h h')
    obtain ⟨l1, l2, l3, z1, z2, z3⟩ := grown_lens (q := q) (xs := xs) hsm60
    rw [z1] at S1 S2
    rw [z2] at S3 S4
    rw [z3] at S5 S6
    obtain ⟨X, hX⟩ : ∃ X, (confFE n es q xs).1 = X := ⟨_, rfl⟩
    obtain ⟨Y, hY⟩ : ∃ Y, (unusedFE n es q xs).1 = Y := ⟨_, rfl⟩
    obtain ⟨Z, hZ⟩ : ∃ Z, (recFE n es q xs).1 = Z := ⟨_, rfl⟩
    obtain ⟨z, hz⟩ : ∃ z, grownErr n es q xs = z := ⟨_, rfl⟩
    rw [hX, hz] at S1 S2
    rw [hY, hz] at S3 S4
    rw [hZ, hz] at S5 S6
    rw [hX] at l1
    rw [hY] at l2
    rw [hZ] at l3
    have DS : Hid (∀ (L : List Int), L.length ≤ 1000 → ∀ (Aa : Option Addr) (ca : Nat) (Ab : Option Addr) (cb : Nat) (W : World), Reads W W.heap.size 1 Aa L.length (ints L) → Reads W W.heap.size 1 Ab L.length (ints L) → Calls Tryz.prog 24 #[.slice Aa L.length ca, .slice Ab L.length cb] W fun e w' => e = .returned (.bool true) ∧ Below W.heap.size W w') := by
      intro L hL Aa ca Ab cb W h h'
      have := dsame_any Aa ca L Ab cb L (by omega) W W.heap.size h h'
      rw [decide_eq_true rfl] at this
      refine this.mono ?_
      rintro e w' ⟨rfl, k, rfl⟩
      exact ⟨rfl, below_drewN (Below.refl _ _) k⟩
    have IE : Hid (∀ (Aa : Option Addr) (ca : Nat) (Ab : Option Addr) (cb : Nat) (W : World), Reads W W.heap.size 1 Aa Y.length (ints Y) → Reads W W.heap.size 1 Ab Y.length (ints Y) → Calls Tryz.prog 25 #[.slice Aa Y.length ca, .slice Ab Y.length cb] W fun e w' => e = .returned (.bool true) ∧ Below W.heap.size W w') := by
      intro Aa ca Ab cb W h h'
      have := iequal_any Aa ca Y Ab cb Y (by omega) W h h'
      rw [decide_eq_true rfl] at this
      exact this
    have DX := Lib.hid (DS.out X l1)
    have DZ := Lib.hid (DS.out Z l3)
    rw [hf] at FC
    clear hf hX hY hZ hz z1 z2 z3 l1 l2 l3 hsm hsm60 DS hl
    go_enter Tryz.func4, Tryz.ntmps4
    go_wp2_with fail
    refine (FC.out _ ((h.below hB).more hB.size)).mono ?_
    rintro e wn ⟨rfl, hb⟩
    have g := g.next hb
    have hB := hB.trans (hb.mono hB.size)
    have k0 := g.cell 0
    have k1 := g.cell 1
    clear hb
    go_wp2_with fail
    refine (S1.out _ ((h.below hB).more hB.size) ((h'.below hB).more hB.size)).mono ?_
    rintro e wn ⟨A1, d1, rfl, o1, hb⟩
    have g := g.next hb
    have hB := hB.trans (hb.mono hB.size)
    have k0 := g.cell 0
    have k1 := g.cell 1
    clear hb
    have q1 := o1.reads
    clear o1
    go_wp2_with fail
    refine (S2.out _ ((h.below hB).more hB.size) ((h'.below hB).more hB.size)).mono ?_
    rintro e wn ⟨A2, d2, rfl, o2, hb⟩
    have q1 := q1.next hb
    have g := g.next hb
    have hB := hB.trans (hb.mono hB.size)
    have k0 := g.cell 0
    have k1 := g.cell 1
    clear hb
    have q2 := o2.reads
    clear o2
    go_wp2_with fail
    refine (S3.out _ ((h.below hB).more hB.size) ((h'.below hB).more hB.size)).mono ?_
    rintro e wn ⟨A3, d3, rfl, o3, hb⟩
    have q1 := q1.next hb
    have q2 := q2.next hb
    have g := g.next hb
    have hB := hB.trans (hb.mono hB.size)
    have k0 := g.cell 0
    have k1 := g.cell 1
    clear hb
    have q3 := o3.reads
    clear o3
    go_wp2_with fail
    refine (S4.out _ ((h.below hB).more hB.size) ((h'.below hB).more hB.size)).mono ?_
    rintro e wn ⟨A4, d4, rfl, o4, hb⟩
    have q1 := q1.next hb
    have q2 := q2.next hb
    have q3 := q3.next hb
    have g := g.next hb
    have hB := hB.trans (hb.mono hB.size)
    have k0 := g.cell 0
    have k1 := g.cell 1
    clear hb
    have q4 := o4.reads
    clear o4
    go_wp2_with fail
    refine (S5.out _ ((h.below hB).more hB.size) ((h'.below hB).more hB.size)).mono ?_
    rintro e wn ⟨A5, d5, rfl, o5, hb⟩
    have q1 := q1.next hb
    have q2 := q2.next hb
    have q3 := q3.next hb
    have q4 := q4.next hb
    have g := g.next hb
    have hB := hB.trans (hb.mono hB.size)
    have k0 := g.cell 0
    have k1 := g.cell 1
    clear hb
    have q5 := o5.reads
    clear o5
    go_wp2_with fail
    refine (S6.out _ ((h.below hB).more hB.size) ((h'.below hB).more hB.size)).mono ?_
    rintro e wn ⟨A6, d6, rfl, o6, hb⟩
    have q1 := q1.next hb
    have q2 := q2.next hb
    have q3 := q3.next hb
    have q4 := q4.next hb
    have q5 := q5.next hb
    have g := g.next hb
    have hB := hB.trans (hb.mono hB.size)
    have k0 := g.cell 0
    have k1 := g.cell 1
    clear hb
    have q6 := o6.reads
    clear o6
    go_wp2_with fail
    refine (AW.out _).mono ?_
    rintro e wn ⟨rfl, hb⟩
    have q1 := q1.next hb
    have q2 := q2.next hb
    have q3 := q3.next hb
    have q4 := q4.next hb
    have q5 := q5.next hb
    have q6 := q6.next hb
    have g := g.next hb
    have hB := hB.trans (hb.mono hB.size)
    have k0 := g.cell 0
    have k1 := g.cell 1
    clear hb
    go_wp2_with fail
    refine (DX.out _ _ _ _ _ q1 q2).mono ?_
    rintro e wn ⟨rfl, hb⟩
    have q1 := q1.next hb
    have q2 := q2.next hb
    have q3 := q3.next hb
    have q4 := q4.next hb
    have q5 := q5.next hb
    have q6 := q6.next hb
    have g := g.next hb
    have hB := hB.trans (hb.mono hB.size)
    have k0 := g.cell 0
    have k1 := g.cell 1
    clear hb
    go_wp2_with fail
    refine (IE.out _ _ _ _ _ q3 q4).mono ?_
    rintro e wn ⟨rfl, hb⟩
    have q1 := q1.next hb
    have q2 := q2.next hb
    have q3 := q3.next hb
    have q4 := q4.next hb
    have q5 := q5.next hb
    have q6 := q6.next hb
    have g := g.next hb
    have hB := hB.trans (hb.mono hB.size)
    have k0 := g.cell 0
    have k1 := g.cell 1
    clear hb
    go_wp2_with fail
    refine (DZ.out _ _ _ _ _ q5 q6).mono ?_
    rintro e wn ⟨rfl, hb⟩
    have hB := hB.trans (hb.mono hB.size)
    go_wp2
    go_ret
    exact ⟨rfl, hB⟩
  · have hf : few13 n es xs.length = false := by rw [← Bool.not_eq_true]; exact hf
    rw [hf] at FC
    clear hf
    go_enter Tryz.func4, Tryz.ntmps4
    go_wp2_with fail
    refine (FC.out _ ((h.below hB).more hB.size)).mono ?_
    rintro e wn ⟨rfl, hb⟩
    have g := g.next hb
    have hB := hB.trans (hb.mono hB.size)
    have k0 := g.cell 0
    have k1 := g.cell 1
    clear hb
    go_wp2_with fail
    refine (AW.out _).mono ?_
    rintro e wn ⟨rfl, hb⟩
    have hB := hB.trans (hb.mono hB.size)
    go_wp2
    go_ret
    exact ⟨rfl, hB⟩

namespace lawTreebijectionCounts
open Go.ChangeShapes Go.WideShapes Go.ChangeAt Go.RowKit
set_option linter.unusedVariables false
set_option maxRecDepth 100000 in
theorem lifted (os : Os) (started : os.Started) (H : Type) (enc : TypeId × Value → H) :
    ReturnsInHanded {} Tryz.checked os 4 .any (Rows.treebijectionCountsSpec.pre6 enc Tryz.prog Tryz.f4 Rows.treebijectionCountsRow.domain false) (Rows.treebijectionCountsSpec.post enc Tryz.prog Tryz.f4 false true false false) := by
  refine returnsInHanded_of_change (C := Tryz.checked) own started (by kernel_rfl) Tryz.func4
    (ChangeSpec.witness6 (enc := enc) (C := Tryz.checked) false ⟨#[], #[.agg #[.int .i64 0, .slice none 0 0], .int .i64 0, .slice none 0 0], []⟩ 8 (by kernel_rfl) (by kernel_rfl) (by kernel_rfl) (by kernel_rfl)) ?_
  intro W base args ds gs before hval0 hW hcnd _
  have hval : ∀ (j : Nat) t v, Tryz.f4.params[j]? = some t → args[j]? = some v → Value.okWide Tryz.prog W .any base t v := hval0
  have hW' := hW
  obtain ⟨p, q, hA0, hV, rfl, hfz, hnd⟩ := hW
  have hA : DataW.TrodAll enc Tryz.prog W 0 (fun _ => true) true Tryz.f4.params.toList args.toList ds p := hA0
  rw [Tryz.params4] at hA hval
  obtain ⟨v0, vs0, d0, ds0, p0, q0, hargs, rfl, rfl, h0, r0⟩ := trodAll_cons hA
  obtain ⟨v1, vs1, d1, ds1, p1, q1, rfl, rfl, rfl, h1, r1⟩ := trodAll_cons r0
  obtain ⟨v2, vs2, d2, ds2, p2, q2, rfl, rfl, rfl, h2, r2⟩ := trodAll_cons r1
  obtain ⟨rfl, rfl, rfl⟩ := trodAll_nil r2
  obtain rfl : args = #[v0, v1, v2] := by cases args; simp_all
  obtain ⟨rfl, rfl⟩ := trodVars_none hV
  obtain ⟨cs0, rfl, _⟩ := okWide_struct Tryz.underlying24 (hval 0 24 v0 rfl rfl)
  have k0 := h0
  have lt0 : ∀ x ∈ p0, x.block < W.heap.size := by obtain ⟨m, hm⟩ := k0; exact DataW.trod_lt m _ _ _ hm
  obtain ⟨_, hf0⟩ := h0
  obtain ⟨n0, a0, cap0, xs0, hcs0, hm0, hr0, hw0⟩ := open_graph hf0
  obtain rfl : cs0 = #[.int .i64 n0, .slice a0 xs0.length cap0] := Array.toList_inj.1 hcs0
  obtain ⟨a1, rfl, rfl, rfl, w1⟩ := open_int Tryz.underlying3 (hval 1 3 v1 rfl rfl) h1
  obtain ⟨a2, len2, cap2, rfl⟩ := okWide_slice Tryz.underlying25 (hval 2 25 v2 rfl rfl)
  have k2 := h2
  have lt2 : ∀ x ∈ p2, x.block < W.heap.size := by obtain ⟨m, hm⟩ := k2; exact DataW.trod_lt m _ _ _ hm
  obtain ⟨z2, w2⟩ : ∃ zs, IsRow .i64 W a2 len2 cap2 zs := by
    obtain ⟨fuel, hf⟩ := h2
    rcases open_ints Tryz.underlying25 Tryz.underlying3 (by kernel_rfl) hf with ⟨hcs, _⟩ | ⟨x, l, c, zs, hcs, _, hl, hm, hz, _, hcell, hwz⟩
    · simp [Value.cells] at hcs
      obtain ⟨rfl, rfl, rfl⟩ := hcs
      exact ⟨[], .inl ⟨rfl, rfl, rfl, rfl⟩⟩
    · simp [Value.cells] at hcs
      obtain ⟨rfl, rfl, rfl⟩ := hcs
      exact ⟨zs, .inr ⟨_, rfl, hl, hm, by simpa using hz, hcell, hwz⟩⟩
  obtain ⟨xs2, rfl, hm2, hr2, hw2⟩ := w2.reads
  clear hA0 hval0
  refine (treebijectionCounts_walk W n0 a0 cap0 xs0 hm0 hw0 hr0 a1 w1 a2 cap2 xs2 hm2 hw2 hr2).mono fun e W' ⟨he, bel⟩ => ?_
  subst he
  exact ⟨_, rfl, _, _, _, [], _, [], hW', trodAll_mk1 (shut_bool Tryz.underlying4 _), (trodAll_cons_mk (Below.trod laidOut (by kernel_rfl) (of_decide_eq_true (by kernel_rfl)) k0 bel lt0) (trodAll_cons_mk (shut_int Tryz.underlying3 w1) (trodAll_cons_mk (Below.trod laidOut (by kernel_rfl) (of_decide_eq_true (by kernel_rfl)) k2 bel lt2) trodAll_mk0))), rfl, bel.frame _, fun h => by cases h⟩

theorem over : Rows.treebijectionCountsRow.holds Tryz.pinned (OpenSpec.ofChange Rows.treebijectionCountsSpec) :=
  OpenClaim.holds_of_wide 4 Tryz.f4 rfl rfl rfl rfl rfl rfl rfl ⟨rfl, rfl, rfl, rfl, rfl⟩ rfl rfl rfl rfl rfl (by kernel_rfl) Tryz.func4 (by kernel_rfl)
    (of_decide_eq_true (by kernel_rfl)) (by unfold Func.isWrapper; first | (rw [if_pos (by decide +kernel)]; kernel_rfl) | (rw [if_neg (by decide +kernel)]; exact ⟨rfl, rfl⟩))
    (fun os started H enc _ => lifted os started H enc)

/-- For every graph, sink and list of single edges the law answers true: Config, Unused and Recurrent return the results or errors of the reference. -/
theorem proved : Rows.TreebijectionCountsSaid := over
#print axioms proved
end lawTreebijectionCounts
end Go.Proofs.YtghigdcpinengaaGreat
