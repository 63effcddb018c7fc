/-
  For every graph, list of single edges and int the law TreeCycles answers true: tree.Cycle and Cutset return the sets or errors of the reference. There are no conditions.
-/
import Derived.Test.YtepmfbgmkfkmkaaK22
import Derived.Test.YtepmfbgmkfkmkaaK23
import Derived.Test.YtepmfbgmkfkmkaaK27
import Derived.Test.YtepmfbgmkfkmkaaK31
namespace Go.Proofs.Ytepmfbgmkfkmkaa
open Go.RowKit

set_option maxHeartbeats 1000000 in
theorem eqI_any (X : List Int) (hl : X.length ≤ 2000) (A : Option Addr) (c : Nat) (B : Option Addr) (d : Nat) (w : World) (h : Reads w w.heap.size 1 A X.length (ints X)) (h' : Reads w w.heap.size 1 B X.length (ints X)) :
    Calls Try.prog 19 #[.slice A X.length c, .slice B X.length d] w fun e w' => e = .returned (.bool true) ∧ Below w.heap.size w w' := by
  have := iequal_any A c X B d X (by omega) w h h'
  rw [decide_eq_true rfl] at this
  exact this

set_option maxRecDepth 100000 in
set_option maxHeartbeats 8000000 in
theorem treeCycles_walk (w : World) (n : Int) (A : Option Addr) (c : Nat) (es : List E3) (_hm : es.length ≤ maxLen) (_hw : (Lit.int .i64 n).wf = true) (h : Reads w w.heap.size 3 A es.length (edgeCells es))
    (B : Option Addr) (d : Nat) (xs : List Int) (_hm' : xs.length ≤ maxLen) (_hw' : ∀ x ∈ xs, (Lit.int .i64 x).wf = true) (h' : Reads w w.heap.size 1 B xs.length (ints xs)) (x : Int) (_hx : (Lit.int .i64 x).wf = true) :
    Calls Try.prog 5 #[.agg #[.int .i64 n, .slice A es.length c], .slice B xs.length d, .int .i64 x] w fun e w' => e = .returned (.bool true) ∧ Below w.heap.size w w' := by
  have FC := Lib.hid (fun w h => few13_any n A c es B xs.length d w h)
  have AW := Lib.hid (fun w => awake13_any w)
  have g := Blk.new w 24 #[.int .i64 n, .slice A es.length c]
  have hB := (Below.refl w.heap.size w).alloc (Nat.le_refl _) (.cells #[.int .i64 n, .slice A es.length c] 24)
  have k0 := g.cell 0
  have k1 := g.cell 1
  by_cases hf : few13 n es xs.length = true
  · obtain ⟨hlen, hxl, _⟩ := few13_parts hf
    rw [hf] at FC
    have C1 : Hid (∀ (w : World) (h : Reads w w.heap.size 3 A es.length (edgeCells es)) (h' : Reads w w.heap.size 1 B xs.length (ints xs)), Calls Try.prog 22 #[.agg #[.int .i64 n, .slice A es.length c], .slice B xs.length d, .int .i64 x] w fun e w' => ∃ A' c', e = .returned (.tuple #[.slice A' (cycleE n es xs x).1.length c', .int .i64 (cycleE n es xs x).2]) ∧ Reads w' w'.heap.size 1 A' (cycleE n es xs x).1.length (ints (cycleE n es xs x).1) ∧ Below w.heap.size w w') := by
      intro w h h'
      refine (tcycle_all n A c es (by omega) B d xs (by omega) x w h h').mono ?_
      rintro e w' ⟨A', c', rfl, o, hb⟩
      exact ⟨A', c', rfl, o.reads, hb⟩
    have C2 : Hid (∀ (w : World) (h : Reads w w.heap.size 3 A es.length (edgeCells es)) (h' : Reads w w.heap.size 1 B xs.length (ints xs)), Calls Try.prog 23 #[.agg #[.int .i64 n, .slice A es.length c], .slice B xs.length d, .int .i64 x] w fun e w' => ∃ A' c', e = .returned (.tuple #[.slice A' (cycleE n es xs x).1.length c', .int .i64 (cycleE n es xs x).2]) ∧ Reads w' w'.heap.size 1 A' (cycleE n es xs x).1.length (ints (cycleE n es xs x).1) ∧ Below w.heap.size w w') := by
      intro w h h'
      refine (rcycle_any n A c es hlen B d xs (by omega) x w h h').mono ?_
      rintro e w' ⟨A', c', rfl, o, hb⟩
      exact ⟨A', c', rfl, o.reads, hb⟩
    have C3 : Hid (∀ (w : World) (h : Reads w w.heap.size 3 A es.length (edgeCells es)) (h' : Reads w w.heap.size 1 B xs.length (ints xs)), Calls Try.prog 24 #[.agg #[.int .i64 n, .slice A es.length c], .slice B xs.length d, .int .i64 x] w fun e w' => ∃ A' c', e = .returned (.tuple #[.slice A' (cutsetE n es xs x).1.length c', .int .i64 (cutsetE n es xs x).2]) ∧ Reads w' w'.heap.size 1 A' (cutsetE n es xs x).1.length (ints (cutsetE n es xs x).1) ∧ Below w.heap.size w w') := by
      intro w h h'
      refine (tcutset_all n A c es hlen B d xs (by omega) x w h h').mono ?_
      rintro e w' ⟨A', c', rfl, o, hb⟩
      exact ⟨A', c', rfl, o.reads, hb⟩
    have C4 : Hid (∀ (w : World) (h : Reads w w.heap.size 3 A es.length (edgeCells es)) (h' : Reads w w.heap.size 1 B xs.length (ints xs)), Calls Try.prog 25 #[.agg #[.int .i64 n, .slice A es.length c], .slice B xs.length d, .int .i64 x] w fun e w' => ∃ A' c', e = .returned (.tuple #[.slice A' (cutsetE n es xs x).1.length c', .int .i64 (cutsetE n es xs x).2]) ∧ Reads w' w'.heap.size 1 A' (cutsetE n es xs x).1.length (ints (cutsetE n es xs x).1) ∧ Below w.heap.size w w') := by
      intro w h h'
      refine (rcutset_any n A c es hlen B d xs (by omega) x w h h').mono ?_
      rintro e w' ⟨A', c', rfl, o, hb⟩
      exact ⟨A', c', rfl, o.reads, hb⟩
    have E1 := Lib.hid (fun A c B d w h h' => eqI_any (cycleE n es xs x).1 (cycle_len hlen) A c B d w h h')
    have E2 := Lib.hid (fun A c B d w h h' => eqI_any (cutsetE n es xs x).1 (cutset_len hlen) A c B d w h h')
    obtain ⟨⟨X, z⟩, hX⟩ : ∃ r, cycleE n es xs x = r := ⟨_, rfl⟩
    obtain ⟨⟨Y, u⟩, hY⟩ : ∃ r, cutsetE n es xs x = r := ⟨_, rfl⟩
    rw [hX] at C1 C2 E1
    rw [hY] at C3 C4 E2
    dsimp only at C1 C2 C3 C4 E1 E2
    clear hX hY hlen hxl hf
    go_enter Try.func5, Try.ntmps5
    go_wp2_with fail
    refine (FC.out _ ((h.below hB).more hB.size)).mono ?_
    rintro e wn ⟨rfl, hb⟩
    have g := g.next hb
    have hB := hB.trans (hb.mono hB.size)
    have k0 := g.cell 0
    have k1 := g.cell 1
    clear hb
    go_wp2_with fail
    refine (C1.out _ ((h.below hB).more hB.size) ((h'.below hB).more hB.size)).mono ?_
    rintro e wn ⟨A1, c1, rfl, o1, hb⟩
    have g := g.next hb
    have hB := hB.trans (hb.mono hB.size)
    have k0 := g.cell 0
    have k1 := g.cell 1
    clear hb
    go_wp2_with fail
    refine (C2.out _ ((h.below hB).more hB.size) ((h'.below hB).more hB.size)).mono ?_
    rintro e wn ⟨A2, c2, rfl, o2, hb⟩
    have o1 := o1.next hb
    have g := g.next hb
    have hB := hB.trans (hb.mono hB.size)
    have k0 := g.cell 0
    have k1 := g.cell 1
    clear hb
    go_wp2_with fail
    refine (C3.out _ ((h.below hB).more hB.size) ((h'.below hB).more hB.size)).mono ?_
    rintro e wn ⟨A3, c3, rfl, o3, hb⟩
    have o1 := o1.next hb
    have o2 := o2.next hb
    have g := g.next hb
    have hB := hB.trans (hb.mono hB.size)
    have k0 := g.cell 0
    have k1 := g.cell 1
    clear hb
    go_wp2_with fail
    refine (C4.out _ ((h.below hB).more hB.size) ((h'.below hB).more hB.size)).mono ?_
    rintro e wn ⟨A4, c4, rfl, o4, hb⟩
    have o1 := o1.next hb
    have o2 := o2.next hb
    have o3 := o3.next hb
    have g := g.next hb
    have hB := hB.trans (hb.mono hB.size)
    have k0 := g.cell 0
    have k1 := g.cell 1
    clear hb
    go_wp2_with fail
    refine (AW.out _).mono ?_
    rintro e wn ⟨rfl, hb⟩
    have o1 := o1.next hb
    have o2 := o2.next hb
    have o3 := o3.next hb
    have o4 := o4.next hb
    have g := g.next hb
    have hB := hB.trans (hb.mono hB.size)
    have k0 := g.cell 0
    have k1 := g.cell 1
    clear hb
    go_wp2_with fail
    refine (E1.out _ _ _ _ _ o1 o2).mono ?_
    rintro e wn ⟨rfl, hb⟩
    have o3 := o3.next hb
    have o4 := o4.next hb
    have g := g.next hb
    have hB := hB.trans (hb.mono hB.size)
    have k0 := g.cell 0
    have k1 := g.cell 1
    clear hb
    go_wp2_with fail
    refine (E2.out _ _ _ _ _ o3 o4).mono ?_
    rintro e wn ⟨rfl, hb⟩
    have g := g.next hb
    have hB := hB.trans (hb.mono hB.size)
    have k0 := g.cell 0
    have k1 := g.cell 1
    clear hb
    go_wp2
    go_ret
    exact ⟨rfl, hB⟩
  · have hf' : few13 n es xs.length = false := by simpa using hf
    rw [hf'] at FC
    clear hf hf'
    go_enter Try.func5, Try.ntmps5
    go_wp2_with fail
    refine (FC.out _ ((h.below hB).more hB.size)).mono ?_
    rintro e wn ⟨rfl, hb⟩
    have g := g.next hb
    have hB := hB.trans (hb.mono hB.size)
    have k0 := g.cell 0
    have k1 := g.cell 1
    clear hb
    go_wp2_with fail
    refine (AW.out _).mono ?_
    rintro e wn ⟨rfl, hb⟩
    have g := g.next hb
    have hB := hB.trans (hb.mono hB.size)
    have k0 := g.cell 0
    have k1 := g.cell 1
    clear hb
    go_wp2
    go_ret
    exact ⟨rfl, hB⟩

namespace lawTreeCycles
open Go.ChangeShapes Go.WideShapes Go.ChangeAt Go.RowKit
set_option linter.unusedVariables false
set_option maxRecDepth 100000 in
theorem lifted (os : Os) (started : os.Started) (H : Type) (enc : TypeId × Value → H) :
    ReturnsInHanded {} Try.checked os 5 .any (Rows.treeCyclesSpec.pre6 enc Try.prog Try.f5 Rows.treeCyclesRow.domain false) (Rows.treeCyclesSpec.post enc Try.prog Try.f5 false true false false) := by
  refine returnsInHanded_of_change (C := Try.checked) own started (by kernel_rfl) Try.func5
    (ChangeSpec.witness6 (enc := enc) (C := Try.checked) false ⟨#[], #[.agg #[.int .i64 0, .slice none 0 0], .slice none 0 0, .int .i64 0], []⟩ 8 (by kernel_rfl) (by kernel_rfl) (by kernel_rfl) (by kernel_rfl)) ?_
  intro W base args ds gs before hval0 hW hcnd _
  have hval : ∀ (j : Nat) t v, Try.f5.params[j]? = some t → args[j]? = some v → Value.okWide Try.prog W .any base t v := hval0
  have hW' := hW
  obtain ⟨p, q, hA0, hV, rfl, hfz, hnd⟩ := hW
  have hA : DataW.TrodAll enc Try.prog W 0 (fun _ => true) true Try.f5.params.toList args.toList ds p := hA0
  rw [Try.params5] at hA hval
  obtain ⟨v0, vs0, d0, ds0, p0, q0, hargs, rfl, rfl, h0, r0⟩ := trodAll_cons hA
  obtain ⟨v1, vs1, d1, ds1, p1, q1, rfl, rfl, rfl, h1, r1⟩ := trodAll_cons r0
  obtain ⟨v2, vs2, d2, ds2, p2, q2, rfl, rfl, rfl, h2, r2⟩ := trodAll_cons r1
  obtain ⟨rfl, rfl, rfl⟩ := trodAll_nil r2
  obtain rfl : args = #[v0, v1, v2] := by cases args; simp_all
  obtain ⟨rfl, rfl⟩ := trodVars_none hV
  obtain ⟨cs0, rfl, _⟩ := okWide_struct Try.underlying24 (hval 0 24 v0 rfl rfl)
  have k0 := h0
  have lt0 : ∀ x ∈ p0, x.block < W.heap.size := by obtain ⟨m, hm⟩ := k0; exact DataW.trod_lt m _ _ _ hm
  obtain ⟨_, hf0⟩ := h0
  obtain ⟨n0, a0, cap0, xs0, hcs0, hm0, hr0, hw0⟩ := open_graph hf0
  obtain rfl : cs0 = #[.int .i64 n0, .slice a0 xs0.length cap0] := Array.toList_inj.1 hcs0
  obtain ⟨a1, len1, cap1, rfl⟩ := okWide_slice Try.underlying25 (hval 1 25 v1 rfl rfl)
  have k1 := h1
  have lt1 : ∀ x ∈ p1, x.block < W.heap.size := by obtain ⟨m, hm⟩ := k1; exact DataW.trod_lt m _ _ _ hm
  obtain ⟨z1, w1⟩ : ∃ zs, IsRow .i64 W a1 len1 cap1 zs := by
    obtain ⟨fuel, hf⟩ := h1
    rcases open_ints Try.underlying25 Try.underlying3 (by kernel_rfl) hf with ⟨hcs, _⟩ | ⟨x, l, c, zs, hcs, _, hl, hm, hz, _, hcell, hwz⟩
    · simp [Value.cells] at hcs
      obtain ⟨rfl, rfl, rfl⟩ := hcs
      exact ⟨[], .inl ⟨rfl, rfl, rfl, rfl⟩⟩
    · simp [Value.cells] at hcs
      obtain ⟨rfl, rfl, rfl⟩ := hcs
      exact ⟨zs, .inr ⟨_, rfl, hl, hm, by simpa using hz, hcell, hwz⟩⟩
  obtain ⟨xs1, rfl, hm1, hr1, hw1⟩ := w1.reads
  obtain ⟨a2, rfl, rfl, rfl, w2⟩ := open_int Try.underlying3 (hval 2 3 v2 rfl rfl) h2
  clear hA0 hval0
  refine (treeCycles_walk W n0 a0 cap0 xs0 hm0 hw0 hr0 a1 cap1 xs1 hm1 hw1 hr1 a2 w2).mono fun e W' ⟨he, bel⟩ => ?_
  subst he
  exact ⟨_, rfl, _, _, _, [], _, [], hW', trodAll_mk1 (shut_bool Try.underlying4 _), (trodAll_cons_mk (Below.trod laidOut (by kernel_rfl) (of_decide_eq_true (by kernel_rfl)) k0 bel lt0) (trodAll_cons_mk (Below.trod laidOut (by kernel_rfl) (of_decide_eq_true (by kernel_rfl)) k1 bel lt1) (trodAll_cons_mk (shut_int Try.underlying3 w2) trodAll_mk0))), rfl, bel.frame _, fun h => by cases h⟩

theorem over : Rows.treeCyclesRow.holds Try.pinned (OpenSpec.ofChange Rows.treeCyclesSpec) :=
  OpenClaim.holds_of_wide 5 Try.f5 rfl rfl rfl rfl rfl rfl rfl ⟨rfl, rfl, rfl, rfl, rfl⟩ rfl rfl rfl rfl rfl (by kernel_rfl) Try.func5 (by kernel_rfl)
    (of_decide_eq_true (by kernel_rfl)) (by unfold Func.isWrapper; first | (rw [if_pos (by decide +kernel)]; kernel_rfl) | (rw [if_neg (by decide +kernel)]; exact ⟨rfl, rfl⟩))
    (fun os started H enc _ => lifted os started H enc)

/-- For every graph, list of single edges and int the law answers true: tree.Cycle and Cutset return the sets or errors of the reference. -/
theorem proved : Rows.TreeCyclesSaid := over
#print axioms proved
end lawTreeCycles
end Go.Proofs.Ytepmfbgmkfkmkaa
