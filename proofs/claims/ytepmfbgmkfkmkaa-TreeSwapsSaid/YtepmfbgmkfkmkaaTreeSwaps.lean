/-
  For every graph, list of single edges and pair of ints the law TreeSwaps answers true: tree.Swap returns the tree or the error of the reference. There are no conditions.
-/
import Derived.Test.YtepmfbgmkfkmkaaK22
import Derived.Test.YtepmfbgmkfkmkaaK23
import Derived.Test.YtepmfbgmkfkmkaaK27
import Derived.Test.YtepmfbgmkfkmkaaK31
import Derived.Test.YtepmfbgmkfkmkaaK32
namespace Go.Proofs.Ytepmfbgmkfkmkaa
open Go.RowKit

set_option maxHeartbeats 1000000 in
theorem eqJ_any (X : List Int) (hl : X.length ≤ 2000) (A : Option Addr) (c : Nat) (B : Option Addr) (d : Nat) (w : World) (h : Reads w w.heap.size 1 A X.length (ints X)) (h' : Reads w w.heap.size 1 B X.length (ints X)) :
    Calls Try.prog 19 #[.slice A X.length c, .slice B X.length d] w fun e w' => e = .returned (.bool true) ∧ Below w.heap.size w w' := by
  have := iequal_any A c X B d X (by omega) w h h'
  rw [decide_eq_true rfl] at this
  exact this

set_option maxRecDepth 100000 in
set_option maxHeartbeats 8000000 in
theorem treeSwaps_walk (w : World) (n : Int) (A : Option Addr) (c : Nat) (es : List E3) (_hm : es.length ≤ maxLen) (_hw : (Lit.int .i64 n).wf = true) (h : Reads w w.heap.size 3 A es.length (edgeCells es))
    (B : Option Addr) (d : Nat) (xs : List Int) (_hm' : xs.length ≤ maxLen) (_hw' : ∀ x ∈ xs, (Lit.int .i64 x).wf = true) (h' : Reads w w.heap.size 1 B xs.length (ints xs)) (a b : Int) (_ha : (Lit.int .i64 a).wf = true) (_hb : (Lit.int .i64 b).wf = true) :
    Calls Try.prog 6 #[.agg #[.int .i64 n, .slice A es.length c], .slice B xs.length d, .agg #[.int .i64 a, .int .i64 b]] w fun e w' => e = .returned (.bool true) ∧ Below w.heap.size w w' := by
  have FC := Lib.hid (fun w h => few13_any n A c es B xs.length d w h)
  have AW := Lib.hid (fun w => awake13_any w)
  obtain ⟨W0, hW0⟩ : ∃ W0, (w.alloc (.cells #[.int .i64 n, .slice A es.length c] 24)).alloc (.cells #[.int .i64 a, .int .i64 b] 31) = W0 := ⟨_, rfl⟩
  have g : Blk W0 w.heap.size 24 #[.int .i64 n, .slice A es.length c] := by rw [← hW0]; exact (Blk.new w 24 #[.int .i64 n, .slice A es.length c]).alloc _
  have gp : Blk W0 (w.heap.size + 1) 31 #[.int .i64 a, .int .i64 b] := by rw [← hW0]; exact Blk.newAt (by simp)
  have hB : Below w.heap.size w W0 := by rw [← hW0]; exact ((Below.refl _ _).alloc (Nat.le_refl _) _).alloc (by simp) _
  have HW0 := Lib.hid hW0
  clear hW0
  have k0 := g.cell 0
  have k1 := g.cell 1
  have p0 := gp.cell 0
  have p1 := gp.cell 1
  by_cases hf : few13 n es xs.length = true
  · obtain ⟨hlen, hxl, _⟩ := few13_parts hf
    rw [hf] at FC
    have C1 : Hid (∀ (w : World) (h : Reads w w.heap.size 3 A es.length (edgeCells es)) (h' : Reads w w.heap.size 1 B xs.length (ints xs)), Calls Try.prog 26 #[.agg #[.int .i64 n, .slice A es.length c], .slice B xs.length d, .int .i64 a, .int .i64 b] w fun e w' => ∃ A' c', e = .returned (.tuple #[.slice A' (swapE n es xs a b).1.length c', .int .i64 (swapE n es xs a b).2]) ∧ Reads w' w'.heap.size 1 A' (swapE n es xs a b).1.length (ints (swapE n es xs a b).1) ∧ Below w.heap.size w w') := by
      intro w h h'
      refine (tswap_all n A c es hlen B d xs (by omega) a b w h h').mono ?_
      rintro e w' ⟨A', c', rfl, o, hb⟩
      exact ⟨A', c', rfl, o.reads, hb⟩
    have C2 : Hid (∀ (w : World) (h : Reads w w.heap.size 3 A es.length (edgeCells es)) (h' : Reads w w.heap.size 1 B xs.length (ints xs)), Calls Try.prog 27 #[.agg #[.int .i64 n, .slice A es.length c], .slice B xs.length d, .int .i64 a, .int .i64 b] w fun e w' => ∃ A' c', e = .returned (.tuple #[.slice A' (swapE n es xs a b).1.length c', .int .i64 (swapE n es xs a b).2]) ∧ Reads w' w'.heap.size 1 A' (swapE n es xs a b).1.length (ints (swapE n es xs a b).1) ∧ Below w.heap.size w w') := by
      intro w h h'
      refine (rswap_any n A c es hlen B d xs hxl a b w h h').mono ?_
      rintro e w' ⟨A', c', rfl, o, hb⟩
      exact ⟨A', c', rfl, o.reads, hb⟩
    have E1 := Lib.hid (fun A c B d w h h' => eqJ_any (swapE n es xs a b).1 (swap_len hxl) A c B d w h h')
    obtain ⟨⟨X, z⟩, hX⟩ : ∃ r, swapE n es xs a b = r := ⟨_, rfl⟩
    rw [hX] at C1 C2 E1
    dsimp only at C1 C2 E1
    clear hX hlen hxl hf
    go_enter Try.func6, Try.ntmps6
    go_wp2_with fail
    try rw [HW0.out]
    refine (FC.out _ ((h.below hB).more hB.size)).mono ?_
    rintro e wn ⟨rfl, hb⟩
    have g := g.next hb
    have gp := gp.next hb
    have hB := hB.trans (hb.mono hB.size)
    have k0 := g.cell 0
    have k1 := g.cell 1
    have p0 := gp.cell 0
    have p1 := gp.cell 1
    clear hb
    go_wp2_with fail
    refine (C1.out _ ((h.below hB).more hB.size) ((h'.below hB).more hB.size)).mono ?_
    rintro e wn ⟨A1, c1, rfl, o1, hb⟩
    have g := g.next hb
    have gp := gp.next hb
    have hB := hB.trans (hb.mono hB.size)
    have k0 := g.cell 0
    have k1 := g.cell 1
    have p0 := gp.cell 0
    have p1 := gp.cell 1
    clear hb
    go_wp2_with fail
    refine (C2.out _ ((h.below hB).more hB.size) ((h'.below hB).more hB.size)).mono ?_
    rintro e wn ⟨A2, c2, rfl, o2, hb⟩
    have o1 := o1.next hb
    have g := g.next hb
    have gp := gp.next hb
    have hB := hB.trans (hb.mono hB.size)
    have k0 := g.cell 0
    have k1 := g.cell 1
    have p0 := gp.cell 0
    have p1 := gp.cell 1
    clear hb
    go_wp2_with fail
    refine (AW.out _).mono ?_
    rintro e wn ⟨rfl, hb⟩
    have o1 := o1.next hb
    have o2 := o2.next hb
    have g := g.next hb
    have gp := gp.next hb
    have hB := hB.trans (hb.mono hB.size)
    have k0 := g.cell 0
    have k1 := g.cell 1
    have p0 := gp.cell 0
    have p1 := gp.cell 1
    clear hb
    go_wp2_with fail
    refine (E1.out _ _ _ _ _ o1 o2).mono ?_
    rintro e wn ⟨rfl, hb⟩
    have g := g.next hb
    have gp := gp.next hb
    have hB := hB.trans (hb.mono hB.size)
    have k0 := g.cell 0
    have k1 := g.cell 1
    have p0 := gp.cell 0
    have p1 := gp.cell 1
    clear hb
    go_wp2
    go_ret
    exact ⟨rfl, hB⟩
  · have hf' : few13 n es xs.length = false := by simpa using hf
    rw [hf'] at FC
    clear hf hf'
    go_enter Try.func6, Try.ntmps6
    go_wp2_with fail
    try rw [HW0.out]
    refine (FC.out _ ((h.below hB).more hB.size)).mono ?_
    rintro e wn ⟨rfl, hb⟩
    have g := g.next hb
    have gp := gp.next hb
    have hB := hB.trans (hb.mono hB.size)
    have k0 := g.cell 0
    have k1 := g.cell 1
    have p0 := gp.cell 0
    have p1 := gp.cell 1
    clear hb
    go_wp2_with fail
    refine (AW.out _).mono ?_
    rintro e wn ⟨rfl, hb⟩
    have g := g.next hb
    have gp := gp.next hb
    have hB := hB.trans (hb.mono hB.size)
    have k0 := g.cell 0
    have k1 := g.cell 1
    have p0 := gp.cell 0
    have p1 := gp.cell 1
    clear hb
    go_wp2
    go_ret
    exact ⟨rfl, hB⟩

namespace lawTreeSwaps
open Go.ChangeShapes Go.WideShapes Go.ChangeAt Go.RowKit
set_option linter.unusedVariables false
set_option maxRecDepth 100000 in
theorem lifted (os : Os) (started : os.Started) (H : Type) (enc : TypeId × Value → H) :
    ReturnsInHanded {} Try.checked os 6 .any (Rows.treeSwapsSpec.pre6 enc Try.prog Try.f6 Rows.treeSwapsRow.domain false) (Rows.treeSwapsSpec.post enc Try.prog Try.f6 false true false false) := by
  refine returnsInHanded_of_change (C := Try.checked) own started (by kernel_rfl) Try.func6
    (ChangeSpec.witness6 (enc := enc) (C := Try.checked) false ⟨#[], #[.agg #[.int .i64 0, .slice none 0 0], .slice none 0 0, .agg #[.int .i64 0, .int .i64 0]], []⟩ 8 (by kernel_rfl) (by kernel_rfl) (by kernel_rfl) (by kernel_rfl)) ?_
  intro W base args ds gs before hval0 hW hcnd _
  have hval : ∀ (j : Nat) t v, Try.f6.params[j]? = some t → args[j]? = some v → Value.okWide Try.prog W .any base t v := hval0
  have hW' := hW
  obtain ⟨p, q, hA0, hV, rfl, hfz, hnd⟩ := hW
  have hA : DataW.TrodAll enc Try.prog W 0 (fun _ => true) true Try.f6.params.toList args.toList ds p := hA0
  rw [Try.params6] at hA hval
  obtain ⟨v0, vs0, d0, ds0, p0, q0, hargs, rfl, rfl, h0, r0⟩ := trodAll_cons hA
  obtain ⟨v1, vs1, d1, ds1, p1, q1, rfl, rfl, rfl, h1, r1⟩ := trodAll_cons r0
  obtain ⟨v2, vs2, d2, ds2, p2, q2, rfl, rfl, rfl, h2, r2⟩ := trodAll_cons r1
  obtain ⟨rfl, rfl, rfl⟩ := trodAll_nil r2
  obtain rfl : args = #[v0, v1, v2] := by cases args; simp_all
  obtain ⟨rfl, rfl⟩ := trodVars_none hV
  obtain ⟨cs0, rfl, _⟩ := okWide_struct Try.underlying24 (hval 0 24 v0 rfl rfl)
  have k0 := h0
  have lt0 : ∀ x ∈ p0, x.block < W.heap.size := by obtain ⟨m, hm⟩ := k0; exact DataW.trod_lt m _ _ _ hm
  obtain ⟨_, hf0⟩ := h0
  obtain ⟨n0, a0, cap0, xs0, hcs0, hm0, hr0, hw0⟩ := open_graph hf0
  obtain rfl : cs0 = #[.int .i64 n0, .slice a0 xs0.length cap0] := Array.toList_inj.1 hcs0
  obtain ⟨a1, len1, cap1, rfl⟩ := okWide_slice Try.underlying25 (hval 1 25 v1 rfl rfl)
  have k1 := h1
  have lt1 : ∀ x ∈ p1, x.block < W.heap.size := by obtain ⟨m, hm⟩ := k1; exact DataW.trod_lt m _ _ _ hm
  obtain ⟨z1, w1⟩ : ∃ zs, IsRow .i64 W a1 len1 cap1 zs := by
    obtain ⟨fuel, hf⟩ := h1
    rcases open_ints Try.underlying25 Try.underlying3 (by kernel_rfl) hf with ⟨hcs, _⟩ | ⟨x, l, c, zs, hcs, _, hl, hm, hz, _, hcell, hwz⟩
    · simp [Value.cells] at hcs
      obtain ⟨rfl, rfl, rfl⟩ := hcs
      exact ⟨[], .inl ⟨rfl, rfl, rfl, rfl⟩⟩
    · simp [Value.cells] at hcs
      obtain ⟨rfl, rfl, rfl⟩ := hcs
      exact ⟨zs, .inr ⟨_, rfl, hl, hm, by simpa using hz, hcell, hwz⟩⟩
  obtain ⟨xs1, rfl, hm1, hr1, hw1⟩ := w1.reads
  obtain ⟨cs2, rfl, _⟩ := okWide_array Try.underlying31 (hval 2 31 v2 rfl rfl)
  have k2 := h2
  have lt2 : ∀ x ∈ p2, x.block < W.heap.size := by obtain ⟨m, hm⟩ := k2; exact DataW.trod_lt m _ _ _ hm
  obtain ⟨_, hf2⟩ := h2
  obtain ⟨n2, a2, hcs2, hm2, hw2⟩ := open_pair hf2
  obtain rfl : cs2 = #[.int .i64 n2, .int .i64 a2] := Array.toList_inj.1 hcs2
  clear hA0 hval0
  refine (treeSwaps_walk W n0 a0 cap0 xs0 hm0 hw0 hr0 a1 cap1 xs1 hm1 hw1 hr1 n2 a2 hm2 hw2).mono fun e W' ⟨he, bel⟩ => ?_
  subst he
  exact ⟨_, rfl, _, _, _, [], _, [], hW', trodAll_mk1 (shut_bool Try.underlying4 _), (trodAll_cons_mk (Below.trod laidOut (by kernel_rfl) (of_decide_eq_true (by kernel_rfl)) k0 bel lt0) (trodAll_cons_mk (Below.trod laidOut (by kernel_rfl) (of_decide_eq_true (by kernel_rfl)) k1 bel lt1) (trodAll_cons_mk (Below.trod laidOut (by kernel_rfl) (of_decide_eq_true (by kernel_rfl)) k2 bel lt2) trodAll_mk0))), rfl, bel.frame _, fun h => by cases h⟩

theorem over : Rows.treeSwapsRow.holds Try.pinned (OpenSpec.ofChange Rows.treeSwapsSpec) :=
  OpenClaim.holds_of_wide 6 Try.f6 rfl rfl rfl rfl rfl rfl rfl ⟨rfl, rfl, rfl, rfl, rfl⟩ rfl rfl rfl rfl rfl (by kernel_rfl) Try.func6 (by kernel_rfl)
    (of_decide_eq_true (by kernel_rfl)) (by unfold Func.isWrapper; first | (rw [if_pos (by decide +kernel)]; kernel_rfl) | (rw [if_neg (by decide +kernel)]; exact ⟨rfl, rfl⟩))
    (fun os started H enc _ => lifted os started H enc)

/-- For every graph, list of single edges and pair of ints the law answers true: tree.Swap returns the tree or the error of the reference. -/
theorem proved : Rows.TreeSwapsSaid := over
#print axioms proved
end lawTreeSwaps
end Go.Proofs.Ytepmfbgmkfkmkaa
