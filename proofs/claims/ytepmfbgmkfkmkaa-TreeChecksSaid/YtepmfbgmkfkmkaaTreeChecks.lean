/-
  For every graph and list of single edges the law TreeChecks answers true: tree.Check returns OK or the error of the reference. There are no conditions.
-/
import Derived.Test.YtepmfbgmkfkmkaaK22
import Derived.Test.YtepmfbgmkfkmkaaK23
import Derived.Test.YtepmfbgmkfkmkaaK27
import Derived.Test.YtepmfbgmkfkmkaaK19
import Derived.Deep.RegionHeld3
import Derived.Deep.RegionLaw
namespace Go.Proofs.Ytepmfbgmkfkmkaa
open Go.RowKit

theorem few13_parts {n : Int} {es : List E3} {m : Nat} (h : few13 n es m = true) : es.length ≤ 40 ∧ m ≤ 30 ∧ (checkG n es = 0 → n ≤ 5 ∧ sizeE es ≤ 8) := by
  unfold few13 at h
  rw [Bool.and_eq_true] at h
  obtain ⟨h1, h2⟩ := h
  unfold smallB at h1
  by_cases h3 : 40 < es.length
  · rw [if_pos h3] at h1; cases h1
  · refine ⟨by omega, of_decide_eq_true h2, fun h4 => ?_⟩
    rw [if_neg h3, if_neg (fun hc => hc h4), Bool.and_eq_true] at h1
    have := of_decide_eq_true h1.1
    have := of_decide_eq_true h1.2
    omega

set_option maxRecDepth 100000 in
set_option maxHeartbeats 4000000 in
theorem treeChecks_walk (w : World) (n : Int) (A : Option Addr) (c : Nat) (es : List E3) (_hm : es.length ≤ maxLen) (_hw : (Lit.int .i64 n).wf = true) (h : Reads w w.heap.size 3 A es.length (edgeCells es))
    (B : Option Addr) (d : Nat) (xs : List Int) (_hm' : xs.length ≤ maxLen) (_hw' : ∀ x ∈ xs, (Lit.int .i64 x).wf = true) (h' : Reads w w.heap.size 1 B xs.length (ints xs)) :
    Calls Try.prog 3 #[.agg #[.int .i64 n, .slice A es.length c], .slice B xs.length d] w fun e w' => e = .returned (.bool true) ∧ Below w.heap.size w w' := by
  have FC := Lib.hid (fun w h => few13_any n A c es B xs.length d w h)
  have AW := Lib.hid (fun w => awake13_any w)
  have g : Blk (w.alloc (.cells #[.int .i64 n, .slice A es.length c] 24)).drew w.heap.size 24 #[.int .i64 n, .slice A es.length c] := (Blk.new w 24 #[.int .i64 n, .slice A es.length c]).drew
  have hB : Below w.heap.size w (w.alloc (.cells #[.int .i64 n, .slice A es.length c] 24)).drew := ((Below.refl _ _).alloc (Nat.le_refl _) _).drew
  have k0 := g.cell 0
  have k1 := g.cell 1
  by_cases hf : few13 n es xs.length = true
  · obtain ⟨hlen, hxl, _⟩ := few13_parts hf
    have P := Lib.hid (fun w h h' => tcheck_any n A c es (by omega) B d xs (by omega) w h h')
    have R := Lib.hid (fun w h h' => rtcheck_any n A c es (by omega) B d xs (by omega) w h h')
    obtain ⟨z, hz⟩ : ∃ z, treeErr n es xs = z := ⟨_, rfl⟩
    rw [hz] at P R
    rw [hf] at FC
    have hzz : (z == z) = true := by simp
    clear hf hz
    go_enter Try.func3, Try.ntmps3
    go_wp2_with fail
    go_region_held3 (fun W => W.cell? ⟨w.heap.size, 0, none⟩ = some (.int .i64 n) ∧ W.cell? ⟨w.heap.size, 1, none⟩ = some (.slice A es.length c)) (go_keep) (first
      | (go_at_call 12; refine (FC.out _ ((h.below hB).more hB.size)).mono ?_; rintro e w1 ⟨rfl, hb⟩; have g := g.next hb; have hB := hB.trans (hb.mono hB.size); have k0 := g.cell 0; have k1 := g.cell 1)
      | (go_at_call 14; refine (P.out _ ((h.below hB).more hB.size) ((h'.below hB).more hB.size)).mono ?_; rintro e w1 ⟨rfl, hb⟩; have g := g.next hb; have hB := hB.trans (hb.mono hB.size); have k0 := g.cell 0; have k1 := g.cell 1)
      | (go_at_call 15; refine (R.out _ ((h.below hB).more hB.size) ((h'.below hB).more hB.size)).mono ?_; rintro e w1 ⟨rfl, hb⟩; have g := g.next hb; have hB := hB.trans (hb.mono hB.size); have k0 := g.cell 0; have k1 := g.cell 1)
      | (go_at_call 13; refine (AW.out _).mono ?_; rintro e w1 ⟨rfl, hb⟩; have g := g.next hb; have hB := hB.trans (hb.mono hB.size); have k0 := g.cell 0; have k1 := g.cell 1))
    go_wp2
    go_ret
    exact ⟨rfl, hB⟩
  · have hf : few13 n es xs.length = false := by simpa using hf
    rw [hf] at FC
    clear hf
    go_enter Try.func3, Try.ntmps3
    go_wp2_with fail
    refine wp_region_any (by kernel_rfl) ?_
    try (change wpAny _ _ _ _ _ _ _ (World.drew _))
    refine any_take (i := 1) (.slice B xs.length d) rfl (by kernel_rfl) (by kernel_rfl) (by kernel_rfl) (fun _ _ _ h => h) (by kernel_rfl) ?_ ?_
    · intro w; go_simp
    refine any_step (i := 0) rfl (by kernel_rfl) (by kernel_rfl) ?_
    intro K hK
    go_simp
    refine hK _ _ ?_
    clear hK K
    refine any_step (i := 2) rfl (by kernel_rfl) (by kernel_rfl) ?_
    intro K hK
    go_simp
    go_at_call 12
    refine (FC.out _ ((h.below hB).more hB.size)).mono ?_
    rintro e w1 ⟨rfl, hb⟩
    try go_simp
    have g := g.next hb
    have hB := hB.trans (hb.mono hB.size)
    have k0 := g.cell 0
    have k1 := g.cell 1
    refine hK _ _ ?_
    clear hK K
    refine any_take (i := 3) (.bool true) rfl (by kernel_rfl) (by kernel_rfl) (by kernel_rfl) (fun _ _ _ h => h) (by kernel_rfl) ?_ ?_
    · intro w; go_simp
    refine any_take (i := 4) (.bool true) rfl (by kernel_rfl) (by kernel_rfl) (by kernel_rfl) (fun _ _ _ h => h) (by kernel_rfl) ?_ ?_
    · intro w; go_simp
    refine any_step (i := 5) rfl (by kernel_rfl) (by kernel_rfl) ?_
    intro K hK
    go_simp
    go_at_call 13
    refine (AW.out _).mono ?_
    rintro e w1 ⟨rfl, hb⟩
    try go_simp
    have g := g.next hb
    have hB := hB.trans (hb.mono hB.size)
    have k0 := g.cell 0
    have k1 := g.cell 1
    refine hK _ _ ?_
    clear hK K
    refine any_take (i := 6) (.bool true) rfl (by kernel_rfl) (by kernel_rfl) (by kernel_rfl) (fun _ _ _ h => h) (by kernel_rfl) ?_ ?_
    · intro w; go_simp
    refine any_take (i := 7) (.bool true) rfl (by kernel_rfl) (by kernel_rfl) (by kernel_rfl) (fun _ _ _ h => h) (by kernel_rfl) ?_ ?_
    · intro w; go_simp
    refine any_skip (i := 8) rfl (by kernel_rfl) (by kernel_rfl) (by kernel_rfl) (fun _ _ _ h => h) (by kernel_rfl) ?_
    refine any_skip (i := 9) rfl (by kernel_rfl) (by kernel_rfl) (by kernel_rfl) (fun _ _ _ h => h) (by kernel_rfl) ?_
    refine any_skip (i := 10) rfl (by kernel_rfl) (by kernel_rfl) (by kernel_rfl) (fun _ _ _ h => h) (by kernel_rfl) ?_
    refine any_skip (i := 11) rfl (by kernel_rfl) (by kernel_rfl) (by kernel_rfl) (fun _ _ _ h => h) (by kernel_rfl) ?_
    refine any_skip (i := 12) rfl (by kernel_rfl) (by kernel_rfl) (by kernel_rfl) (fun _ _ _ h => h) (by kernel_rfl) ?_
    refine any_skip (i := 13) rfl (by kernel_rfl) (by kernel_rfl) (by kernel_rfl) (fun _ _ _ h => h) (by kernel_rfl) ?_
    refine any_skip (i := 14) rfl (by kernel_rfl) (by kernel_rfl) (by kernel_rfl) (fun _ _ _ h => h) (by kernel_rfl) ?_
    refine any_skip (i := 15) rfl (by kernel_rfl) (by kernel_rfl) (by kernel_rfl) (fun _ _ _ h => h) (by kernel_rfl) ?_
    refine any_skip (i := 16) rfl (by kernel_rfl) (by kernel_rfl) (by kernel_rfl) (fun _ _ _ h => h) (by kernel_rfl) ?_
    refine any_skip (i := 17) rfl (by kernel_rfl) (by kernel_rfl) (by kernel_rfl) (fun _ _ _ h => h) (by kernel_rfl) ?_
    refine any_skip (i := 18) rfl (by kernel_rfl) (by kernel_rfl) (by kernel_rfl) (fun _ _ _ h => h) (by kernel_rfl) ?_
    refine any_skip (i := 19) rfl (by kernel_rfl) (by kernel_rfl) (by kernel_rfl) (fun _ _ _ h => h) (by kernel_rfl) ?_
    refine any_skip (i := 20) rfl (by kernel_rfl) (by kernel_rfl) (by kernel_rfl) (fun _ _ _ h => h) (by kernel_rfl) ?_
    refine any_skip (i := 21) rfl (by kernel_rfl) (by kernel_rfl) (by kernel_rfl) (fun _ _ _ h => h) (by kernel_rfl) ?_
    refine any_skip (i := 22) rfl (by kernel_rfl) (by kernel_rfl) (by kernel_rfl) (fun _ _ _ h => h) (by kernel_rfl) ?_
    refine any_take (i := 23) (.bool true) rfl (by kernel_rfl) (by kernel_rfl) (by kernel_rfl) (fun _ _ _ h => h) (by kernel_rfl) ?_ ?_
    · intro w; go_simp
    refine any_take (i := 24) (.bool true) rfl (by kernel_rfl) (by kernel_rfl) (by kernel_rfl) (fun _ _ _ h => h) (by kernel_rfl) ?_ ?_
    · intro w; go_simp
    refine wpAny_done (by kernel_rfl) ?_ _
    go_simp
    all_goals (
      go_wp2
      go_ret
      exact ⟨rfl, hB⟩)

namespace lawTreeChecks
open Go.ChangeShapes Go.WideShapes Go.ChangeAt Go.RowKit
set_option linter.unusedVariables false
set_option maxRecDepth 100000 in
theorem lifted (os : Os) (started : os.Started) (H : Type) (enc : TypeId × Value → H) :
    ReturnsInHanded {} Try.checked os 3 .any (Rows.treeChecksSpec.pre6 enc Try.prog Try.f3 Rows.treeChecksRow.domain false) (Rows.treeChecksSpec.post enc Try.prog Try.f3 false true false false) := by
  refine returnsInHanded_of_change (C := Try.checked) own started (by kernel_rfl) Try.func3
    (ChangeSpec.witness6 (enc := enc) (C := Try.checked) false ⟨#[], #[.agg #[.int .i64 0, .slice none 0 0], .slice none 0 0], []⟩ 8 (by kernel_rfl) (by kernel_rfl) (by kernel_rfl) (by kernel_rfl)) ?_
  intro W base args ds gs before hval0 hW hcnd _
  have hval : ∀ (j : Nat) t v, Try.f3.params[j]? = some t → args[j]? = some v → Value.okWide Try.prog W .any base t v := hval0
  have hW' := hW
  obtain ⟨p, q, hA0, hV, rfl, hfz, hnd⟩ := hW
  have hA : DataW.TrodAll enc Try.prog W 0 (fun _ => true) true Try.f3.params.toList args.toList ds p := hA0
  rw [Try.params3] at hA hval
  obtain ⟨v0, vs0, d0, ds0, p0, q0, hargs, rfl, rfl, h0, r0⟩ := trodAll_cons hA
  obtain ⟨v1, vs1, d1, ds1, p1, q1, rfl, rfl, rfl, h1, r1⟩ := trodAll_cons r0
  obtain ⟨rfl, rfl, rfl⟩ := trodAll_nil r1
  obtain rfl : args = #[v0, v1] := by cases args; simp_all
  obtain ⟨rfl, rfl⟩ := trodVars_none hV
  obtain ⟨cs0, rfl, _⟩ := okWide_struct Try.underlying24 (hval 0 24 v0 rfl rfl)
  have k0 := h0
  have lt0 : ∀ x ∈ p0, x.block < W.heap.size := by obtain ⟨m, hm⟩ := k0; exact DataW.trod_lt m _ _ _ hm
  obtain ⟨_, hf0⟩ := h0
  obtain ⟨n0, a0, cap0, xs0, hcs0, hm0, hr0, hw0⟩ := open_graph hf0
  obtain rfl : cs0 = #[.int .i64 n0, .slice a0 xs0.length cap0] := Array.toList_inj.1 hcs0
  obtain ⟨a1, len1, cap1, rfl⟩ := okWide_slice Try.underlying25 (hval 1 25 v1 rfl rfl)
  have k1 := h1
  have lt1 : ∀ x ∈ p1, x.block < W.heap.size := by obtain ⟨m, hm⟩ := k1; exact DataW.trod_lt m _ _ _ hm
  obtain ⟨z1, w1⟩ : ∃ zs, IsRow .i64 W a1 len1 cap1 zs := by
    obtain ⟨fuel, hf⟩ := h1
    rcases open_ints Try.underlying25 Try.underlying3 (by kernel_rfl) hf with ⟨hcs, _⟩ | ⟨x, l, c, zs, hcs, _, hl, hm, hz, _, hcell, hwz⟩
    · simp [Value.cells] at hcs
      obtain ⟨rfl, rfl, rfl⟩ := hcs
      exact ⟨[], .inl ⟨rfl, rfl, rfl, rfl⟩⟩
    · simp [Value.cells] at hcs
      obtain ⟨rfl, rfl, rfl⟩ := hcs
      exact ⟨zs, .inr ⟨_, rfl, hl, hm, by simpa using hz, hcell, hwz⟩⟩
  obtain ⟨xs1, rfl, hm1, hr1, hw1⟩ := w1.reads
  clear hA0 hval0
  refine (treeChecks_walk W n0 a0 cap0 xs0 hm0 hw0 hr0 a1 cap1 xs1 hm1 hw1 hr1).mono fun e W' ⟨he, bel⟩ => ?_
  subst he
  exact ⟨_, rfl, _, _, _, [], _, [], hW', trodAll_mk1 (shut_bool Try.underlying4 _), (trodAll_cons_mk (Below.trod laidOut (by kernel_rfl) (of_decide_eq_true (by kernel_rfl)) k0 bel lt0) (trodAll_cons_mk (Below.trod laidOut (by kernel_rfl) (of_decide_eq_true (by kernel_rfl)) k1 bel lt1) trodAll_mk0)), rfl, bel.frame _, fun h => by cases h⟩

theorem over : Rows.treeChecksRow.holds Try.pinned (OpenSpec.ofChange Rows.treeChecksSpec) :=
  OpenClaim.holds_of_wide 3 Try.f3 rfl rfl rfl rfl rfl rfl rfl ⟨rfl, rfl, rfl, rfl, rfl⟩ rfl rfl rfl rfl rfl (by kernel_rfl) Try.func3 (by kernel_rfl)
    (of_decide_eq_true (by kernel_rfl)) (by unfold Func.isWrapper; first | (rw [if_pos (by decide +kernel)]; kernel_rfl) | (rw [if_neg (by decide +kernel)]; exact ⟨rfl, rfl⟩))
    (fun os started H enc _ => lifted os started H enc)

/-- For every graph and list TreeChecks answers true. -/
theorem proved : Rows.TreeChecksSaid := over
#print axioms proved
end lawTreeChecks
end Go.Proofs.Ytepmfbgmkfkmkaa
