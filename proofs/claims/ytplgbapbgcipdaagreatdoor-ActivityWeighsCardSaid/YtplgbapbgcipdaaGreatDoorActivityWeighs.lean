/-
  ActivityWeighs: for every graph and every list of ints, activity.Weight and activity.Members return the results, or the errors, of the reference; the example of the chapter holds.
  Conditions: none but the tables that the card lists and ties.
-/
import Derived.Test.YtplgbapbgcipdaaGreatDoorK38
import Derived.Test.YtplgbapbgcipdaaGreatDoorK24
import Derived.Test.YtplgbapbgcipdaaGreatDoorK41
import Derived.Test.YtplgbapbgcipdaaGreatDoorK40
namespace Go.Proofs.YtplgbapbgcipdaaGreatDoor
open Go.RowKit
theorem few_parts {n : Int} {es : List E3} {a b : Int} (h : smallB n es a b = true) (hc : checkG n es = 0) : n ≤ a ∧ (sizeE es : Int) ≤ b := by
  unfold smallB at h
  by_cases h3 : 40 < es.length
  · rw [if_pos h3] at h; cases h
  · rw [if_neg h3, if_neg (fun h4 => h4 hc), Bool.and_eq_true] at h
    exact ⟨of_decide_eq_true h.1, of_decide_eq_true h.2⟩
set_option maxRecDepth 100000 in
set_option maxHeartbeats 4000000 in
theorem activityWeighs_walk (w : World) (n : Int) (A : Option Addr) (c : Nat) (es : List E3) (_hm : es.length ≤ maxLen) (_hw : (Lit.int .i64 n).wf = true) (h : Reads w w.heap.size 3 A es.length (edgeCells es)) (B : Option Addr) (d : Nat) (xs : List Int) (hxm : xs.length ≤ maxLen) (_hxw : ∀ x ∈ xs, (Lit.int .i64 x).wf = true) (h' : Reads w w.heap.size 1 B xs.length (ints xs)) :
    Calls Tryz.prog 6 #[.agg #[.int .i64 n, .slice A es.length c], .slice B xs.length d] w fun e w' => e = .returned (.bool true) ∧ Below w.heap.size w w' := by
  have FC := Lib.hid (fun (W : World) (hB : Below w.heap.size w W) => rfew_any n A c es W ((h.below hB).more hB.size))
  have AC := Lib.hid awake31_any
  have g := Blk.new w 24 #[.int .i64 n, .slice A es.length c]
  have hB : Below w.heap.size w (w.alloc (.cells #[.int .i64 n, .slice A es.length c] 24)) := (Below.refl _ _).alloc (Nat.le_refl _) _
  have k0 := g.cell 0
  have k1 := g.cell 1
  obtain ⟨N, hN⟩ : ∃ N, xs.length = N := ⟨_, rfl⟩
  have hNm : N ≤ maxLen := by omega
  unfold maxLen at hNm
  cases hf : smallB n es 6 9
  · rw [hf] at FC
    rw [hN]
    clear hf h h' hN hxm _hm _hw _hxw hNm
    go_enter Tryz.func6, Tryz.ntmps6
    go_wp2_with fail
    refine (FC.out _ hB).mono ?_
    rintro e wn ⟨rfl, hb⟩
    have hB := hB.trans (hb.mono hB.size)
    go_wp2_with fail
    refine (AC.out _).mono ?_
    rintro e wm ⟨rfl, hb⟩
    have hB := hB.trans (hb.mono hB.size)
    go_wp2
    go_ret
    exact ⟨rfl, hB⟩
  · rw [hf] at FC
    have h40 := few_40 hf
    by_cases h30 : N ≤ 30
    · have hi : ¬ (30 : Int) < (N : Int) := by omega
      have hi2 : decide ((30 : Int) < (N : Int)) = false := decide_eq_false hi
      have hil : (intE n es xs).1.length ≤ 5 ∧ (extE n es xs).1.length ≤ 9 := by
        by_cases hz : treeErr n es xs = 0
        · obtain ⟨m, t, rfl, hxt, hR⟩ := treeR_of hz
          obtain ⟨_, _, _, _, _, _, _, _, _, hjz⟩ := tree_zero hz
          have hp := few_parts hf (join_zero hjz).1
          rw [size_ends] at hp
          have h1 : (insA (endsL es) t).length ≤ t.length := List.length_filter_le _ _
          have h2 : (outA (endsL es) t).length ≤ (List.range (endsL es).length).length := List.length_filter_le _ _
          have h3 := hR.tr.len
          rw [List.length_range] at h2
          unfold intE extE
          rw [if_pos hz, if_pos hz, hxt, toN_nI]
          dsimp only
          rw [nI_length, nI_length]
          exact ⟨by omega, by omega⟩
        · unfold intE extE
          rw [if_neg hz, if_neg hz]
          exact ⟨by simp, by simp⟩
      have WC := Lib.hid (fun (W : World) (hB : Below w.heap.size w W) => weight_any n A c es (by omega) B d xs (by omega) (by omega) (by omega) W ((h.below hB).more hB.size) ((h'.below hB).more hB.size))
      have RW := Lib.hid (fun (W : World) (hB : Below w.heap.size w W) => rweight31_any n A c es h40 B d xs (by omega) ⟨by omega, by omega⟩ W ((h.below hB).more hB.size) ((h'.below hB).more hB.size))
      have MC := Lib.hid (fun (W : World) (hB : Below w.heap.size w W) => amembers_any n A c es (by omega) B d xs (by omega) (by omega) W ((h.below hB).more hB.size) ((h'.below hB).more hB.size))
      have RM := Lib.hid (fun (W : World) (hB : Below w.heap.size w W) => rmembers31_any n A c es h40 B d xs (by omega) (by omega) W ((h.below hB).more hB.size) ((h'.below hB).more hB.size))
      have hwl : (weightE n es xs).1.length ≤ 1048576 := by
        unfold weightE
        by_cases hz : treeErr n es xs = 0
        · rw [if_pos hz]; simp
        · rw [if_neg hz]; simp
      obtain ⟨⟨P1, z1⟩, hi1⟩ : ∃ R, weightE n es xs = R := ⟨_, rfl⟩
      obtain ⟨⟨v2, z2⟩, hi3⟩ : ∃ R, memE n es xs = R := ⟨_, rfl⟩
      rw [hi1] at WC RW hwl
      rw [hi3] at MC RM
      dsimp only at WC RW MC RM hwl
      have S1 := Lib.hid (fun (A1 : Option Addr) (c1 : Nat) (A2 : Option Addr) (c2 : Nat) (W : World) (h1 : Reads W W.heap.size 3 A1 P1.length (tmCells P1)) (h2 : Reads W W.heap.size 3 A2 P1.length (tmCells P1)) => rsame06_any A1 c1 P1 A2 c2 hwl W h1 h2)
      rw [hN] at WC RW MC RM ⊢
      obtain ⟨n1, hn1⟩ : ∃ n1, P1.length = n1 := ⟨_, rfl⟩
      rw [hn1] at WC RW S1
      have H1 := Lib.hid hn1
      clear hf h h' hN hxm _hm _hw _hxw hNm hi1 hi3 hil h40 h30 hn1 hwl
      go_enter Tryz.func6, Tryz.ntmps6
      go_wp2_with fail
      refine (FC.out _ hB).mono ?_
      rintro e wn ⟨rfl, hb⟩
      have g := g.next hb
      have hB := hB.trans (hb.mono hB.size)
      have k0 := g.cell 0
      have k1 := g.cell 1
      clear hb
      go_wp2_with fail
      refine (WC.out _ hB).mono ?_
      rintro e wn ⟨A1, c1, rfl, o1, hb⟩
      have g := g.next hb
      have hB := hB.trans (hb.mono hB.size)
      have k0 := g.cell 0
      have k1 := g.cell 1
      have r1 := o1.reads
      rw [H1.out] at r1
      clear o1 hb
      go_wp2_with fail
      refine (RW.out _ hB).mono ?_
      rintro e wn ⟨A2, c2, rfl, r2, hb⟩
      have r1 := r1.next hb
      have g := g.next hb
      have hB := hB.trans (hb.mono hB.size)
      have k0 := g.cell 0
      have k1 := g.cell 1
      clear hb
      go_wp2_with fail
      refine (MC.out _ hB).mono ?_
      rintro e wn ⟨rfl, hb⟩
      have r1 := r1.next hb
      have r2 := r2.next hb
      have g := g.next hb
      have hB := hB.trans (hb.mono hB.size)
      have k0 := g.cell 0
      have k1 := g.cell 1
      clear hb
      go_wp2_with fail
      refine (RM.out _ hB).mono ?_
      rintro e wn ⟨rfl, hb⟩
      have r1 := r1.next hb
      have r2 := r2.next hb
      have g := g.next hb
      have hB := hB.trans (hb.mono hB.size)
      have k0 := g.cell 0
      have k1 := g.cell 1
      clear hb
      go_wp2_with fail
      refine (AC.out _).mono ?_
      rintro e wa ⟨rfl, hb⟩
      have r1 := r1.next hb
      have r2 := r2.next hb
      have hB := hB.trans (hb.mono hB.size)
      clear hb
      go_wp2_with fail
      refine (S1.out _ _ _ _ _ r1 r2).mono ?_
      rintro e ws ⟨rfl, hb⟩
      have hB := hB.trans (hb.mono hB.size)
      go_wp2
      go_ret
      exact ⟨rfl, hB⟩
    · have hi : (30 : Int) < (N : Int) := by omega
      have hi2 : decide ((30 : Int) < (N : Int)) = true := decide_eq_true hi
      rw [hN]
      clear hf h h' hN hxm _hm _hw _hxw hNm h30 h40
      go_enter Tryz.func6, Tryz.ntmps6
      go_wp2_with fail
      refine (FC.out _ hB).mono ?_
      rintro e wn ⟨rfl, hb⟩
      have hB := hB.trans (hb.mono hB.size)
      go_wp2_with fail
      refine (AC.out _).mono ?_
      rintro e wm ⟨rfl, hb⟩
      have hB := hB.trans (hb.mono hB.size)
      go_wp2
      go_ret
      exact ⟨rfl, hB⟩
namespace lawActivityWeighs
open Go.ChangeShapes Go.WideShapes Go.ChangeAt Go.RowKit
set_option linter.unusedVariables false
set_option maxRecDepth 100000 in
/-- What the walk gives, for every argument and every world. -/
theorem contract (H : Type) (enc : TypeId × Value → H) (W : World) (base : Nat) (args : Array Value) (ds gs : List (DataW H)) (before : List MemPlace)
    (hval0 : ∀ (j : Nat) t v, Tryz.f6.params[j]? = some t → args[j]? = some v → Value.okWide Tryz.prog W .any base t v)
    (hW : DataW.Whole enc Tryz.prog Tryz.f6.params.toList Rows.activityWeighsSpec.vars false W args.toList ds gs before) :
    Calls Tryz.prog 6 args W fun e W' => ∃ v, e = .returned v ∧ Rows.activityWeighsSpec.post enc Tryz.prog Tryz.f6 false true false false W args v W' := by
  have hval : ∀ (j : Nat) t v, Tryz.f6.params[j]? = some t → args[j]? = some v → Value.okWide Tryz.prog W .any base t v := hval0
  have hW' := hW
  obtain ⟨p, q, hA0, hV, rfl, hfz, hnd⟩ := hW
  have hA : DataW.TrodAll enc Tryz.prog W 0 (fun _ => true) true Tryz.f6.params.toList args.toList ds p := hA0
  rw [Tryz.params6] at hA hval
  obtain ⟨v0, vs0, d0, ds0, p0, q0, hargs, rfl, rfl, h0, r0⟩ := trodAll_cons hA
  obtain ⟨v1, vs1, d1, ds1, p1, q1, rfl, rfl, rfl, h1, r1⟩ := trodAll_cons r0
  obtain ⟨rfl, rfl, rfl⟩ := trodAll_nil r1
  obtain rfl : args = #[v0, v1] := by cases args; simp_all
  obtain ⟨rfl, rfl⟩ := trodVars_none hV
  obtain ⟨cs0, rfl, _⟩ := okWide_struct Tryz.underlying24 (hval 0 24 v0 rfl rfl)
  have k0 := h0
  have lt0 : ∀ x ∈ p0, x.block < W.heap.size := by obtain ⟨m, hm⟩ := k0; exact DataW.trod_lt m _ _ _ hm
  obtain ⟨_, hf0⟩ := h0
  obtain ⟨n0, a0, cap0, xs0, hcs0, hm0, hr0, hw0⟩ := open_graph hf0
  obtain rfl : cs0 = #[.int .i64 n0, .slice a0 xs0.length cap0] := Array.toList_inj.1 hcs0
  obtain ⟨a1, len1, cap1, rfl⟩ := okWide_slice Tryz.underlying25 (hval 1 25 v1 rfl rfl)
  have k1 := h1
  have lt1 : ∀ x ∈ p1, x.block < W.heap.size := by obtain ⟨m, hm⟩ := k1; exact DataW.trod_lt m _ _ _ hm
  obtain ⟨z1, w1⟩ : ∃ zs, IsRow .i64 W a1 len1 cap1 zs := by
    obtain ⟨fuel, hf⟩ := h1
    rcases open_ints Tryz.underlying25 Tryz.underlying3 (by kernel_rfl) hf with ⟨hcs, _⟩ | ⟨x, l, c, zs, hcs, _, hl, hm, hz, _, hcell, hwz⟩
    · simp [Value.cells] at hcs
      obtain ⟨rfl, rfl, rfl⟩ := hcs
      exact ⟨[], .inl ⟨rfl, rfl, rfl, rfl⟩⟩
    · simp [Value.cells] at hcs
      obtain ⟨rfl, rfl, rfl⟩ := hcs
      exact ⟨zs, .inr ⟨_, rfl, hl, hm, by simpa using hz, hcell, hwz⟩⟩
  obtain ⟨xs1, rfl, hm1, hr1, hw1⟩ := w1.reads
  clear hA0 hval0
  refine (activityWeighs_walk W n0 a0 cap0 xs0 hm0 hw0 hr0 a1 cap1 xs1 hm1 hw1 hr1).mono fun e W' ⟨he, bel⟩ => ?_
  subst he
  exact ⟨_, rfl, _, _, _, [], _, [], hW', trodAll_mk1 (shut_bool Tryz.underlying4 _), (trodAll_cons_mk (Below.trod laidOut (by kernel_rfl) (of_decide_eq_true (by kernel_rfl)) k0 bel lt0) (trodAll_cons_mk (Below.trod laidOut (by kernel_rfl) (of_decide_eq_true (by kernel_rfl)) k1 bel lt1) trodAll_mk0)), rfl, bel.frame _, fun h => by cases h⟩
theorem laid_met (os : Os) : laidMet Tryz.prog Rows.activityWeighsRow.laid ((laidWorld31 os).forCall (fun _ _ => 0) ⟨#[], #[.agg #[.int .i64 0, .slice none 0 0], .slice none 0 0], []⟩).memory :=
  laidMet_of_run' 8 (by kernel_rfl) (by kernel_rfl)
theorem reads (os : Os) {H : Type} (enc : TypeId × Value → H) : ∃ places, DataW.whole enc Tryz.prog ((laidWorld31 os).forCall (fun _ _ => 0) ⟨#[], #[.agg #[.int .i64 0, .slice none 0 0], .slice none 0 0], []⟩).memory Tryz.f6.params.toList Rows.activityWeighsSpec.vars false #[.agg #[.int .i64 0, .slice none 0 0], .slice none 0 0].toList 8 = some ([.agg [.lit (.int .i64 0), .nil], .nil], [], places) :=
  ⟨[], by kernel_rfl⟩
set_option maxRecDepth 100000 in
theorem lifted (os : Os) (started : os.Started) (H : Type) (enc : TypeId × Value → H) (F : Stop.Interp) :
    ReturnsInHanded {} Tryz.checked os 6 .any ((OpenSpec.ofChange Rows.activityWeighsSpec).preRow enc Tryz.prog Tryz.f6 Rows.activityWeighsRow.domain false Rows.activityWeighsRow.laid) (((OpenSpec.ofChange Rows.activityWeighsSpec).at F).post enc Tryz.prog Tryz.f6 false true false false) := by
  obtain ⟨places, hx⟩ := reads os enc
  refine returnsInHanded_of_row (C := Tryz.checked) (s := OpenSpec.ofChange Rows.activityWeighsSpec) own started (by kernel_rfl) Tryz.func6
    (witness_row_at (enc := enc) (C := Tryz.checked) false (laidWorld31 os) #[.agg #[.int .i64 0, .slice none 0 0], .slice none 0 0] rfl (by kernel_rfl) (by kernel_rfl) (by kernel_rfl)
      (OpenSpec.preRow_of_cond 8 hx (by kernel_rfl) (fun k hk => by cases hk) (by kernel_rfl) (laid_met os))) ?_
  intro W base args ds gs before hval hW _ _ _ _ _ _
  exact contract H enc W base args ds gs before hval hW
theorem said : Rows.ActivityWeighsSaid :=
  OpenClaim.holds_of_cond 6 Tryz.f6 rfl rfl rfl rfl rfl rfl rfl ⟨rfl, rfl, rfl, rfl, rfl⟩ rfl rfl rfl rfl rfl (by kernel_rfl) Tryz.func6 (by kernel_rfl)
    (of_decide_eq_true (by kernel_rfl)) (by unfold Func.isWrapper; first | (rw [if_pos (by decide +kernel)]; kernel_rfl) | (rw [if_neg (by decide +kernel)]; exact ⟨rfl, rfl⟩))
    (fun os started H enc _ F => by rw [OpenClaim.pre_eq_preRow]; exact lifted os started H enc F)
/-- No parameter wants a stand-in; the program's own looks are off: what the card asks. -/
theorem plain (f : FuncId) (fn : Func) (hf : Tryz.pinned.checked.prog.funcNamed "sandpile/sandpilelaw31.ActivityWeighs" = some f) (hfn : Tryz.pinned.checked.prog.funcs[f]? = some fn) :
    true = Tryz.pinned.checked.prog.looks [] ∧ ∀ (j : Nat) t, fn.params[j]? = some t → Tryz.pinned.checked.prog.wantsStandIn t = false := by
  obtain rfl : f = 6 := Option.some.inj ((show Tryz.prog.funcNamed "sandpile/sandpilelaw31.ActivityWeighs" = some 6 by kernel_rfl).symm.trans hf) |>.symm
  obtain rfl : fn = Tryz.f6 := (Option.some.inj (Tryz.func6.symm.trans hfn)).symm
  refine ⟨by kernel_rfl, fun j t ht => ?_⟩
  rw [Tryz.params6] at ht
  rcases (by simpa using Array.mem_of_getElem? ht : t = 24 ∨ t = 25) with rfl | rfl
  · exact (show Tryz.prog.wantsStandIn 24 = false by kernel_rfl)
  · exact (show Tryz.prog.wantsStandIn 25 = false by kernel_rfl)

/-- ActivityWeighs (P31.1): for every graph and list, Weight and Members return the results, or the errors, of the reference, and nothing that came in is turned; no condition but the tables that the card ties. -/
theorem proved : Rows.ActivityWeighsCardSaid :=
  Claim7.holds_tied_plain_at .later [] _ _ _ _ said (fun _ h => by cases h) (by kernel_rfl) (fun _ h => by cases h) activityWeighs_row_tie rfl ⟨rfl, rfl⟩ (by kernel_rfl) rfl plain (by kernel_rfl)
#print axioms proved
end lawActivityWeighs

end Go.Proofs.YtplgbapbgcipdaaGreatDoor
