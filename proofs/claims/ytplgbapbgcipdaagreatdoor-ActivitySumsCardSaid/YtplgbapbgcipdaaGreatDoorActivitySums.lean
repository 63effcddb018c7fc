/-
  ActivitySums: for every graph, activity.Polynomial returns the polynomial, or the error, of the reference; the example of the chapter holds.
  Conditions: none but the tables that the card lists and ties.
-/
import Derived.Test.YtplgbapbgcipdaaGreatDoorK41
import Derived.Test.YtplgbapbgcipdaaGreatDoorK24
import Derived.Test.YtplgbapbgcipdaaGreatDoorK44
import Derived.Test.YtplgbapbgcipdaaGreatDoorK47
namespace Go.Proofs.YtplgbapbgcipdaaGreatDoor
open Go.RowKit
set_option maxRecDepth 100000 in
set_option maxHeartbeats 4000000 in
theorem activitySums_walk (w : World) (n : Int) (A : Option Addr) (c : Nat) (es : List E3) (_hm : es.length ≤ maxLen) (_hw : (Lit.int .i64 n).wf = true) (h : Reads w w.heap.size 3 A es.length (edgeCells es)) :
    Calls Tryz.prog 4 #[.agg #[.int .i64 n, .slice A es.length c]] w fun e w' => e = .returned (.bool true) ∧ Below w.heap.size w w' := by
  have FC := Lib.hid (fun (W : World) (hB : Below w.heap.size w W) => rfewtrees_any n A c es W ((h.below hB).more hB.size))
  have AC := Lib.hid awake31_any
  have g := Blk.new w 24 #[.int .i64 n, .slice A es.length c]
  have hB : Below w.heap.size w (w.alloc (.cells #[.int .i64 n, .slice A es.length c] 24)) := (Below.refl _ _).alloc (Nat.le_refl _) _
  have k0 := g.cell 0
  have k1 := g.cell 1
  cases hf : smallB n es 5 8
  · rw [hf] at FC
    clear hf h _hm _hw
    go_enter Tryz.func4, Tryz.ntmps4
    go_wp2_with fail
    refine (FC.out _ hB).mono ?_
    rintro e wn ⟨rfl, hb⟩
    have hB := hB.trans (hb.mono hB.size)
    go_wp2_with fail
    refine (AC.out _).mono ?_
    rintro e wm ⟨rfl, hb⟩
    have hB := hB.trans (hb.mono hB.size)
    go_wp2
    go_ret
    exact ⟨rfl, hB⟩
  · rw [hf] at FC
    obtain ⟨h40, _, hsm⟩ := few13_parts (n := n) (es := es) (m := 0) (by unfold few13; rw [hf]; rfl)
    have hfw : joinErr n es = 0 → n ≤ 5 ∧ (endsL es).length ≤ 8 := fun hj => by
      have h1 := hsm (join_zero hj).1
      exact ⟨h1.1, by rw [← size_ends]; exact h1.2⟩
    have PC := Lib.hid (fun (W : World) (hB : Below w.heap.size w W) => polynomial_any n A c es (by omega) hfw W ((h.below hB).more hB.size))
    have RP := Lib.hid (fun (W : World) (hB : Below w.heap.size w W) => rpolynomial31_any n A c es h40 hfw W ((h.below hB).more hB.size))
    have hpl : (polyE n es).1.length ≤ 1048576 := by
      unfold polyE
      by_cases hj : joinErr n es = 0
      · rw [if_neg (fun hc => hc hj)]
        obtain ⟨h5, h8⟩ := hfw hj
        obtain ⟨_, hG, _⟩ := join_zero hj
        have hlo := hG.lo
        obtain ⟨m, rfl⟩ := Int.eq_ofNat_of_zero_le (show 0 ≤ n by omega)
        have h70 := few_trees (bd_ends hG) (by omega) (by omega) h8
        have h1 := sumP_len (wtL m (endsL es))
        rw [show (wtL m (endsL es)).length = (treesT m (endsL es)).length by unfold wtL; rw [List.length_map]] at h1
        rw [Int.toNat_natCast]
        dsimp only
        omega
      · rw [if_pos hj]; simp
    obtain ⟨⟨L1, z1⟩, hi1⟩ : ∃ R, polyE n es = R := ⟨_, rfl⟩
    rw [hi1] at PC RP hpl
    dsimp only at PC RP hpl
    have S1 := Lib.hid (fun (A1 : Option Addr) (c1 : Nat) (A2 : Option Addr) (c2 : Nat) (W : World) (h1 : Reads W W.heap.size 3 A1 L1.length (tmCells L1)) (h2 : Reads W W.heap.size 3 A2 L1.length (tmCells L1)) => rsame06_any A1 c1 L1 A2 c2 hpl W h1 h2)
    obtain ⟨n1, hn1⟩ : ∃ n1, L1.length = n1 := ⟨_, rfl⟩
    rw [hn1] at PC RP S1
    have HN1 := Lib.hid hn1
    clear hf h _hm _hw hi1 hpl h40 hn1 hsm hfw
    go_enter Tryz.func4, Tryz.ntmps4
    go_wp2_with fail
    refine (FC.out _ hB).mono ?_
    rintro e wn ⟨rfl, hb⟩
    have g := g.next hb
    have hB := hB.trans (hb.mono hB.size)
    have k0 := g.cell 0
    have k1 := g.cell 1
    clear hb
    go_wp2_with fail
    refine (PC.out _ hB).mono ?_
    rintro e wn ⟨A1, c1, rfl, o1, hb⟩
    have g := g.next hb
    have hB := hB.trans (hb.mono hB.size)
    have k0 := g.cell 0
    have k1 := g.cell 1
    clear hb
    have r1 := o1.reads
    rw [HN1.out] at r1
    go_wp2_with fail
    refine (RP.out _ hB).mono ?_
    rintro e wn ⟨A2, c2, rfl, o2, hb⟩
    have r1 := r1.next hb
    have g := g.next hb
    have hB := hB.trans (hb.mono hB.size)
    have k0 := g.cell 0
    have k1 := g.cell 1
    clear hb
    have r2 := o2.reads
    rw [HN1.out] at r2
    go_wp2_with fail
    refine (AC.out _).mono ?_
    rintro e wa ⟨rfl, hb⟩
    have r1 := r1.next hb
    have r2 := r2.next hb
    have hB := hB.trans (hb.mono hB.size)
    clear hb
    go_wp2_with fail
    refine (S1.out _ _ _ _ _ r1 r2).mono ?_
    rintro e ws ⟨rfl, hb⟩
    have hB := hB.trans (hb.mono hB.size)
    go_wp2
    go_ret
    exact ⟨rfl, hB⟩
namespace lawActivitySums
open Go.ChangeShapes Go.WideShapes Go.ChangeAt Go.RowKit
set_option linter.unusedVariables false
set_option maxRecDepth 100000 in
/-- What the walk gives, for every argument and every world. -/
theorem contract (H : Type) (enc : TypeId × Value → H) (W : World) (base : Nat) (args : Array Value) (ds gs : List (DataW H)) (before : List MemPlace)
    (hval0 : ∀ (j : Nat) t v, Tryz.f4.params[j]? = some t → args[j]? = some v → Value.okWide Tryz.prog W .any base t v)
    (hW : DataW.Whole enc Tryz.prog Tryz.f4.params.toList Rows.activitySumsSpec.vars false W args.toList ds gs before) :
    Calls Tryz.prog 4 args W fun e W' => ∃ v, e = .returned v ∧ Rows.activitySumsSpec.post enc Tryz.prog Tryz.f4 false true false false W args v W' := by
  have hval : ∀ (j : Nat) t v, Tryz.f4.params[j]? = some t → args[j]? = some v → Value.okWide Tryz.prog W .any base t v := hval0
  have hW' := hW
  obtain ⟨p, q, hA0, hV, rfl, hfz, hnd⟩ := hW
  have hA : DataW.TrodAll enc Tryz.prog W 0 (fun _ => true) true Tryz.f4.params.toList args.toList ds p := hA0
  rw [Tryz.params4] at hA hval
  obtain ⟨v0, vs0, d0, ds0, p0, q0, hargs, rfl, rfl, h0, r0⟩ := trodAll_cons hA
  obtain ⟨rfl, rfl, rfl⟩ := trodAll_nil r0
  obtain rfl : args = #[v0] := by cases args; simp_all
  obtain ⟨rfl, rfl⟩ := trodVars_none hV
  obtain ⟨cs0, rfl, _⟩ := okWide_struct Tryz.underlying24 (hval 0 24 v0 rfl rfl)
  have k0 := h0
  have lt0 : ∀ x ∈ p0, x.block < W.heap.size := by obtain ⟨m, hm⟩ := k0; exact DataW.trod_lt m _ _ _ hm
  obtain ⟨_, hf0⟩ := h0
  obtain ⟨n0, a0, cap0, xs0, hcs0, hm0, hr0, hw0⟩ := open_graph hf0
  obtain rfl : cs0 = #[.int .i64 n0, .slice a0 xs0.length cap0] := Array.toList_inj.1 hcs0
  clear hA0 hval0
  refine (activitySums_walk W n0 a0 cap0 xs0 hm0 hw0 hr0).mono fun e W' ⟨he, bel⟩ => ?_
  subst he
  exact ⟨_, rfl, _, _, _, [], _, [], hW', trodAll_mk1 (shut_bool Tryz.underlying4 _), (trodAll_cons_mk (Below.trod laidOut (by kernel_rfl) (of_decide_eq_true (by kernel_rfl)) k0 bel lt0) trodAll_mk0), rfl, bel.frame _, fun h => by cases h⟩
theorem laid_met (os : Os) : laidMet Tryz.prog Rows.activitySumsRow.laid ((laidWorld31 os).forCall (fun _ _ => 0) ⟨#[], #[.agg #[.int .i64 0, .slice none 0 0]], []⟩).memory :=
  laidMet_of_run' 8 (by kernel_rfl) (by kernel_rfl)
theorem reads (os : Os) {H : Type} (enc : TypeId × Value → H) : ∃ places, DataW.whole enc Tryz.prog ((laidWorld31 os).forCall (fun _ _ => 0) ⟨#[], #[.agg #[.int .i64 0, .slice none 0 0]], []⟩).memory Tryz.f4.params.toList Rows.activitySumsSpec.vars false #[.agg #[.int .i64 0, .slice none 0 0]].toList 8 = some ([.agg [.lit (.int .i64 0), .nil]], [], places) :=
  ⟨[], by kernel_rfl⟩
set_option maxRecDepth 100000 in
theorem lifted (os : Os) (started : os.Started) (H : Type) (enc : TypeId × Value → H) (F : Stop.Interp) :
    ReturnsInHanded {} Tryz.checked os 4 .any ((OpenSpec.ofChange Rows.activitySumsSpec).preRow enc Tryz.prog Tryz.f4 Rows.activitySumsRow.domain false Rows.activitySumsRow.laid) (((OpenSpec.ofChange Rows.activitySumsSpec).at F).post enc Tryz.prog Tryz.f4 false true false false) := by
  obtain ⟨places, hx⟩ := reads os enc
  refine returnsInHanded_of_row (C := Tryz.checked) (s := OpenSpec.ofChange Rows.activitySumsSpec) own started (by kernel_rfl) Tryz.func4
    (witness_row_at (enc := enc) (C := Tryz.checked) false (laidWorld31 os) #[.agg #[.int .i64 0, .slice none 0 0]] rfl (by kernel_rfl) (by kernel_rfl) (by kernel_rfl)
      (OpenSpec.preRow_of_cond 8 hx (by kernel_rfl) (fun k hk => by cases hk) (by kernel_rfl) (laid_met os))) ?_
  intro W base args ds gs before hval hW _ _ _ _ _ _
  exact contract H enc W base args ds gs before hval hW
theorem said : Rows.ActivitySumsSaid :=
  OpenClaim.holds_of_cond 4 Tryz.f4 rfl rfl rfl rfl rfl rfl rfl ⟨rfl, rfl, rfl, rfl, rfl⟩ rfl rfl rfl rfl rfl (by kernel_rfl) Tryz.func4 (by kernel_rfl)
    (of_decide_eq_true (by kernel_rfl)) (by unfold Func.isWrapper; first | (rw [if_pos (by decide +kernel)]; kernel_rfl) | (rw [if_neg (by decide +kernel)]; exact ⟨rfl, rfl⟩))
    (fun os started H enc _ F => by rw [OpenClaim.pre_eq_preRow]; exact lifted os started H enc F)
/-- No parameter wants a stand-in; the program's own looks are off: what the card asks. -/
theorem plain (f : FuncId) (fn : Func) (hf : Tryz.pinned.checked.prog.funcNamed "sandpile/sandpilelaw31.ActivitySums" = some f) (hfn : Tryz.pinned.checked.prog.funcs[f]? = some fn) :
    true = Tryz.pinned.checked.prog.looks [] ∧ ∀ (j : Nat) t, fn.params[j]? = some t → Tryz.pinned.checked.prog.wantsStandIn t = false := by
  obtain rfl : f = 4 := Option.some.inj ((show Tryz.prog.funcNamed "sandpile/sandpilelaw31.ActivitySums" = some 4 by kernel_rfl).symm.trans hf) |>.symm
  obtain rfl : fn = Tryz.f4 := (Option.some.inj (Tryz.func4.symm.trans hfn)).symm
  refine ⟨by kernel_rfl, fun j t ht => ?_⟩
  rw [Tryz.params4] at ht
  rcases (by simpa using Array.mem_of_getElem? ht : t = 24) with rfl
  exact (show Tryz.prog.wantsStandIn 24 = false by kernel_rfl)

/-- ActivitySums (P31.3): for every graph Polynomial returns the polynomial, or the error, of the reference, and nothing that came in is turned; no condition but the tables that the card ties. -/
theorem proved : Rows.ActivitySumsCardSaid :=
  Claim7.holds_tied_plain_at .later [] _ _ _ _ said (fun _ h => by cases h) (by kernel_rfl) (fun _ h => by cases h) activitySums_row_tie rfl ⟨rfl, rfl⟩ (by kernel_rfl) rfl plain (by kernel_rfl)
#print axioms proved
end lawActivitySums

end Go.Proofs.YtplgbapbgcipdaaGreatDoor
