/-
 Texts of this claim, put together: LevelsTreesW.
-/
import Derived.Test.YtnbikkcalcpedaaGreatDoorK40
import Derived.Test.YtnbikkcalcpedaaGreatDoorK19
import Derived.Test.YtnbikkcalcpedaaGreatDoorK47
import Derived.Test.YtnbikkcalcpedaaGreatDoorK38
set_option maxRecDepth 100000
set_option maxHeartbeats 4000000
namespace Go.Proofs.YtnbikkcalcpedaaGreatDoor
open Go.RowKit
theorem levelsTrees_walk (w : World) (n : Int) (A : Option Addr) (c : Nat) (es : List E3) (_hm : es.length ≤ maxLen) (_hw : (Lit.int .i64 n).wf = true) (h : Reads w w.heap.size 3 A es.length (edgeCells es))
  (q : Int) (_hq : (Lit.int .i64 q).wf = true)
  (B : Option Addr) (d : Nat) (cs : List Int) (_hm' : cs.length ≤ maxLen) (_hw' : ∀ x ∈ cs, (Lit.int .i64 x).wf = true) (h' : Reads w w.heap.size 1 B cs.length (ints cs)) (ht : Tab10 w) :
  Calls Tryz.prog 6 #[.agg #[.int .i64 n, .slice A es.length c], .int .i64 q, .slice B cs.length d] w fun e w' => e = .returned (.bool true) ∧ Below w.heap.size w w' := by
 have FC := Lib.hid (fun (W : World) (hB : Below w.heap.size w W) => few13_any n A c es B cs.length d W ((h.below hB).more hB.size))
 have AC := Lib.hid (fun (W : World) (hB : Below w.heap.size w W) => awake33_any W (ht.below hB))
 obtain ⟨M, hM⟩ : ∃ M, es.length = M := ⟨_, rfl⟩
 obtain ⟨N, hN⟩ : ∃ N, cs.length = N := ⟨_, rfl⟩
 have g := Blk.new w 24 #[.int .i64 n, .slice A M c]
 have hB : Below w.heap.size w (w.alloc (.cells #[.int .i64 n, .slice A M c] 24)) := (Below.refl _ _).alloc (Nat.le_refl _) _
 have k0 := g.cell 0
 have k1 := g.cell 1
 cases hf : few13 n es cs.length
 ·rw [hf] at FC
  rw [hM, hN] at FC ⊢
  clear h h' hM hN _hm' _hm _hw _hq _hw' hf ht
  go_enter Tryz.func6, Tryz.ntmps6
  go_wp2_with fail
  refine (FC.out _ hB).mono ?_
  rintro e wn ⟨rfl, hb⟩
  have hB := hB.trans (hb.mono hB.size)
  clear hb
  go_wp2_with fail
  refine (AC.out _ hB).mono ?_
  rintro e wm ⟨rfl, hb⟩
  have hB := hB.trans (hb.mono hB.size)
  go_wp2
  go_ret
  exact ⟨rfl, hB⟩
 ·rw [hf] at FC
  obtain ⟨h40, hl30, hsm⟩ := few13_parts hf
  have hsm60 : checkG n es = 0 → (endsL es).length ≤ 60 := fun hc => by have := (hsm hc).2; rw [← size_ends]; omega
  have LC := Lib.hid (fun (W : World) (hB : Below w.heap.size w W) => ltree_any n A c es (by omega) hsm60 q B d cs (by omega) W ((h.below hB).more hB.size) ((h'.below hB).more hB.size))
  have RC := Lib.hid (fun (W : World) (hB : Below w.heap.size w W) => rtree33_any n A c es h40 hsm60 q B d cs (by omega) W ((h.below hB).more hB.size) ((h'.below hB).more hB.size))
  obtain ⟨x, hx⟩ : ∃ x, (lvtE n es q cs).1 = x := ⟨_, rfl⟩
  obtain ⟨y, hy⟩ : ∃ y, (lvtE n es q cs).2 = y := ⟨_, rfl⟩
  rw [hx, hy] at LC RC
  rw [hM, hN] at FC LC RC ⊢
  clear h h' hM hN _hm' _hm _hw _hq _hw' hf ht h40 hl30 hsm hsm60 hx hy
  go_enter Tryz.func6, Tryz.ntmps6
  go_wp2_with fail
  refine (FC.out _ hB).mono ?_
  rintro e wn ⟨rfl, hb⟩
  have g := g.next hb
  have hB := hB.trans (hb.mono hB.size)
  have k0 := g.cell 0
  have k1 := g.cell 1
  clear hb
  go_wp2_with fail
  refine (LC.out _ hB).mono ?_
  rintro e wn ⟨rfl, hb⟩
  have g := g.next hb
  have hB := hB.trans (hb.mono hB.size)
  have k0 := g.cell 0
  have k1 := g.cell 1
  clear hb
  go_wp2_with fail
  refine (RC.out _ hB).mono ?_
  rintro e wn ⟨rfl, hb⟩
  have hB := hB.trans (hb.mono hB.size)
  clear hb k0 k1 g
  go_wp2_with fail
  refine (AC.out _ hB).mono ?_
  rintro e wm ⟨rfl, hb⟩
  have hB := hB.trans (hb.mono hB.size)
  go_wp2
  go_ret
  exact ⟨rfl, hB⟩
namespace lawLevelsTrees
open Go.ChangeShapes Go.WideShapes Go.ChangeAt Go.RowKit
set_option linter.unusedVariables false
theorem contract (H : Type) (enc : TypeId × Value → H) (W : World) (base : Nat) (args : Array Value) (ds gs : List (DataW H)) (before : List MemPlace)
  (hval0 : ∀ (j : Nat) t v, Tryz.f6.params[j]? = some t → args[j]? = some v → Value.okWide Tryz.prog W .any base t v)
  (hW : DataW.Whole enc Tryz.prog Tryz.f6.params.toList Rows.levelsTreesSpec.vars false W args.toList ds gs before) (hL : laidMetH Tryz.prog Rows.levelsTreesRow.laid W) :
  Calls Tryz.prog 6 args W fun e W' => ∃ v, e = .returned v ∧ Rows.levelsTreesSpec.post enc Tryz.prog Tryz.f6 false true false false W args v W' := by
 have hL2 : laidMet Tryz.prog [("internal/strconv.uint64pow10", Lib.tabData .u64 Lib.pow10Tab)] W := by
  have h := laidMet.filter (fun x => x.1 == "internal/strconv.uint64pow10") (laidMetH_iff.1 hL).1
  rw [show ((Rows.levelsTreesRow.laid.filter fun x => x.2.handleName?.isNone).filter fun x => x.1 == "internal/strconv.uint64pow10") = [("internal/strconv.uint64pow10", Lib.tabData .u64 Lib.pow10Tab)] by kernel_rfl] at h
  exact h
 have htab : Lib.TabIs Tryz.prog W "internal/strconv.uint64pow10" .u64 Lib.pow10Tab := Lib.tabIs_of_head (g := 0) (by kernel_rfl) (by kernel_rfl) Tryz.underlying331 Tryz.underlying211 (by kernel_rfl) (by kernel_rfl) hL2
 have hval : ∀ (j : Nat) t v, Tryz.f6.params[j]? = some t → args[j]? = some v → Value.okWide Tryz.prog W .any base t v := hval0
 have hW' := hW
 obtain ⟨p, q, hA0, hV, rfl, hfz, hnd⟩ := hW
 have hA : DataW.TrodAll enc Tryz.prog W 0 (fun _ => true) true Tryz.f6.params.toList args.toList ds p := hA0
 rw [Tryz.params6] at hA hval
 obtain ⟨v0, vs0, d0, ds0, p0, q0, hargs, rfl, rfl, h0, r0⟩ := trodAll_cons hA
 obtain ⟨v1, vs1, d1, ds1, p1, q1, rfl, rfl, rfl, h1, r1⟩ := trodAll_cons r0
 obtain ⟨v2, vs2, d2, ds2, p2, q2, rfl, rfl, rfl, h2, r2⟩ := trodAll_cons r1
 obtain ⟨rfl, rfl, rfl⟩ := trodAll_nil r2
 obtain rfl : args = #[v0, v1, v2] := by cases args; simp_all
 obtain ⟨rfl, rfl⟩ := trodVars_none hV
 obtain ⟨cs0, rfl, _⟩ := okWide_struct Tryz.underlying24 (hval 0 24 v0 rfl rfl)
 have k0 := h0
 have lt0 : ∀ x ∈ p0, x.block < W.heap.size := by obtain ⟨m, hm⟩ := k0; exact DataW.trod_lt m _ _ _ hm
 obtain ⟨_, hf0⟩ := h0
 obtain ⟨n0, a0, cap0, xs0, hcs0, hm0, hr0, hw0⟩ := open_graph hf0
 obtain rfl : cs0 = #[.int .i64 n0, .slice a0 xs0.length cap0] := Array.toList_inj.1 hcs0
 obtain ⟨a1, rfl, rfl, rfl, w1⟩ := open_int Tryz.underlying3 (hval 1 3 v1 rfl rfl) h1
 obtain ⟨a2, len2, cap2, rfl⟩ := okWide_slice Tryz.underlying25 (hval 2 25 v2 rfl rfl)
 have k2 := h2
 have lt2 : ∀ x ∈ p2, x.block < W.heap.size := by obtain ⟨m, hm⟩ := k2; exact DataW.trod_lt m _ _ _ hm
 obtain ⟨z2, w2⟩ : ∃ zs, IsRow .i64 W a2 len2 cap2 zs := by
  obtain ⟨fuel, hf⟩ := h2
  rcases open_ints Tryz.underlying25 Tryz.underlying3 (by kernel_rfl) hf with ⟨hcs, _⟩ | ⟨x, l, c, zs, hcs, _, hl, hm, hz, _, hcell, hwz⟩
  ·simp [Value.cells] at hcs
   obtain ⟨rfl, rfl, rfl⟩ := hcs
   exact ⟨[], .inl ⟨rfl, rfl, rfl, rfl⟩⟩
  ·simp [Value.cells] at hcs
   obtain ⟨rfl, rfl, rfl⟩ := hcs
   exact ⟨zs, .inr ⟨_, rfl, hl, hm, by simpa using hz, hcell, hwz⟩⟩
 obtain ⟨xs2, rfl, hm2, hr2, hw2⟩ := w2.reads
 clear hA0 hval0
 refine (levelsTrees_walk W n0 a0 cap0 xs0 hm0 hw0 hr0 a1 w1 a2 cap2 xs2 hm2 hw2 hr2 htab).mono fun e W' ⟨he, bel⟩ => ?_
 subst he
 exact ⟨_, rfl, _, _, _, [], _, [], hW', trodAll_mk1 (shut_bool Tryz.underlying4 _), (trodAll_cons_mk (Below.trod laidOut (by kernel_rfl) (of_decide_eq_true (by kernel_rfl)) k0 bel lt0) (trodAll_cons_mk (shut_int Tryz.underlying3 w1) (trodAll_cons_mk (Below.trod laidOut (by kernel_rfl) (of_decide_eq_true (by kernel_rfl)) k2 bel lt2) trodAll_mk0))), rfl, bel.frame _, fun h => by cases h⟩
end lawLevelsTrees
end Go.Proofs.YtnbikkcalcpedaaGreatDoor
