/-
  Texts of this claim, put together: ActivityRenamesW.
-/
import Derived.Test.YtnbikkcalcpedaaGreatDoorK34
import Derived.Test.YtnbikkcalcpedaaGreatDoorK32
import Derived.Test.YtnbikkcalcpedaaGreatDoorK41
import Derived.Test.YtnbikkcalcpedaaGreatDoorK25
import Derived.Test.YtnbikkcalcpedaaGreatDoorK39
import Derived.Test.YtnbikkcalcpedaaGreatDoorK35
/-! ActivityRenames: for every graph and every list of ints, other numbers of the vertices do not change the polynomial.   Conditions: none but the tables that the card lists and ties. -/
namespace Go.Proofs.YtnbikkcalcpedaaGreatDoor
open Go.RowKit
theorem IsRow.cap_le {k : IntKind} {w : World} {a : Option Addr} {len cap : Nat} {zs : List Int} (h : IsRow k w a len cap zs) : len ≤ cap := by
  rcases h with ⟨_, rfl, rfl, _⟩ | ⟨_, _, h, _⟩
  · exact Nat.le_refl _
  · exact h
set_option maxRecDepth 100000 in
set_option maxHeartbeats 4000000 in
theorem activityRenames_walk (w : World) (n : Int) (A : Option Addr) (c : Nat) (es : List E3) (_hm : es.length ≤ maxLen) (_hw : (Lit.int .i64 n).wf = true) (h : Reads w w.heap.size 3 A es.length (edgeCells es)) (B : Option Addr) (d : Nat) (xs : List Int) (hxm : xs.length ≤ maxLen ∧ xs.length ≤ d) (_hxw : ∀ x ∈ xs, (Lit.int .i64 x).wf = true) (h' : Reads w w.heap.size 1 B xs.length (ints xs)) :
    Calls Tryz.prog 3 #[.agg #[.int .i64 n, .slice A es.length c], .slice B xs.length d] w fun e w' => e = .returned (.bool true) ∧ Below w.heap.size w w' := by
  have RC := Lib.hid (fun (W : World) (hB : Below w.heap.size w W) => right31_any n A c es W ((h.below hB).more hB.size))
  have AC := Lib.hid awake31_any
  have g := Blk.new w 24 #[.int .i64 n, .slice A es.length c]
  have hB : Below w.heap.size w (w.alloc (.cells #[.int .i64 n, .slice A es.length c] 24)) := (Below.refl _ _).alloc (Nat.le_refl _) _
  have k0 := g.cell 0
  have k1 := g.cell 1
  obtain ⟨N, hN⟩ : ∃ N, xs.length = N := ⟨_, rfl⟩
  obtain ⟨M, hM⟩ : ∃ M, es.length = M := ⟨_, rfl⟩
  by_cases hr : (smallB n es 5 8 && decide (joinErr n es = 0)) = true
  · rw [hr] at RC
    rw [Bool.and_eq_true, decide_eq_true_eq] at hr
    obtain ⟨hf, hj⟩ := hr
    have ren : ∃ z, z = renErr n xs ∧ Hid (∀ (W : World), Below w.heap.size w W → Calls Tryz.prog 12 #[.int .i64 n, .slice B xs.length d] W fun e w' => e = .returned (.int .i64 z) ∧ Below W.heap.size W w') := by
      obtain ⟨_, hG, _⟩ := join_zero hj
      have hhi := hG.hi
      by_cases hl : (xs.length : Int) = n
      · exact ⟨_, rfl, fun W hB => renaming_any n B d xs hxm.2 (by omega) W ((h'.below hB).more hB.size)⟩
      · exact ⟨8, by unfold renErr; rw [if_pos hl], fun W hB => renaming_ne_any n B d xs.length hl W⟩
    obtain ⟨z, hze, NC⟩ := ren
    by_cases hz : renErr n xs = 0
    · rw [hz] at hze
      subst hze
      obtain ⟨h40, _, hsm⟩ := few13_parts (n := n) (es := es) (m := 0) (by unfold few13; rw [hf]; rfl)
      obtain ⟨hck, hG, _⟩ := join_zero hj
      have h5 : n ≤ 5 := (hsm hck).1
      have h8 : (endsL es).length ≤ 8 := by rw [← size_ends]; exact (hsm hck).2
      have hlo := hG.lo
      obtain ⟨m, rfl⟩ := Int.eq_ofNat_of_zero_le (show 0 ≤ n by omega)
      obtain ⟨T, hxT, hL, hTl⟩ := ren_nats hz
      have hxT : xs = nI T := hxT
      have hNm : N = m := by rw [← hN, hxT, nI_length]; exact hTl
      have h'' : Reads w w.heap.size 1 B m (ints (nI T)) := by rw [hN, hNm, hxT] at h'; exact h'
      have RL := Lib.hid (fun (W : World) (hB : Below w.heap.size w W) => relabel_any m (by omega) (by omega) A c es (by omega) hck hG.ok (by omega) T hTl hL.2 hL.1 (ren_dis hG.ok hG.sorted hTl hL.1) B d (by rw [← hNm, ← hN]; exact hxm.2) W ((h.below hB).more hB.size) ((h''.below hB).more hB.size))
      have PC := Lib.hid (fun (W : World) (hB : Below w.heap.size w W) => polynomial_any m A c es (by omega) (fun _ => ⟨h5, h8⟩) W ((h.below hB).more hB.size))
      have hp0 : (polyE m es).2 = 0 := by unfold polyE; rw [if_neg (fun hc => hc hj)]
      obtain ⟨P1, hP1⟩ : ∃ P, (polyE m es).1 = P := ⟨_, rfl⟩
      have hPl : P1.length ≤ 1048576 := by
        rw [← hP1]
        unfold polyE
        rw [if_neg (fun hc => hc hj), Int.toNat_natCast]
        have h70 := few_trees (bd_ends hG) (by omega) (by omega) h8
        have h1 := sumP_len (wtL m (endsL es))
        rw [show (wtL m (endsL es)).length = (treesT m (endsL es)).length by unfold wtL; rw [List.length_map]] at h1
        dsimp only
        omega
      have S1 := Lib.hid (fun (A1 : Option Addr) (c1 : Nat) (A2 : Option Addr) (c2 : Nat) (W : World) (h1 : Reads W W.heap.size 3 A1 P1.length (tmCells P1)) (h2 : Reads W W.heap.size 3 A2 P1.length (tmCells P1)) => psame_any A1 c1 P1 A2 c2 hPl W h1 h2)
      rw [hp0, hP1] at PC
      have QC : Hid (∀ (es' : List E3) (L : List (Nat × Nat)), es'.Pairwise (fun a b => ¬ ltE b a) → L.Nodup → (∀ p, p ∈ L ↔ p ∈ (endsL es).map (gT T)) → (L.map (bagE ((endsL es).map (gT T)))).Perm es' → ∀ (A2 : Option Addr) (c2 : Nat) (W : World), Reads W W.heap.size 3 A2 es'.length (edgeCells es') → Calls Tryz.prog 15 #[.agg #[.int .i64 m, .slice A2 es'.length c2]] W fun e w' => ∃ A' c', e = .returned (.tuple #[.slice A' P1.length c', .int .i64 0]) ∧ OwnT w' W.heap.size A' c' P1 ∧ Below W.heap.size W w') := by
        intro es' L hs hLn hm hp A2 c2 W hW
        have hG' := ren_right hG hTl hL.2 hL.1 hs hLn hm hp
        have hF := bag_perm hLn hm hp
        have hpe := ren_poly hj hTl hL.2 hL.1 hG' hF
        have hlen := hF.length_eq
        rw [List.length_map] at hlen
        have h9 := ends_len_ge hG'.ok
        have := polynomial_any m A2 c2 es' (by omega) (fun _ => ⟨h5, by omega⟩) W hW
        rw [hpe, hp0, hP1] at this
        exact this
      obtain ⟨n1, hn1⟩ : ∃ n1, P1.length = n1 := ⟨_, rfl⟩
      have HN1 := Lib.hid hn1
      rw [hn1] at PC S1 QC
      rw [hN, hNm] at NC
      rw [hM] at RC RL PC ⊢
      rw [hM] at g hB k0 k1
      rw [hN, hNm]
      clear h h' h'' hN hM hNm hxm _hm _hw _hxw hf hj hz h40 hsm hck hG h5 h8 hlo hxT hL hTl hp0 hP1 hPl hn1
      go_enter Tryz.func3, Tryz.ntmps3
      go_wp2_with fail
      refine (RC.out _ (by exact hB)).mono ?_
      rintro e wn ⟨rfl, hb⟩
      have g := g.next hb
      have hB := hB.trans (hb.mono hB.size)
      have k0 := g.cell 0
      have k1 := g.cell 1
      clear hb
      go_wp2_with fail
      refine (NC.out _ hB).mono ?_
      rintro e wn ⟨rfl, hb⟩
      have g := g.next hb
      have hB := hB.trans (hb.mono hB.size)
      have k0 := g.cell 0
      have k1 := g.cell 1
      clear hb
      go_wp2_with fail
      refine (RL.out _ hB).mono ?_
      rintro e wn ⟨A3, c3, es', rfl, o3, hs3, hL3, hb⟩
      have g := g.next hb
      have hB := hB.trans (hb.mono hB.size)
      have k0 := g.cell 0
      have k1 := g.cell 1
      clear hb
      obtain ⟨L, hL1, hL2, hL3⟩ := hL3
      have QK := Lib.hid (QC.out es' L hs3 hL1 hL2 hL3)
      have r3 := o3.reads
      obtain ⟨m3, hm3⟩ : ∃ n, es'.length = n := ⟨_, rfl⟩
      rw [hm3] at r3 QK ⊢
      clear hs3 hL1 hL2 hL3 hm3 o3
      have g := g.alloc (.cells #[.int .i64 m, .slice A3 m3 c3] 24)
      have g3 := Blk.new wn 24 #[.int .i64 m, .slice A3 m3 c3]
      have r3 : Reads (wn.alloc (.cells #[.int .i64 m, .slice A3 m3 c3] 24)) (wn.alloc (.cells #[.int .i64 m, .slice A3 m3 c3] 24)).heap.size 3 A3 m3 (edgeCells es') := (r3.alloc (Nat.le_refl _) (.cells #[.int .i64 m, .slice A3 m3 c3] 24)).more (by simp)
      have hB := hB.alloc hB.size (.cells #[.int .i64 m, .slice A3 m3 c3] 24)
      have k0 := g.cell 0
      have k1 := g.cell 1
      go_wp2_with fail
      refine (PC.out _ hB).mono ?_
      rintro e wn ⟨A1, c1, rfl, o1, hb⟩
      have g3 := g3.next hb
      have r3 := r3.next hb
      have hB := hB.trans (hb.mono hB.size)
      have r1 := o1.reads
      rw [HN1.out] at r1
      have j0 := g3.cell 0
      have j1 := g3.cell 1
      clear hb k0 k1 g
      go_wp2_with fail
      refine (QK.out _ _ _ r3).mono ?_
      rintro e wn ⟨A2, c2, rfl, o2, hb⟩
      have r1 := r1.next hb
      have hB := hB.trans (hb.mono hB.size)
      have r2 := o2.reads
      rw [HN1.out] at r2
      clear hb
      go_wp2_with fail
      refine (S1.out _ _ _ _ _ r1 r2).mono ?_
      rintro e ws ⟨rfl, hb⟩
      have hB := hB.trans (hb.mono hB.size)
      clear hb
      go_wp2_with fail
      refine (AC.out _).mono ?_
      rintro e wm ⟨rfl, hb⟩
      have hB := hB.trans (hb.mono hB.size)
      go_wp2
      go_ret
      exact ⟨rfl, hB⟩
    · rw [← hze] at hz
      have hzb : (z == 0) = false := by simpa using hz
      rw [hN] at NC ⊢
      rw [hM] at RC ⊢
      rw [hM] at g hB k0 k1
      clear h h' hN hM hxm _hm _hw _hxw hf hj hz hze
      go_enter Tryz.func3, Tryz.ntmps3
      go_wp2_with fail
      refine (RC.out _ (by exact hB)).mono ?_
      rintro e wn ⟨rfl, hb⟩
      have g := g.next hb
      have hB := hB.trans (hb.mono hB.size)
      have k0 := g.cell 0
      have k1 := g.cell 1
      clear hb
      go_wp2_with fail
      refine (NC.out _ hB).mono ?_
      rintro e wn ⟨rfl, hb⟩
      have hB := hB.trans (hb.mono hB.size)
      clear hb
      go_wp2_with fail
      refine (AC.out _).mono ?_
      rintro e wm ⟨rfl, hb⟩
      have hB := hB.trans (hb.mono hB.size)
      go_wp2
      go_ret
      exact ⟨rfl, hB⟩
  · have hr : (smallB n es 5 8 && decide (joinErr n es = 0)) = false := by simpa using hr
    rw [hr] at RC
    rw [hN]
    rw [hM] at RC ⊢
    rw [hM] at g hB k0 k1
    clear h h' hN hM hxm _hm _hw _hxw hr
    go_enter Tryz.func3, Tryz.ntmps3
    go_wp2_with fail
    refine (RC.out _ (by exact hB)).mono ?_
    rintro e wn ⟨rfl, hb⟩
    have hB := hB.trans (hb.mono hB.size)
    clear hb
    go_wp2_with fail
    refine (AC.out _).mono ?_
    rintro e wm ⟨rfl, hb⟩
    have hB := hB.trans (hb.mono hB.size)
    go_wp2
    go_ret
    exact ⟨rfl, hB⟩
namespace lawActivityRenames
open Go.ChangeShapes Go.WideShapes Go.ChangeAt Go.RowKit
set_option linter.unusedVariables false
set_option maxRecDepth 100000 in
/-- What the walk gives, for every argument and every world. -/
theorem contract (H : Type) (enc : TypeId × Value → H) (W : World) (base : Nat) (args : Array Value) (ds gs : List (DataW H)) (before : List MemPlace)
    (hval0 : ∀ (j : Nat) t v, Tryz.f3.params[j]? = some t → args[j]? = some v → Value.okWide Tryz.prog W .any base t v)
    (hW : DataW.Whole enc Tryz.prog Tryz.f3.params.toList Rows.activityRenamesSpec.vars false W args.toList ds gs before) :
    Calls Tryz.prog 3 args W fun e W' => ∃ v, e = .returned v ∧ Rows.activityRenamesSpec.post enc Tryz.prog Tryz.f3 false true false false W args v W' := by
  have hval : ∀ (j : Nat) t v, Tryz.f3.params[j]? = some t → args[j]? = some v → Value.okWide Tryz.prog W .any base t v := hval0
  have hW' := hW
  obtain ⟨p, q, hA0, hV, rfl, hfz, hnd⟩ := hW
  have hA : DataW.TrodAll enc Tryz.prog W 0 (fun _ => true) true Tryz.f3.params.toList args.toList ds p := hA0
  rw [Tryz.params3] at hA hval
  obtain ⟨v0, vs0, d0, ds0, p0, q0, hargs, rfl, rfl, h0, r0⟩ := trodAll_cons hA
  obtain ⟨v1, vs1, d1, ds1, p1, q1, rfl, rfl, rfl, h1, r1⟩ := trodAll_cons r0
  obtain ⟨rfl, rfl, rfl⟩ := trodAll_nil r1
  obtain rfl : args = #[v0, v1] := by cases args; simp_all
  obtain ⟨rfl, rfl⟩ := trodVars_none hV
  obtain ⟨cs0, rfl, _⟩ := okWide_struct Tryz.underlying24 (hval 0 24 v0 rfl rfl)
  have k0 := h0
  have lt0 : ∀ x ∈ p0, x.block < W.heap.size := by obtain ⟨m, hm⟩ := k0; exact DataW.trod_lt m _ _ _ hm
  obtain ⟨_, hf0⟩ := h0
  obtain ⟨n0, a0, cap0, xs0, hcs0, hm0, hr0, hw0⟩ := open_graph hf0
  obtain rfl : cs0 = #[.int .i64 n0, .slice a0 xs0.length cap0] := Array.toList_inj.1 hcs0
  obtain ⟨a1, len1, cap1, rfl⟩ := okWide_slice Tryz.underlying25 (hval 1 25 v1 rfl rfl)
  have k1 := h1
  have lt1 : ∀ x ∈ p1, x.block < W.heap.size := by obtain ⟨m, hm⟩ := k1; exact DataW.trod_lt m _ _ _ hm
  obtain ⟨z1, w1⟩ : ∃ zs, IsRow .i64 W a1 len1 cap1 zs := by
    obtain ⟨fuel, hf⟩ := h1
    rcases open_ints Tryz.underlying25 Tryz.underlying3 (by kernel_rfl) hf with ⟨hcs, _⟩ | ⟨x, l, c, zs, hcs, _, hl, hm, hz, _, hcell, hwz⟩
    · simp [Value.cells] at hcs
      obtain ⟨rfl, rfl, rfl⟩ := hcs
      exact ⟨[], .inl ⟨rfl, rfl, rfl, rfl⟩⟩
    · simp [Value.cells] at hcs
      obtain ⟨rfl, rfl, rfl⟩ := hcs
      exact ⟨zs, .inr ⟨_, rfl, hl, hm, by simpa using hz, hcell, hwz⟩⟩
  obtain ⟨xs1, rfl, hm1, hr1, hw1⟩ := w1.reads
  have hc1 := w1.cap_le
  clear hA0 hval0
  refine (activityRenames_walk W n0 a0 cap0 xs0 hm0 hw0 hr0 a1 cap1 xs1 ⟨hm1, hc1⟩ hw1 hr1).mono fun e W' ⟨he, bel⟩ => ?_
  subst he
  exact ⟨_, rfl, _, _, _, [], _, [], hW', trodAll_mk1 (shut_bool Tryz.underlying4 _), (trodAll_cons_mk (Below.trod laidOut (by kernel_rfl) (of_decide_eq_true (by kernel_rfl)) k0 bel lt0) (trodAll_cons_mk (Below.trod laidOut (by kernel_rfl) (of_decide_eq_true (by kernel_rfl)) k1 bel lt1) trodAll_mk0)), rfl, bel.frame _, fun h => by cases h⟩
end lawActivityRenames
end Go.Proofs.YtnbikkcalcpedaaGreatDoor

