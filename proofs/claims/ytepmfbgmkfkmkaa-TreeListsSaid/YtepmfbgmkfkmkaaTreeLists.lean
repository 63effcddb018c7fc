/-
  For every graph the law TreeLists answers true: tree.All, Count and First return the trees, found among all sets, or the errors of the reference. There are no conditions.
-/
import Derived.Test.YtepmfbgmkfkmkaaK22
import Derived.Test.YtepmfbgmkfkmkaaK23
import Derived.Test.YtepmfbgmkfkmkaaK27
import Derived.Test.YtepmfbgmkfkmkaaK31
import Derived.Test.YtepmfbgmkfkmkaaK21
namespace Go.Proofs.Ytepmfbgmkfkmkaa
open Go.RowKit

/-- A connected graph has a spanning tree. -/
theorem tree_ex {n : Nat} {E : List (Nat × Nat)} (hb : BdP n E) (hc : partsP n E = 1) : ∃ t, IsTr n E t := by
  have key : ∀ k, k ≤ E.length → ∃ t : List Nat, t.Pairwise (· < ·) ∧ (∀ e ∈ t, e < k) ∧ Fo (pk E t) ∧ ∀ a b, Cn (pk E t) a b ↔ Cn (E.take k) a b := by
    intro k
    induction k with
    | zero => exact fun _ => ⟨[], .nil, by simp, trivial, fun a b => Iff.rfl⟩
    | succ k ih =>
      intro hk
      obtain ⟨t, h1, h2, h3, h4⟩ := ih (by omega)
      have hE := getD_some (E := E) (e := k) (by omega)
      have htk : E.take (k + 1) = E.take k ++ [E.getD k (0, 0)] := by rw [List.take_add_one, hE]; rfl
      have hsn : ∀ (ps : List (Nat × Nat)) (p : Nat × Nat) (a b : Nat), Cn (ps ++ [p]) a b ↔ Cn (p :: ps) a b := fun ps p a b => cn_same fun q => by simp [or_comm]
      by_cases hc : Cn (pk E t) (E.getD k (0, 0)).1 (E.getD k (0, 0)).2
      · refine ⟨t, h1, fun e he => by have := h2 e he; omega, h3, fun a b => ?_⟩
        rw [htk, hsn, cn_cons_of ((h4 _ _).1 hc), h4]
      · have hpk : pk E (t ++ [k]) = pk E t ++ [E.getD k (0, 0)] := by simp [pk]
        refine ⟨t ++ [k], ?_, ?_, ?_, fun a b => ?_⟩
        · rw [List.pairwise_append]
          exact ⟨h1, List.pairwise_singleton _ _, fun a ha b hb => by rw [List.mem_singleton] at hb; subst hb; exact h2 a ha⟩
        · intro e he
          rcases List.mem_append.1 he with he | he
          · have := h2 e he; omega
          · rw [List.mem_singleton] at he; omega
        · rw [hpk]
          refine (fo_append_snoc (n := n) ?_).2 ⟨h3, hc⟩
          rw [← hpk]
          exact bd_pk hb fun e he => by
            rcases List.mem_append.1 he with he | he
            · have := h2 e he; omega
            · rw [List.mem_singleton] at he; omega
        · rw [hpk, htk, hsn, hsn, cn_cons, cn_cons, h4, h4, h4, h4, h4]
  obtain ⟨t, h1, h2, h3, h4⟩ := key E.length (Nat.le_refl _)
  rw [List.take_length] at h4
  have hp : partsP n (pk E t) = 1 := by rw [partsP_congr h4]; exact hc
  have hl := (tree_of_fo (bd_pk hb h2) h3).1 hp
  rw [pk_length] at hl
  exact ⟨t, ⟨h1, h2⟩, hl, h3⟩
theorem RowsR.nextR {w w' : World} {A : Option Addr} {xss : List (List Int)} (h : RowsR w w.heap.size A xss) (hb : Below w.heap.size w w') : RowsR w' w'.heap.size A xss := by
  obtain ⟨vs, h1, h2⟩ := h
  refine ⟨vs, h1.next hb, fun i xs hi => ?_⟩
  obtain ⟨A', c', e, hr⟩ := h2 i xs hi
  exact ⟨A', c', e, hr.next hb⟩

set_option maxRecDepth 100000 in
set_option maxHeartbeats 8000000 in
theorem treeLists_walk (w : World) (n : Int) (A : Option Addr) (c : Nat) (es : List E3) (_hm : es.length ≤ maxLen) (_hw : (Lit.int .i64 n).wf = true) (h : Reads w w.heap.size 3 A es.length (edgeCells es)) :
    Calls Try.prog 10 #[.agg #[.int .i64 n, .slice A es.length c]] w fun e w' => e = .returned (.bool true) ∧ Below w.heap.size w w' := by
  have FC := Lib.hid (fun w h => rfewtrees_any n A c es w h)
  have AW := Lib.hid (fun w => awake13_any w)
  have g := Blk.new w 24 #[.int .i64 n, .slice A es.length c]
  have hB := (Below.refl w.heap.size w).alloc (Nat.le_refl _) (.cells #[.int .i64 n, .slice A es.length c] 24)
  have k0 := g.cell 0
  have k1 := g.cell 1
  by_cases hf : smallB n es 5 8 = true
  · have hf13 : few13 n es 0 = true := by unfold few13; rw [hf]; rfl
    obtain ⟨hlen, _, hsm⟩ := few13_parts hf13
    rw [hf] at FC
    clear hf hf13
    have JC := Lib.hid (fun w h => rjoinedErr_any n A c es (by omega) w h)
    by_cases hj : joinErr n es = 0
    · obtain ⟨hz, hG, hcon⟩ := join_zero hj
      obtain ⟨m, rfl⟩ := Int.eq_ofNat_of_zero_le (show 0 ≤ n by have := hG.lo; omega)
      rw [hj] at JC
      have hsz : (endsL es).length ≤ 8 := by rw [← size_ends]; exact (hsm hz).2
      have hm1 : 0 < m := by have := hG.lo; omega
      have hbe := bd_ends hG
      rw [Int.toNat_natCast, connB_parts hG, decide_eq_true_eq] at hcon
      obtain ⟨t0, ht0⟩ := tree_ex hbe hcon
      have hmem := ((treesT_spec hbe hm1).1 t0).2 ht0
      have hTl : (treesT m (endsL es)).length ≤ 256 := Nat.le_trans (treesT_length hbe hm1) (Nat.pow_le_pow_right (by omega) hsz)
      have hxl : ∀ x ∈ treesT m (endsL es), x.length ≤ 12 := fun x hx => by
        have := (((treesT_spec hbe hm1).1 x).1 hx).len; have := hG.hi; omega
      have hE1 : tallE m es = ((treesT m (endsL es)).map nI, 0) := by unfold tallE; rw [if_neg (fun hc => hc hj), Int.toNat_natCast]
      have CC := Lib.hid (fun w h => tcount_any m A c es (by omega) (by rw [hE1]; simp only [List.length_map]; omega) w h)
      rw [hE1] at CC
      dsimp only at CC
      rw [List.length_map] at CC
      obtain ⟨T, hT⟩ : ∃ T, treesT m (endsL es) = T := ⟨_, rfl⟩
      have LC : Hid (∀ (w : World) (h : Reads w w.heap.size 3 A es.length (edgeCells es)), Calls Try.prog 38 #[.agg #[.int .i64 m, .slice A es.length c]] w fun e w' => ∃ Ar cr, e = .returned (.tuple #[.slice Ar T.length cr, .int .i64 0]) ∧ RowsR w' w'.heap.size Ar (T.map nI) ∧ Below w.heap.size w w') := by
        intro w h
        refine (tall_ok m A c es (by omega) hj T hT (by rw [← hT]; omega) w h).mono ?_
        rintro e w' ⟨Ar, cr, vs, rfl, o, hb⟩
        exact ⟨Ar, cr, rfl, o.reads, hb⟩
      have RC : Hid (∀ (w : World) (h : Reads w w.heap.size 3 A es.length (edgeCells es)), Calls Try.prog 42 #[.agg #[.int .i64 m, .slice A es.length c]] w fun e w' => ∃ A' c', e = .returned (.slice A' T.length c') ∧ RowsR w' w'.heap.size A' (T.map nI) ∧ Below w.heap.size w w') := by
        intro w h
        have := rall13_any m A c es hlen hG hsz w h
        rw [hT] at this
        exact this
      rw [hT] at hmem hTl hxl CC
      rcases T with _ | ⟨x0, xr⟩
      · cases hmem
      · have XC : Hid (∀ (w : World) (h : Reads w w.heap.size 3 A es.length (edgeCells es)), Calls Try.prog 40 #[.agg #[.int .i64 m, .slice A es.length c]] w fun e w' => ∃ A' c', e = .returned (.tuple #[.slice A' x0.length c', .int .i64 0]) ∧ Reads w' w'.heap.size 1 A' x0.length (ints (nI x0)) ∧ Below w.heap.size w w') := by
          intro w h
          refine (tfirst_ok m A c es (by omega) hj x0 xr hT w h).mono ?_
          rintro e w' ⟨A', c', rfl, o, hb⟩
          have o := o.reads
          rw [nI_length] at o
          exact ⟨A', c', rfl, o, hb⟩
        have SL : Hid (∀ (A : Option Addr) (c : Nat) (B : Option Addr) (d : Nat) (w : World) (_ : RowsR w w.heap.size A ((x0 :: xr).map nI)) (_ : RowsR w w.heap.size B ((x0 :: xr).map nI)), Calls Try.prog 43 #[.slice A (x0 :: xr).length c, .slice B (x0 :: xr).length d] w fun e w' => e = .returned (.bool true) ∧ Below w.heap.size w w') := by
          intro A c B d w h h'
          have := samelists_any A c ((x0 :: xr).map nI) B d ((x0 :: xr).map nI) (fun xs hx => by obtain ⟨y, hy, rfl⟩ := List.mem_map.1 hx; rw [nI_length]; have := hxl y hy; omega) (by rw [List.length_map]; omega) w h h'
          rw [List.length_map, decide_eq_true rfl] at this
          exact this
        have EQ : Hid (∀ (A : Option Addr) (c : Nat) (B : Option Addr) (d : Nat) (w : World) (_ : Reads w w.heap.size 1 A x0.length (ints (nI x0))) (_ : Reads w w.heap.size 1 B x0.length (ints (nI x0))), Calls Try.prog 19 #[.slice A x0.length c, .slice B x0.length d] w fun e w' => e = .returned (.bool true) ∧ Below w.heap.size w w') := by
          intro A c B d w h h'
          have := iequal_any A c (nI x0) B d (nI x0) (by rw [nI_length]; have := hxl x0 (by simp); omega) w (by rw [nI_length]; exact h) (by rw [nI_length]; exact h')
          rw [nI_length, decide_eq_true rfl] at this
          exact this
        have R0 : Hid (∀ (W : World) (A' : Option Addr), RowsR W W.heap.size A' ((x0 :: xr).map nI) → ∃ b off A0 c0, A' = some ⟨b, off, none⟩ ∧ W.cell? ⟨b, off, none⟩ = some (.slice A0 x0.length c0) ∧ Reads W W.heap.size 1 A0 x0.length (ints (nI x0)) ∧ b < W.heap.size) := by
          rintro W A' ⟨vs, h1, h2⟩
          obtain ⟨A0, c0, e0, r0⟩ := h2 0 (nI x0) rfl
          rw [nI_length] at e0 r0
          obtain ⟨b, off, e, hb, hc⟩ := h1.at_ e0
          exact ⟨b, off, A0, c0, e, hc, r0, hb⟩
        obtain ⟨N, hN⟩ : ∃ N, (x0 :: xr).length = N := ⟨_, rfl⟩
        have hN0 : (0 : Int) < (N : Int) := by have := List.length_pos_of_mem hmem; omega
        have hN1 : 0 < N := by rw [← hN]; simp
        rw [hN] at LC RC SL CC
        clear hmem hTl hxl hN hT ht0 hj hz hG hcon hsz hm1 hbe hE1 hsm hlen
        go_enter Try.func10, Try.ntmps10
        go_wp2_with fail
        refine (FC.out _ ((h.below hB).more hB.size)).mono ?_
        rintro e wn ⟨rfl, hb⟩
        have g := g.next hb
        have hB := hB.trans (hb.mono hB.size)
        have k0 := g.cell 0
        have k1 := g.cell 1
        clear hb
        go_wp2_with fail
        refine (LC.out _ ((h.below hB).more hB.size)).mono ?_
        rintro e wn ⟨A1, c1, rfl, r1, hb⟩
        have g := g.next hb
        have hB := hB.trans (hb.mono hB.size)
        have k0 := g.cell 0
        have k1 := g.cell 1
        clear hb
        go_wp2_with fail
        refine (CC.out _ ((h.below hB).more hB.size)).mono ?_
        rintro e wn ⟨rfl, hb⟩
        have r1 := RowsR.nextR r1 hb
        have g := g.next hb
        have hB := hB.trans (hb.mono hB.size)
        have k0 := g.cell 0
        have k1 := g.cell 1
        clear hb
        go_wp2_with fail
        refine (XC.out _ ((h.below hB).more hB.size)).mono ?_
        rintro e wn ⟨A2, c2, rfl, o2, hb⟩
        have r1 := RowsR.nextR r1 hb
        have g := g.next hb
        have hB := hB.trans (hb.mono hB.size)
        have k0 := g.cell 0
        have k1 := g.cell 1
        clear hb
        go_wp2_with fail
        refine (JC.out _ ((h.below hB).more hB.size)).mono ?_
        rintro e wn ⟨rfl, hb⟩
        have o2 := o2.next hb
        have r1 := RowsR.nextR r1 hb
        have g := g.next hb
        have hB := hB.trans (hb.mono hB.size)
        have k0 := g.cell 0
        have k1 := g.cell 1
        clear hb
        go_wp2_with fail
        refine (RC.out _ ((h.below hB).more hB.size)).mono ?_
        rintro e wn ⟨A3, c3, rfl, r3, hb⟩
        have o2 := o2.next hb
        have r1 := RowsR.nextR r1 hb
        have g := g.next hb
        have hB := hB.trans (hb.mono hB.size)
        have k0 := g.cell 0
        have k1 := g.cell 1
        clear hb
        go_wp2_with fail
        refine (AW.out _).mono ?_
        rintro e wn ⟨rfl, hb⟩
        have o2 := o2.next hb
        have r1 := RowsR.nextR r1 hb
        have r3 := RowsR.nextR r3 hb
        have g := g.next hb
        have hB := hB.trans (hb.mono hB.size)
        have k0 := g.cell 0
        have k1 := g.cell 1
        clear hb
        go_wp2_with fail
        refine (SL.out _ _ _ _ _ r1 r3).mono ?_
        rintro e wn ⟨rfl, hb⟩
        have o2 := o2.next hb
        have r3 := RowsR.nextR r3 hb
        have g := g.next hb
        have hB := hB.trans (hb.mono hB.size)
        have k0 := g.cell 0
        have k1 := g.cell 1
        clear hb
        obtain ⟨b3, f3, A0, c0, e3, q3, o0, hb3⟩ := R0.out _ _ r3
        subst e3
        clear R0
        go_wp2_with fail
        refine (EQ.out _ _ _ _ _ o2 o0).mono ?_
        rintro e wn ⟨rfl, hb⟩
        have g := g.next hb
        have hB := hB.trans (hb.mono hB.size)
        have k0 := g.cell 0
        have k1 := g.cell 1
        clear hb
        go_wp2
        go_ret
        exact ⟨rfl, hB⟩
    · obtain ⟨z, hzz⟩ : ∃ z, joinErr n es = z := ⟨_, rfl⟩
      have hE1 : tallE n es = ([], joinErr n es) := by unfold tallE; rw [if_pos hj]
      have LC := Lib.hid (fun w h => tall_err n A c es (by omega) w h hj)
      have CC := Lib.hid (fun w h => tcount_any n A c es (by omega) (by rw [hE1]; simp) w h)
      have XC := Lib.hid (fun w h => tfirst_err n A c es (by omega) w h hj)
      rw [hE1] at LC CC
      dsimp only at LC CC
      rw [hzz] at LC CC XC JC hj
      have hz2 : (z != 0) = true := by simpa using hj
      clear hzz hj hE1 hsm hlen
      go_enter Try.func10, Try.ntmps10
      go_wp2_with fail
      refine (FC.out _ ((h.below hB).more hB.size)).mono ?_
      rintro e wn ⟨rfl, hb⟩
      have g := g.next hb
      have hB := hB.trans (hb.mono hB.size)
      have k0 := g.cell 0
      have k1 := g.cell 1
      clear hb
      go_wp2_with fail
      refine (LC.out _ ((h.below hB).more hB.size)).mono ?_
      rintro e wn ⟨A1, c1, v1, rfl, r1, hb⟩
      have g := g.next hb
      have hB := hB.trans (hb.mono hB.size)
      have k0 := g.cell 0
      have k1 := g.cell 1
      clear hb
      go_wp2_with fail
      refine (CC.out _ ((h.below hB).more hB.size)).mono ?_
      rintro e wn ⟨rfl, hb⟩
      have g := g.next hb
      have hB := hB.trans (hb.mono hB.size)
      have k0 := g.cell 0
      have k1 := g.cell 1
      clear hb
      go_wp2_with fail
      refine (XC.out _ ((h.below hB).more hB.size)).mono ?_
      rintro e wn ⟨A2, c2, rfl, hb⟩
      have g := g.next hb
      have hB := hB.trans (hb.mono hB.size)
      have k0 := g.cell 0
      have k1 := g.cell 1
      clear hb
      go_wp2_with fail
      refine (JC.out _ ((h.below hB).more hB.size)).mono ?_
      rintro e wn ⟨rfl, hb⟩
      have g := g.next hb
      have hB := hB.trans (hb.mono hB.size)
      have k0 := g.cell 0
      have k1 := g.cell 1
      clear hb
      go_wp2_with fail
      refine (AW.out _).mono ?_
      rintro e wn ⟨rfl, hb⟩
      have g := g.next hb
      have hB := hB.trans (hb.mono hB.size)
      have k0 := g.cell 0
      have k1 := g.cell 1
      clear hb
      go_wp2
      go_ret
      exact ⟨rfl, hB⟩
  · have hf' : smallB n es 5 8 = false := by simpa using hf
    rw [hf'] at FC
    clear hf hf'
    go_enter Try.func10, Try.ntmps10
    go_wp2_with fail
    refine (FC.out _ ((h.below hB).more hB.size)).mono ?_
    rintro e wn ⟨rfl, hb⟩
    have g := g.next hb
    have hB := hB.trans (hb.mono hB.size)
    have k0 := g.cell 0
    have k1 := g.cell 1
    clear hb
    go_wp2_with fail
    refine (AW.out _).mono ?_
    rintro e wn ⟨rfl, hb⟩
    have g := g.next hb
    have hB := hB.trans (hb.mono hB.size)
    have k0 := g.cell 0
    have k1 := g.cell 1
    clear hb
    go_wp2
    go_ret
    exact ⟨rfl, hB⟩

namespace lawTreeLists
open Go.ChangeShapes Go.WideShapes Go.ChangeAt Go.RowKit
set_option linter.unusedVariables false
set_option maxRecDepth 100000 in
theorem lifted (os : Os) (started : os.Started) (H : Type) (enc : TypeId × Value → H) :
    ReturnsInHanded {} Try.checked os 10 .any (Rows.treeListsSpec.pre6 enc Try.prog Try.f10 Rows.treeListsRow.domain false) (Rows.treeListsSpec.post enc Try.prog Try.f10 false true false false) := by
  refine returnsInHanded_of_change (C := Try.checked) own started (by kernel_rfl) Try.func10
    (ChangeSpec.witness6 (enc := enc) (C := Try.checked) false ⟨#[], #[.agg #[.int .i64 0, .slice none 0 0]], []⟩ 8 (by kernel_rfl) (by kernel_rfl) (by kernel_rfl) (by kernel_rfl)) ?_
  intro W base args ds gs before hval0 hW hcnd _
  have hval : ∀ (j : Nat) t v, Try.f10.params[j]? = some t → args[j]? = some v → Value.okWide Try.prog W .any base t v := hval0
  have hW' := hW
  obtain ⟨p, q, hA0, hV, rfl, hfz, hnd⟩ := hW
  have hA : DataW.TrodAll enc Try.prog W 0 (fun _ => true) true Try.f10.params.toList args.toList ds p := hA0
  rw [Try.params10] at hA hval
  obtain ⟨v0, vs0, d0, ds0, p0, q0, hargs, rfl, rfl, h0, r0⟩ := trodAll_cons hA
  obtain ⟨rfl, rfl, rfl⟩ := trodAll_nil r0
  obtain rfl : args = #[v0] := by cases args; simp_all
  obtain ⟨rfl, rfl⟩ := trodVars_none hV
  obtain ⟨cs0, rfl, _⟩ := okWide_struct Try.underlying24 (hval 0 24 v0 rfl rfl)
  have k0 := h0
  have lt0 : ∀ x ∈ p0, x.block < W.heap.size := by obtain ⟨m, hm⟩ := k0; exact DataW.trod_lt m _ _ _ hm
  obtain ⟨_, hf0⟩ := h0
  obtain ⟨n0, a0, cap0, xs0, hcs0, hm0, hr0, hw0⟩ := open_graph hf0
  obtain rfl : cs0 = #[.int .i64 n0, .slice a0 xs0.length cap0] := Array.toList_inj.1 hcs0
  clear hA0 hval0
  refine (treeLists_walk W n0 a0 cap0 xs0 hm0 hw0 hr0).mono fun e W' ⟨he, bel⟩ => ?_
  subst he
  exact ⟨_, rfl, _, _, _, [], _, [], hW', trodAll_mk1 (shut_bool Try.underlying4 _), (trodAll_cons_mk (Below.trod laidOut (by kernel_rfl) (of_decide_eq_true (by kernel_rfl)) k0 bel lt0) trodAll_mk0), rfl, bel.frame _, fun h => by cases h⟩

theorem over : Rows.treeListsRow.holds Try.pinned (OpenSpec.ofChange Rows.treeListsSpec) :=
  OpenClaim.holds_of_wide 10 Try.f10 rfl rfl rfl rfl rfl rfl rfl ⟨rfl, rfl, rfl, rfl, rfl⟩ rfl rfl rfl rfl rfl (by kernel_rfl) Try.func10 (by kernel_rfl)
    (of_decide_eq_true (by kernel_rfl)) (by unfold Func.isWrapper; first | (rw [if_pos (by decide +kernel)]; kernel_rfl) | (rw [if_neg (by decide +kernel)]; exact ⟨rfl, rfl⟩))
    (fun os started H enc _ => lifted os started H enc)

/-- For every graph the law answers true: tree.All, Count and First return the trees, found among all sets, or the errors of the reference. -/
theorem proved : Rows.TreeListsSaid := over
#print axioms proved
end lawTreeLists
end Go.Proofs.Ytepmfbgmkfkmkaa
