/-
  For every graph and byte the law TreeDivides answers true: the trees are different, ascending, and spanning; those with a single edge and those without it, of which the latter are the trees of the graph without it, are all trees. There are no conditions.
-/
import Derived.Test.YtepmfbgmkfkmkaaK22
import Derived.Test.YtepmfbgmkfkmkaaK23
import Derived.Test.YtepmfbgmkfkmkaaK27
import Derived.Test.YtepmfbgmkfkmkaaK28
namespace Go.Proofs.Ytepmfbgmkfkmkaa
open Go.RowKit

/-- The trees with a single edge among the first ones. -/
def withL (T : List (List Nat)) (k j : Nat) : Nat := ((T.take j).filter fun t => decide (k ∈ t)).length
theorem withL_succ {T : List (List Nat)} {k j : Nat} {x : List Nat} (h : T[j]? = some x) : withL T k (j + 1) = withL T k j + if decide (k ∈ x) = true then 1 else 0 := by
  unfold withL
  rw [take_snoc h, List.filter_append, List.length_append, List.filter_cons]
  split <;> rfl
theorem withL_le {T : List (List Nat)} {k j : Nat} : withL T k j ≤ T.length := Nat.le_trans (List.length_filter_le _ _) (by rw [List.length_take]; omega)
theorem withL_all {T : List (List Nat)} {k : Nat} : withL T k T.length + (T.filter fun t => !decide (k ∈ t)).length = T.length := by
  unfold withL
  rw [List.take_length]
  induction T with
  | nil => rfl
  | cons t T ih =>
    rw [List.filter_cons, List.filter_cons]
    cases decide (k ∈ t) <;> simp <;> omega

set_option maxRecDepth 100000 in
set_option maxHeartbeats 16000000 in
theorem treeDivides_walk (w : World) (n : Int) (A : Option Addr) (c : Nat) (es : List E3) (_hm : es.length ≤ maxLen) (_hw : (Lit.int .i64 n).wf = true) (h : Reads w w.heap.size 3 A es.length (edgeCells es)) (x : Int) (hx : (Lit.int .u8 x).wf = true) :
    Calls Try.prog 11 #[.agg #[.int .i64 n, .slice A es.length c], .int .u8 x] w fun e w' => e = .returned (.bool true) ∧ Below w.heap.size w w' := by
  have hxv : 0 ≤ x ∧ x ≤ 255 := by
    have h2 : IntKind.u8.min ≤ x ∧ x ≤ IntKind.u8.max := by simpa [Lit.wf] using hx
    exact h2
  have FC := Lib.hid (fun w h => rfewtrees_any n A c es w h)
  have AW := Lib.hid (fun w => awake13_any w)
  have g := Blk.new w 24 #[.int .i64 n, .slice A es.length c]
  have hB := (Below.refl w.heap.size w).alloc (Nat.le_refl _) (.cells #[.int .i64 n, .slice A es.length c] 24)
  have k0 := g.cell 0
  have k1 := g.cell 1
  clear hx
  by_cases hf : smallB n es 5 8 = true
  · have hf13 : few13 n es 0 = true := by unfold few13; rw [hf]; rfl
    obtain ⟨hlen, _, hsm⟩ := few13_parts hf13
    rw [hf] at FC
    clear hf hf13
    have JC := Lib.hid (fun w h => rjoinedErr_any n A c es (by omega) w h)
    by_cases hj : joinErr n es = 0
    · obtain ⟨hz, hG, hcon⟩ := join_zero hj
      obtain ⟨m, rfl⟩ := Int.eq_ofNat_of_zero_le (show 0 ≤ n by have := hG.lo; omega)
      rw [hj] at JC
      have hsz : (endsL es).length ≤ 8 := by rw [← size_ends]; exact (hsm hz).2
      have SC : Hid (∀ (W : World) (h : Reads W W.heap.size 3 A es.length (edgeCells es)), Calls Try.prog 34 #[.agg #[.int .i64 m, .slice A es.length c]] W fun e w' => e = .returned (.int .i64 ((endsL es).length : Nat)) ∧ Below W.heap.size W w') := by
        intro W h
        have := rsize_any m A c es hlen m hG.ok W h
        rw [size_ends] at this
        exact this
      by_cases hL0 : (endsL es).length = 0
      · rw [hL0] at SC
        clear hL0 hsz hz hG hcon hj hsm hlen
        go_enter Try.func11, Try.ntmps11
        go_wp2_with fail
        refine (FC.out _ ((h.below hB).more hB.size)).mono ?_
        rintro en wn ⟨rfl, hb⟩
        have g := g.next hb
        have hB := hB.trans (hb.mono hB.size)
        have k0 := g.cell 0
        have k1 := g.cell 1
        clear hb
        go_wp2_with fail
        refine (JC.out _ ((h.below hB).more hB.size)).mono ?_
        rintro en wn ⟨rfl, hb⟩
        have g := g.next hb
        have hB := hB.trans (hb.mono hB.size)
        have k0 := g.cell 0
        have k1 := g.cell 1
        clear hb
        go_wp2_with fail
        refine (SC.out _ ((h.below hB).more hB.size)).mono ?_
        rintro en wn ⟨rfl, hb⟩
        have g := g.next hb
        have hB := hB.trans (hb.mono hB.size)
        have k0 := g.cell 0
        have k1 := g.cell 1
        clear hb
        go_wp2_with fail
        refine (AW.out _).mono ?_
        rintro en wn ⟨rfl, hb⟩
        have g := g.next hb
        have hB := hB.trans (hb.mono hB.size)
        have k0 := g.cell 0
        have k1 := g.cell 1
        clear hb
        go_wp2
        go_ret
        exact ⟨rfl, hB⟩
      · have hm1 : 0 < m := by have := hG.lo; omega
        have hm12 : m ≤ 12 := by have := hG.hi; omega
        have hbe := bd_ends hG
        obtain ⟨x, rfl⟩ := Int.eq_ofNat_of_zero_le hxv.1
        have hxv := hxv.2
        have hkm : (x : Int).tmod ((endsL es).length : Int) = ((x % (endsL es).length : Nat) : Int) := by rw [Int.tmod_eq_emod_of_nonneg (by omega)]; rfl
        have hkl : x % (endsL es).length < (endsL es).length := Nat.mod_lt _ (by omega)
        obtain ⟨k, hk⟩ : ∃ k, x % (endsL es).length = k := ⟨_, rfl⟩
        rw [hk] at hkm hkl
        have hTl : (treesT m (endsL es)).length ≤ 256 := Nat.le_trans (treesT_length hbe hm1) (Nat.pow_le_pow_right (by omega) hsz)
        have hTr : ∀ x ∈ treesT m (endsL es), IsTr m (endsL es) x := fun x hx => ((treesT_spec hbe hm1).1 x).1 hx
        have hTp := (treesT_spec hbe hm1).2
        have hE1 : tallE m es = ((treesT m (endsL es)).map nI, 0) := by unfold tallE; rw [if_neg (fun hc => hc hj), Int.toNat_natCast]
        have CC := Lib.hid (fun w h => tcount_any m A c es (by omega) (by rw [hE1]; simp only [List.length_map]; omega) w h)
        rw [hE1] at CC
        dsimp only at CC
        rw [List.length_map] at CC
        -- the graph without the single edge
        have hbd : BdP m (delE (endsL es) k) := fun p hp => hbe p (del_sub.subset hp)
        have hdl := del_length hkl
        have hlr : (lessL (List.range (endsL es).length) k).length ≤ 8 := Nat.le_trans (List.length_filter_le _ _) (by rw [List.length_range]; exact hsz)
        have hpl : (pk (endsL es) (lessL (List.range (endsL es).length) k)).length ≤ 50 := by rw [pk_length]; omega
        have hmr := made_right (n := m) (ps := pk (endsL es) (lessL (List.range (endsL es).length) k)) (by omega) hm12 hpl
        have hme : endsL (madeS m (pk (endsL es) (lessL (List.range (endsL es).length) k))) = delE (endsL es) k := made_ends (by omega) hm12 hpl hbd (fun p hp => ends_order hG.ok p (del_sub.subset hp)) ((ends_sorted hG.ok hG.sorted).sublist del_sub)
        have hmc : checkG m (madeS m (pk (endsL es) (lessL (List.range (endsL es).length) k))) = 0 := joined_check (by omega) hm12 fun a b _ _ => by have := cnt_le (pk (endsL es) (lessL (List.range (endsL es).length) k)) a b; omega
        have hmj : joinErr m (madeS m (pk (endsL es) (lessL (List.range (endsL es).length) k))) = if partsP m (delE (endsL es) k) = 1 then 0 else 13 := by
          unfold joinErr
          rw [if_neg (fun hc => hc hmc), Int.toNat_natCast, connB_parts hmr, hme]
          by_cases hp : partsP m (delE (endsL es) k) = 1
          · rw [decide_eq_true hp, if_pos hp]; rfl
          · rw [decide_eq_false hp, if_neg hp]; rfl
        have hml : (madeS m (pk (endsL es) (lessL (List.range (endsL es).length) k))).length ≤ 144 := by
          have h1 : (madeS m (pk (endsL es) (lessL (List.range (endsL es).length) k))).length ≤ m * m := joinTo_length _ _ _
          have h2 : m * m ≤ 12 * 12 := Nat.mul_le_mul hm12 hm12
          omega
        have hdt := del_trees hbe hm1 hkl
        have hrt : (treesT m (delE (endsL es) k)).length ≤ 256 := by rw [hdt]; exact Nat.le_trans (List.length_filter_le _ _) hTl
        have hwa := withL_all (T := treesT m (endsL es)) (k := k)
        rw [← hdt] at hwa
        have hdp : partsP m (delE (endsL es) k) ≠ 1 → (treesT m (delE (endsL es) k)).length = 0 := fun hp => by rw [del_parted hbd hm1 hp]; rfl
        have ALLC : Hid (∀ (W : World) (hB : Below w.heap.size w W), Calls Try.prog 47 #[.agg #[.int .i64 m, .slice A es.length c]] W fun e w' => ∃ A' c', e = .returned (.slice A' (endsL es).length c') ∧ Reads w' w'.heap.size 1 A' (endsL es).length (ints (nI (List.range (endsL es).length))) ∧ Below W.heap.size W w') := by
          intro W hB
          have := ralle_any m A c es hlen m hG.ok (by rw [size_ends]; omega) W ((h.below hB).more hB.size)
          rw [size_ends] at this
          refine this.mono ?_
          rintro e w' ⟨A', c', rfl, o, hb⟩
          have o := o.reads
          rw [nI_length, List.length_range] at o
          exact ⟨A', c', rfl, o, hb⟩
        have LESC : Hid (∀ (A' : Option Addr) (c' : Nat) (W : World) (hr : Reads W W.heap.size 1 A' (endsL es).length (ints (nI (List.range (endsL es).length)))), Calls Try.prog 46 #[.slice A' (endsL es).length c', .int .i64 k] W fun e w' => ∃ A2 c2, e = .returned (.slice A2 (lessL (List.range (endsL es).length) k).length c2) ∧ Reads w' w'.heap.size 1 A2 (lessL (List.range (endsL es).length) k).length (ints (nI (lessL (List.range (endsL es).length) k))) ∧ Below W.heap.size W w') := by
          intro A' c' W hr
          have hnl : (nI (List.range (endsL es).length)).length = (endsL es).length := by rw [nI_length, List.length_range]
          have := rless_any A' c' (nI (List.range (endsL es).length)) (by omega) k W (by rw [hnl]; exact hr)
          rw [hnl, nI_less] at this
          refine this.mono ?_
          rintro e w' ⟨A2, c2, rfl, o, hb⟩
          have o := o.reads
          rw [nI_length] at o ⊢
          exact ⟨A2, c2, rfl, o, hb⟩
        have hlt : ∀ e ∈ lessL (List.range (endsL es).length) k, e < (endsL es).length := fun e he => by simpa using (mem_less.1 he).1
        have WITC : Hid (∀ (A' : Option Addr) (c' : Nat) (W : World) (hB : Below w.heap.size w W) (hr : Reads W W.heap.size 1 A' (lessL (List.range (endsL es).length) k).length (ints (nI (lessL (List.range (endsL es).length) k)))), Calls Try.prog 45 #[.agg #[.int .i64 m, .slice A es.length c], .slice A' (lessL (List.range (endsL es).length) k).length c'] W fun e w' => ∃ A1 c1, e = .returned (.agg #[.int .i64 m, .slice A1 (madeS m (pk (endsL es) (lessL (List.range (endsL es).length) k))).length c1]) ∧ Reads w' w'.heap.size 3 A1 (madeS m (pk (endsL es) (lessL (List.range (endsL es).length) k))).length (edgeCells (madeS m (pk (endsL es) (lessL (List.range (endsL es).length) k)))) ∧ Below W.heap.size W w') := by
          intro A' c' W hB hr
          refine (rwith_any m A c es hlen hG A' c' _ hlt (by omega) W ((h.below hB).more hB.size) hr).mono ?_
          rintro e w' ⟨A1, c1, rfl, o, hb⟩
          exact ⟨A1, c1, rfl, Reads.of_own o, hb⟩
        obtain ⟨M, hM⟩ : ∃ M, madeS m (pk (endsL es) (lessL (List.range (endsL es).length) k)) = M := ⟨_, rfl⟩
        rw [hM] at hme hmj hml WITC
        obtain ⟨R, hR⟩ : ∃ R, (treesT m (delE (endsL es) k)).length = R := ⟨_, rfl⟩
        rw [hR] at hrt hwa hdp
        have CNT : Hid (∀ (A1 : Option Addr) (c1 : Nat) (W : World) (hr : Reads W W.heap.size 3 A1 M.length (edgeCells M)), Calls Try.prog 39 #[.agg #[.int .i64 m, .slice A1 M.length c1]] W fun e w' => e = .returned (.tuple #[.int .i64 (R : Int), .int .i64 (if partsP m (delE (endsL es) k) = 1 then 0 else 13)]) ∧ Below W.heap.size W w') := by
          intro A1 c1 W hr
          by_cases hp : partsP m (delE (endsL es) k) = 1
          · have hE2 : tallE m M = ((treesT m (delE (endsL es) k)).map nI, 0) := by unfold tallE; rw [if_neg (fun hc => hc (by rw [hmj, if_pos hp])), Int.toNat_natCast, hme]
            have := tcount_any m A1 c1 M (by omega) (by rw [hE2]; simp only [List.length_map]; omega) W hr
            rw [hE2] at this
            dsimp only at this
            rw [List.length_map, hR] at this
            rw [if_pos hp]
            exact this
          · have hE2 : tallE m M = ([], 13) := by unfold tallE; rw [if_pos (by rw [hmj, if_neg hp]; decide), hmj, if_neg hp]
            have := tcount_any m A1 c1 M (by omega) (by rw [hE2]; simp) W hr
            rw [hE2] at this
            rw [if_neg hp, hdp hp]
            exact this
        obtain ⟨T, hT⟩ : ∃ T, treesT m (endsL es) = T := ⟨_, rfl⟩
        have LC : Hid (∀ (w : World) (h : Reads w w.heap.size 3 A es.length (edgeCells es)), Calls Try.prog 38 #[.agg #[.int .i64 m, .slice A es.length c]] w fun e w' => ∃ Ar cr, e = .returned (.tuple #[.slice Ar T.length cr, .int .i64 0]) ∧ RowsR w' w'.heap.size Ar (T.map nI) ∧ Below w.heap.size w w') := by
          intro w h
          refine (tall_ok m A c es (by omega) hj T hT (by rw [← hT]; omega) w h).mono ?_
          rintro e w' ⟨Ar, cr, vs, rfl, o, hb⟩
          exact ⟨Ar, cr, rfl, o.reads, hb⟩
        rw [hT] at hTl hTr hTp CC hwa
        have CHK : Hid (∀ (u : List Nat) (_ : u ∈ T) (A' : Option Addr) (c' : Nat) (W : World) (_ : Reads W W.heap.size 3 A es.length (edgeCells es)) (_ : Reads W W.heap.size 1 A' u.length (ints (nI u))), Calls Try.prog 14 #[.agg #[.int .i64 m, .slice A es.length c], .slice A' u.length c'] W fun en w' => en = .returned (.int .i64 0) ∧ Below W.heap.size W w') := by
          intro u hu A' c' W h hr
          have hl := (hTr u hu).len
          have := tcheck_any m A c es (by omega) A' c' (nI u) (by rw [nI_length]; omega) W h (by rw [nI_length]; exact hr)
          rw [tree_ok hj (hTr u hu), nI_length] at this
          exact this
        have BEF : Hid (∀ (j : Nat) (u v : List Nat) (_ : T[j]? = some u) (_ : T[j + 1]? = some v) (A' : Option Addr) (c' : Nat) (B' : Option Addr) (d' : Nat) (W : World) (_ : Reads W W.heap.size 1 A' u.length (ints (nI u))) (_ : Reads W W.heap.size 1 B' v.length (ints (nI v))), Calls Try.prog 44 #[.slice A' u.length c', .slice B' v.length d'] W fun en w' => en = .returned (.bool true) ∧ Below W.heap.size W w') := by
          intro j u v hu hv A' c' B' d' W hr hr2
          have hl := (hTr u (List.mem_of_getElem? hu)).len
          have hbf : bfI (nI u) (nI v) = true := by
            obtain ⟨h1, e1⟩ := List.getElem?_eq_some_iff.1 hu
            obtain ⟨h2, e2⟩ := List.getElem?_eq_some_iff.1 hv
            have := List.pairwise_iff_getElem.1 hTp j (j + 1) h1 h2 (by omega)
            rw [e1, e2] at this
            exact this
          have := rbefore_any A' c' (nI u) B' d' (nI v) (by rw [nI_length]; omega) W (by rw [nI_length]; exact hr) (by rw [nI_length]; exact hr2)
          rw [hbf, nI_length, nI_length] at this
          exact this
        have HAS : Hid (∀ (u : List Nat) (_ : u ∈ T) (A' : Option Addr) (c' : Nat) (W : World) (_ : Reads W W.heap.size 1 A' u.length (ints (nI u))), Calls Try.prog 31 #[.slice A' u.length c', .int .i64 k] W fun en w' => en = .returned (.bool (decide (k ∈ u))) ∧ W = w') := by
          intro u hu A' c' W hr
          have hl := (hTr u hu).len
          have := contains_any A' c' (nI u) (by rw [nI_length]; omega) k W (by rw [nI_length]; exact hr)
          rw [nI_length] at this
          refine this.mono ?_
          rintro en w' ⟨rfl, he⟩
          exact ⟨by simp only [mem_nI9], he⟩
        obtain ⟨z, hz13⟩ : ∃ z : Int, (if partsP m (delE (endsL es) k) = 1 then 0 else 13) = z := ⟨_, rfl⟩
        have hzz : z = 0 ∨ (z = 13 ∧ R = 0) := by
          by_cases hp : partsP m (delE (endsL es) k) = 1
          · rw [if_pos hp] at hz13; exact .inl hz13.symm
          · rw [if_neg hp] at hz13; exact .inr ⟨hz13.symm, hdp hp⟩
        rw [hz13] at CNT
        have HZZ := Lib.hid hzz
        have HWA := Lib.hid hwa
        obtain ⟨Q, hQ⟩ : ∃ Q, lessL (List.range (endsL es).length) k = Q := ⟨_, rfl⟩
        rw [hQ] at LESC WITC
        obtain ⟨L, hL⟩ : ∃ L, (endsL es).length = L := ⟨_, rfl⟩
        rw [hL] at SC ALLC LESC hL0 hkm hkl hsz
        have hL0' : ((L : Int) == 0) = false := by simpa using hL0
        have HTL := Lib.hid hTl
        have HRT := Lib.hid hrt
        have hcx : IntKind.i64.wrap (x : Int) = (x : Int) := IntWalk.i64_in _ (by omega)
        clear hzz hwa hz13 hQ hL hT hR hM hdp hrt hdt hml hmj hmc hme hmr hpl hlr hlt hdl hbd hE1 hTp hTr hk hbe hm12 hm1 hz hG hcon hj hsm hlen hTl
        go_enter Try.func11, Try.ntmps11
        go_wp2_with fail
        refine (FC.out _ ((h.below hB).more hB.size)).mono ?_
        rintro en wn ⟨rfl, hb⟩
        have g := g.next hb
        have hB := hB.trans (hb.mono hB.size)
        have k0 := g.cell 0
        have k1 := g.cell 1
        clear hb
        go_wp2_with fail
        refine (JC.out _ ((h.below hB).more hB.size)).mono ?_
        rintro en wn ⟨rfl, hb⟩
        have g := g.next hb
        have hB := hB.trans (hb.mono hB.size)
        have k0 := g.cell 0
        have k1 := g.cell 1
        clear hb
        go_wp2_with fail
        refine (SC.out _ ((h.below hB).more hB.size)).mono ?_
        rintro en wn ⟨rfl, hb⟩
        have g := g.next hb
        have hB := hB.trans (hb.mono hB.size)
        have k0 := g.cell 0
        have k1 := g.cell 1
        clear hb
        go_wp2_with fail
        refine (LC.out _ ((h.below hB).more hB.size)).mono ?_
        rintro en wn ⟨A1, c1, rfl, r1, hb⟩
        have g := g.next hb
        have hB := hB.trans (hb.mono hB.size)
        have k0 := g.cell 0
        have k1 := g.cell 1
        clear hb
        go_wp2_with fail
        refine (CC.out _ ((h.below hB).more hB.size)).mono ?_
        rintro en wn ⟨rfl, hb⟩
        have r1 := RowsR.nextR r1 hb
        have g := g.next hb
        have hB := hB.trans (hb.mono hB.size)
        have k0 := g.cell 0
        have k1 := g.cell 1
        clear hb
        go_wp2_with fail
        refine (SC.out _ ((h.below hB).more hB.size)).mono ?_
        rintro en wn ⟨rfl, hb⟩
        have r1 := RowsR.nextR r1 hb
        have g := g.next hb
        have hB := hB.trans (hb.mono hB.size)
        have k0 := g.cell 0
        have k1 := g.cell 1
        clear hb
        have HB := Lib.hid hB
        have HGr := Lib.hid g
        have HR1 := Lib.hid r1
        have hz0 := hB.size
        obtain ⟨w0, rfl⟩ : ∃ w0 : World, w0 = wn := ⟨_, rfl⟩
        clear hB g k0 k1 r1 FC JC SC LC CC
        go_wp2_with fail
        clear hcx hkm
        go_loopw [10, 11, 12, 55] (fun o _ _ i wr => ∃ j : Nat, i = .int .i64 j ∧ o = .int .i64 (withL T k j : Nat) ∧ j ≤ T.length ∧ Hid (Below w.heap.size w wr) ∧ Hid (Blk wr w.heap.size 24 #[.int .i64 m, .slice A es.length c]) ∧ Hid (RowsR wr wr.heap.size A1 (T.map nI))) (fun _ _ _ i _ => T.length - (intOf i).toNat)
        case atStart => exact ⟨0, rfl, rfl, by omega, HB, HGr, HR1⟩
        case round =>
          obtain ⟨j, rfl, rfl, hj, HB, HGr, HR1⟩ := hrel
          have hTl := HTL.out
          have hwl := withL_le (T := T) (k := k) (j := j)
          have hB := HB.out
          have g := HGr.out
          have r1 := HR1.out
          have k0 := g.cell 0
          have k1 := g.cell 1
          by_cases hlt : j < T.length
          · have hij : (j : Int) < (T.length : Int) := by omega
            obtain ⟨u, hu⟩ := get_of_lt hlt
            have huT := List.mem_of_getElem? hu
            have hws := withL_succ (k := k) hu
            obtain ⟨q, hq⟩ : ∃ q, withL T k j = q := ⟨_, rfl⟩
            rw [hq] at hws hwl ⊢
            obtain ⟨b, hb⟩ : ∃ b, decide (k ∈ u) = b := ⟨_, rfl⟩
            have HU := Lib.hid (fun A' c' W hr => HAS.out u huT A' c' W hr)
            rw [hb] at hws HU
            have CK := Lib.hid (CHK.out u huT)
            have HWS := Lib.hid hws
            obtain ⟨bB, oB, AB, cB, eB, qB, rB, hbB⟩ := RowsR.row r1 hu
            subst eB
            have hw1 : IntKind.i64.wrap ((q : Int) + 1) = (q : Int) + 1 := IntWalk.i64_in _ (by omega)
            by_cases hj0 : j = 0
            · have hd0 : decide ((0 : Int) < (j : Int)) = false := decide_eq_false (by omega)
              have hd1 : decide (0 < j) = false := decide_eq_false (by omega)
              clear hws hq hb hu huT hj0
              go_wp2_with fail
              refine (CK.out _ _ _ ((h.below hB).more hB.size) rB).mono ?_
              rintro en wn ⟨rfl, hb⟩
              have rB := rB.next hb
              have r1 := RowsR.nextR r1 hb
              have g := g.next hb
              have hB := hB.trans (hb.mono hB.size)
              have k0 := g.cell 0
              have k1 := g.cell 1
              clear hb
              go_wp2_with fail
              refine (HU.out _ _ _ rB).mono ?_
              rintro en w9 ⟨rfl, rfl⟩
              have HB := Lib.hid hB
              have HGr := Lib.hid g
              have HR1 := Lib.hid r1
              rcases b with _ | _
              · have HF : Hid (withL T k (j + 1) = q) := HWS.out
                go_wp2
                go_roundw
                case rel => exact ⟨j + 1, by go_num, by rw [HF.out], by omega, HB, HGr, HR1⟩
                case measure => simp [intOf]; omega
              · have HF : Hid (withL T k (j + 1) = q + 1) := HWS.out
                go_wp2
                go_roundw
                case rel => exact ⟨j + 1, by go_num, by rw [HF.out]; go_num, by omega, HB, HGr, HR1⟩
                case measure => simp [intOf]; omega
            · obtain ⟨p, hp⟩ : ∃ p, j = p + 1 := ⟨j - 1, by omega⟩
              obtain ⟨v, hv⟩ := get_of_lt (xs := T) (k := p) (by omega)
              have BV := Lib.hid (BEF.out p v u hv (by rw [← hp]; exact hu))
              obtain ⟨bV, oV, AV, cV, eV, qV, rV, hbV⟩ := RowsR.row r1 hv
              injection eV with eV
              injection eV with i1 i2
              subst i1 i2
              have hd0 : (0 : Int) < (j : Int) := by omega
              have hd1 : decide (0 < j) = true := decide_eq_true (by omega)
              have hpj : IntKind.i64.wrap ((j : Int) - 1) = (p : Int) := by rw [IntWalk.i64_in _ (by omega)]; omega
              have hpl : (p : Int) < (T.length : Int) := by omega
              clear hws hq hb hu huT hj0 hv hp
              go_wp2_with fail
              refine (CK.out _ _ _ ((h.below hB).more hB.size) rB).mono ?_
              rintro en wn ⟨rfl, hb⟩
              have rB := rB.next hb
              have rV := rV.next hb
              have r1 := RowsR.nextR r1 hb
              have qV := (hb.cell (p := ⟨bB, oB + p, none⟩) hbB).trans qV
              have g := g.next hb
              have hB := hB.trans (hb.mono hB.size)
              have k0 := g.cell 0
              have k1 := g.cell 1
              clear hb
              go_wp2_with fail
              refine (BV.out _ _ _ _ _ rV rB).mono ?_
              rintro en wn ⟨rfl, hb⟩
              have rB := rB.next hb
              have r1 := RowsR.nextR r1 hb
              have g := g.next hb
              have hB := hB.trans (hb.mono hB.size)
              have k0 := g.cell 0
              have k1 := g.cell 1
              clear hb
              go_wp2_with fail
              refine (HU.out _ _ _ rB).mono ?_
              rintro en w9 ⟨rfl, rfl⟩
              have HB := Lib.hid hB
              have HGr := Lib.hid g
              have HR1 := Lib.hid r1
              rcases b with _ | _
              · have HF : Hid (withL T k (j + 1) = q) := HWS.out
                go_wp2
                go_roundw
                case rel => exact ⟨j + 1, by go_num, by rw [HF.out], by omega, HB, HGr, HR1⟩
                case measure => simp [intOf]; omega
              · have HF : Hid (withL T k (j + 1) = q + 1) := HWS.out
                go_wp2
                go_roundw
                case rel => exact ⟨j + 1, by go_num, by rw [HF.out]; go_num, by omega, HB, HGr, HR1⟩
                case measure => simp [intOf]; omega
          · obtain rfl : j = T.length := by omega
            have hwa := HWA.out
            have hRT := HRT.out
            obtain ⟨q, hq⟩ : ∃ q, withL T k T.length = q := ⟨_, rfl⟩
            rw [hq] at hwa hwl ⊢
            obtain ⟨N, hN⟩ : ∃ N, T.length = N := ⟨_, rfl⟩
            rw [hN] at hwa hwl hTl ⊢
            have HGB := Lib.hid g
            have g := g.drew
            have hB := hB.drew
            have k0 := g.cell 0
            have k1 := g.cell 1
            clear hq hN r1
            go_wp2_with fail
            go_region_held3 (fun W => W.cell? ⟨w.heap.size, 0, none⟩ = some (.int .i64 m) ∧ W.cell? ⟨w.heap.size, 1, none⟩ = some (.slice A es.length c)) (go_keep) (first
              | (go_at_call 47; refine (ALLC.out _ (by exact hB)).mono ?_; rintro en wn ⟨A5, c5, rfl, rA, hb⟩; have g := g.next hb; have hB := hB.trans (hb.mono hB.size); have k0 := g.cell 0; have k1 := g.cell 1)
              | (go_at_call 46; refine (LESC.out _ _ _ (by exact rA)).mono ?_; rintro en wn ⟨A6, c6, rfl, rL, hb⟩; have g := g.next hb; have hB := hB.trans (hb.mono hB.size); have k0 := g.cell 0; have k1 := g.cell 1)
              | (go_at_call 45; refine (WITC.out _ _ _ (by exact hB) (by exact rL)).mono ?_; rintro en wn ⟨A7, c7, rfl, rM, hb⟩; have g := g.next hb; have hB := hB.trans (hb.mono hB.size); have k0 := g.cell 0; have k1 := g.cell 1)
              | (go_at_call 39; refine (CNT.out _ _ _ (by exact rM)).mono ?_; rintro en wn ⟨rfl, hb⟩; have g := g.next hb; have hB := hB.trans (hb.mono hB.size); have k0 := g.cell 0; have k1 := g.cell 1))
            all_goals (
              have hB := hB
              rcases HZZ.out with hz | ⟨hz, hR⟩
              · subst hz
                have hsum : ((q : Int) + (R : Int) == (N : Int)) = true := by simp; omega
                have hsw : IntKind.i64.wrap ((q : Int) + (R : Int)) = (q : Int) + (R : Int) := IntWalk.i64_in _ (by omega)
                go_wp2_with fail
                refine (AW.out _).mono ?_
                rintro en w9 ⟨rfl, hb9⟩
                go_wp2
                go_ret
                exact ⟨rfl, hB.trans (hb9.mono hB.size)⟩
              · subst hz
                obtain rfl : q = N := by omega
                go_wp2_with fail
                refine (AW.out _).mono ?_
                rintro en w9 ⟨rfl, hb9⟩
                go_wp2
                go_ret
                exact ⟨rfl, hB.trans (hb9.mono hB.size)⟩)
    · obtain ⟨z, hzz⟩ : ∃ z, joinErr n es = z := ⟨_, rfl⟩
      rw [hzz] at JC hj
      have hz2 : (z != 0) = true := by simpa using hj
      clear hzz hj hsm hlen
      go_enter Try.func11, Try.ntmps11
      go_wp2_with fail
      refine (FC.out _ ((h.below hB).more hB.size)).mono ?_
      rintro en wn ⟨rfl, hb⟩
      have g := g.next hb
      have hB := hB.trans (hb.mono hB.size)
      have k0 := g.cell 0
      have k1 := g.cell 1
      clear hb
      go_wp2_with fail
      refine (JC.out _ ((h.below hB).more hB.size)).mono ?_
      rintro en wn ⟨rfl, hb⟩
      have g := g.next hb
      have hB := hB.trans (hb.mono hB.size)
      have k0 := g.cell 0
      have k1 := g.cell 1
      clear hb
      go_wp2_with fail
      refine (AW.out _).mono ?_
      rintro en wn ⟨rfl, hb⟩
      have g := g.next hb
      have hB := hB.trans (hb.mono hB.size)
      have k0 := g.cell 0
      have k1 := g.cell 1
      clear hb
      go_wp2
      go_ret
      exact ⟨rfl, hB⟩
  · have hf' : smallB n es 5 8 = false := by simpa using hf
    rw [hf'] at FC
    clear hf hf'
    go_enter Try.func11, Try.ntmps11
    go_wp2_with fail
    refine (FC.out _ ((h.below hB).more hB.size)).mono ?_
    rintro en wn ⟨rfl, hb⟩
    have g := g.next hb
    have hB := hB.trans (hb.mono hB.size)
    have k0 := g.cell 0
    have k1 := g.cell 1
    clear hb
    go_wp2_with fail
    refine (AW.out _).mono ?_
    rintro en wn ⟨rfl, hb⟩
    have g := g.next hb
    have hB := hB.trans (hb.mono hB.size)
    have k0 := g.cell 0
    have k1 := g.cell 1
    clear hb
    go_wp2
    go_ret
    exact ⟨rfl, hB⟩

namespace lawTreeDivides
open Go.ChangeShapes Go.WideShapes Go.ChangeAt Go.RowKit
set_option linter.unusedVariables false
set_option maxRecDepth 100000 in
theorem lifted (os : Os) (started : os.Started) (H : Type) (enc : TypeId × Value → H) :
    ReturnsInHanded {} Try.checked os 11 .any (Rows.treeDividesSpec.pre6 enc Try.prog Try.f11 Rows.treeDividesRow.domain false) (Rows.treeDividesSpec.post enc Try.prog Try.f11 false true false false) := by
  refine returnsInHanded_of_change (C := Try.checked) own started (by kernel_rfl) Try.func11
    (ChangeSpec.witness6 (enc := enc) (C := Try.checked) false ⟨#[], #[.agg #[.int .i64 0, .slice none 0 0], .int .u8 0], []⟩ 8 (by kernel_rfl) (by kernel_rfl) (by kernel_rfl) (by kernel_rfl)) ?_
  intro W base args ds gs before hval0 hW hcnd _
  have hval : ∀ (j : Nat) t v, Try.f11.params[j]? = some t → args[j]? = some v → Value.okWide Try.prog W .any base t v := hval0
  have hW' := hW
  obtain ⟨p, q, hA0, hV, rfl, hfz, hnd⟩ := hW
  have hA : DataW.TrodAll enc Try.prog W 0 (fun _ => true) true Try.f11.params.toList args.toList ds p := hA0
  rw [Try.params11] at hA hval
  obtain ⟨v0, vs0, d0, ds0, p0, q0, hargs, rfl, rfl, h0, r0⟩ := trodAll_cons hA
  obtain ⟨v1, vs1, d1, ds1, p1, q1, rfl, rfl, rfl, h1, r1⟩ := trodAll_cons r0
  obtain ⟨rfl, rfl, rfl⟩ := trodAll_nil r1
  obtain rfl : args = #[v0, v1] := by cases args; simp_all
  obtain ⟨rfl, rfl⟩ := trodVars_none hV
  obtain ⟨cs0, rfl, _⟩ := okWide_struct Try.underlying24 (hval 0 24 v0 rfl rfl)
  have k0 := h0
  have lt0 : ∀ x ∈ p0, x.block < W.heap.size := by obtain ⟨m, hm⟩ := k0; exact DataW.trod_lt m _ _ _ hm
  obtain ⟨_, hf0⟩ := h0
  obtain ⟨n0, a0, cap0, xs0, hcs0, hm0, hr0, hw0⟩ := open_graph hf0
  obtain rfl : cs0 = #[.int .i64 n0, .slice a0 xs0.length cap0] := Array.toList_inj.1 hcs0
  obtain ⟨a1, rfl, rfl, rfl, w1⟩ := open_int Try.underlying5 (hval 1 5 v1 rfl rfl) h1
  clear hA0 hval0
  refine (treeDivides_walk W n0 a0 cap0 xs0 hm0 hw0 hr0 a1 w1).mono fun e W' ⟨he, bel⟩ => ?_
  subst he
  exact ⟨_, rfl, _, _, _, [], _, [], hW', trodAll_mk1 (shut_bool Try.underlying4 _), (trodAll_cons_mk (Below.trod laidOut (by kernel_rfl) (of_decide_eq_true (by kernel_rfl)) k0 bel lt0) (trodAll_cons_mk (shut_int Try.underlying5 w1) trodAll_mk0)), rfl, bel.frame _, fun h => by cases h⟩

theorem over : Rows.treeDividesRow.holds Try.pinned (OpenSpec.ofChange Rows.treeDividesSpec) :=
  OpenClaim.holds_of_wide 11 Try.f11 rfl rfl rfl rfl rfl rfl rfl ⟨rfl, rfl, rfl, rfl, rfl⟩ rfl rfl rfl rfl rfl (by kernel_rfl) Try.func11 (by kernel_rfl)
    (of_decide_eq_true (by kernel_rfl)) (by unfold Func.isWrapper; first | (rw [if_pos (by decide +kernel)]; kernel_rfl) | (rw [if_neg (by decide +kernel)]; exact ⟨rfl, rfl⟩))
    (fun os started H enc _ => lifted os started H enc)

/-- For every graph and byte the law answers true: the trees are different, ascending, and spanning; those with a single edge and those without it, of which the latter are the trees of the graph without it, are all trees. -/
theorem proved : Rows.TreeDividesSaid := over
#print axioms proved
end lawTreeDivides
end Go.Proofs.Ytepmfbgmkfkmkaa
