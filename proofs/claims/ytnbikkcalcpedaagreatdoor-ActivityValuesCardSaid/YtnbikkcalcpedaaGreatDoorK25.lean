/-
  Texts of this claim, put together: TPath, RTree.
-/
import Derived.Test.YtnbikkcalcpedaaGreatDoorK24
import Derived.Test.YtnbikkcalcpedaaGreatDoorK15
import Derived.Test.YtnbikkcalcpedaaGreatDoorK23
/-! Package tree: vertex, Path, Parents. -/
namespace Go.Proofs.YtnbikkcalcpedaaGreatDoor
open Go.RowKit

/-- A list of ints as numbers. -/
abbrev toN (xs : List Int) : List Nat := xs.map Int.toNat
theorem toN_nI (t : List Nat) : toN (nI t) = t := by
  unfold toN nI
  rw [List.map_map]
  conv => rhs; rw [← List.map_id t]
  exact List.map_congr_left fun x _ => by simp
/-- What a right tree brings. -/
structure TreeR (m : Nat) (es : List E3) (t : List Nat) : Prop where
  hG : RightG m es
  hT : FoE m (endsL es) t
  tr : IsTr m (endsL es) t
  lo : 1 ≤ m
  hi : m ≤ 12
theorem TreeR.cn {m : Nat} {es : List E3} {t : List Nat} (h : TreeR m es t) {a b : Nat} (ha : a < m) (hb : b < m) : Cn (pk (endsL es) t) a b := h.tr.cn h.hT.bd ha hb
theorem TreeR.len {m : Nat} {es : List E3} {t : List Nat} (h : TreeR m es t) : t.length ≤ 12 := by have := h.tr.len; have := h.hi; omega
theorem treeR_of {n : Int} {es : List E3} {xs : List Int} (h : treeErr n es xs = 0) : ∃ (m : Nat) (t : List Nat), n = m ∧ xs = nI t ∧ TreeR m es t := by
  obtain ⟨m, t, h1, h2, h3, h4, h5, h6, h7, _⟩ := tree_zero h
  exact ⟨m, t, h1, h2, h3, h5.foe h4, h5, h6, h7⟩

/-! Parents. -/
end Go.Proofs.YtnbikkcalcpedaaGreatDoor

/-! ref10.Edges, With; ref13.Joined, Is, Check, single. -/
namespace Go.Proofs.YtnbikkcalcpedaaGreatDoor
open Go.RowKit

theorem endsL_len40 {n : Int} {es : List E3} (hok : ∀ e ∈ es, okE n e) (hn : es.length ≤ 40) : (endsL es).length ≤ 2000 := by
  have := endsL_length hok; omega
set_option maxRecDepth 100000 in
set_option maxHeartbeats 4000000 in
theorem rwith_any (n : Nat) (A : Option Addr) (c : Nat) (es : List E3) (hn : es.length ≤ 40) (hG : RightG n es) (B : Option Addr) (d : Nat) (t : List Nat) (ht : ∀ e ∈ t, e < (endsL es).length) (htl : t.length ≤ 50) (w : World)
    (h : Reads w w.heap.size 3 A es.length (edgeCells es)) (h' : Reads w w.heap.size 1 B t.length (ints (nI t))) :
    Calls Tryz.prog 77 #[.agg #[.int .i64 n, .slice A es.length c], .slice B t.length d] w fun e w' => ∃ A1 c1, e = .returned (.agg #[.int .i64 n, .slice A1 (madeS n (pk (endsL es) t)).length c1]) ∧ OwnE w' w.heap.size A1 c1 (madeS n (pk (endsL es) t)) ∧ Below w.heap.size w w' := by
  have hlo := hG.lo
  have hhi := hG.hi
  have EC := Lib.hid (fun (W : World) (hB : Below w.heap.size w W) => rendsC_any n A c es hn n hG.ok W ((h.below hB).more hB.size))
  have hbd := bd_pk (bd_ends hG) ht
  have MC := Lib.hid (fun (A : Option Addr) (c : Nat) (W : World) (hr : Reads W W.heap.size 2 A (pk (endsL es) t).length (pair2 (pk (endsL es) t))) => rmake_any n (by omega) (by omega) A c (pk (endsL es) t) (by rw [pk_length]; omega) hbd (fun a b _ _ => by have := cnt_le (pk (endsL es) t) a b; rw [pk_length] at this; omega) W (by rw [pairCells_pair2]; exact hr))
  have HT := Lib.hid ht
  have HPL : Hid ((pk (endsL es) t).length = t.length) := pk_length
  have hel := endsL_len40 hG.ok hn
  obtain ⟨M, hM⟩ : ∃ M, madeS n (pk (endsL es) t) = M := ⟨_, rfl⟩
  rw [hM] at MC ⊢
  obtain ⟨E, hE⟩ : ∃ E, endsL es = E := ⟨_, rfl⟩
  rw [hE] at EC MC HT HPL hel
  have g0 := Blk.new w 24 #[.int .i64 n, .slice A es.length c]
  have G0 := g0.alloc (.cells #[.int .i64 0, .slice none 0 0] 24)
  have Z0 := Blk.new (w.alloc (.cells #[.int .i64 n, .slice A es.length c] 24)) 24 #[.int .i64 0, .slice none 0 0]
  rw [show (w.alloc (.cells #[.int .i64 n, .slice A es.length c] 24)).heap.size = w.heap.size + 1 from by simp] at Z0
  have B0 : Below w.heap.size w ((w.alloc (.cells #[.int .i64 n, .slice A es.length c] 24)).alloc (.cells #[.int .i64 0, .slice none 0 0] 24)) := ((Below.refl _ _).alloc (Nat.le_refl _) _).alloc (by simp) _
  have hs0 : w.heap.size + 2 ≤ ((w.alloc (.cells #[.int .i64 n, .slice A es.length c] 24)).alloc (.cells #[.int .i64 0, .slice none 0 0] 24)).heap.size := by simp
  obtain ⟨W0, hW0⟩ : ∃ W0, ((w.alloc (.cells #[.int .i64 n, .slice A es.length c] 24)).alloc (.cells #[.int .i64 0, .slice none 0 0] 24)) = W0 := ⟨_, rfl⟩
  rw [hW0] at G0 Z0 B0 hs0
  have HW0 := Lib.hid hW0
  have c0 := G0.cell 0
  have c1 := G0.cell 1
  clear g0 hW0 hG ht hbd hM hE
  go_enter Tryz.func77, Tryz.ntmps77
  go_wp2_with fail
  rw [HW0.out]
  refine (EC.out _ B0).mono ?_
  rintro e w1 ⟨Ar, cr, rfl, HQ, hb1⟩
  have HQ : Hid (OwnQ w1 w.heap.size Ar cr E) := own_rebase2 HQ B0.size
  have B1 := B0.trans (hb1.mono B0.size)
  have G1 := G0.next hb1
  have Z1 := Z0.next hb1
  have hs1 : w.heap.size + 2 ≤ w1.heap.size := Nat.le_trans hs0 hb1.size
  clear G0 Z0 B0 c0 c1 hb1 hs0
  go_wp2_with fail
  go_loopw [6, 7] (fun s i wr => ∃ (k : Nat) (A' : Option Addr) (c' : Nat) (ps : List (Nat × Nat)), k ≤ t.length ∧ i = .int .i64 k ∧ s = .slice A' ps.length c' ∧ Hid (ps = pk E (t.take k)) ∧ ps.length ≤ 50 ∧ Hid (OwnQ wr w1.heap.size A' c' ps) ∧ Hid (Below w1.heap.size w1 wr)) (fun _ i _ => t.length - (intOf i).toNat)
  case atStart => exact ⟨0, none, 0, [], by omega, rfl, rfl, rfl, by simp, World.ownsRow_nil _ _ _ _, Below.refl _ _⟩
  case round =>
    obtain ⟨k, A', c', ps, hk, rfl, rfl, HP, hps, HO, HB⟩ := hrel
    have hwz := HB.out.size
    by_cases hlt : k < t.length
    · obtain ⟨e, hx⟩ := get_of_lt hlt
      have he := HT.out e (List.mem_of_getElem? hx)
      obtain ⟨bB, oB, hB, hbB, hcell⟩ := (h'.below (B1.trans (HB.out.mono B1.size))).at_ (ints_at (nI_at hx))
      subst hB
      obtain ⟨bA, oA, hA, hbA, q0, q1⟩ := (HQ.out.reads.below HB.out).pairAt (getD_some he)
      subst hA
      have hpk := pk_take_snoc (E := E) hx
      rw [← HP.out] at hpk
      obtain ⟨⟨a, b⟩, hp⟩ : ∃ p, E.getD e (0, 0) = p := ⟨_, rfl⟩
      rw [hp] at q0 q1 hpk
      dsimp only at q0 q1
      have hi : (k : Int) < (t.length : Int) := by omega
      have hie : (e : Int) < (E.length : Int) := by omega
      have hps2 : (ps ++ [(a, b)]).length ≤ 50 := by
        rw [← hpk, pk_length, List.length_take]; omega
      have HPK := Lib.hid hpk.symm
      clear hx hp hpk
      go_wp2_with (at_builtin; refine append_go rfl (.tmp 18) (.tmp 26) _ rfl w1.heap.size 50 Tryz.underlying48 info_pair2 rfl (by omega) A' c' ps.length (pair2 ps) rfl (World.ownsRow.alloc HO.out _) _ [.int .i64 a, .int .i64 b] rfl (Reads.boxN wr #[.int .i64 a, .int .i64 b] _) (by simp [Value.oneCell']) (by omega) (by simp; omega) ?_; intro A3 c3 W3 hown3 hgr3 hb3 _)
      have hq3 : Hid (OwnQ W3 w1.heap.size A3 c3 (ps ++ [(a, b)])) := (by unfold Hid OwnQ; rw [List.length_append, pair2_snoc]; exact hown3)
      have hb4 : Hid (Below w1.heap.size w1 W3) := (HB.out.alloc hwz (.cells #[.int .i64 a, .int .i64 b] 50)).trans hb3
      clear hown3 hgr3 hb3
      go_roundw
      case rel => exact ⟨k + 1, A3, c3, ps ++ [(a, b)], by omega, by go_num, by simp, HPK, hps2, hq3, hb4⟩
      case measure => simp [intOf]; omega
    · obtain rfl : k = t.length := by omega
      rw [List.take_length] at HP
      have G2 := G1.next HB.out
      have Z2 := Z1.next HB.out
      have c0 := G2.cell 0
      have B2 := B1.trans (HB.out.mono B1.size)
      have hrd := HO.out.reads
      have hpl : ps.length = (pk E t).length := by rw [HP.out]
      have MC2 := MC.out A' c' wr (by rw [← HP.out]; exact hrd)
      rw [← hpl] at MC2
      have MC2 := Lib.hid MC2
      clear hpl hrd
      go_wp2_with fail
      refine (MC2.out).mono ?_
      rintro e w5 ⟨A1, c1, rfl, o5, hb5⟩
      have Z5 := Z2.next hb5
      have B5 := B2.trans (hb5.mono B2.size)
      have k0 := Z5.cell 0
      have k1 := Z5.cell 1
      have f0 := Z5.frozen 0
      have f1 := Z5.frozen 1
      have hzl := Z5.lt
      have Z6 := ((Z5.set_ 0 (.int .i64 n)).set_ 1 (.slice A1 M.length c1)).alloc (.cells #[.int .i64 n, .slice A1 M.length c1] 24)
      have hs5 := B5.size
      have hwr := hb5.size
      have o6 : Hid (OwnE (((w5.setCell ⟨w.heap.size + 1, 0, none⟩ (.int .i64 n)).setCell ⟨w.heap.size + 1, 1, none⟩ (.slice A1 M.length c1)).alloc (.cells #[.int .i64 n, .slice A1 M.length c1] 24)) w.heap.size A1 c1 M) := by
        refine own_rebase2 (own_kept2 o5 fun j hj => ?_) B2.size
        have hl := World.ownsRow.lt o5 j (blockOf_own.2 hj)
        have hne : j ≠ w.heap.size + 1 := by omega
        rw [Below.heap_alloc _ _ _ (by simpa [World.setCell] using hl.2), Below.heap_setCell _ _ _ _ hne, Below.heap_setCell _ _ _ _ hne]
      have B6 := Lib.hid (((B5.setCell (p := ⟨w.heap.size + 1, 0, none⟩) (Nat.le_succ _) (.int .i64 n)).setCell (p := ⟨w.heap.size + 1, 1, none⟩) (Nat.le_succ _) (.slice A1 M.length c1)).alloc (by simpa [World.setCell] using hs5) (.cells #[.int .i64 n, .slice A1 M.length c1] 24))
      have HZ6 := Lib.hid Z6
      clear Z6 Z5 Z2 G2 o5 hb5 B5
      go_wp2
      try simp only [Exit.inBlock, Exit.then]
      refine bodyPost_ret (results_g rfl rfl HZ6.out rfl) rfl ?_
      exact ⟨A1, c1, rfl, o6.out, B6.out⟩

set_option maxRecDepth 100000 in
set_option maxHeartbeats 2000000 in
theorem rjoinedErr_any (n : Int) (A : Option Addr) (c : Nat) (es : List E3) (hn : es.length ≤ 1048576) (w : World) (h : Reads w w.heap.size 3 A es.length (edgeCells es)) :
    Calls Tryz.prog 50 #[.agg #[.int .i64 n, .slice A es.length c]] w fun e w' => e = .returned (.int .i64 (joinErr n es)) ∧ Below w.heap.size w w' := by
  have g0 := Blk.new w 24 #[.int .i64 n, .slice A es.length c]
  have hb0 : Below w.heap.size w (w.alloc (.cells #[.int .i64 n, .slice A es.length c] 24)) := (Below.refl _ _).alloc (Nat.le_refl _) _
  have c0 := g0.cell 0
  have c1 := g0.cell 1
  have GC := Lib.hid (fun (W : World) (hB : Below w.heap.size w W) => rgcheck_any n A c es hn W ((h.below hB).more hB.size))
  by_cases hz : checkG n es = 0
  · have hG := right_of hz
    have hlo := hG.lo
    have hhi := hG.hi
    obtain ⟨m, rfl⟩ := Int.eq_ofNat_of_zero_le (show 0 ≤ n by omega)
    have KC := Lib.hid (fun (W : World) (hB : Below w.heap.size w W) => rconnected_any m (by omega) A c es hn W ((h.below hB).more hB.size))
    have HE : Hid (joinErr m es = if connB m es = false then 13 else 0) := by unfold Hid joinErr; rw [if_neg (fun hc => hc hz)]; rfl
    rw [HE.out]
    rw [hz] at GC
    obtain ⟨b, hb⟩ : ∃ b, connB m es = b := ⟨_, rfl⟩
    rw [hb] at KC ⊢
    clear hz hG HE hb
    go_enter Tryz.func50, Tryz.ntmps50
    go_wp2_with fail
    refine (GC.out _ hb0).mono ?_
    rintro e w1 ⟨rfl, hb1⟩
    have B1 := hb0.trans (hb1.mono hb0.size)
    have g1 := g0.next hb1
    have c0 := g1.cell 0
    have c1 := g1.cell 1
    go_wp2_with fail
    refine (KC.out _ B1).mono ?_
    rintro e w2 ⟨rfl, hb2⟩
    have B2 := B1.trans (hb2.mono B1.size)
    cases b
    · go_wp2
      go_ret
      exact ⟨rfl, B2⟩
    · go_wp2
      go_ret
      exact ⟨rfl, B2⟩
  · have HE : Hid (joinErr n es = checkG n es) := by unfold Hid joinErr; rw [if_pos hz]
    rw [HE.out]
    obtain ⟨z, hzz⟩ : ∃ z, checkG n es = z := ⟨_, rfl⟩
    rw [hzz] at GC hz ⊢
    have hb : (z != 0) = true := by simpa using hz
    clear hz hzz HE
    go_enter Tryz.func50, Tryz.ntmps50
    go_wp2_with fail
    refine (GC.out _ hb0).mono ?_
    rintro e w1 ⟨rfl, hb1⟩
    go_wp2
    go_ret
    exact ⟨rfl, hb0.trans (hb1.mono hb0.size)⟩
end Go.Proofs.YtnbikkcalcpedaaGreatDoor

