/-
  For every graph, sink and list of single edges the law TreebijectionReturns answers true: from a tree to its configuration and back, and the other way round, nothing is changed. There are no conditions.
-/
import Derived.Test.YtghigdcpinengaaGreatK43
import Derived.Test.YtghigdcpinengaaGreatK51
import Derived.Test.YtghigdcpinengaaGreatK52
import Derived.Test.YtghigdcpinengaaGreatK36
namespace Go.Proofs.YtghigdcpinengaaGreat
open Go.RowKit

set_option maxRecDepth 100000 in
set_option maxHeartbeats 8000000 in
theorem treebijectionReturns_walk (w : World) (n : Int) (A : Option Addr) (c : Nat) (es : List E3) (_hm : es.length ≤ maxLen) (_hw : (Lit.int .i64 n).wf = true) (h : Reads w w.heap.size 3 A es.length (edgeCells es)) (q : Int) (_hq : (Lit.int .i64 q).wf = true)
    (B : Option Addr) (d : Nat) (xs : List Int) (_hm' : xs.length ≤ maxLen) (_hw' : ∀ x ∈ xs, (Lit.int .i64 x).wf = true) (h' : Reads w w.heap.size 1 B xs.length (ints xs)) :
    Calls Tryz.prog 5 #[.agg #[.int .i64 n, .slice A es.length c], .int .i64 q, .slice B xs.length d] w fun e w' => e = .returned (.bool true) ∧ Below w.heap.size w w' := by
  have RC := Lib.hid (fun w h => right30_any n A c es q w h)
  have AW := Lib.hid (fun w => awake30_any w)
  have g := Blk.new w 24 #[.int .i64 n, .slice A es.length c]
  have hB : Below w.heap.size w (w.alloc (.cells #[.int .i64 n, .slice A es.length c] 24)) := (Below.refl _ _).alloc (Nat.le_refl _) _
  have k0 := g.cell 0
  have k1 := g.cell 1
  by_cases hr : right30B n es q = true
  · rw [hr] at RC
    obtain ⟨m, p, rfl, rfl, hp, hm5, hlen, hm8, hG, hC, hck, hj, hroot⟩ := right30_parts hr
    by_cases hl : xs.length ≤ 30
    · have hlb : decide ((xs.length : Int) > 30) = false := decide_eq_false (by omega)
      have hl2 : ¬ 30 < xs.length := by omega
      have TC := Lib.hid (fun w h h' => rtcheck_any m A c es hlen B d xs (by omega) w h h')
      by_cases ht : treeErr m es xs = 0
      · rw [ht] at TC
        obtain ⟨m', t, hmm, rfl, hR⟩ := treeR_of ht
        obtain rfl : m = m' := by omega
        have hz : grownErr m es p (nI t) = 0 := by unfold grownErr; rw [if_neg (fun h => h ht), if_neg (by omega)]
        have hcE : confFE m es p (nI t) = (confN (endsL es) m p t, 0) := by unfold confFE; rw [if_pos hz, nI_toNat]; rfl
        obtain ⟨hcz, _⟩ := conf_cfg hj hR hp (by omega)
        have hcl : (confN (endsL es) m p t).length = m := (conf_facts hR.hT.bd hp t).1
        have hbE := (cfg_zero hcz).1
        have htE : treeFE m es p (confN (endsL es) m p t) = (nI t, nI (fireC_ (endsL es) m p (confN (endsL es) m p t)).order, 0) := by
          unfold treeFE; rw [if_pos hcz]
          simp only [Int.toNat_natCast]
          rw [tree_conf hR.hT.bd hp hR.tr]
        obtain ⟨C, hCC⟩ : ∃ C, confN (endsL es) m p t = C := ⟨_, rfl⟩
        rw [hCC] at hcE hcl hbE htE
        rw [nI_length] at h' hl hlb hl2 TC ⊢
        have C1 : Hid (∀ (B : Option Addr) (d : Nat) (w : World) (_ : Reads w w.heap.size 3 A es.length (edgeCells es)) (_ : Reads w w.heap.size 1 B t.length (ints (nI t))), Calls Tryz.prog 18 #[.agg #[.int .i64 m, .slice A es.length c], .int .i64 p, .slice B t.length d] w fun e w' => ∃ A' c', e = .returned (.tuple #[.slice A' m c', .int .i64 0]) ∧ Reads w' w'.heap.size 1 A' m (ints C) ∧ Below w.heap.size w w') := by
          intro B d w h h'
          have := config30_any m p A c es (by omega) (fun _ => by omega) B d (nI t) (by rw [nI_length]; omega) w h (by rw [nI_length]; exact h')
          rw [hcE, nI_length] at this
          refine this.mono ?_
          rintro e w' ⟨A', c', rfl, o, hb⟩
          have hrd := o.reads
          dsimp only at hrd ⊢
          rw [hcl] at hrd ⊢
          exact ⟨A', c', rfl, hrd, hb⟩
        have T1 : Hid (∀ (B : Option Addr) (d : Nat) (w : World) (_ : Reads w w.heap.size 3 A es.length (edgeCells es)) (_ : Reads w w.heap.size 1 B m (ints C)), Calls Tryz.prog 14 #[.agg #[.int .i64 m, .slice A es.length c], .int .i64 p, .slice B m d] w fun e w' => ∃ A1 c1 A2 k2 c2, e = .returned (.tuple #[.slice A1 t.length c1, .slice A2 k2 c2, .int .i64 0]) ∧ Reads w' w'.heap.size 1 A1 t.length (ints (nI t)) ∧ Below w.heap.size w w') := by
          intro B d w h h'
          have := ttree30_any m p A c es (by omega) (fun _ => by omega) B d C (by omega) w h (by rw [hcl]; exact h')
          rw [htE, hcl] at this
          refine this.mono ?_
          rintro e w' ⟨A1, c1, A2, c2, rfl, o1, _, hb⟩
          have hrd := o1.reads
          dsimp only at hrd ⊢
          rw [nI_length] at hrd ⊢
          exact ⟨A1, c1, A2, _, c2, rfl, hrd, hb⟩
        have E1 : Hid (∀ (B : Option Addr) (d : Nat) (B' : Option Addr) (d' : Nat) (w : World) (_ : Reads w w.heap.size 1 B t.length (ints (nI t))) (_ : Reads w w.heap.size 1 B' t.length (ints (nI t))), Calls Tryz.prog 25 #[.slice B t.length d, .slice B' t.length d'] w fun e w' => e = .returned (.bool true) ∧ Below w.heap.size w w') := by
          intro B d B' d' w h h'
          have := iequal_any B d (nI t) B' d' (nI t) (by rw [nI_length]; omega) w (by rw [nI_length]; exact h) (by rw [nI_length]; exact h')
          rw [decide_eq_true rfl, nI_length] at this
          exact this
        have E2 : Hid (∀ (B : Option Addr) (d : Nat) (B' : Option Addr) (d' : Nat) (w : World) (_ : Reads w w.heap.size 1 B m (ints C)) (_ : Reads w w.heap.size 1 B' m (ints C)), Calls Tryz.prog 28 #[.slice B m d, .slice B' m d'] w fun e w' => e = .returned (.bool true) ∧ Below w.heap.size w w') := by
          intro B d B' d' w h h'
          have := dequal_any B d C B' d' C (by omega) w (by rw [hcl]; exact h) (by rw [hcl]; exact h')
          rw [decide_eq_true rfl, hcl] at this
          exact this
        have K1 : Hid (∀ (B : Option Addr) (d : Nat) (w : World) (_ : Reads w w.heap.size 3 A es.length (edgeCells es)) (_ : Reads w w.heap.size 1 B m (ints C)), Calls Tryz.prog 29 #[.agg #[.int .i64 m, .slice A es.length c], .int .i64 p, .slice B m d] w fun e w' => e = .returned (.int .i64 0) ∧ Below w.heap.size w w') := by
          intro B d w h h'
          have := rbcheck_any m A c es (by omega) p B d C (by omega) w h (by rw [hcl]; exact h')
          rw [hbE, hcl] at this
          exact this
        clear hr hz hcE hcz hcl hbE htE hCC ht hR hG hC hck hj hroot hmm
        go_enter Tryz.func5, Tryz.ntmps5
        go_wp2_with fail
        refine (RC.out _ ((h.below hB).more hB.size)).mono ?_
        rintro e wn ⟨rfl, hb⟩
        have g := g.next hb
        have hB := hB.trans (hb.mono hB.size)
        have k0 := g.cell 0
        have k1 := g.cell 1
        clear hb
        go_wp2_with fail
        refine (TC.out _ ((h.below hB).more hB.size) ((h'.below hB).more hB.size)).mono ?_
        rintro e wn ⟨rfl, hb⟩
        have g := g.next hb
        have hB := hB.trans (hb.mono hB.size)
        have k0 := g.cell 0
        have k1 := g.cell 1
        clear hb
        go_wp2_with fail
        refine (C1.out _ _ _ ((h.below hB).more hB.size) ((h'.below hB).more hB.size)).mono ?_
        rintro e wn ⟨A1, d1, rfl, q1, hb⟩
        have g := g.next hb
        have hB := hB.trans (hb.mono hB.size)
        have k0 := g.cell 0
        have k1 := g.cell 1
        clear hb
        go_wp2_with fail
        refine (T1.out _ _ _ ((h.below hB).more hB.size) q1).mono ?_
        rintro e wn ⟨A2, d2, A3, m3, d3, rfl, q2, hb⟩
        have q1 := q1.next hb
        have g := g.next hb
        have hB := hB.trans (hb.mono hB.size)
        have k0 := g.cell 0
        have k1 := g.cell 1
        clear hb
        go_wp2_with fail
        refine (C1.out _ _ _ ((h.below hB).more hB.size) q2).mono ?_
        rintro e wn ⟨A4, d4, rfl, q4, hb⟩
        have q1 := q1.next hb
        have q2 := q2.next hb
        have g := g.next hb
        have hB := hB.trans (hb.mono hB.size)
        have k0 := g.cell 0
        have k1 := g.cell 1
        clear hb
        go_wp2_with fail
        refine (E1.out _ _ _ _ _ ((h'.below hB).more hB.size) q2).mono ?_
        rintro e wn ⟨rfl, hb⟩
        have q1 := q1.next hb
        have q2 := q2.next hb
        have q4 := q4.next hb
        have g := g.next hb
        have hB := hB.trans (hb.mono hB.size)
        have k0 := g.cell 0
        have k1 := g.cell 1
        clear hb
        go_wp2_with fail
        refine (E2.out _ _ _ _ _ q1 q4).mono ?_
        rintro e wn ⟨rfl, hb⟩
        have q1 := q1.next hb
        have g := g.next hb
        have hB := hB.trans (hb.mono hB.size)
        have k0 := g.cell 0
        have k1 := g.cell 1
        clear hb
        go_wp2_with fail
        refine (K1.out _ _ _ ((h.below hB).more hB.size) q1).mono ?_
        rintro e wn ⟨rfl, hb⟩
        have g := g.next hb
        have hB := hB.trans (hb.mono hB.size)
        have k0 := g.cell 0
        have k1 := g.cell 1
        clear hb
        go_wp2_with fail
        refine (AW.out _).mono ?_
        rintro e wn ⟨rfl, hb⟩
        have hB := hB.trans (hb.mono hB.size)
        go_wp2
        go_ret
        exact ⟨rfl, hB⟩
      · obtain ⟨z, hz⟩ : ∃ z, treeErr m es xs = z := ⟨_, rfl⟩
        rw [hz] at TC ht
        have hzb : (z != 0) = true := by simpa using ht
        clear ht hz hr
        go_enter Tryz.func5, Tryz.ntmps5
        go_wp2_with fail
        refine (RC.out _ ((h.below hB).more hB.size)).mono ?_
        rintro e wn ⟨rfl, hb⟩
        have g := g.next hb
        have hB := hB.trans (hb.mono hB.size)
        have k0 := g.cell 0
        have k1 := g.cell 1
        clear hb
        go_wp2_with fail
        refine (TC.out _ ((h.below hB).more hB.size) ((h'.below hB).more hB.size)).mono ?_
        rintro e wn ⟨rfl, hb⟩
        have g := g.next hb
        have hB := hB.trans (hb.mono hB.size)
        have k0 := g.cell 0
        have k1 := g.cell 1
        clear hb
        go_wp2_with fail
        refine (AW.out _).mono ?_
        rintro e wn ⟨rfl, hb⟩
        have hB := hB.trans (hb.mono hB.size)
        go_wp2
        go_ret
        exact ⟨rfl, hB⟩
    · have hlb : decide ((xs.length : Int) > 30) = true := decide_eq_true (by omega)
      have hl2 : (30 : Int) < (xs.length : Int) := by omega
      clear hr hl
      go_enter Tryz.func5, Tryz.ntmps5
      go_wp2_with fail
      refine (RC.out _ ((h.below hB).more hB.size)).mono ?_
      rintro e wn ⟨rfl, hb⟩
      have g := g.next hb
      have hB := hB.trans (hb.mono hB.size)
      have k0 := g.cell 0
      have k1 := g.cell 1
      clear hb
      go_wp2_with fail
      refine (AW.out _).mono ?_
      rintro e wn ⟨rfl, hb⟩
      have hB := hB.trans (hb.mono hB.size)
      go_wp2
      go_ret
      exact ⟨rfl, hB⟩
  · have hr : right30B n es q = false := by rw [← Bool.not_eq_true]; exact hr
    rw [hr] at RC
    clear hr
    go_enter Tryz.func5, Tryz.ntmps5
    go_wp2_with fail
    refine (RC.out _ ((h.below hB).more hB.size)).mono ?_
    rintro e wn ⟨rfl, hb⟩
    have g := g.next hb
    have hB := hB.trans (hb.mono hB.size)
    have k0 := g.cell 0
    have k1 := g.cell 1
    clear hb
    go_wp2_with fail
    refine (AW.out _).mono ?_
    rintro e wn ⟨rfl, hb⟩
    have hB := hB.trans (hb.mono hB.size)
    go_wp2
    go_ret
    exact ⟨rfl, hB⟩

namespace lawTreebijectionReturns
open Go.ChangeShapes Go.WideShapes Go.ChangeAt Go.RowKit
set_option linter.unusedVariables false
set_option maxRecDepth 100000 in
theorem lifted (os : Os) (started : os.Started) (H : Type) (enc : TypeId × Value → H) :
    ReturnsInHanded {} Tryz.checked os 5 .any (Rows.treebijectionReturnsSpec.pre6 enc Tryz.prog Tryz.f5 Rows.treebijectionReturnsRow.domain false) (Rows.treebijectionReturnsSpec.post enc Tryz.prog Tryz.f5 false true false false) := by
  refine returnsInHanded_of_change (C := Tryz.checked) own started (by kernel_rfl) Tryz.func5
    (ChangeSpec.witness6 (enc := enc) (C := Tryz.checked) false ⟨#[], #[.agg #[.int .i64 0, .slice none 0 0], .int .i64 0, .slice none 0 0], []⟩ 8 (by kernel_rfl) (by kernel_rfl) (by kernel_rfl) (by kernel_rfl)) ?_
  intro W base args ds gs before hval0 hW hcnd _
  have hval : ∀ (j : Nat) t v, Tryz.f5.params[j]? = some t → args[j]? = some v → Value.okWide Tryz.prog W .any base t v := hval0
  have hW' := hW
  obtain ⟨p, q, hA0, hV, rfl, hfz, hnd⟩ := hW
  have hA : DataW.TrodAll enc Tryz.prog W 0 (fun _ => true) true Tryz.f5.params.toList args.toList ds p := hA0
  rw [Tryz.params5] at hA hval
  obtain ⟨v0, vs0, d0, ds0, p0, q0, hargs, rfl, rfl, h0, r0⟩ := trodAll_cons hA
  obtain ⟨v1, vs1, d1, ds1, p1, q1, rfl, rfl, rfl, h1, r1⟩ := trodAll_cons r0
  obtain ⟨v2, vs2, d2, ds2, p2, q2, rfl, rfl, rfl, h2, r2⟩ := trodAll_cons r1
  obtain ⟨rfl, rfl, rfl⟩ := trodAll_nil r2
  obtain rfl : args = #[v0, v1, v2] := by cases args; simp_all
  obtain ⟨rfl, rfl⟩ := trodVars_none hV
  obtain ⟨cs0, rfl, _⟩ := okWide_struct Tryz.underlying24 (hval 0 24 v0 rfl rfl)
  have k0 := h0
  have lt0 : ∀ x ∈ p0, x.block < W.heap.size := by obtain ⟨m, hm⟩ := k0; exact DataW.trod_lt m _ _ _ hm
  obtain ⟨_, hf0⟩ := h0
  obtain ⟨n0, a0, cap0, xs0, hcs0, hm0, hr0, hw0⟩ := open_graph hf0
  obtain rfl : cs0 = #[.int .i64 n0, .slice a0 xs0.length cap0] := Array.toList_inj.1 hcs0
  obtain ⟨a1, rfl, rfl, rfl, w1⟩ := open_int Tryz.underlying3 (hval 1 3 v1 rfl rfl) h1
  obtain ⟨a2, len2, cap2, rfl⟩ := okWide_slice Tryz.underlying25 (hval 2 25 v2 rfl rfl)
  have k2 := h2
  have lt2 : ∀ x ∈ p2, x.block < W.heap.size := by obtain ⟨m, hm⟩ := k2; exact DataW.trod_lt m _ _ _ hm
  obtain ⟨z2, w2⟩ : ∃ zs, IsRow .i64 W a2 len2 cap2 zs := by
    obtain ⟨fuel, hf⟩ := h2
    rcases open_ints Tryz.underlying25 Tryz.underlying3 (by kernel_rfl) hf with ⟨hcs, _⟩ | ⟨x, l, c, zs, hcs, _, hl, hm, hz, _, hcell, hwz⟩
    · simp [Value.cells] at hcs
      obtain ⟨rfl, rfl, rfl⟩ := hcs
      exact ⟨[], .inl ⟨rfl, rfl, rfl, rfl⟩⟩
    · simp [Value.cells] at hcs
      obtain ⟨rfl, rfl, rfl⟩ := hcs
      exact ⟨zs, .inr ⟨_, rfl, hl, hm, by simpa using hz, hcell, hwz⟩⟩
  obtain ⟨xs2, rfl, hm2, hr2, hw2⟩ := w2.reads
  clear hA0 hval0
  refine (treebijectionReturns_walk W n0 a0 cap0 xs0 hm0 hw0 hr0 a1 w1 a2 cap2 xs2 hm2 hw2 hr2).mono fun e W' ⟨he, bel⟩ => ?_
  subst he
  exact ⟨_, rfl, _, _, _, [], _, [], hW', trodAll_mk1 (shut_bool Tryz.underlying4 _), (trodAll_cons_mk (Below.trod laidOut (by kernel_rfl) (of_decide_eq_true (by kernel_rfl)) k0 bel lt0) (trodAll_cons_mk (shut_int Tryz.underlying3 w1) (trodAll_cons_mk (Below.trod laidOut (by kernel_rfl) (of_decide_eq_true (by kernel_rfl)) k2 bel lt2) trodAll_mk0))), rfl, bel.frame _, fun h => by cases h⟩

theorem over : Rows.treebijectionReturnsRow.holds Tryz.pinned (OpenSpec.ofChange Rows.treebijectionReturnsSpec) :=
  OpenClaim.holds_of_wide 5 Tryz.f5 rfl rfl rfl rfl rfl rfl rfl ⟨rfl, rfl, rfl, rfl, rfl⟩ rfl rfl rfl rfl rfl (by kernel_rfl) Tryz.func5 (by kernel_rfl)
    (of_decide_eq_true (by kernel_rfl)) (by unfold Func.isWrapper; first | (rw [if_pos (by decide +kernel)]; kernel_rfl) | (rw [if_neg (by decide +kernel)]; exact ⟨rfl, rfl⟩))
    (fun os started H enc _ => lifted os started H enc)

/-- For every graph, sink and list of single edges the law answers true: from a tree to its configuration and back, and the other way round, nothing is changed. -/
theorem proved : Rows.TreebijectionReturnsSaid := over
#print axioms proved
end lawTreebijectionReturns
end Go.Proofs.YtghigdcpinengaaGreat
