/-
  For every graph, sink and list of single edges the law TreebijectionUnused answers true: the number of unused single edges is the genus less the degree of the configuration, and none of them is in the tree. There are no conditions.
-/
import Derived.Test.YtghigdcpinengaaGreatK47
import Derived.Test.YtghigdcpinengaaGreatK48
import Derived.Test.YtghigdcpinengaaGreatK49
import Derived.Test.YtghigdcpinengaaGreatK39
import Derived.Test.YtghigdcpinengaaGreatK02
import Derived.Test.YtghigdcpinengaaGreatK32
namespace Go.Proofs.YtghigdcpinengaaGreat
open Go.RowKit
theorem mem_le_sum {xs : List Int} (h : ∀ x ∈ xs, 0 ≤ x) : ∀ x ∈ xs, x ≤ xs.sum := by
  induction xs with
  | nil => intro x hx; cases hx
  | cons a l ih =>
    intro x hx
    have h1 := h a (by simp)
    have h2 : 0 ≤ l.sum := by
      clear ih hx h1
      induction l with
      | nil => simp
      | cons b l ih2 =>
        have := ih2 fun x hx => h x (by
          rcases List.mem_cons.1 hx with h1 | h1
          · rw [h1]; exact List.mem_cons_self
          · exact List.mem_cons_of_mem _ (List.mem_cons_of_mem _ h1))
        have := h b (by simp)
        rw [List.sum_cons]; omega
    rw [List.sum_cons]
    rcases List.mem_cons.1 hx with rfl | hx
    · omega
    · have := ih (fun x hx => h x (by simp [hx])) x hx
      omega
section
variable (gU : Nat) (A : Option Addr) (c : Nat) (us : List Int) (hn : us.length ≤ 1048576)
include hn
set_option maxHeartbeats 1000000 in
theorem unin1_any (x : Int) (w : World) (hU : Blk w gU 25 #[.slice A us.length c]) (hr : Reads w w.heap.size 1 A us.length (ints us)) :
    Calls Tryz.prog 32 #[.int .i64 x, .pointer (some ⟨gU, 0, none⟩)] w fun e w' => e = .returned (.bool (decide (x ∈ us))) ∧ w = w' := by
  have c0 := hU.cell 0
  have HC := Lib.hid (contains_any A c us hn x w hr)
  go_enter Tryz.func32, Tryz.ntmps32
  go_wp2_with fail
  refine (HC.out).mono ?_
  rintro e w1 ⟨rfl, rfl⟩
  go_wp2
  go_ret
  exact ⟨rfl, rfl⟩
theorem unout1_any (B : Option Addr) (d : Nat) (xs : List Int) (hx : xs.length ≤ 1048576) (w : World) (hU : Blk w gU 25 #[.slice A us.length c]) (hr : Reads w w.heap.size 1 A us.length (ints us)) (h : Reads w w.heap.size 1 B xs.length (ints xs)) :
    Calls Tryz.prog 31 #[.slice B xs.length d, .func (.func 32) #[] #[.pointer (some ⟨gU, 0, none⟩)]] w fun e w' => e = .returned (.bool (xs.any fun x => decide (x ∈ us))) ∧ ∃ m, w' = w.drewN m :=
  containsf_any 32 (.pointer (some ⟨gU, 0, none⟩)) (enters_of (P := Tryz.prog) Tryz.func32 (by kernel_rfl) rfl) (fun x => decide (x ∈ us)) B d xs hx w h fun x _ m =>
    (unin1_any gU A c us hn x (w.drewN m) (hU.drewN m) (by exact hr)).mono fun _ _ h => ⟨h.1, m, h.2.symm⟩
end

set_option maxRecDepth 100000 in
set_option maxHeartbeats 8000000 in
theorem treebijectionUnused_walk (w : World) (n : Int) (A : Option Addr) (c : Nat) (es : List E3) (_hm : es.length ≤ maxLen) (_hw : (Lit.int .i64 n).wf = true) (h : Reads w w.heap.size 3 A es.length (edgeCells es)) (q : Int) (_hq : (Lit.int .i64 q).wf = true)
    (B : Option Addr) (d : Nat) (xs : List Int) (_hm' : xs.length ≤ maxLen) (_hw' : ∀ x ∈ xs, (Lit.int .i64 x).wf = true) (h' : Reads w w.heap.size 1 B xs.length (ints xs)) :
    Calls Tryz.prog 6 #[.agg #[.int .i64 n, .slice A es.length c], .int .i64 q, .slice B xs.length d] w fun e w' => e = .returned (.bool true) ∧ Below w.heap.size w w' := by
  have RC := Lib.hid (fun w h => right30_any n A c es q w h)
  have AW := Lib.hid (fun w => awake30_any w)
  obtain ⟨W0, hW0⟩ : ∃ W0, (w.alloc (.cells #[.int .i64 n, .slice A es.length c] 24)).alloc (.cells #[.slice B xs.length d] 25) = W0 := ⟨_, rfl⟩
  have g : Blk W0 w.heap.size 24 #[.int .i64 n, .slice A es.length c] := by rw [← hW0]; exact (Blk.new w 24 #[.int .i64 n, .slice A es.length c]).alloc _
  have gt : Blk W0 (w.heap.size + 1) 25 #[.slice B xs.length d] := by
    have e : w.heap.size + 1 = (w.alloc (.cells #[.int .i64 n, .slice A es.length c] 24)).heap.size := by simp
    rw [← hW0, e]; exact Blk.new _ _ _
  have hB : Below w.heap.size w W0 := by rw [← hW0]; exact ((Below.refl _ _).alloc (Nat.le_refl _) _).alloc (by simp) _
  have HW0 := Lib.hid hW0
  clear hW0
  have k0 := g.cell 0
  have k1 := g.cell 1
  have p0 := gt.cell 0
  by_cases hr : right30B n es q = true
  · rw [hr] at RC
    obtain ⟨m, p, rfl, rfl, hp, hm5, hlen, hm8, hG, hC, hck, hj, hroot⟩ := right30_parts hr
    by_cases hl : xs.length ≤ 30
    · have hlb : decide ((xs.length : Int) > 30) = false := decide_eq_false (by omega)
      have hl2 : ¬ 30 < xs.length := by omega
      have TC := Lib.hid (fun w h h' => rtcheck_any m A c es hlen B d xs (by omega) w h h')
      by_cases ht : treeErr m es xs = 0
      · rw [ht] at TC
        obtain ⟨m', t, hmm, hxt, hR⟩ := treeR_of ht
        obtain rfl : m = m' := by omega
        have hz : grownErr m es p xs = 0 := by unfold grownErr; rw [if_neg (fun h => h ht), if_neg (by omega)]
        have hxn : xs.map Int.toNat = t := by rw [hxt, nI_toNat]
        have hcE : confFE m es p xs = (confN (endsL es) m p t, 0) := by unfold confFE; rw [if_pos hz, hxn]; rfl
        have huE : unusedFE m es p xs = (nI (unusedN (endsL es) m p t), 0) := by unfold unusedFE; rw [if_pos hz, hxn]; rfl
        obtain ⟨hcl, hcn, _, hcs⟩ := conf_facts hR.hT.bd hp t
        obtain ⟨hul, hut, hus⟩ := unused_facts hR.hT.bd hp hR.tr
        have hp1 : (partsTo es m m).1 = 1 := (partsTo_connected hG).2 hC
        obtain ⟨C, hCC⟩ : ∃ C, confN (endsL es) m p t = C := ⟨_, rfl⟩
        obtain ⟨U, hUU⟩ : ∃ U, unusedN (endsL es) m p t = U := ⟨_, rfl⟩
        rw [hCC] at hcE hcl hcn hcs hul
        rw [hUU] at huE hul hut hus
        have hUl : U.length ≤ 8 := by
          have h3 := nodup_sub_le (hus.1.imp Nat.ne_of_lt) (m := List.range (endsL es).length) (fun x hx => List.mem_range.2 (hus.2 x hx))
          rw [List.length_range] at h3
          omega
        have hcb : ∀ x ∈ C, 0 ≤ x ∧ x ≤ 1000000 := by
          have h0 : ∀ x ∈ C, 0 ≤ x := by
            intro x hx
            obtain ⟨i, hi⟩ := List.mem_iff_getElem?.1 hx
            have := hcn i
            rw [List.getD_eq_getElem?_getD, hi] at this
            exact this
          intro x hx
          have := mem_le_sum h0 x hx
          have := h0 x hx
          omega
        have C1 : Hid (∀ (w : World) (_ : Reads w w.heap.size 3 A es.length (edgeCells es)) (_ : Reads w w.heap.size 1 B xs.length (ints xs)), Calls Tryz.prog 18 #[.agg #[.int .i64 m, .slice A es.length c], .int .i64 p, .slice B xs.length d] w fun e w' => ∃ A' c', e = .returned (.tuple #[.slice A' m c', .int .i64 0]) ∧ Reads w' w'.heap.size 1 A' m (ints C) ∧ Below w.heap.size w w') := by
          intro w h h'
          have := config30_any m p A c es (by omega) (fun _ => by omega) B d xs (by omega) w h h'
          rw [hcE] at this
          refine this.mono ?_
          rintro e w' ⟨A', c', rfl, o, hb⟩
          have hrd := o.reads
          dsimp only at hrd ⊢
          rw [hcl] at hrd ⊢
          exact ⟨A', c', rfl, hrd, hb⟩
        have U1 : Hid (∀ (w : World) (_ : Reads w w.heap.size 3 A es.length (edgeCells es)) (_ : Reads w w.heap.size 1 B xs.length (ints xs)), Calls Tryz.prog 20 #[.agg #[.int .i64 m, .slice A es.length c], .int .i64 p, .slice B xs.length d] w fun e w' => ∃ A' c', e = .returned (.tuple #[.slice A' U.length c', .int .i64 0]) ∧ Reads w' w'.heap.size 1 A' U.length (ints (nI U)) ∧ Below w.heap.size w w') := by
          intro w h h'
          have := unused30_any m p A c es (by omega) (fun _ => by omega) B d xs (by omega) w h h'
          rw [huE] at this
          refine this.mono ?_
          rintro e w' ⟨A', c', rfl, o, hb⟩
          have hrd := o.reads
          dsimp only at hrd ⊢
          rw [nI_length] at hrd ⊢
          exact ⟨A', c', rfl, hrd, hb⟩
        have E1 : Hid (∀ (B : Option Addr) (d : Nat) (w : World) (_ : Reads w w.heap.size 3 A es.length (edgeCells es)) (_ : Reads w w.heap.size 1 B U.length (ints (nI U))), Calls Tryz.prog 30 #[.agg #[.int .i64 m, .slice A es.length c], .slice B U.length d] w fun e w' => e = .returned (.int .i64 0) ∧ Below w.heap.size w w') := by
          intro B d w h h'
          have := redges_any m A c es hlen hG.ok B d (nI U) (by rw [nI_length]; omega) w h (by rw [nI_length]; exact h')
          rw [edg_ok hus, nI_length] at this
          exact this
        have F1 : Hid (∀ (B' : Option Addr) (d' : Nat) (w : World) (g : Nat) (_ : Blk w g 25 #[.slice B xs.length d]) (_ : Reads w w.heap.size 1 B xs.length (ints xs)) (_ : Reads w w.heap.size 1 B' U.length (ints (nI U))), Calls Tryz.prog 31 #[.slice B' U.length d', .func (.func 32) #[] #[.pointer (some ⟨g, 0, none⟩)]] w fun e w' => e = .returned (.bool false) ∧ Below w.heap.size w w') := by
          intro B' d' w g hU h' h''
          have := unout1_any g B d xs (by omega) B' d' (nI U) (by rw [nI_length]; omega) w hU h' (by rw [nI_length]; exact h'')
          rw [nI_length, show ((nI U).any fun x => decide (x ∈ xs)) = false from by
            rw [Bool.eq_false_iff]
            intro hc
            obtain ⟨x, hx, hd⟩ := List.any_eq_true.1 hc
            rw [hxt] at hd
            obtain ⟨y, hy, rfl⟩ := List.mem_map.1 hx
            exact hut y hy (mem_nI9.1 (of_decide_eq_true hd))] at this
          refine this.mono ?_
          rintro e w' ⟨rfl, k, rfl⟩
          exact ⟨rfl, below_drewN (Below.refl _ _) k⟩
        have G1 : Hid (∀ (w : World) (_ : Reads w w.heap.size 3 A es.length (edgeCells es)), Calls Tryz.prog 34 #[.agg #[.int .i64 m, .slice A es.length c]] w fun e w' => e = .returned (.int .i64 ((endsL es).length - m + 1)) ∧ Below w.heap.size w w') := fun w h => genus30_any m (by omega) A c es hlen hG hp1 w h
        have T1 : Hid (∀ (B : Option Addr) (d : Nat) (w : World) (_ : Reads w w.heap.size 1 B m (ints C)), Calls Tryz.prog 35 #[.slice B m d] w fun e w' => e = .returned (.int .i64 C.sum) ∧ Below w.heap.size w w') := by
          intro B d w h
          have := total30_any B d C (by omega) hcb w (by rw [hcl]; exact h)
          rw [hcl] at this
          refine this.mono ?_
          rintro e w' ⟨rfl, rfl⟩
          exact ⟨rfl, Below.refl _ _⟩
        have hel := endsL_length (N := m) hG.ok
        have hw1 : IntKind.i64.wrap (((endsL es).length : Int) - m + 1 - C.sum) = U.length := (IntWalk.i64_in _ (by omega)).trans hul.symm
        obtain ⟨M, hM⟩ : ∃ M : Int, ((endsL es).length : Int) - m + 1 = M := ⟨_, rfl⟩
        obtain ⟨S, hS⟩ : ∃ S : Int, C.sum = S := ⟨_, rfl⟩
        rw [hM] at G1 hw1
        rw [hS] at T1 hw1
        clear hr hz hcE huE hcl hcn hcs hul hut hus hp1 hCC hUU hcb ht hR hG hC hck hj hroot hmm hxt hxn hM hS hel
        go_enter Tryz.func6, Tryz.ntmps6
        go_wp2_with fail
        rw [HW0.out]
        refine (RC.out _ ((h.below hB).more hB.size)).mono ?_
        rintro e wn ⟨rfl, hb⟩
        have g := g.next hb
        have gt := gt.next hb
        have hB := hB.trans (hb.mono hB.size)
        have k0 := g.cell 0
        have k1 := g.cell 1
        have p0 := gt.cell 0
        clear hb
        go_wp2_with fail
        refine (TC.out _ ((h.below hB).more hB.size) ((h'.below hB).more hB.size)).mono ?_
        rintro e wn ⟨rfl, hb⟩
        have g := g.next hb
        have gt := gt.next hb
        have hB := hB.trans (hb.mono hB.size)
        have k0 := g.cell 0
        have k1 := g.cell 1
        have p0 := gt.cell 0
        clear hb
        go_wp2_with fail
        refine (C1.out _ ((h.below hB).more hB.size) ((h'.below hB).more hB.size)).mono ?_
        rintro e wn ⟨A1, d1, rfl, q1, hb⟩
        have g := g.next hb
        have gt := gt.next hb
        have hB := hB.trans (hb.mono hB.size)
        have k0 := g.cell 0
        have k1 := g.cell 1
        have p0 := gt.cell 0
        clear hb
        go_wp2_with fail
        refine (U1.out _ ((h.below hB).more hB.size) ((h'.below hB).more hB.size)).mono ?_
        rintro e wn ⟨A2, d2, rfl, q2, hb⟩
        have q1 := q1.next hb
        have g := g.next hb
        have gt := gt.next hb
        have hB := hB.trans (hb.mono hB.size)
        have k0 := g.cell 0
        have k1 := g.cell 1
        have p0 := gt.cell 0
        clear hb
        go_wp2_with fail
        refine (E1.out _ _ _ ((h.below hB).more hB.size) q2).mono ?_
        rintro e wn ⟨rfl, hb⟩
        have q1 := q1.next hb
        have q2 := q2.next hb
        have g := g.next hb
        have gt := gt.next hb
        have hB := hB.trans (hb.mono hB.size)
        have k0 := g.cell 0
        have k1 := g.cell 1
        have p0 := gt.cell 0
        clear hb
        go_wp2_with fail
        refine (F1.out _ _ _ _ gt ((h'.below hB).more hB.size) q2).mono ?_
        rintro e wn ⟨rfl, hb⟩
        have q1 := q1.next hb
        have q2 := q2.next hb
        have g := g.next hb
        have gt := gt.next hb
        have hB := hB.trans (hb.mono hB.size)
        have k0 := g.cell 0
        have k1 := g.cell 1
        have p0 := gt.cell 0
        clear hb
        go_wp2_with fail
        refine (G1.out _ ((h.below hB).more hB.size)).mono ?_
        rintro e wn ⟨rfl, hb⟩
        have q1 := q1.next hb
        have q2 := q2.next hb
        have g := g.next hb
        have gt := gt.next hb
        have hB := hB.trans (hb.mono hB.size)
        have k0 := g.cell 0
        have k1 := g.cell 1
        have p0 := gt.cell 0
        clear hb
        go_wp2_with fail
        refine (T1.out _ _ _ q1).mono ?_
        rintro e wn ⟨rfl, hb⟩
        have g := g.next hb
        have gt := gt.next hb
        have hB := hB.trans (hb.mono hB.size)
        have k0 := g.cell 0
        have k1 := g.cell 1
        have p0 := gt.cell 0
        clear hb
        go_wp2_with fail
        refine (AW.out _).mono ?_
        rintro e wn ⟨rfl, hb⟩
        have hB := hB.trans (hb.mono hB.size)
        go_wp2
        go_ret
        exact ⟨rfl, hB⟩
      · obtain ⟨z, hz⟩ : ∃ z, treeErr m es xs = z := ⟨_, rfl⟩
        rw [hz] at TC ht
        have hzb : (z != 0) = true := by simpa using ht
        clear ht hz hr
        go_enter Tryz.func6, Tryz.ntmps6
        go_wp2_with fail
        rw [HW0.out]
        refine (RC.out _ ((h.below hB).more hB.size)).mono ?_
        rintro e wn ⟨rfl, hb⟩
        have g := g.next hb
        have gt := gt.next hb
        have hB := hB.trans (hb.mono hB.size)
        have k0 := g.cell 0
        have k1 := g.cell 1
        have p0 := gt.cell 0
        clear hb
        go_wp2_with fail
        refine (TC.out _ ((h.below hB).more hB.size) ((h'.below hB).more hB.size)).mono ?_
        rintro e wn ⟨rfl, hb⟩
        have g := g.next hb
        have gt := gt.next hb
        have hB := hB.trans (hb.mono hB.size)
        have k0 := g.cell 0
        have k1 := g.cell 1
        have p0 := gt.cell 0
        clear hb
        go_wp2_with fail
        refine (AW.out _).mono ?_
        rintro e wn ⟨rfl, hb⟩
        have hB := hB.trans (hb.mono hB.size)
        go_wp2
        go_ret
        exact ⟨rfl, hB⟩
    · have hlb : decide ((xs.length : Int) > 30) = true := decide_eq_true (by omega)
      have hl2 : (30 : Int) < (xs.length : Int) := by omega
      clear hr hl
      go_enter Tryz.func6, Tryz.ntmps6
      go_wp2_with fail
      rw [HW0.out]
      refine (RC.out _ ((h.below hB).more hB.size)).mono ?_
      rintro e wn ⟨rfl, hb⟩
      have g := g.next hb
      have gt := gt.next hb
      have hB := hB.trans (hb.mono hB.size)
      have k0 := g.cell 0
      have k1 := g.cell 1
      have p0 := gt.cell 0
      clear hb
      go_wp2_with fail
      refine (AW.out _).mono ?_
      rintro e wn ⟨rfl, hb⟩
      have hB := hB.trans (hb.mono hB.size)
      go_wp2
      go_ret
      exact ⟨rfl, hB⟩
  · have hr : right30B n es q = false := by rw [← Bool.not_eq_true]; exact hr
    rw [hr] at RC
    clear hr
    go_enter Tryz.func6, Tryz.ntmps6
    go_wp2_with fail
    rw [HW0.out]
    refine (RC.out _ ((h.below hB).more hB.size)).mono ?_
    rintro e wn ⟨rfl, hb⟩
    have g := g.next hb
    have gt := gt.next hb
    have hB := hB.trans (hb.mono hB.size)
    have k0 := g.cell 0
    have k1 := g.cell 1
    have p0 := gt.cell 0
    clear hb
    go_wp2_with fail
    refine (AW.out _).mono ?_
    rintro e wn ⟨rfl, hb⟩
    have hB := hB.trans (hb.mono hB.size)
    go_wp2
    go_ret
    exact ⟨rfl, hB⟩

namespace lawTreebijectionUnused
open Go.ChangeShapes Go.WideShapes Go.ChangeAt Go.RowKit
set_option linter.unusedVariables false
set_option maxRecDepth 100000 in
theorem lifted (os : Os) (started : os.Started) (H : Type) (enc : TypeId × Value → H) :
    ReturnsInHanded {} Tryz.checked os 6 .any (Rows.treebijectionUnusedSpec.pre6 enc Tryz.prog Tryz.f6 Rows.treebijectionUnusedRow.domain false) (Rows.treebijectionUnusedSpec.post enc Tryz.prog Tryz.f6 false true false false) := by
  refine returnsInHanded_of_change (C := Tryz.checked) own started (by kernel_rfl) Tryz.func6
    (ChangeSpec.witness6 (enc := enc) (C := Tryz.checked) false ⟨#[], #[.agg #[.int .i64 0, .slice none 0 0], .int .i64 0, .slice none 0 0], []⟩ 8 (by kernel_rfl) (by kernel_rfl) (by kernel_rfl) (by kernel_rfl)) ?_
  intro W base args ds gs before hval0 hW hcnd _
  have hval : ∀ (j : Nat) t v, Tryz.f6.params[j]? = some t → args[j]? = some v → Value.okWide Tryz.prog W .any base t v := hval0
  have hW' := hW
  obtain ⟨p, q, hA0, hV, rfl, hfz, hnd⟩ := hW
  have hA : DataW.TrodAll enc Tryz.prog W 0 (fun _ => true) true Tryz.f6.params.toList args.toList ds p := hA0
  rw [Tryz.params6] at hA hval
  obtain ⟨v0, vs0, d0, ds0, p0, q0, hargs, rfl, rfl, h0, r0⟩ := trodAll_cons hA
  obtain ⟨v1, vs1, d1, ds1, p1, q1, rfl, rfl, rfl, h1, r1⟩ := trodAll_cons r0
  obtain ⟨v2, vs2, d2, ds2, p2, q2, rfl, rfl, rfl, h2, r2⟩ := trodAll_cons r1
  obtain ⟨rfl, rfl, rfl⟩ := trodAll_nil r2
  obtain rfl : args = #[v0, v1, v2] := by cases args; simp_all
  obtain ⟨rfl, rfl⟩ := trodVars_none hV
  obtain ⟨cs0, rfl, _⟩ := okWide_struct Tryz.underlying24 (hval 0 24 v0 rfl rfl)
  have k0 := h0
  have lt0 : ∀ x ∈ p0, x.block < W.heap.size := by obtain ⟨m, hm⟩ := k0; exact DataW.trod_lt m _ _ _ hm
  obtain ⟨_, hf0⟩ := h0
  obtain ⟨n0, a0, cap0, xs0, hcs0, hm0, hr0, hw0⟩ := open_graph hf0
  obtain rfl : cs0 = #[.int .i64 n0, .slice a0 xs0.length cap0] := Array.toList_inj.1 hcs0
  obtain ⟨a1, rfl, rfl, rfl, w1⟩ := open_int Tryz.underlying3 (hval 1 3 v1 rfl rfl) h1
  obtain ⟨a2, len2, cap2, rfl⟩ := okWide_slice Tryz.underlying25 (hval 2 25 v2 rfl rfl)
  have k2 := h2
  have lt2 : ∀ x ∈ p2, x.block < W.heap.size := by obtain ⟨m, hm⟩ := k2; exact DataW.trod_lt m _ _ _ hm
  obtain ⟨z2, w2⟩ : ∃ zs, IsRow .i64 W a2 len2 cap2 zs := by
    obtain ⟨fuel, hf⟩ := h2
    rcases open_ints Tryz.underlying25 Tryz.underlying3 (by kernel_rfl) hf with ⟨hcs, _⟩ | ⟨x, l, c, zs, hcs, _, hl, hm, hz, _, hcell, hwz⟩
    · simp [Value.cells] at hcs
      obtain ⟨rfl, rfl, rfl⟩ := hcs
      exact ⟨[], .inl ⟨rfl, rfl, rfl, rfl⟩⟩
    · simp [Value.cells] at hcs
      obtain ⟨rfl, rfl, rfl⟩ := hcs
      exact ⟨zs, .inr ⟨_, rfl, hl, hm, by simpa using hz, hcell, hwz⟩⟩
  obtain ⟨xs2, rfl, hm2, hr2, hw2⟩ := w2.reads
  clear hA0 hval0
  refine (treebijectionUnused_walk W n0 a0 cap0 xs0 hm0 hw0 hr0 a1 w1 a2 cap2 xs2 hm2 hw2 hr2).mono fun e W' ⟨he, bel⟩ => ?_
  subst he
  exact ⟨_, rfl, _, _, _, [], _, [], hW', trodAll_mk1 (shut_bool Tryz.underlying4 _), (trodAll_cons_mk (Below.trod laidOut (by kernel_rfl) (of_decide_eq_true (by kernel_rfl)) k0 bel lt0) (trodAll_cons_mk (shut_int Tryz.underlying3 w1) (trodAll_cons_mk (Below.trod laidOut (by kernel_rfl) (of_decide_eq_true (by kernel_rfl)) k2 bel lt2) trodAll_mk0))), rfl, bel.frame _, fun h => by cases h⟩

theorem over : Rows.treebijectionUnusedRow.holds Tryz.pinned (OpenSpec.ofChange Rows.treebijectionUnusedSpec) :=
  OpenClaim.holds_of_wide 6 Tryz.f6 rfl rfl rfl rfl rfl rfl rfl ⟨rfl, rfl, rfl, rfl, rfl⟩ rfl rfl rfl rfl rfl (by kernel_rfl) Tryz.func6 (by kernel_rfl)
    (of_decide_eq_true (by kernel_rfl)) (by unfold Func.isWrapper; first | (rw [if_pos (by decide +kernel)]; kernel_rfl) | (rw [if_neg (by decide +kernel)]; exact ⟨rfl, rfl⟩))
    (fun os started H enc _ => lifted os started H enc)

/-- For every graph, sink and list of single edges the law answers true: the number of unused single edges is the genus less the degree of the configuration, and none of them is in the tree. -/
theorem proved : Rows.TreebijectionUnusedSaid := over
#print axioms proved
end lawTreebijectionUnused
end Go.Proofs.YtghigdcpinengaaGreat
