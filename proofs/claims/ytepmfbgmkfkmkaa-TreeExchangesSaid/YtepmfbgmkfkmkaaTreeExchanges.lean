/-
  For every graph and two lists of single edges the law TreeExchanges answers true: for each single edge of a tree that another tree does not have, there is one of the other tree with which it can be swapped in both. There are no conditions.
-/
import Derived.Test.YtepmfbgmkfkmkaaK22
import Derived.Test.YtepmfbgmkfkmkaaK23
import Derived.Test.YtepmfbgmkfkmkaaK27
import Derived.Test.YtepmfbgmkfkmkaaK31
import Derived.Test.YtepmfbgmkfkmkaaK32
namespace Go.Proofs.Ytepmfbgmkfkmkaa
open Go.RowKit

set_option maxRecDepth 100000 in
set_option maxHeartbeats 16000000 in
theorem treeExchanges_walk (w : World) (n : Int) (A : Option Addr) (c : Nat) (es : List E3) (_hm : es.length ≤ maxLen) (_hw : (Lit.int .i64 n).wf = true) (h : Reads w w.heap.size 3 A es.length (edgeCells es))
    (B : Option Addr) (d : Nat) (xs : List Int) (_hm' : xs.length ≤ maxLen) (_hw' : ∀ x ∈ xs, (Lit.int .i64 x).wf = true) (h' : Reads w w.heap.size 1 B xs.length (ints xs))
    (D : Option Addr) (f : Nat) (us : List Int) (hm2 : us.length ≤ maxLen) (_hw2 : ∀ x ∈ us, (Lit.int .i64 x).wf = true) (h2 : Reads w w.heap.size 1 D us.length (ints us)) :
    Calls Try.prog 8 #[.agg #[.int .i64 n, .slice A es.length c], .slice B xs.length d, .slice D us.length f] w fun e w' => e = .returned (.bool true) ∧ Below w.heap.size w w' := by
  have FC := Lib.hid (fun w h => few13_any n A c es B xs.length d w h)
  have AW := Lib.hid (fun w => awake13_any w)
  obtain ⟨W0, hW0⟩ : ∃ W0, ((w.alloc (.cells #[.int .i64 n, .slice A es.length c] 24)).alloc (.cells #[.slice B xs.length d] 25)).alloc (.cells #[.slice D us.length f] 25) = W0 := ⟨_, rfl⟩
  have g : Blk W0 w.heap.size 24 #[.int .i64 n, .slice A es.length c] := by rw [← hW0]; exact ((Blk.new w 24 #[.int .i64 n, .slice A es.length c]).alloc _).alloc _
  have gt : Blk W0 (w.heap.size + 1) 25 #[.slice B xs.length d] := by rw [← hW0]; exact (Blk.newAt (by simp)).alloc _
  have gu : Blk W0 (w.heap.size + 1 + 1) 25 #[.slice D us.length f] := by rw [← hW0]; exact Blk.newAt (by simp)
  have hB : Below w.heap.size w W0 := by rw [← hW0]; exact (((Below.refl _ _).alloc (Nat.le_refl _) _).alloc (by simp) _).alloc (by simp; omega) _
  have HW0 := Lib.hid hW0
  clear hW0
  have k0 := g.cell 0
  have k1 := g.cell 1
  have p0 := gt.cell 0
  have q0 := gu.cell 0
  unfold maxLen at hm2
  by_cases hf : few13 n es xs.length = true
  · obtain ⟨hlen, hxl, _⟩ := few13_parts hf
    rw [hf] at FC
    clear hf
    by_cases hul : us.length ≤ 30
    · have hd30 : decide ((30 : Int) < (us.length : Int)) = false := decide_eq_false (by omega)
      have hd31 : decide (30 < us.length) = false := decide_eq_false (by omega)
      have RC := Lib.hid (fun w h h' => rtcheck_any n A c es hlen B d xs (by omega) w h h')
      have RU := Lib.hid (fun w h h' => rtcheck_any n A c es hlen D f us (by omega) w h h')
      by_cases hz : treeErr n es xs = 0
      · by_cases hz2 : treeErr n es us = 0
        · obtain ⟨m, t, rfl, hxt, hR⟩ := treeR_of hz
          obtain ⟨m2, u, hmm, hxu, hU⟩ := treeR_of hz2
          obtain rfl : m = m2 := by omega
          rw [hz] at RC
          rw [hz2] at RU
          have hxtl : xs.length = t.length := by rw [hxt, nI_length]
          have HCU : Hid (∀ (e : Nat) (W : World) (_ : Reads W W.heap.size 1 D us.length (ints us)), Calls Try.prog 31 #[.slice D us.length f, .int .i64 e] W fun en w' => en = .returned (.bool (decide (e ∈ u))) ∧ W = w') := by
            intro e W hr
            refine (contains_any D f us (by omega) e W hr).mono ?_
            rintro en w' ⟨rfl, he⟩
            exact ⟨by simp only [hxu, mem_nI], he⟩
          have EXC : Hid (∀ (e : Nat) (_ : e ∈ t) (_ : e ∉ u) (bg bt be bu : Nat) (W : World) (_ : Below w.heap.size w W) (_ : Blk W bg 24 #[.int .i64 m, .slice A es.length c]) (_ : Blk W bt 25 #[.slice B xs.length d]) (_ : Blk W be 3 #[.int .i64 e]) (_ : Blk W bu 25 #[.slice D us.length f]),
              Calls Try.prog 32 #[.slice D us.length f, .func (.func 33) #[] #[.pointer (some ⟨bg, 0, none⟩), .pointer (some ⟨bt, 0, none⟩), .pointer (some ⟨be, 0, none⟩), .pointer (some ⟨bu, 0, none⟩)]] W fun en w' => en = .returned (.bool true) ∧ Below W.heap.size W w') := by
            intro e he hne bg bt be bu W hB gG gT gE gU
            have eg := enters_of (P := Try.prog) Try.func33 (by kernel_rfl) rfl
            refine containsf4_any _ _ _ _ _ eg (fun x => exB m es xs us e x) D f us (by omega) W ((h2.below hB).more hB.size) ?_ ?_
            · intro x _ W' hb
              have hB' := hB.trans (hb.mono hB.size)
              exact exclos_any m A c es hlen B d xs (by omega) D f us (by omega) e x bg bt be bu W' ((h.below hB').more hB'.size) ((h'.below hB').more hB'.size) ((h2.below hB').more hB'.size) (gG.next hb) (gT.next hb) (gE.next hb) (gU.next hb)
            · obtain ⟨x, hx, e1, e2⟩ := exch_dual hR hU (hxt ▸ hz) (hxu ▸ hz2) he hne
              refine ⟨(x : Int), by rw [hxu]; exact mem_nI.2 hx, ?_⟩
              show exB m es xs us e x = true
              unfold exB
              rw [hxt, hxu, e1, e2]; rfl
          have HXT : Hid (∀ (j e : Nat), t[j]? = some e → (ints xs)[j]? = some (Value.int .i64 (e : Int))) := fun j e hj => by rw [hxt]; exact ints_at (nI_at hj)
          have HXL := Lib.hid hxtl
          have hxl30 : xs.length ≤ 30 := hxl
          clear hz hz2 hR hU hxt hxu hmm hxl hlen hxtl
          go_enter Try.func8, Try.ntmps8
          go_wp2_with fail
          try rw [HW0.out]
          refine (FC.out _ ((h.below hB).more hB.size)).mono ?_
          rintro e wn ⟨rfl, hb⟩
          have g := g.next hb
          have gt := gt.next hb
          have gu := gu.next hb
          have hB := hB.trans (hb.mono hB.size)
          have k0 := g.cell 0
          have k1 := g.cell 1
          have p0 := gt.cell 0
          have q0 := gu.cell 0
          clear hb
          go_wp2_with fail
          refine (RC.out _ ((h.below hB).more hB.size) ((h'.below hB).more hB.size)).mono ?_
          rintro e wn ⟨rfl, hb⟩
          have g := g.next hb
          have gt := gt.next hb
          have gu := gu.next hb
          have hB := hB.trans (hb.mono hB.size)
          have k0 := g.cell 0
          have k1 := g.cell 1
          have p0 := gt.cell 0
          have q0 := gu.cell 0
          clear hb
          go_wp2_with fail
          refine (RU.out _ ((h.below hB).more hB.size) ((h2.below hB).more hB.size)).mono ?_
          rintro e wn ⟨rfl, hb⟩
          have g := g.next hb
          have gt := gt.next hb
          have gu := gu.next hb
          have hB := hB.trans (hb.mono hB.size)
          have k0 := g.cell 0
          have k1 := g.cell 1
          have p0 := gt.cell 0
          have q0 := gu.cell 0
          clear hb
          have HB := Lib.hid hB
          have HGr := Lib.hid g
          have HGt := Lib.hid gt
          have HGu := Lib.hid gu
          obtain ⟨w0, rfl⟩ : ∃ w0 : World, w0 = wn := ⟨_, rfl⟩
          clear hB g gt gu k0 k1 q0 FC RC RU hd30 hd31
          go_wp2_with fail
          clear p0
          go_loopw [34] (fun i wr => ∃ j : Nat, i = .int .i64 j ∧ j ≤ xs.length ∧ Hid (Below w.heap.size w wr) ∧ Hid (Blk wr w.heap.size 24 #[.int .i64 m, .slice A es.length c]) ∧ Hid (Blk wr (w.heap.size + 1) 25 #[.slice B xs.length d]) ∧ Hid (Blk wr (w.heap.size + 1 + 1) 25 #[.slice D us.length f])) (fun i _ => xs.length - (intOf i).toNat)
          case atStart => exact ⟨0, rfl, by omega, HB, HGr, HGt, HGu⟩
          case round =>
            obtain ⟨j, rfl, hj, HB, HGr, HGt, HGu⟩ := hrel
            by_cases hlt : j < xs.length
            · have hij : (j : Int) < (xs.length : Int) := by omega
              obtain ⟨e, hej⟩ := get_of_lt (xs := t) (k := j) (by rw [← HXL.out]; exact hlt)
              have het := List.mem_of_getElem? hej
              obtain ⟨bB, oB, eB, hbB, qB⟩ := ((h'.below HB.out).more HB.out.size).at_ (HXT.out j e hej)
              subst eB
              have g := HGr.out.alloc (.cells #[.int .i64 (e : Int)] 3)
              have gt := HGt.out.alloc (.cells #[.int .i64 (e : Int)] 3)
              have gu := HGu.out.alloc (.cells #[.int .i64 (e : Int)] 3)
              have ge := Blk.new wr 3 #[.int .i64 (e : Int)]
              have hB := HB.out.alloc HB.out.size (.cells #[.int .i64 (e : Int)] 3)
              have k0 := g.cell 0
              have k1 := g.cell 1
              have p0 := gt.cell 0
              have q0 := gu.cell 0
              have e0 := ge.cell 0
              have CU := Lib.hid (HCU.out e _ ((h2.below hB).more hB.size))
              have HBN := Lib.hid hB
              have HG1 := Lib.hid g
              have HG2 := Lib.hid gt
              have HG3 := Lib.hid gu
              have HG4 := Lib.hid ge
              by_cases heu : e ∈ u
              · rw [decide_eq_true heu] at CU
                clear heu hej het
                go_wp2_with fail
                refine (CU.out).mono ?_
                rintro en w5 ⟨rfl, rfl⟩
                go_wp2
                go_roundw
                case rel => exact ⟨j + 1, by go_num, by omega, HBN, HG1, HG2, HG3⟩
                case measure => simp [intOf]; omega
              · rw [decide_eq_false heu] at CU
                have EX := Lib.hid (EXC.out e het heu w.heap.size (w.heap.size + 1) wr.heap.size (w.heap.size + 1 + 1) _ HBN.out HG1.out HG2.out HG4.out HG3.out)
                clear heu hej het
                go_wp2_with fail
                refine (CU.out).mono ?_
                rintro en w5 ⟨rfl, rfl⟩
                go_wp2_with fail
                refine (EX.out).mono ?_
                rintro en w6 ⟨rfl, hb⟩
                have HB6 := Lib.hid (HBN.out.trans (hb.mono HBN.out.size))
                have H1 := Lib.hid (HG1.out.next hb)
                have H2 := Lib.hid (HG2.out.next hb)
                have H3 := Lib.hid (HG3.out.next hb)
                go_wp2
                go_roundw
                case rel => exact ⟨j + 1, by go_num, by omega, HB6, H1, H2, H3⟩
                case measure => simp [intOf]; omega
            · obtain rfl : j = xs.length := by omega
              have hB := HB.out
              go_wp2_with fail
              refine (AW.out _).mono ?_
              rintro en wn ⟨rfl, hb⟩
              have hB := hB.trans (hb.mono hB.size)
              go_wp2
              go_ret
              exact ⟨rfl, hB⟩
        · obtain ⟨z, hzz⟩ : ∃ z, treeErr n es us = z := ⟨_, rfl⟩
          rw [hz] at RC
          rw [hzz] at RU hz2
          have hz3 : (z != 0) = true := by simpa using hz2
          clear hzz hz hz2 hxl hlen
          go_enter Try.func8, Try.ntmps8
          go_wp2_with fail
          try rw [HW0.out]
          refine (FC.out _ ((h.below hB).more hB.size)).mono ?_
          rintro e wn ⟨rfl, hb⟩
          have g := g.next hb
          have gt := gt.next hb
          have gu := gu.next hb
          have hB := hB.trans (hb.mono hB.size)
          have k0 := g.cell 0
          have k1 := g.cell 1
          have p0 := gt.cell 0
          have q0 := gu.cell 0
          clear hb
          go_wp2_with fail
          refine (RC.out _ ((h.below hB).more hB.size) ((h'.below hB).more hB.size)).mono ?_
          rintro e wn ⟨rfl, hb⟩
          have g := g.next hb
          have gt := gt.next hb
          have gu := gu.next hb
          have hB := hB.trans (hb.mono hB.size)
          have k0 := g.cell 0
          have k1 := g.cell 1
          have p0 := gt.cell 0
          have q0 := gu.cell 0
          clear hb
          go_wp2_with fail
          refine (RU.out _ ((h.below hB).more hB.size) ((h2.below hB).more hB.size)).mono ?_
          rintro e wn ⟨rfl, hb⟩
          have g := g.next hb
          have gt := gt.next hb
          have gu := gu.next hb
          have hB := hB.trans (hb.mono hB.size)
          have k0 := g.cell 0
          have k1 := g.cell 1
          have p0 := gt.cell 0
          have q0 := gu.cell 0
          clear hb
          go_wp2_with fail
          refine (AW.out _).mono ?_
          rintro e wn ⟨rfl, hb⟩
          have g := g.next hb
          have gt := gt.next hb
          have gu := gu.next hb
          have hB := hB.trans (hb.mono hB.size)
          have k0 := g.cell 0
          have k1 := g.cell 1
          have p0 := gt.cell 0
          have q0 := gu.cell 0
          clear hb
          go_wp2
          go_ret
          exact ⟨rfl, hB⟩
      · obtain ⟨z, hzz⟩ : ∃ z, treeErr n es xs = z := ⟨_, rfl⟩
        rw [hzz] at RC hz
        have hz3 : (z != 0) = true := by simpa using hz
        clear hzz hz hxl hlen RU
        go_enter Try.func8, Try.ntmps8
        go_wp2_with fail
        try rw [HW0.out]
        refine (FC.out _ ((h.below hB).more hB.size)).mono ?_
        rintro e wn ⟨rfl, hb⟩
        have g := g.next hb
        have gt := gt.next hb
        have gu := gu.next hb
        have hB := hB.trans (hb.mono hB.size)
        have k0 := g.cell 0
        have k1 := g.cell 1
        have p0 := gt.cell 0
        have q0 := gu.cell 0
        clear hb
        go_wp2_with fail
        refine (RC.out _ ((h.below hB).more hB.size) ((h'.below hB).more hB.size)).mono ?_
        rintro e wn ⟨rfl, hb⟩
        have g := g.next hb
        have gt := gt.next hb
        have gu := gu.next hb
        have hB := hB.trans (hb.mono hB.size)
        have k0 := g.cell 0
        have k1 := g.cell 1
        have p0 := gt.cell 0
        have q0 := gu.cell 0
        clear hb
        go_wp2_with fail
        refine (AW.out _).mono ?_
        rintro e wn ⟨rfl, hb⟩
        have g := g.next hb
        have gt := gt.next hb
        have gu := gu.next hb
        have hB := hB.trans (hb.mono hB.size)
        have k0 := g.cell 0
        have k1 := g.cell 1
        have p0 := gt.cell 0
        have q0 := gu.cell 0
        clear hb
        go_wp2
        go_ret
        exact ⟨rfl, hB⟩
    · have hd30 : decide ((30 : Int) < (us.length : Int)) = true := decide_eq_true (by omega)
      have hd31 : decide (30 < us.length) = true := decide_eq_true (by omega)
      clear hxl hlen
      go_enter Try.func8, Try.ntmps8
      go_wp2_with fail
      try rw [HW0.out]
      refine (FC.out _ ((h.below hB).more hB.size)).mono ?_
      rintro e wn ⟨rfl, hb⟩
      have g := g.next hb
      have gt := gt.next hb
      have gu := gu.next hb
      have hB := hB.trans (hb.mono hB.size)
      have k0 := g.cell 0
      have k1 := g.cell 1
      have p0 := gt.cell 0
      have q0 := gu.cell 0
      clear hb
      go_wp2_with fail
      refine (AW.out _).mono ?_
      rintro e wn ⟨rfl, hb⟩
      have g := g.next hb
      have gt := gt.next hb
      have gu := gu.next hb
      have hB := hB.trans (hb.mono hB.size)
      have k0 := g.cell 0
      have k1 := g.cell 1
      have p0 := gt.cell 0
      have q0 := gu.cell 0
      clear hb
      go_wp2
      go_ret
      exact ⟨rfl, hB⟩
  · have hf' : few13 n es xs.length = false := by simpa using hf
    rw [hf'] at FC
    clear hf hf'
    go_enter Try.func8, Try.ntmps8
    go_wp2_with fail
    try rw [HW0.out]
    refine (FC.out _ ((h.below hB).more hB.size)).mono ?_
    rintro e wn ⟨rfl, hb⟩
    have g := g.next hb
    have gt := gt.next hb
    have gu := gu.next hb
    have hB := hB.trans (hb.mono hB.size)
    have k0 := g.cell 0
    have k1 := g.cell 1
    have p0 := gt.cell 0
    have q0 := gu.cell 0
    clear hb
    go_wp2_with fail
    refine (AW.out _).mono ?_
    rintro e wn ⟨rfl, hb⟩
    have g := g.next hb
    have gt := gt.next hb
    have gu := gu.next hb
    have hB := hB.trans (hb.mono hB.size)
    have k0 := g.cell 0
    have k1 := g.cell 1
    have p0 := gt.cell 0
    have q0 := gu.cell 0
    clear hb
    go_wp2
    go_ret
    exact ⟨rfl, hB⟩

namespace lawTreeExchanges
open Go.ChangeShapes Go.WideShapes Go.ChangeAt Go.RowKit
set_option linter.unusedVariables false
set_option maxRecDepth 100000 in
theorem lifted (os : Os) (started : os.Started) (H : Type) (enc : TypeId × Value → H) :
    ReturnsInHanded {} Try.checked os 8 .any (Rows.treeExchangesSpec.pre6 enc Try.prog Try.f8 Rows.treeExchangesRow.domain false) (Rows.treeExchangesSpec.post enc Try.prog Try.f8 false true false false) := by
  refine returnsInHanded_of_change (C := Try.checked) own started (by kernel_rfl) Try.func8
    (ChangeSpec.witness6 (enc := enc) (C := Try.checked) false ⟨#[], #[.agg #[.int .i64 0, .slice none 0 0], .slice none 0 0, .slice none 0 0], []⟩ 8 (by kernel_rfl) (by kernel_rfl) (by kernel_rfl) (by kernel_rfl)) ?_
  intro W base args ds gs before hval0 hW hcnd _
  have hval : ∀ (j : Nat) t v, Try.f8.params[j]? = some t → args[j]? = some v → Value.okWide Try.prog W .any base t v := hval0
  have hW' := hW
  obtain ⟨p, q, hA0, hV, rfl, hfz, hnd⟩ := hW
  have hA : DataW.TrodAll enc Try.prog W 0 (fun _ => true) true Try.f8.params.toList args.toList ds p := hA0
  rw [Try.params8] at hA hval
  obtain ⟨v0, vs0, d0, ds0, p0, q0, hargs, rfl, rfl, h0, r0⟩ := trodAll_cons hA
  obtain ⟨v1, vs1, d1, ds1, p1, q1, rfl, rfl, rfl, h1, r1⟩ := trodAll_cons r0
  obtain ⟨v2, vs2, d2, ds2, p2, q2, rfl, rfl, rfl, h2, r2⟩ := trodAll_cons r1
  obtain ⟨rfl, rfl, rfl⟩ := trodAll_nil r2
  obtain rfl : args = #[v0, v1, v2] := by cases args; simp_all
  obtain ⟨rfl, rfl⟩ := trodVars_none hV
  obtain ⟨cs0, rfl, _⟩ := okWide_struct Try.underlying24 (hval 0 24 v0 rfl rfl)
  have k0 := h0
  have lt0 : ∀ x ∈ p0, x.block < W.heap.size := by obtain ⟨m, hm⟩ := k0; exact DataW.trod_lt m _ _ _ hm
  obtain ⟨_, hf0⟩ := h0
  obtain ⟨n0, a0, cap0, xs0, hcs0, hm0, hr0, hw0⟩ := open_graph hf0
  obtain rfl : cs0 = #[.int .i64 n0, .slice a0 xs0.length cap0] := Array.toList_inj.1 hcs0
  obtain ⟨a1, len1, cap1, rfl⟩ := okWide_slice Try.underlying25 (hval 1 25 v1 rfl rfl)
  have k1 := h1
  have lt1 : ∀ x ∈ p1, x.block < W.heap.size := by obtain ⟨m, hm⟩ := k1; exact DataW.trod_lt m _ _ _ hm
  obtain ⟨z1, w1⟩ : ∃ zs, IsRow .i64 W a1 len1 cap1 zs := by
    obtain ⟨fuel, hf⟩ := h1
    rcases open_ints Try.underlying25 Try.underlying3 (by kernel_rfl) hf with ⟨hcs, _⟩ | ⟨x, l, c, zs, hcs, _, hl, hm, hz, _, hcell, hwz⟩
    · simp [Value.cells] at hcs
      obtain ⟨rfl, rfl, rfl⟩ := hcs
      exact ⟨[], .inl ⟨rfl, rfl, rfl, rfl⟩⟩
    · simp [Value.cells] at hcs
      obtain ⟨rfl, rfl, rfl⟩ := hcs
      exact ⟨zs, .inr ⟨_, rfl, hl, hm, by simpa using hz, hcell, hwz⟩⟩
  obtain ⟨xs1, rfl, hm1, hr1, hw1⟩ := w1.reads
  obtain ⟨a2, len2, cap2, rfl⟩ := okWide_slice Try.underlying25 (hval 2 25 v2 rfl rfl)
  have k2 := h2
  have lt2 : ∀ x ∈ p2, x.block < W.heap.size := by obtain ⟨m, hm⟩ := k2; exact DataW.trod_lt m _ _ _ hm
  obtain ⟨z2, w2⟩ : ∃ zs, IsRow .i64 W a2 len2 cap2 zs := by
    obtain ⟨fuel, hf⟩ := h2
    rcases open_ints Try.underlying25 Try.underlying3 (by kernel_rfl) hf with ⟨hcs, _⟩ | ⟨x, l, c, zs, hcs, _, hl, hm, hz, _, hcell, hwz⟩
    · simp [Value.cells] at hcs
      obtain ⟨rfl, rfl, rfl⟩ := hcs
      exact ⟨[], .inl ⟨rfl, rfl, rfl, rfl⟩⟩
    · simp [Value.cells] at hcs
      obtain ⟨rfl, rfl, rfl⟩ := hcs
      exact ⟨zs, .inr ⟨_, rfl, hl, hm, by simpa using hz, hcell, hwz⟩⟩
  obtain ⟨xs2, rfl, hm2, hr2, hw2⟩ := w2.reads
  clear hA0 hval0
  refine (treeExchanges_walk W n0 a0 cap0 xs0 hm0 hw0 hr0 a1 cap1 xs1 hm1 hw1 hr1 a2 cap2 xs2 hm2 hw2 hr2).mono fun e W' ⟨he, bel⟩ => ?_
  subst he
  exact ⟨_, rfl, _, _, _, [], _, [], hW', trodAll_mk1 (shut_bool Try.underlying4 _), (trodAll_cons_mk (Below.trod laidOut (by kernel_rfl) (of_decide_eq_true (by kernel_rfl)) k0 bel lt0) (trodAll_cons_mk (Below.trod laidOut (by kernel_rfl) (of_decide_eq_true (by kernel_rfl)) k1 bel lt1) (trodAll_cons_mk (Below.trod laidOut (by kernel_rfl) (of_decide_eq_true (by kernel_rfl)) k2 bel lt2) trodAll_mk0))), rfl, bel.frame _, fun h => by cases h⟩

theorem over : Rows.treeExchangesRow.holds Try.pinned (OpenSpec.ofChange Rows.treeExchangesSpec) :=
  OpenClaim.holds_of_wide 8 Try.f8 rfl rfl rfl rfl rfl rfl rfl ⟨rfl, rfl, rfl, rfl, rfl⟩ rfl rfl rfl rfl rfl (by kernel_rfl) Try.func8 (by kernel_rfl)
    (of_decide_eq_true (by kernel_rfl)) (by unfold Func.isWrapper; first | (rw [if_pos (by decide +kernel)]; kernel_rfl) | (rw [if_neg (by decide +kernel)]; exact ⟨rfl, rfl⟩))
    (fun os started H enc _ => lifted os started H enc)

/-- For every graph and two lists of single edges the law answers true: for each single edge of a tree that another tree does not have, there is one of the other tree with which it can be swapped in both. -/
theorem proved : Rows.TreeExchangesSaid := over
#print axioms proved
end lawTreeExchanges
end Go.Proofs.Ytepmfbgmkfkmkaa
