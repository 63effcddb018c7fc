/-
  Texts of this claim, put together: RTurn28, RGrownF, RUnusedF.
-/
import Derived.Test.YtghigdcpinengaaGreatK37
import Derived.Test.YtghigdcpinengaaGreatK51
import Derived.Test.YtghigdcpinengaaGreatK29
import Derived.Test.YtghigdcpinengaaGreatK52
import Derived.Test.YtghigdcpinengaaGreatK28
import Derived.Test.YtghigdcpinengaaGreatK44
import Derived.Test.YtghigdcpinengaaGreatK45
import Derived.Test.YtghigdcpinengaaGreatK41
/-! ref28.Turned: the dual. -/
namespace Go.Proofs.YtghigdcpinengaaGreat
open Go.RowKit

set_option maxRecDepth 100000 in
set_option maxHeartbeats 4000000 in
theorem turned28_any (n : Nat) (A : Option Addr) (c : Nat) (es : List E3) (hlen : es.length ≤ 10000) (hG : RightG n es) (q : Nat) (B : Option Addr) (d : Nat) (cs : List Int) (hcl : cs.length = n) (hcb : ∀ x ∈ cs, -1048576 ≤ x ∧ x ≤ 1048576) (w : World)
    (h : Reads w w.heap.size 3 A es.length (edgeCells es)) (h' : Reads w w.heap.size 1 B n (ints cs)) :
    Calls Tryz.prog 59 #[.agg #[.int .i64 n, .slice A es.length c], .int .i64 q, .slice B n d] w fun e w' => ∃ A' c', e = .returned (.slice A' n c') ∧ OwnI w' w.heap.size A' c' (dulL n es cs q) ∧ Below w.heap.size w w' := by
  have g0 := Blk.new w 24 #[.int .i64 n, .slice A es.length c]
  have B0 : Below w.heap.size w (w.alloc (.cells #[.int .i64 n, .slice A es.length c] 24)) := (Below.refl _ _).alloc (Nat.le_refl _) _
  have c0 := g0.cell 0
  have c1 := g0.cell 1
  have TC := Lib.hid (fun (W : World) (hB : Below w.heap.size w W) => rtop_any n A c es hlen hG q W ((h.below hB).more hB.size))
  have HDl : Hid ((dulL n es cs q).length = n) := dulL_length n es cs q
  have hml := maxL_length n es q
  have HTB : Hid (∀ x ∈ maxL n es q, -1 ≤ x ∧ x ≤ 1000000) := maxL_bd hlen hG.ok
  have HTV : Hid (∀ v, v < n → v ≠ q → (maxL n es q).getD v 0 = valE es v - 1) := fun v hv hq => by rw [maxL_get hG.ok hv, if_neg hq]
  have HCL := Lib.hid hcl
  have HCB := Lib.hid hcb
  have hn1 : 1 ≤ n := by have := hG.lo; omega
  have hn12 : n ≤ 12 := by have := hG.hi; omega
  have hmd := make_div n (by omega)
  have hDe : Hid (dulTo n es cs q n = dulL n es cs q) := rfl
  obtain ⟨T, hT⟩ : ∃ T, maxL n es q = T := ⟨_, rfl⟩
  rw [hT] at TC hml HTB HTV
  have HML := Lib.hid hml
  clear hG hcl hcb hml hT
  go_enter Tryz.func59, Tryz.ntmps59
  go_wp2_with fail
  refine (TC.out _ B0).mono ?_
  rintro e w1 ⟨A1, c1', rfl, o1, hb1⟩
  have B1 := B0.trans (hb1.mono B0.size)
  have g1 := g0.next hb1
  have k0 := g1.cell 0
  have O2 := Blk.new w1 3 (ints (List.replicate n 0)).toArray
  have R1 : Hid (Reads w1 w1.heap.size 1 A1 n (ints T)) := by
    have := o1.reads
    rw [HML.out] at this
    exact this
  have hs1 := B1.size
  have hgl : w.heap.size < w1.heap.size := g1.lt
  have HG1 := Lib.hid (g1.alloc (.cells (ints (List.replicate n 0)).toArray 3))
  have HB1 := Lib.hid B1
  have HB2 : Hid (Below w1.heap.size w1 (w1.alloc (.cells (ints (List.replicate n 0)).toArray 3))) := (Below.refl _ _).alloc (Nat.le_refl _) _
  obtain ⟨gO, hgO⟩ : ∃ gO, w1.heap.size = gO := ⟨_, rfl⟩
  have HGO := Lib.hid hgO
  rw [hgO] at O2 R1 HB2 hs1 hgl
  clear g0 B0 c0 c1 hb1 g1 B1 hgO o1
  go_wp2_with fail
  try rw [HGO.out]
  go_loopw [9] (fun i wl => ∃ v : Nat, v ≤ n ∧ i = .int .i64 v ∧ Hid (Blk wl gO 3 (intCells (dulTo n es cs q v))) ∧ Hid (Below gO w1 wl)) (fun i _ => n - (intOf i).toNat)
  case atStart => exact ⟨0, by omega, rfl, by rw [Hid, dulTo_zero]; exact O2, HB2⟩
  case round =>
    obtain ⟨v, hv, rfl, HO, HB⟩ := hrel
    clear O2 HB2
    have c0 : wr.cell? ⟨w.heap.size, 0, none⟩ = some (.int .i64 n) := (HB.out.cell (p := ⟨w.heap.size, 0, none⟩) hgl).trans k0
    have hw0 : IntKind.i64.wrap ((v : Int) + 1) = (v : Int) + 1 := IntWalk.i64_in _ (by omega)
    have HBw : Hid (Below w.heap.size w wr) := HB1.out.trans (HB.out.mono hs1)
    by_cases hlt : v < n
    · have hi : (v : Int) < (n : Int) := by omega
      by_cases hvp : v = q
      · have hne : ((v : Int) != (q : Int)) = false := by simp [hvp]
        have hms : dulTo n es cs q (v + 1) = dulTo n es cs q v := by rw [hvp]; exact dulTo_sink n es cs q
        have HO2 : Hid (Blk wr gO 3 (intCells (dulTo n es cs q (v + 1)))) := by rw [Hid, hms]; exact HO.out
        clear hms hvp k0
        go_wp2
        go_roundw
        case rel => exact ⟨v + 1, by omega, by go_num, HO2, HB⟩
        case measure => simp [intOf]; omega
      · have hne : ((v : Int) != (q : Int)) = true := by rw [bne_iff_ne]; omega
        obtain ⟨x, hx⟩ := get_of_lt (xs := T) (k := v) (by rw [HML.out]; exact hlt)
        obtain ⟨y, hy⟩ := get_of_lt (xs := cs) (k := v) (by rw [HCL.out]; exact hlt)
        have hxb := HTB.out x (List.mem_of_getElem? hx)
        have hyb := HCB.out y (List.mem_of_getElem? hy)
        have hxv := HTV.out v hlt hvp
        rw [getD_at hx] at hxv
        obtain ⟨bT, oT, hA1, hbT, hcT⟩ := (R1.out.below HB.out).at_ (ints_at hx)
        obtain ⟨bB, oB, hA, hbB, hcell⟩ := (h'.below HBw.out).at_ (ints_at hy)
        subst hA
        subst hA1
        have hms := dulTo_succ n es cs q v hvp
        rw [getD_at hy, ← hxv] at hms
        have HMS := Lib.hid hms
        obtain ⟨z, hz⟩ := get_of_lt (xs := dulTo n es cs q v) (k := v) (by rw [dulTo_length]; exact hlt)
        have co := (HO.out.cell v).trans (intCells_get hz)
        have cf := HO.out.frozen v
        have hw1 : IntKind.i64.wrap (x - y) = x - y := IntWalk.i64_in _ (by omega)
        have O6 := HO.out.set_ v (.int .i64 (x - y))
        rw [intCells_set, ← HMS.out] at O6
        have HO6 := Lib.hid O6
        have B6 := Lib.hid (HB.out.setCell (p := ⟨gO, v, none⟩) (Nat.le_refl _) (.int .i64 (x - y)))
        clear hx hy hms O6 hz hvp hxv k0
        go_wp2_with fail
        refine region_tail 12 (by kernel_rfl) (by kernel_rfl) ?_
        simp only [List.take_succ_cons, List.take_zero, List.drop_succ_cons, List.drop_zero]
        repeat still_step
        refine wpStill_nil ?_
        go_wp2
        go_roundw
        case rel => exact ⟨v + 1, by omega, by go_num, HO6.out, ⟨B6.out.os, B6.out.tape, B6.out.output, B6.out.size, B6.out.block⟩⟩
        case measure => simp [intOf]; omega
    · obtain rfl : v = n := by omega
      have hO := HO.out
      rw [hDe.out] at hO
      have hB := HBw.out
      go_wp2
      go_ret
      refine ⟨some ⟨gO, 0, none⟩, v, rfl, ?_, hB⟩
      have hl := HDl.out
      have := OwnI.of_blk hO hs1 (by rw [hl]; simp [maxLen]; omega)
      rw [hl] at this
      exact this
end Go.Proofs.YtghigdcpinengaaGreat

/-! ref30.Given, Config. -/
namespace Go.Proofs.YtghigdcpinengaaGreat
open Go.RowKit

theorem mem_le_sumG {xs : List Int} (h : ∀ x ∈ xs, 0 ≤ x) : (∀ x ∈ xs, x ≤ xs.sum) ∧ 0 ≤ xs.sum := by
  induction xs with
  | nil => exact ⟨fun x hx => by (cases hx), by simp⟩
  | cons a l ih =>
    obtain ⟨i1, i2⟩ := ih fun x hx => h x (List.mem_cons_of_mem _ hx)
    have h1 := h a List.mem_cons_self
    refine ⟨fun x hx => ?_, by rw [List.sum_cons]; omega⟩
    rw [List.sum_cons]
    rcases List.mem_cons.1 hx with rfl | hx
    · omega
    · have := i1 x hx
      omega
theorem grownB {n : Int} {es : List E3} {q : Int} {xs : List Int} (h : treeErr n es xs = 0) : grownErr n es q xs = if vertB n q then 0 else 2 := by
  unfold grownErr vertB
  rw [if_neg (fun hc => hc h)]
  by_cases h1 : q < 0 ∨ n ≤ q
  · rw [if_pos h1, if_neg (by simp; omega)]
  · rw [if_neg h1, if_pos (by simp; omega)]
set_option maxHeartbeats 1000000 in
theorem rgiven30_any (n q : Int) (A : Option Addr) (c : Nat) (es : List E3) (hlen : es.length ≤ 40) (B : Option Addr) (d : Nat) (xs : List Int) (hl : xs.length ≤ 1000) (w : World) (h : Reads w w.heap.size 3 A es.length (edgeCells es)) (h' : Reads w w.heap.size 1 B xs.length (ints xs)) :
    Calls Tryz.prog 55 #[.agg #[.int .i64 n, .slice A es.length c], .int .i64 q, .slice B xs.length d] w fun e w' => e = .returned (.int .i64 (grownErr n es q xs)) ∧ Below w.heap.size w w' := by
  have TC := Lib.hid (fun w h h' => rtcheck_any n A c es hlen B d xs (by omega) w h h')
  have VC := Lib.hid (fun w => rvertex_any n q A es.length c w)
  have g := Blk.new w 24 #[.int .i64 n, .slice A es.length c]
  have hB : Below w.heap.size w (w.alloc (.cells #[.int .i64 n, .slice A es.length c] 24)) := (Below.refl _ _).alloc (Nat.le_refl _) _
  have k0 := g.cell 0
  have k1 := g.cell 1
  by_cases ht : treeErr n es xs = 0
  · rw [grownB ht]
    rw [ht] at TC
    obtain ⟨r, hr⟩ : ∃ r, vertB n q = r := ⟨_, rfl⟩
    rw [hr] at VC ⊢
    clear ht hr
    cases r
    · go_enter Tryz.func55, Tryz.ntmps55
      go_wp2_with fail
      refine (TC.out _ ((h.below hB).more hB.size) ((h'.below hB).more hB.size)).mono ?_
      rintro e wn ⟨rfl, hb⟩
      have g := g.next hb
      have hB := hB.trans (hb.mono hB.size)
      have k0 := g.cell 0
      have k1 := g.cell 1
      clear hb
      go_wp2_with fail
      refine (VC.out _).mono ?_
      rintro e wn ⟨rfl, rfl⟩
      go_wp2
      go_ret
      exact ⟨rfl, hB.alloc hB.size _⟩
    · go_enter Tryz.func55, Tryz.ntmps55
      go_wp2_with fail
      refine (TC.out _ ((h.below hB).more hB.size) ((h'.below hB).more hB.size)).mono ?_
      rintro e wn ⟨rfl, hb⟩
      have g := g.next hb
      have hB := hB.trans (hb.mono hB.size)
      have k0 := g.cell 0
      have k1 := g.cell 1
      clear hb
      go_wp2_with fail
      refine (VC.out _).mono ?_
      rintro e wn ⟨rfl, rfl⟩
      go_wp2
      go_ret
      exact ⟨rfl, hB.alloc hB.size _⟩
  · have hE : grownErr n es q xs = treeErr n es xs := by unfold grownErr; rw [if_pos ht]
    rw [hE]
    obtain ⟨z, hz⟩ : ∃ z, treeErr n es xs = z := ⟨_, rfl⟩
    rw [hz] at TC ht ⊢
    have hzb : (z != 0) = true := by simpa using ht
    clear ht hz hE
    go_enter Tryz.func55, Tryz.ntmps55
    go_wp2_with fail
    refine (TC.out _ ((h.below hB).more hB.size) ((h'.below hB).more hB.size)).mono ?_
    rintro e wn ⟨rfl, hb⟩
    have g := g.next hb
    have hB := hB.trans (hb.mono hB.size)
    have k0 := g.cell 0
    have k1 := g.cell 1
    clear hb
    go_wp2
    go_ret
    exact ⟨rfl, hB⟩
/-- The run by a tree. -/
theorem burntT_any (m p : Nat) (A : Option Addr) (c : Nat) (es : List E3) (hlen : es.length ≤ 40) {t : List Nat} (hR : TreeR m es t) (hp : p < m) (B : Option Addr) (d : Nat) (t' : List Nat) (ht : t.length ≤ 1000) (_ : t' = t) :
    Hid (∀ (w : World) (_ : Reads w w.heap.size 3 A es.length (edgeCells es)) (_ : Reads w w.heap.size 1 B t.length (ints (nI t))), Calls Tryz.prog 52 #[.agg #[.int .i64 m, .slice A es.length c], .int .i64 p, .slice none 0 0, .slice B t.length d, .bool true] w fun e w' => ∃ a1 c1 a2 l2 c2 a3 l3 c3 gT, e = .returned (.agg #[.slice a1 (fireB (endsL es) m p t).steps.length c1, .slice a2 l2 c2, .slice a3 l3 c3, .slice (some ⟨gT, 0, none⟩) m m]) ∧ Reads w' w'.heap.size 1 a1 (fireB (endsL es) m p t).steps.length (ints (nI (fireB (endsL es) m p t).steps)) ∧ OwnI w' w.heap.size (some ⟨gT, 0, none⟩) m (confN (endsL es) m p t) ∧ Below w.heap.size w w') := by
  intro w h h'
  refine (burntB_any m p A c es hlen hR.hG hp B d t (by omega) w h h').mono ?_
  rintro e w' ⟨a, X, rfl, hX, o1, _, _, o4, hb⟩
  have e1 : X.steps = (fireB (endsL es) m p t).steps := by rw [hX.out]; rfl
  have e2 : X.times = confN (endsL es) m p t := by rw [hX.out]; rfl
  have hrd := o1.reads
  rw [e1, nI_length] at hrd
  rw [e2] at o4
  refine ⟨a.AS, a.cS, a.AO, X.order.length, a.cO, a.AD, X.tree.length, a.cD, a.gT, ?_, hrd, o4, hb⟩
  unfold btC
  rw [e1]
set_option maxRecDepth 100000 in
set_option maxHeartbeats 4000000 in
theorem rconfig30_any (n q : Int) (A : Option Addr) (c : Nat) (es : List E3) (hlen : es.length ≤ 40) (hm0 : checkG n es = 0 → (endsL es).length ≤ 60) (B : Option Addr) (d : Nat) (xs : List Int) (hl : xs.length ≤ 1000) (w : World) (h : Reads w w.heap.size 3 A es.length (edgeCells es)) (h' : Reads w w.heap.size 1 B xs.length (ints xs)) :
    Calls Tryz.prog 19 #[.agg #[.int .i64 n, .slice A es.length c], .int .i64 q, .slice B xs.length d] w fun e w' => ∃ A' c', e = .returned (.tuple #[.slice A' (confFE n es q xs).1.length c', .int .i64 (confFE n es q xs).2]) ∧ OwnI w' w.heap.size A' c' (confFE n es q xs).1 ∧ Below w.heap.size w w' := by
  have g := Blk.new w 24 #[.int .i64 n, .slice A es.length c]
  have hB : Below w.heap.size w (w.alloc (.cells #[.int .i64 n, .slice A es.length c] 24)) := (Below.refl _ _).alloc (Nat.le_refl _) _
  have k0 := g.cell 0
  have k1 := g.cell 1
  have GC := Lib.hid (fun w h h' => rgiven30_any n q A c es hlen B d xs hl w h h')
  by_cases hz : grownErr n es q xs = 0
  · rw [hz] at GC
    obtain ⟨m, p, t, rfl, rfl, rfl, hp, hm12, hR, hte⟩ := grown_nat hz
    have hm := hm0 (join_zero (tree_join hte)).1
    rw [nI_length] at h' hl GC ⊢
    have BC := burntT_any m p A c es hlen hR hp B d t (by omega) rfl
    have hE : confFE m es p (nI t) = (confN (endsL es) m p t, 0) := by unfold confFE; rw [if_pos hz, nI_toNat]; rfl
    rw [hE]
    have hcl : (confN (endsL es) m p t).length = m := (conf_facts hR.hT.bd hp t).1
    dsimp only
    rw [hcl]
    obtain ⟨C, hC⟩ : ∃ C, confN (endsL es) m p t = C := ⟨_, rfl⟩
    obtain ⟨S, hS⟩ : ∃ S, fireB (endsL es) m p t = S := ⟨_, rfl⟩
    rw [hC] at BC ⊢
    rw [hS] at BC
    clear hE hcl hC hS hz hR hte hl hm hm0
    go_enter Tryz.func19, Tryz.ntmps19
    go_wp2_with fail
    refine (GC.out _ ((h.below hB).more hB.size) ((h'.below hB).more hB.size)).mono ?_
    rintro e wn ⟨rfl, hb⟩
    have g := g.next hb
    have hB := hB.trans (hb.mono hB.size)
    have k0 := g.cell 0
    have k1 := g.cell 1
    clear hb
    go_wp2_with fail
    refine (BC.out _ ((h.below hB).more hB.size) ((h'.below hB).more hB.size)).mono ?_
    rintro e wn ⟨a1, c1, a2, l2, c2, a3, l3, c3, gT, rfl, q1, q4, hb⟩
    have hz0 := hB.size
    have hB := hB.trans (hb.mono hB.size)
    have hfd : ∀ w : World, (Instr.field 35 (.agg #[.slice a1 S.steps.length c1, .slice a2 l2 c2, .slice a3 l3 c3, .slice (some ⟨gT, 0, none⟩) m m]) 3).run Tryz.prog w = .ok (.slice (some ⟨gT, 0, none⟩) m m) w := fun _ => by kernel_rfl
    go_wp2
    go_ret2
    exact ⟨_, _, rfl, q4.mono (by omega), hB⟩
  · have hE : confFE n es q xs = ([], grownErr n es q xs) := by unfold confFE; rw [if_neg hz]
    rw [hE]
    dsimp only
    obtain ⟨z, hzz⟩ : ∃ z, grownErr n es q xs = z := ⟨_, rfl⟩
    rw [hzz] at GC hz ⊢
    have hzb : (z != 0) = true := by simpa using hz
    clear hE hzz hz hm0
    go_enter Tryz.func19, Tryz.ntmps19
    go_wp2_with fail
    refine (GC.out _ ((h.below hB).more hB.size) ((h'.below hB).more hB.size)).mono ?_
    rintro e wn ⟨rfl, hb⟩
    have g := g.next hb
    have hB := hB.trans (hb.mono hB.size)
    have k0 := g.cell 0
    have k1 := g.cell 1
    clear hb
    go_wp2
    go_ret2
    exact ⟨_, _, rfl, OwnI.nil_ _ _, hB⟩
end Go.Proofs.YtghigdcpinengaaGreat

/-! ref30.Unused. -/
namespace Go.Proofs.YtghigdcpinengaaGreat
open Go.RowKit

set_option maxRecDepth 100000 in
set_option maxHeartbeats 4000000 in
theorem runused30_any (n q : Int) (A : Option Addr) (c : Nat) (es : List E3) (hlen : es.length ≤ 40) (hm0 : checkG n es = 0 → (endsL es).length ≤ 60) (B : Option Addr) (d : Nat) (xs : List Int) (hl : xs.length ≤ 1000) (w : World) (h : Reads w w.heap.size 3 A es.length (edgeCells es)) (h' : Reads w w.heap.size 1 B xs.length (ints xs)) :
    Calls Tryz.prog 21 #[.agg #[.int .i64 n, .slice A es.length c], .int .i64 q, .slice B xs.length d] w fun e w' => ∃ A' c', e = .returned (.tuple #[.slice A' (unusedFE n es q xs).1.length c', .int .i64 (unusedFE n es q xs).2]) ∧ OwnI w' w.heap.size A' c' (unusedFE n es q xs).1 ∧ Below w.heap.size w w' := by
  have g := Blk.new w 24 #[.int .i64 n, .slice A es.length c]
  have hB : Below w.heap.size w (w.alloc (.cells #[.int .i64 n, .slice A es.length c] 24)) := (Below.refl _ _).alloc (Nat.le_refl _) _
  have k0 := g.cell 0
  have k1 := g.cell 1
  have GC := Lib.hid (fun w h h' => rgiven30_any n q A c es hlen B d xs hl w h h')
  by_cases hz : grownErr n es q xs = 0
  · rw [hz] at GC
    obtain ⟨m, p, t, rfl, rfl, rfl, hp, hm12, hR, hte⟩ := grown_nat hz
    have hm := hm0 (join_zero (tree_join hte)).1
    rw [nI_length] at h' hl GC ⊢
    have BC := burntT_any m p A c es hlen hR hp B d t (by omega) rfl
    have hE : unusedFE m es p (nI t) = (nI (unusedN (endsL es) m p t), 0) := by unfold unusedFE; rw [if_pos hz, nI_toNat]; rfl
    rw [hE]
    dsimp only
    rw [nI_length]
    obtain ⟨S, hS⟩ : ∃ S, fireB (endsL es) m p t = S := ⟨_, rfl⟩
    have hU : unusedN (endsL es) m p t = (List.range (endsL es).length).filter fun e => !decide (e ∈ S.steps) := by rw [← hS]; rfl
    have hsl : S.steps.length ≤ 60 := by
      have hfi : FI (endsL es) m p S := by rw [← hS]; exact (FI.run (lit := ltB t) hR.hT.bd hp).1
      have := nodup_sub_le hfi.nodup (m := List.range (endsL es).length) (fun x hx => List.mem_range.2 (hfi.lt x hx))
      rw [List.length_range] at this; omega
    have SZ : Hid (∀ (w : World) (_ : Reads w w.heap.size 3 A es.length (edgeCells es)), Calls Tryz.prog 56 #[.agg #[.int .i64 m, .slice A es.length c]] w fun e w' => e = .returned (.int .i64 ((endsL es).length : Nat)) ∧ Below w.heap.size w w') := by
      intro w h
      have := rsize_any m A c es hlen m hR.hG.ok w h
      rw [size_ends] at this
      exact this
    rw [hS] at BC
    rw [hU]
    obtain ⟨N, hN⟩ : ∃ N, (endsL es).length = N := ⟨_, rfl⟩
    rw [hN] at SZ hm ⊢
    have CA : Hid (∀ (a : Option Addr) (c k : Nat) (W : World) (_ : Reads W W.heap.size 1 a S.steps.length (ints (nI S.steps))), Calls Tryz.prog 57 #[.slice a S.steps.length c, .int .i64 (k : Int)] W fun e w' => e = .returned (.bool (decide (k ∈ S.steps))) ∧ W = w') := by
      intro a c k W hr
      have := holds_any a c (nI S.steps) (by rw [nI_length]; omega) (k : Int) W (by rw [nI_length]; exact hr)
      rw [nI_length] at this
      have e1 : decide ((k : Int) ∈ nI S.steps) = decide (k ∈ S.steps) := by
        unfold nI
        rw [Bool.eq_iff_iff, decide_eq_true_eq, decide_eq_true_eq, List.mem_map]
        exact ⟨fun ⟨a, ha, hae⟩ => by have : a = k := by omega
                                      exact this ▸ ha, fun h => ⟨k, h, rfl⟩⟩
      rw [e1] at this
      exact this
    clear hE hS hz hU hR hte hl hN hm0
    go_enter Tryz.func21, Tryz.ntmps21
    go_wp2_with fail
    refine (GC.out _ ((h.below hB).more hB.size) ((h'.below hB).more hB.size)).mono ?_
    rintro e wn ⟨rfl, hb⟩
    have g := g.next hb
    have hB := hB.trans (hb.mono hB.size)
    have k0 := g.cell 0
    have k1 := g.cell 1
    clear hb
    go_wp2_with fail
    refine (BC.out _ ((h.below hB).more hB.size) ((h'.below hB).more hB.size)).mono ?_
    rintro e wn ⟨a1, c1, a2, l2, c2, a3, l3, c3, gT, rfl, q1, q4, hb⟩
    have g := g.next hb
    have hB := hB.trans (hb.mono hB.size)
    have k0 := g.cell 0
    have k1 := g.cell 1
    clear hb
    obtain ⟨WF, hWF⟩ : ∃ WF, wn.alloc (.cells #[.slice a1 S.steps.length c1, .slice a2 l2 c2, .slice a3 l3 c3, .slice (some ⟨gT, 0, none⟩) m m] 35) = WF := ⟨_, rfl⟩
    have xb : Blk WF wn.heap.size 35 #[.slice a1 S.steps.length c1, .slice a2 l2 c2, .slice a3 l3 c3, .slice (some ⟨gT, 0, none⟩) m m] := by rw [← hWF]; exact Blk.newF rfl
    have bX : Below wn.heap.size wn WF := by rw [← hWF]; exact (Below.refl _ _).alloc (Nat.le_refl _) _
    have q1 := Lib.hid (q1.next bX)
    have g := Lib.hid (g.next bX)
    have hB := Lib.hid (hB.trans (bX.mono hB.size))
    have hz1 := hB.out.size
    have XB := Lib.hid xb
    have HWF := Lib.hid hWF
    clear bX hWF xb k0 k1 q4
    go_wp2_with fail
    try rw [HWF.out]
    go_loopw [10, 11] (fun o i wr => ∃ (k : Nat) (A : Option Addr) (c : Nat) (r : List Nat), k ≤ N ∧ i = .int .i64 k ∧ o = .slice A (nI r).length c ∧ Hid (((List.range k).filter fun e => !decide (e ∈ S.steps)) = r) ∧ (nI r).length ≤ k ∧ OwnI wr WF.heap.size A c (nI r) ∧ Hid (Below WF.heap.size WF wr)) (fun _ i _ => N - (intOf i).toNat)
    case atStart => exact ⟨0, none, 0, [], by omega, rfl, rfl, rfl, by simp [nI], OwnI.nil_ _ _, Below.refl _ _⟩
    case round =>
      obtain ⟨k, Ao, co, r, hk, rfl, rfl, HR, hrl, hown, HB⟩ := hrel
      have hsz := HB.out.size
      have g2 := g.out.next HB.out
      have k0 := g2.cell 0
      have k1 := g2.cell 1
      have HBw := Lib.hid (hB.out.trans (HB.out.mono hz1))
      go_wp2_with fail
      refine (SZ.out _ ((h.below HBw.out).more HBw.out.size)).mono ?_
      rintro e w5 ⟨rfl, hb5⟩
      have HB5 : Hid (Below WF.heap.size WF w5) := HB.out.trans (hb5.mono hsz)
      have hown5 := hown.next hb5
      have hs5 := HB5.out.size
      clear k0 k1 g2 HBw hb5 hown
      by_cases hlt : k < N
      · have hi : (k : Int) < (N : Int) := by omega
        have k9 : w5.cell? ⟨wn.heap.size, 0, none⟩ = some (.slice a1 S.steps.length c1) := (XB.out.next HB5.out).cell 0
        have HR1 : Hid (((List.range (k + 1)).filter fun e => !decide (e ∈ S.steps)) = r ++ (if k ∈ S.steps then [] else [k])) := by
          rw [Hid, List.range_succ, List.filter_append, HR.out]
          by_cases hm : k ∈ S.steps <;> simp [hm]
        have CK := Lib.hid (CA.out a1 c1 k w5 (q1.out.next HB5.out))
        by_cases hm : k ∈ S.steps
        · rw [decide_eq_true hm] at CK
          rw [if_pos hm, List.append_nil] at HR1
          clear hm HR
          go_wp2_with fail
          refine (CK.out).mono ?_
          rintro e w9 ⟨rfl, rfl⟩
          go_wp2
          go_roundw
          case rel => exact ⟨k + 1, Ao, co, r, by omega, by go_num, rfl, HR1.out, by omega, hown5, HB5⟩
          case measure => simp [intOf]; omega
        · rw [decide_eq_false hm] at CK
          rw [if_neg hm] at HR1
          clear hm HR
          go_wp2_with fail
          refine (CK.out).mono ?_
          rintro e w9 ⟨rfl, rfl⟩
          go_wp2_with (at_builtin; refine push_int rfl (.tmp 34) (.tmp 36) _ rfl Tryz.underlying25 WF.heap.size Ao co (nI r) (k : Int) rfl hown5 rfl rfl (by omega) hs5 ?_; intro A2 c2 w2 hown2 hg2 hb2)
          have e2 : nI (r ++ [k]) = nI r ++ [(k : Int)] := by simp [nI]
          have HE2 := Lib.hid e2
          clear e2
          go_roundw
          case rel => exact ⟨k + 1, A2, c2, r ++ [k], by omega, by go_num, by rw [HE2.out]; simp, HR1.out, by rw [HE2.out]; simp; omega, by rw [HE2.out]; exact hown2, HB5.out.trans (hb2.mono (Nat.le_refl _))⟩
          case measure => simp [intOf]; omega
      · obtain rfl : k = N := by omega
        rw [nI_length] at *
        have hf : ¬ (k : Int) < (k : Int) := by omega
        have HBz := Lib.hid (hB.out.trans (HB5.out.mono hz1))
        go_wp2
        go_ret2
        rw [HR.out]
        exact ⟨_, _, rfl, hown5.mono hz1, HBz.out⟩
  · have hE : unusedFE n es q xs = ([], grownErr n es q xs) := by unfold unusedFE; rw [if_neg hz]
    rw [hE]
    dsimp only
    obtain ⟨z, hzz⟩ : ∃ z, grownErr n es q xs = z := ⟨_, rfl⟩
    rw [hzz] at GC hz ⊢
    have hzb : (z != 0) = true := by simpa using hz
    clear hE hzz hz hm0
    go_enter Tryz.func21, Tryz.ntmps21
    go_wp2_with fail
    refine (GC.out _ ((h.below hB).more hB.size) ((h'.below hB).more hB.size)).mono ?_
    rintro e wn ⟨rfl, hb⟩
    have g := g.next hb
    have hB := hB.trans (hb.mono hB.size)
    have k0 := g.cell 0
    have k1 := g.cell 1
    clear hb
    go_wp2
    go_ret2
    exact ⟨_, _, rfl, OwnI.nil_ _ _, hB⟩
end Go.Proofs.YtghigdcpinengaaGreat

