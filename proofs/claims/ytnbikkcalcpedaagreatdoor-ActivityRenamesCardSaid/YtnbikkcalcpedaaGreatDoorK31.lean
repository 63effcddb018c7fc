/-
  Texts of this claim, put together: ActIn, Within, FireE, Sup2, RRecs3, RAct31.
-/
import Derived.Test.YtnbikkcalcpedaaGreatDoorK30
import Derived.Test.YtnbikkcalcpedaaGreatDoorK10
import Derived.Test.YtnbikkcalcpedaaGreatDoorK09
import Derived.Test.YtnbikkcalcpedaaGreatDoorK23
import Derived.Test.YtnbikkcalcpedaaGreatDoorK29
import Derived.Test.YtnbikkcalcpedaaGreatDoorK25
import Derived.Test.YtnbikkcalcpedaaGreatDoorK11
import Derived.Stop.RegionWithIn
import Derived.Test.YtnbikkcalcpedaaGreatDoorK27
import Derived.Deep.RegionHeld3
/-! Package activity: Internal, External, both. -/
namespace Go.Proofs.YtnbikkcalcpedaaGreatDoor
open Go.RowKit

/-- What Internal and External return. -/
def intE (n : Int) (es : List E3) (xs : List Int) : List Int × Int := if treeErr n es xs = 0 then (nI (insA (endsL es) (toN xs)), 0) else ([], treeErr n es xs)
def extE (n : Int) (es : List E3) (xs : List Int) : List Int × Int := if treeErr n es xs = 0 then (nI (outA (endsL es) (toN xs)), 0) else ([], treeErr n es xs)
theorem cutset_in {n : Int} {es : List E3} {xs : List Int} (h : treeErr n es xs = 0) {t : List Nat} (ht : xs = nI t) (hf : IsTr n.toNat (endsL es) t) {f : Nat} (hft : f ∈ t) : cutsetE n es xs f = (nI (cutL (endsL es) t f), 0) := by
  have hlt := hf.set.2 f hft
  unfold cutsetE
  rw [if_neg (fun hc => hc h), if_neg (by omega), if_neg (fun hc => hc (by rw [ht]; exact mem_nI9.2 hft)), Int.toNat_natCast, ht, toN_nI]
theorem cycle_out {n : Int} {es : List E3} {xs : List Int} (h : treeErr n es xs = 0) {t : List Nat} (ht : xs = nI t) {e : Nat} (he : e < (endsL es).length) (het : e ∉ t) : cycleE n es xs e = (sortG ltI (nI (pathL (endsL es) t ((endsL es).getD e (0, 0)).1 ((endsL es).getD e (0, 0)).2) ++ [(e : Int)]), 0) := by
  unfold cycleE
  rw [if_neg (fun hc => hc h), if_neg (by omega), if_neg (fun hc => het (by rw [ht] at hc; exact mem_nI9.1 hc)), Int.toNat_natCast, List.getElem?_eq_getElem he]
  dsimp only
  rw [ht, toN_nI, List.getD_eq_getElem?_getD, List.getElem?_eq_getElem he]
  rfl
theorem int_act {n : Int} {es : List E3} {xs : List Int} (h : treeErr n es xs = 0) {t : List Nat} (ht : xs = nI t) (hb : BdP n.toNat (endsL es)) (hf : IsTr n.toNat (endsL es) t) : actL (fun e => (cutsetE n es xs e).1) xs = nI (insA (endsL es) t) := by
  have h1 : actL (fun e => (cutsetE n es xs e).1) (nI t) = nI (insA (endsL es) t) := by
    unfold actL insA nI
    rw [List.filter_map]
    congr 1
    refine List.filter_congr fun f hft => ?_
    show decide ((cutsetE n es xs (f : Int)).1.head? = some (f : Int)) = _
    rw [cutset_in h ht hf hft]
    exact decide_eq_decide.2 (cut_head (hf.foe hb) hft)
  rw [← h1, ← ht]
theorem ext_act {n : Int} {es : List E3} {xs : List Int} (h : treeErr n es xs = 0) {t : List Nat} (ht : xs = nI t) (hb : BdP n.toNat (endsL es)) (hf : IsTr n.toNat (endsL es) t) : actL (fun e => (cycleE n es xs e).1) (restTo xs (endsL es).length) = nI (outA (endsL es) t) := by
  unfold actL outA restTo nI
  rw [List.filter_map, List.filter_filter]
  congr 1
  refine List.filter_congr fun e he => ?_
  have he := List.mem_range.1 he
  show (decide ((cycleE n es xs (e : Int)).1.head? = some (e : Int)) && decide ((e : Int) ∉ xs)) = _
  have hmem : (e : Int) ∈ xs ↔ e ∈ t := by rw [ht]; exact mem_nI9
  by_cases het : e ∈ t
  · rw [decide_eq_true het]
    simp [hmem.2 het]
  · have hne : (e : Int) ∉ xs := fun hc => het (hmem.1 hc)
    rw [decide_eq_true (p := (e : Int) ∉ xs) hne, decide_eq_false het, Bool.and_true, Bool.not_false, Bool.true_and, cycle_out h ht he het]
    obtain ⟨ha, hb2⟩ := getD_bd hb he
    exact decide_eq_decide.2 (cyc_head (hf.foe hb) (hf.cn hb ha hb2))
set_option maxRecDepth 100000 in
set_option maxHeartbeats 2000000 in
theorem internal_any (n : Int) (A : Option Addr) (c : Nat) (es : List E3) (hn : es.length ≤ 10000) (B : Option Addr) (d : Nat) (xs : List Int) (hm : xs.length ≤ 1048576) (w : World) (h : Reads w w.heap.size 3 A es.length (edgeCells es)) (h' : Reads w w.heap.size 1 B xs.length (ints xs)) :
    Calls Tryz.prog 22 #[.agg #[.int .i64 n, .slice A es.length c], .slice B xs.length d] w fun e w' => ∃ A' c', e = .returned (.tuple #[.slice A' (intE n es xs).1.length c', .int .i64 (intE n es xs).2]) ∧ OwnI w' w.heap.size A' c' (intE n es xs).1 ∧ Below w.heap.size w w' := by
  have TC := Lib.hid (fun (W : World) (hB : Below w.heap.size w W) => tcheck_any n A c es hn B d xs hm W ((h.below hB).more hB.size) ((h'.below hB).more hB.size))
  have g := Blk.new w 24 #[.int .i64 n, .slice A es.length c]
  have hB : Below w.heap.size w (w.alloc (.cells #[.int .i64 n, .slice A es.length c] 24)) := (Below.refl _ _).alloc (Nat.le_refl _) _
  have k0 := g.cell 0
  have k1 := g.cell 1
  by_cases hz : treeErr n es xs = 0
  · have hE : intE n es xs = (nI (insA (endsL es) (toN xs)), 0) := if_pos hz
    rw [hE]
    dsimp only
    obtain ⟨m, t, rfl, hxt, hG, hb, hT, h1, h12, _⟩ := tree_zero hz
    have hel : (endsL es).length ≤ 1000000 := by have := endsL_length hG.ok; omega
    have hl11 : xs.length ≤ 11 := by rw [hxt, nI_length]; have := hT.len; omega
    rw [hz] at TC
    have hAct := int_act hz hxt (by rw [Int.toNat_natCast]; exact hb) (by rw [Int.toNat_natCast]; exact hT)
    rw [show toN xs = t by rw [hxt, toN_nI]]
    have CC : Hid (∀ e ∈ xs, ∀ (W : World), Below w.heap.size w W → Calls Tryz.prog 72 #[.agg #[.int .i64 m, .slice A es.length c], .slice B xs.length d, .int .i64 e] W fun r w' => ∃ A' c', r = .returned (.tuple #[.slice A' ((cutsetE m es xs e).1).length c', .int .i64 0]) ∧ OwnI w' W.heap.size A' c' (cutsetE m es xs e).1 ∧ Below W.heap.size W w') := by
      intro e he W hB
      have := tcutset_any m A c es hn hel B d xs hl11 e W ((h.below hB).more hB.size) ((h'.below hB).more hB.size)
      have h0 : (cutsetE m es xs e).2 = 0 := by
        rw [hxt] at he
        obtain ⟨f, hf, rfl⟩ := List.mem_map.1 he
        rw [cutset_in hz hxt (by rw [Int.toNat_natCast]; exact hT) hf]
      rw [h0] at this
      exact this
    have AC := Lib.hid (fun (W : World) (hB : Below w.heap.size w W) => active_any 72 (enters_of Tryz.func72 (by kernel_rfl) rfl) m A c es B xs.length d (fun e => (cutsetE m es xs e).1) B d xs (by omega) W ((h'.below hB).more hB.size) (fun e he W' hB' => CC.out e he W' (hB.trans (hB'.mono hB.size))))
    rw [hAct] at AC
    obtain ⟨R, hR⟩ : ∃ R, nI (insA (endsL es) t) = R := ⟨_, rfl⟩
    rw [hR] at AC ⊢
    obtain ⟨N, hN⟩ : ∃ N, xs.length = N := ⟨_, rfl⟩
    rw [hN] at AC TC ⊢
    clear hz hxt hG hb hT hE hAct hR CC hm hl11 hN h h'
    go_enter Tryz.func22, Tryz.ntmps22
    go_wp2_with fail
    refine (TC.out _ hB).mono ?_
    rintro e wn ⟨rfl, hb⟩
    have g := g.next hb
    have hB := hB.trans (hb.mono hB.size)
    have k0 := g.cell 0
    have k1 := g.cell 1
    clear hb
    go_wp2_with fail
    refine (AC.out _ hB).mono ?_
    rintro e wm ⟨A', c', rfl, o, hb⟩
    have hB' := hB.trans (hb.mono hB.size)
    have o' := o.mono (base' := w.heap.size) hB.size
    go_wp2
    go_ret2
    exact ⟨A', c', rfl, o', hB'⟩
  · have hE : intE n es xs = ([], treeErr n es xs) := if_neg hz
    rw [hE]
    obtain ⟨z, hzz⟩ : ∃ z, treeErr n es xs = z := ⟨_, rfl⟩
    rw [hzz] at TC hz ⊢
    have hzb : (z != 0) = true := by simpa using hz
    clear hz hzz hE
    go_enter Tryz.func22, Tryz.ntmps22
    go_wp2_with fail
    refine (TC.out _ hB).mono ?_
    rintro e wn ⟨rfl, hb⟩
    have hB := hB.trans (hb.mono hB.size)
    go_wp2
    go_ret2
    exact ⟨none, 0, rfl, OwnI.nil_ _ _, hB⟩
set_option maxRecDepth 100000 in
set_option maxHeartbeats 2000000 in
theorem external_any (n : Int) (A : Option Addr) (c : Nat) (es : List E3) (hn : es.length ≤ 10000) (B : Option Addr) (d : Nat) (xs : List Int) (hm : xs.length ≤ 1048576) (w : World) (h : Reads w w.heap.size 3 A es.length (edgeCells es)) (h' : Reads w w.heap.size 1 B xs.length (ints xs)) :
    Calls Tryz.prog 23 #[.agg #[.int .i64 n, .slice A es.length c], .slice B xs.length d] w fun e w' => ∃ A' c', e = .returned (.tuple #[.slice A' (extE n es xs).1.length c', .int .i64 (extE n es xs).2]) ∧ OwnI w' w.heap.size A' c' (extE n es xs).1 ∧ Below w.heap.size w w' := by
  have TC := Lib.hid (fun (W : World) (hB : Below w.heap.size w W) => tcheck_any n A c es hn B d xs hm W ((h.below hB).more hB.size) ((h'.below hB).more hB.size))
  have g := Blk.new w 24 #[.int .i64 n, .slice A es.length c]
  have hB : Below w.heap.size w (w.alloc (.cells #[.int .i64 n, .slice A es.length c] 24)) := (Below.refl _ _).alloc (Nat.le_refl _) _
  have k0 := g.cell 0
  have k1 := g.cell 1
  by_cases hz : treeErr n es xs = 0
  · have hE : extE n es xs = (nI (outA (endsL es) (toN xs)), 0) := if_pos hz
    rw [hE]
    dsimp only
    obtain ⟨m, t, rfl, hxt, hG, hb, hT, h1, h12, _⟩ := tree_zero hz
    have hel : (endsL es).length ≤ 1000000 := by have := endsL_length hG.ok; omega
    have hl11 : xs.length ≤ 11 := by rw [hxt, nI_length]; have := hT.len; omega
    rw [hz] at TC
    have hAct := ext_act hz hxt (by rw [Int.toNat_natCast]; exact hb) (by rw [Int.toNat_natCast]; exact hT)
    rw [show toN xs = t by rw [hxt, toN_nI]]
    have CC : Hid (∀ e ∈ restTo xs (endsL es).length, ∀ (W : World), Below w.heap.size w W → Calls Tryz.prog 74 #[.agg #[.int .i64 m, .slice A es.length c], .slice B xs.length d, .int .i64 e] W fun r w' => ∃ A' c', r = .returned (.tuple #[.slice A' ((cycleE m es xs e).1).length c', .int .i64 0]) ∧ OwnI w' W.heap.size A' c' (cycleE m es xs e).1 ∧ Below W.heap.size W w') := by
      intro e he W hB
      have := tcycle_any m A c es hn B d xs hl11 e W ((h.below hB).more hB.size) ((h'.below hB).more hB.size)
      have h0 : (cycleE m es xs e).2 = 0 := by
        obtain ⟨f, hf, rfl⟩ := List.mem_map.1 he
        obtain ⟨hf1, hf2⟩ := List.mem_filter.1 hf
        rw [cycle_out hz hxt (List.mem_range.1 hf1) (fun hc => by rw [hxt] at hf2; exact (of_decide_eq_true hf2) (mem_nI9.2 hc))]
      rw [h0] at this
      exact this
    have OC := Lib.hid (fun (W : World) (hB : Below w.heap.size w W) => outside_any m A c es hn (join_zero ‹joinErr _ _ = 0›).1 hel B d xs hm W ((h.below hB).more hB.size) ((h'.below hB).more hB.size))
    have AC := Lib.hid (fun (C : Option Addr) (f : Nat) (W : World) (hB : Below w.heap.size w W) (hr : Reads W W.heap.size 1 C (restTo xs (endsL es).length).length (ints (restTo xs (endsL es).length))) => active_any 74 (enters_of Tryz.func74 (by kernel_rfl) rfl) m A c es B xs.length d (fun e => (cycleE m es xs e).1) C f (restTo xs (endsL es).length) (by have := restTo_len (xs := xs) (k := (endsL es).length); omega) W hr (fun e he W' hB' => CC.out e he W' (hB.trans (hB'.mono hB.size))))
    rw [hAct] at AC
    obtain ⟨R, hR⟩ : ∃ R, nI (outA (endsL es) t) = R := ⟨_, rfl⟩
    rw [hR] at AC ⊢
    obtain ⟨RS, hRS⟩ : ∃ RS, restTo xs (endsL es).length = RS := ⟨_, rfl⟩
    rw [hRS] at AC OC
    obtain ⟨N, hN⟩ : ∃ N, xs.length = N := ⟨_, rfl⟩
    rw [hN] at AC TC OC ⊢
    clear hz hxt hG hb hT hE hAct hR CC hm hl11 hN h h' hRS
    go_enter Tryz.func23, Tryz.ntmps23
    go_wp2_with fail
    refine (TC.out _ hB).mono ?_
    rintro e wn ⟨rfl, hb⟩
    have g := g.next hb
    have hB := hB.trans (hb.mono hB.size)
    have k0 := g.cell 0
    have k1 := g.cell 1
    clear hb
    go_wp2_with fail
    refine (OC.out _ hB).mono ?_
    rintro e wo ⟨C, f, rfl, oc, hb⟩
    have g := g.next hb
    have hB := hB.trans (hb.mono hB.size)
    have k0 := g.cell 0
    have k1 := g.cell 1
    clear hb
    go_wp2_with fail
    refine (AC.out _ _ _ hB oc.reads).mono ?_
    rintro e wm ⟨A', c', rfl, o, hb⟩
    have hB' := hB.trans (hb.mono hB.size)
    have o' := o.mono (base' := w.heap.size) hB.size
    go_wp2
    go_ret2
    exact ⟨A', c', rfl, o', hB'⟩
  · have hE : extE n es xs = ([], treeErr n es xs) := if_neg hz
    rw [hE]
    obtain ⟨z, hzz⟩ : ∃ z, treeErr n es xs = z := ⟨_, rfl⟩
    rw [hzz] at TC hz ⊢
    have hzb : (z != 0) = true := by simpa using hz
    clear hz hzz hE
    go_enter Tryz.func23, Tryz.ntmps23
    go_wp2_with fail
    refine (TC.out _ hB).mono ?_
    rintro e wn ⟨rfl, hb⟩
    have hB := hB.trans (hb.mono hB.size)
    go_wp2
    go_ret2
    exact ⟨none, 0, rfl, OwnI.nil_ _ _, hB⟩
set_option maxRecDepth 100000 in
set_option maxHeartbeats 2000000 in
theorem both_any (n : Int) (A : Option Addr) (c : Nat) (es : List E3) (hn : es.length ≤ 10000) (B : Option Addr) (d : Nat) (xs : List Int) (hm : xs.length ≤ 1048576) (w : World) (h : Reads w w.heap.size 3 A es.length (edgeCells es)) (h' : Reads w w.heap.size 1 B xs.length (ints xs)) :
    Calls Tryz.prog 111 #[.agg #[.int .i64 n, .slice A es.length c], .slice B xs.length d] w fun e w' => ∃ A1 c1 A2 c2, e = .returned (.tuple #[.slice A1 (intE n es xs).1.length c1, .slice A2 (extE n es xs).1.length c2, .int .i64 (treeErr n es xs)]) ∧ OwnI w' w.heap.size A1 c1 (intE n es xs).1 ∧ OwnI w' w.heap.size A2 c2 (extE n es xs).1 ∧ Below w.heap.size w w' := by
  have IC := Lib.hid (fun (W : World) (hB : Below w.heap.size w W) => internal_any n A c es hn B d xs hm W ((h.below hB).more hB.size) ((h'.below hB).more hB.size))
  have EC := Lib.hid (fun (W : World) (hB : Below w.heap.size w W) => external_any n A c es hn B d xs hm W ((h.below hB).more hB.size) ((h'.below hB).more hB.size))
  have g := Blk.new w 24 #[.int .i64 n, .slice A es.length c]
  have hB : Below w.heap.size w (w.alloc (.cells #[.int .i64 n, .slice A es.length c] 24)) := (Below.refl _ _).alloc (Nat.le_refl _) _
  have k0 := g.cell 0
  have k1 := g.cell 1
  have hi2 : (intE n es xs).2 = treeErr n es xs := by unfold intE; by_cases hz : treeErr n es xs = 0 <;> simp [hz]
  have he2 : (extE n es xs).2 = treeErr n es xs := by unfold extE; by_cases hz : treeErr n es xs = 0 <;> simp [hz]
  rw [hi2] at IC
  rw [he2] at EC
  have hnil : treeErr n es xs ≠ 0 → (intE n es xs).1 = [] ∧ (extE n es xs).1 = [] := fun hz => by unfold intE extE; rw [if_neg hz, if_neg hz]; exact ⟨rfl, rfl⟩
  obtain ⟨R, hR⟩ : ∃ R, (intE n es xs).1 = R := ⟨_, rfl⟩
  obtain ⟨T, hT⟩ : ∃ T, (extE n es xs).1 = T := ⟨_, rfl⟩
  obtain ⟨z, hz⟩ : ∃ z, treeErr n es xs = z := ⟨_, rfl⟩
  obtain ⟨N, hN⟩ : ∃ N, xs.length = N := ⟨_, rfl⟩
  rw [hR, hT, hz] at hnil
  rw [hR, hz, hN] at IC
  rw [hT, hz, hN] at EC
  rw [hR, hT, hz, hN]
  have HN := Lib.hid hnil
  clear hR hT hz hi2 he2 hN hm h h' hnil
  by_cases h0 : z = 0
  · subst h0
    go_enter Tryz.func111, Tryz.ntmps111
    go_wp2_with fail
    refine (IC.out _ hB).mono ?_
    rintro e wn ⟨A1, c1, rfl, o1, hb⟩
    have g := g.next hb
    have o1 := o1.mono (base' := w.heap.size) hB.size
    have hB := hB.trans (hb.mono hB.size)
    have k0 := g.cell 0
    have k1 := g.cell 1
    clear hb
    go_wp2_with fail
    refine (EC.out _ hB).mono ?_
    rintro e wm ⟨A2, c2, rfl, o2, hb⟩
    have o1 := o1.next hb
    have o2 := o2.mono (base' := w.heap.size) hB.size
    have hB := hB.trans (hb.mono hB.size)
    go_wp2
    go_ret3
    exact ⟨A1, c1, A2, c2, rfl, o1, o2, hB⟩
  · obtain ⟨rfl, rfl⟩ := HN.out h0
    have hzb : (z != 0) = true := by simpa using h0
    clear h0
    go_enter Tryz.func111, Tryz.ntmps111
    go_wp2_with fail
    refine (IC.out _ hB).mono ?_
    rintro e wn ⟨A1, c1, rfl, _, hb⟩
    have hB := hB.trans (hb.mono hB.size)
    go_wp2
    go_ret3
    exact ⟨none, 0, none, 0, rfl, OwnI.nil_ _ _, OwnI.nil_ _ _, hB⟩
end Go.Proofs.YtnbikkcalcpedaaGreatDoor

/-! activity.within: a list in another one, but for some; slices.ContainsFunc at a function with two captured pointers. -/
namespace Go.Proofs.YtnbikkcalcpedaaGreatDoor
open Go.RowKit

set_option maxRecDepth 100000 in
set_option maxHeartbeats 2000000 in
theorem indexf2_any (F : Nat) (y1 y2 : Value) (eg : ∀ args w, (callFunc F args).run Tryz.prog w = .ok (.enter F args) w) (p : Int → Bool) (A : Option Addr) (c : Nat) (xs : List Int) (hn : xs.length ≤ 1048576) (w : World) (h : Reads w w.heap.size 1 A xs.length (ints xs))
    (hp : ∀ x ∈ xs, ∀ W, Below w.heap.size w W → Calls Tryz.prog F #[.int .i64 x, y1, y2] W fun e w' => e = .returned (.bool (p x)) ∧ Below W.heap.size W w') :
    Calls Tryz.prog 221 #[.slice A xs.length c, .func (.func F) #[] #[y1, y2]] w fun e w' => ∃ r : Int, e = .returned (.int .i64 r) ∧ decide (0 ≤ r) = xs.any p ∧ Below w.heap.size w w' := by
  have HP := Lib.hid hp
  obtain ⟨N, hN⟩ : ∃ N, xs.length = N := ⟨_, rfl⟩
  have HN := Lib.hid hN
  rw [hN] at h hn ⊢
  clear hp hN
  go_enter Tryz.func221, Tryz.ntmps221
  go_wp2
  go_loopw [8] (fun i wr => ∃ k : Nat, k ≤ N ∧ i = .int .i64 k ∧ Hid (∀ x ∈ xs.take k, p x = false) ∧ Hid (Below w.heap.size w wr)) (fun i _ => N - (intOf i).toNat)
  case atStart => exact ⟨0, by omega, rfl, by simp [Hid], Below.refl _ _⟩
  case round =>
    obtain ⟨k, hk, rfl, HS, HB⟩ := hrel
    by_cases hlt : k < N
    · obtain ⟨x, hx⟩ := get_of_lt (xs := xs) (k := k) (by rw [HN.out]; exact hlt)
      obtain ⟨b, off, rfl, hb, hcell⟩ := (h.below HB.out).at_ (ints_at hx)
      have hi : (k : Int) < (N : Int) := by omega
      have htk := take_snoc hx
      have PC := HP.out x (List.mem_of_getElem? hx) wr HB.out
      have HX := Lib.hid (List.mem_of_getElem? hx)
      cases hpx : p x
      · rw [hpx] at PC
        have PC := Lib.hid PC
        have HN1 : Hid (∀ x ∈ xs.take (k + 1), p x = false) := by
          rw [htk]
          intro z hz
          rcases List.mem_append.1 hz with hz | hz
          · exact HS.out z hz
          · rw [List.mem_singleton.1 hz]; exact hpx
        clear hx htk hpx h
        go_wp2_with fail
        refine (PC.out).mono ?_
        rintro e w2 ⟨rfl, hb2⟩
        have HB2 := Lib.hid (HB.out.trans (hb2.mono HB.out.size))
        go_wp2
        go_roundw
        case rel => exact ⟨k + 1, by omega, by go_num, HN1, HB2⟩
        case measure => simp [intOf]; omega
      · rw [hpx] at PC
        have PC := Lib.hid PC
        have HY := Lib.hid hpx
        clear hx htk hpx h
        go_wp2_with fail
        refine (PC.out).mono ?_
        rintro e w2 ⟨rfl, hb2⟩
        have HB2 := Lib.hid (HB.out.trans (hb2.mono HB.out.size))
        go_wp2
        go_ret
        exact ⟨k, rfl, by rw [List.any_eq_true.2 ⟨x, HX.out, HY.out⟩]; exact decide_eq_true (by omega), HB2.out⟩
    · obtain rfl : k = N := by omega
      have hf : ¬ (k : Int) < (k : Int) := by omega
      have HA : Hid (xs.any p = false) := List.any_eq_false.2 fun z hz => by
        rw [HS.out z (by rw [List.take_of_length_le (by rw [HN.out]; exact Nat.le_refl _)]; exact hz)]; simp
      go_wp2
      go_ret
      exact ⟨-1, rfl, by rw [HA.out]; decide, HB.out⟩
set_option maxHeartbeats 1000000 in
theorem containsf2_any (F : Nat) (y1 y2 : Value) (eg : ∀ args w, (callFunc F args).run Tryz.prog w = .ok (.enter F args) w) (p : Int → Bool) (A : Option Addr) (c : Nat) (xs : List Int) (hn : xs.length ≤ 1048576) (w : World) (h : Reads w w.heap.size 1 A xs.length (ints xs))
    (hp : ∀ x ∈ xs, ∀ W, Below w.heap.size w W → Calls Tryz.prog F #[.int .i64 x, y1, y2] W fun e w' => e = .returned (.bool (p x)) ∧ Below W.heap.size W w') :
    Calls Tryz.prog 164 #[.slice A xs.length c, .func (.func F) #[] #[y1, y2]] w fun e w' => e = .returned (.bool (xs.any p)) ∧ Below w.heap.size w w' := by
  have IC := Lib.hid (indexf2_any F y1 y2 eg p A c xs hn w h hp)
  obtain ⟨N, hN⟩ : ∃ N, xs.length = N := ⟨_, rfl⟩
  obtain ⟨r0, hr0⟩ : ∃ r, xs.any p = r := ⟨_, rfl⟩
  rw [hN, hr0] at IC
  rw [hN, hr0]
  clear hp eg h hN hr0 hn
  go_enter Tryz.func164, Tryz.ntmps164
  go_wp2_with fail
  refine (IC.out).mono ?_
  rintro e w2 ⟨r, rfl, hr, hb⟩
  go_wp2
  go_ret
  exact ⟨by rw [← hr]; rfl, hb⟩
/-- Whether all elements of a list are in another one, but for some. -/
def withinB (l o b : List Int) : Bool := !(l.any fun e => !decide (e ∈ o) && !decide (e ∈ b))
set_option maxRecDepth 100000 in
set_option maxHeartbeats 2000000 in
theorem withinL1_any (x : Int) (bo bb : Nat) (Ao : Option Addr) (co : Nat) (o : List Int) (ho : o.length ≤ 1048576) (Ab : Option Addr) (cb : Nat) (b : List Int) (hb : b.length ≤ 1048576) (w : World) (c0 : w.cell? ⟨bo, 0, none⟩ = some (.slice Ao o.length co)) (c1 : w.cell? ⟨bb, 0, none⟩ = some (.slice Ab b.length cb))
    (h0 : Reads w w.heap.size 1 Ao o.length (ints o)) (h1 : Reads w w.heap.size 1 Ab b.length (ints b)) :
    Calls Tryz.prog 165 #[.int .i64 x, .pointer (some ⟨bo, 0, none⟩), .pointer (some ⟨bb, 0, none⟩)] w fun e w' => e = .returned (.bool (!decide (x ∈ o) && !decide (x ∈ b))) ∧ Below w.heap.size w w' := by
  have OC := Lib.hid (contains_any Ao co o ho x w h0)
  have BC := Lib.hid (contains_any Ab cb b hb x w h1)
  obtain ⟨N, hN⟩ : ∃ N, o.length = N := ⟨_, rfl⟩
  obtain ⟨M, hM⟩ : ∃ N, b.length = N := ⟨_, rfl⟩
  rw [hN] at OC c0
  rw [hM] at BC c1
  obtain ⟨p, hp⟩ : ∃ p, decide (x ∈ o) = p := ⟨_, rfl⟩
  obtain ⟨q, hq⟩ : ∃ p, decide (x ∈ b) = p := ⟨_, rfl⟩
  rw [hp] at OC ⊢
  rw [hq] at BC ⊢
  clear hN hM hp hq ho hb h0 h1
  cases p
  · go_enter Tryz.func165, Tryz.ntmps165
    go_wp2_with fail
    refine (OC.out).mono ?_
    rintro e w1 ⟨rfl, rfl⟩
    go_wp2_with fail
    refine (BC.out).mono ?_
    rintro e w1 ⟨rfl, rfl⟩
    go_wp2
    go_ret
    exact ⟨rfl, Below.refl _ _⟩
  · go_enter Tryz.func165, Tryz.ntmps165
    go_wp2_with fail
    refine (OC.out).mono ?_
    rintro e w1 ⟨rfl, rfl⟩
    go_wp2
    go_ret
    exact ⟨rfl, Below.refl _ _⟩
set_option maxRecDepth 100000 in
set_option maxHeartbeats 2000000 in
theorem withinL_any (A : Option Addr) (c : Nat) (l : List Int) (hl : l.length ≤ 1048576) (Ao : Option Addr) (co : Nat) (o : List Int) (ho : o.length ≤ 1048576) (Ab : Option Addr) (cb : Nat) (b : List Int) (hb : b.length ≤ 1048576) (w : World)
    (h : Reads w w.heap.size 1 A l.length (ints l)) (h0 : Reads w w.heap.size 1 Ao o.length (ints o)) (h1 : Reads w w.heap.size 1 Ab b.length (ints b)) :
    Calls Tryz.prog 112 #[.slice A l.length c, .slice Ao o.length co, .slice Ab b.length cb] w fun e w' => e = .returned (.bool (withinB l o b)) ∧ Below w.heap.size w w' := by
  have g0 := (Blk.new w 25 #[.slice Ao o.length co]).alloc (.cells #[.slice Ab b.length cb] 25)
  have g1 := Blk.new (w.alloc (.cells #[.slice Ao o.length co] 25)) 25 #[.slice Ab b.length cb]
  rw [show (w.alloc (.cells #[.slice Ao o.length co] 25)).heap.size = w.heap.size + 1 from by simp] at g1
  have hB : Below w.heap.size w ((w.alloc (.cells #[.slice Ao o.length co] 25)).alloc (.cells #[.slice Ab b.length cb] 25)) := ((Below.refl _ _).alloc (Nat.le_refl _) _).alloc (by simp) _
  obtain ⟨W1, hW1⟩ : ∃ W1, (w.alloc (.cells #[.slice Ao o.length co] 25)).alloc (.cells #[.slice Ab b.length cb] 25) = W1 := ⟨_, rfl⟩
  rw [hW1] at g0 g1 hB
  have CC := Lib.hid (containsf2_any 165 (.pointer (some ⟨w.heap.size, 0, none⟩)) (.pointer (some ⟨w.heap.size + 1, 0, none⟩)) (enters_of Tryz.func165 (by kernel_rfl) rfl) (fun e => !decide (e ∈ o) && !decide (e ∈ b)) A c l hl W1 ((h.below hB).more hB.size)
    (fun x _ W hBW => withinL1_any x w.heap.size (w.heap.size + 1) Ao co o ho Ab cb b hb W (((g0.next hBW).cell 0).trans rfl) (((g1.next hBW).cell 0).trans rfl) ((h0.below (hB.trans (hBW.mono hB.size))).more (hB.trans (hBW.mono hB.size)).size) ((h1.below (hB.trans (hBW.mono hB.size))).more (hB.trans (hBW.mono hB.size)).size)))
  unfold withinB
  obtain ⟨r, hr⟩ : ∃ r, (l.any fun e => !decide (e ∈ o) && !decide (e ∈ b)) = r := ⟨_, rfl⟩
  rw [hr] at CC ⊢
  obtain ⟨N, hN⟩ : ∃ N, o.length = N := ⟨_, rfl⟩
  obtain ⟨M, hM⟩ : ∃ N, b.length = N := ⟨_, rfl⟩
  obtain ⟨L, hL⟩ : ∃ N, l.length = N := ⟨_, rfl⟩
  rw [hN, hM] at hW1
  rw [hL] at CC
  rw [hN, hM, hL]
  have HW1 := Lib.hid hW1
  clear hr hN hM hL hl ho hb h h0 h1 g0 g1 hW1
  go_enter Tryz.func112, Tryz.ntmps112
  go_wp2_with fail
  rw [HW1.out]
  refine (CC.out).mono ?_
  rintro e w2 ⟨rfl, hb⟩
  have hB2 := hB.trans (hb.mono hB.size)
  go_wp2
  go_ret
  exact ⟨rfl, hB2⟩
end Go.Proofs.YtnbikkcalcpedaaGreatDoor

/-! Fires over a graph: that all burns is that a configuration is superstable; the configuration of a tree is right, superstable and stable. -/
namespace Go.Proofs.YtnbikkcalcpedaaGreatDoor
open Go.RowKit

end Go.Proofs.YtnbikkcalcpedaaGreatDoor

/-! Package superstable: the iterator configurations, a closure that calls itself. -/
namespace Go.Proofs.YtnbikkcalcpedaaGreatDoor
open Go.RowKit Go.Shelf
attribute [local go_sem] Oper.semAt_some


/-- Where the closure's parts lie. -/
structure FA where
  bg : Nat
  by_ : Nat
  bc : Nat
  bq : Nat
  bf : Nat
  gc : Nat
  A : Option Addr
  cA : Nat
section
variable {W W' : World} {n q l : Nat} {es : List E3} {a : FA} {cs : List Int}
end

end Go.Proofs.YtnbikkcalcpedaaGreatDoor

/-! Package recurrent: the iterator recurrents, where a vertex is to be chosen: it ranges over itself. -/
namespace Go.Proofs.YtnbikkcalcpedaaGreatDoor
open Go.RowKit Go.Shelf
attribute [local go_sem] Oper.semAt_some

end Go.Proofs.YtnbikkcalcpedaaGreatDoor

/-! The reference's active single edges: Least, Inside, Outside, Internal, External. -/
namespace Go.Proofs.YtnbikkcalcpedaaGreatDoor
open Go.RowKit

end Go.Proofs.YtnbikkcalcpedaaGreatDoor

