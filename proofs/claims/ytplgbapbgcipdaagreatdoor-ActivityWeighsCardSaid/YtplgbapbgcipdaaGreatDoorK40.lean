/-
  Texts of this claim, put together: PolyA, RMemb31, Ear31.
-/
import Derived.Test.YtplgbapbgcipdaaGreatDoorK39
import Derived.Test.YtplgbapbgcipdaaGreatDoorK32
import Derived.Test.YtplgbapbgcipdaaGreatDoorK36
import Derived.Test.YtplgbapbgcipdaaGreatDoorK35
import Derived.Test.YtplgbapbgcipdaaGreatDoorK38
import Derived.Test.YtplgbapbgcipdaaGreatDoorK10
import Derived.Test.YtplgbapbgcipdaaGreatDoorK07
/-! activity.Polynomial of small graphs: the sum of the weights of all trees, or the error. -/
namespace Go.Proofs.YtplgbapbgcipdaaGreatDoor
open Go.RowKit

/-- The weights of all trees, and what Polynomial returns. -/
def wtL (n : Nat) (E : List (Nat × Nat)) : List (Nat × Nat) := (treesT n E).map fun t => ((insA E t).length, (outA E t).length)
def polyE (n : Int) (es : List E3) : List Tm × Int := if joinErr n es ≠ 0 then ([], joinErr n es) else (sumP (wtL n.toNat (endsL es)), 0)
theorem bits_few : ∀ m : Fin 9, ∀ k : Fin 6, (((List.range (2 ^ m.val)).map (bitsL m.val)).filter fun t => decide (t.length + 1 = k.val)).length ≤ 70 := by decide +kernel
theorem few_trees {n : Nat} {E : List (Nat × Nat)} (hb : BdP n E) (hn : 0 < n) (h5 : n ≤ 5) (h8 : E.length ≤ 8) : (treesT n E).length ≤ 70 := by
  rw [← trees_sorted hb hn, sortG_length]
  unfold refTs
  have h1 : ((List.range (2 ^ E.length)).map (bitsL E.length)).filter (fun t => decide (t.length + 1 = n) && decide (partsP n (pk E t) = 1)) = (((List.range (2 ^ E.length)).map (bitsL E.length)).filter fun t => decide (t.length + 1 = n)).filter fun t => decide (partsP n (pk E t) = 1) := by
    rw [List.filter_filter]
    congr 1
    funext t
    exact Bool.and_comm _ _
  rw [h1]
  refine Nat.le_trans (List.length_filter_le _ _) ?_
  exact bits_few ⟨E.length, by omega⟩ ⟨n, by omega⟩
theorem insA_len {E : List (Nat × Nat)} {t : List Nat} : (insA E t).length ≤ t.length := List.length_filter_le _ _
theorem outA_len {E : List (Nat × Nat)} {t : List Nat} : (outA E t).length ≤ E.length := by
  have := List.length_filter_le (fun e => !decide (e ∈ t) && decide (EAct E t e)) (List.range E.length)
  rw [List.length_range] at this
  exact this
set_option maxRecDepth 100000 in
set_option maxHeartbeats 2000000 in
theorem polynomial_any (n : Int) (A : Option Addr) (c : Nat) (es : List E3) (hn : es.length ≤ 10000) (hfw : joinErr n es = 0 → n ≤ 5 ∧ (endsL es).length ≤ 8) (w : World) (h : Reads w w.heap.size 3 A es.length (edgeCells es)) :
    Calls Tryz.prog 18 #[.agg #[.int .i64 n, .slice A es.length c]] w fun e w' => ∃ A' c', e = .returned (.tuple #[.slice A' (polyE n es).1.length c', .int .i64 (polyE n es).2]) ∧ OwnT w' w.heap.size A' c' (polyE n es).1 ∧ Below w.heap.size w w' := by
  unfold polyE
  by_cases hj : joinErr n es = 0
  · rw [if_neg (fun hc => hc hj)]
    obtain ⟨h5, h8⟩ := hfw hj
    obtain ⟨_, hG, _⟩ := join_zero hj
    have hlo := hG.lo
    obtain ⟨m, rfl⟩ := Int.eq_ofNat_of_zero_le (show 0 ≤ n by omega)
    have hb := bd_ends hG
    rw [Int.toNat_natCast]
    have h70 := few_trees hb (by omega) (by omega) h8
    have hE : tallE m es = ((treesT m (endsL es)).map nI, 0) := by unfold tallE; rw [if_neg (fun hc => hc hj), Int.toNat_natCast]
    refine poly_core m A c es.length ((treesT m (endsL es)).map nI) (wtL m (endsL es)) (by simp [wtL]) (by rw [List.length_map]; omega) ?_ w ?_ ?_
    · intro p hp
      obtain ⟨t, ht, rfl⟩ := List.mem_map.1 hp
      have hT := ((treesT_spec hb (by omega)).1 t).1 ht
      have h1 := insA_len (E := endsL es) (t := t)
      have h2 := outA_len (E := endsL es) (t := t)
      have h3 := hT.len
      exact ⟨by show (insA (endsL es) t).length ≤ 256; omega, by show (outA (endsL es) t).length ≤ 256; omega⟩
    · intro W hB
      have := tall_any m A c es hn (by rw [hE]; simp; omega) W ((h.below hB).more hB.size)
      rw [hE] at this
      exact this
    · intro i xs p hxs hp B d W hB hr
      rw [List.getElem?_map] at hxs
      unfold wtL at hp
      rw [List.getElem?_map] at hp
      cases ht : (treesT m (endsL es))[i]? with
      | none => rw [ht] at hxs; cases hxs
      | some t =>
        rw [ht] at hxs hp
        injection hxs with hxs
        injection hp with hp
        subst hxs
        have hT := ((treesT_spec hb (by omega)).1 t).1 (List.mem_of_getElem? ht)
        have hz : treeErr m es (nI t) = 0 := tree_ok hj hT
        have e1 : intE m es (nI t) = (nI (insA (endsL es) t), 0) := by unfold intE; rw [if_pos hz, toN_nI]
        have e2 : extE m es (nI t) = (nI (outA (endsL es) t), 0) := by unfold extE; rw [if_pos hz, toN_nI]
        have h1 := insA_len (E := endsL es) (t := t)
        have h2 := outA_len (E := endsL es) (t := t)
        have h3 := hT.len
        have hwE : weightE m es (nI t) = ([(p, 1)], 0) := by
          unfold weightE
          rw [if_pos hz, e1, e2]
          dsimp only
          rw [nI_length, nI_length, ← hp]
        have := weight_any m A c es hn B d (nI t) (by rw [nI_length]; omega) (by rw [e1]; dsimp only; rw [nI_length]; omega) (by rw [e2]; dsimp only; rw [nI_length]; omega) W ((h.below hB).more hB.size) hr
        rw [hwE] at this
        exact this
  · rw [if_pos hj]
    have hE : tallE n es = ([], joinErr n es) := by unfold tallE; rw [if_pos hj]
    have AC := Lib.hid (fun (W : World) (hB : Below w.heap.size w W) => tall_any n A c es hn (by rw [hE]; simp) W ((h.below hB).more hB.size))
    rw [hE] at AC
    obtain ⟨z, hzz⟩ : ∃ z, joinErr n es = z := ⟨_, rfl⟩
    rw [hzz] at AC hj ⊢
    have hzb : (z != 0) = true := by simpa using hj
    have g := Blk.new w 24 #[.int .i64 n, .slice A es.length c]
    have hB : Below w.heap.size w (w.alloc (.cells #[.int .i64 n, .slice A es.length c] 24)) := (Below.refl _ _).alloc (Nat.le_refl _) _
    have k0 := g.cell 0
    have k1 := g.cell 1
    clear hj hzz hE hfw h
    go_enter Tryz.func18, Tryz.ntmps18
    go_wp2_with fail
    refine (AC.out _ hB).mono ?_
    rintro e w1 ⟨Ar, cr, vs, rfl, _, hb⟩
    have hB := hB.trans (hb.mono hB.size)
    go_wp2
    go_ret2
    exact ⟨none, 0, rfl, OwnT.nil_ _ _, hB⟩
end Go.Proofs.YtplgbapbgcipdaaGreatDoor

/-! The reference's Weight and Members. -/
namespace Go.Proofs.YtplgbapbgcipdaaGreatDoor
open Go.RowKit
theorem oneLit : (⟨#[49]⟩ : ByteArray) = intS 1 := by decide +kernel
set_option maxRecDepth 100000 in
set_option maxHeartbeats 4000000 in
theorem rweight31_any (n : Int) (A : Option Addr) (c : Nat) (es : List E3) (hn : es.length ≤ 40) (B : Option Addr) (d : Nat) (xs : List Int) (hm : xs.length ≤ 1048576) (hl : (intE n es xs).1.length ≤ 256 ∧ (extE n es xs).1.length ≤ 256) (w : World) (h : Reads w w.heap.size 3 A es.length (edgeCells es)) (h' : Reads w w.heap.size 1 B xs.length (ints xs)) :
    Calls Tryz.prog 24 #[.agg #[.int .i64 n, .slice A es.length c], .slice B xs.length d] w fun e w' => ∃ A' c', e = .returned (.tuple #[.slice A' (weightE n es xs).1.length c', .int .i64 (weightE n es xs).2]) ∧ Reads w' w'.heap.size 3 A' (weightE n es xs).1.length (tmCells (weightE n es xs).1) ∧ Below w.heap.size w w' := by
  have TC := Lib.hid (fun (W : World) (hB : Below w.heap.size w W) => rtcheck_any n A c es hn B d xs hm W ((h.below hB).more hB.size) ((h'.below hB).more hB.size))
  have g := Blk.new w 24 #[.int .i64 n, .slice A es.length c]
  have hB : Below w.heap.size w (w.alloc (.cells #[.int .i64 n, .slice A es.length c] 24)) := (Below.refl _ _).alloc (Nat.le_refl _) _
  have k0 := g.cell 0
  have k1 := g.cell 1
  unfold weightE
  obtain ⟨N, hN⟩ : ∃ N, xs.length = N := ⟨_, rfl⟩
  by_cases hz : treeErr n es xs = 0
  · rw [if_pos hz]
    rw [hz] at TC
    dsimp only
    have ei : intE n es xs = (nI (insA (endsL es) (toN xs)), 0) := if_pos hz
    have ee : extE n es xs = (nI (outA (endsL es) (toN xs)), 0) := if_pos hz
    obtain ⟨m, t, rfl, hxt, hR⟩ := treeR_of hz
    have hxn : toN xs = t := by rw [hxt, toN_nI]
    rw [hxn] at ei ee
    rw [ei, ee] at hl ⊢
    dsimp only at hl ⊢
    rw [nI_length, nI_length] at hl ⊢
    have hxl : xs.length = t.length := by rw [hxt, nI_length]
    have hrt : Reads w w.heap.size 1 B t.length (ints (nI t)) := by rw [hxl, hxt] at h'; exact h'
    have hNt : t.length = N := by rw [← hxl, hN]
    obtain ⟨ins, hins⟩ : ∃ l, insA (endsL es) t = l := ⟨_, rfl⟩
    obtain ⟨outs, houts⟩ : ∃ l, outA (endsL es) t = l := ⟨_, rfl⟩
    rw [hins, houts] at hl ⊢
    obtain ⟨ni, hni⟩ : ∃ n, ins.length = n := ⟨_, rfl⟩
    obtain ⟨no, hno⟩ : ∃ n, outs.length = n := ⟨_, rfl⟩
    rw [hni, hno] at hl ⊢
    have IC : Hid (∀ (W : World), Below w.heap.size w W → Calls Tryz.prog 46 #[.agg #[.int .i64 m, .slice A es.length c], .slice B N d] W fun e w' => ∃ A' c', e = .returned (.slice A' ni c') ∧ Reads w' w'.heap.size 1 A' ni (ints (nI ins)) ∧ Below W.heap.size W w') := fun W hB => by
      have hc := rinside_any m A c es hn B d t hR W ((h.below hB).more hB.size) ((hrt.below hB).more hB.size)
      rw [hins, hni, hNt] at hc
      refine hc.mono ?_
      rintro e w' ⟨A', c', he, o, hb⟩
      have hr := o.reads
      rw [nI_length, hni] at hr
      exact ⟨A', c', he, hr, hb⟩
    have OC : Hid (∀ (W : World), Below w.heap.size w W → Calls Tryz.prog 49 #[.agg #[.int .i64 m, .slice A es.length c], .slice B N d] W fun e w' => ∃ A' c', e = .returned (.slice A' no c') ∧ Reads w' w'.heap.size 1 A' no (ints (nI outs)) ∧ Below W.heap.size W w') := fun W hB => by
      have hc := routside_any m A c es hn B d t hR W ((h.below hB).more hB.size) ((hrt.below hB).more hB.size)
      rw [houts, hno, hNt] at hc
      refine hc.mono ?_
      rintro e w' ⟨A', c', he, o, hb⟩
      have hr := o.reads
      rw [nI_length, hno] at hr
      exact ⟨A', c', he, hr, hb⟩
    rw [hN] at TC ⊢
    have HL := Lib.hid hl
    clear hz ei ee hxt hR hxn hxl hrt hNt hins houts hni hno hN hm h h' hl
    have MC : Hid (∀ W : World, Calls Tryz.prog 63 #[.int .i64 ni, .int .i64 no, .string ⟨#[49]⟩] W fun e w' => ∃ A' c', e = .returned (.tuple #[.slice A' 1 c', .int .i64 0]) ∧ Reads w' w'.heap.size 3 A' 1 (tmCells [((ni, no), 1)]) ∧ Below W.heap.size W w') := fun W => by
      have hc := rmonomial_one ni no HL.out.1 HL.out.2 W
      rw [← oneLit] at hc
      refine hc.mono ?_
      rintro e w' ⟨A', c', he, o, hb⟩
      exact ⟨A', c', he, o.reads, hb⟩
    go_enter Tryz.func24, Tryz.ntmps24
    go_wp2_with fail
    refine (TC.out _ hB).mono ?_
    rintro e wn ⟨rfl, hb⟩
    have g := g.next hb
    have hB := hB.trans (hb.mono hB.size)
    have k0 := g.cell 0
    have k1 := g.cell 1
    clear hb
    go_wp2
    go_region_held3 (fun W => W.cell? ⟨w.heap.size, 0, none⟩ = some (.int .i64 m) ∧ W.cell? ⟨w.heap.size, 1, none⟩ = some (.slice A es.length c)) (go_keep) (first
      | (go_at_call 46; refine (IC.out _ hB.drew).mono ?_; rintro e w5 ⟨A5, c5, rfl, r5, hb5⟩; have g5 := g.drew.next hb5; have k0' := g5.cell 0; have k1' := g5.cell 1; have hB5 := hB.drew.trans (hb5.mono hB.size))
      | (go_at_call 49; refine (OC.out _ hB5).mono ?_; rintro e w7 ⟨A6, c6, rfl, r6, hb6⟩; have g7 := g5.next hb6; have k0'' := g7.cell 0; have k1'' := g7.cell 1; have hB7 := hB5.trans (hb6.mono hB5.size))
      | (go_at_call 49; refine (OC.out _ hB.drew).mono ?_; rintro e w6 ⟨A6, c6, rfl, r6, hb6⟩; have g6 := g.drew.next hb6; have k0' := g6.cell 0; have k1' := g6.cell 1; have hB6 := hB.drew.trans (hb6.mono hB.size))
      | (go_at_call 46; refine (IC.out _ hB6).mono ?_; rintro e w7 ⟨A5, c5, rfl, r5, hb5⟩; have g7 := g6.next hb5; have k0'' := g7.cell 0; have k1'' := g7.cell 1; have hB7 := hB6.trans (hb5.mono hB6.size))
      | (go_at_call 63; refine (MC.out _).mono ?_; rintro e w9 ⟨A9, c9, rfl, r9, hb9⟩; have k09 := (g7.next hb9).cell 0; have k19 := (g7.next hb9).cell 1)
      | fail)
    all_goals
      have hB9 := hB7.trans (hb9.mono hB7.size)
      go_wp2
      go_ret2
      exact ⟨A9, c9, rfl, r9, hB9⟩
  · rw [if_neg hz]
    dsimp only
    obtain ⟨z, hzz⟩ : ∃ z, treeErr n es xs = z := ⟨_, rfl⟩
    rw [hzz] at TC hz ⊢
    rw [hN] at TC ⊢
    have hzb : (z != 0) = true := by simpa using hz
    clear hz hzz hN hm h h' hl
    go_enter Tryz.func24, Tryz.ntmps24
    go_wp2_with fail
    refine (TC.out _ hB).mono ?_
    rintro e wn ⟨rfl, hb⟩
    have hB := hB.trans (hb.mono hB.size)
    go_wp2
    go_ret2
    exact ⟨none, 0, rfl, Reads.nil_, hB⟩
set_option maxRecDepth 100000 in
set_option maxHeartbeats 4000000 in
theorem rmembers31_any (n : Int) (A : Option Addr) (c : Nat) (es : List E3) (hn : es.length ≤ 40) (B : Option Addr) (d : Nat) (xs : List Int) (hm : xs.length ≤ 1048576) (hl : (intE n es xs).1.length + (extE n es xs).1.length ≤ 19) (w : World) (h : Reads w w.heap.size 3 A es.length (edgeCells es)) (h' : Reads w w.heap.size 1 B xs.length (ints xs)) :
    Calls Tryz.prog 26 #[.agg #[.int .i64 n, .slice A es.length c], .slice B xs.length d] w fun e w' => e = .returned (.tuple #[.int .i64 (memE n es xs).1, .int .i64 (memE n es xs).2]) ∧ Below w.heap.size w w' := by
  have TC := Lib.hid (fun (W : World) (hB : Below w.heap.size w W) => rtcheck_any n A c es hn B d xs hm W ((h.below hB).more hB.size) ((h'.below hB).more hB.size))
  have g := Blk.new w 24 #[.int .i64 n, .slice A es.length c]
  have hB : Below w.heap.size w (w.alloc (.cells #[.int .i64 n, .slice A es.length c] 24)) := (Below.refl _ _).alloc (Nat.le_refl _) _
  have k0 := g.cell 0
  have k1 := g.cell 1
  unfold memE
  obtain ⟨N, hN⟩ : ∃ N, xs.length = N := ⟨_, rfl⟩
  by_cases hz : treeErr n es xs = 0
  · rw [if_pos hz]
    rw [hz] at TC
    dsimp only
    have ei : intE n es xs = (nI (insA (endsL es) (toN xs)), 0) := if_pos hz
    have ee : extE n es xs = (nI (outA (endsL es) (toN xs)), 0) := if_pos hz
    obtain ⟨m, t, rfl, hxt, hR⟩ := treeR_of hz
    have hxn : toN xs = t := by rw [hxt, toN_nI]
    rw [hxn] at ei ee
    rw [ei, ee] at hl ⊢
    dsimp only at hl ⊢
    rw [nI_length, nI_length] at hl ⊢
    have hxl : xs.length = t.length := by rw [hxt, nI_length]
    have hrt : Reads w w.heap.size 1 B t.length (ints (nI t)) := by rw [hxl, hxt] at h'; exact h'
    have hNt : t.length = N := by rw [← hxl, hN]
    obtain ⟨ins, hins⟩ : ∃ l, insA (endsL es) t = l := ⟨_, rfl⟩
    obtain ⟨outs, houts⟩ : ∃ l, outA (endsL es) t = l := ⟨_, rfl⟩
    rw [hins, houts] at hl ⊢
    obtain ⟨ni, hni⟩ : ∃ n, ins.length = n := ⟨_, rfl⟩
    obtain ⟨no, hno⟩ : ∃ n, outs.length = n := ⟨_, rfl⟩
    rw [hni, hno] at hl ⊢
    have IC : Hid (∀ (W : World), Below w.heap.size w W → Calls Tryz.prog 46 #[.agg #[.int .i64 m, .slice A es.length c], .slice B N d] W fun e w' => ∃ A' c', e = .returned (.slice A' ni c') ∧ Reads w' w'.heap.size 1 A' ni (ints (nI ins)) ∧ Below W.heap.size W w') := fun W hB => by
      have hc := rinside_any m A c es hn B d t hR W ((h.below hB).more hB.size) ((hrt.below hB).more hB.size)
      rw [hins, hni, hNt] at hc
      refine hc.mono ?_
      rintro e w' ⟨A', c', he, o, hb⟩
      have hr := o.reads
      rw [nI_length, hni] at hr
      exact ⟨A', c', he, hr, hb⟩
    have OC : Hid (∀ (W : World), Below w.heap.size w W → Calls Tryz.prog 49 #[.agg #[.int .i64 m, .slice A es.length c], .slice B N d] W fun e w' => ∃ A' c', e = .returned (.slice A' no c') ∧ Reads w' w'.heap.size 1 A' no (ints (nI outs)) ∧ Below W.heap.size W w') := fun W hB => by
      have hc := routside_any m A c es hn B d t hR W ((h.below hB).more hB.size) ((hrt.below hB).more hB.size)
      rw [houts, hno, hNt] at hc
      refine hc.mono ?_
      rintro e w' ⟨A', c', he, o, hb⟩
      have hr := o.reads
      rw [nI_length, hno] at hr
      exact ⟨A', c', he, hr, hb⟩
    rw [hN] at TC ⊢
    have HL := Lib.hid hl
    clear hz ei ee hxt hR hxn hxl hrt hNt hins houts hni hno hN hm h h' hl
    obtain ⟨S, hS⟩ : ∃ S, ni + no = S := ⟨_, rfl⟩
    have hSi : (ni : Int) + (no : Int) = (S : Int) := by omega
    have hSl : S ≤ 19 := by have := HL.out; omega
    have hwS : IntKind.i64.wrap ((ni : Int) + (no : Int)) = (S : Int) := by rw [hSi]; exact IntWalk.i64_in _ (by omega)
    rw [hS]
    clear hS hSi HL
    go_enter Tryz.func26, Tryz.ntmps26
    go_wp2_with fail
    refine (TC.out _ hB).mono ?_
    rintro e wn ⟨rfl, hb⟩
    have g := g.next hb
    have hB := hB.trans (hb.mono hB.size)
    clear hb k0 k1
    go_wp2
    go_loopw [7, 8] (fun v i wr => ∃ k P : Nat, k ≤ S ∧ i = .int .i64 k ∧ v = .int .i64 (P : Int) ∧ Hid (P = 2 ^ k) ∧ Below wn.heap.size wn wr) (fun _ i _ => S - (intOf i).toNat)
    case atStart => exact ⟨0, 1, by omega, rfl, rfl, rfl, Below.refl _ _⟩
    case round =>
      obtain ⟨k, P, hk, rfl, rfl, HP, hbk⟩ := hrel
      have hBr := hB.trans (hbk.mono hB.size)
      have gk := g.next hbk
      have k0 := gk.cell 0
      have k1 := gk.cell 1
      go_wp2
      go_region_held3 (fun W => W.cell? ⟨w.heap.size, 0, none⟩ = some (.int .i64 m) ∧ W.cell? ⟨w.heap.size, 1, none⟩ = some (.slice A es.length c)) (go_keep) (first
        | (go_at_call 46; refine (IC.out _ hBr.drew).mono ?_; rintro e w5 ⟨A5, c5, rfl, r5, hb5⟩; have g5 := gk.drew.next hb5; have k0' := g5.cell 0; have k1' := g5.cell 1; have hB5 := hBr.drew.trans (hb5.mono hBr.size))
        | (go_at_call 49; refine (OC.out _ hB5).mono ?_; rintro e w7 ⟨A6, c6, rfl, r6, hb6⟩; have g7 := g5.next hb6; have k0'' := g7.cell 0; have k1'' := g7.cell 1; have hB7 := hB5.trans (hb6.mono hB5.size))
        | (go_at_call 49; refine (OC.out _ hBr.drew).mono ?_; rintro e w6 ⟨A6, c6, rfl, r6, hb6⟩; have g6 := gk.drew.next hb6; have k0' := g6.cell 0; have k1' := g6.cell 1; have hB6 := hBr.drew.trans (hb6.mono hBr.size))
        | (go_at_call 46; refine (IC.out _ hB6).mono ?_; rintro e w7 ⟨A5, c5, rfl, r5, hb5⟩; have g7 := g6.next hb5; have k0'' := g7.cell 0; have k1'' := g7.cell 1; have hB7 := hB6.trans (hb5.mono hB6.size))
        | fail)
      all_goals
        have hbn : Below wn.heap.size wn w7 := by first | exact hbk.trans (((Below.refl _ wr).drew.trans (hb5.trans (hb6.mono hb5.size))).mono hbk.size) | exact hbk.trans (((Below.refl _ wr).drew.trans (hb6.trans (hb5.mono hb6.size))).mono hbk.size)
        by_cases hlt : k < S
        · have hi : (k : Int) < (S : Int) := by omega
          have hi2 : decide ((k : Int) < (S : Int)) = true := decide_eq_true hi
          have hp : P ≤ 2 ^ 18 := by rw [HP.out]; exact Nat.pow_le_pow_right (by omega) (by omega)
          have hi3 : k < S := hlt
          have hw : IntKind.i64.wrap (2 * (P : Int)) = 2 * (P : Int) := IntWalk.i64_in _ (by omega)
          have hg : ¬ (1048576 : Int) < 2 * (P : Int) := by omega
          clear hp
          go_wp2
          go_roundw
          case rel => exact ⟨k + 1, 2 * P, by omega, by go_num, by simp, by rw [Hid, HP.out, Nat.pow_succ, Nat.mul_comm], hbn⟩
          case measure => simp [intOf]; omega
        · obtain rfl : k = S := by omega
          have hf : ¬ (k : Int) < (k : Int) := by omega
          go_wp2
          go_ret2
          have e2 : ((2 : Int) ^ k) = (P : Int) := by rw [HP.out]; simp
          rw [e2]
          exact ⟨rfl, hB7⟩
  · rw [if_neg hz]
    dsimp only
    obtain ⟨z, hzz⟩ : ∃ z, treeErr n es xs = z := ⟨_, rfl⟩
    rw [hzz] at TC hz ⊢
    rw [hN] at TC ⊢
    have hzb : (z != 0) = true := by simpa using hz
    clear hz hzz hN hm h h' hl
    go_enter Tryz.func26, Tryz.ntmps26
    go_wp2_with fail
    refine (TC.out _ hB).mono ?_
    rintro e wn ⟨rfl, hb⟩
    have hB := hB.trans (hb.mono hB.size)
    go_wp2
    go_ret2
    exact ⟨rfl, hB⟩
end Go.Proofs.YtplgbapbgcipdaaGreatDoor

/-! The examples of chapter 31, each by itself. -/
namespace Go.Proofs.YtplgbapbgcipdaaGreatDoor
open Go.RowKit
def tri31 : List E3 := [(0, 1, 1), (0, 2, 1), (1, 2, 1)]
theorem a31_i : intE 3 tri31 [0, 1] = ([0, 1], 0) := by decide +kernel
theorem a31_x : extE 3 tri31 [1, 2] = ([0], 0) := by decide +kernel
theorem a31_j : joinErr 3 tri31 = 0 := by decide +kernel
theorem a31_m : (endsL tri31).length ≤ 8 := by decide +kernel
theorem a31_l : (tallE 3 tri31).1.length ≤ 16384 := by decide +kernel
theorem a31_w : wtL 3 (endsL tri31) = [(2, 0), (1, 0), (0, 1)] := by decide +kernel
theorem a31_p : polyE 3 tri31 = ([((2, 0), 1), ((1, 0), 1), ((0, 1), 1)], 0) := by
  unfold polyE
  rw [if_neg (fun hc => hc a31_j), show (3 : Int).toNat = 3 from rfl, a31_w]
  simp [sumP, plusP, abv]
theorem a31_t : intvE 3 tri31 [0, 1, 2] = ([1, 2], 0) := by decide +kernel
theorem a31_u : intvE 3 tri31 [] = ([0, 1], 0) := by decide +kernel
theorem Blk.newB {w : World} {g : Nat} {t : TypeId} {cs : Array Value} (hg : g = w.heap.size) : Blk (w.alloc (.cells cs t)) g t cs := by subst hg; exact Blk.new w t cs
theorem row_litB {W : World} {g : Nat} {xs : List Int} (h : Blk W g 3 (ints xs).toArray) : Reads W W.heap.size 1 (some ⟨g, 0, none⟩) xs.length (ints xs) :=
  ⟨by simp [ints], fun _ => ⟨g, 0, rfl, h.lt, fun j u hu => by rw [Nat.zero_add, h.cell j]; simpa using hu⟩⟩
theorem tms_litB {W : World} {g : Nat} {p : List Tm} (h : Blk W g 72 (tmCells p).toArray) : Reads W W.heap.size 3 (some ⟨g, 0, none⟩) p.length (tmCells p) :=
  ⟨by rw [tmCells_length], fun _ => ⟨g, 0, rfl, h.lt, fun j u hu => by rw [Nat.zero_add, h.cell j]; simpa using hu⟩⟩
theorem below_al {w w' : World} {o : Obj} (h : Below (w.alloc o).heap.size (w.alloc o) w') : Below w.heap.size w w' := ((Below.refl _ _).alloc (Nat.le_refl _) o).trans (h.mono (by simp))
set_option maxHeartbeats 1000000 in
theorem tri31_any (w : World) : Calls Tryz.prog 42 #[] w fun e w' => ∃ A c, e = .returned (.agg #[.int .i64 3, .slice A 3 c]) ∧ Reads w' w'.heap.size 3 A tri31.length (edgeCells tri31) ∧ Below w.heap.size w w' := by
  go_enter Tryz.func42, Tryz.ntmps42
  go_wp2
  refine bodyPost_ret (results_g rfl rfl ((Blk.new w 24 #[.int .i64 3, .slice (some ⟨w.heap.size + 1, 0, none⟩) 3 3]).alloc _) rfl) rfl ?_
  have hB := Blk.new (w.alloc (.cells #[.int .i64 3, .slice (some ⟨w.heap.size + 1, 0, none⟩) 3 3] 24)) 106 (edgeCells tri31).toArray
  rw [show (w.alloc (.cells #[.int .i64 3, .slice (some ⟨w.heap.size + 1, 0, none⟩) 3 3] 24)).heap.size = w.heap.size + 1 from by simp] at hB
  refine ⟨some ⟨w.heap.size + 1, 0, none⟩, 3, rfl, ⟨by simp [edgeCells_length], fun _ => ⟨w.heap.size + 1, 0, rfl, by simp, fun j u hu => ?_⟩⟩, ((Below.refl _ _).alloc (Nat.le_refl _) _).alloc (by simp) _⟩
  rw [Nat.zero_add]
  refine (hB.cell j).trans ?_
  rw [← hu, List.getElem?_toArray]
theorem c31_int (A : Option Addr) (c : Nat) (w : World) (h : Reads w w.heap.size 3 A tri31.length (edgeCells tri31)) : Calls Tryz.prog 12 #[.agg #[.int .i64 3, .slice A 3 c], .slice (some ⟨w.heap.size, 0, none⟩) 2 2] (w.alloc (.cells (ints [0, 1]).toArray 3)) fun e w' => ∃ A1 c1, e = .returned (.tuple #[.slice A1 2 c1, .int .i64 0]) ∧ Reads w' w'.heap.size 1 A1 2 (ints [0, 1]) ∧ Below w.heap.size w w' := by
  have hb := internal_any 3 A c tri31 (by decide) (some ⟨w.heap.size, 0, none⟩) 2 [0, 1] (by decide) (w.alloc (.cells (ints [0, 1]).toArray 3)) ((h.alloc (Nat.le_refl _) _).more (by simp)) (row_litB (xs := [0, 1]) (Blk.newB rfl))
  rw [a31_i] at hb
  refine hb.mono ?_
  rintro e w' ⟨A1, c1, he, o, hb⟩
  exact ⟨A1, c1, he, o.reads, below_al hb⟩
theorem c31_ext (A : Option Addr) (c : Nat) (w : World) (h : Reads w w.heap.size 3 A tri31.length (edgeCells tri31)) : Calls Tryz.prog 14 #[.agg #[.int .i64 3, .slice A 3 c], .slice (some ⟨w.heap.size, 0, none⟩) 2 2] (w.alloc (.cells (ints [1, 2]).toArray 3)) fun e w' => ∃ A1 c1, e = .returned (.tuple #[.slice A1 1 c1, .int .i64 0]) ∧ Reads w' w'.heap.size 1 A1 1 (ints [0]) ∧ Below w.heap.size w w' := by
  have hb := external_any 3 A c tri31 (by decide) (some ⟨w.heap.size, 0, none⟩) 2 [1, 2] (by decide) (w.alloc (.cells (ints [1, 2]).toArray 3)) ((h.alloc (Nat.le_refl _) _).more (by simp)) (row_litB (xs := [1, 2]) (Blk.newB rfl))
  rw [a31_x] at hb
  refine hb.mono ?_
  rintro e w' ⟨A1, c1, he, o, hb⟩
  exact ⟨A1, c1, he, o.reads, below_al hb⟩
theorem c31_poly (A : Option Addr) (c : Nat) (w : World) (h : Reads w w.heap.size 3 A tri31.length (edgeCells tri31)) : Calls Tryz.prog 18 #[.agg #[.int .i64 3, .slice A 3 c]] w fun e w' => ∃ A1 c1, e = .returned (.tuple #[.slice A1 3 c1, .int .i64 0]) ∧ Reads w' w'.heap.size 3 A1 3 (tmCells [((2, 0), 1), ((1, 0), 1), ((0, 1), 1)]) ∧ Below w.heap.size w w' := by
  have hb := polynomial_any 3 A c tri31 (by decide) (fun _ => ⟨by decide, a31_m⟩) w h
  rw [a31_p] at hb
  refine hb.mono ?_
  rintro e w' ⟨A1, c1, he, o, hb⟩
  exact ⟨A1, c1, he, o.reads, hb⟩
theorem c31_tv (A : Option Addr) (c : Nat) (w : World) (h : Reads w w.heap.size 3 A tri31.length (edgeCells tri31)) : Calls Tryz.prog 21 #[.agg #[.int .i64 3, .slice A 3 c], .slice (some ⟨w.heap.size, 0, none⟩) 3 3] (w.alloc (.cells (ints [0, 1, 2]).toArray 3)) fun e w' => ∃ A1 c1, e = .returned (.tuple #[.slice A1 2 c1, .int .i64 0]) ∧ Reads w' w'.heap.size 1 A1 2 (ints [1, 2]) ∧ Below w.heap.size w w' := by
  have hb := interval_any 3 A c tri31 (by decide) a31_l (fun _ => Nat.le_trans a31_m (by omega)) (some ⟨w.heap.size, 0, none⟩) 3 [0, 1, 2] (by decide) (w.alloc (.cells (ints [0, 1, 2]).toArray 3)) ((h.alloc (Nat.le_refl _) _).more (by simp)) (row_litB (xs := [0, 1, 2]) (Blk.newB rfl))
  rw [a31_t] at hb
  refine hb.mono ?_
  rintro e w' ⟨A1, c1, he, o, hb⟩
  exact ⟨A1, c1, he, o, below_al hb⟩
theorem c31_uv (A : Option Addr) (c : Nat) (w : World) (h : Reads w w.heap.size 3 A tri31.length (edgeCells tri31)) : Calls Tryz.prog 21 #[.agg #[.int .i64 3, .slice A 3 c], .slice none 0 0] w fun e w' => ∃ A1 c1, e = .returned (.tuple #[.slice A1 2 c1, .int .i64 0]) ∧ Reads w' w'.heap.size 1 A1 2 (ints [0, 1]) ∧ Below w.heap.size w w' := by
  have hb := interval_any 3 A c tri31 (by decide) a31_l (fun _ => Nat.le_trans a31_m (by omega)) none 0 [] (by decide) w h Reads.nil_
  rw [a31_u] at hb
  exact hb
theorem c31_eq (l : List Int) (hl : l.length ≤ 100) (A : Option Addr) (c : Nat) (w : World) (h : Reads w w.heap.size 1 A l.length (ints l)) : Calls Tryz.prog 43 #[.slice A l.length c, .slice (some ⟨w.heap.size, 0, none⟩) l.length l.length] (w.alloc (.cells (ints l).toArray 3)) fun e w' => e = .returned (.bool true) ∧ Below w.heap.size w w' := by
  have hb := iequal_any A c l (some ⟨w.heap.size, 0, none⟩) l.length l (by omega) (w.alloc (.cells (ints l).toArray 3)) ((h.alloc (Nat.le_refl _) _).more (by simp)) (row_litB (xs := l) (Blk.newB rfl))
  refine hb.mono ?_
  rintro e w' ⟨he, hb⟩
  exact ⟨by rw [he, decide_eq_true rfl], below_al hb⟩
theorem c31_same (p : List Tm) (hl : p.length ≤ 100) (A : Option Addr) (c : Nat) (w : World) (h : Reads w w.heap.size 3 A p.length (tmCells p)) : Calls Tryz.prog 20 #[.slice A p.length c, .slice (some ⟨w.heap.size, 0, none⟩) p.length p.length] (w.alloc (.cells (tmCells p).toArray 72)) fun e w' => e = .returned (.bool true) ∧ Below w.heap.size w w' := by
  have hb := rsame06_any A c p (some ⟨w.heap.size, 0, none⟩) p.length (by omega) (w.alloc (.cells (tmCells p).toArray 72)) ((h.alloc (Nat.le_refl _) _).more (by simp)) (tms_litB (p := p) (Blk.newB rfl))
  refine hb.mono ?_
  rintro e w' ⟨he, hb⟩
  exact ⟨he, below_al hb⟩
end Go.Proofs.YtplgbapbgcipdaaGreatDoor

