/-
  Texts of this claim, put together: RSwap.
-/
import Derived.Test.YtepmfbgmkfkmkaaK31
import Derived.Test.YtepmfbgmkfkmkaaK18
/-! ref13.Swap. -/
namespace Go.Proofs.Ytepmfbgmkfkmkaa
open Go.RowKit

theorem tswap_all (n : Int) (A : Option Addr) (c : Nat) (es : List E3) (hn : es.length ≤ 40) (B : Option Addr) (d : Nat) (xs : List Int) (hm : xs.length ≤ 1048576) (o i : Int) (w : World) (h : Reads w w.heap.size 3 A es.length (edgeCells es)) (h' : Reads w w.heap.size 1 B xs.length (ints xs)) :
    Calls Try.prog 26 #[.agg #[.int .i64 n, .slice A es.length c], .slice B xs.length d, .int .i64 o, .int .i64 i] w fun e w' => ∃ A' c', e = .returned (.tuple #[.slice A' (swapE n es xs o i).1.length c', .int .i64 (swapE n es xs o i).2]) ∧ OwnI w' w.heap.size A' c' (swapE n es xs o i).1 ∧ Below w.heap.size w w' := by
  by_cases hj : treeErr n es xs = 0
  · have hel := hel_of hn hj
    refine tswap_any n A c es (by omega) (by omega) B d xs ?_ o i w h h'
    obtain ⟨m, t, _, rfl, hR⟩ := treeR_of hj
    have := hR.tr.len; have := hR.hi; rw [nI_length]; omega
  · exact tswap_err n A c es (by omega) B d xs hm o i w h h' hj
theorem swap_len {n : Int} {es : List E3} {xs : List Int} {o i : Int} (hm : xs.length ≤ 30) : (swapE n es xs o i).1.length ≤ 2000 := by
  have h1 : (tswapL xs o i).length ≤ 31 := by
    unfold tswapL
    rw [(sortG_perm _).length_eq, List.length_append]
    have := List.length_filter_le (fun x => !decide (x = o)) xs
    simp; omega
  unfold swapE
  split
  · simp
  · split
    · simp
    · split
      · simp
      · split
        · simp
        · split
          · simp only; omega
          · simp

set_option maxRecDepth 100000 in
set_option maxHeartbeats 4000000 in
theorem rswap_any (n : Int) (A : Option Addr) (c : Nat) (es : List E3) (hn : es.length ≤ 40) (B : Option Addr) (d : Nat) (xs : List Int) (hm : xs.length ≤ 30) (o i : Int) (w : World) (h : Reads w w.heap.size 3 A es.length (edgeCells es)) (h' : Reads w w.heap.size 1 B xs.length (ints xs)) :
    Calls Try.prog 27 #[.agg #[.int .i64 n, .slice A es.length c], .slice B xs.length d, .int .i64 o, .int .i64 i] w fun e w' => ∃ A' c', e = .returned (.tuple #[.slice A' (swapE n es xs o i).1.length c', .int .i64 (swapE n es xs o i).2]) ∧ OwnI w' w.heap.size A' c' (swapE n es xs o i).1 ∧ Below w.heap.size w w' := by
  have S1 := Lib.hid (fun (W : World) (hB : Below w.heap.size w W) => single_any n A c es hn B d xs (by omega) o W ((h.below hB).more hB.size) ((h'.below hB).more hB.size))
  have S2 := Lib.hid (fun (W : World) (hB : Below w.heap.size w W) => single_any n A c es hn B d xs (by omega) i W ((h.below hB).more hB.size) ((h'.below hB).more hB.size))
  have H1 := Lib.hid (fun (W : World) (hB : Below w.heap.size w W) => holds_any B d xs (by omega) o W ((h'.below hB).more hB.size))
  have H2 := Lib.hid (fun (W : World) (hB : Below w.heap.size w W) => holds_any B d xs (by omega) i W ((h'.below hB).more hB.size))
  have g := Blk.new w 24 #[.int .i64 n, .slice A es.length c]
  have hB := (Below.refl w.heap.size w).alloc (Nat.le_refl _) (.cells #[.int .i64 n, .slice A es.length c] 24)
  have k0 := g.cell 0
  have k1 := g.cell 1
  by_cases hs1 : singErr n es xs o = 0
  · obtain ⟨hj, h0, h1⟩ := sing_zero hs1
    rw [hs1] at S1
    by_cases hs2 : singErr n es xs i = 0
    · obtain ⟨_, h2, h3⟩ := sing_zero hs2
      rw [hs2] at S2
      have hrng : ¬ (¬ (0 ≤ o ∧ o < ((endsL es).length : Int)) ∨ ¬ (0 ≤ i ∧ i < ((endsL es).length : Int))) := by omega
      by_cases ho : o ∉ xs
      · have HE : Hid (swapE n es xs o i = ([], 6)) := by unfold Hid swapE; rw [if_neg (fun hc => hc hj), if_neg hrng, if_pos ho]
        rw [HE.out]
        rw [decide_eq_false ho] at H1
        clear ho HE hj hs1 hs2 h0 h1 h2 h3 hrng H2
        go_enter Try.func27, Try.ntmps27
        go_wp2_with fail
        refine (S1.out _ hB).mono ?_
        rintro e wn ⟨rfl, hb⟩
        have g := g.next hb
        have hB := hB.trans (hb.mono hB.size)
        have k0 := g.cell 0
        have k1 := g.cell 1
        clear hb
        go_wp2_with fail
        refine (S2.out _ hB).mono ?_
        rintro e wn ⟨rfl, hb⟩
        have g := g.next hb
        have hB := hB.trans (hb.mono hB.size)
        have k0 := g.cell 0
        have k1 := g.cell 1
        clear hb
        go_wp2_with fail
        refine (H1.out _ hB).mono ?_
        rintro e w9 ⟨rfl, rfl⟩
        go_wp2
        go_ret2
        exact ⟨none, 0, rfl, OwnI.nil_ _ _, hB⟩
      · have ho2 : o ∈ xs := Classical.byContradiction ho
        rw [decide_eq_true ho2] at H1
        by_cases hi : i ∈ xs
        · have HE : Hid (swapE n es xs o i = ([], 7)) := by unfold Hid swapE; rw [if_neg (fun hc => hc hj), if_neg hrng, if_neg ho, if_pos hi]
          rw [HE.out]
          rw [decide_eq_true hi] at H2
          clear ho ho2 hi HE hj hs1 hs2 h0 h1 h2 h3 hrng
          go_enter Try.func27, Try.ntmps27
          go_wp2_with fail
          refine (S1.out _ hB).mono ?_
          rintro e wn ⟨rfl, hb⟩
          have g := g.next hb
          have hB := hB.trans (hb.mono hB.size)
          have k0 := g.cell 0
          have k1 := g.cell 1
          clear hb
          go_wp2_with fail
          refine (S2.out _ hB).mono ?_
          rintro e wn ⟨rfl, hb⟩
          have g := g.next hb
          have hB := hB.trans (hb.mono hB.size)
          have k0 := g.cell 0
          have k1 := g.cell 1
          clear hb
          go_wp2_with fail
          refine (H1.out _ hB).mono ?_
          rintro e w9 ⟨rfl, rfl⟩
          go_wp2_with fail
          refine (H2.out _ hB).mono ?_
          rintro e w9 ⟨rfl, rfl⟩
          go_wp2
          go_ret2
          exact ⟨none, 0, rfl, OwnI.nil_ _ _, hB⟩
        · rw [decide_eq_false hi] at H2
          have HE : Hid (swapE n es xs o i = if spansB n.toNat (endsL es) (toN (tswapL xs o i)) = true then (tswapL xs o i, 0) else ([], 15)) := by unfold Hid swapE; rw [if_neg (fun hc => hc hj), if_neg hrng, if_neg ho, if_neg hi]
          obtain ⟨m, t, rfl, hxt, hR⟩ := treeR_of hj
          have hmem : ∀ x ∈ tswapL xs o i, 0 ≤ x ∧ x < ((endsL es).length : Int) := by
            intro x hx
            rcases swap_mem hx with hx | rfl
            · rw [hxt] at hx
              obtain ⟨y, hy, rfl⟩ := List.mem_map.1 hx
              have := hR.hT.lt y hy
              exact ⟨by omega, by omega⟩
            · exact ⟨h2, h3⟩
          have hnU : nI (toN (tswapL xs o i)) = tswapL xs o i := nI_toN fun x hx => (hmem x hx).1
          have hlt : ∀ e ∈ toN (tswapL xs o i), e < (endsL es).length := by
            intro e he
            obtain ⟨x, hx, rfl⟩ := List.mem_map.1 he
            have := hmem x hx
            omega
          have hUl : (tswapL xs o i).length = (xs.filter fun x => !decide (x = o)).length + 1 := by unfold tswapL; rw [(sortG_perm _).length_eq, List.length_append]; rfl
          have hFl : (xs.filter fun x => !decide (x = o)).length ≤ 30 := Nat.le_trans (List.length_filter_le _ _) hm
          have hTl : (toN (tswapL xs o i)).length = (tswapL xs o i).length := by simp [toN]
          have LC : Hid (∀ (W : World) (hB : Below w.heap.size w W), Calls Try.prog 46 #[.slice B xs.length d, .int .i64 o] W fun e w' => ∃ A' c', e = .returned (.slice A' (xs.filter fun x => !decide (x = o)).length c') ∧ OwnI w' W.heap.size A' c' (xs.filter fun x => !decide (x = o)) ∧ Below W.heap.size W w') := fun W hB => rless_any B d xs (by omega) o W ((h'.below hB).more hB.size)
          have IC : Hid (∀ (A' : Option Addr) (c' : Nat) (W : World) (hB : Below w.heap.size w W) (hr : Reads W W.heap.size 1 A' ((xs.filter fun x => !decide (x = o)).length + 1) (ints (tswapL xs o i))), Calls Try.prog 51 #[.agg #[.int .i64 m, .slice A es.length c], .slice A' ((xs.filter fun x => !decide (x = o)).length + 1) c'] W fun e w' => e = .returned (.bool (spansB m (endsL es) (toN (tswapL xs o i)))) ∧ Below W.heap.size W w') := by
            intro A' c' W hB hr
            have := ris13_any m A c es hn hR.hG A' c' (toN (tswapL xs o i)) hlt (by omega) W ((h.below hB).more hB.size) (by rw [hnU, hTl, hUl]; exact hr)
            rw [hTl, hUl] at this
            exact this
          have SC : Hid (∀ (A' : Option Addr) (c' : Nat) (W : World), OwnI W w.heap.size A' c' ((xs.filter fun x => !decide (x = o)) ++ [i]) → Calls Try.prog 65 #[.slice A' ((xs.filter fun x => !decide (x = o)).length + 1) c'] W fun e w' => ∃ A2 c2, e = .returned (.slice A2 ((xs.filter fun x => !decide (x = o)).length + 1) c2) ∧ OwnI w' W.heap.size A2 c2 (tswapL xs o i) ∧ Below W.heap.size W w') := by
            intro A' c' W hO
            have h1 : ((xs.filter fun x => !decide (x = o)) ++ [i]).length = (xs.filter fun x => !decide (x = o)).length + 1 := by simp
            have := rsorted_any A' c' ((xs.filter fun x => !decide (x = o)) ++ [i]) (by omega) W hO.reads
            rw [h1] at this
            exact this
          rw [Int.toNat_natCast] at HE
          rw [HE.out]
          obtain ⟨U, hU⟩ : ∃ U, tswapL xs o i = U := ⟨_, rfl⟩
          rw [hU] at IC SC hUl ⊢
          obtain ⟨F, hF⟩ : ∃ F, (xs.filter fun x => !decide (x = o)) = F := ⟨_, rfl⟩
          rw [hF] at IC SC LC hUl hFl
          obtain ⟨b, hb⟩ : ∃ b, spansB m (endsL es) (toN U) = b := ⟨_, rfl⟩
          rw [hb] at IC ⊢
          have HUL := Lib.hid hUl
          clear ho ho2 hi HE hj hs1 hs2 h0 h1 h2 h3 hrng hxt hR hmem hnU hlt hUl hTl hU hF hb
          go_enter Try.func27, Try.ntmps27
          go_wp2_with fail
          refine (S1.out _ hB).mono ?_
          rintro e wn ⟨rfl, hb⟩
          have g := g.next hb
          have hB := hB.trans (hb.mono hB.size)
          have k0 := g.cell 0
          have k1 := g.cell 1
          clear hb
          go_wp2_with fail
          refine (S2.out _ hB).mono ?_
          rintro e wn ⟨rfl, hb⟩
          have g := g.next hb
          have hB := hB.trans (hb.mono hB.size)
          have k0 := g.cell 0
          have k1 := g.cell 1
          clear hb
          go_wp2_with fail
          refine (H1.out _ hB).mono ?_
          rintro e w9 ⟨rfl, rfl⟩
          go_wp2_with fail
          refine (H2.out _ hB).mono ?_
          rintro e w9 ⟨rfl, rfl⟩
          go_wp2_with fail
          refine (LC.out _ hB).mono ?_
          rintro e wn ⟨AL, cL, rfl, oL, hb⟩
          have oL := oL.mono (Nat.succ_le_of_lt g.lt)
          have g := g.next hb
          have hB := hB.trans (hb.mono hB.size)
          have k0 := g.cell 0
          have k1 := g.cell 1
          clear hb
          have hzB := Nat.succ_le_of_lt g.lt
          go_wp2_with (first | (at_builtin; refine push_int rfl (.tmp 36) (.tmp 38) _ rfl Try.underlying25 (w.heap.size + 1) AL cL F i rfl oL rfl rfl (by omega) hzB ?_; intro A5 c5 w5 hown5 _ hb5) | fail)
          have g := g.below hb5 (Nat.lt_succ_self _)
          have hB := hB.trans (hb5.mono (Nat.le_succ _))
          have o5 := hown5.mono (Nat.le_succ _)
          have k0 := g.cell 0
          have k1 := g.cell 1
          clear hb5 oL hown5
          refine (SC.out _ _ _ o5).mono ?_
          rintro e w6 ⟨A6, c6, rfl, o6, hb⟩
          have o6 := o6.mono hB.size
          have r6 := o6.reads
          rw [HUL.out] at r6
          have g := g.next hb
          have hB := hB.trans (hb.mono hB.size)
          have k0 := g.cell 0
          have k1 := g.cell 1
          clear hb o5
          go_wp2_with fail
          refine (IC.out _ _ _ hB r6).mono ?_
          rintro e w7 ⟨rfl, hb⟩
          have o6 := o6.next hb
          have hB := hB.trans (hb.mono hB.size)
          clear hb r6
          cases b
          · go_wp2
            go_ret2
            exact ⟨none, 0, rfl, OwnI.nil_ _ _, hB⟩
          · go_wp2
            go_ret2
            exact ⟨A6, c6, by rw [HUL.out]; rfl, o6, hB⟩
    · have HE : Hid (swapE n es xs o i = ([], singErr n es xs i)) := by
        have hr : i < 0 ∨ ((endsL es).length : Int) ≤ i := Classical.byContradiction fun hr => hs2 (by unfold singErr; rw [if_neg (fun hc => hc hj), if_neg hr])
        unfold Hid swapE singErr; rw [if_neg (fun hc => hc hj), if_pos (.inr (by omega)), if_neg (fun hc => hc hj), if_pos hr]
      rw [HE.out]
      obtain ⟨z, hz⟩ : ∃ z, singErr n es xs i = z := ⟨_, rfl⟩
      rw [hz] at S2 hs2 ⊢
      have hz2 : (z != 0) = true := by simpa using hs2
      clear hs1 hs2 hz HE hj h0 h1 H1 H2
      go_enter Try.func27, Try.ntmps27
      go_wp2_with fail
      refine (S1.out _ hB).mono ?_
      rintro e wn ⟨rfl, hb⟩
      have g := g.next hb
      have hB := hB.trans (hb.mono hB.size)
      have k0 := g.cell 0
      have k1 := g.cell 1
      clear hb
      go_wp2_with fail
      refine (S2.out _ hB).mono ?_
      rintro e wn ⟨rfl, hb⟩
      have g := g.next hb
      have hB := hB.trans (hb.mono hB.size)
      have k0 := g.cell 0
      have k1 := g.cell 1
      clear hb
      go_wp2
      go_ret2
      exact ⟨none, 0, rfl, OwnI.nil_ _ _, hB⟩
  · have HE : Hid (swapE n es xs o i = ([], singErr n es xs o)) := by
      unfold Hid swapE singErr
      by_cases hj : treeErr n es xs = 0
      · have hr : o < 0 ∨ ((endsL es).length : Int) ≤ o := Classical.byContradiction fun hr => hs1 (by unfold singErr; rw [if_neg (fun hc => hc hj), if_neg hr])
        rw [if_neg (fun hc => hc hj), if_pos (.inl (by omega)), if_neg (fun hc => hc hj), if_pos hr]
      · rw [if_pos hj, if_pos hj]
    rw [HE.out]
    obtain ⟨z, hz⟩ : ∃ z, singErr n es xs o = z := ⟨_, rfl⟩
    rw [hz] at S1 hs1 ⊢
    have hz2 : (z != 0) = true := by simpa using hs1
    clear hs1 hz HE H1 H2 S2
    go_enter Try.func27, Try.ntmps27
    go_wp2_with fail
    refine (S1.out _ hB).mono ?_
    rintro e wn ⟨rfl, hb⟩
    have g := g.next hb
    have hB := hB.trans (hb.mono hB.size)
    have k0 := g.cell 0
    have k1 := g.cell 1
    clear hb
    go_wp2
    go_ret2
    exact ⟨none, 0, rfl, OwnI.nil_ _ _, hB⟩
end Go.Proofs.Ytepmfbgmkfkmkaa

