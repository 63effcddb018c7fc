/-
  Texts of this claim, put together: RSwap, DegP.
-/
import Derived.Test.YtepmfbgmkfkmkaaK31
import Derived.Test.YtepmfbgmkfkmkaaK18
import Derived.Test.YtepmfbgmkfkmkaaK25
import Derived.Test.YtepmfbgmkfkmkaaK12
/-! ref13.Swap. -/
namespace Go.Proofs.Ytepmfbgmkfkmkaa
open Go.RowKit

theorem tswap_all (n : Int) (A : Option Addr) (c : Nat) (es : List E3) (hn : es.length ≤ 40) (B : Option Addr) (d : Nat) (xs : List Int) (hm : xs.length ≤ 1048576) (o i : Int) (w : World) (h : Reads w w.heap.size 3 A es.length (edgeCells es)) (h' : Reads w w.heap.size 1 B xs.length (ints xs)) :
    Calls Try.prog 26 #[.agg #[.int .i64 n, .slice A es.length c], .slice B xs.length d, .int .i64 o, .int .i64 i] w fun e w' => ∃ A' c', e = .returned (.tuple #[.slice A' (swapE n es xs o i).1.length c', .int .i64 (swapE n es xs o i).2]) ∧ OwnI w' w.heap.size A' c' (swapE n es xs o i).1 ∧ Below w.heap.size w w' := by
  by_cases hj : treeErr n es xs = 0
  · have hel := hel_of hn hj
    refine tswap_any n A c es (by omega) (by omega) B d xs ?_ o i w h h'
    obtain ⟨m, t, _, rfl, hR⟩ := treeR_of hj
    have := hR.tr.len; have := hR.hi; rw [nI_length]; omega
  · exact tswap_err n A c es (by omega) B d xs hm o i w h h' hj
theorem swap_len {n : Int} {es : List E3} {xs : List Int} {o i : Int} (hm : xs.length ≤ 30) : (swapE n es xs o i).1.length ≤ 2000 := by
  have h1 : (tswapL xs o i).length ≤ 31 := by
    unfold tswapL
    rw [(sortG_perm _).length_eq, List.length_append]
    have := List.length_filter_le (fun x => !decide (x = o)) xs
    simp; omega
  unfold swapE
  split
  · simp
  · split
    · simp
    · split
      · simp
      · split
        · simp
        · split
          · simp only; omega
          · simp

set_option maxRecDepth 100000 in
set_option maxHeartbeats 4000000 in
theorem rswap_any (n : Int) (A : Option Addr) (c : Nat) (es : List E3) (hn : es.length ≤ 40) (B : Option Addr) (d : Nat) (xs : List Int) (hm : xs.length ≤ 30) (o i : Int) (w : World) (h : Reads w w.heap.size 3 A es.length (edgeCells es)) (h' : Reads w w.heap.size 1 B xs.length (ints xs)) :
    Calls Try.prog 27 #[.agg #[.int .i64 n, .slice A es.length c], .slice B xs.length d, .int .i64 o, .int .i64 i] w fun e w' => ∃ A' c', e = .returned (.tuple #[.slice A' (swapE n es xs o i).1.length c', .int .i64 (swapE n es xs o i).2]) ∧ OwnI w' w.heap.size A' c' (swapE n es xs o i).1 ∧ Below w.heap.size w w' := by
  have S1 := Lib.hid (fun (W : World) (hB : Below w.heap.size w W) => single_any n A c es hn B d xs (by omega) o W ((h.below hB).more hB.size) ((h'.below hB).more hB.size))
  have S2 := Lib.hid (fun (W : World) (hB : Below w.heap.size w W) => single_any n A c es hn B d xs (by omega) i W ((h.below hB).more hB.size) ((h'.below hB).more hB.size))
  have H1 := Lib.hid (fun (W : World) (hB : Below w.heap.size w W) => holds_any B d xs (by omega) o W ((h'.below hB).more hB.size))
  have H2 := Lib.hid (fun (W : World) (hB : Below w.heap.size w W) => holds_any B d xs (by omega) i W ((h'.below hB).more hB.size))
  have g := Blk.new w 24 #[.int .i64 n, .slice A es.length c]
  have hB := (Below.refl w.heap.size w).alloc (Nat.le_refl _) (.cells #[.int .i64 n, .slice A es.length c] 24)
  have k0 := g.cell 0
  have k1 := g.cell 1
  by_cases hs1 : singErr n es xs o = 0
  · obtain ⟨hj, h0, h1⟩ := sing_zero hs1
    rw [hs1] at S1
    by_cases hs2 : singErr n es xs i = 0
    · obtain ⟨_, h2, h3⟩ := sing_zero hs2
      rw [hs2] at S2
      have hrng : ¬ (¬ (0 ≤ o ∧ o < ((endsL es).length : Int)) ∨ ¬ (0 ≤ i ∧ i < ((endsL es).length : Int))) := by omega
      by_cases ho : o ∉ xs
      · have HE : Hid (swapE n es xs o i = ([], 6)) := by unfold Hid swapE; rw [if_neg (fun hc => hc hj), if_neg hrng, if_pos ho]
        rw [HE.out]
        rw [decide_eq_false ho] at H1
        clear ho HE hj hs1 hs2 h0 h1 h2 h3 hrng H2
        go_enter Try.func27, Try.ntmps27
        go_wp2_with fail
        refine (S1.out _ hB).mono ?_
        rintro e wn ⟨rfl, hb⟩
        have g := g.next hb
        have hB := hB.trans (hb.mono hB.size)
        have k0 := g.cell 0
        have k1 := g.cell 1
        clear hb
        go_wp2_with fail
        refine (S2.out _ hB).mono ?_
        rintro e wn ⟨rfl, hb⟩
        have g := g.next hb
        have hB := hB.trans (hb.mono hB.size)
        have k0 := g.cell 0
        have k1 := g.cell 1
        clear hb
        go_wp2_with fail
        refine (H1.out _ hB).mono ?_
        rintro e w9 ⟨rfl, rfl⟩
        go_wp2
        go_ret2
        exact ⟨none, 0, rfl, OwnI.nil_ _ _, hB⟩
      · have ho2 : o ∈ xs := Classical.byContradiction ho
        rw [decide_eq_true ho2] at H1
        by_cases hi : i ∈ xs
        · have HE : Hid (swapE n es xs o i = ([], 7)) := by unfold Hid swapE; rw [if_neg (fun hc => hc hj), if_neg hrng, if_neg ho, if_pos hi]
          rw [HE.out]
          rw [decide_eq_true hi] at H2
          clear ho ho2 hi HE hj hs1 hs2 h0 h1 h2 h3 hrng
          go_enter Try.func27, Try.ntmps27
          go_wp2_with fail
          refine (S1.out _ hB).mono ?_
          rintro e wn ⟨rfl, hb⟩
          have g := g.next hb
          have hB := hB.trans (hb.mono hB.size)
          have k0 := g.cell 0
          have k1 := g.cell 1
          clear hb
          go_wp2_with fail
          refine (S2.out _ hB).mono ?_
          rintro e wn ⟨rfl, hb⟩
          have g := g.next hb
          have hB := hB.trans (hb.mono hB.size)
          have k0 := g.cell 0
          have k1 := g.cell 1
          clear hb
          go_wp2_with fail
          refine (H1.out _ hB).mono ?_
          rintro e w9 ⟨rfl, rfl⟩
          go_wp2_with fail
          refine (H2.out _ hB).mono ?_
          rintro e w9 ⟨rfl, rfl⟩
          go_wp2
          go_ret2
          exact ⟨none, 0, rfl, OwnI.nil_ _ _, hB⟩
        · rw [decide_eq_false hi] at H2
          have HE : Hid (swapE n es xs o i = if spansB n.toNat (endsL es) (toN (tswapL xs o i)) = true then (tswapL xs o i, 0) else ([], 15)) := by unfold Hid swapE; rw [if_neg (fun hc => hc hj), if_neg hrng, if_neg ho, if_neg hi]
          obtain ⟨m, t, rfl, hxt, hR⟩ := treeR_of hj
          have hmem : ∀ x ∈ tswapL xs o i, 0 ≤ x ∧ x < ((endsL es).length : Int) := by
            intro x hx
            rcases swap_mem hx with hx | rfl
            · rw [hxt] at hx
              obtain ⟨y, hy, rfl⟩ := List.mem_map.1 hx
              have := hR.hT.lt y hy
              exact ⟨by omega, by omega⟩
            · exact ⟨h2, h3⟩
          have hnU : nI (toN (tswapL xs o i)) = tswapL xs o i := nI_toN fun x hx => (hmem x hx).1
          have hlt : ∀ e ∈ toN (tswapL xs o i), e < (endsL es).length := by
            intro e he
            obtain ⟨x, hx, rfl⟩ := List.mem_map.1 he
            have := hmem x hx
            omega
          have hUl : (tswapL xs o i).length = (xs.filter fun x => !decide (x = o)).length + 1 := by unfold tswapL; rw [(sortG_perm _).length_eq, List.length_append]; rfl
          have hFl : (xs.filter fun x => !decide (x = o)).length ≤ 30 := Nat.le_trans (List.length_filter_le _ _) hm
          have hTl : (toN (tswapL xs o i)).length = (tswapL xs o i).length := by simp [toN]
          have LC : Hid (∀ (W : World) (hB : Below w.heap.size w W), Calls Try.prog 46 #[.slice B xs.length d, .int .i64 o] W fun e w' => ∃ A' c', e = .returned (.slice A' (xs.filter fun x => !decide (x = o)).length c') ∧ OwnI w' W.heap.size A' c' (xs.filter fun x => !decide (x = o)) ∧ Below W.heap.size W w') := fun W hB => rless_any B d xs (by omega) o W ((h'.below hB).more hB.size)
          have IC : Hid (∀ (A' : Option Addr) (c' : Nat) (W : World) (hB : Below w.heap.size w W) (hr : Reads W W.heap.size 1 A' ((xs.filter fun x => !decide (x = o)).length + 1) (ints (tswapL xs o i))), Calls Try.prog 51 #[.agg #[.int .i64 m, .slice A es.length c], .slice A' ((xs.filter fun x => !decide (x = o)).length + 1) c'] W fun e w' => e = .returned (.bool (spansB m (endsL es) (toN (tswapL xs o i)))) ∧ Below W.heap.size W w') := by
            intro A' c' W hB hr
            have := ris13_any m A c es hn hR.hG A' c' (toN (tswapL xs o i)) hlt (by omega) W ((h.below hB).more hB.size) (by rw [hnU, hTl, hUl]; exact hr)
            rw [hTl, hUl] at this
            exact this
          have SC : Hid (∀ (A' : Option Addr) (c' : Nat) (W : World), OwnI W w.heap.size A' c' ((xs.filter fun x => !decide (x = o)) ++ [i]) → Calls Try.prog 65 #[.slice A' ((xs.filter fun x => !decide (x = o)).length + 1) c'] W fun e w' => ∃ A2 c2, e = .returned (.slice A2 ((xs.filter fun x => !decide (x = o)).length + 1) c2) ∧ OwnI w' W.heap.size A2 c2 (tswapL xs o i) ∧ Below W.heap.size W w') := by
            intro A' c' W hO
            have h1 : ((xs.filter fun x => !decide (x = o)) ++ [i]).length = (xs.filter fun x => !decide (x = o)).length + 1 := by simp
            have := rsorted_any A' c' ((xs.filter fun x => !decide (x = o)) ++ [i]) (by omega) W hO.reads
            rw [h1] at this
            exact this
          rw [Int.toNat_natCast] at HE
          rw [HE.out]
          obtain ⟨U, hU⟩ : ∃ U, tswapL xs o i = U := ⟨_, rfl⟩
          rw [hU] at IC SC hUl ⊢
          obtain ⟨F, hF⟩ : ∃ F, (xs.filter fun x => !decide (x = o)) = F := ⟨_, rfl⟩
          rw [hF] at IC SC LC hUl hFl
          obtain ⟨b, hb⟩ : ∃ b, spansB m (endsL es) (toN U) = b := ⟨_, rfl⟩
          rw [hb] at IC ⊢
          have HUL := Lib.hid hUl
          clear ho ho2 hi HE hj hs1 hs2 h0 h1 h2 h3 hrng hxt hR hmem hnU hlt hUl hTl hU hF hb
          go_enter Try.func27, Try.ntmps27
          go_wp2_with fail
          refine (S1.out _ hB).mono ?_
          rintro e wn ⟨rfl, hb⟩
          have g := g.next hb
          have hB := hB.trans (hb.mono hB.size)
          have k0 := g.cell 0
          have k1 := g.cell 1
          clear hb
          go_wp2_with fail
          refine (S2.out _ hB).mono ?_
          rintro e wn ⟨rfl, hb⟩
          have g := g.next hb
          have hB := hB.trans (hb.mono hB.size)
          have k0 := g.cell 0
          have k1 := g.cell 1
          clear hb
          go_wp2_with fail
          refine (H1.out _ hB).mono ?_
          rintro e w9 ⟨rfl, rfl⟩
          go_wp2_with fail
          refine (H2.out _ hB).mono ?_
          rintro e w9 ⟨rfl, rfl⟩
          go_wp2_with fail
          refine (LC.out _ hB).mono ?_
          rintro e wn ⟨AL, cL, rfl, oL, hb⟩
          have oL := oL.mono (Nat.succ_le_of_lt g.lt)
          have g := g.next hb
          have hB := hB.trans (hb.mono hB.size)
          have k0 := g.cell 0
          have k1 := g.cell 1
          clear hb
          have hzB := Nat.succ_le_of_lt g.lt
          go_wp2_with (first | (at_builtin; refine push_int rfl (.tmp 36) (.tmp 38) _ rfl Try.underlying25 (w.heap.size + 1) AL cL F i rfl oL rfl rfl (by omega) hzB ?_; intro A5 c5 w5 hown5 _ hb5) | fail)
          have g := g.below hb5 (Nat.lt_succ_self _)
          have hB := hB.trans (hb5.mono (Nat.le_succ _))
          have o5 := hown5.mono (Nat.le_succ _)
          have k0 := g.cell 0
          have k1 := g.cell 1
          clear hb5 oL hown5
          refine (SC.out _ _ _ o5).mono ?_
          rintro e w6 ⟨A6, c6, rfl, o6, hb⟩
          have o6 := o6.mono hB.size
          have r6 := o6.reads
          rw [HUL.out] at r6
          have g := g.next hb
          have hB := hB.trans (hb.mono hB.size)
          have k0 := g.cell 0
          have k1 := g.cell 1
          clear hb o5
          go_wp2_with fail
          refine (IC.out _ _ _ hB r6).mono ?_
          rintro e w7 ⟨rfl, hb⟩
          have o6 := o6.next hb
          have hB := hB.trans (hb.mono hB.size)
          clear hb r6
          cases b
          · go_wp2
            go_ret2
            exact ⟨none, 0, rfl, OwnI.nil_ _ _, hB⟩
          · go_wp2
            go_ret2
            exact ⟨A6, c6, by rw [HUL.out]; rfl, o6, hB⟩
    · have HE : Hid (swapE n es xs o i = ([], singErr n es xs i)) := by
        have hr : i < 0 ∨ ((endsL es).length : Int) ≤ i := Classical.byContradiction fun hr => hs2 (by unfold singErr; rw [if_neg (fun hc => hc hj), if_neg hr])
        unfold Hid swapE singErr; rw [if_neg (fun hc => hc hj), if_pos (.inr (by omega)), if_neg (fun hc => hc hj), if_pos hr]
      rw [HE.out]
      obtain ⟨z, hz⟩ : ∃ z, singErr n es xs i = z := ⟨_, rfl⟩
      rw [hz] at S2 hs2 ⊢
      have hz2 : (z != 0) = true := by simpa using hs2
      clear hs1 hs2 hz HE hj h0 h1 H1 H2
      go_enter Try.func27, Try.ntmps27
      go_wp2_with fail
      refine (S1.out _ hB).mono ?_
      rintro e wn ⟨rfl, hb⟩
      have g := g.next hb
      have hB := hB.trans (hb.mono hB.size)
      have k0 := g.cell 0
      have k1 := g.cell 1
      clear hb
      go_wp2_with fail
      refine (S2.out _ hB).mono ?_
      rintro e wn ⟨rfl, hb⟩
      have g := g.next hb
      have hB := hB.trans (hb.mono hB.size)
      have k0 := g.cell 0
      have k1 := g.cell 1
      clear hb
      go_wp2
      go_ret2
      exact ⟨none, 0, rfl, OwnI.nil_ _ _, hB⟩
  · have HE : Hid (swapE n es xs o i = ([], singErr n es xs o)) := by
      unfold Hid swapE singErr
      by_cases hj : treeErr n es xs = 0
      · have hr : o < 0 ∨ ((endsL es).length : Int) ≤ o := Classical.byContradiction fun hr => hs1 (by unfold singErr; rw [if_neg (fun hc => hc hj), if_neg hr])
        rw [if_neg (fun hc => hc hj), if_pos (.inl (by omega)), if_neg (fun hc => hc hj), if_pos hr]
      · rw [if_pos hj, if_pos hj]
    rw [HE.out]
    obtain ⟨z, hz⟩ : ∃ z, singErr n es xs o = z := ⟨_, rfl⟩
    rw [hz] at S1 hs1 ⊢
    have hz2 : (z != 0) = true := by simpa using hs1
    clear hs1 hz HE H1 H2 S2
    go_enter Try.func27, Try.ntmps27
    go_wp2_with fail
    refine (S1.out _ hB).mono ?_
    rintro e wn ⟨rfl, hb⟩
    have g := g.next hb
    have hB := hB.trans (hb.mono hB.size)
    have k0 := g.cell 0
    have k1 := g.cell 1
    clear hb
    go_wp2
    go_ret2
    exact ⟨none, 0, rfl, OwnI.nil_ _ _, hB⟩
end Go.Proofs.Ytepmfbgmkfkmkaa

/-! Degrees in the graph of a list of single edges; the number of its parts. No program is in sight. -/
namespace Go.Proofs.Ytepmfbgmkfkmkaa

/-- Sums below a bound. -/
def sumW (f : Nat → Int) : Nat → Int
  | 0 => 0
  | k + 1 => sumW f k + f k
theorem sumW_add (f g : Nat → Int) : ∀ k, sumW (fun i => f i + g i) k = sumW f k + sumW g k
  | 0 => rfl
  | k + 1 => by rw [sumW, sumW, sumW, sumW_add f g k]; omega
theorem sumW_congr {f g : Nat → Int} : ∀ {k : Nat}, (∀ i, i < k → f i = g i) → sumW f k = sumW g k
  | 0, _ => rfl
  | k + 1, h => by rw [sumW, sumW, sumW_congr fun i hi => h i (by omega), h k (by omega)]
theorem sumW_zero {f : Nat → Int} {k : Nat} (h : ∀ i, i < k → f i = 0) : sumW f k = 0 := by
  rw [sumW_congr (g := fun _ => 0) h]
  induction k with
  | zero => rfl
  | succ k ih => rw [sumW, ih fun i hi => h i (by omega)]; rfl
theorem sumW_one {f : Nat → Int} {x k : Nat} (hx : x < k) (h1 : f x = 1) (h : ∀ i, i < k → i ≠ x → f i = 0) : sumW f k = 1 := by
  induction k with
  | zero => omega
  | succ k ih =>
    rw [sumW]
    by_cases hk : x = k
    · subst hk
      rw [sumW_zero fun i hi => h i (by omega) (by omega), h1]; rfl
    · rw [ih (by omega) fun i hi hne => h i (by omega) hne, h k (by omega) (by omega)]; rfl
/-- The degree of a vertex in a list of pairs. -/
def degP (ps : List (Nat × Nat)) (v : Nat) : Nat := (ps.map fun p => (if p.1 = v then 1 else 0) + (if p.2 = v then 1 else 0)).sum
theorem dgL_degP (E : List (Nat × Nat)) (l : List Nat) (v : Nat) : dgL E l v = degP (pk E l) v := by
  unfold dgL degP pk
  rw [List.map_map]; rfl
theorem cnt_cons (p : Nat × Nat) (ps : List (Nat × Nat)) (a b : Nat) : cnt (p :: ps) a b = (if min p.1 p.2 = a ∧ max p.1 p.2 = b then 1 else 0) + cnt ps a b := by
  unfold cnt
  rw [List.filter_cons]
  by_cases h : min p.1 p.2 = a ∧ max p.1 p.2 = b
  · rw [if_pos h, if_pos (by simp [h.1, h.2])]; simp; omega
  · rw [if_neg h, if_neg (by simp; intro h1; exact fun h2 => h ⟨h1, h2⟩)]; simp
def oneW (p : Nat × Nat) (v w : Nat) : Int := if v = w then 0 else if min p.1 p.2 = min v w ∧ max p.1 p.2 = max v w then 1 else 0
theorem oneW_sum {p : Nat × Nat} {n v : Nat} (h1 : p.1 < n) (h2 : p.2 < n) : sumW (oneW p v) n + 2 * (((if min p.1 p.2 = v ∧ max p.1 p.2 = v then 1 else 0 : Nat)) : Int) = (((if p.1 = v then 1 else 0) + (if p.2 = v then 1 else 0) : Nat) : Int) := by
  obtain ⟨a, b⟩ := p
  dsimp only at h1 h2 ⊢
  by_cases ha : a = v
  · subst ha
    by_cases hb : b = a
    · subst hb
      rw [sumW_zero fun i _ => ?_]
      · simp
      · unfold oneW
        by_cases hi : b = i
        · rw [if_pos hi]
        · rw [if_neg hi, if_neg]; dsimp only; omega
    · rw [sumW_one h2 (by unfold oneW; rw [if_neg (fun h => hb h.symm), if_pos ⟨rfl, rfl⟩]) fun i _ hne => ?_, if_neg (by omega), if_pos rfl, if_neg hb]
      · rfl
      · unfold oneW
        by_cases hi : a = i
        · rw [if_pos hi]
        · rw [if_neg hi, if_neg]; dsimp only; omega
  · by_cases hb : b = v
    · subst hb
      rw [sumW_one h1 (by unfold oneW; rw [if_neg (fun h => ha h.symm), if_pos ⟨by dsimp only; omega, by dsimp only; omega⟩]) fun i _ hne => ?_, if_neg (by omega), if_neg ha, if_pos rfl]
      · rfl
      · unfold oneW
        by_cases hi : b = i
        · rw [if_pos hi]
        · rw [if_neg hi, if_neg]; dsimp only; omega
    · rw [sumW_zero fun i _ => ?_, if_neg (by omega), if_neg ha, if_neg hb]
      · rfl
      · unfold oneW
        by_cases hi : v = i
        · rw [if_pos hi]
        · rw [if_neg hi, if_neg]; dsimp only; omega
theorem cnt_deg {n v : Nat} : ∀ {ps : List (Nat × Nat)}, BdP n ps → sumW (fun w => if v = w then 0 else (cnt ps (min v w) (max v w) : Int)) n + 2 * (cnt ps v v : Int) = degP ps v
  | [], _ => by
    rw [sumW_zero fun i _ => ?_]
    · rfl
    · split <;> rfl
  | p :: ps, hb => by
    obtain ⟨⟨h1, h2⟩, hb'⟩ := hb.cons
    have ih := cnt_deg (v := v) hb'
    have ho := oneW_sum (v := v) h1 h2
    have hs : sumW (fun w => if v = w then 0 else (cnt (p :: ps) (min v w) (max v w) : Int)) n = sumW (oneW p v) n + sumW (fun w => if v = w then 0 else (cnt ps (min v w) (max v w) : Int)) n := by
      rw [← sumW_add]
      refine sumW_congr fun w _ => ?_
      unfold oneW
      by_cases hw : v = w
      · rw [if_pos hw, if_pos hw, if_pos hw]; rfl
      · rw [if_neg hw, if_neg hw, if_neg hw, cnt_cons]
        split <;> omega
    have hd : degP (p :: ps) v = ((if p.1 = v then 1 else 0) + (if p.2 = v then 1 else 0)) + degP ps v := by unfold degP; rw [List.map_cons, List.sum_cons]
    rw [hs, cnt_cons, hd]
    omega
theorem made_deg {n v : Nat} {ps : List (Nat × Nat)} (h1 : 1 ≤ n) (hn : n ≤ 12) (hl : ps.length ≤ 50) (hb : BdP n ps) (hv : v < n) :
    sumW (fun w => tt (madeS n ps) v w) n + 2 * btw (madeS n ps) v v = degP ps v := by
  have hbt : ∀ a b : Nat, a < n → b < n → btw (madeS n ps) a b = (cnt ps (min a b) (max a b) : Int) := fun a b ha hb => joined_btw h1 hn (fun x y _ _ => by have := cnt_le ps x y; omega) (fun x y => by omega) ha hb
  rw [hbt v v hv hv, ← cnt_deg (v := v) hb, Nat.min_self, Nat.max_self]
  congr 1
  refine sumW_congr fun w hw => ?_
  unfold tt
  rw [hbt v w hv hw]
theorem sumT_bd {N : Int} {es : List E3} (hok : ∀ e ∈ es, okE N e) (v k : Nat) : 0 ≤ sumW (fun w => tt es v w) k ∧ sumW (fun w => tt es v w) k ≤ 50 * k := by
  induction k with
  | zero => simp [sumW]
  | succ k ih =>
    have := tt_bd hok v k
    rw [sumW]
    omega
/-- What ref08.Parts counts. -/
theorem partsTo_parts {n : Nat} {es : List E3} (hG : RightG n es) : (partsTo es n n).1 = partsP n (endsL es) := by
  have key : ∀ k, k ≤ n → (partsTo es n k).1 = ((List.range k).filter fun v => decide (labF (endsL es) v = v)).length ∧ ∀ u, u < n → (getB (partsTo es n k).2 u = true ↔ ∃ v, v < k ∧ Cn (endsL es) v u) := by
    intro k
    induction k with
    | zero =>
      intro _
      refine ⟨rfl, fun u hu => ⟨fun h => ?_, fun ⟨v, hv, _⟩ => by omega⟩⟩
      have : getB (List.replicate n false) u = true := h
      rw [show getB (List.replicate n false) u = false from by simp [getB, List.getD_eq_getElem?_getD, List.getElem?_replicate]; split <;> simp] at this
      cases this
    | succ k ih =>
      intro hk
      obtain ⟨i1, i2⟩ := ih (by omega)
      rw [partsTo_succ, List.range_succ, List.filter_append, List.length_append]
      by_cases hg : getB (partsTo es n k).2 k = true
      · rw [if_pos hg]
        obtain ⟨v, hv, hc⟩ := (i2 k (by omega)).1 hg
        have hlow : ¬ labF (endsL es) k = k := fun h => lab_low.1 h v hv hc
        refine ⟨by rw [i1, List.filter_cons, if_neg (by simpa using hlow)]; simp, fun u hu => ?_⟩
        rw [i2 u hu]
        constructor
        · rintro ⟨x, hx, hxc⟩; exact ⟨x, by omega, hxc⟩
        · rintro ⟨x, hx, hxc⟩
          by_cases hxk : x = k
          · subst hxk; exact ⟨v, hv, hc.trans hxc⟩
          · exact ⟨x, by omega, hxc⟩
      · rw [if_neg hg]
        have hlow : labF (endsL es) k = k := lab_low.2 fun v hv hc => hg ((i2 k (by omega)).2 ⟨v, hv, hc⟩)
        refine ⟨by rw [List.filter_cons, if_pos (by simpa using hlow)]; simp only [i1]; rfl, fun u hu => ?_⟩
        show getB (orTo (partsTo es n k).2 (reached es n k) n) u = true ↔ _
        rw [orTo_get _ _ _ (by rw [partsTo_length]; exact Nat.le_refl _), if_pos hu, Bool.or_eq_true, i2 u hu, reached_iff hG (by omega), conn_cn hG]
        constructor
        · rintro (⟨x, hx, hxc⟩ | h)
          · exact ⟨x, by omega, hxc⟩
          · exact ⟨k, by omega, h⟩
        · rintro ⟨x, hx, hxc⟩
          by_cases hxk : x = k
          · subst hxk; exact .inr hxc
          · exact .inl ⟨x, by omega, hxc⟩
  exact (key n (Nat.le_refl _)).1
theorem made_partsN {n : Nat} {ps : List (Nat × Nat)} (h1 : 1 ≤ n) (hn : n ≤ 12) (hl : ps.length ≤ 50) (hb : BdP n ps) : (partsTo (madeS n ps) n n).1 = partsP n ps := by
  rw [partsTo_parts (made_right h1 hn hl), partsP_congr fun _ _ => made_cn h1 hn hl hb]
end Go.Proofs.Ytepmfbgmkfkmkaa

