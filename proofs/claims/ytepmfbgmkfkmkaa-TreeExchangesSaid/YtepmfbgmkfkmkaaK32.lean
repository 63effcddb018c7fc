/-
  Texts of this claim, put together: RSwap, DualT, Exch.
-/
import Derived.Test.YtepmfbgmkfkmkaaK31
import Derived.Test.YtepmfbgmkfkmkaaK18
import Derived.Test.YtepmfbgmkfkmkaaK17
import Derived.Test.YtepmfbgmkfkmkaaK14
import Derived.Test.YtepmfbgmkfkmkaaK22
import Derived.Test.YtepmfbgmkfkmkaaK23
import Derived.Test.YtepmfbgmkfkmkaaK27
/-! ref13.Swap. -/
namespace Go.Proofs.Ytepmfbgmkfkmkaa
open Go.RowKit

theorem tswap_all (n : Int) (A : Option Addr) (c : Nat) (es : List E3) (hn : es.length ≤ 40) (B : Option Addr) (d : Nat) (xs : List Int) (hm : xs.length ≤ 1048576) (o i : Int) (w : World) (h : Reads w w.heap.size 3 A es.length (edgeCells es)) (h' : Reads w w.heap.size 1 B xs.length (ints xs)) :
    Calls Try.prog 26 #[.agg #[.int .i64 n, .slice A es.length c], .slice B xs.length d, .int .i64 o, .int .i64 i] w fun e w' => ∃ A' c', e = .returned (.tuple #[.slice A' (swapE n es xs o i).1.length c', .int .i64 (swapE n es xs o i).2]) ∧ OwnI w' w.heap.size A' c' (swapE n es xs o i).1 ∧ Below w.heap.size w w' := by
  by_cases hj : treeErr n es xs = 0
  · have hel := hel_of hn hj
    refine tswap_any n A c es (by omega) (by omega) B d xs ?_ o i w h h'
    obtain ⟨m, t, _, rfl, hR⟩ := treeR_of hj
    have := hR.tr.len; have := hR.hi; rw [nI_length]; omega
  · exact tswap_err n A c es (by omega) B d xs hm o i w h h' hj
theorem swap_len {n : Int} {es : List E3} {xs : List Int} {o i : Int} (hm : xs.length ≤ 30) : (swapE n es xs o i).1.length ≤ 2000 := by
  have h1 : (tswapL xs o i).length ≤ 31 := by
    unfold tswapL
    rw [(sortG_perm _).length_eq, List.length_append]
    have := List.length_filter_le (fun x => !decide (x = o)) xs
    simp; omega
  unfold swapE
  split
  · simp
  · split
    · simp
    · split
      · simp
      · split
        · simp
        · split
          · simp only; omega
          · simp

set_option maxRecDepth 100000 in
set_option maxHeartbeats 4000000 in
theorem rswap_any (n : Int) (A : Option Addr) (c : Nat) (es : List E3) (hn : es.length ≤ 40) (B : Option Addr) (d : Nat) (xs : List Int) (hm : xs.length ≤ 30) (o i : Int) (w : World) (h : Reads w w.heap.size 3 A es.length (edgeCells es)) (h' : Reads w w.heap.size 1 B xs.length (ints xs)) :
    Calls Try.prog 27 #[.agg #[.int .i64 n, .slice A es.length c], .slice B xs.length d, .int .i64 o, .int .i64 i] w fun e w' => ∃ A' c', e = .returned (.tuple #[.slice A' (swapE n es xs o i).1.length c', .int .i64 (swapE n es xs o i).2]) ∧ OwnI w' w.heap.size A' c' (swapE n es xs o i).1 ∧ Below w.heap.size w w' := by
  have S1 := Lib.hid (fun (W : World) (hB : Below w.heap.size w W) => single_any n A c es hn B d xs (by omega) o W ((h.below hB).more hB.size) ((h'.below hB).more hB.size))
  have S2 := Lib.hid (fun (W : World) (hB : Below w.heap.size w W) => single_any n A c es hn B d xs (by omega) i W ((h.below hB).more hB.size) ((h'.below hB).more hB.size))
  have H1 := Lib.hid (fun (W : World) (hB : Below w.heap.size w W) => holds_any B d xs (by omega) o W ((h'.below hB).more hB.size))
  have H2 := Lib.hid (fun (W : World) (hB : Below w.heap.size w W) => holds_any B d xs (by omega) i W ((h'.below hB).more hB.size))
  have g := Blk.new w 24 #[.int .i64 n, .slice A es.length c]
  have hB := (Below.refl w.heap.size w).alloc (Nat.le_refl _) (.cells #[.int .i64 n, .slice A es.length c] 24)
  have k0 := g.cell 0
  have k1 := g.cell 1
  by_cases hs1 : singErr n es xs o = 0
  · obtain ⟨hj, h0, h1⟩ := sing_zero hs1
    rw [hs1] at S1
    by_cases hs2 : singErr n es xs i = 0
    · obtain ⟨_, h2, h3⟩ := sing_zero hs2
      rw [hs2] at S2
      have hrng : ¬ (¬ (0 ≤ o ∧ o < ((endsL es).length : Int)) ∨ ¬ (0 ≤ i ∧ i < ((endsL es).length : Int))) := by omega
      by_cases ho : o ∉ xs
      · have HE : Hid (swapE n es xs o i = ([], 6)) := by unfold Hid swapE; rw [if_neg (fun hc => hc hj), if_neg hrng, if_pos ho]
        rw [HE.out]
        rw [decide_eq_false ho] at H1
        clear ho HE hj hs1 hs2 h0 h1 h2 h3 hrng H2
        go_enter Try.func27, Try.ntmps27
        go_wp2_with fail
        refine (S1.out _ hB).mono ?_
        rintro e wn ⟨rfl, hb⟩
        have g := g.next hb
        have hB := hB.trans (hb.mono hB.size)
        have k0 := g.cell 0
        have k1 := g.cell 1
        clear hb
        go_wp2_with fail
        refine (S2.out _ hB).mono ?_
        rintro e wn ⟨rfl, hb⟩
        have g := g.next hb
        have hB := hB.trans (hb.mono hB.size)
        have k0 := g.cell 0
        have k1 := g.cell 1
        clear hb
        go_wp2_with fail
        refine (H1.out _ hB).mono ?_
        rintro e w9 ⟨rfl, rfl⟩
        go_wp2
        go_ret2
        exact ⟨none, 0, rfl, OwnI.nil_ _ _, hB⟩
      · have ho2 : o ∈ xs := Classical.byContradiction ho
        rw [decide_eq_true ho2] at H1
        by_cases hi : i ∈ xs
        · have HE : Hid (swapE n es xs o i = ([], 7)) := by unfold Hid swapE; rw [if_neg (fun hc => hc hj), if_neg hrng, if_neg ho, if_pos hi]
          rw [HE.out]
          rw [decide_eq_true hi] at H2
          clear ho ho2 hi HE hj hs1 hs2 h0 h1 h2 h3 hrng
          go_enter Try.func27, Try.ntmps27
          go_wp2_with fail
          refine (S1.out _ hB).mono ?_
          rintro e wn ⟨rfl, hb⟩
          have g := g.next hb
          have hB := hB.trans (hb.mono hB.size)
          have k0 := g.cell 0
          have k1 := g.cell 1
          clear hb
          go_wp2_with fail
          refine (S2.out _ hB).mono ?_
          rintro e wn ⟨rfl, hb⟩
          have g := g.next hb
          have hB := hB.trans (hb.mono hB.size)
          have k0 := g.cell 0
          have k1 := g.cell 1
          clear hb
          go_wp2_with fail
          refine (H1.out _ hB).mono ?_
          rintro e w9 ⟨rfl, rfl⟩
          go_wp2_with fail
          refine (H2.out _ hB).mono ?_
          rintro e w9 ⟨rfl, rfl⟩
          go_wp2
          go_ret2
          exact ⟨none, 0, rfl, OwnI.nil_ _ _, hB⟩
        · rw [decide_eq_false hi] at H2
          have HE : Hid (swapE n es xs o i = if spansB n.toNat (endsL es) (toN (tswapL xs o i)) = true then (tswapL xs o i, 0) else ([], 15)) := by unfold Hid swapE; rw [if_neg (fun hc => hc hj), if_neg hrng, if_neg ho, if_neg hi]
          obtain ⟨m, t, rfl, hxt, hR⟩ := treeR_of hj
          have hmem : ∀ x ∈ tswapL xs o i, 0 ≤ x ∧ x < ((endsL es).length : Int) := by
            intro x hx
            rcases swap_mem hx with hx | rfl
            · rw [hxt] at hx
              obtain ⟨y, hy, rfl⟩ := List.mem_map.1 hx
              have := hR.hT.lt y hy
              exact ⟨by omega, by omega⟩
            · exact ⟨h2, h3⟩
          have hnU : nI (toN (tswapL xs o i)) = tswapL xs o i := nI_toN fun x hx => (hmem x hx).1
          have hlt : ∀ e ∈ toN (tswapL xs o i), e < (endsL es).length := by
            intro e he
            obtain ⟨x, hx, rfl⟩ := List.mem_map.1 he
            have := hmem x hx
            omega
          have hUl : (tswapL xs o i).length = (xs.filter fun x => !decide (x = o)).length + 1 := by unfold tswapL; rw [(sortG_perm _).length_eq, List.length_append]; rfl
          have hFl : (xs.filter fun x => !decide (x = o)).length ≤ 30 := Nat.le_trans (List.length_filter_le _ _) hm
          have hTl : (toN (tswapL xs o i)).length = (tswapL xs o i).length := by simp [toN]
          have LC : Hid (∀ (W : World) (hB : Below w.heap.size w W), Calls Try.prog 46 #[.slice B xs.length d, .int .i64 o] W fun e w' => ∃ A' c', e = .returned (.slice A' (xs.filter fun x => !decide (x = o)).length c') ∧ OwnI w' W.heap.size A' c' (xs.filter fun x => !decide (x = o)) ∧ Below W.heap.size W w') := fun W hB => rless_any B d xs (by omega) o W ((h'.below hB).more hB.size)
          have IC : Hid (∀ (A' : Option Addr) (c' : Nat) (W : World) (hB : Below w.heap.size w W) (hr : Reads W W.heap.size 1 A' ((xs.filter fun x => !decide (x = o)).length + 1) (ints (tswapL xs o i))), Calls Try.prog 51 #[.agg #[.int .i64 m, .slice A es.length c], .slice A' ((xs.filter fun x => !decide (x = o)).length + 1) c'] W fun e w' => e = .returned (.bool (spansB m (endsL es) (toN (tswapL xs o i)))) ∧ Below W.heap.size W w') := by
            intro A' c' W hB hr
            have := ris13_any m A c es hn hR.hG A' c' (toN (tswapL xs o i)) hlt (by omega) W ((h.below hB).more hB.size) (by rw [hnU, hTl, hUl]; exact hr)
            rw [hTl, hUl] at this
            exact this
          have SC : Hid (∀ (A' : Option Addr) (c' : Nat) (W : World), OwnI W w.heap.size A' c' ((xs.filter fun x => !decide (x = o)) ++ [i]) → Calls Try.prog 65 #[.slice A' ((xs.filter fun x => !decide (x = o)).length + 1) c'] W fun e w' => ∃ A2 c2, e = .returned (.slice A2 ((xs.filter fun x => !decide (x = o)).length + 1) c2) ∧ OwnI w' W.heap.size A2 c2 (tswapL xs o i) ∧ Below W.heap.size W w') := by
            intro A' c' W hO
            have h1 : ((xs.filter fun x => !decide (x = o)) ++ [i]).length = (xs.filter fun x => !decide (x = o)).length + 1 := by simp
            have := rsorted_any A' c' ((xs.filter fun x => !decide (x = o)) ++ [i]) (by omega) W hO.reads
            rw [h1] at this
            exact this
          rw [Int.toNat_natCast] at HE
          rw [HE.out]
          obtain ⟨U, hU⟩ : ∃ U, tswapL xs o i = U := ⟨_, rfl⟩
          rw [hU] at IC SC hUl ⊢
          obtain ⟨F, hF⟩ : ∃ F, (xs.filter fun x => !decide (x = o)) = F := ⟨_, rfl⟩
          rw [hF] at IC SC LC hUl hFl
          obtain ⟨b, hb⟩ : ∃ b, spansB m (endsL es) (toN U) = b := ⟨_, rfl⟩
          rw [hb] at IC ⊢
          have HUL := Lib.hid hUl
          clear ho ho2 hi HE hj hs1 hs2 h0 h1 h2 h3 hrng hxt hR hmem hnU hlt hUl hTl hU hF hb
          go_enter Try.func27, Try.ntmps27
          go_wp2_with fail
          refine (S1.out _ hB).mono ?_
          rintro e wn ⟨rfl, hb⟩
          have g := g.next hb
          have hB := hB.trans (hb.mono hB.size)
          have k0 := g.cell 0
          have k1 := g.cell 1
          clear hb
          go_wp2_with fail
          refine (S2.out _ hB).mono ?_
          rintro e wn ⟨rfl, hb⟩
          have g := g.next hb
          have hB := hB.trans (hb.mono hB.size)
          have k0 := g.cell 0
          have k1 := g.cell 1
          clear hb
          go_wp2_with fail
          refine (H1.out _ hB).mono ?_
          rintro e w9 ⟨rfl, rfl⟩
          go_wp2_with fail
          refine (H2.out _ hB).mono ?_
          rintro e w9 ⟨rfl, rfl⟩
          go_wp2_with fail
          refine (LC.out _ hB).mono ?_
          rintro e wn ⟨AL, cL, rfl, oL, hb⟩
          have oL := oL.mono (Nat.succ_le_of_lt g.lt)
          have g := g.next hb
          have hB := hB.trans (hb.mono hB.size)
          have k0 := g.cell 0
          have k1 := g.cell 1
          clear hb
          have hzB := Nat.succ_le_of_lt g.lt
          go_wp2_with (first | (at_builtin; refine push_int rfl (.tmp 36) (.tmp 38) _ rfl Try.underlying25 (w.heap.size + 1) AL cL F i rfl oL rfl rfl (by omega) hzB ?_; intro A5 c5 w5 hown5 _ hb5) | fail)
          have g := g.below hb5 (Nat.lt_succ_self _)
          have hB := hB.trans (hb5.mono (Nat.le_succ _))
          have o5 := hown5.mono (Nat.le_succ _)
          have k0 := g.cell 0
          have k1 := g.cell 1
          clear hb5 oL hown5
          refine (SC.out _ _ _ o5).mono ?_
          rintro e w6 ⟨A6, c6, rfl, o6, hb⟩
          have o6 := o6.mono hB.size
          have r6 := o6.reads
          rw [HUL.out] at r6
          have g := g.next hb
          have hB := hB.trans (hb.mono hB.size)
          have k0 := g.cell 0
          have k1 := g.cell 1
          clear hb o5
          go_wp2_with fail
          refine (IC.out _ _ _ hB r6).mono ?_
          rintro e w7 ⟨rfl, hb⟩
          have o6 := o6.next hb
          have hB := hB.trans (hb.mono hB.size)
          clear hb r6
          cases b
          · go_wp2
            go_ret2
            exact ⟨none, 0, rfl, OwnI.nil_ _ _, hB⟩
          · go_wp2
            go_ret2
            exact ⟨A6, c6, by rw [HUL.out]; rfl, o6, hB⟩
    · have HE : Hid (swapE n es xs o i = ([], singErr n es xs i)) := by
        have hr : i < 0 ∨ ((endsL es).length : Int) ≤ i := Classical.byContradiction fun hr => hs2 (by unfold singErr; rw [if_neg (fun hc => hc hj), if_neg hr])
        unfold Hid swapE singErr; rw [if_neg (fun hc => hc hj), if_pos (.inr (by omega)), if_neg (fun hc => hc hj), if_pos hr]
      rw [HE.out]
      obtain ⟨z, hz⟩ : ∃ z, singErr n es xs i = z := ⟨_, rfl⟩
      rw [hz] at S2 hs2 ⊢
      have hz2 : (z != 0) = true := by simpa using hs2
      clear hs1 hs2 hz HE hj h0 h1 H1 H2
      go_enter Try.func27, Try.ntmps27
      go_wp2_with fail
      refine (S1.out _ hB).mono ?_
      rintro e wn ⟨rfl, hb⟩
      have g := g.next hb
      have hB := hB.trans (hb.mono hB.size)
      have k0 := g.cell 0
      have k1 := g.cell 1
      clear hb
      go_wp2_with fail
      refine (S2.out _ hB).mono ?_
      rintro e wn ⟨rfl, hb⟩
      have g := g.next hb
      have hB := hB.trans (hb.mono hB.size)
      have k0 := g.cell 0
      have k1 := g.cell 1
      clear hb
      go_wp2
      go_ret2
      exact ⟨none, 0, rfl, OwnI.nil_ _ _, hB⟩
  · have HE : Hid (swapE n es xs o i = ([], singErr n es xs o)) := by
      unfold Hid swapE singErr
      by_cases hj : treeErr n es xs = 0
      · have hr : o < 0 ∨ ((endsL es).length : Int) ≤ o := Classical.byContradiction fun hr => hs1 (by unfold singErr; rw [if_neg (fun hc => hc hj), if_neg hr])
        rw [if_neg (fun hc => hc hj), if_pos (.inl (by omega)), if_neg (fun hc => hc hj), if_pos hr]
      · rw [if_pos hj, if_pos hj]
    rw [HE.out]
    obtain ⟨z, hz⟩ : ∃ z, singErr n es xs o = z := ⟨_, rfl⟩
    rw [hz] at S1 hs1 ⊢
    have hz2 : (z != 0) = true := by simpa using hs1
    clear hs1 hz HE H1 H2 S2
    go_enter Try.func27, Try.ntmps27
    go_wp2_with fail
    refine (S1.out _ hB).mono ?_
    rintro e wn ⟨rfl, hb⟩
    have g := g.next hb
    have hB := hB.trans (hb.mono hB.size)
    have k0 := g.cell 0
    have k1 := g.cell 1
    clear hb
    go_wp2
    go_ret2
    exact ⟨none, 0, rfl, OwnI.nil_ _ _, hB⟩
end Go.Proofs.Ytepmfbgmkfkmkaa

/-! Plain laws of cycles, cutsets and swaps in a spanning tree, as the program returns them. -/
namespace Go.Proofs.Ytepmfbgmkfkmkaa
open Go.RowKit

theorem mem_nI9 {v : Nat} {S : List Nat} : (v : Int) ∈ nI S ↔ v ∈ S := by
  unfold nI
  rw [List.mem_map]
  constructor
  · rintro ⟨u, hu, e⟩; have : u = v := by omega
    exact this ▸ hu
  · intro h; exact ⟨v, h, rfl⟩
/-- Different numbers, sorted. -/
theorem sort_nat {u : List Nat} (hn : u.Nodup) : ∃ s : List Nat, sortG ltI (nI u) = nI s ∧ s.Perm u ∧ s.Pairwise (· < ·) := by
  have hp := sortG_perm (lt := ltI) (nI u)
  have h0 : ∀ x ∈ sortG ltI (nI u), 0 ≤ x := by
    intro x hx
    obtain ⟨y, _, rfl⟩ := List.mem_map.1 (hp.mem_iff.1 hx)
    omega
  have he := nI_toN h0
  have hps : (toN (sortG ltI (nI u))).Perm u := by
    have := hp.map Int.toNat
    have e2 : (nI u).map Int.toNat = u := toN_nI u
    rw [e2] at this
    exact this
  refine ⟨toN (sortG ltI (nI u)), he.symm, hps, ?_⟩
  have hs := sortG_sorted ltI_tr ltI_as (nI u)
  have hnd : (toN (sortG ltI (nI u))).Nodup := hps.nodup_iff.2 hn
  unfold toN at hnd ⊢
  rw [List.pairwise_map]
  have hnd2 := List.pairwise_map.1 hnd
  refine List.Pairwise.imp_of_mem ?_ (hs.and hnd2)
  intro a b ha hb hab
  have h1 := h0 a ha
  have h2 := h0 b hb
  obtain ⟨h3, h4⟩ := hab
  unfold ltI at h3
  rw [decide_eq_false_iff_not] at h3
  omega
theorem edgFrom_ok {m : Nat} : ∀ {t : List Nat} {p : Option Int}, t.Pairwise (· < ·) → (∀ e ∈ t, e < m) → (∀ y, p = some y → ∀ e ∈ t, y < (e : Int)) → edgFrom m p (nI t) = 0
  | [], _, _, _, _ => rfl
  | e :: t, p, h1, h2, h3 => by
    have he := h2 e (by simp)
    show (if (e : Int) < 0 ∨ (m : Int) ≤ (e : Int) then 2 else if leP p (e : Int) = true then 9 else edgFrom m (some (e : Int)) (nI t)) = 0
    rw [if_neg (by omega), if_neg]
    · rw [List.pairwise_cons] at h1
      refine edgFrom_ok h1.2 (fun x hx => h2 x (by simp [hx])) ?_
      rintro y hy x hx
      injection hy with hy
      have := h1.1 x hx
      omega
    · unfold leP
      cases p with
      | none => simp
      | some y =>
        have := h3 y rfl e (by simp)
        simp; omega
theorem edg_ok {m : Nat} {t : List Nat} (h : SetN m t) : edgErr m (nI t) = 0 := edgFrom_ok h.1 h.2 (fun y hy => by cases hy)
theorem tree_ok {m : Nat} {es : List E3} {t : List Nat} (hj : joinErr m es = 0) (h : IsTr m (endsL es) t) : treeErr m es (nI t) = 0 := by
  have hl := h.len
  have e2 : (nI t).map Int.toNat = t := toN_nI t
  unfold treeErr
  rw [if_neg (fun hc => hc hj), if_neg (fun hc => hc (edg_ok h.set)), if_neg (by rw [nI_length]; omega), e2, if_pos (foB_iff.2 h.fo)]
/-- What swapping returns: f of the tree against e. -/
theorem swap_dual {m : Nat} {es : List E3} {t : List Nat} (hR : TreeR m es t) (hj : treeErr m es (nI t) = 0) {f e : Nat} (hf : f ∈ t) (he : e ∉ t) (hel : e < (endsL es).length) :
    ∃ s : List Nat, swapE m es (nI t) f e = (if Sep (endsL es) t ((endsL es).getD e (0, 0)).1 ((endsL es).getD e (0, 0)).2 f then (nI s, 0) else ([], 15)) ∧ s.length ≤ 12 ∧
      (Sep (endsL es) t ((endsL es).getD e (0, 0)).1 ((endsL es).getD e (0, 0)).2 f → IsTr m (endsL es) s) := by
  have hnl := less_nodup (e := f) hR.hT.nodup
  have hen : e ∉ lessL t f := fun h => he (mem_less.1 h).1
  have hfil : ((nI t).filter fun x => !decide (x = (f : Int))) = nI (lessL t f) := nI_less t f
  have hnd : (lessL t f ++ [e]).Nodup := by
    rw [List.nodup_append]
    exact ⟨hnl, by simp, fun a ha b hb => by rw [List.mem_singleton] at hb; subst hb; exact fun h => hen (h ▸ ha)⟩
  obtain ⟨s, hs1, hs2, hs3⟩ := sort_nat hnd
  have hts : tswapL (nI t) f e = nI s := by
    unfold tswapL
    rw [hfil, ← hs1]
    congr 1
    simp [nI]
  have hlen : s.length + 1 = m := by
    rw [hs2.length_eq, List.length_append, List.length_singleton, less_length hR.hT.nodup hf]
    have := hR.tr.len
    exact this
  have hps : s.Perm (e :: lessL t f) := hs2.trans List.perm_append_comm
  have hset : SetN (endsL es).length s := ⟨hs3, fun x hx => by
    rcases List.mem_cons.1 (hps.mem_iff.1 hx) with rfl | h
    · exact hel
    · exact hR.hT.lt x (mem_less.1 h).1⟩
  have hbd : BdP m (pk (endsL es) (e :: lessL t f)) := bd_pk hR.hT.bd fun x hx => hset.2 x (hps.mem_iff.2 hx)
  have hfo : Fo (pk (endsL es) s) ↔ Sep (endsL es) t ((endsL es).getD e (0, 0)).1 ((endsL es).getD e (0, 0)).2 f := by
    rw [fo_perm (bd_pk hR.hT.bd hset.2) (pk_perm hps), pk_cons]
    unfold Sep
    constructor
    · exact fun h => h.2
    · exact fun h => ⟨(hR.hT.less f).fo, h⟩
  have hi : (e : Int) ∉ nI t := fun h => he (mem_nI9.1 h)
  have hfm : (f : Int) ∈ nI t := mem_nI9.2 hf
  have hfl := hR.hT.lt f hf
  refine ⟨s, ?_, by have := hR.hi; omega, fun h => ⟨hset, hlen, hfo.2 h⟩⟩
  unfold swapE
  rw [if_neg (fun hc => hc hj), if_neg (by omega), if_neg (fun h => h hfm), if_neg hi, hts, toN_nI, Int.toNat_natCast]
  by_cases hsp : Sep (endsL es) t ((endsL es).getD e (0, 0)).1 ((endsL es).getD e (0, 0)).2 f
  · rw [if_pos hsp, if_pos]
    unfold spansB
    rw [foB_iff.2 (hfo.2 hsp), decide_eq_true hlen]; rfl
  · rw [if_neg hsp, if_neg]
    intro h
    unfold spansB at h
    rw [Bool.and_eq_true] at h
    exact hsp (hfo.1 (foB_iff.1 h.1))
/-- The cycle that is returned. -/
theorem cycle_dual {m : Nat} {es : List E3} {t : List Nat} (hR : TreeR m es t) (hj : treeErr m es (nI t) = 0) {e : Nat} (he : e ∉ t) (hel : e < (endsL es).length) :
    ∃ s : List Nat, cycleE m es (nI t) e = (nI s, 0) ∧ SetN (endsL es).length s ∧ s.Perm (e :: pathL (endsL es) t ((endsL es).getD e (0, 0)).1 ((endsL es).getD e (0, 0)).2) ∧
      (∀ f ∈ t, f ∈ s ↔ Sep (endsL es) t ((endsL es).getD e (0, 0)).1 ((endsL es).getD e (0, 0)).2 f) := by
  have hi : (e : Int) ∉ nI t := fun h => he (mem_nI9.1 h)
  have hbe := hR.hT.bd _ (List.mem_of_getElem? (getD_some hel))
  have hc := hR.cn hbe.1 hbe.2
  have hpm := path_mem hR.hT hc
  have hpn := path_nodup hR.hT hc
  obtain ⟨P, hP⟩ : ∃ P, pathL (endsL es) t ((endsL es).getD e (0, 0)).1 ((endsL es).getD e (0, 0)).2 = P := ⟨_, rfl⟩
  rw [hP] at hpm hpn ⊢
  have hnd : (P ++ [e]).Nodup := by
    rw [List.nodup_append]
    exact ⟨hpn, by simp, fun a ha b hb => by rw [List.mem_singleton] at hb; subst hb; exact fun h => he (h ▸ ((hpm a).1 ha).1)⟩
  obtain ⟨s, hs1, hs2, hs3⟩ := sort_nat hnd
  have hps : s.Perm (e :: P) := hs2.trans List.perm_append_comm
  refine ⟨s, ?_, ⟨hs3, fun x hx => ?_⟩, hps, fun f hf => ?_⟩
  · unfold cycleE
    rw [if_neg (fun hc => hc hj), if_neg (by omega), if_neg hi, Int.toNat_natCast, getD_some hel]
    dsimp only
    rw [toN_nI, hP, ← hs1]
    congr 2
    simp [nI]
  · rcases List.mem_cons.1 (hps.mem_iff.1 hx) with rfl | h
    · exact hel
    · exact hR.hT.lt x ((hpm x).1 h).1
  · rw [hps.mem_iff, List.mem_cons, hpm f]
    constructor
    · rintro (rfl | h)
      · exact absurd hf he
      · exact h.2
    · exact fun h => .inr ⟨hf, h⟩
/-- The cutset that is returned. -/
theorem cut_dual {m : Nat} {es : List E3} {t : List Nat} (hR : TreeR m es t) (hj : treeErr m es (nI t) = 0) {f : Nat} (hf : f ∈ t) :
    cutsetE m es (nI t) f = (nI (cutL (endsL es) t f), 0) ∧ ∀ e, e < (endsL es).length → (e ∈ cutL (endsL es) t f ↔ Sep (endsL es) t ((endsL es).getD e (0, 0)).1 ((endsL es).getD e (0, 0)).2 f) := by
  have hfm : (f : Int) ∈ nI t := mem_nI9.2 hf
  have hfl := hR.hT.lt f hf
  refine ⟨?_, fun e he => ?_⟩
  · unfold cutsetE
    rw [if_neg (fun hc => hc hj), if_neg (by omega), if_neg (fun h => h hfm), toN_nI, Int.toNat_natCast]
  · unfold cutL
    rw [List.mem_filter, List.mem_range, decide_eq_true_eq]
    exact ⟨fun h => h.2, fun h => ⟨he, h⟩⟩
end Go.Proofs.Ytepmfbgmkfkmkaa

/-! For every graph and two lists of single edges the law TreeExchanges answers true: for each single edge of a tree that another tree does not have, there is one of the other tree with which it can be swapped in both. There are no conditions. -/
namespace Go.Proofs.Ytepmfbgmkfkmkaa
open Go.RowKit

/-- For a single edge of t that u does not have there is one of u to swap it with. -/
theorem exch_dual {m : Nat} {es : List E3} {t u : List Nat} (hR : TreeR m es t) (hU : TreeR m es u) (hj : treeErr m es (nI t) = 0) (hj2 : treeErr m es (nI u) = 0) {e : Nat} (he : e ∈ t) (hn : e ∉ u) :
    ∃ f ∈ u, (swapE m es (nI t) e f).2 = 0 ∧ (swapE m es (nI u) f e).2 = 0 := by
  have hel := hR.hT.lt e he
  have hbe := hR.hT.bd _ (List.mem_of_getElem? (getD_some hel))
  obtain ⟨f, hf, hs, hc⟩ := exch (t := lessL t e) hU.hT (hU.cn hbe.1 hbe.2) (hR.hT.bridge he)
  have hfl := hU.hT.lt f hf
  have hft : f ∉ t := fun h => hc (Cn.pair (mem_pk.2 ⟨f, mem_less.2 ⟨h, fun hfe => hn (hfe ▸ hf)⟩, rfl⟩))
  obtain ⟨s1, e1, _, _⟩ := swap_dual hR hj he hft hfl
  obtain ⟨s2, e2, _, _⟩ := swap_dual hU hj2 hf hn hel
  refine ⟨f, hf, ?_, ?_⟩
  · rw [e1, if_pos (show Sep (endsL es) t _ _ e from hc)]
  · rw [e2, if_pos hs]
/-- What the function of the search answers. -/
def exB (n : Int) (es : List E3) (xs us : List Int) (e x : Int) : Bool := decide ((swapE n es xs e x).2 = 0) && decide ((swapE n es us x e).2 = 0)

set_option maxRecDepth 100000 in
set_option maxHeartbeats 4000000 in
theorem exclos_any (n : Int) (A : Option Addr) (c : Nat) (es : List E3) (hn : es.length ≤ 40) (B : Option Addr) (d : Nat) (xs : List Int) (hm : xs.length ≤ 1048576) (D : Option Addr) (f : Nat) (us : List Int) (hm2 : us.length ≤ 1048576) (e x : Int) (bg bt be bu : Nat) (w : World)
    (h : Reads w w.heap.size 3 A es.length (edgeCells es)) (h' : Reads w w.heap.size 1 B xs.length (ints xs)) (h2 : Reads w w.heap.size 1 D us.length (ints us))
    (gG : Blk w bg 24 #[.int .i64 n, .slice A es.length c]) (gT : Blk w bt 25 #[.slice B xs.length d]) (gE : Blk w be 3 #[.int .i64 e]) (gU : Blk w bu 25 #[.slice D us.length f]) :
    Calls Try.prog 33 #[.int .i64 x, .pointer (some ⟨bg, 0, none⟩), .pointer (some ⟨bt, 0, none⟩), .pointer (some ⟨be, 0, none⟩), .pointer (some ⟨bu, 0, none⟩)] w fun en w' => en = .returned (.bool (exB n es xs us e x)) ∧ Below w.heap.size w w' := by
  have S1 : Hid (∀ (W : World) (hB : Below w.heap.size w W), Calls Try.prog 26 #[.agg #[.int .i64 n, .slice A es.length c], .slice B xs.length d, .int .i64 e, .int .i64 x] W fun en w' => ∃ A' k' c', en = .returned (.tuple #[.slice A' k' c', .int .i64 (swapE n es xs e x).2]) ∧ Below W.heap.size W w') := by
    intro W hB
    refine (tswap_all n A c es hn B d xs hm e x W ((h.below hB).more hB.size) ((h'.below hB).more hB.size)).mono ?_
    rintro en w' ⟨A', c', rfl, _, hb⟩
    exact ⟨A', _, c', rfl, hb⟩
  have S2 : Hid (∀ (W : World) (hB : Below w.heap.size w W), Calls Try.prog 26 #[.agg #[.int .i64 n, .slice A es.length c], .slice D us.length f, .int .i64 x, .int .i64 e] W fun en w' => ∃ A' k' c', en = .returned (.tuple #[.slice A' k' c', .int .i64 (swapE n es us x e).2]) ∧ Below W.heap.size W w') := by
    intro W hB
    refine (tswap_all n A c es hn D f us hm2 x e W ((h.below hB).more hB.size) ((h2.below hB).more hB.size)).mono ?_
    rintro en w' ⟨A', c', rfl, _, hb⟩
    exact ⟨A', _, c', rfl, hb⟩
  unfold exB
  obtain ⟨z1, hz1⟩ : ∃ z, (swapE n es xs e x).2 = z := ⟨_, rfl⟩
  obtain ⟨z2, hz2⟩ : ∃ z, (swapE n es us x e).2 = z := ⟨_, rfl⟩
  rw [hz1] at S1 ⊢
  rw [hz2] at S2 ⊢
  have a0 := gG.cell 0
  have a1 := gG.cell 1
  have b0 := gT.cell 0
  have c0 := gE.cell 0
  have d0 := gU.cell 0
  clear hz1 hz2
  by_cases hq1 : z1 = 0
  · subst hq1
    by_cases hq2 : z2 = 0
    · subst hq2
      go_enter Try.func33, Try.ntmps33
      go_wp2_with fail
      refine (S1.out _ (Below.refl _ _)).mono ?_
      rintro en w1 ⟨A1, m1, c1, rfl, hb1⟩
      have gG := gG.next hb1
      have gE := gE.next hb1
      have gU := gU.next hb1
      have a0 := gG.cell 0
      have a1 := gG.cell 1
      have c0 := gE.cell 0
      have d0 := gU.cell 0
      go_wp2_with fail
      refine (S2.out _ hb1).mono ?_
      rintro en w2 ⟨A2, m2, c2, rfl, hb2⟩
      have hB := hb1.trans (hb2.mono hb1.size)
      go_wp2
      go_ret
      exact ⟨rfl, hB⟩
    · have hq3 : (z2 == 0) = false := by simpa using hq2
      rw [decide_eq_false hq2]
      clear hq2
      go_enter Try.func33, Try.ntmps33
      go_wp2_with fail
      refine (S1.out _ (Below.refl _ _)).mono ?_
      rintro en w1 ⟨A1, m1, c1, rfl, hb1⟩
      have gG := gG.next hb1
      have gE := gE.next hb1
      have gU := gU.next hb1
      have a0 := gG.cell 0
      have a1 := gG.cell 1
      have c0 := gE.cell 0
      have d0 := gU.cell 0
      go_wp2_with fail
      refine (S2.out _ hb1).mono ?_
      rintro en w2 ⟨A2, m2, c2, rfl, hb2⟩
      have hB := hb1.trans (hb2.mono hb1.size)
      go_wp2
      go_ret
      exact ⟨rfl, hB⟩
  · have hq3 : (z1 == 0) = false := by simpa using hq1
    rw [decide_eq_false hq1]
    clear hq1
    go_enter Try.func33, Try.ntmps33
    go_wp2_with fail
    refine (S1.out _ (Below.refl _ _)).mono ?_
    rintro en w1 ⟨A1, m1, c1, rfl, hb1⟩
    have gG := gG.next hb1
    have gE := gE.next hb1
    have gU := gU.next hb1
    have a0 := gG.cell 0
    have a1 := gG.cell 1
    have c0 := gE.cell 0
    have d0 := gU.cell 0
    go_wp2_with fail
    refine (S2.out _ hb1).mono ?_
    rintro en w2 ⟨A2, m2, c2, rfl, hb2⟩
    have hB := hb1.trans (hb2.mono hb1.size)
    go_wp2
    go_ret
    exact ⟨rfl, hB⟩

set_option maxHeartbeats 2000000 in
theorem indexf4_any (F : Nat) (y1 y2 y3 y4 : Value) (eg : ∀ args w, (callFunc F args).run Try.prog w = .ok (.enter F args) w) (p : Int → Bool) (A : Option Addr) (c : Nat) (xs : List Int) (hn : xs.length ≤ 1048576) (w : World) (h : Reads w w.heap.size 1 A xs.length (ints xs))
    (hp : ∀ x ∈ xs, ∀ W, Below w.heap.size w W → Calls Try.prog F #[.int .i64 x, y1, y2, y3, y4] W fun e w' => e = .returned (.bool (p x)) ∧ Below W.heap.size W w') (hex : ∃ x ∈ xs, p x = true) :
    Calls Try.prog 67 #[.slice A xs.length c, .func (.func F) #[] #[y1, y2, y3, y4]] w fun e w' => ∃ r : Int, e = .returned (.int .i64 r) ∧ 0 ≤ r ∧ Below w.heap.size w w' := by
  have HP := Lib.hid hp
  have HEX := Lib.hid hex
  clear hp hex
  go_enter Try.func67, Try.ntmps67
  go_wp2
  go_loopw [8] (fun i wr => ∃ k : Nat, k ≤ xs.length ∧ i = .int .i64 k ∧ Hid (∀ x ∈ xs.take k, p x = false) ∧ Hid (Below w.heap.size w wr)) (fun i _ => xs.length - (intOf i).toNat)
  case atStart => exact ⟨0, by omega, rfl, by simp [Hid], Below.refl _ _⟩
  case round =>
    obtain ⟨k, hk, rfl, HS, HB⟩ := hrel
    by_cases hlt : k < xs.length
    · obtain ⟨x, hx⟩ := get_of_lt hlt
      obtain ⟨b, off, rfl, hb, hcell⟩ := (h.below HB.out).at_ (ints_at hx)
      have hi : (k : Int) < (xs.length : Int) := by omega
      have htk := take_snoc hx
      have PC := HP.out x (List.mem_of_getElem? hx) wr HB.out
      cases hpx : p x
      · rw [hpx] at PC
        have PC := Lib.hid PC
        have HN : Hid (∀ x ∈ xs.take (k + 1), p x = false) := by
          rw [htk]
          intro z hz
          rcases List.mem_append.1 hz with hz | hz
          · exact HS.out z hz
          · rw [List.mem_singleton.1 hz]; exact hpx
        clear hx htk hpx h
        go_wp2_with fail
        refine (PC.out).mono ?_
        rintro e w2 ⟨rfl, hb2⟩
        have HB2 := Lib.hid (HB.out.trans (hb2.mono HB.out.size))
        go_wp2
        go_roundw
        case rel => exact ⟨k + 1, by omega, by go_num, HN, HB2⟩
        case measure => simp [intOf]; omega
      · rw [hpx] at PC
        have PC := Lib.hid PC
        clear hx htk hpx h
        go_wp2_with fail
        refine (PC.out).mono ?_
        rintro e w2 ⟨rfl, hb2⟩
        have HB2 := Lib.hid (HB.out.trans (hb2.mono HB.out.size))
        go_wp2
        go_ret
        exact ⟨k, rfl, by omega, HB2.out⟩
    · obtain rfl : k = xs.length := by omega
      rw [List.take_length] at HS
      obtain ⟨x, hx, hpx⟩ := HEX.out
      rw [HS.out x hx] at hpx
      cases hpx
set_option maxHeartbeats 1000000 in
theorem containsf4_any (F : Nat) (y1 y2 y3 y4 : Value) (eg : ∀ args w, (callFunc F args).run Try.prog w = .ok (.enter F args) w) (p : Int → Bool) (A : Option Addr) (c : Nat) (xs : List Int) (hn : xs.length ≤ 1048576) (w : World) (h : Reads w w.heap.size 1 A xs.length (ints xs))
    (hp : ∀ x ∈ xs, ∀ W, Below w.heap.size w W → Calls Try.prog F #[.int .i64 x, y1, y2, y3, y4] W fun e w' => e = .returned (.bool (p x)) ∧ Below W.heap.size W w') (hex : ∃ x ∈ xs, p x = true) :
    Calls Try.prog 32 #[.slice A xs.length c, .func (.func F) #[] #[y1, y2, y3, y4]] w fun e w' => e = .returned (.bool true) ∧ Below w.heap.size w w' := by
  have IC := Lib.hid (indexf4_any F y1 y2 y3 y4 eg p A c xs hn w h hp hex)
  clear hp hex eg h
  go_enter Try.func32, Try.ntmps32
  go_wp2_with fail
  refine (IC.out).mono ?_
  rintro e w2 ⟨r, rfl, hr, hb⟩
  have hd := decide_eq_true hr
  go_wp2
  go_ret
  exact ⟨rfl, hb⟩
end Go.Proofs.Ytepmfbgmkfkmkaa

