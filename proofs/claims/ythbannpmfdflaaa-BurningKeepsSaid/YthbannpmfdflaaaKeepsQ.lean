/-
  Plain law for BurningKeeps. No program is in sight.
-/
import Derived.Test.YthbannpmfdflaaaKeepsP
import Derived.Test.YthbannpmfdflaaaLegal
import Derived.Test.YthbannpmfdflaaaBlocks
namespace Go.Proofs.Ythbannpmfdflaaa

theorem bd_of {xs : List Int} {M : Int} (h : ∀ x, x < xs.length → -M ≤ xs.getD x 0 ∧ xs.getD x 0 ≤ M) : Bd M xs := by
  intro x hx
  obtain ⟨i, hi, rfl⟩ := List.getElem_of_mem hx
  have := h i hi
  rwa [List.getD_eq_getElem?_getD, List.getElem?_eq_getElem hi, Option.getD_some] at this
theorem giv_zero {n : Int} {es : List E3} {xs : List Int} (hg : checkG n es = 0) (hG : RightG n es) (hl : (xs.length : Int) = n) (hb : Bd 1048576 xs) : givErr n es xs = 0 := by
  have hlo := hG.lo
  have hhi := hG.hi
  unfold givErr
  rw [if_neg (fun h => h hg)]
  unfold divErr
  rw [if_neg (by omega), if_neg (by omega), if_pos (List.all_eq_true.2 fun x hx => chipB_true.2 (hb x hx))]
theorem keeps_plain {n q : Nat} {es : List E3} {cs : List Int} (hz : burnErr n es q cs = 0) (hn : n ≤ 6) (h60 : ∀ x ∈ cs, x ≤ 60) :
    ∃ d t, PushE n es q cs d t 0 ∧ d.length = n ∧ t.length = n ∧ t.getD q 0 = 0 ∧ (∀ x ∈ t, 0 ≤ x) ∧ Bd 1048576 t ∧ givErr n es t = 0 ∧ givErr n es cs = 0 ∧ Bd 1048576 (movedL es t cs) ∧ (movedL es t cs).set q 0 = d ∧ burnErr n es q d = 0 ∧ restL n (burntL es d n q) = [] ∧
      (restL n (burntL es cs n q) = [] → cs = d ∧ ∀ x ∈ t, x = 0) := by
  obtain ⟨hc, hcq⟩ := burn_zero hz
  obtain ⟨hG, hC, _, hqn, hlen, hbd, hpos⟩ := conf_zero hc
  simp only [Int.toNat_natCast] at hcq hC
  have hq : q < n := by omega
  have hl : cs.length = n := by omega
  have he : ∀ a b, 0 ≤ btw es a b := fun a b => (btw_bd hG.ok a b).1
  have h0 : ∀ x, 0 ≤ cs.getD x 0 := fun x => by
    by_cases hx : x < n
    · by_cases hxq : x = q
      · subst hxq; omega
      · exact hpos x (by omega) (by omega)
    · rw [getD_out (by omega)]; exact Int.le_refl _
  have hT : sumTo (fun x => cs.getD x 0) n ≤ 360 := by
    have : sumTo (fun x => cs.getD x 0) n ≤ sumTo (fun _ => 60) n := by
      refine sumTo_le fun x hx => ?_
      have hxc : x < cs.length := by omega
      rw [List.getD_eq_getElem?_getD, List.getElem?_eq_getElem hxc]
      exact h60 _ (List.getElem_mem hxc)
    rw [sumTo_const] at this
    omega
  have hbig : (n : Int) * (n * 360) ≤ 1048576 := by
    have h2 : (n : Int) * (n * 360) ≤ (n : Int) * 2160 := Int.mul_le_mul_of_nonneg_left (by omega) (by omega)
    omega
  obtain ⟨d, t, hP, hdl, htl, hLd, hdq, htq, ht0, hd0, hB, hsd, hst⟩ := push_right hz h0 hT (by omega) hbig
  have htb : ∀ x, x < n → t.getD x 0 ≤ 2160 := by
    intro x hx
    have := script_bd hG hC hq hB htq (fun x _ _ => hd0 x) h0 hT (by omega) n (t.getD x 0) (by unfold lessN; exact Nat.le_trans (List.length_filter_le _ _) (by simp)) ⟨x, hx, Int.le_refl _⟩
    omega
  have hBt : Bd 1048576 t := bd_of fun x hx => by have := htb x (by omega); have := ht0 x; omega
  have hml := movedL_length es t cs
  have hmg := movedL_getD (s := t) hl hG.ok hG.sorted
  have htt : ∀ a b, 0 ≤ tt es a b := fun a b => by unfold tt; split; (· omega); exact he _ _
  have hmd : ∀ x, x < n → x ≠ q → (movedL es t cs).getD x 0 = d.getD x 0 := fun x hx hxq => by rw [hmg x hx, hB x hx hxq]
  have hmq : 0 ≤ (movedL es t cs).getD q 0 := by
    rw [hmg q hq, hcq]
    have : 0 ≤ sumTo (fun w => tt es q w * (t.getD w 0 - t.getD q 0)) n := sumTo_nonneg fun w _ => Int.mul_nonneg (htt _ _) (by have := ht0 w; omega)
    omega
  have hm0 : ∀ x, x < n → 0 ≤ (movedL es t cs).getD x 0 := fun x hx => by
    by_cases hxq : x = q
    · subst hxq; exact hmq
    · rw [hmd x hx hxq]; exact hd0 x
  have hms : sumTo (fun x => (movedL es t cs).getD x 0) n = sumTo (fun x => cs.getD x 0) n := by
    rw [sumTo_congr (g := fun x => cs.getD x 0 + sumTo (fun w => tt es x w * (t.getD w 0 - t.getD x 0)) n) fun x hx => hmg x hx, sumTo_add,
      sumTo_anti (g := fun x w => tt es x w * (t.getD w 0 - t.getD x 0)) (fun x w => by rw [tt_comm es w x, ← Int.mul_neg]; congr 1; omega) n, Int.add_zero]
  have hBm : Bd 1048576 (movedL es t cs) := bd_of fun x hx => by
    have h1 := hm0 x (by omega)
    have h2 := sumTo_one (f := fun x => (movedL es t cs).getD x 0) (k := n) hm0 x (by omega)
    rw [hms] at h2
    omega
  refine ⟨d, t, hP, hdl, htl, htq, fun x hx => ?_, hBt, giv_zero (burn_parts hz).1 hG (by omega) hBt, giv_zero (burn_parts hz).1 hG hlen (fun x hx => hbd x hx), hBm, ?_, ?_, hLd, fun hr => ?_⟩
  · obtain ⟨i, hi, rfl⟩ := List.getElem_of_mem hx
    have := ht0 i
    rwa [List.getD_eq_getElem?_getD, List.getElem?_eq_getElem hi, Option.getD_some] at this
  · apply List.ext_getElem?
    intro x
    rw [List.getElem?_set]
    by_cases hx : x < n
    · by_cases hxq : q = x
      · subst hxq
        rw [if_pos rfl, if_pos (by omega), List.getElem?_eq_getElem (by omega)]
        rw [List.getD_eq_getElem?_getD, List.getElem?_eq_getElem (by omega), Option.getD_some] at hdq
        rw [hdq]
      · rw [if_neg hxq]
        have := hmd x hx (fun e => hxq e.symm)
        rw [List.getD_eq_getElem?_getD, List.getD_eq_getElem?_getD, List.getElem?_eq_getElem (by omega), List.getElem?_eq_getElem (by omega)] at this
        rw [List.getElem?_eq_getElem (by omega), List.getElem?_eq_getElem (by omega)]
        exact congrArg some this
    · rw [if_neg (by omega), List.getElem?_eq_none (by omega), List.getElem?_eq_none (by omega)]
  · have hm := mem_le_sum hdl hd0
    refine burn_zero_of hz (by omega) (fun x hx => by have := hm x hx; omega) hd0 ?_
    simp only [Int.toNat_natCast]
    exact hdq
  · obtain ⟨e1, e2⟩ := hst hr
    refine ⟨e1.symm, fun x hx => ?_⟩
    rw [e2] at hx
    exact List.eq_of_mem_replicate hx
end Go.Proofs.Ythbannpmfdflaaa
