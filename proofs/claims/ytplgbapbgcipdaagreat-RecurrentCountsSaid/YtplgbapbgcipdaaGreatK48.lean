/-
  Texts of this claim, put together: OriQ.
-/
import Derived.Test.YtplgbapbgcipdaaGreatK47
/-! The graph without its loops; the orientations that Unique lists are as many as the minimal recurrent configurations. No program is in sight. -/
namespace Go.Proofs.YtplgbapbgcipdaaGreat
section
variable {n q : Nat} {es : List E3}
theorem countP_ends (P : Nat × Nat → Bool) (e : E3) (es : List E3) : (endsL (e :: es)).countP P = (if P (e.1.toNat, e.2.1.toNat) then e.2.2.toNat else 0) + (endsL es).countP P := by
  have : endsL (e :: es) = List.replicate e.2.2.toNat (e.1.toNat, e.2.1.toNat) ++ endsL es := by simp [endsL]
  rw [this, List.countP_append, List.countP_replicate]
theorem ends_deg (v : Nat) : ∀ {es : List E3}, (∀ e ∈ es, okE n e) → valE es v = ((endsL (straightL es)).countP fun p => decide (p.1 = v) || decide (p.2 = v) : Nat)
  | [], _ => rfl
  | e :: es, hok => by
    have hok' : ∀ x ∈ es, okE n x := fun x hx => hok x (by simp [hx])
    have ih := ends_deg v hok'
    have ho := hok e (by simp)
    unfold okE at ho
    have h1 : valE (e :: es) v = valT v e + valE es v := by simp [valE]
    rw [h1, ih, straight_cons]
    unfold valT
    by_cases he : e.1 = e.2.1
    · rw [if_neg (fun h => h.1 he), if_neg (fun h => h he)]; omega
    · rw [if_pos he, countP_ends]
      have hd : (decide (e.1.toNat = v) || decide (e.2.1.toNat = v)) = decide (e.1 = (v : Int) ∨ e.2.1 = (v : Int)) := by
        rw [Bool.eq_iff_iff]
        simp only [Bool.or_eq_true, decide_eq_true_eq]
        omega
      dsimp only
      rw [hd]
      by_cases hc : e.1 = (v : Int) ∨ e.2.1 = (v : Int)
      · rw [if_pos ⟨he, hc⟩, if_pos (decide_eq_true hc)]; omega
      · rw [if_neg (fun h => hc h.2), decide_eq_false hc]; simp
theorem ends_tt {a b : Nat} (hab : a ≠ b) : ∀ {es : List E3}, (∀ e ∈ es, okE n e) → es.Pairwise ltE → btw es a b = ((endsL (straightL es)).countP fun p => (decide (p.1 = a) && decide (p.2 = b)) || (decide (p.1 = b) && decide (p.2 = a)) : Nat)
  | [], _, _ => rfl
  | e :: es, hok, hs => by
    have hok' : ∀ x ∈ es, okE n x := fun x hx => hok x (by simp [hx])
    obtain ⟨hlt, hs'⟩ := List.pairwise_cons.1 hs
    have ih := ends_tt hab hok' hs'
    have ho := hok e (by simp)
    unfold okE at ho
    rw [btw_cons, straight_cons]
    by_cases he : e.1 = e.2.1
    · rw [if_neg (by omega), if_neg (fun h => h he), ih]
    · rw [if_pos he, countP_ends]
      have hd : ((decide (e.1.toNat = a) && decide (e.2.1.toNat = b)) || (decide (e.1.toNat = b) && decide (e.2.1.toNat = a))) = decide (e.1 = min (a : Int) b ∧ e.2.1 = max (a : Int) b) := by
        rw [Bool.eq_iff_iff]
        simp only [Bool.or_eq_true, Bool.and_eq_true, decide_eq_true_eq]
        omega
      dsimp only
      rw [hd]
      by_cases hc : e.1 = min (a : Int) b ∧ e.2.1 = max (a : Int) b
      · rw [if_pos hc, if_pos (decide_eq_true hc)]
        have h0 : (endsL (straightL es)).countP (fun p => (decide (p.1 = a) && decide (p.2 = b)) || (decide (p.1 = b) && decide (p.2 = a))) = 0 := by
          rw [List.countP_eq_zero]
          intro p hp hc2
          obtain ⟨x, hx, h1, h2⟩ := (mem_endsL (n := n) fun y hy => hok' y (List.mem_filter.1 hy).1).1 hp
          have hx := (List.mem_filter.1 hx).1
          have hl := hlt x hx
          have hxo := hok' x hx
          unfold ltE at hl
          unfold okE at hxo
          simp only [Bool.or_eq_true, Bool.and_eq_true, decide_eq_true_eq] at hc2
          omega
        rw [h0]; omega
      · rw [if_neg hc, decide_eq_false hc, ih]; simp
theorem ori_hyp (hr : rootErr n es q = 0) (hlen : es.length ≤ 40) : OriH n q es (endsL (straightL es)) := by
  obtain ⟨_, hG, _, hq⟩ := root_zero hr
  refine ⟨hr, hlen, fun p hp e => ?_, bd_ends (right_straight hG), fun a b hab => ?_, fun v _ => ends_deg v hG.ok⟩
  · obtain ⟨x, hx, h1, h2⟩ := (mem_endsL (right_straight hG).ok).1 hp
    have := (List.mem_filter.1 hx).2
    simp only [decide_eq_true_eq] at this
    omega
  · unfold tt
    rw [if_neg hab]
    exact ends_tt hab hG.ok hG.sorted
theorem straight_len : ∀ (es : List E3), (endsL (straightL es)).length ≤ (endsL es).length
  | [] => by simp [straightL, endsL]
  | e :: es => by
    have ih := straight_len es
    have h : ∀ (x : E3) (l : List E3), (endsL (x :: l)).length = x.2.2.toNat + (endsL l).length := fun x l => by simp [endsL]
    rw [straight_cons, h]
    by_cases he : e.1 ≠ e.2.1
    · rw [if_pos he, h]; omega
    · rw [if_neg he]; omega
theorem root_joinO (hr : rootErr n es q = 0) : joinErr n es = 0 := by
  obtain ⟨hz, hG, hC, _⟩ := root_zero hr
  unfold joinErr
  rw [if_neg (fun h => h hz), Int.toNat_natCast, (connB_iff hG).2 hC]
  rfl
theorem uni_count (hr : rootErr n es q = 0) (hlen : es.length ≤ 40) : ((orsL (endsL (straightL es)).length).filter (fitB n q (straightL es))).length = ((recsL n es q).filter fun xs => minTo n es q xs n).length := by
  obtain ⟨_, hG, _, hq⟩ := root_zero hr
  refine ori_count (ori_hyp hr hlen) ((orsL_nodup _).sublist List.filter_sublist) fun o => ?_
  rw [List.mem_filter, mem_orsL]
  constructor
  · rintro ⟨h1, h2⟩
    exact (fit_iff (by omega) (bd_ends (right_straight hG)) h1).1 h2
  · intro h
    exact ⟨h.len, (fit_iff (by omega) (bd_ends (right_straight hG)) h.len).2 h⟩
end
end Go.Proofs.YtplgbapbgcipdaaGreat

