/-
  Plain laws for BurningKeeps: what a script moves, edge by edge; what is pushed. No program is in sight.
-/
import Derived.Test.YthbannpmfdflaaaPushE
namespace Go.Proofs.Ythbannpmfdflaaa

/-- What a script moves over one edge; over all. -/
def flowE (s : List Int) (e : E3) : Int := e.2.2 * (s.getD e.1.toNat 0 - s.getD e.2.1.toNat 0)
def overE (s xs : List Int) (e : E3) : List Int := addAt (addAt xs e.1.toNat (-(flowE s e))) e.2.1.toNat (flowE s e)
def movedL (es : List E3) (s xs : List Int) : List Int := es.foldl (overE s) xs
theorem movedL_snoc (es : List E3) (s xs : List Int) (e : E3) : movedL (es ++ [e]) s xs = overE s (movedL es s xs) e := by simp [movedL, List.foldl_append]
theorem overE_length (s xs : List Int) (e : E3) : (overE s xs e).length = xs.length := by unfold overE; rw [addAt_length, addAt_length]
theorem movedL_length (es : List E3) (s xs : List Int) : (movedL es s xs).length = xs.length := by
  induction es using snocRec with
  | h0 => rfl
  | h1 es e ih => rw [movedL_snoc, overE_length, ih]
theorem sumTo_single {f : Nat → Int} {j : Nat} : ∀ {n : Nat}, j < n → (∀ i, i < n → i ≠ j → f i = 0) → sumTo f n = f j
  | 0, h, _ => by omega
  | n + 1, h, hz => by
    rw [sumTo]
    by_cases hj : j = n
    · subst hj
      rw [sumTo_zero fun i hi => hz i (by omega) (by omega), Int.zero_add]
    · rw [sumTo_single (n := n) (by omega) fun i hi hij => hz i (by omega) hij, hz n (by omega) (fun e => hj e.symm), Int.add_zero]
theorem one_edge {n : Nat} {s : List Int} {e : E3} (ho : okE n e) {x : Nat} (hx : x < n) :
    sumTo (fun w => tt [e] x w * (s.getD w 0 - s.getD x 0)) n = (if x = e.1.toNat then -(flowE s e) else 0) + if x = e.2.1.toNat then flowE s e else 0 := by
  obtain ⟨a, b, m⟩ := e
  unfold okE at ho
  dsimp only at ho
  obtain ⟨a, rfl⟩ := Int.eq_ofNat_of_zero_le (show 0 ≤ a by omega)
  obtain ⟨b, rfl⟩ := Int.eq_ofNat_of_zero_le (show 0 ≤ b by omega)
  unfold flowE
  simp only [Int.toNat_natCast]
  have htt : ∀ w : Nat, tt [((a : Int), (b : Int), m)] x w = if x ≠ w ∧ ((x = a ∧ w = b) ∨ (x = b ∧ w = a)) then m else 0 := by
    intro w
    unfold tt
    by_cases hxw : x = w
    · rw [if_pos hxw, if_neg (fun h => h.1 hxw)]
    · rw [if_neg hxw, btw_cons, btw_nil]
      dsimp only
      by_cases hc : (x = a ∧ w = b) ∨ (x = b ∧ w = a)
      · rw [if_pos (show (a : Int) = min (x : Int) w ∧ (b : Int) = max (x : Int) w by omega), if_pos ⟨hxw, hc⟩]
      · rw [if_neg (show ¬ ((a : Int) = min (x : Int) w ∧ (b : Int) = max (x : Int) w) by omega), if_neg (fun h => hc h.2)]
  by_cases hab : a = b
  · subst hab
    rw [sumTo_zero fun w _ => ?_]
    · split <;> simp
    · rw [htt, if_neg (by omega), Int.zero_mul]
  · by_cases hxa : x = a
    · subst hxa
      rw [sumTo_single (j := b) (by omega) fun w _ hw => by rw [htt, if_neg (by omega), Int.zero_mul], htt, if_pos (by omega), if_pos rfl, if_neg hab, Int.add_zero, ← Int.mul_neg]
      congr 1; omega
    · by_cases hxb : x = b
      · subst hxb
        rw [sumTo_single (j := a) (by omega) fun w _ hw => by rw [htt, if_neg (by omega), Int.zero_mul], htt, if_pos (by omega), if_neg hxa, if_pos rfl, Int.zero_add]
      · rw [if_neg hxa, if_neg hxb, sumTo_zero fun w _ => ?_]
        · rfl
        · rw [htt, if_neg (by omega), Int.zero_mul]
theorem tt_append {n : Int} {es fs : List E3} (h : (es ++ fs).Pairwise ltE) (hok : ∀ e ∈ es, okE n e) (x w : Nat) : tt (es ++ fs) x w = tt es x w + tt fs x w := by
  unfold tt
  split
  · rfl
  · exact btw_append h (fun e he => by have := hok e he; unfold okE at this; omega) _ _
theorem movedL_getD {n : Nat} {s xs : List Int} (hl : xs.length = n) {es : List E3} : (∀ e ∈ es, okE n e) → es.Pairwise ltE → ∀ x, x < n → (movedL es s xs).getD x 0 = xs.getD x 0 + sumTo (fun w => tt es x w * (s.getD w 0 - s.getD x 0)) n := by
  induction es using snocRec with
  | h0 =>
    intro _ _ x hx
    rw [sumTo_zero fun w _ => ?_]
    · simp [movedL]
    · unfold tt; split <;> simp [btw_nil]
  | h1 es e ih =>
    intro hok hs x hx
    have ho := hok e (by simp)
    have ho' := ho
    unfold okE at ho'
    have ih := ih (fun e he => hok e (by simp [he])) (List.pairwise_append.1 hs).1 x hx
    rw [movedL_snoc]
    unfold overE
    have hsum : sumTo (fun w => tt (es ++ [e]) x w * (s.getD w 0 - s.getD x 0)) n = sumTo (fun w => tt es x w * (s.getD w 0 - s.getD x 0)) n + sumTo (fun w => tt [e] x w * (s.getD w 0 - s.getD x 0)) n := by
      rw [← sumTo_add]
      exact sumTo_congr fun w _ => by rw [tt_append hs (fun e he => hok e (by simp [he])), Int.add_mul]
    rw [addAt_getD _ _ _ (by rw [addAt_length, movedL_length]; omega), addAt_getD _ _ _ (by rw [movedL_length]; omega), ih, hsum, one_edge ho hx]
    omega
end Go.Proofs.Ythbannpmfdflaaa
