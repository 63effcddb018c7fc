/-
  Texts of this claim, put together: RRecs2, DualP.
-/
import Derived.Test.YtplgbapbgcipdaaGreatK33
import Derived.Test.YtplgbapbgcipdaaGreatK30
import Derived.Test.YtplgbapbgcipdaaGreatK32
import Derived.Test.YtplgbapbgcipdaaGreatK18
/-! Package recurrent: the iterator recurrents, where all vertices are chosen. -/
namespace Go.Proofs.YtplgbapbgcipdaaGreat
open Go.RowKit Go.Shelf
attribute [local go_sem] Oper.semAt_some

/-- What all steps of the iterator share. -/
structure RFix (n q : Nat) (es : List E3) (top : List Int) : Prop where
  hlen : es.length ≤ 10000
  hz : checkG n es = 0
  hq : q < n
  htl : top.length = n
  htb : ∀ x ∈ top, 0 ≤ x ∧ x ≤ 1048576
/-- The property. -/
def recP (n : Nat) (es : List E3) (q : Nat) (c : List Int) : Bool := recB n es c q

set_option maxRecDepth 100000 in
set_option maxHeartbeats 4000000 in
theorem recs_iter0 (n q : Nat) (es : List E3) (top : List Int) (hF : RFix n q es top) (cs : List Int) (hcs : cs.length = n) (hcb : ∀ x ∈ cs, -1048576 ≤ x ∧ x ≤ 1048577) (bp bv bt : Nat) (A : Option Addr) (cA : Nat) (C : Option Addr) (cC : Nat) (T : Option Addr) (cT : Nat) (W0 : World)
    (hW : RecW W0 n q n bp bv bt es A cA C cC T cT cs top) :
    Iter Tryz.prog 80 #[.pointer (some ⟨bp, 0, none⟩), .pointer (some ⟨bv, 0, none⟩), .pointer (some ⟨bt, 0, none⟩)] ArgD (KR bp bv bt es A C T) (fun _ => False) (enumR (recP n es q) top n 0 cs) W0 := by
  intro l J Jx C0 W hL hC hJ hJx hY h0
  have hn0 : 0 < n := by have := hF.hq; omega
  have hn12 : n ≤ 12 := by have := (right_of hF.hz).hi; omega
  have hRW : RecW W n q n bp bv bt es A cA C cC T cT cs top := hW.kept hL.size fun k hk => hL.block k (hW.lt hn0 hk) hk
  obtain ⟨Wy, hWy⟩ : ∃ Wy, W.alloc (.cells #[.func (.yield l) #[] #[]] 51) = Wy := ⟨_, rfl⟩
  have hby : Below W.heap.size W Wy := by rw [← hWy]; exact (Below.refl _ _).alloc (Nat.le_refl _) _
  have y5 : Blk Wy W.heap.size 51 #[.func (.yield l) #[] #[]] := by rw [← hWy]; exact Blk.new _ _ _
  have hsy : Wy.heap.size = W.heap.size + 1 := by rw [← hWy]; simp
  have hRy := hRW.next hn0 hby
  have RC := Lib.hid (recurs_any n A cA es q hF.hq C cC cs ⟨hF.hlen, hF.hz, hcs, hcb⟩ Wy hRy.e hRy.c)
  have CL := Lib.hid (fun (W : World) (h : Reads W W.heap.size 1 C n (ints cs)) => by have := dclone_any C cC cs (by omega) W (by rw [hcs]; exact h); rw [hcs] at this; exact this)
  have HRY := Lib.hid hRy
  have HJ := Lib.hid hJ
  have HY := Lib.hid hY
  have HC := Lib.hid hC
  have HLEN := Lib.hid hcs
  have hJy := hJ _ _ _ _ h0 (Stays.of_new hby)
  have HJy := Lib.hid hJy
  have e1 := hRy.p.cell 0
  have e2 := hRy.p.cell 1
  have e3 := hRy.p.cell 2
  have e4 := hRy.p.cell 3
  have HEN : Hid (enumR (recP n es q) top n 0 cs = if recB n es cs q then [cs] else []) := rfl
  obtain ⟨xs, hxs⟩ : ∃ xs, enumR (recP n es q) top n 0 cs = xs := ⟨_, rfl⟩
  rw [hxs] at HEN HY ⊢
  obtain ⟨b, hb⟩ : ∃ b, recB n es cs q = b := ⟨_, rfl⟩
  rw [hb] at HEN RC
  clear hb hxs hJ hY hC hcs hRy hRW hW hF hL h0 hJx hJy hcb
  refine (callsIn_wide (n := 3)).1 ?_
  refine callsIn_of_wp_marks Tryz.func80 rfl trivial ?_
  simp only [Tryz.ntmps80, List.size_toArray, List.length_cons, List.length_nil, Nat.reduceAdd, Nat.reduceSub, Array.replicate_succ, Array.replicate_zero, List.push_toArray, List.append_toArray, List.nil_append, List.cons_append]
  gi_wp2_with fail
  refine ⟨trivial, ?_⟩

  refine (inW RC.out).mono ?_
  rintro e w1 ⟨rfl, hb1⟩
  have hB1 := hby.trans (hb1.mono (by omega))
  have hR1 := HRY.out.next hn0 hb1
  have J1 := Lib.hid (HJ.out _ _ _ _ HJy.out (Stays.of_new hb1))
  have y1 := y5.next hb1
  have hs1 := hb1.size
  have e5 := y1.cell 0
  have e1 := hR1.p.cell 0
  have e3 := hR1.p.cell 2
  have e4 := hR1.p.cell 3
  have e6 := hR1.v.cell 0
  have HR1 := Lib.hid hR1
  clear hby y5 hWy hR1
  cases b
  · have HEN2 : Hid (xs = []) := HEN.out
    gi_wp2
    exact ⟨_, results_none rfl _ _ _, ⟨⟨_, rfl⟩, C0, .inl (by rw [HEN2.out]; exact J1.out)⟩⟩
  · have HEN2 : Hid (xs = [cs]) := HEN.out
    have HPR : Hid ([] ++ [cs] <+: xs) := by rw [HEN2.out]; exact List.prefix_refl _
    have HA2 : Hid (∀ (A' : Option Addr) (c' : Nat), (#[.slice A' n c'] : Array Value) = #[.slice A' cs.length c']) := fun A' c' => by rw [HLEN.out]
    gi_wp2_with fail
    refine wpIn_nopanic ?_
    gi_region_with (first
      | (refine ⟨trivial, ?_⟩; gi_at_call 17; refine (inW (CL.out w1.drew HR1.out.c)).mono ?_; rintro e w2 ⟨A', c', rfl, hown, hbel⟩
         have ho1 : Only (fun _ => False) w1 w2 := ((Only.refl _ w1).drew).trans (Only.of_new hbel)
         have cy : w2.cell? ⟨W.heap.size, 0, none⟩ = some (.func (.yield l) #[] #[]) := (hbel.cell (p := ⟨W.heap.size, 0, none⟩) y1.lt).trans e5
         have hs2 := ho1.size
         have hOw : Hid (∀ k, blockOf A' k → w1.heap.size ≤ k ∧ k < w2.heap.size) := fun k hk => hown.lt k (blockOf_own.2 hk)
         obtain ⟨fn, tmps, assign, body, hy, hR⟩ := HY.out [] cs C0 w2 #[.slice A' n c'] (blockOf A') HPR.out (HJ.out _ _ _ _ J1.out (Stays.of_only ho1 (fun _ _ h => h.elim))) (by omega) (fun k hk => by have := (HC.out k hk).1; omega) (fun k hk => ⟨fun h => by have := (HC.out k h).1; have := (hOw.out k hk).1; omega, (hOw.out k hk).2, by have := (hOw.out k hk).1; omega⟩) ⟨A', c', HA2.out A' c', hown.mono (Nat.zero_le _), fun k hk => hk⟩)
      | (refine (roundIn_wide hR).mono ?_; rintro e w3 ⟨C2, b2, ho2, hg2, rfl, hj2, hx2⟩))
    all_goals (
      refine nopanic_normal ?_
      have EN : Hid (∃ C', J xs C' w3 ∨ ∃ pre, pre <+: xs ∧ Jx pre C' w3) := by
        rw [HEN2.out]
        cases b2
        · exact ⟨C2, .inr ⟨_, List.prefix_refl _, hx2 rfl⟩⟩
        · exact ⟨C2, .inl (hj2 rfl)⟩
      clear hj2 hx2 hR hy ho2 hg2
      gi_wp2
      exact ⟨_, results_none rfl _ _ _, ⟨⟨_, rfl⟩, EN.out⟩⟩)
end Go.Proofs.YtplgbapbgcipdaaGreat

/-! Plain: the dual of a stable configuration is superstable exactly if the configuration is recurrent; the same order proves both; the dual of the dual is the configuration. No program is in sight. -/
namespace Go.Proofs.YtplgbapbgcipdaaGreat
open Go.RowKit

theorem cat_same {es : List E3} {c c' : List Int} {l : List Nat} {v : Nat} (h : v ∉ l → c.getD v 0 = c'.getD v 0) : catL es c l v = catL es c' l v := by
  unfold catL
  by_cases hm : v ∈ l
  · simp [hm]
  · rw [h hm]
theorem burnL_same {n q : Nat} {es : List E3} {c c' : List Int} (h : ∀ v, v < n → v ≠ q → c.getD v 0 = c'.getD v 0) : ∀ (k : Nat) (l : List Nat), q ∈ l → burnL es c n k l = burnL es c' n k l
  | 0, _, _ => rfl
  | k + 1, l, hq => by
    have hr : readyL es c n l = readyL es c' n l := List.filter_congr fun v hv => cat_same fun hm => h v (List.mem_range.1 hv) (fun e => hm (e ▸ hq))
    rw [burnL, burnL, hr]
    cases (readyL es c' n l).head? with
    | none => rfl
    | some v => exact burnL_same h k _ (by simp [hq])
theorem burnt_dual (n : Nat) (es : List E3) (cs : List Int) (q : Nat) : burntL es (dulL n es cs q) n q = recL n es cs q :=
  burnL_same (q := q) (fun v hv hvq => by rw [dulL_get es cs q hv, if_neg hvq, dualL_get es cs hv]) n [q] (by simp)

theorem prv_dual {n q : Nat} {es : List E3} (hG : RightG n es) (cs : List Int) : ∀ (r l : List Nat), LOk n (l ++ r) → q ∈ l → prvFrom es cs l r = provFrom es (dulL n es cs q) l r
  | [], _, _, _ => rfl
  | x :: r, l, h, hq => by
    have hxl : x ∉ l := fun hc => by
      have := h.1
      rw [List.nodup_append] at this
      exact this.2.2 x hc x (by simp) rfl
    have hxn : x < n := h.2 x (by simp)
    have hlo : LOk n l := ⟨(List.nodup_append.1 h.1).1, fun v hv => h.2 v (by simp [hv])⟩
    have h1 := cat_dual hG cs hlo hxn
    have h2 : catL es (dulL n es cs q) l x = catL es (dualL n es cs) l x := cat_same fun _ => by
      have hxq : x ≠ q := by rintro rfl; exact hxl hq
      rw [dulL_get es cs q hxn, if_neg hxq, dualL_get es cs hxn]
    have h3 : catchB es cs l x = decide ((dulL n es cs q).getD x 0 < joinsN es x l) := by
      rw [h1] at h2
      unfold catL at h2
      rw [decide_eq_false hxl, Bool.not_false, Bool.true_and, Bool.true_and] at h2
      exact h2.symm
    rw [prvFrom, provFrom, h3, prv_dual (q := q) hG cs r (l ++ [x]) (by simpa using h) (by simp [hq])]

section
variable {n q : Nat} {es : List E3} {cs : List Int}
theorem dul_err (hlen : es.length ≤ 10000) (hz : burnErr n es q cs = 0) (hs : stabTo es cs q n = true) : burnErr n es q (dulL n es cs q) = 0 := by
  obtain ⟨hG, _, _, hq, hl, hb, h0⟩ := conf_zero (burn_zero hz).1
  have hz0 := (burn_zero hz).2
  have hq : q < n := by omega
  have hl : cs.length = n := by omega
  have hst := stabTo_iff.1 hs
  have hget : ∀ v, v < n → 0 ≤ (dulL n es cs q).getD v 0 ∧ (dulL n es cs q).getD v 0 ≤ 1048576 := by
    intro v hv
    rw [dulL_get es cs q hv]
    by_cases hvq : v = q
    · rw [if_pos hvq]; omega
    · rw [if_neg hvq]
      have h1 := hst v hv hvq
      have h2 := h0 v (by omega) (by omega)
      have h3 := valE_bd hG.ok v
      omega
  refine burn_zero_of hz (by rw [dulL_length]) (fun x hx => ?_) (fun v => ?_) ?_
  · obtain ⟨i, hi⟩ := List.getElem?_of_mem hx
    have hin : i < n := by have := (List.getElem?_eq_some_iff.1 hi).1; rw [dulL_length] at this; exact this
    have := hget i hin
    rw [getD_at hi] at this
    omega
  · by_cases hv : v < n
    · exact (hget v hv).1
    · rw [List.getD_eq_getElem?_getD, List.getElem?_eq_none (by rw [dulL_length]; omega)]
      simp
  · rw [Int.toNat_natCast, dulL_get es cs q hq, if_pos rfl]
theorem dul_stab (hz : burnErr n es q cs = 0) : stabTo es (dulL n es cs q) q n = true := by
  obtain ⟨_, _, _, _, _, _, h0⟩ := conf_zero (burn_zero hz).1
  rw [stabTo_iff]
  intro v hv hvq
  rw [dulL_get es cs q hv, if_neg hvq]
  have := h0 v (by omega) (by omega)
  omega
theorem dul_dul (hz : burnErr n es q cs = 0) : dulL n es (dulL n es cs q) q = cs := by
  obtain ⟨_, _, _, _, hl, _, _⟩ := conf_zero (burn_zero hz).1
  have hz0 := (burn_zero hz).2
  rw [Int.toNat_natCast] at hz0
  have hl : cs.length = n := by omega
  apply List.ext_getElem?
  intro i
  by_cases hi : i < n
  · have h1 : ∀ {l : List Int}, l.length = n → l[i]? = some (l.getD i 0) := fun {l} h => by
      rw [List.getD_eq_getElem?_getD, List.getElem?_eq_getElem (by omega)]; rfl
    rw [h1 (dulL_length n es _ q), h1 hl, dulL_get es _ q hi]
    by_cases h : i = q
    · rw [if_pos h, h, hz0]
    · rw [if_neg h, dulL_get es cs q hi, if_neg h]
      congr 1
      omega
  · rw [List.getElem?_eq_none (by rw [dulL_length]; omega), List.getElem?_eq_none (by omega)]
/-- All that the law asks of a stable configuration. -/
theorem dual_plain (hlen : es.length ≤ 10000) (hz : burnErr n es q cs = 0) (hs : stabTo es cs q n = true) :
    burnErr n es q (dulL n es cs q) = 0 ∧ stabTo es (dulL n es cs q) q n = true ∧ dulL n es (dulL n es cs q) q = cs ∧
    decide (restL n (burntL es (dulL n es cs q) n q) = []) = recB n es cs q ∧ recB n es cs q = decide (worstL n es cs q = []) ∧
    (recB n es cs q = true → verErr n es q cs (natsI (recL n es cs q)) = 0 ∧ rverB n es q cs (natsI (recL n es cs q)) = true ∧
      verErr n es q (dulL n es cs q) (natsI (recL n es cs q)) = 0 ∧ verB n es q (dulL n es cs q) (natsI (recL n es cs q)) = true) := by
  have hd := dul_err hlen hz hs
  obtain ⟨hG, _, _, hq, hl, hb, h0⟩ := conf_zero (burn_zero hz).1
  have hq : q < n := by omega
  have hrb : recB n es cs q = decide (worstL n es cs q = []) := by
    unfold recB
    rw [hs, Bool.true_and, decide_eq_decide]
    exact full_iff hq
  refine ⟨hd, dul_stab hz, dul_dul hz, by rw [burnt_dual, hrb]; rfl, hrb, fun hr => ?_⟩
  have hw : worstL n es cs q = [] := by rw [hrb] at hr; exact of_decide_eq_true hr
  have hfull := (full_iff hq).2 hw
  have hlo := recL_ok (n := n) (q := q) (es := es) (cs := cs) hq
  obtain ⟨r, hbr, hpr⟩ := burn_proves (es := es) (cs := dulL n es cs q) (n := n) ⟨by simp, by simp⟩ n [q]
  have hbr : recL n es cs q = [q] ++ r := (burnt_dual n es cs q).symm.trans hbr
  rw [hbr] at hlo hfull
  rw [hbr]
  obtain ⟨v1, v2⟩ := ver_true hd hlo hfull hpr
  have v3 : verErr n es q cs (natsI ([q] ++ r)) = 0 := by unfold verErr; rw [if_neg (by omega)]; exact ren_zero hlo hfull
  refine ⟨v3, ?_, v1, v2⟩
  unfold rverB
  rw [if_pos v3, nats_toNat, natsI_getD]
  unfold prvL
  have := prv_dual (q := q) hG cs r [q] hlo (by simp)
  simp [this, hpr, hs]
end
end Go.Proofs.YtplgbapbgcipdaaGreat

