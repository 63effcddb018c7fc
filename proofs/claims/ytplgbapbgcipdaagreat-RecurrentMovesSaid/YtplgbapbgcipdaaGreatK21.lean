/-
  Texts of this claim, put together: SFire, FallP, RDual, SNext, RMove.
-/
import Derived.Test.YtplgbapbgcipdaaGreatK19
import Derived.Test.YtplgbapbgcipdaaGreatK20
import Derived.Test.YtplgbapbgcipdaaGreatK09
import Derived.Test.YtplgbapbgcipdaaGreatK17
import Derived.Test.YtplgbapbgcipdaaGreatK05
import Derived.Test.YtplgbapbgcipdaaGreatK18
import Derived.Test.YtplgbapbgcipdaaGreatK08
import Derived.Test.YtplgbapbgcipdaaGreatK07
import Derived.Deep.RegionWith
/-! Package stabilize: next, fire. -/
namespace Go.Proofs.YtplgbapbgcipdaaGreat
open Go.RowKit

/-- What firing a vertex leaves: the first m vertices have their chips. -/
def fireTo (rows : List (List Int)) (val d : List Int) (n v : Nat) (k : Int) (m : Nat) : List Int := (List.range n).map fun u => d.getD u 0 - (if u = v then k * val.getD v 0 else 0) + if u < m then k * (rows.getD v []).getD u 0 else 0
/-- Which vertices wait: the first m are looked at anew. -/
def waitTo (q : Int) (d val : List Int) (ws : List Bool) (m : Nat) : List Bool := (List.range 12).map fun u => if u < m then unst q d val u else ws.getD u false
theorem fireTo_length {rows : List (List Int)} {val d : List Int} {n v m : Nat} {k : Int} : (fireTo rows val d n v k m).length = n := by simp [fireTo]
theorem fireTo_get {rows : List (List Int)} {val d : List Int} {n v m u : Nat} {k : Int} (hu : u < n) : (fireTo rows val d n v k m)[u]? = some (d.getD u 0 - (if u = v then k * val.getD v 0 else 0) + if u < m then k * (rows.getD v []).getD u 0 else 0) := by
  unfold fireTo; rw [List.getElem?_map, List.getElem?_range hu]; rfl
theorem list_ext_n {xs ys : List Int} {n : Nat} (h1 : xs.length = n) (h2 : ys.length = n) (h : ∀ i, i < n → xs[i]? = ys[i]?) : xs = ys := by
  apply List.ext_getElem?
  intro i
  by_cases hi : i < n
  · exact h i hi
  · rw [List.getElem?_eq_none (by omega), List.getElem?_eq_none (by omega)]
theorem fireTo_zero {rows : List (List Int)} {val d : List Int} {n v : Nat} {k x y : Int} (hd : d.length = n) (hx : d[v]? = some x) (hy : val[v]? = some y) : d.set v (x - k * y) = fireTo rows val d n v k 0 := by
  have hv : v < n := by have := (List.getElem?_eq_some_iff.1 hx).1; omega
  refine list_ext_n (n := n) (by simpa using hd) fireTo_length fun i hi => ?_
  rw [fireTo_get hi]
  by_cases e : i = v
  · subst e
    rw [List.getElem?_set_self (by omega)]
    simp [hx, hy]
  · rw [List.getElem?_set_ne (fun h => e h.symm)]
    obtain ⟨z, hz⟩ := get_of_lt (xs := d) (k := i) (by omega)
    rw [hz, getD_at hz]
    simp [e]
theorem fireTo_succ {rows : List (List Int)} {val d r : List Int} {n v m : Nat} {k x u : Int} (hm : m < n) (hr : rows[v]? = some r) (hu : r[m]? = some u) (hx : (fireTo rows val d n v k m)[m]? = some x) : (fireTo rows val d n v k m).set m (x + k * u) = fireTo rows val d n v k (m + 1) := by
  have hrd : rows.getD v [] = r := by rw [List.getD_eq_getElem?_getD, hr]; rfl
  refine list_ext_n (n := n) (by simp [fireTo_length]) fireTo_length fun i hi => ?_
  rw [fireTo_get hi]
  by_cases e : i = m
  · subst e
    rw [List.getElem?_set_self (by rw [fireTo_length]; exact hi)]
    rw [fireTo_get hi] at hx
    injection hx with hx
    rw [← hx, hrd, getD_at hu]
    simp
  · rw [List.getElem?_set_ne (fun h => e h.symm), fireTo_get hi]
    congr 2
    by_cases h : i < m
    · rw [if_pos h, if_pos (by omega)]
    · rw [if_neg h, if_neg (by omega)]
theorem unst_congr {q : Int} {d d' val : List Int} {v : Nat} (h : d.getD v 0 = d'.getD v 0) : unst q d val v = unst q d' val v := by unfold unst; rw [h]
theorem waitTo_succ {q : Int} {d d' val : List Int} {ws : List Bool} {m : Nat} (hm : m < 12) (h : d.getD m 0 = d'.getD m 0) : (waitTo q d' val ws m).set m (unst q d val m) = waitTo q d' val ws (m + 1) := by
  apply List.ext_getElem?
  intro i
  unfold waitTo
  by_cases hi : i = m
  · subst hi
    rw [List.getElem?_set_self (by simpa using hm)]
    simp [hm, unst_congr h]
  · rw [List.getElem?_set_ne (fun e => hi e.symm), List.getElem?_map, List.getElem?_map]
    by_cases h12 : i < 12
    · rw [List.getElem?_range h12]
      simp only [Option.map_some]
      by_cases h2 : i < m
      · rw [if_pos h2, if_pos (by omega)]
      · rw [if_neg h2, if_neg (by omega)]
    · rw [List.getElem?_eq_none (by simp; omega)]; rfl
theorem waitTo_zero {q : Int} {d val : List Int} {ws : List Bool} (h : ws.length = 12) : waitTo q d val ws 0 = ws := by
  apply List.ext_getElem?
  intro i
  unfold waitTo
  by_cases h12 : i < 12
  · rw [List.getElem?_map, List.getElem?_range h12, List.getElem?_eq_getElem (by omega)]
    simp [List.getD_eq_getElem?_getD, List.getElem?_eq_getElem (show i < ws.length by omega)]
  · rw [List.getElem?_eq_none (by simp; omega), List.getElem?_eq_none (by omega)]
theorem waitTo_end {n : Nat} {q : Int} {d d0 val : List Int} (v : Nat) (hv : v < n) : (waitTo q d val (waitL n q d0 val) n).set v (unst q d val v) = waitL n q d val := by
  apply List.ext_getElem?
  intro i
  unfold waitTo waitL
  by_cases h12 : i < 12
  · by_cases hi : i = v
    · subst hi
      rw [List.getElem?_set_self (by simpa using h12), List.getElem?_map, List.getElem?_range h12]
      simp [hv]
    · rw [List.getElem?_set_ne (fun e => hi e.symm), List.getElem?_map, List.getElem?_map, List.getElem?_range h12]
      simp only [Option.map_some]
      by_cases h : i < n
      · rw [if_pos h, decide_eq_true h, Bool.true_and]
      · rw [if_neg h, decide_eq_false h, Bool.false_and, List.getD_eq_getElem?_getD, List.getElem?_map, List.getElem?_range h12]
        simp [h]
  · rw [List.getElem?_eq_none (by simp; omega), List.getElem?_eq_none (by simp; omega)]
theorem mul_bd {k x : Int} (h0 : 0 ≤ k) (h1 : k ≤ 67108864) (h2 : 0 ≤ x) (h3 : x ≤ 1048576) : 0 ≤ k * x ∧ k * x ≤ 70368744177664 :=
  ⟨Int.mul_nonneg h0 h2, by have := Int.mul_le_mul h1 h3 h2 (by omega); omega⟩

set_option maxRecDepth 100000 in
set_option maxHeartbeats 8000000 in
theorem pfire_any (base bp n : Nat) (hn : n ≤ 12) (a : PA) (d : List Int) (q : Int) (rows : List (List Int)) (val fired : List Int) (total : Int) (v : Nat) (hv : v < n) (k : Int) (hk0 : 0 ≤ k) (hk1 : k ≤ 67108864)
    (hd : ∀ x ∈ d, -70368744177664 ≤ x ∧ x ≤ 70368744177664) (hval : ValBd n 1048576 val) (hrows : TabBd n 1048576 rows) (hf : ∀ x ∈ fired, -70368744177664 ≤ x ∧ x ≤ 70368744177664) (ht : -70368744177664 ≤ total ∧ total ≤ 70368744177664) (w : World) (h : PileW w base bp n a d q rows val fired total (waitL n q d val)) :
    Calls Tryz.prog 146 #[.pointer (some ⟨bp, 0, none⟩), .int .i64 v, .int .i64 k] w fun e w' => (∃ x, e = .returned x) ∧ PileW w' base bp n a (fireTo rows val d n v k n) q rows val (fired.set v (fired.getD v 0 + k)) (total + k) (waitL n q (fireTo rows val d n v k n) val) ∧ Only (PB a bp) w w' := by
  obtain ⟨bd, cd, bv, bf, A, cr, gs⟩ := a
  have hgl : gs.length = n := by have := h.grid.len; have := hrows.1; dsimp only at *; omega
  obtain ⟨g, hg⟩ := get_of_lt (xs := gs) (k := v) (by omega)
  obtain ⟨bo, oo, hA, _⟩ := h.grid.cell hg
  dsimp only at hA
  subst hA
  obtain ⟨x, hx⟩ := get_of_lt (xs := d) (k := v) (by have := h.dl; omega)
  obtain ⟨y, hy⟩ := get_of_lt (xs := val) (k := v) (by have := h.vl; omega)
  obtain ⟨r, hr⟩ := get_of_lt (xs := rows) (k := v) (by rw [hrows.1]; exact hv)
  obtain ⟨fv, hfv⟩ := get_of_lt (xs := fired) (k := v) (by have := h.fl; omega)
  have hxb := hd x (List.mem_of_getElem? hx)
  have hyb := hval.2 y (List.mem_of_getElem? hy)
  have hfb := hf fv (List.mem_of_getElem? hfv)
  obtain ⟨hrl, hrb⟩ := hrows.2 r (List.mem_of_getElem? hr)
  have hp1 := mul_bd hk0 hk1 hyb.1 hyb.2
  have hw1 : IntKind.i64.wrap (k * y) = k * y := IntWalk.i64_in _ (by omega)
  have hw2 : IntKind.i64.wrap (x - k * y) = x - k * y := IntWalk.i64_in _ (by omega)
  have hw3 : IntKind.i64.wrap (fv + k) = fv + k := IntWalk.i64_in _ (by omega)
  have hw4 : IntKind.i64.wrap (total + k) = total + k := IntWalk.i64_in _ (by omega)
  have hD0 := fireTo_zero (rows := rows) (k := k) h.dl hx hy
  obtain ⟨D, hDD⟩ : ∃ D, fireTo rows val d n v k n = D := ⟨_, rfl⟩
  obtain ⟨F, hFF⟩ : ∃ F : Nat → List Int, (fun m => fireTo rows val d n v k m) = F := ⟨_, rfl⟩
  have hFm : ∀ m, fireTo rows val d n v k m = F m := fun m => by rw [← hFF]
  have HFD : Hid (F n = D) := by rw [← hDD, ← hFF]; rfl
  have HFB : Hid (∀ m z, m < n → (F m)[m]? = some z → -140737488355328 ≤ z ∧ z ≤ 140737488355328) := by
    intro m z hm hz
    rw [← hFm, fireTo_get hm] at hz
    injection hz with hz
    simp only [Nat.lt_irrefl, if_false, Int.add_zero, getD_at hy] at hz
    obtain ⟨z0, hz0⟩ := get_of_lt (xs := d) (k := m) (by have := h.dl; omega)
    have := hd z0 (List.mem_of_getElem? hz0)
    rw [getD_at hz0] at hz
    split at hz <;> omega
  have HFS : Hid (∀ m z u, m < n → r[m]? = some u → (F m)[m]? = some z → (F m).set m (z + k * u) = F (m + 1)) := by
    intro m z u hm hu hz
    rw [← hFm] at hz ⊢
    rw [← hFm]
    exact fireTo_succ hm hr hu hz
  have HFN : Hid (∀ m, m < n → (F (m + 1)).getD m 0 = D.getD m 0) := by
    intro m hm
    rw [← hFm, ← hDD, List.getD_eq_getElem?_getD, List.getD_eq_getElem?_getD, fireTo_get hm, fireTo_get hm]
    have e1 : m < m + 1 := Nat.lt_succ_self m
    simp only [e1, hm, if_true]
  have HFL : Hid (∀ m, (F m).length = n) := fun m => by rw [← hFm]; exact fireTo_length
  rw [hFm] at hD0
  rw [hDD, getD_at hfv]
  have hk0i : (v : Int) < (n : Int) := by omega
  have e0 := h.c0
  have e3 := h.c3
  have ed := h.cd hx
  have ev := h.cv hy
  have fd := h.fd v
  have h1 := h.drew.setD hv (x - k * y)
  dsimp only at e0 e3 ed ev fd h1
  rw [hD0] at h1
  have H1 := Lib.hid h1
  have HO1 : Hid (Only (PB ⟨bd, cd, bv, bf, some ⟨bo, oo, none⟩, cr, gs⟩ bp) w (w.drew.setCell ⟨bd, v, none⟩ (.int .i64 (x - k * y)))) := ((Only.refl _ w).drew).setCell (p := ⟨bd, v, none⟩) (.inl (.inr (.inl rfl))) _
  have HRB := Lib.hid hrb
  have HRL := Lib.hid hrl
  have HR := Lib.hid hr
  have HG := Lib.hid hg
  have HX := Lib.hid hfv
  clear h1 h hx hy hr hg hd hval hrows hf hrb hrl hD0 hDD hFF hFm hfv hp1
  go_enter Tryz.func146, Tryz.ntmps146
  go_upto_region 0 with fail
  go_cut [] from 8 (fun wx => Hid (PileW wx base bp n ⟨bd, cd, bv, bf, some ⟨bo, oo, none⟩, cr, gs⟩ (F 0) q rows val fired total (waitL n q d val)) ∧ Hid (Only (PB ⟨bd, cd, bv, bf, some ⟨bo, oo, none⟩, cr, gs⟩ bp) w wx))
  case first =>
    go_region_with (fail)
    all_goals
      go_wp2
      go_meet
      exact ⟨H1, HO1⟩
  case rest =>
    obtain ⟨HP, HO⟩ := hcut
    have HE0 : Hid (waitL n q d val = waitTo q D val (waitL n q d val) 0) := (waitTo_zero HP.out.wl).symm
    obtain ⟨ws, hws⟩ : ∃ ws, waitL n q d val = ws := ⟨_, rfl⟩
    have HWS := Lib.hid hws
    rw [hws] at HE0 HP
    have e2 := HP.out.c2
    have eo := HP.out.co HG.out
    dsimp only at e2 eo
    clear H1 HO1 e0 e3 ed ev fd hws
    have hgl2 : (v : Int) < (gs.length : Int) := by omega
    go_wp2_with fail
    go_loopw [6, 7, 34] (fun _ _ i wl => ∃ m : Nat, i = .int .i64 m ∧ m ≤ n ∧ Hid (PileW wl base bp n ⟨bd, cd, bv, bf, some ⟨bo, oo, none⟩, cr, gs⟩ (F m) q rows val fired total (waitTo q D val ws m)) ∧ Hid (Only (PB ⟨bd, cd, bv, bf, some ⟨bo, oo, none⟩, cr, gs⟩ bp) w wl)) (fun _ _ i _ => n - (intOf i).toNat)
    case atStart => exact ⟨0, rfl, by omega, by rw [← HE0.out]; exact HP, HO⟩
    case round =>
      obtain ⟨m, rfl, hm, HPm, HOm⟩ := hrel
      clear e2 eo
      by_cases hlt : m < n
      · have hi : (m : Int) < (n : Int) := by omega
        obtain ⟨u, hu⟩ := get_of_lt (xs := r) (k := m) (by rw [HRL.out]; exact hlt)
        obtain ⟨z, hz⟩ := get_of_lt (xs := F m) (k := m) (by rw [HFL.out]; exact hlt)
        have hub := HRB.out u (List.mem_of_getElem? hu)
        have hzb := HFB.out m z hlt hz
        have hpb := mul_bd hk0 hk1 hub.1 hub.2
        have hw5 : IntKind.i64.wrap (k * u) = k * u := IntWalk.i64_in _ (by omega)
        have hw6 : IntKind.i64.wrap (z + k * u) = z + k * u := IntWalk.i64_in _ (by omega)
        have cr0 := (HPm.out.crow HG.out HR.out hu).1
        have e0 := HPm.out.c0
        have ed := HPm.out.cd hz
        have fd := HPm.out.fd m
        have P2 := HPm.out.setD hlt (z + k * u)
        have hst := HFS.out m z u hlt hu hz
        dsimp only at e0 ed fd P2
        rw [hst] at P2
        have O2 := HOm.out.setCell (p := ⟨bd, m, none⟩) (.inl (.inr (.inl rfl))) (.int .i64 (z + k * u))
        have HW := Lib.hid (wait_any base bp n hn _ _ q rows val fired total _ m hlt _ P2)
        have HO2 := Lib.hid O2
        clear hst P2 O2 hu hz hpb hzb hub
        go_wp2_with (go_at_call 116; refine (HW.out).mono ?_; rintro e w5 ⟨⟨x5, rfl⟩, P5, O5⟩; rw [waitTo_succ (by omega) (HFN.out m hlt)] at P5; have HP5 := Lib.hid P5; have HO5 := Lib.hid (HO2.out.trans (O5.mono (D := PB ⟨bd, cd, bv, bf, some ⟨bo, oo, none⟩, cr, gs⟩ bp) fun k _ hk => .inl hk)); clear P5 O5)
        go_roundw
        case rel => exact ⟨m + 1, by go_num, by omega, HP5, HO5⟩
        case measure => simp [intOf]; omega
      · obtain rfl : m = n := by omega
        have hPm := HPm.out
        rw [HFD.out] at hPm
        have HW := Lib.hid (wait_any base bp m hn _ _ q rows val fired total _ v hv _ hPm)
        clear hPm
        go_wp2_with fail
        refine (HW.out).mono ?_
        rintro e w5 ⟨⟨x5, rfl⟩, P5, O5⟩
        rw [← HWS.out, waitTo_end v hv] at P5
        have O5' := HOm.out.trans (O5.mono (D := PB ⟨bd, cd, bv, bf, some ⟨bo, oo, none⟩, cr, gs⟩ bp) fun k _ hk => .inl hk)
        have e4 := P5.c4
        have ef := P5.cf HX.out
        have ff := P5.ff.frozen v
        have P6 := P5.setF v (fv + k)
        have e5 := P6.c5
        have f5 := P6.blk.frozen 5
        have P7 := P6.setT (total + k)
        have O7 := (O5'.setCell (p := ⟨bf, v, none⟩) (.inl (.inr (.inr (.inr (.inl rfl))))) (.int .i64 (fv + k))).setCell (p := ⟨bp, 5, none⟩) (.inl (.inl rfl)) (.int .i64 (total + k))
        have HP7 := Lib.hid P7
        have HO7 := Lib.hid O7
        dsimp only at e4 ef ff e5
        clear P5 O5 O5' P6 P7 O7
        go_wp2
        exact bodyPost_end (results_none rfl _ _ _) rfl ⟨⟨_, rfl⟩, HP7.out, HO7.out⟩
end Go.Proofs.YtplgbapbgcipdaaGreat

/-! Plain: stabilization firing by firing, for the reference's walk. No program is in sight. -/
namespace Go.Proofs.YtplgbapbgcipdaaGreat

def valsL (n : Nat) (es : List (Int × Int × Int)) : List Int := (List.range n).map fun v : Nat => valE es v
theorem valsL_succ (n : Nat) (es : List (Int × Int × Int)) : valsL (n + 1) es = valsL n es ++ [valE es n] := by simp [valsL, List.range_succ]
theorem valsL_length (n : Nat) (es : List (Int × Int × Int)) : (valsL n es).length = n := by simp [valsL]
theorem valsL_at {n v : Nat} (es : List (Int × Int × Int)) (hv : v < n) : (valsL n es)[v]? = some (valE es v) := by simp [valsL, hv]
/-- One firing, as far as k. -/
def rfireTo (es : List (Int × Int × Int)) (n : Nat) (x : List Int) (v k : Nat) : List Int := (List.range n).map fun u : Nat => x.getD u 0 - (if u = v then valE es v else 0) + if u < k then tt es v u else 0
section
variable {es : List (Int × Int × Int)} {n v k : Nat} {x : List Int}
theorem rfireTo_length : (rfireTo es n x v k).length = n := by simp [rfireTo]
theorem rfireTo_at {u : Nat} (hu : u < n) : (rfireTo es n x v k)[u]? = some (x.getD u 0 - (if u = v then valE es v else 0) + if u < k then tt es v u else 0) := by
  unfold rfireTo
  rw [List.getElem?_map, List.getElem?_range hu]; rfl
theorem rfireTo_zero (hx : x.length = n) : rfireTo es n x v 0 = x.set v (x.getD v 0 - valE es v) := by
  apply List.ext_getElem?
  intro i
  by_cases hi : i < n
  · rw [rfireTo_at hi, if_neg (show ¬ i < 0 by omega), Int.add_zero]
    by_cases h : i = v
    · subst h
      rw [if_pos rfl, List.getElem?_set_self (by omega)]
    · rw [if_neg h, List.getElem?_set_ne (fun e => h e.symm), List.getD_eq_getElem?_getD, List.getElem?_eq_getElem (by omega)]
      simp
  · rw [List.getElem?_eq_none (by rw [rfireTo_length]; omega), List.getElem?_eq_none (by rw [List.length_set]; omega)]
theorem rfireTo_succ {y : Int} (hy : (rfireTo es n x v k)[k]? = some y) : rfireTo es n x v (k + 1) = (rfireTo es n x v k).set k (y + tt es v k) := by
  apply List.ext_getElem?
  intro i
  by_cases hi : i < n
  · rw [rfireTo_at hi]
    by_cases h : i = k
    · subst h
      rw [List.getElem?_set_self (by rw [rfireTo_length]; omega)]
      rw [rfireTo_at hi, if_neg (show ¬ i < i by omega)] at hy
      injection hy with hy
      rw [← hy, if_pos (show i < i + 1 by omega)]
      congr 1
      omega
    · rw [List.getElem?_set_ne (fun e => h e.symm), rfireTo_at hi]
      congr 2
      by_cases h2 : i < k
      · rw [if_pos h2, if_pos (by omega)]
      · rw [if_neg h2, if_neg (by omega)]
  · rw [List.getElem?_eq_none (by rw [rfireTo_length]; omega), List.getElem?_eq_none (by rw [List.length_set, rfireTo_length]; omega)]
theorem rfireTo_all (hG : RightG n es) : rfireTo es n x v n = fireD es n x v 1 := by
  unfold rfireTo fireD
  apply List.map_congr_left
  intro u hu
  have hu := List.mem_range.1 hu
  rw [if_pos hu]
  by_cases h : u = v
  · subst h
    rw [if_pos rfl, if_pos rfl, valE_valS hG, Int.one_mul, Int.one_mul]; omega
  · rw [if_neg h, if_neg h, Int.one_mul]; omega
theorem cntD_snoc {l : List Nat} : cntD n (l ++ [v]) = (cntD n l).set v ((cntD n l).getD v 0 + 1) := by
  apply List.ext_getElem?
  intro i
  by_cases hi : i < n
  · have e : ∀ m : List Nat, (cntD n m)[i]? = some (m.count i : Int) := fun m => by unfold cntD; rw [List.getElem?_map, List.getElem?_range hi]; rfl
    rw [e, count_snoc]
    by_cases h : i = v
    · subst h
      rw [if_pos rfl, List.getElem?_set_self (by rw [cntD_length]; omega), cntD_get hi]
    · rw [if_neg h, List.getElem?_set_ne (fun e => h e.symm), e]
      simp
  · rw [List.getElem?_eq_none (by rw [cntD_length]; omega), List.getElem?_eq_none (by rw [List.length_set, cntD_length]; omega)]
theorem cntD_nil0 : cntD n [] = List.replicate n 0 := by
  apply List.ext_getElem?
  intro i
  unfold cntD
  by_cases hi : i < n
  · simp [hi]
  · simp [hi]
end
/-! The table of joins, row by row. -/
def ttRow (n : Nat) (es : List (Int × Int × Int)) (v k : Nat) : List Int := (List.range n).map fun w : Nat => if w < k then tt es v w else 0
def ttTab (n : Nat) (es : List (Int × Int × Int)) (v k : Nat) : List (List Int) := (List.range n).map fun i : Nat => if i < v then ttRow n es i n else if i = v then ttRow n es v k else ttRow n es i 0
section
variable {es : List (Int × Int × Int)} {n v k : Nat}
theorem ttRow_length : (ttRow n es v k).length = n := by simp [ttRow]
theorem ttTab_length : (ttTab n es v k).length = n := by simp [ttTab]
theorem ttRow_at {w : Nat} (hw : w < n) : (ttRow n es v k)[w]? = some (if w < k then tt es v w else 0) := by
  unfold ttRow; rw [List.getElem?_map, List.getElem?_range hw]; rfl
theorem ttRow_zero : ttRow n es v 0 = List.replicate n 0 := by
  apply List.ext_getElem?
  intro i
  by_cases hi : i < n
  · rw [ttRow_at hi]; simp [hi]
  · rw [List.getElem?_eq_none (by rw [ttRow_length]; omega), List.getElem?_eq_none (by simp; omega)]
theorem ttTab_at {i : Nat} (hi : i < n) : (ttTab n es v k)[i]? = some (if i < v then ttRow n es i n else if i = v then ttRow n es v k else ttRow n es i 0) := by
  unfold ttTab; rw [List.getElem?_map, List.getElem?_range hi]; rfl
theorem ttTab_row (hv : v < n) : (ttTab n es v k)[v]? = some (ttRow n es v k) := by rw [ttTab_at hv, if_neg (by omega), if_pos rfl]
theorem ttTab_start : ttTab n es 0 0 = List.replicate n (List.replicate n 0) := by
  apply List.ext_getElem?
  intro i
  by_cases hi : i < n
  · rw [ttTab_at hi, if_neg (by omega)]
    have : (if i = 0 then ttRow n es 0 0 else ttRow n es i 0) = List.replicate n 0 := by split <;> exact ttRow_zero
    rw [this]; simp [hi]
  · rw [List.getElem?_eq_none (by rw [ttTab_length]; omega), List.getElem?_eq_none (by simp; omega)]
theorem ttTab_next : ttTab n es v n = ttTab n es (v + 1) 0 := by
  apply List.ext_getElem?
  intro i
  by_cases hi : i < n
  · rw [ttTab_at hi, ttTab_at hi]
    rcases Nat.lt_trichotomy i v with h | h | h
    · rw [if_pos h, if_pos (by omega)]
    · subst h; rw [if_neg (by omega), if_pos rfl, if_pos (by omega)]
    · rw [if_neg (by omega), if_neg (by omega), if_neg (by omega)]
      by_cases h2 : i = v + 1
      · rw [if_pos h2, h2]
      · rw [if_neg h2]
  · rw [List.getElem?_eq_none (by rw [ttTab_length]; omega), List.getElem?_eq_none (by rw [ttTab_length]; omega)]
theorem ttRow_succ : ttRow n es v (k + 1) = (ttRow n es v k).set k (tt es v k) := by
  apply List.ext_getElem?
  intro i
  by_cases hi : i < n
  · rw [ttRow_at hi]
    by_cases h : i = k
    · subst h
      rw [List.getElem?_set_self (by rw [ttRow_length]; omega), if_pos (by omega)]
    · rw [List.getElem?_set_ne (fun e => h e.symm), ttRow_at hi]
      by_cases h2 : i < k
      · rw [if_pos h2, if_pos (by omega)]
      · rw [if_neg h2, if_neg (by omega)]
  · rw [List.getElem?_eq_none (by rw [ttRow_length]; omega), List.getElem?_eq_none (by rw [List.length_set, ttRow_length]; omega)]
theorem ttTab_succ : ttTab n es v (k + 1) = (ttTab n es v k).set v ((ttRow n es v k).set k (tt es v k)) := by
  apply List.ext_getElem?
  intro i
  by_cases hi : i < n
  · rw [ttTab_at hi]
    by_cases h : i = v
    · subst h
      rw [List.getElem?_set_self (by rw [ttTab_length]; omega), if_neg (by omega), if_pos rfl, ttRow_succ]
    · rw [List.getElem?_set_ne (fun e => h e.symm), ttTab_at hi, if_neg h, if_neg h]
  · rw [List.getElem?_eq_none (by rw [ttTab_length]; omega), List.getElem?_eq_none (by rw [List.length_set, ttTab_length]; omega)]
theorem ttTab_self : ttTab n es v (v + 1) = ttTab n es v v := by
  have h : ttRow n es v (v + 1) = ttRow n es v v := by
    unfold ttRow
    apply List.map_congr_left
    intro i _
    rcases Nat.lt_trichotomy i v with h | h | h
    · rw [if_pos h, if_pos (by omega)]
    · subst h; rw [if_pos (by omega), if_neg (by omega)]; unfold tt; rw [if_pos rfl]
    · rw [if_neg (by omega), if_neg (by omega)]
  unfold ttTab
  rw [h]
theorem ttTab_all {i : Nat} (hi : i < n) : (ttTab n es n 0)[i]? = some (ttRow n es i n) := by rw [ttTab_at hi, if_pos hi]
theorem ttRow_all {w : Nat} (hw : w < n) : (ttRow n es v n)[w]? = some (tt es v w) := by rw [ttRow_at hw, if_pos hw]
end
end Go.Proofs.YtplgbapbgcipdaaGreat

/-! Plain: the fire of recurrent configurations is the burning of the dual one. -/
namespace Go.Proofs.YtplgbapbgcipdaaGreat
open Go.RowKit

/-- The maximal stable configuration less this one. -/
def dualL (n : Nat) (es : List E3) (cs : List Int) : List Int := (List.range n).map fun v : Nat => valE es v - 1 - cs.getD v 0
theorem dualL_get {n v : Nat} (es : List E3) (cs : List Int) (hv : v < n) : (dualL n es cs).getD v 0 = valE es v - 1 - cs.getD v 0 := by
  rw [List.getD_eq_getElem?_getD]
  simp [dualL, hv]
theorem jn_joins {n : Nat} {es : List E3} (hG : RightG n es) {l : List Nat} (hl : LOk n l) {v : Nat} (hv : v ∉ l) : jnE es l v = joinsN es v l := by
  rw [jnE_flm hG, flm_joins l hl hv]
theorem cat_dual {n : Nat} {es : List E3} (hG : RightG n es) (cs : List Int) {l : List Nat} (hl : LOk n l) {v : Nat} (hv : v < n) : catL es (dualL n es cs) l v = (!decide (v ∈ l) && catchB es cs l v) := by
  unfold catL catchB
  by_cases hm : v ∈ l
  · simp [hm]
  · rw [dualL_get es cs hv, jn_joins hG hl hm]
    congr 1
    rw [decide_eq_decide]; omega
/-- The order of the fire. -/
def recL (n : Nat) (es : List E3) (cs : List Int) (q : Nat) : List Nat := burntL es (dualL n es cs) n q
def recB (n : Nat) (es : List E3) (cs : List Int) (q : Nat) : Bool := stabTo es cs q n && decide ((recL n es cs q).length = n)
theorem lok_one {n q : Nat} (hq : q < n) : LOk n [q] := ⟨by simp, by simpa using hq⟩
theorem recL_ok {n q : Nat} {es : List E3} {cs : List Int} (hq : q < n) : LOk n (recL n es cs q) := burnL_ok n [q] (lok_one hq)
/-- When all are burnt, the fire ends. -/
theorem burn_full {n : Nat} {es : List E3} {c : List Int} {l : List Nat} (hl : LOk n l) (hn : l.length = n) : burnL es c n n l = l := by
  obtain ⟨z, hz⟩ := burnL_pre (es := es) (c := c) (n := n) n l
  have h1 := nodup_len (burnL_ok (es := es) (c := c) n l hl)
  rw [← hz, List.length_append] at h1
  have h2 : z = [] := List.length_eq_zero_iff.1 (by omega)
  rw [← hz, h2, List.append_nil]
end Go.Proofs.YtplgbapbgcipdaaGreat

/-! Package stabilize: next: the least vertex that waits. -/
namespace Go.Proofs.YtplgbapbgcipdaaGreat
open Go.RowKit

/-- The first place with true from k places on, or -1. -/
def firstT (ws : List Bool) : Int := match (List.range ws.length).find? fun v => ws.getD v false with
  | some v => v
  | none => -1
theorem firstT_some {ws : List Bool} {k : Nat} (hk : k < ws.length) (h : ws[k]? = some true) (hl : ∀ j, j < k → ws.getD j false = false) : firstT ws = k := by
  unfold firstT
  have : (List.range ws.length).find? (fun v => ws.getD v false) = some k := by
    rw [List.find?_range_eq_some]
    refine ⟨by rw [List.getD_eq_getElem?_getD, h]; rfl, by simpa using hk, fun j hj => ?_⟩
    rw [hl j hj]; rfl
  rw [this]
theorem firstT_none {ws : List Bool} (h : ∀ j, j < ws.length → ws.getD j false = false) : firstT ws = -1 := by
  unfold firstT
  have : (List.range ws.length).find? (fun v => ws.getD v false) = none := by
    rw [List.find?_eq_none]
    intro x hx
    rw [h x (List.mem_range.1 hx)]
    simp
  rw [this]
theorem firstT_cases (ws : List Bool) : (firstT ws = -1 ∧ ∀ j, j < ws.length → ws.getD j false = false) ∨ ∃ v : Nat, firstT ws = v ∧ v < ws.length ∧ ws.getD v false = true := by
  unfold firstT
  cases h : (List.range ws.length).find? fun v => ws.getD v false with
  | none =>
    refine .inl ⟨rfl, fun j hj => ?_⟩
    rw [List.find?_eq_none] at h
    have := h j (List.mem_range.2 hj)
    simpa using this
  | some v =>
    refine .inr ⟨v, rfl, ?_, ?_⟩
    · exact List.mem_range.1 (List.mem_of_find?_eq_some h)
    · have := List.find?_some h; simpa using this

set_option maxHeartbeats 2000000 in
theorem indexB_any (g o c : Nat) (ws : List Bool) (w : World) (hl : ws.length ≤ 1048576) (h : ∀ k b, ws[k]? = some b → w.cell? ⟨g, o + k, none⟩ = some (.bool b)) :
    Calls Tryz.prog 153 #[.slice (some ⟨g, o, none⟩) ws.length c, .bool true] w fun e w' => e = .returned (.int .i64 (firstT ws)) ∧ w' = w := by
  have HC := Lib.hid h
  clear h
  go_enter Tryz.func153, Tryz.ntmps153
  go_wp2_with fail
  go_loop [5, 8] (fun _ i => ∃ k : Nat, i = .int .i64 k ∧ k ≤ ws.length ∧ Hid (∀ j, j < k → ws.getD j false = false)) (fun _ i => ws.length - (intOf i).toNat)
  case atStart => exact ⟨0, rfl, by omega, fun j hj => by omega⟩
  case round =>
    obtain ⟨k, rfl, hk, HN⟩ := hrel
    by_cases hlt : k < ws.length
    · obtain ⟨b, hb⟩ := get_of_lt hlt
      have hi : (k : Int) < (ws.length : Int) := by omega
      have c0 := HC.out k b hb
      have HB := Lib.hid hb
      clear hb
      cases b
      · go_wp2
        go_round
        case rel => exact ⟨k + 1, by go_num, by omega, fun j hj => by
          by_cases e : j = k
          · subst e; rw [List.getD_eq_getElem?_getD, HB.out]; rfl
          · exact HN.out j (by omega)⟩
        case measure => simp [intOf]; omega
      · go_wp2
        go_ret
        exact ⟨ret_int (firstT_some hlt HB.out HN.out).symm, rfl⟩
    · obtain rfl : k = ws.length := by omega
      go_wp2
      go_ret
      exact ⟨ret_int (firstT_none HN.out).symm, rfl⟩

set_option maxHeartbeats 2000000 in
theorem pnext_any (base bp n : Nat) (a : PA) (d : List Int) (q : Int) (rows : List (List Int)) (val fired : List Int) (total : Int) (ws : List Bool) (w : World) (h : PileW w base bp n a d q rows val fired total ws) :
    Calls Tryz.prog 147 #[.pointer (some ⟨bp, 0, none⟩)] w fun e w' => e = .returned (.int .i64 (firstT ws)) ∧ w' = w := by
  have hwl := h.wl
  have IB := Lib.hid (indexB_any bp 6 12 ws w (by omega) (fun k b hb => (h.blk.cell (6 + k)).trans (by rw [Nat.add_comm]; simp [pileCells, hb])))
  rw [hwl] at IB
  clear h
  go_enter Tryz.func147, Tryz.ntmps147
  go_wp2_with fail
  refine (IB.out).mono ?_
  rintro e w' ⟨rfl, rfl⟩
  go_wp2
  go_ret
  exact ⟨rfl, rfl⟩
end Go.Proofs.YtplgbapbgcipdaaGreat

/-! ref18.Of, ref18.Moved, ref23.Without. -/
namespace Go.Proofs.YtplgbapbgcipdaaGreat
open Go.RowKit

theorem make_script (n : Nat) (hn : n ≤ 1048576) (W : World) : (Instr.makeSlice 36 (.int .i64 (n : Int)) (.int .i64 (n : Int))).run Tryz.prog W =
    .ok (.slice (some ⟨W.heap.size, 0, none⟩) n n) (W.alloc (.cells (ints (List.replicate n 0)).toArray 3)) := by
  obtain ⟨i0, hi, hz0, hz1, hz2⟩ := info_parts info_int
  have hr := run_make (P := Tryz.prog) W 36 3 i0 (.int .i64 0) Tryz.underlying36 hi hz0 .i64 .i64 n n (by omega) (Int.le_refl _) (by rw [hz2]; omega) (by omega)
  simp only [Int.toNat_natCast, hz1, Nat.mul_one] at hr
  rw [hr, show (Value.int .i64 0).cells = #[.int .i64 0] from rfl, made_ints]
theorem intCells_at {xs : List Int} {k : Nat} {x : Int} (h : xs[k]? = some x) : (intCells xs)[k]? = some (.int .i64 x) := intCells_get h

set_option maxHeartbeats 2000000 in
theorem without_any (A : Option Addr) (c : Nat) (cs : List Int) (hn : cs.length ≤ 1048000) (q : Nat) (hq : q < cs.length) (w : World) (h : Reads w w.heap.size 1 A cs.length (ints cs)) :
    Calls Tryz.prog 74 #[.slice A cs.length c, .int .i64 q] w fun e w' => ∃ g c', e = .returned (.slice (some ⟨g, 0, none⟩) cs.length c') ∧ OwnI w' w.heap.size (some ⟨g, 0, none⟩) c' (cs.set q 0) ∧ Below w.heap.size w w' := by
  have hown0 : (w.alloc (.cells #[] 3)).ownsRow w.heap.size 3 1 (.slice (some ⟨w.heap.size, 0, none⟩) 0 0) 0 [] := World.ownsRow_made w #[] 0 (Nat.le_refl _) (by simp [maxLen]) (by simp)
  have hr := h.alloc (Nat.le_refl _) (.cells #[] 3)
  have hqi : (q : Int) < (cs.length : Int) := by omega
  obtain ⟨x, hx⟩ := get_of_lt hq
  go_enter Tryz.func74, Tryz.ntmps74
  go_wp2_with (at_builtin; refine append_go rfl (.tmp 6) (.tmp 7) _ rfl w.heap.size 3 Tryz.underlying26 info_int rfl (by omega) (some ⟨w.heap.size, 0, none⟩) 0 0 [] rfl hown0 w.heap.size (ints cs) rfl hr (by simp [ints, Value.oneCell']) (by omega) (by simp) ?_; intro A' c' w' hown' _ hb' _
               rw [Nat.zero_add, List.nil_append] at hown'
               have ho : OwnI w' w.heap.size A' c' cs := hown'
               obtain ⟨g, rfl, hg, hf, hc⟩ := ho.block (by omega)
               have hf := hf q
               have hc := hc q x hx
               rw [Nat.zero_add])
  go_ret
  refine ⟨g, c', rfl, ?_, ?_⟩
  · have := ho.put q 0
    unfold OwnI at this ⊢
    rw [List.length_set] at this ⊢
    exact this
  · exact (((Below.refl _ _).alloc (Nat.le_refl _) _).trans hb').setCell (by simp; omega) _
end Go.Proofs.YtplgbapbgcipdaaGreat

