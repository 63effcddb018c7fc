/-
  Texts of this claim, put together: MayP, Blocks, TakeF, Kindle, SFire, TPath, Maximal, FireX, Fire, SNext.
-/
import Derived.Test.YtplgbapbgcipdaaGreatK24
import Derived.Test.YtplgbapbgcipdaaGreatK07
import Derived.Deep.RegionWith
import Derived.BigRegion
import Derived.Test.YtplgbapbgcipdaaGreatK25
import Derived.Test.YtplgbapbgcipdaaGreatK18
import Derived.Test.YtplgbapbgcipdaaGreatK13
import Derived.Stop.RegionWithIn
/-! Plain laws of sets that may fire: as the reference counts, and as the program does; Dhar's law: the unburnt vertices block, and each set that blocks is unburnt. -/
namespace Go.Proofs.YtplgbapbgcipdaaGreat
open Go.RowKit

/-! Dhar's law. -/
end Go.Proofs.YtplgbapbgcipdaaGreat

/-! Package burning: Blocks. -/
namespace Go.Proofs.YtplgbapbgcipdaaGreat
open Go.RowKit

end Go.Proofs.YtplgbapbgcipdaaGreat

/-! (*fire).take: a vertex burns; its single edges wait. -/
namespace Go.Proofs.YtplgbapbgcipdaaGreat
open Go.RowKit

end Go.Proofs.YtplgbapbgcipdaaGreat

/-! Package burning: the wood of a configuration; the vertices that are not burnt. -/
namespace Go.Proofs.YtplgbapbgcipdaaGreat
open Go.RowKit

def natI (l : List Nat) : List Int := l.map fun u : Nat => (u : Int)
theorem natI_length (l : List Nat) : (natI l).length = l.length := by simp [natI]
theorem natI_snoc (l : List Nat) (x : Nat) : natI (l ++ [x]) = natI l ++ [(x : Int)] := by simp [natI]
set_option maxHeartbeats 1000000 in
/-- slices.Clone on divisors. -/
theorem dclone_any (A : Option Addr) (c : Nat) (xs : List Int) (hn : xs.length ≤ 1048000) (w : World) (h : Reads w w.heap.size 1 A xs.length (ints xs)) :
    Calls Tryz.prog 17 #[.slice A xs.length c] w fun e w' =>
      ∃ A' c', e = .returned (.slice A' xs.length c') ∧ OwnI w' w.heap.size A' c' xs ∧ Below w.heap.size w w' := by
  have q22 : ∀ (w : World) (a : Option Addr) (n c n' c' : Nat), (binOp .eql 26 (.slice a n c) (.slice none n' c')).run Tryz.prog w = .ok (.bool a.isNone) w := fun w a n c n' c' => Lib.run_eql_slice_nil w _ _ a n c n' c' Tryz.underlying26
  rcases A with _ | ad
  · have hx : xs = [] := by
      rcases xs with _ | ⟨x, xs⟩
      · rfl
      · obtain ⟨_, _, h, _⟩ := h.2 (by simp)
        cases h
    subst hx
    go_enter Tryz.func17, Tryz.ntmps17
    go_wp2
    go_ret
    exact ⟨none, 0, rfl, OwnI.nil_ _ _, Below.refl _ _⟩
  · go_enter Tryz.func17, Tryz.ntmps17
    have hown0 : (w.alloc (.cells #[] 3)).ownsRow w.heap.size 3 1 (.slice (some ⟨w.heap.size, 0, none⟩) 0 0) 0 [] := World.ownsRow_made w #[] 0 (Nat.le_refl _) (by simp [maxLen]) (by simp)
    have hr := h.alloc (Nat.le_refl _) (.cells #[] 3)
    go_wp2_with (at_builtin; refine append_go rfl (.tmp 5) (.tmp 6) _ rfl w.heap.size 3 Tryz.underlying26 info_int rfl (by omega) (some ⟨w.heap.size, 0, none⟩) 0 0 [] rfl hown0 w.heap.size (ints xs) rfl hr (by simp [ints, Value.oneCell']) (by omega) (by simp) ?_; intro A' c' w' hown' _ hb' _)
    go_ret
    refine ⟨A', c', rfl, ?_, ((Below.refl _ _).alloc (Nat.le_refl _) _).trans hb'⟩
    rw [Nat.zero_add, List.nil_append] at hown'
    exact hown'

end Go.Proofs.YtplgbapbgcipdaaGreat

/-! Package stabilize: next, fire. -/
namespace Go.Proofs.YtplgbapbgcipdaaGreat
open Go.RowKit

/-- What firing a vertex leaves: the first m vertices have their chips. -/
def fireTo (rows : List (List Int)) (val d : List Int) (n v : Nat) (k : Int) (m : Nat) : List Int := (List.range n).map fun u => d.getD u 0 - (if u = v then k * val.getD v 0 else 0) + if u < m then k * (rows.getD v []).getD u 0 else 0
/-- Which vertices wait: the first m are looked at anew. -/
def waitTo (q : Int) (d val : List Int) (ws : List Bool) (m : Nat) : List Bool := (List.range 12).map fun u => if u < m then unst q d val u else ws.getD u false
theorem fireTo_length {rows : List (List Int)} {val d : List Int} {n v m : Nat} {k : Int} : (fireTo rows val d n v k m).length = n := by simp [fireTo]
theorem fireTo_get {rows : List (List Int)} {val d : List Int} {n v m u : Nat} {k : Int} (hu : u < n) : (fireTo rows val d n v k m)[u]? = some (d.getD u 0 - (if u = v then k * val.getD v 0 else 0) + if u < m then k * (rows.getD v []).getD u 0 else 0) := by
  unfold fireTo; rw [List.getElem?_map, List.getElem?_range hu]; rfl
theorem list_ext_n {xs ys : List Int} {n : Nat} (h1 : xs.length = n) (h2 : ys.length = n) (h : ∀ i, i < n → xs[i]? = ys[i]?) : xs = ys := by
  apply List.ext_getElem?
  intro i
  by_cases hi : i < n
  · exact h i hi
  · rw [List.getElem?_eq_none (by omega), List.getElem?_eq_none (by omega)]
theorem fireTo_zero {rows : List (List Int)} {val d : List Int} {n v : Nat} {k x y : Int} (hd : d.length = n) (hx : d[v]? = some x) (hy : val[v]? = some y) : d.set v (x - k * y) = fireTo rows val d n v k 0 := by
  have hv : v < n := by have := (List.getElem?_eq_some_iff.1 hx).1; omega
  refine list_ext_n (n := n) (by simpa using hd) fireTo_length fun i hi => ?_
  rw [fireTo_get hi]
  by_cases e : i = v
  · subst e
    rw [List.getElem?_set_self (by omega)]
    simp [hx, hy]
  · rw [List.getElem?_set_ne (fun h => e h.symm)]
    obtain ⟨z, hz⟩ := get_of_lt (xs := d) (k := i) (by omega)
    rw [hz, getD_at hz]
    simp [e]
theorem fireTo_succ {rows : List (List Int)} {val d r : List Int} {n v m : Nat} {k x u : Int} (hm : m < n) (hr : rows[v]? = some r) (hu : r[m]? = some u) (hx : (fireTo rows val d n v k m)[m]? = some x) : (fireTo rows val d n v k m).set m (x + k * u) = fireTo rows val d n v k (m + 1) := by
  have hrd : rows.getD v [] = r := by rw [List.getD_eq_getElem?_getD, hr]; rfl
  refine list_ext_n (n := n) (by simp [fireTo_length]) fireTo_length fun i hi => ?_
  rw [fireTo_get hi]
  by_cases e : i = m
  · subst e
    rw [List.getElem?_set_self (by rw [fireTo_length]; exact hi)]
    rw [fireTo_get hi] at hx
    injection hx with hx
    rw [← hx, hrd, getD_at hu]
    simp
  · rw [List.getElem?_set_ne (fun h => e h.symm), fireTo_get hi]
    congr 2
    by_cases h : i < m
    · rw [if_pos h, if_pos (by omega)]
    · rw [if_neg h, if_neg (by omega)]
theorem unst_congr {q : Int} {d d' val : List Int} {v : Nat} (h : d.getD v 0 = d'.getD v 0) : unst q d val v = unst q d' val v := by unfold unst; rw [h]
theorem waitTo_succ {q : Int} {d d' val : List Int} {ws : List Bool} {m : Nat} (hm : m < 12) (h : d.getD m 0 = d'.getD m 0) : (waitTo q d' val ws m).set m (unst q d val m) = waitTo q d' val ws (m + 1) := by
  apply List.ext_getElem?
  intro i
  unfold waitTo
  by_cases hi : i = m
  · subst hi
    rw [List.getElem?_set_self (by simpa using hm)]
    simp [hm, unst_congr h]
  · rw [List.getElem?_set_ne (fun e => hi e.symm), List.getElem?_map, List.getElem?_map]
    by_cases h12 : i < 12
    · rw [List.getElem?_range h12]
      simp only [Option.map_some]
      by_cases h2 : i < m
      · rw [if_pos h2, if_pos (by omega)]
      · rw [if_neg h2, if_neg (by omega)]
    · rw [List.getElem?_eq_none (by simp; omega)]; rfl
theorem waitTo_zero {q : Int} {d val : List Int} {ws : List Bool} (h : ws.length = 12) : waitTo q d val ws 0 = ws := by
  apply List.ext_getElem?
  intro i
  unfold waitTo
  by_cases h12 : i < 12
  · rw [List.getElem?_map, List.getElem?_range h12, List.getElem?_eq_getElem (by omega)]
    simp [List.getD_eq_getElem?_getD, List.getElem?_eq_getElem (show i < ws.length by omega)]
  · rw [List.getElem?_eq_none (by simp; omega), List.getElem?_eq_none (by omega)]
theorem waitTo_end {n : Nat} {q : Int} {d d0 val : List Int} (v : Nat) (hv : v < n) : (waitTo q d val (waitL n q d0 val) n).set v (unst q d val v) = waitL n q d val := by
  apply List.ext_getElem?
  intro i
  unfold waitTo waitL
  by_cases h12 : i < 12
  · by_cases hi : i = v
    · subst hi
      rw [List.getElem?_set_self (by simpa using h12), List.getElem?_map, List.getElem?_range h12]
      simp [hv]
    · rw [List.getElem?_set_ne (fun e => hi e.symm), List.getElem?_map, List.getElem?_map, List.getElem?_range h12]
      simp only [Option.map_some]
      by_cases h : i < n
      · rw [if_pos h, decide_eq_true h, Bool.true_and]
      · rw [if_neg h, decide_eq_false h, Bool.false_and, List.getD_eq_getElem?_getD, List.getElem?_map, List.getElem?_range h12]
        simp [h]
  · rw [List.getElem?_eq_none (by simp; omega), List.getElem?_eq_none (by simp; omega)]
theorem mul_bd {k x : Int} (h0 : 0 ≤ k) (h1 : k ≤ 67108864) (h2 : 0 ≤ x) (h3 : x ≤ 1048576) : 0 ≤ k * x ∧ k * x ≤ 70368744177664 :=
  ⟨Int.mul_nonneg h0 h2, by have := Int.mul_le_mul h1 h3 h2 (by omega); omega⟩

set_option maxRecDepth 100000 in
set_option maxHeartbeats 8000000 in
theorem pfire_any (base bp n : Nat) (hn : n ≤ 12) (a : PA) (d : List Int) (q : Int) (rows : List (List Int)) (val fired : List Int) (total : Int) (v : Nat) (hv : v < n) (k : Int) (hk0 : 0 ≤ k) (hk1 : k ≤ 67108864)
    (hd : ∀ x ∈ d, -70368744177664 ≤ x ∧ x ≤ 70368744177664) (hval : ValBd n 1048576 val) (hrows : TabBd n 1048576 rows) (hf : ∀ x ∈ fired, -70368744177664 ≤ x ∧ x ≤ 70368744177664) (ht : -70368744177664 ≤ total ∧ total ≤ 70368744177664) (w : World) (h : PileW w base bp n a d q rows val fired total (waitL n q d val)) :
    Calls Tryz.prog 146 #[.pointer (some ⟨bp, 0, none⟩), .int .i64 v, .int .i64 k] w fun e w' => (∃ x, e = .returned x) ∧ PileW w' base bp n a (fireTo rows val d n v k n) q rows val (fired.set v (fired.getD v 0 + k)) (total + k) (waitL n q (fireTo rows val d n v k n) val) ∧ Only (PB a bp) w w' := by
  obtain ⟨bd, cd, bv, bf, A, cr, gs⟩ := a
  have hgl : gs.length = n := by have := h.grid.len; have := hrows.1; dsimp only at *; omega
  obtain ⟨g, hg⟩ := get_of_lt (xs := gs) (k := v) (by omega)
  obtain ⟨bo, oo, hA, _⟩ := h.grid.cell hg
  dsimp only at hA
  subst hA
  obtain ⟨x, hx⟩ := get_of_lt (xs := d) (k := v) (by have := h.dl; omega)
  obtain ⟨y, hy⟩ := get_of_lt (xs := val) (k := v) (by have := h.vl; omega)
  obtain ⟨r, hr⟩ := get_of_lt (xs := rows) (k := v) (by rw [hrows.1]; exact hv)
  obtain ⟨fv, hfv⟩ := get_of_lt (xs := fired) (k := v) (by have := h.fl; omega)
  have hxb := hd x (List.mem_of_getElem? hx)
  have hyb := hval.2 y (List.mem_of_getElem? hy)
  have hfb := hf fv (List.mem_of_getElem? hfv)
  obtain ⟨hrl, hrb⟩ := hrows.2 r (List.mem_of_getElem? hr)
  have hp1 := mul_bd hk0 hk1 hyb.1 hyb.2
  have hw1 : IntKind.i64.wrap (k * y) = k * y := IntWalk.i64_in _ (by omega)
  have hw2 : IntKind.i64.wrap (x - k * y) = x - k * y := IntWalk.i64_in _ (by omega)
  have hw3 : IntKind.i64.wrap (fv + k) = fv + k := IntWalk.i64_in _ (by omega)
  have hw4 : IntKind.i64.wrap (total + k) = total + k := IntWalk.i64_in _ (by omega)
  have hD0 := fireTo_zero (rows := rows) (k := k) h.dl hx hy
  obtain ⟨D, hDD⟩ : ∃ D, fireTo rows val d n v k n = D := ⟨_, rfl⟩
  obtain ⟨F, hFF⟩ : ∃ F : Nat → List Int, (fun m => fireTo rows val d n v k m) = F := ⟨_, rfl⟩
  have hFm : ∀ m, fireTo rows val d n v k m = F m := fun m => by rw [← hFF]
  have HFD : Hid (F n = D) := by rw [← hDD, ← hFF]; rfl
  have HFB : Hid (∀ m z, m < n → (F m)[m]? = some z → -140737488355328 ≤ z ∧ z ≤ 140737488355328) := by
    intro m z hm hz
    rw [← hFm, fireTo_get hm] at hz
    injection hz with hz
    simp only [Nat.lt_irrefl, if_false, Int.add_zero, getD_at hy] at hz
    obtain ⟨z0, hz0⟩ := get_of_lt (xs := d) (k := m) (by have := h.dl; omega)
    have := hd z0 (List.mem_of_getElem? hz0)
    rw [getD_at hz0] at hz
    split at hz <;> omega
  have HFS : Hid (∀ m z u, m < n → r[m]? = some u → (F m)[m]? = some z → (F m).set m (z + k * u) = F (m + 1)) := by
    intro m z u hm hu hz
    rw [← hFm] at hz ⊢
    rw [← hFm]
    exact fireTo_succ hm hr hu hz
  have HFN : Hid (∀ m, m < n → (F (m + 1)).getD m 0 = D.getD m 0) := by
    intro m hm
    rw [← hFm, ← hDD, List.getD_eq_getElem?_getD, List.getD_eq_getElem?_getD, fireTo_get hm, fireTo_get hm]
    have e1 : m < m + 1 := Nat.lt_succ_self m
    simp only [e1, hm, if_true]
  have HFL : Hid (∀ m, (F m).length = n) := fun m => by rw [← hFm]; exact fireTo_length
  rw [hFm] at hD0
  rw [hDD, getD_at hfv]
  have hk0i : (v : Int) < (n : Int) := by omega
  have e0 := h.c0
  have e3 := h.c3
  have ed := h.cd hx
  have ev := h.cv hy
  have fd := h.fd v
  have h1 := h.drew.setD hv (x - k * y)
  dsimp only at e0 e3 ed ev fd h1
  rw [hD0] at h1
  have H1 := Lib.hid h1
  have HO1 : Hid (Only (PB ⟨bd, cd, bv, bf, some ⟨bo, oo, none⟩, cr, gs⟩ bp) w (w.drew.setCell ⟨bd, v, none⟩ (.int .i64 (x - k * y)))) := ((Only.refl _ w).drew).setCell (p := ⟨bd, v, none⟩) (.inl (.inr (.inl rfl))) _
  have HRB := Lib.hid hrb
  have HRL := Lib.hid hrl
  have HR := Lib.hid hr
  have HG := Lib.hid hg
  have HX := Lib.hid hfv
  clear h1 h hx hy hr hg hd hval hrows hf hrb hrl hD0 hDD hFF hFm hfv hp1
  go_enter Tryz.func146, Tryz.ntmps146
  go_upto_region 0 with fail
  go_cut [] from 8 (fun wx => Hid (PileW wx base bp n ⟨bd, cd, bv, bf, some ⟨bo, oo, none⟩, cr, gs⟩ (F 0) q rows val fired total (waitL n q d val)) ∧ Hid (Only (PB ⟨bd, cd, bv, bf, some ⟨bo, oo, none⟩, cr, gs⟩ bp) w wx))
  case first =>
    go_region_with (fail)
    all_goals
      go_wp2
      go_meet
      exact ⟨H1, HO1⟩
  case rest =>
    obtain ⟨HP, HO⟩ := hcut
    have HE0 : Hid (waitL n q d val = waitTo q D val (waitL n q d val) 0) := (waitTo_zero HP.out.wl).symm
    obtain ⟨ws, hws⟩ : ∃ ws, waitL n q d val = ws := ⟨_, rfl⟩
    have HWS := Lib.hid hws
    rw [hws] at HE0 HP
    have e2 := HP.out.c2
    have eo := HP.out.co HG.out
    dsimp only at e2 eo
    clear H1 HO1 e0 e3 ed ev fd hws
    have hgl2 : (v : Int) < (gs.length : Int) := by omega
    go_wp2_with fail
    go_loopw [6, 7, 34] (fun _ _ i wl => ∃ m : Nat, i = .int .i64 m ∧ m ≤ n ∧ Hid (PileW wl base bp n ⟨bd, cd, bv, bf, some ⟨bo, oo, none⟩, cr, gs⟩ (F m) q rows val fired total (waitTo q D val ws m)) ∧ Hid (Only (PB ⟨bd, cd, bv, bf, some ⟨bo, oo, none⟩, cr, gs⟩ bp) w wl)) (fun _ _ i _ => n - (intOf i).toNat)
    case atStart => exact ⟨0, rfl, by omega, by rw [← HE0.out]; exact HP, HO⟩
    case round =>
      obtain ⟨m, rfl, hm, HPm, HOm⟩ := hrel
      clear e2 eo
      by_cases hlt : m < n
      · have hi : (m : Int) < (n : Int) := by omega
        obtain ⟨u, hu⟩ := get_of_lt (xs := r) (k := m) (by rw [HRL.out]; exact hlt)
        obtain ⟨z, hz⟩ := get_of_lt (xs := F m) (k := m) (by rw [HFL.out]; exact hlt)
        have hub := HRB.out u (List.mem_of_getElem? hu)
        have hzb := HFB.out m z hlt hz
        have hpb := mul_bd hk0 hk1 hub.1 hub.2
        have hw5 : IntKind.i64.wrap (k * u) = k * u := IntWalk.i64_in _ (by omega)
        have hw6 : IntKind.i64.wrap (z + k * u) = z + k * u := IntWalk.i64_in _ (by omega)
        have cr0 := (HPm.out.crow HG.out HR.out hu).1
        have e0 := HPm.out.c0
        have ed := HPm.out.cd hz
        have fd := HPm.out.fd m
        have P2 := HPm.out.setD hlt (z + k * u)
        have hst := HFS.out m z u hlt hu hz
        dsimp only at e0 ed fd P2
        rw [hst] at P2
        have O2 := HOm.out.setCell (p := ⟨bd, m, none⟩) (.inl (.inr (.inl rfl))) (.int .i64 (z + k * u))
        have HW := Lib.hid (wait_any base bp n hn _ _ q rows val fired total _ m hlt _ P2)
        have HO2 := Lib.hid O2
        clear hst P2 O2 hu hz hpb hzb hub
        go_wp2_with (go_at_call 116; refine (HW.out).mono ?_; rintro e w5 ⟨⟨x5, rfl⟩, P5, O5⟩; rw [waitTo_succ (by omega) (HFN.out m hlt)] at P5; have HP5 := Lib.hid P5; have HO5 := Lib.hid (HO2.out.trans (O5.mono (D := PB ⟨bd, cd, bv, bf, some ⟨bo, oo, none⟩, cr, gs⟩ bp) fun k _ hk => .inl hk)); clear P5 O5)
        go_roundw
        case rel => exact ⟨m + 1, by go_num, by omega, HP5, HO5⟩
        case measure => simp [intOf]; omega
      · obtain rfl : m = n := by omega
        have hPm := HPm.out
        rw [HFD.out] at hPm
        have HW := Lib.hid (wait_any base bp m hn _ _ q rows val fired total _ v hv _ hPm)
        clear hPm
        go_wp2_with fail
        refine (HW.out).mono ?_
        rintro e w5 ⟨⟨x5, rfl⟩, P5, O5⟩
        rw [← HWS.out, waitTo_end v hv] at P5
        have O5' := HOm.out.trans (O5.mono (D := PB ⟨bd, cd, bv, bf, some ⟨bo, oo, none⟩, cr, gs⟩ bp) fun k _ hk => .inl hk)
        have e4 := P5.c4
        have ef := P5.cf HX.out
        have ff := P5.ff.frozen v
        have P6 := P5.setF v (fv + k)
        have e5 := P6.c5
        have f5 := P6.blk.frozen 5
        have P7 := P6.setT (total + k)
        have O7 := (O5'.setCell (p := ⟨bf, v, none⟩) (.inl (.inr (.inr (.inr (.inl rfl))))) (.int .i64 (fv + k))).setCell (p := ⟨bp, 5, none⟩) (.inl (.inl rfl)) (.int .i64 (total + k))
        have HP7 := Lib.hid P7
        have HO7 := Lib.hid O7
        dsimp only at e4 ef ff e5
        clear P5 O5 O5' P6 P7 O7
        go_wp2
        exact bodyPost_end (results_none rfl _ _ _) rfl ⟨⟨_, rfl⟩, HP7.out, HO7.out⟩
end Go.Proofs.YtplgbapbgcipdaaGreat

/-! Package tree: vertex, Path, Parents. -/
namespace Go.Proofs.YtplgbapbgcipdaaGreat
open Go.RowKit

/-- What a right tree brings. -/
structure TreeR (m : Nat) (es : List E3) (t : List Nat) : Prop where
  hG : RightG m es
  hT : FoE m (endsL es) t
  tr : IsTr m (endsL es) t
  lo : 1 ≤ m
  hi : m ≤ 12
theorem TreeR.len {m : Nat} {es : List E3} {t : List Nat} (h : TreeR m es t) : t.length ≤ 12 := by have := h.tr.len; have := h.hi; omega
/-! Parents. -/
end Go.Proofs.YtplgbapbgcipdaaGreat

/-! stabilize.Maximal: the maximal stable configuration. -/
namespace Go.Proofs.YtplgbapbgcipdaaGreat
open Go.RowKit

theorem make_div (n : Nat) (hn : n ≤ 1048576) (W : World) : (Instr.makeSlice 26 (.int .i64 (n : Int)) (.int .i64 (n : Int))).run Tryz.prog W =
    .ok (.slice (some ⟨W.heap.size, 0, none⟩) n n) (W.alloc (.cells (ints (List.replicate n 0)).toArray 3)) := by
  obtain ⟨i0, hi, hz0, hz1, hz2⟩ := info_parts info_int
  have hr := run_make (P := Tryz.prog) W 26 3 i0 (.int .i64 0) Tryz.underlying26 hi hz0 .i64 .i64 n n (by omega) (Int.le_refl _) (by rw [hz2]; omega) (by omega)
  simp only [Int.toNat_natCast, hz1, Nat.mul_one] at hr
  rw [hr, show (Value.int .i64 0).cells = #[.int .i64 0] from rfl, made_ints]
/-- The maximal stable configuration, as far as k. -/
def maxTo (n : Nat) (val : List Int) (q : Nat) (k : Nat) : List Int := (List.range n).map fun v => if v < k ∧ v ≠ q then val.getD v 0 - 1 else 0
def maxL (n : Nat) (es : List E3) (q : Nat) : List Int := maxTo n (valL n (endsL es)) q n
theorem maxTo_zero (n : Nat) (val : List Int) (q : Nat) : maxTo n val q 0 = List.replicate n 0 := by
  apply List.ext_getElem?
  intro i
  unfold maxTo
  by_cases hi : i < n
  · simp [hi]
  · simp [hi]
theorem maxTo_length (n : Nat) (val : List Int) (q k : Nat) : (maxTo n val q k).length = n := by simp [maxTo]
theorem maxTo_sink (n : Nat) (val : List Int) (q : Nat) : maxTo n val q (q + 1) = maxTo n val q q := by
  unfold maxTo
  apply List.map_congr_left
  intro v _
  by_cases h1 : v < q
  · rw [if_pos ⟨by omega, by omega⟩, if_pos ⟨h1, by omega⟩]
  · rw [if_neg (by omega), if_neg (by omega)]
theorem maxTo_succ (n : Nat) (val : List Int) (q k : Nat) (hk : k ≠ q) (x : Int) (hx : val[k]? = some x) : maxTo n val q (k + 1) = (maxTo n val q k).set k (x - 1) := by
  apply List.ext_getElem?
  intro i
  unfold maxTo
  by_cases hi : i < n
  · by_cases h : i = k
    · subst h
      rw [List.getElem?_set_self (by simpa using hi)]
      simp [hi, hk, hx]
    · rw [List.getElem?_set_ne (fun e => h e.symm)]
      simp only [List.getElem?_map, List.getElem?_range hi, Option.map_some]
      by_cases h2 : i < k ∧ i ≠ q
      · rw [if_pos h2, if_pos ⟨by omega, h2.2⟩]
      · rw [if_neg h2, if_neg (by omega)]
  · rw [List.getElem?_eq_none (by simp; omega), List.getElem?_eq_none (by simp; omega)]

set_option maxRecDepth 100000 in
set_option maxHeartbeats 4000000 in
theorem maximal_bad (n : Int) (A : Option Addr) (c : Nat) (es : List E3) (hlen : es.length ≤ 10000) (q : Int) (x : Int) (hx : rootErr n es q = x) (hx0 : (x == 0) = false) (w : World) (h : Reads w w.heap.size 3 A es.length (edgeCells es)) :
    Calls Tryz.prog 47 #[.agg #[.int .i64 n, .slice A es.length c], .int .i64 q] w fun e w' => e = .returned (.tuple #[.slice none 0 0, .int .i64 x]) ∧ Below w.heap.size w w' := by
  have RT := rooted_any n A c es (by omega) q
  rw [hx] at RT
  have RT := Lib.hid RT
  have g0 := Blk.new w 24 #[.int .i64 n, .slice A es.length c]
  have c0 := g0.cell 0
  have c1 := g0.cell 1
  have hx1 : (x != 0) = true := by simpa [bne] using hx0
  clear hx
  go_enter Tryz.func47, Tryz.ntmps47
  go_wp2_with fail
  refine (RT.out _ ((h.alloc (Nat.le_refl _) _).more (by simp))).mono ?_
  rintro e w1 ⟨rfl, hb1⟩
  have hB1 : Below w.heap.size w w1 := ((Below.refl _ _).alloc (Nat.le_refl _) _).trans (hb1.mono (by simp))
  go_wp2
  go_ret2
  exact ⟨rfl, hB1⟩

set_option maxRecDepth 100000 in
set_option maxHeartbeats 8000000 in
theorem maximal_ok (n : Nat) (A : Option Addr) (c : Nat) (es : List E3) (hlen : es.length ≤ 10000) (q : Nat) (hx : rootErr n es q = 0) (w : World) (h : Reads w w.heap.size 3 A es.length (edgeCells es)) :
    Calls Tryz.prog 47 #[.agg #[.int .i64 n, .slice A es.length c], .int .i64 q] w fun e w' => ∃ Am cm, e = .returned (.tuple #[.slice Am n cm, .int .i64 0]) ∧ OwnI w' w.heap.size Am cm (maxL n es q) ∧ Below w.heap.size w w' := by
  have RT := rooted_any n A c es (by omega) q
  rw [hx] at RT
  have RT := Lib.hid RT
  have hz : checkG n es = 0 ∧ q < n := by
    rcases root_cases n es q with ⟨h1, h2⟩ | ⟨_, _, h2⟩ | ⟨_, _, _, h2⟩ | ⟨h1, _, h2, _⟩
    · rw [hx] at h2; exact absurd h2.symm h1
    · rw [hx] at h2; cases h2
    · rw [hx] at h2; cases h2
    · exact ⟨h1, by have := vertB_true.1 h2; omega⟩
  obtain ⟨hz, hq⟩ := hz
  have hR := right_of hz
  have hn : n ≤ 12 := by have := hR.hi; omega
  have hn0 : 1 ≤ n := by have := hR.lo; omega
  have g0 := Blk.new w 24 #[.int .i64 n, .slice A es.length c]
  have c0 := g0.cell 0
  have c1 := g0.cell 1
  have hmi := make_ints n (by omega)
  have hmd := make_div n (by omega)
  have hel := endsL_length hR.ok
  have PO := pileOf_any n hn hn0 A c es hlen hz hR.ok q
  have PO := Lib.hid (fun (B : Option Addr) (cB : Nat) => PO B cB (List.replicate n 0) (by simp))
  simp only [List.length_replicate] at PO
  clear hx hR hz
  go_enter Tryz.func47, Tryz.ntmps47
  go_wp2_with fail
  refine (RT.out _ ((h.alloc (Nat.le_refl _) _).more (by simp))).mono ?_
  rintro e w1 ⟨rfl, hb1⟩
  have hB1 : Below w.heap.size w w1 := ((Below.refl _ _).alloc (Nat.le_refl _) _).trans (hb1.mono (by simp))
  have g1 := g0.next hb1
  have hs1 := hB1.size
  have d0 := g1.cell 0
  have d1 := g1.cell 1
  have h3 : Reads (w1.alloc (.cells (ints (List.replicate n 0)).toArray 3)).drew (w1.alloc (.cells (ints (List.replicate n 0)).toArray 3)).drew.heap.size 3 A es.length (edgeCells es) := (((h.below hB1).more hs1).alloc (Nat.le_refl _) (.cells (ints (List.replicate n 0)).toArray 3)).drew.more (by simp [World.drew])
  have hbl : Reads (w1.alloc (.cells (ints (List.replicate n 0)).toArray 3)).drew (w1.alloc (.cells (ints (List.replicate n 0)).toArray 3)).drew.heap.size 1 (some ⟨w1.heap.size, 0, none⟩) n (ints (List.replicate n 0)) := ⟨by simp [ints], fun _ => ⟨w1.heap.size, 0, rfl, by simp [World.drew], fun j v hv => by
    have hb : Blk (w1.alloc (.cells (ints (List.replicate n 0)).toArray 3)).drew w1.heap.size 3 (ints (List.replicate n 0)).toArray := (Blk.new w1 _ _).drew
    rw [Nat.zero_add, hb.cell j, List.getElem?_toArray]
    exact hv⟩⟩
  clear g0 c0 c1 RT hb1
  go_wp2
  go_region_held3 (fun W => W.cell? ⟨w.heap.size, 0, none⟩ = some (.int .i64 n) ∧ W.cell? ⟨w.heap.size, 1, none⟩ = some (.slice A es.length c)) (go_keep)
    (first | (go_at_call 79; refine (PO.out _ _ _ (by exact h3) (by exact hbl)).mono ?_; rintro e w5 ⟨bp, a, rfl, P5, hb5⟩; have g5 := ((g1.alloc (.cells (ints (List.replicate n 0)).toArray 3)).drew).next hb5; have k0 := g5.cell 0; have k1 := g5.cell 1))
  all_goals
    have hB5 : Below w.heap.size w w5 := (hB1.alloc hs1 (.cells (ints (List.replicate n 0)).toArray 3)).drew.trans (hb5.mono (by simp [World.drew]; omega))
    have hs5 := hB5.size
    have P6 := P5.alloc (.cells (ints (List.replicate n 0)).toArray 3)
    have p3 := P6.c3
    have O6 := Blk.new w5 3 (ints (List.replicate n 0)).toArray
    have V6 := P6.vv
    have hbV := valL_bd n (endsL es)
    have hne : a.bv ≠ w5.heap.size := Nat.ne_of_lt P5.vv.lt
    have hB6 := hB5.alloc hs5 (.cells (ints (List.replicate n 0)).toArray 3)
    obtain ⟨val, hval⟩ : ∃ val, valL n (endsL es) = val := ⟨_, rfl⟩
    rw [hval] at V6 hbV
    have HVAL := Lib.hid hval
    have HBV := Lib.hid hbV
    clear hval hbV P5 P6 h3 hbl hb5 g1 d0 d1 hB1 PO
    go_wp2_with fail
    go_loopw [10, 11, 38] (fun _ _ i wl => ∃ v : Nat, v ≤ n ∧ i = .int .i64 v ∧ Blk wl w5.heap.size 3 (intCells (maxTo n val q v)) ∧ Blk wl a.bv 3 (intCells val) ∧ Below w.heap.size w wl) (fun _ _ i _ => n - (intOf i).toNat)
    case atStart => exact ⟨0, by omega, rfl, by rw [maxTo_zero]; exact O6, V6, hB6⟩
    case round =>
      obtain ⟨v, hv, rfl, O7, V7, hB7⟩ := hrel
      clear O6 V6 hB6
      by_cases hlv : v < n
      · have hi : (v : Int) < (n : Int) := by omega
        obtain ⟨x, hx⟩ := get_of_lt (xs := val) (k := v) (by rw [HBV.out.1]; exact hlv)
        have hxb := HBV.out.2 x (List.mem_of_getElem? hx)
        have hxl : x ≤ 1000000 := by omega
        have cv := (V7.cell v).trans (intCells_get hx)
        by_cases hvq : v = q
        · have hne2 : ((v : Int) != (q : Int)) = false := by simp [hvq]
          subst hvq
          have hms := maxTo_sink n val v
          clear hx
          go_wp2
          go_roundw
          case rel => exact ⟨v + 1, by omega, by go_num, by rw [hms]; exact O7, V7, hB7⟩
          case measure => simp [intOf]; omega
        · have hne2 : ((v : Int) != (q : Int)) = true := by rw [bne_iff_ne]; omega
          have hms := Lib.hid (maxTo_succ n val q v hvq x hx)
          obtain ⟨y, hy⟩ := get_of_lt (xs := maxTo n val q v) (k := v) (by rw [maxTo_length]; exact hlv)
          have co := (O7.cell v).trans (intCells_get hy)
          have cf := O7.frozen v
          have O8 := O7.set_ v (.int .i64 (x - 1))
          rw [intCells_set, ← hms.out] at O8
          clear hx hy
          go_wp2
          go_roundw
          case rel => exact ⟨v + 1, by omega, by go_num, O8, V7.far hne _, hB7.setCell hs5 _⟩
          case measure => simp [intOf]; omega
      · obtain rfl : v = n := by omega
        go_wp2
        go_ret2
        refine ⟨_, _, rfl, ?_, hB7⟩
        have hl := maxTo_length v val q v
        have := OwnI.of_blk O7 hs5 (by rw [hl]; simp [maxLen]; omega)
        rw [hl] at this
        unfold maxL
        rw [HVAL.out]
        exact this
end Go.Proofs.YtplgbapbgcipdaaGreat

/-! The fire's steps in memory: an element joins steps or tree. -/
namespace Go.Proofs.YtplgbapbgcipdaaGreat
open Go.RowKit
section
variable {w w' : World} {base b n : Nat} {E : List (Nat × Nat)} {lv : Value} {a : FireA} {s : FireS} {H : List Int}
end
end Go.Proofs.YtplgbapbgcipdaaGreat

/-! Package burning: the fire. -/
namespace Go.Proofs.YtplgbapbgcipdaaGreat
open Go.RowKit Go.Shelf
attribute [local go_sem] Oper.semAt_some

end Go.Proofs.YtplgbapbgcipdaaGreat

/-! Package stabilize: next: the least vertex that waits. -/
namespace Go.Proofs.YtplgbapbgcipdaaGreat
open Go.RowKit

/-- The first place with true from k places on, or -1. -/
def firstT (ws : List Bool) : Int := match (List.range ws.length).find? fun v => ws.getD v false with
  | some v => v
  | none => -1
theorem firstT_some {ws : List Bool} {k : Nat} (hk : k < ws.length) (h : ws[k]? = some true) (hl : ∀ j, j < k → ws.getD j false = false) : firstT ws = k := by
  unfold firstT
  have : (List.range ws.length).find? (fun v => ws.getD v false) = some k := by
    rw [List.find?_range_eq_some]
    refine ⟨by rw [List.getD_eq_getElem?_getD, h]; rfl, by simpa using hk, fun j hj => ?_⟩
    rw [hl j hj]; rfl
  rw [this]
theorem firstT_none {ws : List Bool} (h : ∀ j, j < ws.length → ws.getD j false = false) : firstT ws = -1 := by
  unfold firstT
  have : (List.range ws.length).find? (fun v => ws.getD v false) = none := by
    rw [List.find?_eq_none]
    intro x hx
    rw [h x (List.mem_range.1 hx)]
    simp
  rw [this]
theorem firstT_cases (ws : List Bool) : (firstT ws = -1 ∧ ∀ j, j < ws.length → ws.getD j false = false) ∨ ∃ v : Nat, firstT ws = v ∧ v < ws.length ∧ ws.getD v false = true := by
  unfold firstT
  cases h : (List.range ws.length).find? fun v => ws.getD v false with
  | none =>
    refine .inl ⟨rfl, fun j hj => ?_⟩
    rw [List.find?_eq_none] at h
    have := h j (List.mem_range.2 hj)
    simpa using this
  | some v =>
    refine .inr ⟨v, rfl, ?_, ?_⟩
    · exact List.mem_range.1 (List.mem_of_find?_eq_some h)
    · have := List.find?_some h; simpa using this

set_option maxHeartbeats 2000000 in
theorem indexB_any (g o c : Nat) (ws : List Bool) (w : World) (hl : ws.length ≤ 1048576) (h : ∀ k b, ws[k]? = some b → w.cell? ⟨g, o + k, none⟩ = some (.bool b)) :
    Calls Tryz.prog 153 #[.slice (some ⟨g, o, none⟩) ws.length c, .bool true] w fun e w' => e = .returned (.int .i64 (firstT ws)) ∧ w' = w := by
  have HC := Lib.hid h
  clear h
  go_enter Tryz.func153, Tryz.ntmps153
  go_wp2_with fail
  go_loop [5, 8] (fun _ i => ∃ k : Nat, i = .int .i64 k ∧ k ≤ ws.length ∧ Hid (∀ j, j < k → ws.getD j false = false)) (fun _ i => ws.length - (intOf i).toNat)
  case atStart => exact ⟨0, rfl, by omega, fun j hj => by omega⟩
  case round =>
    obtain ⟨k, rfl, hk, HN⟩ := hrel
    by_cases hlt : k < ws.length
    · obtain ⟨b, hb⟩ := get_of_lt hlt
      have hi : (k : Int) < (ws.length : Int) := by omega
      have c0 := HC.out k b hb
      have HB := Lib.hid hb
      clear hb
      cases b
      · go_wp2
        go_round
        case rel => exact ⟨k + 1, by go_num, by omega, fun j hj => by
          by_cases e : j = k
          · subst e; rw [List.getD_eq_getElem?_getD, HB.out]; rfl
          · exact HN.out j (by omega)⟩
        case measure => simp [intOf]; omega
      · go_wp2
        go_ret
        exact ⟨ret_int (firstT_some hlt HB.out HN.out).symm, rfl⟩
    · obtain rfl : k = ws.length := by omega
      go_wp2
      go_ret
      exact ⟨ret_int (firstT_none HN.out).symm, rfl⟩

set_option maxHeartbeats 2000000 in
theorem pnext_any (base bp n : Nat) (a : PA) (d : List Int) (q : Int) (rows : List (List Int)) (val fired : List Int) (total : Int) (ws : List Bool) (w : World) (h : PileW w base bp n a d q rows val fired total ws) :
    Calls Tryz.prog 147 #[.pointer (some ⟨bp, 0, none⟩)] w fun e w' => e = .returned (.int .i64 (firstT ws)) ∧ w' = w := by
  have hwl := h.wl
  have IB := Lib.hid (indexB_any bp 6 12 ws w (by omega) (fun k b hb => (h.blk.cell (6 + k)).trans (by rw [Nat.add_comm]; simp [pileCells, hb])))
  rw [hwl] at IB
  clear h
  go_enter Tryz.func147, Tryz.ntmps147
  go_wp2_with fail
  refine (IB.out).mono ?_
  rintro e w' ⟨rfl, rfl⟩
  go_wp2
  go_ret
  exact ⟨rfl, rfl⟩
end Go.Proofs.YtplgbapbgcipdaaGreat

