/-
  Texts of this claim, put together: Settle, Stab, RSettled.
-/
import Derived.Test.YtdnoeaoelgehcaaGreatK22
import Derived.Deep.RegionHeld3
import Derived.Test.YtdnoeaoelgehcaaGreatK11
import Derived.Test.YtdnoeaoelgehcaaGreatK12
import Derived.Test.YtdnoeaoelgehcaaGreatK14
/-! Package stabilize: settle, settled, given, Stabilize. -/
namespace Go.Proofs.YtdnoeaoelgehcaaGreat
open Go.RowKit

section
variable {n q : Nat} {es : List E3}
theorem fire_eq (hG : RightG n es) {d : List Int} {v : Nat} (k : Int) : fireTo (rowsL n (endsL es)) (valL n (endsL es)) d n v k n = fireD es n d v k := by
  unfold fireTo fireD
  apply List.map_congr_left
  intro u hu
  have hu := List.mem_range.1 hu
  rw [if_pos hu, rowsL_tt hG hu, valL_val hG.ok, valE_valS hG]
  omega
theorem cnt_times {l : List Nat} {v : Nat} (hv : v < n) (t : Nat) : (cntD n l).set v ((cntD n l).getD v 0 + t) = cntD n (l ++ List.replicate t v) := by
  refine list_ext_n (n := n) (by simp [cntD_length]) cntD_length fun i hi => ?_
  have e : (cntD n (l ++ List.replicate t v))[i]? = some ((l ++ List.replicate t v).count i : Int) := by simp [cntD, hi]
  rw [e, List.count_append]
  by_cases h : i = v
  · subst h
    rw [List.getElem?_set_self (by rw [cntD_length]; exact hi), cntD_get hi]
    simp
  · rw [List.getElem?_set_ne (fun e => h e.symm)]
    simp [cntD, hi, List.count_replicate, Ne.symm h]
theorem cnt_bd {l : List Nat} : ∀ x ∈ cntD n l, 0 ≤ x ∧ x ≤ l.length := by
  intro x hx
  unfold cntD at hx
  obtain ⟨u, _, rfl⟩ := List.mem_map.1 hx
  have := List.count_le_length (a := u) (l := l)
  omega
theorem wait_none (hG : RightG n es) (hn : n ≤ 12) {d : List Int} (h : ∀ j, j < 12 → (waitL n q d (valL n (endsL es))).getD j false = false) : CalmD es n q d := by
  intro v hv hq
  have h1 := h v (by omega)
  unfold waitL at h1
  rw [List.getD_eq_getElem?_getD, List.getElem?_map, List.getElem?_range (by omega)] at h1
  simp only [Option.map_some, Option.getD_some, hv, decide_true, Bool.true_and] at h1
  unfold unst at h1
  rw [decide_eq_true (show (v : Int) ≠ (q : Int) by omega), Bool.true_and, valL_val hG.ok, valE_valS hG] at h1
  have := of_decide_eq_false h1
  omega
theorem wait_some (hG : RightG n es) {d : List Int} {v : Nat} (h12 : v < 12) (h : (waitL n q d (valL n (endsL es))).getD v false = true) : v < n ∧ v ≠ q ∧ valS es n v ≤ d.getD v 0 := by
  unfold waitL at h
  rw [List.getD_eq_getElem?_getD, List.getElem?_map, List.getElem?_range h12] at h
  simp only [Option.map_some, Option.getD_some, Bool.and_eq_true] at h
  obtain ⟨h1, h2⟩ := h
  unfold unst at h2
  rw [Bool.and_eq_true, valL_val hG.ok, valE_valS hG] at h2
  have h3 := of_decide_eq_true h2.1
  exact ⟨of_decide_eq_true h1, by omega, of_decide_eq_true h2.2⟩
end
/-- What stabilization needs of its configuration. -/
structure SArgs (n q : Nat) (es : List E3) (d : List Int) : Prop where
  hlen : es.length ≤ 10000
  hz : checkG n es = 0
  hC : AllConn n es
  hq : q < n
  dl : d.length = n
  db : ∀ v, v < n → -1048576 ≤ d.getD v 0 ∧ d.getD v 0 ≤ 1048576
  d0 : ∀ v, v < n → v ≠ q → 0 ≤ d.getD v 0

set_option maxRecDepth 100000 in
set_option maxHeartbeats 8000000 in
theorem settle_any (base bp n q : Nat) (es : List E3) (d : List Int) (hS : SArgs n q es d) (a : PA) (w : World)
    (h : PileW w base bp n a d q (rowsL n (endsL es)) (valL n (endsL es)) (cntD n []) 0 (waitL n q d (valL n (endsL es)))) :
    Calls Tryz.prog 171 #[.pointer (some ⟨bp, 0, none⟩)] w fun e w' => Only (PB a bp) w w' ∧
      ((e = .returned (.int .i64 12) ∧ ∃ l, Leg es n q d l ∧ 1048576 < l.length) ∨
       (e = .returned (.int .i64 0) ∧ ∃ l ws, Leg es n q d l ∧ l.length ≤ 1048576 ∧ CalmD es n q (runD es n d l) ∧ PileW w' base bp n a (runD es n d l) q (rowsL n (endsL es)) (valL n (endsL es)) (cntD n l) l.length ws)) := by
  have hG := right_of hS.hz
  have hn12 : n ≤ 12 := by have := hG.hi; omega
  have htt : ∀ a b, 0 ≤ tt es a b := fun a b => (tt_bd hG.ok a b).1
  have hbd : Hid (∀ l, Leg es n q d l → ∀ v, v < n → -1048576 ≤ (runD es n d l).getD v 0 ∧ (runD es n d l).getD v 0 ≤ 25165824) := by
    intro l hl v hv
    have := hl.bound (M := 1048576) htt (by omega) hS.d0 hS.db v hv
    omega
  have hel := endsL_length hG.ok
  have hvb := valL_bd n (endsL es)
  have hrb := rowsL_bd n (endsL es) (endsL_ok hG.ok)
  have hlen := hS.hlen
  have HVB : Hid (ValBd n 1048576 (valL n (endsL es))) := ⟨hvb.1, fun x hx => by have := hvb.2 x hx; omega⟩
  have HRB : Hid (TabBd n 1048576 (rowsL n (endsL es))) := ⟨hrb.1, fun r hr => ⟨(hrb.2 r hr).1, fun x hx => by have := (hrb.2 r hr).2 x hx; omega⟩⟩
  have HS := Lib.hid hS
  have HG := Lib.hid hG
  have HVP : Hid (∀ v, v < n → v ≠ q → 1 ≤ (valL n (endsL es)).getD v 0) := fun v hv hq => by rw [valL_val hG.ok]; exact val_pos hG hS.hC hv hS.hq hq
  have HH := Lib.hid h
  obtain ⟨rows, hrows⟩ : ∃ rows, rowsL n (endsL es) = rows := ⟨_, rfl⟩
  obtain ⟨val, hval⟩ : ∃ val, valL n (endsL es) = val := ⟨_, rfl⟩
  have HROWS := Lib.hid hrows
  have HVAL := Lib.hid hval
  rw [hrows] at HRB HH ⊢
  rw [hval] at HVB HVP HH ⊢
  clear h hS hG hel hvb hrb hrows hval hlen
  have hmf : ∀ (fn : Fn) (first cap : Array Value) (w : World), (Instr.makeFunc fn first cap).run Tryz.prog w = .ok (.func fn first cap) w := fun _ _ _ _ => rfl
  have NX := Lib.hid (pnext_any base bp n a d q rows val (cntD n []) 0 _ w HH.out)
  go_enter Tryz.func171, Tryz.ntmps171
  go_wp2_with fail
  refine (NX.out).mono ?_
  rintro e w' ⟨rfl, rfl⟩
  go_wp2_with fail
  go_loopw [4] (fun t wl => ∃ (l : List Nat), Hid (Leg es n q d l) ∧ l.length ≤ 1048576 ∧ t = .int .i64 (firstT (waitL n q (runD es n d l) val)) ∧ Hid (PileW wl base bp n a (runD es n d l) q rows val (cntD n l) l.length (waitL n q (runD es n d l) val)) ∧ Hid (Only (PB a bp) w' wl)) (fun _ wl => 1048577 - (intOf ((wl.cell? ⟨bp, 5, none⟩).getD (.int .i64 0))).toNat)
  case atStart => exact ⟨[], .nil, by simp, rfl, HH, Only.refl _ _⟩
  case round =>
    obtain ⟨l, HL, hll, rfl, HP, HO⟩ := hrel
    obtain ⟨x, hx⟩ : ∃ x, runD es n d l = x := ⟨_, rfl⟩
    have HX := Lib.hid hx
    rw [hx] at HP ⊢
    rcases firstT_cases (waitL n q x val) with ⟨h1, h2⟩ | ⟨v, h1, h2, h3⟩
    · rw [h1]
      have hcalm : CalmD es n q x := by
        rw [← HVAL.out] at h2
        exact wait_none HG.out hn12 fun j hj => h2 j (by rw [HVAL.out]; simpa [waitL] using hj)
      have HCL := Lib.hid hcalm
      clear hx h1 h2 hcalm
      go_wp2
      go_ret
      exact ⟨HO.out, .inr ⟨rfl, l, _, HL.out, hll, by rw [HX.out]; exact HCL.out, by rw [HX.out]; exact HP.out⟩⟩
    · rw [h1]
      rw [← HVAL.out] at h2 h3
      obtain ⟨hvn, hvq, hvs⟩ := wait_some HG.out (by simpa [waitL] using h2) h3
      have hvp := HVP.out v hvn hvq
      have hxl : x.length = n := by rw [← hx]; exact runD_length HS.out.dl
      obtain ⟨xv, hxv⟩ := get_of_lt (xs := x) (k := v) (by omega)
      obtain ⟨yv, hyv⟩ := get_of_lt (xs := val) (k := v) (by rw [HVB.out.1]; exact hvn)
      rw [getD_at hyv] at hvp
      have hyS : valS es n v = yv := by rw [← valE_valS HG.out, ← valL_val (n := n) HG.out.ok, HVAL.out, getD_at hyv]
      rw [hyS, getD_at hxv] at hvs
      have hxb := hbd.out l HL.out v hvn
      rw [hx, getD_at hxv] at hxb
      obtain ⟨X, rfl⟩ := Int.eq_ofNat_of_zero_le (show 0 ≤ xv by omega)
      obtain ⟨Y, rfl⟩ := Int.eq_ofNat_of_zero_le (show 0 ≤ yv by omega)
      have hqt : (X : Int).tdiv (Y : Int) = ((X / Y : Nat) : Int) := by rw [Int.tdiv_eq_ediv_of_nonneg (by omega)]; rfl
      obtain ⟨T, hT⟩ : ∃ T, X / Y = T := ⟨_, rfl⟩
      rw [hT] at hqt
      have hT1 : 1 ≤ T := by rw [← hT]; exact Nat.div_pos (by omega) (by omega)
      have hTY : T * Y ≤ X := by rw [← hT]; exact Nat.div_mul_le_self X Y
      have hTX : T ≤ X := Nat.le_trans (Nat.le_mul_of_pos_right T (by omega)) hTY
      have hleg := HL.out.times (fun a => by unfold tt; rw [if_pos rfl]) HS.out.dl hvn hvq (by rw [hyS]; omega) T (by rw [hx, hyS, getD_at hxv]; exact_mod_cast hTY)
      have hfe := fire_eq HG.out (d := x) (v := v) (T : Int)
      rw [HROWS.out, HVAL.out] at hfe
      have hf2 : fireTo rows val x n v T n = runD es n d (l ++ List.replicate T v) := by rw [hleg.2, hx]; exact hfe
      have hct := cnt_times (n := n) (l := l) hvn T
      have hlt : (l.length : Int) + (T : Int) = ((l ++ List.replicate T v).length : Nat) := by simp
      have FR := pfire_any base bp n hn12 a x q rows val (cntD n l) l.length v hvn T (by omega) (by omega)
        (fun y hy => by
          obtain ⟨i, hi⟩ := List.getElem?_of_mem hy
          have := hbd.out l HL.out i (by have := (List.getElem?_eq_some_iff.1 hi).1; omega)
          rw [hx, getD_at hi] at this
          omega) HVB.out HRB.out (fun y hy => by have := cnt_bd y hy; omega) (by omega) wr.drew HP.out.drew
      rw [hct, hlt, hf2] at FR
      have FR := Lib.hid FR
      have HLEG := Lib.hid hleg.1
      have e0 := HP.out.c0
      have e3 := HP.out.c3
      have ed := HP.out.cd hxv
      have ev := HP.out.cv hyv
      have hy0 : ((Y : Int) == 0) = false := by simp; omega
      have hy1 : ¬ (Y : Int) = 0 := by omega
      have hy2 : ¬ Y = 0 := by omega
      have hy3 : (Y == 0) = false := by simp; omega
      have hvi : (v : Int) < (n : Int) := by omega
      have hv0 : ¬ (v : Int) < 0 := by omega
      have hwT : IntKind.i64.wrap (T : Int) = T := IntWalk.i64_in _ (by omega)
      have hT5 := HP.out.c5
      have HT5 := Lib.hid hT5
      have hpl := HP.out.blk.lt
      clear hx hxv hyv h1 h2 h3 hleg hct hfe hf2 hvs hxb hyS hT hTY hlt hT5
      go_wp2_with fail
      refine region_tail 17 (by kernel_rfl) (by kernel_rfl) ?_
      simp only [List.take_succ_cons, List.take_zero, List.drop_succ_cons, List.drop_zero]
      repeat still_step
      refine wpStill_nil ?_
      obtain ⟨l', hl'⟩ : ∃ l', l ++ List.replicate T v = l' := ⟨_, rfl⟩
      have hlen' : l'.length = l.length + T := by rw [← hl']; simp
      rw [hl'] at FR HLEG
      clear hl' e0 e3 ed ev
      go_wp2_with fail
      refine (FR.out).mono ?_
      rintro e w5 ⟨⟨x5, rfl⟩, P5, O5⟩
      have c5 := P5.c5
      have HP5 := Lib.hid P5
      have HO5 := Lib.hid (HO.out.drew.trans O5)
      have NX5 := Lib.hid (pnext_any base bp n a _ q rows val _ _ _ w5 P5)
      have HLN := Lib.hid hlen'
      clear P5 O5 hlen'
      obtain ⟨N, hN⟩ : ∃ N, l'.length = N := ⟨_, rfl⟩
      have HN := Lib.hid hN
      rw [hN] at c5
      clear hN
      by_cases hbig : 1048576 < N
      · have hbi : (1048576 : Int) < (N : Int) := by omega
        go_wp2
        go_ret
        exact ⟨HO5.out, .inl ⟨rfl, l', HLEG.out, by rw [HN.out]; exact hbig⟩⟩
      · have hbi : ¬ (1048576 : Int) < (N : Int) := by omega
        go_wp2_with fail
        refine (NX5.out).mono ?_
        rintro e w6 ⟨rfl, rfl⟩
        go_wp2_with fail
        go_roundw
        case rel => exact ⟨l', HLEG, by rw [HN.out]; omega, rfl, HP5, HO5⟩
        case measure =>
          rw [HT5.out, c5]
          have := HLN.out
          have := HN.out
          simp [intOf]; omega
end Go.Proofs.YtdnoeaoelgehcaaGreat

/-! Package stabilize: settled, given, Stabilize. -/
namespace Go.Proofs.YtdnoeaoelgehcaaGreat
open Go.RowKit

/-- What stabilization tells: the configuration, the odometer, the error. -/
def stabOut (q : Nat) : Option (List Int × List Int) → List Int × List Int × Int
  | none => ([], [], 12)
  | some (x, s) => if 1048576 < x.getD q 0 then ([], [], 11) else (x, s, 0)
/-- What Stabilize returns. -/
def StabE (n : Int) (es : List E3) (q : Int) (d ds ss : List Int) (e : Int) : Prop := if confErr n es q d = 0 then ∃ r, StabR es n.toNat q.toNat d r ∧ (ds, ss, e) = stabOut q.toNat r else ds = [] ∧ ss = [] ∧ e = confErr n es q d

set_option maxRecDepth 100000 in
set_option maxHeartbeats 8000000 in
theorem settled_any (base bp n q : Nat) (es : List E3) (d : List Int) (hS : SArgs n q es d) (a : PA) (w : World)
    (h : PileW w base bp n a d q (rowsL n (endsL es)) (valL n (endsL es)) (cntD n []) 0 (waitL n q d (valL n (endsL es)))) :
    Calls Tryz.prog 139 #[.pointer (some ⟨bp, 0, none⟩)] w fun e w' => Only (PB a bp) w w' ∧ ∃ r, StabR es n q d r ∧ e = .returned (.int .i64 (stabOut q r).2.2) ∧
      ∀ x s, r = some (x, s) → ∃ total ws, PileW w' base bp n a x q (rowsL n (endsL es)) (valL n (endsL es)) s total ws := by
  have SC := Lib.hid (settle_any base bp n q es d hS a w h)
  have HDL : Hid (∀ l, (runD es n d l).length = n) := fun l => runD_length hS.dl
  have HQ := Lib.hid hS.hq
  clear hS h
  go_enter Tryz.func139, Tryz.ntmps139
  go_wp2_with fail
  refine (SC.out).mono ?_
  rintro e w1 ⟨ho, ⟨rfl, l, hl, hll⟩ | ⟨rfl, l, ws, hl, hll, hc, P1⟩⟩
  · have HL : Hid (StabR es n q d none) := ⟨l, hl, hll⟩
    clear hl hll
    go_wp2
    go_ret
    exact ⟨ho, none, HL.out, rfl, (fun x s h => by cases h)⟩
  · have HL : Hid (StabR es n q d (some (runD es n d l, cntD n l))) := ⟨l, hl, hll, hc, rfl, rfl⟩
    obtain ⟨z, hz⟩ := get_of_lt (xs := runD es n d l) (k := q) (by rw [HDL.out]; exact HQ.out)
    have e0 := P1.c0
    have e1 := P1.c1
    have ed := P1.cd hz
    have hqi : (q : Int) < (n : Int) := by have := HQ.out; omega
    have hq0 : ¬ (q : Int) < 0 := by omega
    have HZ := Lib.hid (getD_at hz)
    have HP1 := Lib.hid P1
    clear hl hll hc hz P1
    by_cases hbig : 1048576 < z
    · have HB : Hid ((stabOut q (some (runD es n d l, cntD n l))).2.2 = 11) := by unfold stabOut Hid; dsimp only; rw [HZ.out, if_pos hbig]
      go_wp2_with fail
      go_quiet (fail)
      go_wp2
      go_ret
      exact ⟨⟨ho.os, ho.tape, ho.output, ho.size, ho.block⟩, _, HL.out, by rw [HB.out]; rfl, (fun x s h => by cases h; exact ⟨_, _, HP1.out.drewN _⟩)⟩
    · have HB : Hid ((stabOut q (some (runD es n d l, cntD n l))).2.2 = 0) := by unfold stabOut Hid; dsimp only; rw [HZ.out, if_neg hbig]
      go_wp2_with fail
      go_quiet (fail)
      go_wp2
      go_ret
      exact ⟨⟨ho.os, ho.tape, ho.output, ho.size, ho.block⟩, _, HL.out, by rw [HB.out]; rfl, (fun x s h => by cases h; exact ⟨_, _, HP1.out.drewN _⟩)⟩

theorem conf_sargs {n q : Nat} {es : List E3} {d : List Int} (hlen : es.length ≤ 10000) (hc : confErr n es q d = 0) : SArgs n q es d := by
  obtain ⟨hG, hC, _, hqn, hl, hb, hnn⟩ := conf_zero hc
  have hck : checkG n es = 0 := by
    rcases conf_cases n es q d with ⟨h1, hE⟩ | ⟨h1, h2, hE⟩ | ⟨h1, h2, hE⟩
    · exact absurd (hE ▸ hc) h1
    · exact absurd (hE ▸ hc) h2
    · exact (root_zero h1).1
  rw [Int.toNat_natCast] at hC
  refine ⟨hlen, hck, hC, by omega, by omega, fun v hv => ?_, fun v hv hq => hnn v (by omega) (by omega)⟩
  obtain ⟨x, hx⟩ := get_of_lt (xs := d) (k := v) (by omega)
  rw [getD_at hx]
  exact hb x (List.mem_of_getElem? hx)
theorem cntD_nil (n : Nat) : cntD n [] = List.replicate n 0 := by
  refine list_ext_n (n := n) cntD_length (by simp) fun i hi => ?_
  simp [cntD, hi]
theorem PileW.dreads {w : World} {base bp n : Nat} {a : PA} {d : List Int} {q : Int} {rows : List (List Int)} {val fired : List Int} {total : Int} {ws : List Bool} (h : PileW w base bp n a d q rows val fired total ws) : Reads w w.heap.size 1 (some ⟨a.bd, 0, none⟩) n (ints d) := by
  obtain ⟨sl, hs⟩ := h.dd
  refine ⟨by rw [ints_length, h.dl, Nat.mul_one], fun _ => ⟨a.bd, 0, rfl, hs.lt, fun j u hu => ?_⟩⟩
  rw [Nat.zero_add, hs.cell j, List.getElem?_toArray, List.getElem?_append_left (List.getElem?_eq_some_iff.1 hu).1]
  exact hu
theorem PileW.freads {w : World} {base bp n : Nat} {a : PA} {d : List Int} {q : Int} {rows : List (List Int)} {val fired : List Int} {total : Int} {ws : List Bool} (h : PileW w base bp n a d q rows val fired total ws) : Reads w w.heap.size 1 (some ⟨a.bf, 0, none⟩) n (ints fired) := by
  refine ⟨by rw [ints_length, h.fl, Nat.mul_one], fun _ => ⟨a.bf, 0, rfl, h.ff.lt, fun j u hu => ?_⟩⟩
  rw [Nat.zero_add, h.ff.cell j]
  simpa [intCells] using hu

set_option maxRecDepth 100000 in
set_option maxHeartbeats 4000000 in
theorem given_ok (n : Nat) (A : Option Addr) (c : Nat) (es : List E3) (hlen : es.length ≤ 10000) (q : Nat) (B : Option Addr) (cB : Nat) (d : List Int) (hc : confErr n es q d = 0) (w : World)
    (h : Reads w w.heap.size 3 A es.length (edgeCells es)) (h' : Reads w w.heap.size 1 B d.length (ints d)) :
    Calls Tryz.prog 138 #[.agg #[.int .i64 n, .slice A es.length c], .int .i64 q, .slice B d.length cB] w fun e w' => ∃ bp a, e = .returned (.tuple #[.pointer (some ⟨bp, 0, none⟩), .int .i64 0]) ∧
      PileW w' w.heap.size bp n a d q (rowsL n (endsL es)) (valL n (endsL es)) (List.replicate n 0) 0 (waitL n q d (valL n (endsL es))) ∧ Below w.heap.size w w' := by
  have hS := conf_sargs hlen hc
  have hG := right_of hS.hz
  have hn12 : n ≤ 12 := by have := hG.hi; omega
  have hq := hS.hq
  have hdl := hS.dl
  have SC := Lib.hid (scheck_any n A c es (by omega) q B cB d (by omega))
  rw [hc] at SC
  have PO := Lib.hid (fun (W : World) (hB : Below w.heap.size w W) => pileOf_any n hn12 (by omega) A c es hlen hS.hz hG.ok q B cB d hS.dl W ((h.below hB).more hB.size) ((h'.below hB).more hB.size))
  have g0 := Blk.new w 24 #[.int .i64 n, .slice A es.length c]
  clear hS hG hc hdl
  go_enter Tryz.func138, Tryz.ntmps138
  go_wp2_with fail
  refine (SC.out _ ((h.alloc (Nat.le_refl _) _).more (by simp)) ((h'.alloc (Nat.le_refl _) _).more (by simp))).mono ?_
  rintro e w1 ⟨rfl, hb1⟩
  have hB1 : Below w.heap.size w w1 := ((Below.refl _ _).alloc (Nat.le_refl _) _).trans (hb1.mono (by simp))
  have g1 := g0.next hb1
  have c0 := g1.cell 0
  have c1 := g1.cell 1
  clear g0 hb1
  go_wp2_with fail
  refine (PO.out _ hB1).mono ?_
  rintro e w2 ⟨bp, a, rfl, hP, hb2⟩
  go_wp2
  go_ret2
  exact ⟨bp, a, rfl, hP.mono hB1.size, hB1.trans (hb2.mono hB1.size)⟩
set_option maxHeartbeats 4000000 in
theorem given_bad (n : Int) (A : Option Addr) (c : Nat) (es : List E3) (hlen : es.length ≤ 10000) (q : Int) (B : Option Addr) (cB : Nat) (d : List Int) (hm : d.length ≤ 1048000) (z : Int) (hc : confErr n es q d = z) (hz : (z != 0) = true) (w : World)
    (h : Reads w w.heap.size 3 A es.length (edgeCells es)) (h' : Reads w w.heap.size 1 B d.length (ints d)) :
    Calls Tryz.prog 138 #[.agg #[.int .i64 n, .slice A es.length c], .int .i64 q, .slice B d.length cB] w fun e w' => e = .returned (.tuple #[.pointer none, .int .i64 z]) ∧ Below w.heap.size w w' := by
  have SC := Lib.hid (scheck_any n A c es (by omega) q B cB d (by omega))
  rw [hc] at SC
  clear hc
  go_enter Tryz.func138, Tryz.ntmps138
  go_wp2_with fail
  refine (SC.out _ ((h.alloc (Nat.le_refl _) _).more (by simp)) ((h'.alloc (Nat.le_refl _) _).more (by simp))).mono ?_
  rintro e w1 ⟨rfl, hb1⟩
  have hB1 : Below w.heap.size w w1 := ((Below.refl _ _).alloc (Nat.le_refl _) _).trans (hb1.mono (by simp))
  go_wp2
  go_ret2
  exact ⟨rfl, hB1⟩

set_option maxRecDepth 100000 in
set_option maxHeartbeats 8000000 in
theorem stab_ok (n : Nat) (A : Option Addr) (c : Nat) (es : List E3) (hlen : es.length ≤ 10000) (q : Nat) (B : Option Addr) (cB : Nat) (d : List Int) (hc : confErr n es q d = 0) (w : World)
    (h : Reads w w.heap.size 3 A es.length (edgeCells es)) (h' : Reads w w.heap.size 1 B d.length (ints d)) :
    Calls Tryz.prog 94 #[.agg #[.int .i64 n, .slice A es.length c], .int .i64 q, .slice B d.length cB] w fun e w' => ∃ r A1 c1 A2 c2, StabR es n q d r ∧ e = .returned (.tuple #[.slice A1 (stabOut q r).1.length c1, .slice A2 (stabOut q r).2.1.length c2, .int .i64 (stabOut q r).2.2]) ∧
      Reads w' w'.heap.size 1 A1 (stabOut q r).1.length (ints (stabOut q r).1) ∧ Reads w' w'.heap.size 1 A2 (stabOut q r).2.1.length (ints (stabOut q r).2.1) ∧ Below w.heap.size w w' := by
  have hS := conf_sargs hlen hc
  have hdl := hS.dl
  have GV := Lib.hid (fun (W : World) (hB : Below w.heap.size w W) => given_ok n A c es hlen q B cB d hc W ((h.below hB).more hB.size) ((h'.below hB).more hB.size))
  have ST := Lib.hid (fun (base bp : Nat) (a : PA) (w : World) (h : PileW w base bp n a d q (rowsL n (endsL es)) (valL n (endsL es)) (List.replicate n 0) 0 (waitL n q d (valL n (endsL es)))) => settled_any base bp n q es d hS a w (by rw [cntD_nil]; exact h))
  have g0 := Blk.new w 24 #[.int .i64 n, .slice A es.length c]
  have B0 : Below w.heap.size w (w.alloc (.cells #[.int .i64 n, .slice A es.length c] 24)) := (Below.refl _ _).alloc (Nat.le_refl _) _
  have c0 := g0.cell 0
  have c1 := g0.cell 1
  clear hS hc hdl
  go_enter Tryz.func94, Tryz.ntmps94
  go_wp2_with fail
  refine (GV.out _ B0).mono ?_
  rintro e w1 ⟨bp, a, rfl, hP, hb1⟩
  have hB1 := B0.trans (hb1.mono B0.size)
  have HL := Lib.hid (fun k hk => hP.lt (k := k) hk)
  have SS := Lib.hid (ST.out _ bp a w1 hP)
  clear g0 c0 c1 hP
  go_wp2_with fail
  refine (SS.out).mono ?_
  rintro e w2 ⟨ho, r, hr, rfl, hp⟩
  have hB2 : Below w.heap.size w w2 := hB1.trans (ho.below (fun k hk hp => by have := (HL.out k hp).1; have := B0.size; omega) hB1.size)
  have HR := Lib.hid hr
  rcases r with _ | ⟨x, s⟩
  · have HE : Hid ((stabOut q none).2.2 = 12) := rfl
    clear hp
    simp only [stabOut]
    go_wp2
    go_ret3
    exact ⟨none, none, 0, none, 0, HR.out, rfl, Reads.nil_, Reads.nil_, hB2⟩
  · obtain ⟨total, ws, hP2⟩ := hp x s rfl
    clear hp
    have HP2 := Lib.hid hP2
    have e0 := hP2.c0
    have e4 := hP2.c4
    have hxl := Lib.hid hP2.dl
    have hsl := Lib.hid hP2.fl
    clear hP2
    by_cases hbig : 1048576 < x.getD q 0
    · have hst : stabOut q (some (x, s)) = ([], [], 11) := by unfold stabOut; dsimp only; rw [if_pos hbig]
      have HST := Lib.hid hst
      rw [hst]
      clear hst hbig
      go_wp2
      go_ret3
      exact ⟨_, none, 0, none, 0, HR.out, by rw [HST.out]; rfl, by rw [HST.out]; exact Reads.nil_, by rw [HST.out]; exact Reads.nil_, hB2⟩
    · have hst : stabOut q (some (x, s)) = (x, s, 0) := by unfold stabOut; dsimp only; rw [if_neg hbig]
      have HST := Lib.hid hst
      rw [hst]
      clear hst hbig
      go_wp2_with fail
      go_quiet (fail)
      go_wp2
      go_ret3
      have P3 := HP2.out.drewN nq
      exact ⟨_, some ⟨a.bd, 0, none⟩, a.cd, some ⟨a.bf, 0, none⟩, n, HR.out, by rw [HST.out, hxl.out, hsl.out]; rfl, by rw [HST.out, hxl.out]; exact P3.dreads, by rw [HST.out, hsl.out]; exact P3.freads, ⟨hB2.os, hB2.tape, hB2.output, hB2.size, hB2.block⟩⟩
end Go.Proofs.YtdnoeaoelgehcaaGreat

/-! Package recurrent: settled. -/
namespace Go.Proofs.YtdnoeaoelgehcaaGreat
open Go.RowKit

set_option maxHeartbeats 1000000 in
theorem dmax_any (A : Option Addr) (c : Nat) (xs : List Int) (hn : xs.length ≤ 1048576) (h0 : 0 < xs.length) (w : World) (h : Reads w w.heap.size 1 A xs.length (ints xs)) :
    Calls Tryz.prog 93 #[.slice A xs.length c] w fun e w' => ∃ x, x ∈ xs ∧ (∀ y ∈ xs, y ≤ x) ∧ e = .returned (.int .i64 x) ∧ w = w' := by
  obtain ⟨x0, hx0⟩ := get_of_lt h0
  obtain ⟨b, off, rfl, hb, hc0⟩ := h.at_ (ints_at hx0)
  rw [Nat.add_zero] at hc0
  have h00 : (0 : Int) < (xs.length : Int) := by omega
  have hne : ¬ (xs.length : Int) < 1 := by omega
  have hm0 : Hid (x0 ∈ xs) := List.mem_of_getElem? hx0
  have hm1 : Hid (∀ j y, j < 1 → xs[j]? = some y → y ≤ x0) := fun j y hj hy => by
    obtain rfl : j = 0 := by omega
    rw [hx0] at hy; injection hy with hy; omega
  clear hx0
  go_enter Tryz.func93, Tryz.ntmps93
  go_wp2
  go_loopw [3, 4] (fun m i wr => ∃ (k : Nat) (x : Int), 1 ≤ k ∧ k ≤ xs.length ∧ i = .int .i64 k ∧ m = .int .i64 x ∧ Hid (x ∈ xs) ∧ Hid (∀ j y, j < k → xs[j]? = some y → y ≤ x) ∧ w = wr) (fun _ i _ => xs.length - (intOf i).toNat)
  case atStart => exact ⟨1, x0, by omega, by omega, rfl, rfl, hm0.out, hm1, rfl⟩
  case round =>
    obtain ⟨k, x, hk1, hk, rfl, rfl, HM, HA, rfl⟩ := hrel
    by_cases hlt : k < xs.length
    · obtain ⟨y, hy⟩ := get_of_lt hlt
      obtain ⟨b', off', hA, _, hcy⟩ := h.at_ (ints_at hy)
      injection hA with hA; injection hA with q1 q2; subst q1 q2
      have hi : (k : Int) < (xs.length : Int) := by omega
      have HY : Hid (y ∈ xs) := List.mem_of_getElem? hy
      have HMM : Hid ((if x < y then y else x) ∈ xs) := by
        rw [Hid]
        split
        · exact HY.out
        · exact HM.out
      have HAA : Hid (∀ j z, j < k + 1 → xs[j]? = some z → z ≤ if x < y then y else x) := fun j z hj hz => by
        by_cases e : j = k
        · subst e
          rw [hy] at hz; injection hz with hz
          split <;> omega
        · have := HA.out j z (by omega) hz
          split <;> omega
      clear hy h
      go_wp2
      go_roundw
      case rel => exact ⟨k + 1, (if x < y then y else x), by omega, by omega, by go_num, rfl, HMM.out, HAA, trivial⟩
      case measure => simp [intOf]; omega
    · obtain rfl : k = xs.length := by omega
      go_wp2
      go_ret
      exact ⟨x, HM.out, fun y hy => by
        obtain ⟨j, hj⟩ := List.getElem?_of_mem hy
        exact HA.out j y (List.getElem?_eq_some_iff.1 hj).1 hj, rfl, rfl⟩

/-- What settled returns. -/
def setOut (q : Nat) (r : Option (List Int × List Int)) : List Int × List Int × Int := ((stabOut q r).1.set q 0, (stabOut q r).2.1, (stabOut q r).2.2)
def SetE (n : Nat) (es : List E3) (q : Nat) (d ds ss : List Int) (e : Int) : Prop := if ∀ x ∈ d, x ≤ 1048576 then ∃ r, StabR es n q d r ∧ (ds, ss, e) = setOut q r else ds = [] ∧ ss = [] ∧ e = 11
theorem SetE.unique {n q : Nat} {es : List E3} {d ds ss ds' ss' : List Int} {e e' : Int} (hok : ∀ x ∈ es, okE n x) (hd : d.length = n) (h : SetE n es q d ds ss e) (h' : SetE n es q d ds' ss' e') : ds = ds' ∧ ss = ss' ∧ e = e' := by
  unfold SetE at h h'
  split at h
  · rename_i hx
    rw [if_pos hx] at h'
    obtain ⟨r, h1, h2⟩ := h
    obtain ⟨r', h3, h4⟩ := h'
    obtain rfl := StabR.unique (fun a b => (tt_bd hok a b).1) hd h1 h3
    rw [← h4] at h2
    injection h2 with e1 e2
    injection e2 with e2 e3
    exact ⟨e1, e2, e3⟩
  · rename_i hx
    rw [if_neg hx] at h'
    exact ⟨h.1.trans h'.1.symm, h.2.1.trans h'.2.1.symm, h.2.2.trans h'.2.2.symm⟩
theorem stabOut_len {n q : Nat} {es : List E3} {d : List Int} (hd : d.length = n) {r : Option (List Int × List Int)} (h : StabR es n q d r) : ((stabOut q r).2.2 = 0 ∧ (stabOut q r).1.length = n ∧ (stabOut q r).2.1.length = n) ∨ ((stabOut q r).2.2 ≠ 0 ∧ stabOut q r = ([], [], (stabOut q r).2.2)) := by
  rcases r with _ | ⟨x, s⟩
  · exact .inr ⟨by simp [stabOut], rfl⟩
  · obtain ⟨l, h1, h2, h3, h4, h5⟩ := h
    unfold stabOut
    dsimp only
    split
    · exact .inr ⟨by simp, rfl⟩
    · exact .inl ⟨rfl, by rw [h4]; exact runD_length hd, by rw [h5]; exact cntD_length⟩
theorem conf_of {n q : Nat} {es : List E3} {d : List Int} (hx : rootErr n es q = 0) (hd : d.length = n) (hlo : ∀ x ∈ d, -1048576 ≤ x) (hhi : ∀ x ∈ d, x ≤ 1048576) (h0 : ∀ v, v < n → v ≠ q → 0 ≤ d.getD v 0) : confErr n es q d = 0 := by
  obtain ⟨_, hG, _, hq⟩ := root_zero hx
  have h1 := hG.lo
  have h2 := hG.hi
  unfold confErr
  rw [if_neg (by omega)]
  have hdv : divErr d n = 0 := by
    unfold divErr
    rw [if_neg (by omega), if_neg (by omega), if_pos]
    rw [List.all_eq_true]
    intro x hx
    exact chipB_true.2 ⟨hlo x hx, hhi x hx⟩
  rw [if_neg (by omega)]
  have hdb : debtTo d q d.length = false := by
    unfold debtTo
    rw [List.any_eq_false]
    intro v hv
    have hv := List.mem_range.1 hv
    by_cases hq : v = q
    · subst hq; simp
    · have := h0 v (by omega) hq
      rw [Bool.and_eq_true]
      rintro ⟨_, h⟩
      have := of_decide_eq_true h
      omega
  rw [hdb]
  rfl

set_option maxRecDepth 100000 in
set_option maxHeartbeats 8000000 in
theorem rsettled_any (n : Nat) (A : Option Addr) (c : Nat) (es : List E3) (hlen : es.length ≤ 10000) (q : Nat) (hx : rootErr n es q = 0) (B : Option Addr) (cB : Nat) (d : List Int) (hd : d.length = n) (hlo : ∀ x ∈ d, -1048576 ≤ x) (h0 : ∀ v, v < n → v ≠ q → 0 ≤ d.getD v 0) (w : World)
    (h : Reads w w.heap.size 3 A es.length (edgeCells es)) (h' : Reads w w.heap.size 1 B n (ints d)) :
    Calls Tryz.prog 48 #[.agg #[.int .i64 n, .slice A es.length c], .int .i64 q, .slice B n cB] w fun e w' => ∃ ds ss er A1 c1 A2 c2, SetE n es q d ds ss er ∧ e = .returned (.tuple #[.slice A1 ds.length c1, .slice A2 ss.length c2, .int .i64 er]) ∧
      OwnI w' w.heap.size A1 c1 ds ∧ Reads w' w'.heap.size 1 A2 ss.length (ints ss) ∧ Below w.heap.size w w' := by
  obtain ⟨_, hG, _, hq⟩ := root_zero hx
  have hn12 : n ≤ 12 := by have := hG.hi; omega
  have MX := Lib.hid (fun (W : World) (hr : Reads W W.heap.size 1 B n (ints d)) => by have := dmax_any B cB d (by omega) (by omega) W (by rw [hd]; exact hr); rw [hd] at this; exact this)
  have ST := Lib.hid (fun (hhi : ∀ x ∈ d, x ≤ 1048576) (W : World) (hB : Below w.heap.size w W) => by have := stab_ok n A c es hlen q B cB d (conf_of hx hd hlo hhi h0) W ((h.below hB).more hB.size) (by rw [hd]; exact (h'.below hB).more hB.size); rw [hd] at this; exact this)
  have DC := Lib.hid (fun (A' : Option Addr) (c' : Nat) (ys : List Int) (hl : ys.length ≤ 12) (W : World) (hr : Reads W W.heap.size 1 A' ys.length (ints ys)) => dclone_any A' c' ys (by omega) W hr)
  have HD := Lib.hid hd
  have g0 := Blk.new w 24 #[.int .i64 n, .slice A es.length c]
  have B0 : Below w.heap.size w (w.alloc (.cells #[.int .i64 n, .slice A es.length c] 24)) := (Below.refl _ _).alloc (Nat.le_refl _) _
  have c0 := g0.cell 0
  have c1 := g0.cell 1
  have hqi : (q : Int) < (n : Int) := by omega
  clear hx hG hd hlo h0
  go_enter Tryz.func48, Tryz.ntmps48
  go_wp2_with fail
  refine (MX.out _ ((h'.below B0).more B0.size)).mono ?_
  rintro e w1 ⟨x, hxm, hxa, rfl, rfl⟩
  have HXA := Lib.hid hxa
  have HXM := Lib.hid hxm
  clear hxa hxm
  by_cases hbig : 1048576 < x
  · have HS : Hid (SetE n es q d [] [] 11) := by
      unfold Hid SetE
      rw [if_neg (fun hh => by have := hh x HXM.out; omega)]
      exact ⟨rfl, rfl, rfl⟩
    go_wp2
    go_ret3
    exact ⟨[], [], 11, none, 0, none, 0, HS.out, rfl, OwnI.nil_ _ _, Reads.nil_, B0⟩
  · have hall : ∀ y ∈ d, y ≤ 1048576 := fun y hy => by have := HXA.out y hy; omega
    have ST2 := Lib.hid (ST.out hall _ B0)
    have HALL := Lib.hid hall
    clear hall
    go_wp2_with fail
    refine (ST2.out).mono ?_
    rintro e w2 ⟨r, A1, c1, A2, c2, hr, rfl, r1, r2, hb2⟩
    have hB2 := B0.trans (hb2.mono B0.size)
    have HS : Hid (SetE n es q d (setOut q r).1 (setOut q r).2.1 (setOut q r).2.2) := by
      unfold Hid SetE
      rw [if_pos HALL.out]
      exact ⟨r, hr, rfl⟩
    rcases stabOut_len HD.out hr with ⟨e1, e2, e3⟩ | ⟨e1, e2⟩
    · obtain ⟨o1, ho1⟩ : ∃ o1, (stabOut q r).1 = o1 := ⟨_, rfl⟩
      obtain ⟨o2, ho2⟩ : ∃ o2, (stabOut q r).2.1 = o2 := ⟨_, rfl⟩
      have HSO : Hid (setOut q r = (o1.set q 0, o2, 0)) := by unfold Hid setOut; rw [ho1, ho2, e1]
      rw [HSO.out] at HS
      rw [ho1] at r1 e2 ⊢
      rw [ho2] at r2 e3 ⊢
      rw [e1]
      have DC2 := Lib.hid (DC.out A1 c1 o1 (by omega) w2 r1)
      have HE2 := Lib.hid e2
      clear e1 e2 e3 ho1 ho2 hr
      go_wp2_with fail
      refine (DC2.out).mono ?_
      rintro e w3 ⟨A3, c3, rfl, o3, hb3⟩
      obtain ⟨g3, hA3, hg3, hf3, hc3⟩ := o3.block (by rw [HE2.out]; omega)
      subst hA3
      obtain ⟨z, hz⟩ := get_of_lt (xs := o1) (k := q) (by rw [HE2.out]; omega)
      have k0 := hc3 q z hz
      have f0 := hf3 q
      have O4 := o3.put q 0
      have b24 := hb3.setCell (p := ⟨g3, q, none⟩) hg3 (.int .i64 0)
      have R4 := (r2.below b24).more b24.size
      have B4 := ((hB2.trans (hb3.mono hB2.size)).setCell (p := ⟨g3, q, none⟩) (by show w.heap.size ≤ g3; have := hB2.size; omega) (.int .i64 0))
      have hq2 : (q : Int) < (o1.length : Int) := by have := HE2.out; omega
      have HO4 := Lib.hid O4
      have HR4 := Lib.hid R4
      clear hz hf3 hc3 O4 R4
      go_wp2
      go_ret3
      exact ⟨_, _, _, some ⟨g3, 0, none⟩, c3, A2, c2, HS.out, by rw [List.length_set]; rfl, HO4.out.mono hB2.size, HR4.out, B4⟩
    · obtain ⟨ev, hev⟩ : ∃ ev, (stabOut q r).2.2 = ev := ⟨_, rfl⟩
      rw [hev] at e1 e2
      have HSO : Hid (setOut q r = ([], [], ev)) := by unfold Hid setOut; rw [e2]; rfl
      rw [HSO.out] at HS
      rw [e2]
      have hne : (ev != 0) = true := by simpa using e1
      clear e1 e2 hev r1 r2 hr
      go_wp2
      go_ret3
      exact ⟨[], [], ev, none, 0, none, 0, HS.out, rfl, OwnI.nil_ _ _, Reads.nil_, hB2⟩
end Go.Proofs.YtdnoeaoelgehcaaGreat

