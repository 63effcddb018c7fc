/-
  Texts of this claim, put together: TConn, RTreeE.
-/
import Derived.Test.YtnbikkcalcpedaaGreatDoorK19
import Derived.Test.YtnbikkcalcpedaaGreatDoorK18
import Derived.Test.YtnbikkcalcpedaaGreatDoorK22
/-! Package tree: connects. -/
namespace Go.Proofs.YtnbikkcalcpedaaGreatDoor
open Go.RowKit

theorem rootsR_succ (r : Nat → Nat) (k : Nat) : ((List.range (k + 1)).filter fun v => decide (r v = v)).length = ((List.range k).filter fun v => decide (r v = v)).length + if r k = k then 1 else 0 := by
  rw [List.range_succ, List.filter_append, List.length_append]
  congr 1
  by_cases h : r k = k
  · rw [if_pos h, List.filter_cons, decide_eq_true h]; rfl
  · rw [if_neg h, List.filter_cons, decide_eq_false h]; rfl

set_option maxRecDepth 100000 in
set_option maxHeartbeats 8000000 in
theorem connects12 (n : Nat) (hn1 : 1 ≤ n) (hn : n ≤ 12) (a0 a1 a2 a3 a4 a5 a6 a7 a8 a9 a10 a11 : Nat) (ps : List (Nat × Nat)) (hF : FR ps [a0, a1, a2, a3, a4, a5, a6, a7, a8, a9, a10, a11]) (hps : BdP n ps) (ms : List (Nat × Nat)) (hms : BdP n ms) (hml : ms.length ≤ 1000000) (Ar : Option Addr) (cr : Nat) (w : World) (h : Reads w w.heap.size 2 Ar ms.length (pair2 ms)) :
    Calls Tryz.prog 161 #[.int .i64 n, .agg #[.int .i64 a0, .int .i64 a1, .int .i64 a2, .int .i64 a3, .int .i64 a4, .int .i64 a5, .int .i64 a6, .int .i64 a7, .int .i64 a8, .int .i64 a9, .int .i64 a10, .int .i64 a11], .slice Ar ms.length cr] w fun e w' => e = .returned (.bool (decide (partsP n (ps ++ ms) = 1))) ∧ Below w.heap.size w w' := by
  have g0 : Blk (w.alloc (.cells #[.int .i64 a0, .int .i64 a1, .int .i64 a2, .int .i64 a3, .int .i64 a4, .int .i64 a5, .int .i64 a6, .int .i64 a7, .int .i64 a8, .int .i64 a9, .int .i64 a10, .int .i64 a11] 174)) w.heap.size 174 (fcells [a0, a1, a2, a3, a4, a5, a6, a7, a8, a9, a10, a11]) := Blk.new w _ _
  have hb0 : Below w.heap.size w (w.alloc (.cells #[.int .i64 a0, .int .i64 a1, .int .i64 a2, .int .i64 a3, .int .i64 a4, .int .i64 a5, .int .i64 a6, .int .i64 a7, .int .i64 a8, .int .i64 a9, .int .i64 a10, .int .i64 a11] 174)) := (Below.refl _ _).alloc (Nat.le_refl _) _
  obtain ⟨W0, hW0⟩ : ∃ W0, w.alloc (.cells #[.int .i64 a0, .int .i64 a1, .int .i64 a2, .int .i64 a3, .int .i64 a4, .int .i64 a5, .int .i64 a6, .int .i64 a7, .int .i64 a8, .int .i64 a9, .int .i64 a10, .int .i64 a11] 174) = W0 := ⟨_, rfl⟩
  rw [hW0] at g0 hb0
  obtain ⟨f, hf⟩ : ∃ f, [a0, a1, a2, a3, a4, a5, a6, a7, a8, a9, a10, a11] = f := ⟨_, rfl⟩
  rw [hf] at g0 hF
  obtain ⟨r, hh, hrp⟩ := hF
  have RC := Lib.hid (fun v hv W hW => troot_any w.heap.size ps f r hh hrp v hv W hW)
  have HRP := Lib.hid hrp
  have HMS := Lib.hid hms
  have HCN := Lib.hid (hrp.cnt n hn hps)
  have HP0 : Hid (∀ k, k ≤ n → ((List.range k).filter fun v => decide (r v = v)).length ≤ k) := fun k _ => Nat.le_trans (List.length_filter_le _ _) (by simp)
  have HPL : Hid (∀ qs, partsP n qs ≤ 12) := fun qs => by show (List.filter _ _).length ≤ 12; exact Nat.le_trans (List.length_filter_le _ _) (by simpa using hn)
  have HPP : Hid (∀ qs, 1 ≤ partsP n qs) := fun qs => partsP_pos (by omega)
  obtain ⟨res, hres⟩ : ∃ res, decide (partsP n (ps ++ ms) = 1) = res := ⟨_, rfl⟩
  have HRES := Lib.hid hres
  rw [hres]
  have HW0 := Lib.hid hW0
  clear hrp hms hps hf hW0 hres
  go_enter Tryz.func161, Tryz.ntmps161
  go_wp2_with fail
  try rw [HW0.out]
  go_loopw [7, 8, 12] (fun p _ i wr => ∃ k : Nat, k ≤ n ∧ i = .int .i64 k ∧ p = .int .i64 ((((List.range k).filter fun v => decide (r v = v)).length : Nat) : Int) ∧ W0 = wr) (fun _ _ i _ => n - (intOf i).toNat)
  case atStart => exact ⟨0, by omega, rfl, rfl, rfl⟩
  case round =>
    obtain ⟨k, hk, rfl, rfl, rfl⟩ := hrel
    by_cases hlt : k < n
    · have hi : (k : Int) < (n : Int) := by omega
      have hs := rootsR_succ r k
      have hp0 := HP0.out k hk
      obtain ⟨P, hP⟩ : ∃ P, ((List.range k).filter fun v => decide (r v = v)).length = P := ⟨_, rfl⟩
      rw [hP] at hs hp0 ⊢
      have HS := Lib.hid hs
      have RK := Lib.hid (RC.out k (by omega) W0 g0)
      have hwk : IntKind.i64.wrap ((P : Int) + 1) = (P : Int) + 1 := IntWalk.i64_in _ (by omega)
      clear hP hs
      by_cases hrk : r k = k
      · rw [hrk] at RK
        have hq : ((k : Int) == (k : Int)) = true := by simp
        have hn1 := HS.out
        rw [if_pos hrk] at hn1
        have HN := Lib.hid hn1
        clear hrk hn1
        go_wp2_with (go_at_call 132; (with_reducible refine (RK.out).mono ?_); rintro e w5 ⟨rfl, rfl⟩)
        go_roundw
        case rel => exact ⟨k + 1, by omega, by go_num, by rw [HN.out]; go_num, trivial⟩
        case measure => simp [intOf]; omega
      · obtain ⟨x, hx⟩ : ∃ x, r k = x := ⟨_, rfl⟩
        rw [hx] at RK hrk
        have hq : ((x : Int) == (k : Int)) = false := by simp; omega
        have hn1 := HS.out
        rw [if_neg (by rw [hx]; exact hrk)] at hn1
        have HN := Lib.hid hn1
        clear hrk hn1 hx
        go_wp2_with (go_at_call 132; (with_reducible refine (RK.out).mono ?_); rintro e w5 ⟨rfl, rfl⟩)
        go_roundw
        case rel => exact ⟨k + 1, by omega, by go_num, by rw [HN.out]; rfl, trivial⟩
        case measure => simp [intOf]; omega
    · obtain rfl : k = n := by omega
      rw [HCN.out]
      have hgl := g0.lt
      clear hlt
      go_wp2_with fail
      go_loopw [7, 10, 24] (fun p _ i wr => ∃ (j : Nat) (f' : List Nat), j ≤ ms.length ∧ i = .int .i64 j ∧ p = .int .i64 ((partsP k (ps ++ ms.take j) : Nat) : Int) ∧ Hid (FR (ps ++ ms.take j) f') ∧ Hid (Blk wr w.heap.size 174 (fcells f')) ∧ Hid (Below w.heap.size w wr)) (fun _ _ i _ => ms.length - (intOf i).toNat)
      case atStart => exact ⟨0, f, by omega, rfl, by rw [List.take_zero, List.append_nil], by rw [List.take_zero, List.append_nil]; exact ⟨r, hh, HRP.out⟩, g0, hb0⟩
      case round =>
        obtain ⟨j, f', hj, rfl, rfl, HF, HB, HW⟩ := hrel
        clear g0 hb0
        have hwz := HW.out.size
        by_cases hlt : j < ms.length
        · obtain ⟨⟨a, b⟩, hx⟩ := get_of_lt hlt
          have hab := HMS.out _ (List.mem_of_getElem? hx)
          dsimp only at hab
          have hi : (j : Int) < (ms.length : Int) := by omega
          obtain ⟨bA, oA, hA, hbA, q0, q1⟩ := (h.below HW.out).pairAt hx
          subst hA
          have B0 := HB.out.alloc (.cells #[.int .i64 a, .int .i64 b] 50)
          have JC := Lib.hid (tjoin_any w.heap.size (ps ++ ms.take j) f' HF.out a b (by omega) (by omega) _ B0)
          have ht := take_snoc hx
          have hpn : partsP k (ps ++ ms.take (j + 1)) + (if Cn (ps ++ ms.take j) a b then 0 else 1) = partsP k (ps ++ ms.take j) := by
            rw [ht, ← List.append_assoc]
            have hmm : ∀ p, p ∈ ps ++ ms.take j ++ [(a, b)] ↔ p ∈ (a, b) :: (ps ++ ms.take j) := fun p => by simp [or_comm, or_assoc]
            rw [partsP_congr fun _ _ => cn_same hmm]
            by_cases hc : Cn (ps ++ ms.take j) a b
            · rw [if_pos hc, partsP_in (p := (a, b)) hc]; rfl
            · rw [if_neg hc]; exact partsP_out (p := (a, b)) hab.1 hab.2 hc
          have hp1 := HPP.out (ps ++ ms.take (j + 1))
          have hp12 := HPL.out (ps ++ ms.take j)
          have HBA : Hid (Below w.heap.size w (wr.alloc (.cells #[.int .i64 a, .int .i64 b] 50))) := HW.out.alloc hwz _
          obtain ⟨P, hP⟩ : ∃ P, partsP k (ps ++ ms.take j) = P := ⟨_, rfl⟩
          obtain ⟨P', hP'⟩ : ∃ P', partsP k (ps ++ ms.take (j + 1)) = P' := ⟨_, rfl⟩
          rw [hP, hP'] at hpn
          rw [hP'] at hp1
          rw [hP] at hp12 ⊢
          have HT := Lib.hid ht
          have HP' := Lib.hid hP'
          have qb := Blk.new wr 50 #[.int .i64 a, .int .i64 b]
          have k0 := qb.cell 0
          have k1 := qb.cell 1
          clear hx hP hP' ht qb
          by_cases hc : Cn (ps ++ ms.take j) a b
          · rw [decide_eq_true hc] at JC
            rw [if_pos hc] at hpn
            have HN := Lib.hid hpn
            clear hc hpn
            go_wp2_with (go_at_call 131; (with_reducible refine (JC.out).mono ?_); rintro e w5 ⟨rfl, f'', HF', HB', ho⟩)
            have HW5 := Lib.hid (HBA.out.trans (ho.below (fun j hj e => by omega) HBA.out.size))
            go_roundw
            case rel => exact ⟨j + 1, f'', by omega, by go_num, by have := HN.out; rw [HP'.out]; congr 1; omega, by rw [Hid, HT.out, ← List.append_assoc]; exact HF'.out, HB', HW5⟩
            case measure => simp [intOf]; omega
          · rw [decide_eq_false hc] at JC
            rw [if_neg hc] at hpn
            have hwp : IntKind.i64.wrap ((P : Int) - 1) = (P : Int) - 1 := IntWalk.i64_in _ (by omega)
            have HN := Lib.hid hpn
            clear hc hpn
            go_wp2_with (go_at_call 131; (with_reducible refine (JC.out).mono ?_); rintro e w5 ⟨rfl, f'', HF', HB', ho⟩)
            have HW5 := Lib.hid (HBA.out.trans (ho.below (fun j hj e => by omega) HBA.out.size))
            go_roundw
            case rel => exact ⟨j + 1, f'', by omega, by go_num, by have := HN.out; rw [HP'.out]; congr 1; omega, by rw [Hid, HT.out, ← List.append_assoc]; exact HF'.out, HB', HW5⟩
            case measure => simp [intOf]; omega
        · obtain rfl : j = ms.length := by omega
          rw [List.take_length] at HF ⊢
          have HI : Hid ((((partsP k (ps ++ ms) : Nat) : Int) == 1) = res) := by
            rw [Hid, ← HRES.out, Bool.eq_iff_iff]; simp; omega
          obtain ⟨P, hP⟩ : ∃ P, partsP k (ps ++ ms) = P := ⟨_, rfl⟩
          rw [hP] at HI ⊢
          clear hP hlt
          go_wp2
          go_ret
          exact ⟨ret_bool HI.out, HW.out⟩
end Go.Proofs.YtnbikkcalcpedaaGreatDoor

/-! ref08.Ends with what it holds. -/
namespace Go.Proofs.YtnbikkcalcpedaaGreatDoor
open Go.RowKit

theorem size_ends {es : List E3} : sizeE es = (endsL es).length := by
  unfold sizeE endsL
  induction es with
  | nil => rfl
  | cons e es ih => simp only [List.map_cons, List.sum_cons, List.flatMap_cons, List.length_append, List.length_replicate, ih]

set_option maxRecDepth 100000 in
set_option maxHeartbeats 4000000 in
theorem rendsC_any (n : Int) (A : Option Addr) (c : Nat) (es : List E3) (hn : es.length ≤ 40) (N : Int) (hok : ∀ e ∈ es, okE N e) (w : World) (h : Reads w w.heap.size 3 A es.length (edgeCells es)) :
    Calls Tryz.prog 24 #[.agg #[.int .i64 n, .slice A es.length c]] w fun e w' => ∃ A' c', e = .returned (.slice A' (endsL es).length c') ∧ OwnQ w' w.heap.size A' c' (endsL es) ∧ Below w.heap.size w w' := by
  have HO := Lib.hid hok
  have HSZ : Hid (∀ k, (endsL (es.take k)).length ≤ 2000) := fun k => by
    rw [← size_ends]
    exact Nat.le_trans (sizeE_bd (N := N) fun e he => hok e (List.mem_of_mem_take he)) (by rw [List.length_take]; omega)
  have g0 := Blk.new w 24 #[.int .i64 n, .slice A es.length c]
  clear hok
  go_enter Tryz.func24, Tryz.ntmps24
  go_wp2
  go_loopw [3, 4] (fun s i wr => ∃ (k : Nat) (A' : Option Addr) (c' : Nat) (ps : List (Nat × Nat)), k ≤ es.length ∧ i = .int .i64 k ∧ s = .slice A' ps.length c' ∧ Hid (endsL (es.take k) = ps) ∧ Hid (OwnQ wr w.heap.size A' c' ps) ∧ Hid (Below w.heap.size w wr) ∧ Hid (Blk wr w.heap.size 24 #[.int .i64 n, .slice A es.length c])) (fun _ i _ => es.length - (intOf i).toNat)
  case atStart => exact ⟨0, none, 0, [], by omega, rfl, rfl, rfl, World.ownsRow_nil _ _ _ _, (Below.refl _ _).alloc (Nat.le_refl _) _, g0⟩
  case round =>
    obtain ⟨k, A', c', ps, hk, rfl, rfl, HM, HOW, HB, HG⟩ := hrel
    clear g0
    have c1 := HG.out.cell 1
    by_cases hlt : k < es.length
    · obtain ⟨⟨x, y, z⟩, hx⟩ := get_of_lt hlt
      have hokx := HO.out _ (List.mem_of_getElem? hx)
      unfold okE at hokx
      dsimp only at hokx
      obtain ⟨zn, rfl⟩ := Int.eq_ofNat_of_zero_le (show 0 ≤ z by omega)
      obtain ⟨xn, rfl⟩ := Int.eq_ofNat_of_zero_le (show 0 ≤ x by omega)
      obtain ⟨yn, rfl⟩ := Int.eq_ofNat_of_zero_le (show 0 ≤ y by omega)
      have hst := endsL_snoc hx
      rw [HM.out] at hst
      dsimp only at hst
      rw [Int.toNat_natCast, Int.toNat_natCast, Int.toNat_natCast] at hst
      have hmax := HSZ.out (k + 1)
      rw [hst, List.length_append, List.length_replicate] at hmax
      have HST := Lib.hid hst
      have HX := Lib.hid hx
      have hi : (k : Int) < (es.length : Int) := by omega
      clear hst hx hokx
      go_wp2
      obtain ⟨wo, rfl⟩ : ∃ wo : World, wo = wr := ⟨_, rfl⟩
      go_loopw [3, 5] (fun s i wr => ∃ (j : Nat) (A' : Option Addr) (c' : Nat) (qs : List (Nat × Nat)), j ≤ zn ∧ i = .int .i64 j ∧ s = .slice A' qs.length c' ∧ Hid (qs = ps ++ List.replicate j (xn, yn)) ∧ Hid (qs.length = ps.length + j) ∧ Hid (OwnQ wr w.heap.size A' c' qs) ∧ Hid (Below w.heap.size w wr) ∧ Hid (Blk wr w.heap.size 24 #[.int .i64 n, .slice A es.length c])) (fun _ i _ => zn - (intOf i).toNat)
      case atStart => exact ⟨0, A', c', ps, by omega, rfl, rfl, by simp [Hid], by simp [Hid], HOW, HB, HG⟩
      case round =>
        clear HOW HB HG c1
        obtain ⟨j, A', c', qs, hj, rfl, rfl, HQ, HQL, HOW, HB, HG⟩ := hrel
        have hsz := HB.out.size
        have g1 := HG.out
        have c1 := g1.cell 1
        obtain ⟨bb, off, hA, hbb, q1, q2, q3⟩ := (h.below HB.out).edge HX.out
        subst hA
        dsimp only at q1 q2 q3
        by_cases hlt2 : j < zn
        · have hi2 : (j : Int) < (zn : Int) := by omega
          have hownA : (wr.drew.alloc (.cells #[.int .i64 xn, .int .i64 yn] 50)).ownsRow w.heap.size 50 2 (.slice A' qs.length c') qs.length (pair2 qs) := World.ownsRow.alloc (World.ownsRow.drew HOW.out) _
          have hz : w.heap.size ≤ (wr.drew.alloc (.cells #[.int .i64 xn, .int .i64 yn] 50)).heap.size := by show _ ≤ (wr.alloc _).heap.size; simp; omega
          have hq2 : qs.length + 1 ≤ 1048576 := by have := HQL.out; omega
          go_wp2
          go_region_law (refine append_step2 rfl (.tmp 23) (.tmp 37) _ _ rfl w.heap.size 50 50 Tryz.underlying48 Tryz.underlying48 info_pair2 rfl (by omega) A' c' qs.length (pair2 qs) rfl (by exact hownA) _ [.int .i64 xn, .int .i64 yn] rfl (by exact Reads.boxN wr.drew #[.int .i64 xn, .int .i64 yn] 50) (by simp [Value.oneCell']) hq2 (by exact hz) ?_; intro A3 c3 W3 hown3 hgr3 hb3 _)
          all_goals (
            have g2 : Blk W3 w.heap.size 24 #[.int .i64 n, .slice (some ⟨bb, off, none⟩) es.length c] := Blk.grown (h := (g1.drew.alloc (.cells #[.int .i64 xn, .int .i64 yn] 50))) hgr3 (own_blk_ne hownA (g1.drew.alloc _) (by decide))
            have hb4 : Below w.heap.size w W3 := (HB.out.drew.alloc hsz (.cells #[.int .i64 xn, .int .i64 yn] 50)).trans hb3
            have hq3 : OwnQ W3 w.heap.size A3 c3 (qs ++ [(xn, yn)]) := (by unfold OwnQ; rw [List.length_append, pair2_snoc]; exact hown3)
            have HQ3 := Lib.hid hq3
            have HB4 := Lib.hid hb4
            have HG2 := Lib.hid g2
            clear hq3 hb4 g2 hown3 hgr3 hb3
            go_wp2
            go_roundw
            case rel => exact ⟨j + 1, A3, c3, qs ++ [(xn, yn)], by omega, by go_num, by simp, by rw [Hid, HQ.out, List.replicate_succ', List.append_assoc], by rw [Hid, List.length_append, HQL.out]; simp; omega, HQ3, HB4, HG2⟩
            case measure => simp [intOf]; omega)
        · obtain rfl : j = zn := by omega
          have hfin : Hid (endsL (es.take (k + 1)) = qs) := by rw [Hid, HST.out, HQ.out]
          go_wp2
          go_roundw
          case rel => exact ⟨k + 1, A', c', qs, by omega, by go_num, rfl, hfin, HOW, HB, HG⟩
          case measure => simp [intOf]; omega
    · obtain rfl : k = es.length := by omega
      rw [List.take_length] at HM
      go_wp2
      go_ret
      exact ⟨A', c', by rw [HM.out]; rfl, by rw [HM.out]; exact HOW.out, HB.out⟩
end Go.Proofs.YtnbikkcalcpedaaGreatDoor

