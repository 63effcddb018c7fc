/-
  Texts of this claim, put together: TConn, MadeG.
-/
import Derived.Test.YtplgbapbgcipdaaGreatDoorK22
import Derived.Test.YtplgbapbgcipdaaGreatDoorK21
/-! Package tree: connects. -/
namespace Go.Proofs.YtplgbapbgcipdaaGreatDoor
open Go.RowKit

theorem rootsR_succ (r : Nat → Nat) (k : Nat) : ((List.range (k + 1)).filter fun v => decide (r v = v)).length = ((List.range k).filter fun v => decide (r v = v)).length + if r k = k then 1 else 0 := by
  rw [List.range_succ, List.filter_append, List.length_append]
  congr 1
  by_cases h : r k = k
  · rw [if_pos h, List.filter_cons, decide_eq_true h]; rfl
  · rw [if_neg h, List.filter_cons, decide_eq_false h]; rfl

set_option maxRecDepth 100000 in
set_option maxHeartbeats 8000000 in
theorem connects12 (n : Nat) (hn1 : 1 ≤ n) (hn : n ≤ 12) (a0 a1 a2 a3 a4 a5 a6 a7 a8 a9 a10 a11 : Nat) (ps : List (Nat × Nat)) (hF : FR ps [a0, a1, a2, a3, a4, a5, a6, a7, a8, a9, a10, a11]) (hps : BdP n ps) (ms : List (Nat × Nat)) (hms : BdP n ms) (hml : ms.length ≤ 1000000) (Ar : Option Addr) (cr : Nat) (w : World) (h : Reads w w.heap.size 2 Ar ms.length (pair2 ms)) :
    Calls Tryz.prog 110 #[.int .i64 n, .agg #[.int .i64 a0, .int .i64 a1, .int .i64 a2, .int .i64 a3, .int .i64 a4, .int .i64 a5, .int .i64 a6, .int .i64 a7, .int .i64 a8, .int .i64 a9, .int .i64 a10, .int .i64 a11], .slice Ar ms.length cr] w fun e w' => e = .returned (.bool (decide (partsP n (ps ++ ms) = 1))) ∧ Below w.heap.size w w' := by
  have g0 : Blk (w.alloc (.cells #[.int .i64 a0, .int .i64 a1, .int .i64 a2, .int .i64 a3, .int .i64 a4, .int .i64 a5, .int .i64 a6, .int .i64 a7, .int .i64 a8, .int .i64 a9, .int .i64 a10, .int .i64 a11] 112)) w.heap.size 112 (fcells [a0, a1, a2, a3, a4, a5, a6, a7, a8, a9, a10, a11]) := Blk.new w _ _
  have hb0 : Below w.heap.size w (w.alloc (.cells #[.int .i64 a0, .int .i64 a1, .int .i64 a2, .int .i64 a3, .int .i64 a4, .int .i64 a5, .int .i64 a6, .int .i64 a7, .int .i64 a8, .int .i64 a9, .int .i64 a10, .int .i64 a11] 112)) := (Below.refl _ _).alloc (Nat.le_refl _) _
  obtain ⟨W0, hW0⟩ : ∃ W0, w.alloc (.cells #[.int .i64 a0, .int .i64 a1, .int .i64 a2, .int .i64 a3, .int .i64 a4, .int .i64 a5, .int .i64 a6, .int .i64 a7, .int .i64 a8, .int .i64 a9, .int .i64 a10, .int .i64 a11] 112) = W0 := ⟨_, rfl⟩
  rw [hW0] at g0 hb0
  obtain ⟨f, hf⟩ : ∃ f, [a0, a1, a2, a3, a4, a5, a6, a7, a8, a9, a10, a11] = f := ⟨_, rfl⟩
  rw [hf] at g0 hF
  obtain ⟨r, hh, hrp⟩ := hF
  have RC := Lib.hid (fun v hv W hW => troot_any w.heap.size ps f r hh hrp v hv W hW)
  have HRP := Lib.hid hrp
  have HMS := Lib.hid hms
  have HCN := Lib.hid (hrp.cnt n hn hps)
  have HP0 : Hid (∀ k, k ≤ n → ((List.range k).filter fun v => decide (r v = v)).length ≤ k) := fun k _ => Nat.le_trans (List.length_filter_le _ _) (by simp)
  have HPL : Hid (∀ qs, partsP n qs ≤ 12) := fun qs => by show (List.filter _ _).length ≤ 12; exact Nat.le_trans (List.length_filter_le _ _) (by simpa using hn)
  have HPP : Hid (∀ qs, 1 ≤ partsP n qs) := fun qs => partsP_pos (by omega)
  obtain ⟨res, hres⟩ : ∃ res, decide (partsP n (ps ++ ms) = 1) = res := ⟨_, rfl⟩
  have HRES := Lib.hid hres
  rw [hres]
  have HW0 := Lib.hid hW0
  clear hrp hms hps hf hW0 hres
  go_enter Tryz.func110, Tryz.ntmps110
  go_wp2_with fail
  try rw [HW0.out]
  go_loopw [7, 8, 12] (fun p _ i wr => ∃ k : Nat, k ≤ n ∧ i = .int .i64 k ∧ p = .int .i64 ((((List.range k).filter fun v => decide (r v = v)).length : Nat) : Int) ∧ W0 = wr) (fun _ _ i _ => n - (intOf i).toNat)
  case atStart => exact ⟨0, by omega, rfl, rfl, rfl⟩
  case round =>
    obtain ⟨k, hk, rfl, rfl, rfl⟩ := hrel
    by_cases hlt : k < n
    · have hi : (k : Int) < (n : Int) := by omega
      have hs := rootsR_succ r k
      have hp0 := HP0.out k hk
      obtain ⟨P, hP⟩ : ∃ P, ((List.range k).filter fun v => decide (r v = v)).length = P := ⟨_, rfl⟩
      rw [hP] at hs hp0 ⊢
      have HS := Lib.hid hs
      have RK := Lib.hid (RC.out k (by omega) W0 g0)
      have hwk : IntKind.i64.wrap ((P : Int) + 1) = (P : Int) + 1 := IntWalk.i64_in _ (by omega)
      clear hP hs
      by_cases hrk : r k = k
      · rw [hrk] at RK
        have hq : ((k : Int) == (k : Int)) = true := by simp
        have hn1 := HS.out
        rw [if_pos hrk] at hn1
        have HN := Lib.hid hn1
        clear hrk hn1
        go_wp2_with (go_at_call 87; (with_reducible refine (RK.out).mono ?_); rintro e w5 ⟨rfl, rfl⟩)
        go_roundw
        case rel => exact ⟨k + 1, by omega, by go_num, by rw [HN.out]; go_num, trivial⟩
        case measure => simp [intOf]; omega
      · obtain ⟨x, hx⟩ : ∃ x, r k = x := ⟨_, rfl⟩
        rw [hx] at RK hrk
        have hq : ((x : Int) == (k : Int)) = false := by simp; omega
        have hn1 := HS.out
        rw [if_neg (by rw [hx]; exact hrk)] at hn1
        have HN := Lib.hid hn1
        clear hrk hn1 hx
        go_wp2_with (go_at_call 87; (with_reducible refine (RK.out).mono ?_); rintro e w5 ⟨rfl, rfl⟩)
        go_roundw
        case rel => exact ⟨k + 1, by omega, by go_num, by rw [HN.out]; rfl, trivial⟩
        case measure => simp [intOf]; omega
    · obtain rfl : k = n := by omega
      rw [HCN.out]
      have hgl := g0.lt
      clear hlt
      go_wp2_with fail
      go_loopw [7, 10, 24] (fun p _ i wr => ∃ (j : Nat) (f' : List Nat), j ≤ ms.length ∧ i = .int .i64 j ∧ p = .int .i64 ((partsP k (ps ++ ms.take j) : Nat) : Int) ∧ Hid (FR (ps ++ ms.take j) f') ∧ Hid (Blk wr w.heap.size 112 (fcells f')) ∧ Hid (Below w.heap.size w wr)) (fun _ _ i _ => ms.length - (intOf i).toNat)
      case atStart => exact ⟨0, f, by omega, rfl, by rw [List.take_zero, List.append_nil], by rw [List.take_zero, List.append_nil]; exact ⟨r, hh, HRP.out⟩, g0, hb0⟩
      case round =>
        obtain ⟨j, f', hj, rfl, rfl, HF, HB, HW⟩ := hrel
        clear g0 hb0
        have hwz := HW.out.size
        by_cases hlt : j < ms.length
        · obtain ⟨⟨a, b⟩, hx⟩ := get_of_lt hlt
          have hab := HMS.out _ (List.mem_of_getElem? hx)
          dsimp only at hab
          have hi : (j : Int) < (ms.length : Int) := by omega
          obtain ⟨bA, oA, hA, hbA, q0, q1⟩ := (h.below HW.out).pairAt hx
          subst hA
          have B0 := HB.out.alloc (.cells #[.int .i64 a, .int .i64 b] 67)
          have JC := Lib.hid (tjoin_any w.heap.size (ps ++ ms.take j) f' HF.out a b (by omega) (by omega) _ B0)
          have ht := take_snoc hx
          have hpn : partsP k (ps ++ ms.take (j + 1)) + (if Cn (ps ++ ms.take j) a b then 0 else 1) = partsP k (ps ++ ms.take j) := by
            rw [ht, ← List.append_assoc]
            have hmm : ∀ p, p ∈ ps ++ ms.take j ++ [(a, b)] ↔ p ∈ (a, b) :: (ps ++ ms.take j) := fun p => by simp [or_comm, or_assoc]
            rw [partsP_congr fun _ _ => cn_same hmm]
            by_cases hc : Cn (ps ++ ms.take j) a b
            · rw [if_pos hc, partsP_in (p := (a, b)) hc]; rfl
            · rw [if_neg hc]; exact partsP_out (p := (a, b)) hab.1 hab.2 hc
          have hp1 := HPP.out (ps ++ ms.take (j + 1))
          have hp12 := HPL.out (ps ++ ms.take j)
          have HBA : Hid (Below w.heap.size w (wr.alloc (.cells #[.int .i64 a, .int .i64 b] 67))) := HW.out.alloc hwz _
          obtain ⟨P, hP⟩ : ∃ P, partsP k (ps ++ ms.take j) = P := ⟨_, rfl⟩
          obtain ⟨P', hP'⟩ : ∃ P', partsP k (ps ++ ms.take (j + 1)) = P' := ⟨_, rfl⟩
          rw [hP, hP'] at hpn
          rw [hP'] at hp1
          rw [hP] at hp12 ⊢
          have HT := Lib.hid ht
          have HP' := Lib.hid hP'
          have qb := Blk.new wr 67 #[.int .i64 a, .int .i64 b]
          have k0 := qb.cell 0
          have k1 := qb.cell 1
          clear hx hP hP' ht qb
          by_cases hc : Cn (ps ++ ms.take j) a b
          · rw [decide_eq_true hc] at JC
            rw [if_pos hc] at hpn
            have HN := Lib.hid hpn
            clear hc hpn
            go_wp2_with (go_at_call 86; (with_reducible refine (JC.out).mono ?_); rintro e w5 ⟨rfl, f'', HF', HB', ho⟩)
            have HW5 := Lib.hid (HBA.out.trans (ho.below (fun j hj e => by omega) HBA.out.size))
            go_roundw
            case rel => exact ⟨j + 1, f'', by omega, by go_num, by have := HN.out; rw [HP'.out]; congr 1; omega, by rw [Hid, HT.out, ← List.append_assoc]; exact HF'.out, HB', HW5⟩
            case measure => simp [intOf]; omega
          · rw [decide_eq_false hc] at JC
            rw [if_neg hc] at hpn
            have hwp : IntKind.i64.wrap ((P : Int) - 1) = (P : Int) - 1 := IntWalk.i64_in _ (by omega)
            have HN := Lib.hid hpn
            clear hc hpn
            go_wp2_with (go_at_call 86; (with_reducible refine (JC.out).mono ?_); rintro e w5 ⟨rfl, f'', HF', HB', ho⟩)
            have HW5 := Lib.hid (HBA.out.trans (ho.below (fun j hj e => by omega) HBA.out.size))
            go_roundw
            case rel => exact ⟨j + 1, f'', by omega, by go_num, by have := HN.out; rw [HP'.out]; congr 1; omega, by rw [Hid, HT.out, ← List.append_assoc]; exact HF'.out, HB', HW5⟩
            case measure => simp [intOf]; omega
        · obtain rfl : j = ms.length := by omega
          rw [List.take_length] at HF ⊢
          have HI : Hid ((((partsP k (ps ++ ms) : Nat) : Int) == 1) = res) := by
            rw [Hid, ← HRES.out, Bool.eq_iff_iff]; simp; omega
          obtain ⟨P, hP⟩ : ∃ P, partsP k (ps ++ ms) = P := ⟨_, rfl⟩
          rw [hP] at HI ⊢
          clear hP hlt
          go_wp2
          go_ret
          exact ⟨ret_bool HI.out, HW.out⟩
end Go.Proofs.YtplgbapbgcipdaaGreatDoor

/-! The graph of a list of single edges: it is right, and connects what they connect. -/
namespace Go.Proofs.YtplgbapbgcipdaaGreatDoor
open Go.RowKit

theorem mem_joinRow {f : Nat → Nat → Int} {a n : Nat} {e : E3} : e ∈ joinRow f a n ↔ ∃ b, a ≤ b ∧ b < n ∧ 0 < f a b ∧ e = ((a : Int), (b : Int), f a b) := by
  unfold joinRow
  rw [List.mem_filterMap]
  constructor
  · rintro ⟨j, hj, h⟩
    rw [List.mem_range'_1] at hj
    split at h
    · rename_i hp
      injection h with h
      exact ⟨j, hj.1, by omega, hp, h.symm⟩
    · cases h
  · rintro ⟨b, h1, h2, h3, rfl⟩
    exact ⟨b, by rw [List.mem_range'_1]; omega, by rw [if_pos h3]⟩
theorem mem_joinTo {f : Nat → Nat → Int} {n k : Nat} {e : E3} : e ∈ joinTo f n k ↔ ∃ a b, a < k ∧ a ≤ b ∧ b < n ∧ 0 < f a b ∧ e = ((a : Int), (b : Int), f a b) := by
  unfold joinTo
  rw [List.mem_flatMap]
  constructor
  · rintro ⟨a, ha, h⟩
    obtain ⟨b, h1, h2, h3, h4⟩ := mem_joinRow.1 h
    exact ⟨a, b, by simpa using ha, h1, h2, h3, h4⟩
  · rintro ⟨a, b, h0, h1, h2, h3, h4⟩
    exact ⟨a, by simpa using h0, mem_joinRow.2 ⟨b, h1, h2, h3, h4⟩⟩
theorem joinRow_sorted (f : Nat → Nat → Int) (a : Nat) : ∀ n, (joinRow f a n).Pairwise ltE
  | 0 => by rw [joinRow_none (by omega)]; exact .nil
  | n + 1 => by
    by_cases h : a ≤ n
    · rw [joinRow_succ h, List.pairwise_append]
      refine ⟨joinRow_sorted f a n, ?_, ?_⟩
      · split
        · exact List.pairwise_singleton _ _
        · exact .nil
      · intro x hx y hy
        obtain ⟨b, h1, h2, h3, rfl⟩ := mem_joinRow.1 hx
        split at hy
        · rw [List.mem_singleton] at hy
          subst hy
          unfold ltE; dsimp only; omega
        · simp at hy
    · rw [joinRow_none (by omega)]; exact .nil
theorem joinTo_sorted (f : Nat → Nat → Int) (n : Nat) : ∀ k, (joinTo f n k).Pairwise ltE
  | 0 => by simp [joinTo]
  | k + 1 => by
    rw [joinTo_succ, List.pairwise_append]
    refine ⟨joinTo_sorted f n k, joinRow_sorted f k n, ?_⟩
    intro x hx y hy
    obtain ⟨a, b, h0, h1, h2, h3, rfl⟩ := mem_joinTo.1 hx
    obtain ⟨b', h1', h2', h3', rfl⟩ := mem_joinRow.1 hy
    unfold ltE; dsimp only; omega
theorem joined_right {f : Nat → Nat → Int} {n : Nat} (h1 : 1 ≤ n) (hn : n ≤ 12) (hf : ∀ a b, a < n → b < n → f a b ≤ 50) : RightG n (joined f n) := by
  refine ⟨by omega, by omega, ?_, joinTo_sorted f n n⟩
  intro e he
  obtain ⟨a, b, h0, h2, h3, h4, rfl⟩ := mem_joinTo.1 he
  have := hf a b h0 h3
  unfold okE; dsimp only; omega
theorem cnt_le (ps : List (Nat × Nat)) (a b : Nat) : cnt ps a b ≤ ps.length := List.length_filter_le _ _
theorem cnt_pos {ps : List (Nat × Nat)} {a b : Nat} : 0 < cnt ps a b ↔ ∃ p ∈ ps, min p.1 p.2 = a ∧ max p.1 p.2 = b := by
  unfold cnt
  rw [List.length_pos_iff_exists_mem]
  constructor
  · rintro ⟨p, hp⟩
    rw [List.mem_filter, Bool.and_eq_true, decide_eq_true_eq, decide_eq_true_eq] at hp
    exact ⟨p, hp.1, hp.2⟩
  · rintro ⟨p, h1, h2⟩
    exact ⟨p, by rw [List.mem_filter, Bool.and_eq_true, decide_eq_true_eq, decide_eq_true_eq]; exact ⟨h1, h2⟩⟩
theorem made_right {n : Nat} {ps : List (Nat × Nat)} (h1 : 1 ≤ n) (hn : n ≤ 12) (hl : ps.length ≤ 50) : RightG n (madeS n ps) := joined_right h1 hn fun a b _ _ => by have := cnt_le ps a b; omega
/-- It connects what the single edges connect. -/
theorem made_cn {n : Nat} {ps : List (Nat × Nat)} (h1 : 1 ≤ n) (hn : n ≤ 12) (hl : ps.length ≤ 50) (hb : BdP n ps) {a b : Nat} : Cn (endsL (madeS n ps)) a b ↔ Cn ps a b := by
  have hG := made_right h1 hn hl
  constructor
  · intro h
    induction h with
    | refl => exact .refl
    | step _ hs ih =>
      have key : ∀ {x y : Nat}, (x, y) ∈ endsL (madeS n ps) → Cn ps x y := by
        intro x y hxy
        obtain ⟨e, he, e1, e2⟩ := (mem_endsL hG.ok).1 hxy
        obtain ⟨u, v, k0, k1, k2, k3, rfl⟩ := mem_joinTo.1 he
        dsimp only at e1 e2
        obtain ⟨p, hp, m1, m2⟩ := cnt_pos.1 (by omega : 0 < cnt ps u v)
        have hc := Cn.pair hp
        rcases Nat.le_total p.1 p.2 with h | h
        · have q1 : p.1 = x := by omega
          have q2 : p.2 = y := by omega
          rw [q1, q2] at hc; exact hc
        · have q1 : p.1 = y := by omega
          have q2 : p.2 = x := by omega
          rw [q1, q2] at hc; exact hc.symm
      rcases hs with hs | hs
      · exact ih.trans (key hs)
      · exact ih.trans (key hs).symm
  · intro h
    induction h with
    | refl => exact .refl
    | step _ hs ih =>
      have key : ∀ {x y : Nat}, (x, y) ∈ ps → Cn (endsL (madeS n ps)) x y := by
        intro x y hxy
        have hb' := hb _ hxy
        dsimp only at hb'
        have hc : 0 < cnt ps (min x y) (max x y) := cnt_pos.2 ⟨(x, y), hxy, rfl, rfl⟩
        have hm : (((min x y : Nat) : Int), ((max x y : Nat) : Int), (cnt ps (min x y) (max x y) : Int)) ∈ madeS n ps := mem_joinTo.2 ⟨min x y, max x y, by omega, by omega, by omega, by omega, rfl⟩
        have : (min x y, max x y) ∈ endsL (madeS n ps) := (mem_endsL hG.ok).2 ⟨_, hm, rfl, rfl⟩
        have hc2 := Cn.pair this
        dsimp only at hc2
        rcases Nat.le_total x y with h | h
        · rw [Nat.min_eq_left h, Nat.max_eq_right h] at hc2; exact hc2
        · rw [Nat.min_eq_right h, Nat.max_eq_left h] at hc2; exact hc2.symm
      rcases hs with hs | hs
      · exact ih.trans (key hs)
      · exact ih.trans (key hs).symm
theorem made_parts {n : Nat} {ps : List (Nat × Nat)} (h1 : 1 ≤ n) (hn : n ≤ 12) (hl : ps.length ≤ 50) (hb : BdP n ps) : connB n (madeS n ps) = decide (partsP n ps = 1) := by
  rw [connB_parts (made_right h1 hn hl), partsP_congr fun _ _ => made_cn h1 hn hl hb]
theorem pairCells_pair2 (ps : List (Nat × Nat)) : pairCells ps = pair2 ps := by
  induction ps with
  | nil => rfl
  | cons p ps ih => rw [pairCells, ih]; rfl
end Go.Proofs.YtplgbapbgcipdaaGreatDoor

