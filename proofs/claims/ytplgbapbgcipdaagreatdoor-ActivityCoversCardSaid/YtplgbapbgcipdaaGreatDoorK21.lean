/-
  Texts of this claim, put together: TConn, FewT, MadeG, Way.
-/
import Derived.Test.YtplgbapbgcipdaaGreatDoorK17
import Derived.Test.YtplgbapbgcipdaaGreatDoorK19
import Derived.Test.YtplgbapbgcipdaaGreatDoorK16
import Derived.Test.YtplgbapbgcipdaaGreatDoorK20
import Derived.Test.YtplgbapbgcipdaaGreatDoorK10
import Derived.Laws.EntriesVeiled
/-! Package tree: connects. -/
namespace Go.Proofs.YtplgbapbgcipdaaGreatDoor
open Go.RowKit

theorem rootsR_succ (r : Nat → Nat) (k : Nat) : ((List.range (k + 1)).filter fun v => decide (r v = v)).length = ((List.range k).filter fun v => decide (r v = v)).length + if r k = k then 1 else 0 := by
  rw [List.range_succ, List.filter_append, List.length_append]
  congr 1
  by_cases h : r k = k
  · rw [if_pos h, List.filter_cons, decide_eq_true h]; rfl
  · rw [if_neg h, List.filter_cons, decide_eq_false h]; rfl

set_option maxRecDepth 100000 in
set_option maxHeartbeats 8000000 in
theorem connects12 (n : Nat) (hn1 : 1 ≤ n) (hn : n ≤ 12) (a0 a1 a2 a3 a4 a5 a6 a7 a8 a9 a10 a11 : Nat) (ps : List (Nat × Nat)) (hF : FR ps [a0, a1, a2, a3, a4, a5, a6, a7, a8, a9, a10, a11]) (hps : BdP n ps) (ms : List (Nat × Nat)) (hms : BdP n ms) (hml : ms.length ≤ 1000000) (Ar : Option Addr) (cr : Nat) (w : World) (h : Reads w w.heap.size 2 Ar ms.length (pair2 ms)) :
    Calls Tryz.prog 110 #[.int .i64 n, .agg #[.int .i64 a0, .int .i64 a1, .int .i64 a2, .int .i64 a3, .int .i64 a4, .int .i64 a5, .int .i64 a6, .int .i64 a7, .int .i64 a8, .int .i64 a9, .int .i64 a10, .int .i64 a11], .slice Ar ms.length cr] w fun e w' => e = .returned (.bool (decide (partsP n (ps ++ ms) = 1))) ∧ Below w.heap.size w w' := by
  have g0 : Blk (w.alloc (.cells #[.int .i64 a0, .int .i64 a1, .int .i64 a2, .int .i64 a3, .int .i64 a4, .int .i64 a5, .int .i64 a6, .int .i64 a7, .int .i64 a8, .int .i64 a9, .int .i64 a10, .int .i64 a11] 112)) w.heap.size 112 (fcells [a0, a1, a2, a3, a4, a5, a6, a7, a8, a9, a10, a11]) := Blk.new w _ _
  have hb0 : Below w.heap.size w (w.alloc (.cells #[.int .i64 a0, .int .i64 a1, .int .i64 a2, .int .i64 a3, .int .i64 a4, .int .i64 a5, .int .i64 a6, .int .i64 a7, .int .i64 a8, .int .i64 a9, .int .i64 a10, .int .i64 a11] 112)) := (Below.refl _ _).alloc (Nat.le_refl _) _
  obtain ⟨W0, hW0⟩ : ∃ W0, w.alloc (.cells #[.int .i64 a0, .int .i64 a1, .int .i64 a2, .int .i64 a3, .int .i64 a4, .int .i64 a5, .int .i64 a6, .int .i64 a7, .int .i64 a8, .int .i64 a9, .int .i64 a10, .int .i64 a11] 112) = W0 := ⟨_, rfl⟩
  rw [hW0] at g0 hb0
  obtain ⟨f, hf⟩ : ∃ f, [a0, a1, a2, a3, a4, a5, a6, a7, a8, a9, a10, a11] = f := ⟨_, rfl⟩
  rw [hf] at g0 hF
  obtain ⟨r, hh, hrp⟩ := hF
  have RC := Lib.hid (fun v hv W hW => troot_any w.heap.size ps f r hh hrp v hv W hW)
  have HRP := Lib.hid hrp
  have HMS := Lib.hid hms
  have HCN := Lib.hid (hrp.cnt n hn hps)
  have HP0 : Hid (∀ k, k ≤ n → ((List.range k).filter fun v => decide (r v = v)).length ≤ k) := fun k _ => Nat.le_trans (List.length_filter_le _ _) (by simp)
  have HPL : Hid (∀ qs, partsP n qs ≤ 12) := fun qs => by show (List.filter _ _).length ≤ 12; exact Nat.le_trans (List.length_filter_le _ _) (by simpa using hn)
  have HPP : Hid (∀ qs, 1 ≤ partsP n qs) := fun qs => partsP_pos (by omega)
  obtain ⟨res, hres⟩ : ∃ res, decide (partsP n (ps ++ ms) = 1) = res := ⟨_, rfl⟩
  have HRES := Lib.hid hres
  rw [hres]
  have HW0 := Lib.hid hW0
  clear hrp hms hps hf hW0 hres
  go_enter Tryz.func110, Tryz.ntmps110
  go_wp2_with fail
  try rw [HW0.out]
  go_loopw [7, 8, 12] (fun p _ i wr => ∃ k : Nat, k ≤ n ∧ i = .int .i64 k ∧ p = .int .i64 ((((List.range k).filter fun v => decide (r v = v)).length : Nat) : Int) ∧ W0 = wr) (fun _ _ i _ => n - (intOf i).toNat)
  case atStart => exact ⟨0, by omega, rfl, rfl, rfl⟩
  case round =>
    obtain ⟨k, hk, rfl, rfl, rfl⟩ := hrel
    by_cases hlt : k < n
    · have hi : (k : Int) < (n : Int) := by omega
      have hs := rootsR_succ r k
      have hp0 := HP0.out k hk
      obtain ⟨P, hP⟩ : ∃ P, ((List.range k).filter fun v => decide (r v = v)).length = P := ⟨_, rfl⟩
      rw [hP] at hs hp0 ⊢
      have HS := Lib.hid hs
      have RK := Lib.hid (RC.out k (by omega) W0 g0)
      have hwk : IntKind.i64.wrap ((P : Int) + 1) = (P : Int) + 1 := IntWalk.i64_in _ (by omega)
      clear hP hs
      by_cases hrk : r k = k
      · rw [hrk] at RK
        have hq : ((k : Int) == (k : Int)) = true := by simp
        have hn1 := HS.out
        rw [if_pos hrk] at hn1
        have HN := Lib.hid hn1
        clear hrk hn1
        go_wp2_with (go_at_call 87; (with_reducible refine (RK.out).mono ?_); rintro e w5 ⟨rfl, rfl⟩)
        go_roundw
        case rel => exact ⟨k + 1, by omega, by go_num, by rw [HN.out]; go_num, trivial⟩
        case measure => simp [intOf]; omega
      · obtain ⟨x, hx⟩ : ∃ x, r k = x := ⟨_, rfl⟩
        rw [hx] at RK hrk
        have hq : ((x : Int) == (k : Int)) = false := by simp; omega
        have hn1 := HS.out
        rw [if_neg (by rw [hx]; exact hrk)] at hn1
        have HN := Lib.hid hn1
        clear hrk hn1 hx
        go_wp2_with (go_at_call 87; (with_reducible refine (RK.out).mono ?_); rintro e w5 ⟨rfl, rfl⟩)
        go_roundw
        case rel => exact ⟨k + 1, by omega, by go_num, by rw [HN.out]; rfl, trivial⟩
        case measure => simp [intOf]; omega
    · obtain rfl : k = n := by omega
      rw [HCN.out]
      have hgl := g0.lt
      clear hlt
      go_wp2_with fail
      go_loopw [7, 10, 24] (fun p _ i wr => ∃ (j : Nat) (f' : List Nat), j ≤ ms.length ∧ i = .int .i64 j ∧ p = .int .i64 ((partsP k (ps ++ ms.take j) : Nat) : Int) ∧ Hid (FR (ps ++ ms.take j) f') ∧ Hid (Blk wr w.heap.size 112 (fcells f')) ∧ Hid (Below w.heap.size w wr)) (fun _ _ i _ => ms.length - (intOf i).toNat)
      case atStart => exact ⟨0, f, by omega, rfl, by rw [List.take_zero, List.append_nil], by rw [List.take_zero, List.append_nil]; exact ⟨r, hh, HRP.out⟩, g0, hb0⟩
      case round =>
        obtain ⟨j, f', hj, rfl, rfl, HF, HB, HW⟩ := hrel
        clear g0 hb0
        have hwz := HW.out.size
        by_cases hlt : j < ms.length
        · obtain ⟨⟨a, b⟩, hx⟩ := get_of_lt hlt
          have hab := HMS.out _ (List.mem_of_getElem? hx)
          dsimp only at hab
          have hi : (j : Int) < (ms.length : Int) := by omega
          obtain ⟨bA, oA, hA, hbA, q0, q1⟩ := (h.below HW.out).pairAt hx
          subst hA
          have B0 := HB.out.alloc (.cells #[.int .i64 a, .int .i64 b] 67)
          have JC := Lib.hid (tjoin_any w.heap.size (ps ++ ms.take j) f' HF.out a b (by omega) (by omega) _ B0)
          have ht := take_snoc hx
          have hpn : partsP k (ps ++ ms.take (j + 1)) + (if Cn (ps ++ ms.take j) a b then 0 else 1) = partsP k (ps ++ ms.take j) := by
            rw [ht, ← List.append_assoc]
            have hmm : ∀ p, p ∈ ps ++ ms.take j ++ [(a, b)] ↔ p ∈ (a, b) :: (ps ++ ms.take j) := fun p => by simp [or_comm, or_assoc]
            rw [partsP_congr fun _ _ => cn_same hmm]
            by_cases hc : Cn (ps ++ ms.take j) a b
            · rw [if_pos hc, partsP_in (p := (a, b)) hc]; rfl
            · rw [if_neg hc]; exact partsP_out (p := (a, b)) hab.1 hab.2 hc
          have hp1 := HPP.out (ps ++ ms.take (j + 1))
          have hp12 := HPL.out (ps ++ ms.take j)
          have HBA : Hid (Below w.heap.size w (wr.alloc (.cells #[.int .i64 a, .int .i64 b] 67))) := HW.out.alloc hwz _
          obtain ⟨P, hP⟩ : ∃ P, partsP k (ps ++ ms.take j) = P := ⟨_, rfl⟩
          obtain ⟨P', hP'⟩ : ∃ P', partsP k (ps ++ ms.take (j + 1)) = P' := ⟨_, rfl⟩
          rw [hP, hP'] at hpn
          rw [hP'] at hp1
          rw [hP] at hp12 ⊢
          have HT := Lib.hid ht
          have HP' := Lib.hid hP'
          have qb := Blk.new wr 67 #[.int .i64 a, .int .i64 b]
          have k0 := qb.cell 0
          have k1 := qb.cell 1
          clear hx hP hP' ht qb
          by_cases hc : Cn (ps ++ ms.take j) a b
          · rw [decide_eq_true hc] at JC
            rw [if_pos hc] at hpn
            have HN := Lib.hid hpn
            clear hc hpn
            go_wp2_with (go_at_call 86; (with_reducible refine (JC.out).mono ?_); rintro e w5 ⟨rfl, f'', HF', HB', ho⟩)
            have HW5 := Lib.hid (HBA.out.trans (ho.below (fun j hj e => by omega) HBA.out.size))
            go_roundw
            case rel => exact ⟨j + 1, f'', by omega, by go_num, by have := HN.out; rw [HP'.out]; congr 1; omega, by rw [Hid, HT.out, ← List.append_assoc]; exact HF'.out, HB', HW5⟩
            case measure => simp [intOf]; omega
          · rw [decide_eq_false hc] at JC
            rw [if_neg hc] at hpn
            have hwp : IntKind.i64.wrap ((P : Int) - 1) = (P : Int) - 1 := IntWalk.i64_in _ (by omega)
            have HN := Lib.hid hpn
            clear hc hpn
            go_wp2_with (go_at_call 86; (with_reducible refine (JC.out).mono ?_); rintro e w5 ⟨rfl, f'', HF', HB', ho⟩)
            have HW5 := Lib.hid (HBA.out.trans (ho.below (fun j hj e => by omega) HBA.out.size))
            go_roundw
            case rel => exact ⟨j + 1, f'', by omega, by go_num, by have := HN.out; rw [HP'.out]; congr 1; omega, by rw [Hid, HT.out, ← List.append_assoc]; exact HF'.out, HB', HW5⟩
            case measure => simp [intOf]; omega
        · obtain rfl : j = ms.length := by omega
          rw [List.take_length] at HF ⊢
          have HI : Hid ((((partsP k (ps ++ ms) : Nat) : Int) == 1) = res) := by
            rw [Hid, ← HRES.out, Bool.eq_iff_iff]; simp; omega
          obtain ⟨P, hP⟩ : ∃ P, partsP k (ps ++ ms) = P := ⟨_, rfl⟩
          rw [hP] at HI ⊢
          clear hP hlt
          go_wp2
          go_ret
          exact ⟨ret_bool HI.out, HW.out⟩
end Go.Proofs.YtplgbapbgcipdaaGreatDoor

/-! ref08.FewTrees, ref13.FewTrees. -/
namespace Go.Proofs.YtplgbapbgcipdaaGreatDoor
open Go.RowKit

set_option maxHeartbeats 1000000 in
theorem rfewtrees_any (n : Int) (A : Option Addr) (c : Nat) (es : List E3) (w : World) (h : Reads w w.heap.size 3 A es.length (edgeCells es)) :
    Calls Tryz.prog 17 #[.agg #[.int .i64 n, .slice A es.length c]] w fun e w' => e = .returned (.bool (smallB n es 5 8)) ∧ Below w.heap.size w w' := by
  have SC := Lib.hid (rsmall_any n A c es 5 8)
  go_enter Tryz.func17, Tryz.ntmps17
  go_wp2_with fail
  refine (SC.out _ ((h.alloc (Nat.le_refl _) _).more (by simp))).mono ?_
  rintro e w1 ⟨rfl, hb1⟩
  have hbel1 : Below w.heap.size w w1 := ((Below.refl _ _).alloc (Nat.le_refl _) _).trans (hb1.mono (by simp))
  go_wp2
  go_ret
  exact ⟨rfl, hbel1⟩
def few13 (n : Int) (es : List E3) (m : Nat) : Bool := smallB n es 5 8 && decide (m ≤ 30)
theorem few13_parts {n : Int} {es : List E3} {m : Nat} (h : few13 n es m = true) : es.length ≤ 40 ∧ m ≤ 30 ∧ (checkG n es = 0 → n ≤ 5 ∧ sizeE es ≤ 8) := by
  unfold few13 at h
  rw [Bool.and_eq_true] at h
  obtain ⟨h1, h2⟩ := h
  unfold smallB at h1
  by_cases h3 : 40 < es.length
  · rw [if_pos h3] at h1; cases h1
  · refine ⟨by omega, of_decide_eq_true h2, fun h4 => ?_⟩
    rw [if_neg h3, if_neg (fun hc => hc h4), Bool.and_eq_true] at h1
    have := of_decide_eq_true h1.1
    have := of_decide_eq_true h1.2
    omega
end Go.Proofs.YtplgbapbgcipdaaGreatDoor

/-! The graph of a list of single edges: it is right, and connects what they connect. -/
namespace Go.Proofs.YtplgbapbgcipdaaGreatDoor
open Go.RowKit

end Go.Proofs.YtplgbapbgcipdaaGreatDoor

/-! Package tree: way, a search in depth by a closure that calls itself. -/
namespace Go.Proofs.YtplgbapbgcipdaaGreatDoor
open Go.RowKit

abbrev wayF (bb bt be bf : Nat) : Value := .func (.func 127) #[] #[.pointer (some ⟨bb, 0, none⟩), .pointer (some ⟨bt, 0, none⟩), .pointer (some ⟨be, 0, none⟩), .pointer (some ⟨bf, 0, none⟩)]
/-- What the closure has captured. -/
structure WayW (W : World) (b : Nat) (E : List (Nat × Nat)) (t : List Nat) (Ar : Option Addr) (cr : Nat) (B : Option Addr) (d bb bt be bf base : Nat) : Prop where
  h1 : Blk W bb 3 #[.int .i64 b]
  h2 : Blk W bt 25 #[.slice B t.length d]
  h3 : Blk W be 65 #[.slice Ar E.length cr]
  h4 : Blk W bf 153 #[wayF bb bt be bf]
  r1 : Reads W base 2 Ar E.length (pair2 E)
  r2 : Reads W base 1 B t.length (ints (nI t))
  lo : base ≤ W.heap.size
theorem WayW.next {W W' : World} {b : Nat} {E : List (Nat × Nat)} {t : List Nat} {Ar : Option Addr} {cr : Nat} {B : Option Addr} {d bb bt be bf base : Nat} (h : WayW W b E t Ar cr B d bb bt be bf base) (hb : Below W.heap.size W W') : WayW W' b E t Ar cr B d bb bt be bf base :=
  ⟨h.h1.next hb, h.h2.next hb, h.h3.next hb, h.h4.next hb, h.r1.keep fun p hp => hb.cell (by have := h.lo; omega), h.r2.keep fun p hp => hb.cell (by have := h.lo; omega), Nat.le_trans h.lo hb.size⟩
/-- Where one comes from, as an int. -/
def fromI : Option Nat → Int
  | none => -1
  | some f => f
/-- What the search answers. -/
def dfsB (E : List (Nat × Nat)) (t : List Nat) (b v : Nat) (o : Option Nat) : Bool := decide (Cn (pk E (lessO t o)) v b)
def dfsR (E : List (Nat × Nat)) (t : List Nat) (b v : Nat) (o : Option Nat) : List Nat := if dfsB E t b v o then pathL E t v b else []
theorem dfs_self (E : List (Nat × Nat)) (t : List Nat) (b : Nat) (o : Option Nat) : dfsB E t b b o = true ∧ dfsR E t b b o = [] := by
  have h : dfsB E t b b o = true := decide_eq_true .refl
  refine ⟨h, ?_⟩
  unfold dfsR; rw [if_pos h, pathL_self]

set_option maxRecDepth 100000 in
set_option maxHeartbeats 8000000 in
theorem walk_any (n : Nat) (hn : n ≤ 12) (b : Nat) (E : List (Nat × Nat)) (t : List Nat) (hT : FoE n E t) (htl : t.length ≤ 12) (Ar : Option Addr) (cr : Nat) (B : Option Addr) (d bb bt be bf base : Nat) :
    ∀ (k v : Nat) (o : Option Nat), v < n → FromOk E t v o → cmpN E t v o ≤ k → ∀ W, WayW W b E t Ar cr B d bb bt be bf base →
    Calls Tryz.prog 127 #[.int .i64 v, .int .i64 (fromI o), .pointer (some ⟨bb, 0, none⟩), .pointer (some ⟨bt, 0, none⟩), .pointer (some ⟨be, 0, none⟩), .pointer (some ⟨bf, 0, none⟩)] W fun e W' =>
      ∃ A' c', e = .returned (.tuple #[.slice A' (dfsR E t b v o).length c', .bool (dfsB E t b v o)]) ∧ OwnI W' W.heap.size A' c' (nI (dfsR E t b v o)) ∧ Below W.heap.size W W' := by
  have eg := enters_of (P := Tryz.prog) Tryz.func127 (by kernel_rfl) rfl
  intro k
  induction k using Nat.strongRecOn with
  | _ k ih =>
  intro v o hv ho hk W hW
  have HT := Lib.hid hT
  have HO := Lib.hid ho
  have IH : Hid (∀ (e : Nat), e ∈ t → Inc E e v → o ≠ some e → ∀ W', WayW W' b E t Ar cr B d bb bt be bf base → Calls Tryz.prog 127 #[.int .i64 ((oth (E.getD e (0, 0)) v : Nat) : Int), .int .i64 e, .pointer (some ⟨bb, 0, none⟩), .pointer (some ⟨bt, 0, none⟩), .pointer (some ⟨be, 0, none⟩), .pointer (some ⟨bf, 0, none⟩)] W' fun e' W'' =>
      ∃ A' c', e' = .returned (.tuple #[.slice A' (dfsR E t b (oth (E.getD e (0, 0)) v) (some e)).length c', .bool (dfsB E t b (oth (E.getD e (0, 0)) v) (some e))]) ∧ OwnI W'' W'.heap.size A' c' (nI (dfsR E t b (oth (E.getD e (0, 0)) v) (some e))) ∧ Below W'.heap.size W' W'') := by
    intro e he hi hne W' hW'
    have hlt := cmp_less hT ho he hi hne
    have hwn : oth (E.getD e (0, 0)) v < n := (inc_cn he hi).lt (bd_pk hT.bd hT.lt) hv
    exact ih (cmpN E t (oth (E.getD e (0, 0)) v) (some e)) (by omega) _ (some e) hwn (fun f hf => by injection hf with hf; subst hf; exact ⟨he, (inc_oth hi).1⟩) (Nat.le_refl _) W' hW'
  clear ih ho hk
  have HW := Lib.hid hW
  by_cases hvb : v = b
  · obtain ⟨s1, s2⟩ := dfs_self E t b o
    rw [hvb]
    rw [s1, s2]
    have a0 := hW.h1.cell 0
    have hq : ((b : Int) == (b : Int)) = true := by simp
    clear hvb s1 s2 hT IH hW
    go_enter Tryz.func127, Tryz.ntmps127
    go_wp2
    go_ret2
    exact ⟨none, 0, rfl, OwnI.nil_ _ _, Below.refl _ _⟩
  · have HVB := Lib.hid hvb
    have hq : ((v : Int) == (b : Int)) = false := by simp; omega
    obtain ⟨R, hR⟩ : ∃ R, dfsR E t b v o = R := ⟨_, rfl⟩
    obtain ⟨S, hS⟩ : ∃ S, dfsB E t b v o = S := ⟨_, rfl⟩
    rw [hR, hS]
    have HR := Lib.hid hR
    have HS := Lib.hid hS
    have a0 := hW.h1.cell 0
    have b0 := hW.h2.cell 0
    clear hvb hR hS hT hW
    go_enter Tryz.func127, Tryz.ntmps127
    go_wp2_with fail
    go_loopw [11, 12, 13, 14, 20] (fun _ _ _ _ i wr => ∃ j : Nat, j ≤ t.length ∧ i = .int .i64 j ∧ Hid (∀ e ∈ t.take j, Inc E e v → o ≠ some e → ¬ Cn (pk E (lessL t e)) (oth (E.getD e (0, 0)) v) b) ∧ Hid (Below W.heap.size W wr)) (fun _ _ _ _ i _ => t.length - (intOf i).toNat)
    case atStart => exact ⟨0, by omega, rfl, by simp [Hid], Below.refl _ _⟩
    case round =>
      obtain ⟨j, hj, rfl, HN, HB⟩ := hrel
      have hwz := HB.out.size
      have HW1 := HW.out.next HB.out
      by_cases hlt : j < t.length
      · obtain ⟨e, hx⟩ := get_of_lt hlt
        have he := List.mem_of_getElem? hx
        have hel := HT.out.lt e he
        have hab := getD_bd HT.out.bd hel
        obtain ⟨bB, oB, hB, hbB, hcell⟩ := HW1.r2.at_ (ints_at (nI_at hx))
        subst hB
        obtain ⟨bA, oA, hA, hbA, q0, q1⟩ := HW1.r1.pairAt (getD_some hel)
        subst hA
        have e0 := HW1.h3.cell 0
        have f0 := HW1.h4.cell 0
        have hi : (j : Int) < (t.length : Int) := by omega
        have hie : (e : Int) < (E.length : Int) := by omega
        have htk := take_snoc hx
        obtain ⟨⟨x, y⟩, hp⟩ : ∃ p, E.getD e (0, 0) = p := ⟨_, rfl⟩
        rw [hp] at q0 q1 hab
        dsimp only at q0 q1 hab
        have HP := Lib.hid hp
        have HE := Lib.hid he
        have HB2 := Lib.hid (HB.out.alloc hwz (.cells #[.int .i64 x, .int .i64 y] 67))
        have HW2 := Lib.hid (HW1.next ((Below.refl _ _).alloc (Nat.le_refl _) (.cells #[.int .i64 x, .int .i64 y] 67)))
        have f2 := HW2.out.h4.cell 0
        have p2 := Blk.new wr 67 #[.int .i64 x, .int .i64 y]
        have p0 := p2.cell 0
        have p1 := p2.cell 1
        -- when the single edge is passed by
        have skip : (Inc E e v → o ≠ some e → ¬ Cn (pk E (lessL t e)) (oth (E.getD e (0, 0)) v) b) → Hid (∀ x ∈ t.take (j + 1), Inc E x v → o ≠ some x → ¬ Cn (pk E (lessL t x)) (oth (E.getD x (0, 0)) v) b) := by
          intro h x hx'
          rw [htk] at hx'
          rcases List.mem_append.1 hx' with hx' | hx'
          · exact HN.out x hx'
          · rw [List.mem_singleton] at hx'
            subst hx'
            exact h
        by_cases hfr : o = some e
        · have hfi : fromI o = (e : Int) := by rw [hfr]; rfl
          have hqe : ((e : Int) == fromI o) = true := by rw [hfi]; simp
          have HN2 := skip fun _ h => absurd hfr h
          clear hx htk hfr hfi he HW1 hp skip p2
          go_wp2
          go_roundw
          case rel => exact ⟨j + 1, by omega, by go_num, HN2, HB2⟩
          case measure => simp [intOf]; omega
        · have hqe : ((e : Int) == fromI o) = false := by
            cases o with
            | none => unfold fromI; simp only [beq_eq_false_iff_ne, ne_eq]; omega
            | some f =>
              have : f ≠ e := fun h => hfr (by rw [h])
              unfold fromI; simp only [beq_eq_false_iff_ne, ne_eq]; omega
          by_cases hxy : x ≠ v ∧ y ≠ v
          · have n1 : ((x : Int) != (v : Int)) = true := by rw [bne_iff_ne]; omega
            have n2 : ((y : Int) != (v : Int)) = true := by rw [bne_iff_ne]; omega
            have HN2 := skip fun h _ => by
              unfold Inc at h
              rw [hp] at h
              dsimp only at h
              exact absurd h (by omega)
            clear hx htk hfr he HW1 hp skip p2 hxy
            go_wp2
            go_roundw
            case rel => exact ⟨j + 1, by omega, by go_num, HN2, HB2⟩
            case measure => simp [intOf]; omega
          · have hinc : Inc E e v := by unfold Inc; rw [hp]; dsimp only; omega
            have IC := IH.out e he hinc hfr _ HW2.out
            have hsum := inc_sum hinc
            obtain ⟨u, hu⟩ : ∃ u, oth (E.getD e (0, 0)) v = u := ⟨_, rfl⟩
            have hyes : dfsB E t b u (some e) = true → S = true ∧ R = e :: dfsR E t b u (some e) := by
              intro h
              have hc : Cn (pk E (lessL t e)) u b := of_decide_eq_true h
              rw [← hu] at hc
              obtain ⟨y1, y2⟩ := dfs_yes HT.out HO.out he hinc hfr hc
              have hS1 : dfsB E t b v o = true := decide_eq_true y1
              refine ⟨by rw [← HS.out]; exact hS1, ?_⟩
              rw [← HR.out]
              unfold dfsR
              rw [if_pos hS1, if_pos h, y2, hu]
            have hno : dfsB E t b u (some e) = false → Hid (∀ x ∈ t.take (j + 1), Inc E x v → o ≠ some x → ¬ Cn (pk E (lessL t x)) (oth (E.getD x (0, 0)) v) b) := fun h => skip fun _ _ => by rw [hu]; exact of_decide_eq_false h
            rw [hp] at hsum
            dsimp only at hsum
            rw [hu] at IC
            rw [← hp, hu] at hsum
            have w1 : IntKind.i64.wrap ((x : Int) + (y : Int)) = (x : Int) + (y : Int) := IntWalk.i64_in _ (by omega)
            have w2 : IntKind.i64.wrap ((x : Int) + (y : Int) - (v : Int)) = (u : Int) := by rw [IntWalk.i64_in _ (by omega)]; omega
            have HYES := Lib.hid hyes
            have HNO := Lib.hid hno
            have hl12 : (dfsR E t b u (some e)).length ≤ 12 := by
              unfold dfsR
              split
              · rename_i hd
                have hc : Cn (pk E (lessL t e)) u b := of_decide_eq_true hd
                exact Nat.le_trans (path_len HT.out (cn_less hc)) htl
              · simp
            obtain ⟨S', hS'⟩ : ∃ S', dfsB E t b u (some e) = S' := ⟨_, rfl⟩
            obtain ⟨R', hR'⟩ : ∃ R', dfsR E t b u (some e) = R' := ⟨_, rfl⟩
            rw [hS', hR'] at IC HYES
            rw [hS'] at HNO
            rw [hR'] at hl12
            have IC := Lib.hid IC
            have hn1 : ((x : Int) != (v : Int)) = false ∨ (((x : Int) != (v : Int)) = true ∧ ((y : Int) != (v : Int)) = false) := by
              by_cases hxv : x = v
              · exact .inl (by simp [hxv])
              · refine .inr ⟨by rw [bne_iff_ne]; omega, ?_⟩
                have : y = v := by omega
                simp [this]
            clear hx htk hfr he HW1 hp skip p2 hxy hinc hsum hyes hno hS' hR' hu
            cases S'
            · have HN2 := HNO.out rfl
              rcases hn1 with n1 | ⟨n1, n2⟩
              · go_wp2_with fail
                refine (IC.out).mono ?_
                rintro e' w6 ⟨A3, c3, rfl, o3, hb3⟩
                have HB3 := Lib.hid (HB2.out.trans (hb3.mono HB2.out.size))
                go_wp2
                go_roundw
                case rel => exact ⟨j + 1, by omega, by go_num, HN2, HB3⟩
                case measure => simp [intOf]; omega
              · go_wp2_with fail
                refine (IC.out).mono ?_
                rintro e' w6 ⟨A3, c3, rfl, o3, hb3⟩
                have HB3 := Lib.hid (HB2.out.trans (hb3.mono HB2.out.size))
                go_wp2
                go_roundw
                case rel => exact ⟨j + 1, by omega, by go_num, HN2, HB3⟩
                case measure => simp [intOf]; omega
            · obtain ⟨rfl, hRR⟩ := HYES.out rfl
              have HRR := Lib.hid hRR
              clear hRR
              rcases hn1 with n1 | ⟨n1, n2⟩
              · go_wp2_with fail
                refine (IC.out).mono ?_
                rintro e' w6 ⟨A3, c3, rfl, o3, hb3⟩
                have HB3 := HB2.out.trans (hb3.mono HB2.out.size)
                have hs6 := HB3.size
                have r3 := o3.reads
                rw [nI_length] at r3
                have r4 := Lib.hid (r3.alloc (Nat.le_refl _) (.cells #[.int .i64 e] 3))
                have o4 : Hid ((w6.alloc (.cells #[.int .i64 e] 3)).ownsRow W.heap.size 3 1 (.slice (some ⟨w6.heap.size, 0, none⟩) 1 1) 1 [.int .i64 (e : Int)]) := OwnI.of_blk (l := [(e : Int)]) (Blk.new w6 3 (intCells [(e : Int)])) hs6 (by simp [maxLen])
                have hone : ∀ u ∈ ints (nI R'), u.oneCell' = true := ints_one
                have hs7 : W.heap.size ≤ (w6.alloc (.cells #[.int .i64 e] 3)).heap.size := by simp; omega
                have HB4 := Lib.hid (HB3.alloc hs6 (.cells #[.int .i64 e] 3))
                clear o3 r3
                go_wp2_with (at_builtin; refine append_go rfl (.tmp 58) (.tmp 59) _ rfl W.heap.size 3 Tryz.underlying25 info_int rfl (by omega) (some ⟨w6.heap.size, 0, none⟩) 1 1 [.int .i64 (e : Int)] rfl o4.out _ (ints (nI R')) rfl r4.out hone (by omega) hs7 ?_; intro A4 c4 w7 hown7 hg7 hb7 _)
                go_ret2
                refine ⟨A4, c4, ?_, ?_, HB4.out.trans hb7⟩
                · rw [HRR.out, List.length_cons, Nat.add_comm]; rfl
                · rw [HRR.out]
                  unfold OwnI
                  have e1 : (nI (e :: R')).length = 1 + R'.length := by rw [nI_length, List.length_cons, Nat.add_comm]
                  rw [e1]
                  exact hown7
              · go_wp2_with fail
                refine (IC.out).mono ?_
                rintro e' w6 ⟨A3, c3, rfl, o3, hb3⟩
                have HB3 := HB2.out.trans (hb3.mono HB2.out.size)
                have hs6 := HB3.size
                have r3 := o3.reads
                rw [nI_length] at r3
                have r4 := Lib.hid (r3.alloc (Nat.le_refl _) (.cells #[.int .i64 e] 3))
                have o4 : Hid ((w6.alloc (.cells #[.int .i64 e] 3)).ownsRow W.heap.size 3 1 (.slice (some ⟨w6.heap.size, 0, none⟩) 1 1) 1 [.int .i64 (e : Int)]) := OwnI.of_blk (l := [(e : Int)]) (Blk.new w6 3 (intCells [(e : Int)])) hs6 (by simp [maxLen])
                have hone : ∀ u ∈ ints (nI R'), u.oneCell' = true := ints_one
                have hs7 : W.heap.size ≤ (w6.alloc (.cells #[.int .i64 e] 3)).heap.size := by simp; omega
                have HB4 := Lib.hid (HB3.alloc hs6 (.cells #[.int .i64 e] 3))
                clear o3 r3
                go_wp2_with (at_builtin; refine append_go rfl (.tmp 58) (.tmp 59) _ rfl W.heap.size 3 Tryz.underlying25 info_int rfl (by omega) (some ⟨w6.heap.size, 0, none⟩) 1 1 [.int .i64 (e : Int)] rfl o4.out _ (ints (nI R')) rfl r4.out hone (by omega) hs7 ?_; intro A4 c4 w7 hown7 hg7 hb7 _)
                go_ret2
                refine ⟨A4, c4, ?_, ?_, HB4.out.trans hb7⟩
                · rw [HRR.out, List.length_cons, Nat.add_comm]; rfl
                · rw [HRR.out]
                  unfold OwnI
                  have e1 : (nI (e :: R')).length = 1 + R'.length := by rw [nI_length, List.length_cons, Nat.add_comm]
                  rw [e1]
                  exact hown7
      · obtain rfl : j = t.length := by omega
        have hno : ¬ Cn (pk E (lessO t o)) v b := dfs_no HT.out HVB.out (by have := HN.out; rwa [List.take_length] at this)
        have hS0 : S = false := by rw [← HS.out]; exact decide_eq_false hno
        have hR0 : R = [] := by
          rw [← HR.out]; unfold dfsR
          rw [show dfsB E t b v o = false from decide_eq_false hno]; rfl
        subst hS0 hR0
        clear hno
        go_wp2
        go_ret2
        exact ⟨none, 0, rfl, OwnI.nil_ _ _, HB.out⟩

set_option maxRecDepth 100000 in
set_option maxHeartbeats 4000000 in
theorem way_any (n : Nat) (hn : n ≤ 12) (a b : Nat) (ha : a < n) (E : List (Nat × Nat)) (t : List Nat) (hT : FoE n E t) (htl : t.length ≤ 12) (hc : Cn (pk E t) a b) (Ar : Option Addr) (cr : Nat) (B : Option Addr) (d : Nat) (w : World)
    (h : Reads w w.heap.size 2 Ar E.length (pair2 E)) (h' : Reads w w.heap.size 1 B t.length (ints (nI t))) :
    Calls Tryz.prog 90 #[.slice Ar E.length cr, .slice B t.length d, .int .i64 a, .int .i64 b] w fun e w' => ∃ A' c', e = .returned (.slice A' (pathL E t a b).length c') ∧ OwnI w' w.heap.size A' c' (nI (pathL E t a b)) ∧ Below w.heap.size w w' := by
  have eg := enters_of (P := Tryz.prog) Tryz.func127 (by kernel_rfl) rfl
  have hmf : ∀ (fn : Fn) (first cap : Array Value) (w : World), (Instr.makeFunc fn first cap).run Tryz.prog w = .ok (.func fn first cap) w := fun _ _ _ _ => rfl
  have hS : dfsB E t b a none = true := decide_eq_true hc
  have hR : dfsR E t b a none = pathL E t a b := by unfold dfsR; rw [if_pos hS]
  obtain ⟨W0, hW0⟩ : ∃ W0, (((w.alloc (.cells #[.slice Ar E.length cr] 65)).alloc (.cells #[.slice B t.length d] 25)).alloc (.cells #[.int .i64 b] 3)).alloc (.cells #[wayF (w.heap.size + 1 + 1) (w.heap.size + 1) w.heap.size (w.heap.size + 1 + 1 + 1)] 153) = W0 := ⟨_, rfl⟩
  have hB0 : Below w.heap.size w W0 := by
    rw [← hW0]
    exact ((((Below.refl _ _).alloc (Nat.le_refl _) _).alloc (by simp) _).alloc (by simp; omega) _).alloc (by simp; omega) _
  have hWW : WayW W0 b E t Ar cr B d (w.heap.size + 1 + 1) (w.heap.size + 1) w.heap.size (w.heap.size + 1 + 1 + 1) w.heap.size := by
    refine ⟨?_, ?_, ?_, ?_, h.below hB0, h'.below hB0, hB0.size⟩
    · rw [← hW0]
      have := Blk.new ((w.alloc (.cells #[.slice Ar E.length cr] 65)).alloc (.cells #[.slice B t.length d] 25)) 3 #[.int .i64 b]
      rw [show ((w.alloc (.cells #[.slice Ar E.length cr] 65)).alloc (.cells #[.slice B t.length d] 25)).heap.size = w.heap.size + 1 + 1 from by simp] at this
      exact this.alloc _
    · rw [← hW0]
      have := Blk.new (w.alloc (.cells #[.slice Ar E.length cr] 65)) 25 #[.slice B t.length d]
      rw [show (w.alloc (.cells #[.slice Ar E.length cr] 65)).heap.size = w.heap.size + 1 from by simp] at this
      exact (this.alloc _).alloc _
    · rw [← hW0]
      exact (((Blk.new w 65 #[.slice Ar E.length cr]).alloc _).alloc _).alloc _
    · rw [← hW0]
      have := Blk.new (((w.alloc (.cells #[.slice Ar E.length cr] 65)).alloc (.cells #[.slice B t.length d] 25)).alloc (.cells #[.int .i64 b] 3)) 153 #[wayF (w.heap.size + 1 + 1) (w.heap.size + 1) w.heap.size (w.heap.size + 1 + 1 + 1)]
      rw [show (((w.alloc (.cells #[.slice Ar E.length cr] 65)).alloc (.cells #[.slice B t.length d] 25)).alloc (.cells #[.int .i64 b] 3)).heap.size = w.heap.size + 1 + 1 + 1 from by simp] at this
      exact this
  have WC := walk_any n hn b E t hT htl Ar cr B d (w.heap.size + 1 + 1) (w.heap.size + 1) w.heap.size (w.heap.size + 1 + 1 + 1) w.heap.size _ a none ha (fun f hf => by cases hf) (Nat.le_refl _) W0 hWW
  rw [hR, hS] at WC
  have f0 := hWW.h4.cell 0
  obtain ⟨R, hRR⟩ : ∃ R, pathL E t a b = R := ⟨_, rfl⟩
  rw [hRR] at WC ⊢
  have WC := Lib.hid WC
  have HW0 := Lib.hid hW0
  clear hR hRR hWW hS hW0 hT hc
  go_enter Tryz.func90, Tryz.ntmps90
  go_wp2_with fail
  try rw [HW0.out]
  refine (WC.out).mono ?_
  rintro e w1 ⟨A1, c1, rfl, o1, hb1⟩
  go_wp2
  go_ret
  exact ⟨A1, c1, rfl, o1.mono hB0.size, hB0.trans (hb1.mono hB0.size)⟩
end Go.Proofs.YtplgbapbgcipdaaGreatDoor

