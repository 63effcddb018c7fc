/-
  Texts of this claim, put together: TConn, VerP, RConf2, TutP, Conf, RCatch, Pile2, PileP, Legal2, RSets, LevelP, RTreeE.
-/
import Derived.Test.YtnbikkcalcpedaaGreatDoorK18
import Derived.Test.YtnbikkcalcpedaaGreatDoorK14
import Derived.Test.YtnbikkcalcpedaaGreatDoorK06
import Derived.Test.YtnbikkcalcpedaaGreatDoorK19
import Derived.Test.YtnbikkcalcpedaaGreatDoorK21
import Derived.Test.YtnbikkcalcpedaaGreatDoorK20
import Derived.Test.YtnbikkcalcpedaaGreatDoorK17
import Derived.Deep.RegionHeld3
import Derived.Test.YtnbikkcalcpedaaGreatDoorK10
import Derived.Laws.EntriesVeiled
import Derived.Test.YtnbikkcalcpedaaGreatDoorK07
import Derived.Test.YtnbikkcalcpedaaGreatDoorK03
import Derived.WalkKit
import Derived.Test.YtnbikkcalcpedaaGreatDoorK22
/-! Package tree: connects. -/
namespace Go.Proofs.YtnbikkcalcpedaaGreatDoor
open Go.RowKit

theorem rootsR_succ (r : Nat → Nat) (k : Nat) : ((List.range (k + 1)).filter fun v => decide (r v = v)).length = ((List.range k).filter fun v => decide (r v = v)).length + if r k = k then 1 else 0 := by
  rw [List.range_succ, List.filter_append, List.length_append]
  congr 1
  by_cases h : r k = k
  · rw [if_pos h, List.filter_cons, decide_eq_true h]; rfl
  · rw [if_neg h, List.filter_cons, decide_eq_false h]; rfl

set_option maxRecDepth 100000 in
set_option maxHeartbeats 8000000 in
theorem connects12 (n : Nat) (hn1 : 1 ≤ n) (hn : n ≤ 12) (a0 a1 a2 a3 a4 a5 a6 a7 a8 a9 a10 a11 : Nat) (ps : List (Nat × Nat)) (hF : FR ps [a0, a1, a2, a3, a4, a5, a6, a7, a8, a9, a10, a11]) (hps : BdP n ps) (ms : List (Nat × Nat)) (hms : BdP n ms) (hml : ms.length ≤ 1000000) (Ar : Option Addr) (cr : Nat) (w : World) (h : Reads w w.heap.size 2 Ar ms.length (pair2 ms)) :
    Calls Tryz.prog 161 #[.int .i64 n, .agg #[.int .i64 a0, .int .i64 a1, .int .i64 a2, .int .i64 a3, .int .i64 a4, .int .i64 a5, .int .i64 a6, .int .i64 a7, .int .i64 a8, .int .i64 a9, .int .i64 a10, .int .i64 a11], .slice Ar ms.length cr] w fun e w' => e = .returned (.bool (decide (partsP n (ps ++ ms) = 1))) ∧ Below w.heap.size w w' := by
  have g0 : Blk (w.alloc (.cells #[.int .i64 a0, .int .i64 a1, .int .i64 a2, .int .i64 a3, .int .i64 a4, .int .i64 a5, .int .i64 a6, .int .i64 a7, .int .i64 a8, .int .i64 a9, .int .i64 a10, .int .i64 a11] 174)) w.heap.size 174 (fcells [a0, a1, a2, a3, a4, a5, a6, a7, a8, a9, a10, a11]) := Blk.new w _ _
  have hb0 : Below w.heap.size w (w.alloc (.cells #[.int .i64 a0, .int .i64 a1, .int .i64 a2, .int .i64 a3, .int .i64 a4, .int .i64 a5, .int .i64 a6, .int .i64 a7, .int .i64 a8, .int .i64 a9, .int .i64 a10, .int .i64 a11] 174)) := (Below.refl _ _).alloc (Nat.le_refl _) _
  obtain ⟨W0, hW0⟩ : ∃ W0, w.alloc (.cells #[.int .i64 a0, .int .i64 a1, .int .i64 a2, .int .i64 a3, .int .i64 a4, .int .i64 a5, .int .i64 a6, .int .i64 a7, .int .i64 a8, .int .i64 a9, .int .i64 a10, .int .i64 a11] 174) = W0 := ⟨_, rfl⟩
  rw [hW0] at g0 hb0
  obtain ⟨f, hf⟩ : ∃ f, [a0, a1, a2, a3, a4, a5, a6, a7, a8, a9, a10, a11] = f := ⟨_, rfl⟩
  rw [hf] at g0 hF
  obtain ⟨r, hh, hrp⟩ := hF
  have RC := Lib.hid (fun v hv W hW => troot_any w.heap.size ps f r hh hrp v hv W hW)
  have HRP := Lib.hid hrp
  have HMS := Lib.hid hms
  have HCN := Lib.hid (hrp.cnt n hn hps)
  have HP0 : Hid (∀ k, k ≤ n → ((List.range k).filter fun v => decide (r v = v)).length ≤ k) := fun k _ => Nat.le_trans (List.length_filter_le _ _) (by simp)
  have HPL : Hid (∀ qs, partsP n qs ≤ 12) := fun qs => by show (List.filter _ _).length ≤ 12; exact Nat.le_trans (List.length_filter_le _ _) (by simpa using hn)
  have HPP : Hid (∀ qs, 1 ≤ partsP n qs) := fun qs => partsP_pos (by omega)
  obtain ⟨res, hres⟩ : ∃ res, decide (partsP n (ps ++ ms) = 1) = res := ⟨_, rfl⟩
  have HRES := Lib.hid hres
  rw [hres]
  have HW0 := Lib.hid hW0
  clear hrp hms hps hf hW0 hres
  go_enter Tryz.func161, Tryz.ntmps161
  go_wp2_with fail
  try rw [HW0.out]
  go_loopw [7, 8, 12] (fun p _ i wr => ∃ k : Nat, k ≤ n ∧ i = .int .i64 k ∧ p = .int .i64 ((((List.range k).filter fun v => decide (r v = v)).length : Nat) : Int) ∧ W0 = wr) (fun _ _ i _ => n - (intOf i).toNat)
  case atStart => exact ⟨0, by omega, rfl, rfl, rfl⟩
  case round =>
    obtain ⟨k, hk, rfl, rfl, rfl⟩ := hrel
    by_cases hlt : k < n
    · have hi : (k : Int) < (n : Int) := by omega
      have hs := rootsR_succ r k
      have hp0 := HP0.out k hk
      obtain ⟨P, hP⟩ : ∃ P, ((List.range k).filter fun v => decide (r v = v)).length = P := ⟨_, rfl⟩
      rw [hP] at hs hp0 ⊢
      have HS := Lib.hid hs
      have RK := Lib.hid (RC.out k (by omega) W0 g0)
      have hwk : IntKind.i64.wrap ((P : Int) + 1) = (P : Int) + 1 := IntWalk.i64_in _ (by omega)
      clear hP hs
      by_cases hrk : r k = k
      · rw [hrk] at RK
        have hq : ((k : Int) == (k : Int)) = true := by simp
        have hn1 := HS.out
        rw [if_pos hrk] at hn1
        have HN := Lib.hid hn1
        clear hrk hn1
        go_wp2_with (go_at_call 132; (with_reducible refine (RK.out).mono ?_); rintro e w5 ⟨rfl, rfl⟩)
        go_roundw
        case rel => exact ⟨k + 1, by omega, by go_num, by rw [HN.out]; go_num, trivial⟩
        case measure => simp [intOf]; omega
      · obtain ⟨x, hx⟩ : ∃ x, r k = x := ⟨_, rfl⟩
        rw [hx] at RK hrk
        have hq : ((x : Int) == (k : Int)) = false := by simp; omega
        have hn1 := HS.out
        rw [if_neg (by rw [hx]; exact hrk)] at hn1
        have HN := Lib.hid hn1
        clear hrk hn1 hx
        go_wp2_with (go_at_call 132; (with_reducible refine (RK.out).mono ?_); rintro e w5 ⟨rfl, rfl⟩)
        go_roundw
        case rel => exact ⟨k + 1, by omega, by go_num, by rw [HN.out]; rfl, trivial⟩
        case measure => simp [intOf]; omega
    · obtain rfl : k = n := by omega
      rw [HCN.out]
      have hgl := g0.lt
      clear hlt
      go_wp2_with fail
      go_loopw [7, 10, 24] (fun p _ i wr => ∃ (j : Nat) (f' : List Nat), j ≤ ms.length ∧ i = .int .i64 j ∧ p = .int .i64 ((partsP k (ps ++ ms.take j) : Nat) : Int) ∧ Hid (FR (ps ++ ms.take j) f') ∧ Hid (Blk wr w.heap.size 174 (fcells f')) ∧ Hid (Below w.heap.size w wr)) (fun _ _ i _ => ms.length - (intOf i).toNat)
      case atStart => exact ⟨0, f, by omega, rfl, by rw [List.take_zero, List.append_nil], by rw [List.take_zero, List.append_nil]; exact ⟨r, hh, HRP.out⟩, g0, hb0⟩
      case round =>
        obtain ⟨j, f', hj, rfl, rfl, HF, HB, HW⟩ := hrel
        clear g0 hb0
        have hwz := HW.out.size
        by_cases hlt : j < ms.length
        · obtain ⟨⟨a, b⟩, hx⟩ := get_of_lt hlt
          have hab := HMS.out _ (List.mem_of_getElem? hx)
          dsimp only at hab
          have hi : (j : Int) < (ms.length : Int) := by omega
          obtain ⟨bA, oA, hA, hbA, q0, q1⟩ := (h.below HW.out).pairAt hx
          subst hA
          have B0 := HB.out.alloc (.cells #[.int .i64 a, .int .i64 b] 50)
          have JC := Lib.hid (tjoin_any w.heap.size (ps ++ ms.take j) f' HF.out a b (by omega) (by omega) _ B0)
          have ht := take_snoc hx
          have hpn : partsP k (ps ++ ms.take (j + 1)) + (if Cn (ps ++ ms.take j) a b then 0 else 1) = partsP k (ps ++ ms.take j) := by
            rw [ht, ← List.append_assoc]
            have hmm : ∀ p, p ∈ ps ++ ms.take j ++ [(a, b)] ↔ p ∈ (a, b) :: (ps ++ ms.take j) := fun p => by simp [or_comm, or_assoc]
            rw [partsP_congr fun _ _ => cn_same hmm]
            by_cases hc : Cn (ps ++ ms.take j) a b
            · rw [if_pos hc, partsP_in (p := (a, b)) hc]; rfl
            · rw [if_neg hc]; exact partsP_out (p := (a, b)) hab.1 hab.2 hc
          have hp1 := HPP.out (ps ++ ms.take (j + 1))
          have hp12 := HPL.out (ps ++ ms.take j)
          have HBA : Hid (Below w.heap.size w (wr.alloc (.cells #[.int .i64 a, .int .i64 b] 50))) := HW.out.alloc hwz _
          obtain ⟨P, hP⟩ : ∃ P, partsP k (ps ++ ms.take j) = P := ⟨_, rfl⟩
          obtain ⟨P', hP'⟩ : ∃ P', partsP k (ps ++ ms.take (j + 1)) = P' := ⟨_, rfl⟩
          rw [hP, hP'] at hpn
          rw [hP'] at hp1
          rw [hP] at hp12 ⊢
          have HT := Lib.hid ht
          have HP' := Lib.hid hP'
          have qb := Blk.new wr 50 #[.int .i64 a, .int .i64 b]
          have k0 := qb.cell 0
          have k1 := qb.cell 1
          clear hx hP hP' ht qb
          by_cases hc : Cn (ps ++ ms.take j) a b
          · rw [decide_eq_true hc] at JC
            rw [if_pos hc] at hpn
            have HN := Lib.hid hpn
            clear hc hpn
            go_wp2_with (go_at_call 131; (with_reducible refine (JC.out).mono ?_); rintro e w5 ⟨rfl, f'', HF', HB', ho⟩)
            have HW5 := Lib.hid (HBA.out.trans (ho.below (fun j hj e => by omega) HBA.out.size))
            go_roundw
            case rel => exact ⟨j + 1, f'', by omega, by go_num, by have := HN.out; rw [HP'.out]; congr 1; omega, by rw [Hid, HT.out, ← List.append_assoc]; exact HF'.out, HB', HW5⟩
            case measure => simp [intOf]; omega
          · rw [decide_eq_false hc] at JC
            rw [if_neg hc] at hpn
            have hwp : IntKind.i64.wrap ((P : Int) - 1) = (P : Int) - 1 := IntWalk.i64_in _ (by omega)
            have HN := Lib.hid hpn
            clear hc hpn
            go_wp2_with (go_at_call 131; (with_reducible refine (JC.out).mono ?_); rintro e w5 ⟨rfl, f'', HF', HB', ho⟩)
            have HW5 := Lib.hid (HBA.out.trans (ho.below (fun j hj e => by omega) HBA.out.size))
            go_roundw
            case rel => exact ⟨j + 1, f'', by omega, by go_num, by have := HN.out; rw [HP'.out]; congr 1; omega, by rw [Hid, HT.out, ← List.append_assoc]; exact HF'.out, HB', HW5⟩
            case measure => simp [intOf]; omega
        · obtain rfl : j = ms.length := by omega
          rw [List.take_length] at HF ⊢
          have HI : Hid ((((partsP k (ps ++ ms) : Nat) : Int) == 1) = res) := by
            rw [Hid, ← HRES.out, Bool.eq_iff_iff]; simp; omega
          obtain ⟨P, hP⟩ : ∃ P, partsP k (ps ++ ms) = P := ⟨_, rfl⟩
          rw [hP] at HI ⊢
          clear hP hlt
          go_wp2
          go_ret
          exact ⟨ret_bool HI.out, HW.out⟩
end Go.Proofs.YtnbikkcalcpedaaGreatDoor

/-! Plain: what proves that a configuration is superstable; the part of a slice. -/
namespace Go.Proofs.YtnbikkcalcpedaaGreatDoor
open Go.RowKit

theorem Reads.upto {w : World} {B b off : Nat} {xs : List Int} (h : Reads w B 1 (some ⟨b, off, none⟩) xs.length (ints xs)) (k : Nat) (hk : k < xs.length) : Reads w B 1 (some ⟨b, off, none⟩) k (ints (xs.take k)) := by
  refine ⟨by simp [ints]; omega, fun _ => ?_⟩
  obtain ⟨b', off', hA, hb, hc⟩ := h.2 (by omega)
  injection hA with hA; injection hA with e1 e2; subst e1 e2
  refine ⟨b, off, rfl, hb, fun j v hv => hc j v ?_⟩
  have hj : j < k := by
    have := (List.getElem?_eq_some_iff.1 hv).1
    simp [ints] at this; omega
  rw [← hv]
  simp [ints, List.getElem?_take_of_lt hj]

/-- The error of a list that is to rename the numbers below n. -/
def renFrom (n : Int) : List Int → List Int → Int
  | _, [] => 0
  | s, x :: r => if x < 0 ∨ n ≤ x then 2 else if x ∈ s then 7 else renFrom n (s ++ [x]) r
def renErr (n : Int) (xs : List Int) : Int := if (xs.length : Int) ≠ n then 8 else renFrom n [] xs
theorem renFrom_at {n : Int} {xs : List Int} {k : Nat} {x : Int} (h : xs[k]? = some x) :
    renFrom n (xs.take k) (xs.drop k) = if x < 0 ∨ n ≤ x then 2 else if x ∈ xs.take k then 7 else renFrom n (xs.take (k + 1)) (xs.drop (k + 1)) := by
  obtain ⟨l1, e1⟩ := List.getElem?_eq_some_iff.1 h
  rw [List.drop_eq_getElem_cons l1, e1, renFrom, take_snoc h]
theorem renFrom_end (n : Int) (xs : List Int) : renFrom n (xs.take xs.length) (xs.drop xs.length) = 0 := by rw [List.drop_length]; rfl
theorem renFrom_zero {n : Int} : ∀ {r s : List Int}, renFrom n s r = 0 → (∀ x ∈ r, 0 ≤ x ∧ x < n ∧ x ∉ s) ∧ r.Nodup
  | [], _, _ => ⟨by simp, List.nodup_nil⟩
  | x :: r, s, h => by
    rw [renFrom] at h
    split at h
    · omega
    · split at h
      · omega
      · rename_i h1 h2
        obtain ⟨h3, h4⟩ := renFrom_zero h
        refine ⟨fun y hy => ?_, List.nodup_cons.2 ⟨fun hx => (h3 x hx).2.2 (by simp), h4⟩⟩
        rcases List.mem_cons.1 hy with rfl | hy
        · exact ⟨by omega, by omega, h2⟩
        · have := h3 y hy
          exact ⟨this.1, this.2.1, fun hc => this.2.2 (by simp [hc])⟩
/-- A list that renames is one of natural numbers, each below n once. -/
theorem ren_nats {n : Nat} {xs : List Int} (h : renErr n xs = 0) : ∃ l : List Nat, xs = natsI l ∧ LOk n l ∧ l.length = n := by
  unfold renErr at h
  split at h
  · omega
  · rename_i hl
    obtain ⟨h1, h2⟩ := renFrom_zero h
    refine ⟨xs.map Int.toNat, ?_, ⟨?_, ?_⟩, by rw [List.length_map]; omega⟩
    · unfold natsI
      rw [List.map_map]
      have hid : xs.map ((fun u : Nat => (u : Int)) ∘ Int.toNat) = xs.map id := List.map_congr_left fun x hx => by
        have := h1 x hx
        simp only [Function.comp, id]
        omega
      rw [hid, List.map_id]
    · rw [List.nodup_iff_pairwise_ne, List.pairwise_map]
      refine List.Pairwise.imp_of_mem ?_ (List.nodup_iff_pairwise_ne.1 h2)
      intro a b ha hb hab
      have := h1 a ha
      have := h1 b hb
      omega
    · intro u hu
      obtain ⟨x, hx, rfl⟩ := List.mem_map.1 hu
      have := h1 x hx
      omega

end Go.Proofs.YtnbikkcalcpedaaGreatDoor

/-! ref19.Check and ref23.Check. -/
namespace Go.Proofs.YtnbikkcalcpedaaGreatDoor
open Go.RowKit

end Go.Proofs.YtnbikkcalcpedaaGreatDoor

/-! The sum over all sets of single edges by rank and nullity: deleting and contracting a single edge. No program is in sight. -/
namespace Go.Proofs.YtnbikkcalcpedaaGreatDoor
section
variable {n : Nat} {E ps qs : List (Nat × Nat)} {e : Nat × Nat} {f : Nat → Nat}
theorem parts_perm {x y : List (Nat × Nat)} (h : x.Perm y) : partsP n x = partsP n y := partsP_congr fun _ _ => cn_same fun _ => h.mem_iff
end
end Go.Proofs.YtnbikkcalcpedaaGreatDoor

/-! The errors of configurations: stabilize.Check. -/
namespace Go.Proofs.YtnbikkcalcpedaaGreatDoor
open Go.RowKit

end Go.Proofs.YtnbikkcalcpedaaGreatDoor

/-! burning.check. -/
namespace Go.Proofs.YtnbikkcalcpedaaGreatDoor
open Go.RowKit

end Go.Proofs.YtnbikkcalcpedaaGreatDoor

/-! Package recurrent: catches, stable. -/
namespace Go.Proofs.YtnbikkcalcpedaaGreatDoor
open Go.RowKit

end Go.Proofs.YtnbikkcalcpedaaGreatDoor

/-! Package stabilize: wait; pileOf. -/
namespace Go.Proofs.YtnbikkcalcpedaaGreatDoor
open Go.RowKit

end Go.Proofs.YtnbikkcalcpedaaGreatDoor

/-! What pileOf lays down: the table of single edges, the valences, the unstable vertices. -/
namespace Go.Proofs.YtnbikkcalcpedaaGreatDoor
open Go.RowKit

end Go.Proofs.YtnbikkcalcpedaaGreatDoor

/-! Package firing: LegalSet. -/
namespace Go.Proofs.YtnbikkcalcpedaaGreatDoor
open Go.RowKit

end Go.Proofs.YtnbikkcalcpedaaGreatDoor

/-! ref23.members and Subsets: all sets of vertices. -/
namespace Go.Proofs.YtnbikkcalcpedaaGreatDoor
open Go.RowKit

end Go.Proofs.YtnbikkcalcpedaaGreatDoor

/-! The connected sets of single edges, by the trees along which they burn. No program is in sight. -/
namespace Go.Proofs.YtnbikkcalcpedaaGreatDoor
section
variable {n q : Nat} {E : List (Nat × Nat)} {S t u : List Nat} {e : Nat}
/-- A set is between a tree and all that it does not use. -/
def InUv (E : List (Nat × Nat)) (n q : Nat) (S t : List Nat) : Prop := (∀ e ∈ t, e ∈ S) ∧ ∀ e, e < E.length → e ∈ S → e ∉ t → e ∈ unusedN E n q t
instance : Decidable (InUv E n q S t) := decidable_of_iff ((∀ e ∈ t, e ∈ S) ∧ ∀ e ∈ List.range E.length, e ∈ S → e ∉ t → e ∈ unusedN E n q t) ⟨fun h => ⟨h.1, fun e he => h.2 e (List.mem_range.2 he)⟩, fun h => ⟨h.1, fun e he => h.2 e (List.mem_range.1 he)⟩⟩
end
end Go.Proofs.YtnbikkcalcpedaaGreatDoor

/-! ref08.Ends with what it holds. -/
namespace Go.Proofs.YtnbikkcalcpedaaGreatDoor
open Go.RowKit

theorem size_ends {es : List E3} : sizeE es = (endsL es).length := by
  unfold sizeE endsL
  induction es with
  | nil => rfl
  | cons e es ih => simp only [List.map_cons, List.sum_cons, List.flatMap_cons, List.length_append, List.length_replicate, ih]

end Go.Proofs.YtnbikkcalcpedaaGreatDoor

