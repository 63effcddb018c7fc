/-
  Texts of this claim, put together: VerP, Legal2, RSets, RBurn2, LevelP, MadeG, TConn, FireW, Wood.
-/
import Derived.Test.YtplgbapbgcipdaaGreatK15
import Derived.Test.YtplgbapbgcipdaaGreatK05
import Derived.Test.YtplgbapbgcipdaaGreatK21
import Derived.Laws.EntriesVeiled
import Derived.Test.YtplgbapbgcipdaaGreatK06
import Derived.Test.YtplgbapbgcipdaaGreatK03
import Derived.WalkKit
import Derived.Test.YtplgbapbgcipdaaGreatK22
import Derived.Test.YtplgbapbgcipdaaGreatK18
import Derived.Test.YtplgbapbgcipdaaGreatK19
import Derived.Test.YtplgbapbgcipdaaGreatK08
import Derived.Test.YtplgbapbgcipdaaGreatK23
import Derived.Test.YtplgbapbgcipdaaGreatK07
/-! Plain: what proves that a configuration is superstable; the part of a slice. -/
namespace Go.Proofs.YtplgbapbgcipdaaGreat
open Go.RowKit

/-- The error of a list that is to rename the numbers below n. -/
def renFrom (n : Int) : List Int → List Int → Int
  | _, [] => 0
  | s, x :: r => if x < 0 ∨ n ≤ x then 2 else if x ∈ s then 7 else renFrom n (s ++ [x]) r
def renErr (n : Int) (xs : List Int) : Int := if (xs.length : Int) ≠ n then 8 else renFrom n [] xs
/-- Does each vertex of a list burn when the earlier ones are burnt? -/
def provFrom (es : List E3) (cs : List Int) : List Nat → List Nat → Bool
  | _, [] => true
  | s, x :: r => decide (cs.getD x 0 < joinsN es x s) && provFrom es cs (s ++ [x]) r
def provL (es : List E3) (cs : List Int) (l : List Nat) : Bool := provFrom es cs (l.take 1) (l.drop 1)
/-- What Verify returns. -/
def verErr (n : Int) (es : List E3) (q : Int) (cs xs : List Int) : Int := if burnErr n es q cs ≠ 0 then burnErr n es q cs else renErr n xs
def verB (n : Int) (es : List E3) (q : Int) (cs xs : List Int) : Bool := if verErr n es q cs xs = 0 then decide (xs.getD 0 0 = q) && provL es cs (xs.map Int.toNat) else false
theorem nats_toNat (l : List Nat) : (natsI l).map Int.toNat = l := by
  unfold natsI
  rw [List.map_map]
  have : l.map (Int.toNat ∘ fun u : Nat => (u : Int)) = l.map id := List.map_congr_left fun _ _ => rfl
  rw [this, List.map_id]
theorem natsI_getD (l : List Nat) (k : Nat) : (natsI l).getD k 0 = ((l.getD k 0 : Nat) : Int) := by
  simp only [List.getD_eq_getElem?_getD, natsI, List.getElem?_map]
  cases l[k]? <;> rfl
end Go.Proofs.YtplgbapbgcipdaaGreat

/-! Package firing: LegalSet. -/
namespace Go.Proofs.YtplgbapbgcipdaaGreat
open Go.RowKit

end Go.Proofs.YtplgbapbgcipdaaGreat

/-! ref23.members and Subsets: all sets of vertices. -/
namespace Go.Proofs.YtplgbapbgcipdaaGreat
open Go.RowKit

end Go.Proofs.YtplgbapbgcipdaaGreat

/-! The reference's fire: ref23.Burnt, ref23.Unburnt. -/
namespace Go.Proofs.YtplgbapbgcipdaaGreat
open Go.RowKit

end Go.Proofs.YtplgbapbgcipdaaGreat

/-! The reference's fire: ref23.Unburnt. -/
namespace Go.Proofs.YtplgbapbgcipdaaGreat
open Go.RowKit

end Go.Proofs.YtplgbapbgcipdaaGreat

/-! The connected sets of single edges, by the trees along which they burn. No program is in sight. -/
namespace Go.Proofs.YtplgbapbgcipdaaGreat
section
variable {n q : Nat} {E : List (Nat × Nat)} {S t u : List Nat} {e : Nat}
/-- A set is between a tree and all that it does not use. -/
def InUv (E : List (Nat × Nat)) (n q : Nat) (S t : List Nat) : Prop := (∀ e ∈ t, e ∈ S) ∧ ∀ e, e < E.length → e ∈ S → e ∉ t → e ∈ unusedN E n q t
instance : Decidable (InUv E n q S t) := decidable_of_iff ((∀ e ∈ t, e ∈ S) ∧ ∀ e ∈ List.range E.length, e ∈ S → e ∉ t → e ∈ unusedN E n q t) ⟨fun h => ⟨h.1, fun e he => h.2 e (List.mem_range.2 he)⟩, fun h => ⟨h.1, fun e he => h.2 e (List.mem_range.1 he)⟩⟩
end
end Go.Proofs.YtplgbapbgcipdaaGreat

/-! The graph of a list of single edges: it is right, and connects what they connect. -/
namespace Go.Proofs.YtplgbapbgcipdaaGreat
open Go.RowKit

end Go.Proofs.YtplgbapbgcipdaaGreat

/-! Package tree: connects. -/
namespace Go.Proofs.YtplgbapbgcipdaaGreat
open Go.RowKit

theorem rootsR_succ (r : Nat → Nat) (k : Nat) : ((List.range (k + 1)).filter fun v => decide (r v = v)).length = ((List.range k).filter fun v => decide (r v = v)).length + if r k = k then 1 else 0 := by
  rw [List.range_succ, List.filter_append, List.length_append]
  congr 1
  by_cases h : r k = k
  · rw [if_pos h, List.filter_cons, decide_eq_true h]; rfl
  · rw [if_neg h, List.filter_cons, decide_eq_false h]; rfl

set_option maxRecDepth 100000 in
set_option maxHeartbeats 8000000 in
theorem connects12 (n : Nat) (hn1 : 1 ≤ n) (hn : n ≤ 12) (a0 a1 a2 a3 a4 a5 a6 a7 a8 a9 a10 a11 : Nat) (ps : List (Nat × Nat)) (hF : FR ps [a0, a1, a2, a3, a4, a5, a6, a7, a8, a9, a10, a11]) (hps : BdP n ps) (ms : List (Nat × Nat)) (hms : BdP n ms) (hml : ms.length ≤ 1000000) (Ar : Option Addr) (cr : Nat) (w : World) (h : Reads w w.heap.size 2 Ar ms.length (pair2 ms)) :
    Calls Tryz.prog 127 #[.int .i64 n, .agg #[.int .i64 a0, .int .i64 a1, .int .i64 a2, .int .i64 a3, .int .i64 a4, .int .i64 a5, .int .i64 a6, .int .i64 a7, .int .i64 a8, .int .i64 a9, .int .i64 a10, .int .i64 a11], .slice Ar ms.length cr] w fun e w' => e = .returned (.bool (decide (partsP n (ps ++ ms) = 1))) ∧ Below w.heap.size w w' := by
  have g0 : Blk (w.alloc (.cells #[.int .i64 a0, .int .i64 a1, .int .i64 a2, .int .i64 a3, .int .i64 a4, .int .i64 a5, .int .i64 a6, .int .i64 a7, .int .i64 a8, .int .i64 a9, .int .i64 a10, .int .i64 a11] 167)) w.heap.size 167 (fcells [a0, a1, a2, a3, a4, a5, a6, a7, a8, a9, a10, a11]) := Blk.new w _ _
  have hb0 : Below w.heap.size w (w.alloc (.cells #[.int .i64 a0, .int .i64 a1, .int .i64 a2, .int .i64 a3, .int .i64 a4, .int .i64 a5, .int .i64 a6, .int .i64 a7, .int .i64 a8, .int .i64 a9, .int .i64 a10, .int .i64 a11] 167)) := (Below.refl _ _).alloc (Nat.le_refl _) _
  obtain ⟨W0, hW0⟩ : ∃ W0, w.alloc (.cells #[.int .i64 a0, .int .i64 a1, .int .i64 a2, .int .i64 a3, .int .i64 a4, .int .i64 a5, .int .i64 a6, .int .i64 a7, .int .i64 a8, .int .i64 a9, .int .i64 a10, .int .i64 a11] 167) = W0 := ⟨_, rfl⟩
  rw [hW0] at g0 hb0
  obtain ⟨f, hf⟩ : ∃ f, [a0, a1, a2, a3, a4, a5, a6, a7, a8, a9, a10, a11] = f := ⟨_, rfl⟩
  rw [hf] at g0 hF
  obtain ⟨r, hh, hrp⟩ := hF
  have RC := Lib.hid (fun v hv W hW => troot_any w.heap.size ps f r hh hrp v hv W hW)
  have HRP := Lib.hid hrp
  have HMS := Lib.hid hms
  have HCN := Lib.hid (hrp.cnt n hn hps)
  have HP0 : Hid (∀ k, k ≤ n → ((List.range k).filter fun v => decide (r v = v)).length ≤ k) := fun k _ => Nat.le_trans (List.length_filter_le _ _) (by simp)
  have HPL : Hid (∀ qs, partsP n qs ≤ 12) := fun qs => by show (List.filter _ _).length ≤ 12; exact Nat.le_trans (List.length_filter_le _ _) (by simpa using hn)
  have HPP : Hid (∀ qs, 1 ≤ partsP n qs) := fun qs => partsP_pos (by omega)
  obtain ⟨res, hres⟩ : ∃ res, decide (partsP n (ps ++ ms) = 1) = res := ⟨_, rfl⟩
  have HRES := Lib.hid hres
  rw [hres]
  have HW0 := Lib.hid hW0
  clear hrp hms hps hf hW0 hres
  go_enter Tryz.func127, Tryz.ntmps127
  go_wp2_with fail
  try rw [HW0.out]
  go_loopw [7, 8, 12] (fun p _ i wr => ∃ k : Nat, k ≤ n ∧ i = .int .i64 k ∧ p = .int .i64 ((((List.range k).filter fun v => decide (r v = v)).length : Nat) : Int) ∧ W0 = wr) (fun _ _ i _ => n - (intOf i).toNat)
  case atStart => exact ⟨0, by omega, rfl, rfl, rfl⟩
  case round =>
    obtain ⟨k, hk, rfl, rfl, rfl⟩ := hrel
    by_cases hlt : k < n
    · have hi : (k : Int) < (n : Int) := by omega
      have hs := rootsR_succ r k
      have hp0 := HP0.out k hk
      obtain ⟨P, hP⟩ : ∃ P, ((List.range k).filter fun v => decide (r v = v)).length = P := ⟨_, rfl⟩
      rw [hP] at hs hp0 ⊢
      have HS := Lib.hid hs
      have RK := Lib.hid (RC.out k (by omega) W0 g0)
      have hwk : IntKind.i64.wrap ((P : Int) + 1) = (P : Int) + 1 := IntWalk.i64_in _ (by omega)
      clear hP hs
      by_cases hrk : r k = k
      · rw [hrk] at RK
        have hq : ((k : Int) == (k : Int)) = true := by simp
        have hn1 := HS.out
        rw [if_pos hrk] at hn1
        have HN := Lib.hid hn1
        clear hrk hn1
        go_wp2_with (go_at_call 145; (with_reducible refine (RK.out).mono ?_); rintro e w5 ⟨rfl, rfl⟩)
        go_roundw
        case rel => exact ⟨k + 1, by omega, by go_num, by rw [HN.out]; go_num, trivial⟩
        case measure => simp [intOf]; omega
      · obtain ⟨x, hx⟩ : ∃ x, r k = x := ⟨_, rfl⟩
        rw [hx] at RK hrk
        have hq : ((x : Int) == (k : Int)) = false := by simp; omega
        have hn1 := HS.out
        rw [if_neg (by rw [hx]; exact hrk)] at hn1
        have HN := Lib.hid hn1
        clear hrk hn1 hx
        go_wp2_with (go_at_call 145; (with_reducible refine (RK.out).mono ?_); rintro e w5 ⟨rfl, rfl⟩)
        go_roundw
        case rel => exact ⟨k + 1, by omega, by go_num, by rw [HN.out]; rfl, trivial⟩
        case measure => simp [intOf]; omega
    · obtain rfl : k = n := by omega
      rw [HCN.out]
      have hgl := g0.lt
      clear hlt
      go_wp2_with fail
      go_loopw [7, 10, 24] (fun p _ i wr => ∃ (j : Nat) (f' : List Nat), j ≤ ms.length ∧ i = .int .i64 j ∧ p = .int .i64 ((partsP k (ps ++ ms.take j) : Nat) : Int) ∧ Hid (FR (ps ++ ms.take j) f') ∧ Hid (Blk wr w.heap.size 167 (fcells f')) ∧ Hid (Below w.heap.size w wr)) (fun _ _ i _ => ms.length - (intOf i).toNat)
      case atStart => exact ⟨0, f, by omega, rfl, by rw [List.take_zero, List.append_nil], by rw [List.take_zero, List.append_nil]; exact ⟨r, hh, HRP.out⟩, g0, hb0⟩
      case round =>
        obtain ⟨j, f', hj, rfl, rfl, HF, HB, HW⟩ := hrel
        clear g0 hb0
        have hwz := HW.out.size
        by_cases hlt : j < ms.length
        · obtain ⟨⟨a, b⟩, hx⟩ := get_of_lt hlt
          have hab := HMS.out _ (List.mem_of_getElem? hx)
          dsimp only at hab
          have hi : (j : Int) < (ms.length : Int) := by omega
          obtain ⟨bA, oA, hA, hbA, q0, q1⟩ := (h.below HW.out).pairAt hx
          subst hA
          have B0 := HB.out.alloc (.cells #[.int .i64 a, .int .i64 b] 157)
          have JC := Lib.hid (tjoin_any w.heap.size (ps ++ ms.take j) f' HF.out a b (by omega) (by omega) _ B0)
          have ht := take_snoc hx
          have hpn : partsP k (ps ++ ms.take (j + 1)) + (if Cn (ps ++ ms.take j) a b then 0 else 1) = partsP k (ps ++ ms.take j) := by
            rw [ht, ← List.append_assoc]
            have hmm : ∀ p, p ∈ ps ++ ms.take j ++ [(a, b)] ↔ p ∈ (a, b) :: (ps ++ ms.take j) := fun p => by simp [or_comm, or_assoc]
            rw [partsP_congr fun _ _ => cn_same hmm]
            by_cases hc : Cn (ps ++ ms.take j) a b
            · rw [if_pos hc, partsP_in (p := (a, b)) hc]; rfl
            · rw [if_neg hc]; exact partsP_out (p := (a, b)) hab.1 hab.2 hc
          have hp1 := HPP.out (ps ++ ms.take (j + 1))
          have hp12 := HPL.out (ps ++ ms.take j)
          have HBA : Hid (Below w.heap.size w (wr.alloc (.cells #[.int .i64 a, .int .i64 b] 157))) := HW.out.alloc hwz _
          obtain ⟨P, hP⟩ : ∃ P, partsP k (ps ++ ms.take j) = P := ⟨_, rfl⟩
          obtain ⟨P', hP'⟩ : ∃ P', partsP k (ps ++ ms.take (j + 1)) = P' := ⟨_, rfl⟩
          rw [hP, hP'] at hpn
          rw [hP'] at hp1
          rw [hP] at hp12 ⊢
          have HT := Lib.hid ht
          have HP' := Lib.hid hP'
          have qb := Blk.new wr 157 #[.int .i64 a, .int .i64 b]
          have k0 := qb.cell 0
          have k1 := qb.cell 1
          clear hx hP hP' ht qb
          by_cases hc : Cn (ps ++ ms.take j) a b
          · rw [decide_eq_true hc] at JC
            rw [if_pos hc] at hpn
            have HN := Lib.hid hpn
            clear hc hpn
            go_wp2_with (go_at_call 124; (with_reducible refine (JC.out).mono ?_); rintro e w5 ⟨rfl, f'', HF', HB', ho⟩)
            have HW5 := Lib.hid (HBA.out.trans (ho.below (fun j hj e => by omega) HBA.out.size))
            go_roundw
            case rel => exact ⟨j + 1, f'', by omega, by go_num, by have := HN.out; rw [HP'.out]; congr 1; omega, by rw [Hid, HT.out, ← List.append_assoc]; exact HF'.out, HB', HW5⟩
            case measure => simp [intOf]; omega
          · rw [decide_eq_false hc] at JC
            rw [if_neg hc] at hpn
            have hwp : IntKind.i64.wrap ((P : Int) - 1) = (P : Int) - 1 := IntWalk.i64_in _ (by omega)
            have HN := Lib.hid hpn
            clear hc hpn
            go_wp2_with (go_at_call 124; (with_reducible refine (JC.out).mono ?_); rintro e w5 ⟨rfl, f'', HF', HB', ho⟩)
            have HW5 := Lib.hid (HBA.out.trans (ho.below (fun j hj e => by omega) HBA.out.size))
            go_roundw
            case rel => exact ⟨j + 1, f'', by omega, by go_num, by have := HN.out; rw [HP'.out]; congr 1; omega, by rw [Hid, HT.out, ← List.append_assoc]; exact HF'.out, HB', HW5⟩
            case measure => simp [intOf]; omega
        · obtain rfl : j = ms.length := by omega
          rw [List.take_length] at HF ⊢
          have HI : Hid ((((partsP k (ps ++ ms) : Nat) : Int) == 1) = res) := by
            rw [Hid, ← HRES.out, Bool.eq_iff_iff]; simp; omega
          obtain ⟨P, hP⟩ : ∃ P, partsP k (ps ++ ms) = P := ⟨_, rfl⟩
          rw [hP] at HI ⊢
          clear hP hlt
          go_wp2
          go_ret
          exact ⟨ret_bool HI.out, HW.out⟩
end Go.Proofs.YtplgbapbgcipdaaGreat

/-! The fire of treebijection in memory. -/
namespace Go.Proofs.YtplgbapbgcipdaaGreat
open Go.RowKit

/-- Where the fire's slices lie. -/
structure FireA where
  AE : Option Addr
  cE : Nat
  gB : Nat
  gT : Nat
  AS : Option Addr
  cS : Nat
  AO : Option Addr
  cO : Nat
  AD : Option Addr
  cD : Nat
  AH : Option Addr
  cH : Nat
/-- Two slices in blocks of their own. -/
def Dj (A B : Option Addr) : Prop := ∀ k, blockOf A k → ¬ blockOf B k
theorem Dj.symm {A B : Option Addr} (h : Dj A B) : Dj B A := fun k h1 h2 => h k h2 h1
section
variable {w w' : World} {base b n : Nat} {E : List (Nat × Nat)} {lv : Value} {a : FireA} {s : FireS} {H : List Int}
end
end Go.Proofs.YtplgbapbgcipdaaGreat

/-! Package burning: the wood, its flames, and what is not burnt. -/
namespace Go.Proofs.YtplgbapbgcipdaaGreat
open Go.RowKit

section
variable {n : Nat} {t : Nat → Nat → Int} {ch : Value} {l : List Nat}
end
section
variable {w w' : World} {g n : Nat} {es : List E3} {ch : Value} {l : List Nat}
end

end Go.Proofs.YtplgbapbgcipdaaGreat

