/-
  Texts of this claim, put together: REnds, FewT, BelP, RBel, RBurn, RSets, WorstP, RBan, RWorst, RList, Grid, Joined, Make, MadeG.
-/
import Derived.Test.YtghigdcpinengaaGreatK25
import Derived.Test.YtghigdcpinengaaGreatK09
import Derived.Deep.RegionLaw
import Derived.Test.YtghigdcpinengaaGreatK32
import Derived.Test.YtghigdcpinengaaGreatK21
import Derived.Test.YtghigdcpinengaaGreatK10
import Derived.StillTailTactics
import Derived.Deep.QuietTactic
import Derived.BigQuiet
import Derived.Deep.RegionWith
import Derived.Test.YtghigdcpinengaaGreatK03
import Derived.Test.YtghigdcpinengaaGreatK11
import Derived.WalkKit
import Derived.Deep.RegionHeld3
import Derived.Test.YtghigdcpinengaaGreatK35
import Derived.Test.YtghigdcpinengaaGreatK38
import Derived.Test.YtghigdcpinengaaGreatK27
import Derived.Test.YtghigdcpinengaaGreatK07
import Derived.Test.YtghigdcpinengaaGreatK19
import Derived.Test.YtghigdcpinengaaGreatK12
/-! ref08.Ends and Size: as far as the number of single edges goes; ref08.small and Few. -/
namespace Go.Proofs.YtghigdcpinengaaGreat
open Go.RowKit

/-- The number of single edges. -/
def sizeE (es : List E3) : Nat := (es.map fun e => e.2.2.toNat).sum
theorem sizeE_take {es : List E3} {k : Nat} {e : E3} (h : es[k]? = some e) : sizeE (es.take (k + 1)) = sizeE (es.take k) + e.2.2.toNat := by
  rw [take_snoc h]; simp [sizeE]
theorem sizeE_bd {N : Int} {es : List E3} (h : ∀ e ∈ es, okE N e) : sizeE es ≤ 50 * es.length := by
  induction es with
  | nil => simp [sizeE]
  | cons e es ih =>
    have h1 := h e (by simp)
    have h2 := ih fun x hx => h x (by simp [hx])
    unfold okE at h1
    unfold sizeE at *
    simp at *
    omega
theorem info_pair2 : (Tryz.prog.info? 63).map (fun i => (i.zero, i.size, i.bytes)) = some (some (.agg #[.int .i64 0, .int .i64 0]), 2, 16) := by kernel_rfl

set_option maxRecDepth 100000 in
set_option maxHeartbeats 4000000 in
theorem rends_any (n : Int) (A : Option Addr) (c : Nat) (es : List E3) (hn : es.length ≤ 40) (N : Int) (hok : ∀ e ∈ es, okE N e) (w : World) (h : Reads w w.heap.size 3 A es.length (edgeCells es)) :
    Calls Tryz.prog 38 #[.agg #[.int .i64 n, .slice A es.length c]] w fun e w' => ∃ A' c', e = .returned (.slice A' (sizeE es) c') ∧ Below w.heap.size w w' := by
  have HO := Lib.hid hok
  have HSZ : Hid (∀ k, sizeE (es.take k) ≤ 2000) := fun k => Nat.le_trans (sizeE_bd (N := N) fun e he => hok e (List.mem_of_mem_take he)) (by rw [List.length_take]; omega)
  have g0 := Blk.new w 24 #[.int .i64 n, .slice A es.length c]
  clear hok
  go_enter Tryz.func38, Tryz.ntmps38
  go_wp2
  go_loopw [3, 4] (fun s i wr => ∃ (k : Nat) (A' : Option Addr) (c' : Nat) (m : Nat) (vs : List Value), k ≤ es.length ∧ i = .int .i64 k ∧ s = .slice A' m c' ∧ Hid (sizeE (es.take k) = m) ∧ wr.ownsRow w.heap.size 63 2 (.slice A' m c') m vs ∧ Below w.heap.size w wr ∧ Blk wr w.heap.size 24 #[.int .i64 n, .slice A es.length c]) (fun _ i _ => es.length - (intOf i).toNat)
  case atStart => exact ⟨0, none, 0, 0, [], by omega, rfl, rfl, rfl, World.ownsRow_nil _ _ _ _, (Below.refl _ _).alloc (Nat.le_refl _) _, g0⟩
  case round =>
    obtain ⟨k, A', c', m, vs, hk, rfl, rfl, HM, hown, hbel, g1⟩ := hrel
    clear g0
    have c1 := g1.cell 1
    by_cases hlt : k < es.length
    · obtain ⟨⟨x, y, z⟩, hx⟩ := get_of_lt hlt
      have hokx := HO.out _ (List.mem_of_getElem? hx)
      unfold okE at hokx
      dsimp only at hokx
      obtain ⟨zn, rfl⟩ := Int.eq_ofNat_of_zero_le (show 0 ≤ z by omega)
      have hst := sizeE_take hx
      rw [HM.out] at hst
      dsimp only at hst
      rw [Int.toNat_natCast] at hst
      have hmax := HSZ.out (k + 1)
      rw [hst] at hmax
      have HST := Lib.hid hst
      have HX := Lib.hid hx
      have hi : (k : Int) < (es.length : Int) := by omega
      clear hst hx hokx
      go_wp2
      obtain ⟨wo, rfl⟩ : ∃ wo : World, wo = wr := ⟨_, rfl⟩
      go_loopw [3, 5] (fun s i wr => ∃ (j : Nat) (A' : Option Addr) (c' : Nat) (vs : List Value), j ≤ zn ∧ i = .int .i64 j ∧ s = .slice A' (m + j) c' ∧ wr.ownsRow w.heap.size 63 2 (.slice A' (m + j) c') (m + j) vs ∧ Below w.heap.size w wr ∧ Blk wr w.heap.size 24 #[.int .i64 n, .slice A es.length c]) (fun _ i _ => zn - (intOf i).toNat)
      case atStart => exact ⟨0, A', c', vs, by omega, rfl, rfl, hown, hbel, g1⟩
      case round =>
        clear hown hbel g1 c1
        obtain ⟨j, A', c', vs, hj, rfl, rfl, hown, hbel, g1⟩ := hrel
        have hsz := hbel.size
        have c1 := g1.cell 1
        obtain ⟨bb, off, rfl, hbb, q1, q2, q3⟩ := (h.below hbel).edge HX.out
        dsimp only at q1 q2 q3
        by_cases hlt2 : j < zn
        · have hi2 : (j : Int) < (zn : Int) := by omega
          have hownA : (wr.drew.alloc (.cells #[.int .i64 x, .int .i64 y] 63)).ownsRow w.heap.size 63 2 (.slice A' (m + j) c') (m + j) vs := World.ownsRow.alloc (World.ownsRow.drew hown) _
          have hz : w.heap.size ≤ (wr.drew.alloc (.cells #[.int .i64 x, .int .i64 y] 63)).heap.size := by show _ ≤ (wr.alloc _).heap.size; simp; omega
          go_wp2
          go_region_law (refine append_step2 rfl (.tmp 23) (.tmp 37) _ _ rfl w.heap.size 63 63 Tryz.underlying61 Tryz.underlying61 info_pair2 rfl (by omega) A' c' (m + j) vs rfl (by exact hownA) _ [.int .i64 x, .int .i64 y] rfl (by exact Reads.boxN wr.drew #[.int .i64 x, .int .i64 y] 63) (by simp [Value.oneCell']) (by omega) (by exact hz) ?_; intro A3 c3 W3 hown3 hgr3 hb3 _)
          all_goals (
            have g2 : Blk W3 w.heap.size 24 #[.int .i64 n, .slice (some ⟨bb, off, none⟩) es.length c] := Blk.grown (h := (g1.drew.alloc (.cells #[.int .i64 x, .int .i64 y] 63))) hgr3 (own_blk_ne hownA (g1.drew.alloc _) (by decide))
            have hb4 : Below w.heap.size w W3 := (hbel.drew.alloc hsz (.cells #[.int .i64 x, .int .i64 y] 63)).trans hb3
            go_wp2
            go_roundw
            case rel => exact ⟨j + 1, A3, c3, _, by omega, by go_num, rfl, hown3, hb4, g2⟩
            case measure => simp [intOf]; omega)
        · obtain rfl : j = zn := by omega
          go_wp2
          go_roundw
          case rel => exact ⟨k + 1, A', c', m + j, vs, by omega, by go_num, rfl, HST.out, hown, hbel, g1⟩
          case measure => simp [intOf]; omega
    · obtain rfl : k = es.length := by omega
      rw [List.take_length] at HM
      go_wp2
      go_ret
      exact ⟨A', c', by rw [HM.out]; rfl, hbel⟩
set_option maxHeartbeats 1000000 in
theorem rsize_any (n : Int) (A : Option Addr) (c : Nat) (es : List E3) (hn : es.length ≤ 40) (N : Int) (hok : ∀ e ∈ es, okE N e) (w : World) (h : Reads w w.heap.size 3 A es.length (edgeCells es)) :
    Calls Tryz.prog 56 #[.agg #[.int .i64 n, .slice A es.length c]] w fun e w' => e = .returned (.int .i64 (sizeE es : Nat)) ∧ Below w.heap.size w w' := by
  have EC := Lib.hid (rends_any n A c es hn N hok)
  go_enter Tryz.func56, Tryz.ntmps56
  go_wp2_with fail
  refine (EC.out _ ((h.alloc (Nat.le_refl _) _).more (by simp))).mono ?_
  rintro e w1 ⟨A1, c1, rfl, hb1⟩
  have hbel1 : Below w.heap.size w w1 := ((Below.refl _ _).alloc (Nat.le_refl _) _).trans (hb1.mono (by simp))
  go_wp2
  go_ret
  exact ⟨rfl, hbel1⟩

/-- Few vertices and single edges, or an error. -/
def smallB (n : Int) (es : List E3) (a b : Int) : Bool := if 40 < es.length then false else if checkG n es ≠ 0 then true else decide (n ≤ a) && decide ((sizeE es : Int) ≤ b)
set_option maxRecDepth 100000 in
set_option maxHeartbeats 1000000 in
theorem rsmall_any (n : Int) (A : Option Addr) (c : Nat) (es : List E3) (a b : Int) (w : World) (h : Reads w w.heap.size 3 A es.length (edgeCells es)) :
    Calls Tryz.prog 48 #[.agg #[.int .i64 n, .slice A es.length c], .int .i64 a, .int .i64 b] w fun e w' => e = .returned (.bool (smallB n es a b)) ∧ Below w.heap.size w w' := by
  have g0 := Blk.new w 24 #[.int .i64 n, .slice A es.length c]
  by_cases h1 : 40 < es.length
  · have hd : smallB n es a b = false := by unfold smallB; rw [if_pos h1]
    rw [hd]
    have hi : (40 : Int) < (es.length : Int) := by omega
    go_enter Tryz.func48, Tryz.ntmps48
    go_wp2
    go_ret
    exact ⟨rfl, (Below.refl _ _).alloc (Nat.le_refl _) _⟩
  have hi : ¬ (40 : Int) < (es.length : Int) := by omega
  have GC := rgcheck_any n A c es (by omega)
  by_cases h2 : checkG n es = 0
  · have hd : smallB n es a b = (decide (n ≤ a) && decide ((sizeE es : Int) ≤ b)) := by unfold smallB; rw [if_neg h1, if_neg (fun hc => hc h2)]
    rw [hd]
    rw [h2] at GC
    have hG := right_of h2
    have SC := Lib.hid (rsize_any n A c es (by omega) n hG.ok)
    have GC := Lib.hid GC
    clear h2 hd hG
    by_cases h3 : n ≤ a
    · have hd3 : decide (n ≤ a) = true := decide_eq_true h3
      go_enter Tryz.func48, Tryz.ntmps48
      go_wp2_with fail
      refine (GC.out _ ((h.alloc (Nat.le_refl _) _).more (by simp))).mono ?_
      rintro e w1 ⟨rfl, hb1⟩
      have hbel1 : Below w.heap.size w w1 := ((Below.refl _ _).alloc (Nat.le_refl _) _).trans (hb1.mono (by simp))
      have g1 := g0.next hb1
      have c0 := g1.cell 0
      have c1 := g1.cell 1
      go_wp2_with fail
      refine (SC.out _ ((h.below hbel1).more hbel1.size)).mono ?_
      rintro e w2 ⟨rfl, hb2⟩
      go_wp2
      go_ret
      exact ⟨ret_bool (by simp [h3]), hbel1.trans (hb2.mono hbel1.size)⟩
    · have hd3 : decide (n ≤ a) = false := decide_eq_false h3
      go_enter Tryz.func48, Tryz.ntmps48
      go_wp2_with fail
      refine (GC.out _ ((h.alloc (Nat.le_refl _) _).more (by simp))).mono ?_
      rintro e w1 ⟨rfl, hb1⟩
      have hbel1 : Below w.heap.size w w1 := ((Below.refl _ _).alloc (Nat.le_refl _) _).trans (hb1.mono (by simp))
      have g1 := g0.next hb1
      have c0 := g1.cell 0
      have c1 := g1.cell 1
      go_wp2
      go_ret
      exact ⟨ret_bool (by rw [hd3]; rfl), hbel1⟩
  · have hd : smallB n es a b = true := by unfold smallB; rw [if_neg h1, if_pos h2]
    rw [hd]
    obtain ⟨q, hq⟩ : ∃ q, checkG n es = q := ⟨_, rfl⟩
    rw [hq] at GC h2
    have hb : (q != 0) = true := by simpa using h2
    have GC := Lib.hid GC
    clear h2 hd hq
    go_enter Tryz.func48, Tryz.ntmps48
    go_wp2_with fail
    refine (GC.out _ ((h.alloc (Nat.le_refl _) _).more (by simp))).mono ?_
    rintro e w1 ⟨rfl, hb1⟩
    have hbel1 : Below w.heap.size w w1 := ((Below.refl _ _).alloc (Nat.le_refl _) _).trans (hb1.mono (by simp))
    go_wp2
    go_ret
    exact ⟨rfl, hbel1⟩
end Go.Proofs.YtghigdcpinengaaGreat

/-! ref08.FewTrees, ref13.FewTrees. -/
namespace Go.Proofs.YtghigdcpinengaaGreat
open Go.RowKit

set_option maxHeartbeats 1000000 in
theorem rfewtrees_any (n : Int) (A : Option Addr) (c : Nat) (es : List E3) (w : World) (h : Reads w w.heap.size 3 A es.length (edgeCells es)) :
    Calls Tryz.prog 11 #[.agg #[.int .i64 n, .slice A es.length c]] w fun e w' => e = .returned (.bool (smallB n es 5 8)) ∧ Below w.heap.size w w' := by
  have SC := Lib.hid (rsmall_any n A c es 5 8)
  go_enter Tryz.func11, Tryz.ntmps11
  go_wp2_with fail
  refine (SC.out _ ((h.alloc (Nat.le_refl _) _).more (by simp))).mono ?_
  rintro e w1 ⟨rfl, hb1⟩
  have hbel1 : Below w.heap.size w w1 := ((Below.refl _ _).alloc (Nat.le_refl _) _).trans (hb1.mono (by simp))
  go_wp2
  go_ret
  exact ⟨rfl, hbel1⟩
end Go.Proofs.YtghigdcpinengaaGreat

/-! Plain: what ref24.Below has built on its way. -/
namespace Go.Proofs.YtghigdcpinengaaGreat

/-- The first T numbers, each behind a list. -/
def extK (p : List Int) (T : Nat) : List (List Int) := (List.range T).map fun k : Nat => p ++ [(k : Int)]
theorem extK_succ (p : List Int) (T : Nat) : extK p (T + 1) = extK p T ++ [p ++ [(T : Int)]] := by simp [extK, List.range_succ]
/-- The first i lists, each with all numbers behind. -/
def belI (xss : List (List Int)) (T i : Nat) : List (List Int) := (xss.take i).flatMap fun p => extK p T
theorem belI_zero (xss : List (List Int)) (T : Nat) : belI xss T 0 = [] := by simp [belI]
theorem belI_succ {xss : List (List Int)} {T i : Nat} {x : List Int} (hx : xss[i]? = some x) : belI xss T (i + 1) = belI xss T i ++ extK x T := by
  have h : xss.take (i + 1) = xss.take i ++ [x] := by rw [List.take_add_one, hx]; rfl
  simp [belI, h, List.flatMap_append]
theorem belI_all (top : List Int) (v : Nat) : belI (belL top v) (top.getD v 0 + 1).toNat (belL top v).length = belL top (v + 1) := by
  rw [belI, List.take_length, belL]; rfl
theorem extK_len (p : List Int) (T : Nat) : (extK p T).length = T := by simp [extK]
theorem belI_len (xss : List (List Int)) (T : Nat) : ∀ i, i ≤ xss.length → (belI xss T i).length = i * T
  | 0, _ => by simp [belI]
  | i + 1, h => by
    have hx : xss[i]? = some xss[i] := List.getElem?_eq_getElem (by omega)
    rw [belI_succ hx, List.length_append, belI_len xss T i (by omega), extK_len, Nat.succ_mul]
end Go.Proofs.YtghigdcpinengaaGreat

/-! ref24.Below: all lists below a list. -/
namespace Go.Proofs.YtghigdcpinengaaGreat
open Go.RowKit

theorem bel_bound {top : List Int} {v M : Nat} {X : List (List Int)} {T : Nat} (hX : belL top v = X) (hT : (top.getD v 0 + 1).toNat = T) (hM : (belL top (v + 1)).length ≤ M) {i k : Nat} {x : List Int} (hi : i < X.length) (hk : k ≤ T) : (belI X T i ++ extK x k).length ≤ M := by
  subst hX hT
  have h1 := belI_all top v
  have h2 := belI_len (belL top v) (top.getD v 0 + 1).toNat (belL top v).length (Nat.le_refl _)
  have h3 := belI_len (belL top v) (top.getD v 0 + 1).toNat i (by omega)
  rw [List.length_append, h3, extK_len]
  rw [h1] at h2
  have h4 : (i + 1) * (top.getD v 0 + 1).toNat ≤ (belL top v).length * (top.getD v 0 + 1).toNat := Nat.mul_le_mul_right _ (by omega)
  rw [Nat.succ_mul] at h4
  omega

end Go.Proofs.YtghigdcpinengaaGreat

/-! The reference's fire: ref08.Holds, ref23.Joins, ref23.ready, ref23.Burnt, ref23.Unburnt. -/
namespace Go.Proofs.YtghigdcpinengaaGreat
open Go.RowKit

def natsI (l : List Nat) : List Int := l.map fun u : Nat => (u : Int)
theorem natsI_length (l : List Nat) : (natsI l).length = l.length := by simp [natsI]
theorem natsI_snoc (l : List Nat) (x : Nat) : natsI (l ++ [x]) = natsI l ++ [(x : Int)] := by simp [natsI]
theorem natsI_mem {l : List Nat} {v : Nat} : ((v : Int) ∈ natsI l) ↔ v ∈ l := by
  unfold natsI; rw [List.mem_map]
  constructor
  · rintro ⟨u, hu, e⟩; have : u = v := by omega
    exact this ▸ hu
  · intro h; exact ⟨v, h, rfl⟩

set_option maxHeartbeats 1000000 in
theorem holds_any (A : Option Addr) (c : Nat) (xs : List Int) (hn : xs.length ≤ 1048576) (v : Int) (w : World) (h : Reads w w.heap.size 1 A xs.length (ints xs)) :
    Calls Tryz.prog 57 #[.slice A xs.length c, .int .i64 v] w fun e w' => e = .returned (.bool (decide (v ∈ xs))) ∧ w = w' := by
  obtain ⟨r, hr⟩ : ∃ r, decide (v ∈ xs) = r := ⟨_, rfl⟩
  rw [hr]
  have HR := Lib.hid hr
  clear hr
  go_enter Tryz.func57, Tryz.ntmps57
  go_wp2
  go_loop [5] (fun i => ∃ k : Nat, k ≤ xs.length ∧ i = .int .i64 k ∧ Hid (v ∉ xs.take k)) (fun i => xs.length - (intOf i).toNat)
  case atStart => exact ⟨0, by omega, rfl, by simp [Hid]⟩
  case round =>
    obtain ⟨k, hk, rfl, HS⟩ := hrel
    by_cases hlt : k < xs.length
    · obtain ⟨x, hx⟩ := get_of_lt hlt
      obtain ⟨b, off, rfl, hb, hcell⟩ := h.at_ (ints_at hx)
      have hi : (k : Int) < (xs.length : Int) := by omega
      have htk := take_snoc hx
      by_cases hv : x = v
      · have e : (x == v) = true := by simpa using hv
        have HT : Hid (decide (v ∈ xs) = true) := by
          rw [Hid, decide_eq_true_eq, ← hv]; exact List.mem_of_getElem? hx
        clear hx htk hv
        go_wp2
        go_ret
        exact ⟨ret_bool (by rw [← HR.out, HT.out]), rfl⟩
      · have e : (x == v) = false := by simpa using hv
        have HN : Hid (v ∉ xs.take (k + 1)) := by
          rw [htk, Hid, List.mem_append]
          rintro (hc | hc)
          · exact HS.out hc
          · exact hv (List.mem_singleton.1 hc).symm
        clear hx htk hv
        go_wp2
        go_round
        case rel => exact ⟨k + 1, by omega, by go_num, HN⟩
        case measure => simp [intOf]; omega
    · obtain rfl : k = xs.length := by omega
      rw [List.take_length] at HS
      go_wp2
      go_ret
      refine ⟨ret_bool ?_, rfl⟩
      rw [← HR.out, decide_eq_false HS.out]

end Go.Proofs.YtghigdcpinengaaGreat

/-! ref23.members and Subsets: all sets of vertices. -/
namespace Go.Proofs.YtghigdcpinengaaGreat
open Go.RowKit

/-- All sets. -/
def subsL (n K : Nat) : List (List Int) := (List.range K).map fun D => natsI (bitsL n D)
theorem subsL_succ (n K : Nat) : subsL n (K + 1) = subsL n K ++ [natsI (bitsL n K)] := by simp [subsL, List.range_succ]
theorem subsL_length (n K : Nat) : (subsL n K).length = K := by simp [subsL]

set_option maxHeartbeats 2000000 in
theorem members_any (n D : Nat) (hn : n ≤ 12) (hD : D ≤ 4096) (w : World) :
    Calls Tryz.prog 96 #[.int .i64 n, .int .i64 D] w fun e w' => ∃ A c, e = .returned (.slice A (bitsL n D).length c) ∧ OwnI w' w.heap.size A c (natsI (bitsL n D)) ∧ Below w.heap.size w w' := by
  go_enter Tryz.func96, Tryz.ntmps96
  go_wp2
  go_loopw [1, 5, 6] (fun dg s i wr => ∃ (k m : Nat) (A : Option Addr) (c : Nat) (r : List Nat), k ≤ n ∧ m ≤ 4096 ∧ dg = .int .i64 m ∧ i = .int .i64 k ∧ s = .slice A (natsI r).length c ∧ Hid (m = D / 2 ^ k) ∧ Hid (r = bitsL k D) ∧ (natsI r).length ≤ k ∧ OwnI wr w.heap.size A c (natsI r) ∧ Below w.heap.size w wr) (fun _ _ i _ => n - (intOf i).toNat)
  case atStart => exact ⟨0, D, none, 0, [], by omega, hD, rfl, rfl, rfl, by simp [Hid], by simp [Hid, bitsL], by simp [natsI], OwnI.nil_ _ _, Below.refl _ _⟩
  case round =>
    obtain ⟨k, m, A, c, r, hk, hm, rfl, rfl, rfl, HM, HR, hrl, hown, hbel⟩ := hrel
    have hsz := hbel.size
    by_cases hlt : k < n
    · have hi : (k : Int) < (n : Int) := by omega
      have hquo : (m : Int).tdiv 2 = ((m / 2 : Nat) : Int) := rfl
      have hnext : Hid (m / 2 = D / 2 ^ (k + 1)) := by rw [Hid, HM.out, Nat.pow_succ, Nat.div_div_eq_div_mul]
      have hm2 : m / 2 ≤ 4096 := by omega
      obtain ⟨m', hm'⟩ : ∃ m', m / 2 = m' := ⟨_, rfl⟩
      rw [hm'] at hquo hnext hm2
      by_cases hb : m % 2 = 1
      · have hrem : (m : Int).tmod 2 = 1 := by show ((m % 2 : Nat) : Int) = 1; omega
        have HS : Hid (r ++ [k] = bitsL (k + 1) D) := by rw [Hid, bitsL_yes (by rw [← HM.out]; exact hb), HR.out]
        clear hb hm'
        go_wp2_with (at_builtin; refine push_int rfl (.tmp 15) (.tmp 17) _ rfl Tryz.underlying25 w.heap.size A c (natsI r) (k : Int) rfl hown rfl rfl (by omega) (by omega) ?_; intro A2 c2 w2 hown2 hg2 hb2)
        have hb3 : Below w.heap.size w w2 := hbel.trans hb2
        go_roundw
        case rel => exact ⟨k + 1, m', A2, c2, r ++ [k], by omega, hm2, by go_num, by go_num, by rw [natsI_snoc]; simp, hnext, HS, by rw [natsI_snoc]; simp; omega, by rw [natsI_snoc]; exact hown2, hb3⟩
        case measure => simp [intOf]; omega
      · have hrem : (m : Int).tmod 2 = 0 := by show ((m % 2 : Nat) : Int) = 0; omega
        have HS : Hid (r = bitsL (k + 1) D) := by rw [Hid, bitsL_no (by rw [← HM.out]; exact hb), HR.out]
        clear hb hm'
        go_wp2
        go_roundw
        case rel => exact ⟨k + 1, m', A, c, r, by omega, hm2, by go_num, by go_num, rfl, hnext, HS, by omega, hown, hbel⟩
        case measure => simp [intOf]; omega
    · obtain rfl : k = n := by omega
      go_wp2
      go_ret
      refine ⟨A, c, ?_, ?_, hbel⟩
      · rw [← HR.out, natsI_length]; rfl
      · rw [← HR.out]; exact hown

set_option maxHeartbeats 2000000 in
theorem subsets_any (n : Nat) (hn : n ≤ 6) (A : Option Addr) (c l : Nat) (w : World) :
    Calls Tryz.prog 67 #[.agg #[.int .i64 n, .slice A l c]] w fun e w' => ∃ A' c' vs, e = .returned (.slice A' (2 ^ n) c') ∧ OwnRows w' w.heap.size A' c' vs (subsL n (2 ^ n)) ∧ Below w.heap.size w w' := by
  have g0 := Blk.new w 24 #[.int .i64 n, .slice A l c]
  have hb0 : Below w.heap.size w (w.alloc (.cells #[.int .i64 n, .slice A l c] 24)) := (Below.refl _ _).alloc (Nat.le_refl _) _
  have hpow : ∀ k, k ≤ n → 2 ^ k ≤ 64 := fun k hk => Nat.le_trans (Nat.pow_le_pow_right (by omega) (Nat.le_trans hk hn)) (by decide)
  have HP := Lib.hid hpow
  clear hpow
  have c0 := g0.cell 0
  go_enter Tryz.func67, Tryz.ntmps67
  go_wp2
  go_loopw [3, 4] (fun p i wr => ∃ (k m : Nat), k ≤ n ∧ m ≤ 64 ∧ p = .int .i64 m ∧ i = .int .i64 k ∧ Hid (m = 2 ^ k) ∧ wr = w.alloc (.cells #[.int .i64 n, .slice A l c] 24)) (fun _ i _ => n - (intOf i).toNat)
  case atStart => exact ⟨0, 1, by omega, by omega, rfl, rfl, rfl, rfl⟩
  case round =>
    obtain ⟨k, m, hk, hm, rfl, rfl, HM, rfl⟩ := hrel
    by_cases hlt : k < n
    · have hi : (k : Int) < (n : Int) := by omega
      have hm2 : Hid (2 * m = 2 ^ (k + 1)) := by rw [Hid, HM.out, Nat.pow_succ, Nat.mul_comm]
      have hm3 : 2 * m ≤ 64 := by rw [hm2.out]; exact HP.out _ (by omega)
      go_wp2
      go_roundw
      case rel => exact ⟨k + 1, 2 * m, by omega, hm3, by go_num, by go_num, hm2, trivial⟩
      case measure => simp [intOf]; omega
    · obtain rfl : k = n := by omega
      have HN := HM
      clear HM HP
      have MC := Lib.hid (fun D w hD => members_any k D (by omega) hD w)
      go_wp2
      go_loopw [5, 6] (fun s i wr => ∃ (j : Nat) (A' : Option Addr) (c' : Nat) (vs : List Value), j ≤ m ∧ i = .int .i64 j ∧ s = .slice A' (subsL k j).length c' ∧ OwnRows wr w.heap.size A' c' vs (subsL k j) ∧ Blk wr w.heap.size 24 #[.int .i64 k, .slice A l c] ∧ Below w.heap.size w wr) (fun _ i _ => m - (intOf i).toNat)
      case atStart => exact ⟨0, none, 0, [], by omega, rfl, rfl, OwnRows.nil_ _ _, g0, hb0⟩
      case round =>
        obtain ⟨j, A', c', vs, hj, rfl, rfl, hown, gw, hbel⟩ := hrel
        clear c0
        have c0 := gw.cell 0
        have hsz := hbel.size
        by_cases hlt : j < m
        · have hi : (j : Int) < (m : Int) := by omega
          go_wp2_with fail
          refine (MC.out j _ (by omega)).mono ?_
          rintro e w1 ⟨A1, c1, rfl, o1, hb1⟩
          have hown1 := hown.next hb1
          have g1 := gw.next hb1
          have hB1 := hbel.trans (hb1.mono hsz)
          have hs1 := hB1.size
          obtain ⟨d, hd⟩ : ∃ d, natsI (bitsL k j) = d := ⟨_, rfl⟩
          have hdl : (bitsL k j).length = d.length := by rw [← hd, natsI_length]
          have HS : Hid (subsL k (j + 1) = subsL k j ++ [d]) := by rw [Hid, subsL_succ, hd]
          have HSL := Lib.hid (subsL_length k j)
          rw [hd] at o1
          rw [hdl]
          have o1' := o1.mono (base' := w.heap.size) (by omega)
          clear hdl hd hown hb1
          go_wp2_with (at_builtin; refine append_go rfl (.tmp 20) (.tmp 25) _ rfl w.heap.size 25 Tryz.underlying39 info_row rfl (by omega) A' c' (subsL k j).length vs rfl (World.ownsRow.alloc hown1.1 _) _ [.slice A1 d.length c1] rfl (Reads.box _ _ _) (by simp [Value.oneCell']) (by have := HSL.out; omega) (by simp; omega) ?_; intro A6 c6 w6 hown6 hg6 hb6 hw6)
          go_roundw
          case rel =>
            have k2 : OwnRows w6 w.heap.size A6 c6 (vs ++ [.slice A1 d.length c1]) (subsL k j ++ [d]) := OwnRows.push (hown1.kept fun k hk => Below.heap_alloc _ _ _ (hown1.lt hk).2) (OwnI.alloc o1' _) hown6 hg6
            refine ⟨j + 1, A6, c6, vs ++ [.slice A1 d.length c1], by omega, by go_num, ?_, ?_, ?_, (hB1.alloc hB1.size _).trans hb6⟩
            · rw [HS.out]; simp
            · rw [HS.out]; exact k2
            · exact Blk.grown (g1.alloc _) hg6 (own_blk_ne hown1.1 g1 (by decide))
          case measure => simp [intOf]; omega
        · obtain rfl : j = m := by omega
          go_wp2
          go_ret
          refine ⟨A', c', vs, by rw [subsL_length, HN.out]; rfl, ?_, hbel⟩
          rw [← HN.out]; exact hown

end Go.Proofs.YtghigdcpinengaaGreat

/-! Plain: the greatest forbidden set, found among all sets, is what the fire leaves. -/
namespace Go.Proofs.YtghigdcpinengaaGreat
open Go.RowKit

end Go.Proofs.YtghigdcpinengaaGreat

/-! ref24.Banned: is a set forbidden? -/
namespace Go.Proofs.YtghigdcpinengaaGreat
open Go.RowKit

end Go.Proofs.YtghigdcpinengaaGreat

/-! ref24.Worst: the greatest forbidden set; ref24.Is: is a configuration recurrent? -/
namespace Go.Proofs.YtghigdcpinengaaGreat
open Go.RowKit

end Go.Proofs.YtghigdcpinengaaGreat

/-! ref08.FewTrees, ref24.List, All: all recurrent configurations, found among all below the maximal one. -/
namespace Go.Proofs.YtghigdcpinengaaGreat
open Go.RowKit

/-! A slice of the call's own whose rows another world holds. -/
def Shared (w0 w : World) (A : Option Addr) (c : Nat) (vs : List Value) (xss : List (List Int)) : Prop :=
  w.ownsRow w0.heap.size 26 1 (.slice A xss.length c) xss.length vs ∧ ∀ (i : Nat) (xs : List Int), xss[i]? = some xs → ∃ A1 c1, vs[i]? = some (.slice A1 xs.length c1) ∧ Reads w0 w0.heap.size 1 A1 xs.length (ints xs)
section
variable {w0 w w' : World} {A : Option Addr} {c : Nat} {vs : List Value} {xss : List (List Int)}
theorem Shared.nil_ (w0 w : World) : Shared w0 w none 0 [] [] := ⟨World.ownsRow_nil _ _ _ _, by simp⟩
theorem Shared.next (h : Shared w0 w A c vs xss) (hb : Below w.heap.size w w') : Shared w0 w' A c vs xss :=
  ⟨own_kept h.1 fun k hk => hb.block k (own_lt h.1 hk).2, h.2⟩
theorem Shared.len (h : Shared w0 w A c vs xss) : vs.length = xss.length := by have := h.1.1; omega
theorem Shared.push {A' A1 : Option Addr} {c' c1 : Nat} {xs : List Int} (h : Shared w0 w A c vs xss) (hr : Reads w0 w0.heap.size 1 A1 xs.length (ints xs))
    (hown : w'.ownsRow w0.heap.size 26 1 (.slice A' (xss.length + 1) c') (xss.length + 1) (vs ++ [.slice A1 xs.length c1])) : Shared w0 w' A' c' (vs ++ [.slice A1 xs.length c1]) (xss ++ [xs]) := by
  have hl := h.len
  refine ⟨by rw [List.length_append]; exact hown, fun i ys hi => ?_⟩
  rcases Nat.lt_trichotomy i xss.length with hlt | rfl | hgt
  · rw [List.getElem?_append_left hlt] at hi
    obtain ⟨A2, c2, hv, ho⟩ := h.2 i ys hi
    exact ⟨A2, c2, by rw [List.getElem?_append_left (by omega)]; exact hv, ho⟩
  · have : ys = xs := by simpa using hi.symm
    subst this
    exact ⟨A1, c1, by rw [← hl]; simp, hr⟩
  · rw [List.getElem?_eq_none (by simp; omega)] at hi; cases hi
theorem Shared.reads (h : Shared w0 w A c vs xss) (hb : Below w0.heap.size w0 w) : RowsR w w.heap.size A xss :=
  ⟨vs, Reads.of_own h.1, fun i xs hi => by
    obtain ⟨A1, c1, hv, ho⟩ := h.2 i xs hi
    exact ⟨A1, c1, hv, (ho.below hb).more hb.size⟩⟩
end
theorem RowsR.at2 {w : World} {B : Nat} {A : Option Addr} {xss : List (List Int)} (h : RowsR w B A xss) {k : Nat} {xs : List Int} (hx : xss[k]? = some xs) :
    ∃ b off A' c', A = some ⟨b, off, none⟩ ∧ b < B ∧ (∀ w', Below B w w' → w'.cell? ⟨b, off + k, none⟩ = some (.slice A' xs.length c')) ∧ Reads w B 1 A' xs.length (ints xs) := by
  obtain ⟨b, off, A', c', hA, hb, hc, hr⟩ := h.at_ hx
  exact ⟨b, off, A', c', hA, hb, fun w' hB => (hB.cell (p := ⟨b, off + k, none⟩) hb).trans hc, hr⟩
theorem filt_snoc {P : List Int → Bool} {xss : List (List Int)} {k : Nat} {x : List Int} (h : xss[k]? = some x) : (xss.take (k + 1)).filter P = (xss.take k).filter P ++ if P x then [x] else [] := by
  rw [List.take_add_one, h, List.filter_append]
  cases hp : P x <;> simp [hp]

end Go.Proofs.YtghigdcpinengaaGreat

/-! ref08.Table. -/
namespace Go.Proofs.YtghigdcpinengaaGreat
open Go.RowKit

end Go.Proofs.YtghigdcpinengaaGreat

/-! ref08.Joined: the graph of a table of multiplicities. -/
namespace Go.Proofs.YtghigdcpinengaaGreat
open Go.RowKit

def joinRow (f : Nat → Nat → Int) (a b : Nat) : List E3 := (List.range' a (b - a)).filterMap fun j : Nat => if 0 < f a j then some ((a : Int), (j : Int), f a j) else none
def joinTo (f : Nat → Nat → Int) (n a : Nat) : List E3 := (List.range a).flatMap fun i => joinRow f i n
def joined (f : Nat → Nat → Int) (n : Nat) : List E3 := joinTo f n n
end Go.Proofs.YtghigdcpinengaaGreat

/-! ref08.Make: the graph of a list of single edges. -/
namespace Go.Proofs.YtghigdcpinengaaGreat
open Go.RowKit

def cnt (es : List (Nat × Nat)) (a b : Nat) : Nat := (es.filter fun e => decide (min e.1 e.2 = a) && decide (max e.1 e.2 = b)).length
end Go.Proofs.YtghigdcpinengaaGreat

/-! The graph of a list of single edges: it is right, and connects what they connect. -/
namespace Go.Proofs.YtghigdcpinengaaGreat
open Go.RowKit

end Go.Proofs.YtghigdcpinengaaGreat

