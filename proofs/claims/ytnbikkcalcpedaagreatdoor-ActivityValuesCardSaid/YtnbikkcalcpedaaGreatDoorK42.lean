/-
  Texts of this claim, put together: Eval, RMono, PolyA, RDig01, RMemb31, Ear31, RAdd01, Awake31, RPlus01, RPlus06.
-/
import Derived.Test.YtnbikkcalcpedaaGreatDoorK41
import Derived.Test.YtnbikkcalcpedaaGreatDoorK18
import Derived.Test.YtnbikkcalcpedaaGreatDoorK35
import Derived.StillTailTactics
import Derived.Test.YtnbikkcalcpedaaGreatDoorK29
import Derived.Test.YtnbikkcalcpedaaGreatDoorK34
import Derived.Test.YtnbikkcalcpedaaGreatDoorK31
import Derived.Test.YtnbikkcalcpedaaGreatDoorK32
import Derived.Test.YtnbikkcalcpedaaGreatDoorK09
import Derived.Test.YtnbikkcalcpedaaGreatDoorK06
import Derived.Laws.IdiomStrings
import Derived.Test.YtnbikkcalcpedaaGreatDoorK07
import Derived.Deep.RegionHeld3
/-! polynomial.value; Check and Evaluate at sums of monomials. -/
namespace Go.Proofs.YtnbikkcalcpedaaGreatDoor
open Go.RowKit Go.Lib

set_option maxRecDepth 100000 in
set_option maxHeartbeats 4000000 in
theorem value_any (sm i j c x y : Nat) (hx : 0 < x) (hy : 0 < y) (hi : i ≤ 256) (hj : j ≤ 256) (hc : 0 < c) (hx9 : x < 1000000000) (hy9 : y < 1000000000) (hb : sm + c * x ^ i * y ^ j < 1000000000) (w : World) (ht : Tab10 w) :
    Calls Tryz.prog 66 #[.string (intS sm), .agg #[.int .i64 i, .int .i64 j, .string (intS c)], .string (intS x), .string (intS y)] w fun e w' => e = .returned (.tuple #[.string (intS (sm + c * x ^ i * y ^ j : Nat)), .int .i64 0]) ∧ Below w.heap.size w w' := by
  have hxi : 0 < x ^ i := Nat.pow_pos hx
  have hyj : 0 < y ^ j := Nat.pow_pos hy
  have h1 : c * x ^ i ≤ c * x ^ i * y ^ j := Nat.le_mul_of_pos_right _ hyj
  have h2 : x ^ i ≤ c * x ^ i := Nat.le_mul_of_pos_left _ hc
  have h3 : y ^ j ≤ c * x ^ i * y ^ j := Nat.le_mul_of_pos_left _ (Nat.mul_pos hc hxi)
  have PX := Lib.hid (fun (W : World) (hB : Below w.heap.size w W) => pow_any x i hx hx9 hi (by omega) W (ht.below hB))
  have PY := Lib.hid (fun (W : World) (hB : Below w.heap.size w W) => pow_any y j hy hy9 hj (by omega) W (ht.below hB))
  have M1 := Lib.hid (fun (W : World) (hB : Below w.heap.size w W) => mulN_any c (x ^ i) hc hxi (by omega) W (ht.below hB))
  have M2 := Lib.hid (fun (W : World) (hB : Below w.heap.size w W) => mulN_any (c * x ^ i) (y ^ j) (Nat.mul_pos hc hxi) hyj (by omega) W (ht.below hB))
  have AD := Lib.hid (fun (W : World) (hB : Below w.heap.size w W) => add_any sm (c * x ^ i * y ^ j) (Nat.mul_pos (Nat.mul_pos hc hxi) hyj) hb W (ht.below hB))
  obtain ⟨s1, e1⟩ : ∃ s, intS sm = s := ⟨_, rfl⟩
  obtain ⟨s2, e2⟩ : ∃ s, intS c = s := ⟨_, rfl⟩
  obtain ⟨s3, e3⟩ : ∃ s, intS x = s := ⟨_, rfl⟩
  obtain ⟨s4, e4⟩ : ∃ s, intS y = s := ⟨_, rfl⟩
  obtain ⟨s5, e5⟩ : ∃ s, intS (x ^ i : Nat) = s := ⟨_, rfl⟩
  obtain ⟨s6, e6⟩ : ∃ s, intS (y ^ j : Nat) = s := ⟨_, rfl⟩
  obtain ⟨s7, e7⟩ : ∃ s, intS (c * x ^ i : Nat) = s := ⟨_, rfl⟩
  obtain ⟨s8, e8⟩ : ∃ s, intS (c * x ^ i * y ^ j : Nat) = s := ⟨_, rfl⟩
  obtain ⟨s9, e9⟩ : ∃ s, intS (sm + c * x ^ i * y ^ j : Nat) = s := ⟨_, rfl⟩
  rw [e3, e5] at PX
  rw [e4, e6] at PY
  rw [e2, e5, e7] at M1
  rw [e7, e6, e8] at M2
  rw [e1, e8, e9] at AD
  rw [e1, e2, e3, e4, e9]
  have g := Blk.new w 87 #[.int .i64 i, .int .i64 j, .string s2]
  have hB : Below w.heap.size w (w.alloc (.cells #[.int .i64 i, .int .i64 j, .string s2] 87)) := (Below.refl _ _).alloc (Nat.le_refl _) _
  have k0 := g.cell 0
  have k1 := g.cell 1
  have k2 := g.cell 2
  clear e1 e2 e3 e4 e5 e6 e7 e8 e9 hxi hyj h1 h2 h3 hx hy hi hj hc hx9 hy9 hb ht
  go_enter Tryz.func66, Tryz.ntmps66
  go_wp2_with fail
  refine (PX.out _ hB).mono ?_
  rintro e w1 ⟨rfl, hb⟩
  have g := g.next hb
  have hB := hB.trans (hb.mono hB.size)
  have k0 := g.cell 0
  have k1 := g.cell 1
  have k2 := g.cell 2
  clear hb
  go_wp2_with fail
  refine (PY.out _ hB).mono ?_
  rintro e w2 ⟨rfl, hb⟩
  have g := g.next hb
  have hB := hB.trans (hb.mono hB.size)
  have k0 := g.cell 0
  have k1 := g.cell 1
  have k2 := g.cell 2
  clear hb
  go_wp2_with fail
  refine (M1.out _ hB).mono ?_
  rintro e w3 ⟨rfl, hb⟩
  have hB := hB.trans (hb.mono hB.size)
  clear hb
  go_wp2_with fail
  refine (M2.out _ hB).mono ?_
  rintro e w4 ⟨rfl, hb⟩
  have hB := hB.trans (hb.mono hB.size)
  clear hb
  go_wp2_with fail
  refine (AD.out _ hB).mono ?_
  rintro e w5 ⟨rfl, hb⟩
  have hB := hB.trans (hb.mono hB.size)
  clear hb
  go_wp2
  go_ret2
  exact ⟨rfl, hB⟩
end Go.Proofs.YtnbikkcalcpedaaGreatDoor

/-! The reference's Check of numerals without a sign, and its Monomial with the coefficient one. -/
namespace Go.Proofs.YtnbikkcalcpedaaGreatDoor
open Go.RowKit Go.Lib

end Go.Proofs.YtnbikkcalcpedaaGreatDoor

/-! activity.Polynomial of small graphs: the sum of the weights of all trees, or the error. -/
namespace Go.Proofs.YtnbikkcalcpedaaGreatDoor
open Go.RowKit

/-- The weights of all trees, and what Polynomial returns. -/
def wtL (n : Nat) (E : List (Nat × Nat)) : List (Nat × Nat) := (treesT n E).map fun t => ((insA E t).length, (outA E t).length)
def polyE (n : Int) (es : List E3) : List Tm × Int := if joinErr n es ≠ 0 then ([], joinErr n es) else (sumP (wtL n.toNat (endsL es)), 0)
theorem bits_few : ∀ m : Fin 9, ∀ k : Fin 6, (((List.range (2 ^ m.val)).map (bitsL m.val)).filter fun t => decide (t.length + 1 = k.val)).length ≤ 70 := by decide +kernel
theorem few_trees {n : Nat} {E : List (Nat × Nat)} (hb : BdP n E) (hn : 0 < n) (h5 : n ≤ 5) (h8 : E.length ≤ 8) : (treesT n E).length ≤ 70 := by
  rw [← trees_sorted hb hn, sortG_length]
  unfold refTs
  have h1 : ((List.range (2 ^ E.length)).map (bitsL E.length)).filter (fun t => decide (t.length + 1 = n) && decide (partsP n (pk E t) = 1)) = (((List.range (2 ^ E.length)).map (bitsL E.length)).filter fun t => decide (t.length + 1 = n)).filter fun t => decide (partsP n (pk E t) = 1) := by
    rw [List.filter_filter]
    congr 1
    funext t
    exact Bool.and_comm _ _
  rw [h1]
  refine Nat.le_trans (List.length_filter_le _ _) ?_
  exact bits_few ⟨E.length, by omega⟩ ⟨n, by omega⟩
theorem insA_len {E : List (Nat × Nat)} {t : List Nat} : (insA E t).length ≤ t.length := List.length_filter_le _ _
theorem outA_len {E : List (Nat × Nat)} {t : List Nat} : (outA E t).length ≤ E.length := by
  have := List.length_filter_le (fun e => !decide (e ∈ t) && decide (EAct E t e)) (List.range E.length)
  rw [List.length_range] at this
  exact this
set_option maxRecDepth 100000 in
set_option maxHeartbeats 2000000 in
theorem polynomial_any (n : Int) (A : Option Addr) (c : Nat) (es : List E3) (hn : es.length ≤ 10000) (hfw : joinErr n es = 0 → n ≤ 5 ∧ (endsL es).length ≤ 8) (w : World) (h : Reads w w.heap.size 3 A es.length (edgeCells es)) :
    Calls Tryz.prog 15 #[.agg #[.int .i64 n, .slice A es.length c]] w fun e w' => ∃ A' c', e = .returned (.tuple #[.slice A' (polyE n es).1.length c', .int .i64 (polyE n es).2]) ∧ OwnT w' w.heap.size A' c' (polyE n es).1 ∧ Below w.heap.size w w' := by
  unfold polyE
  by_cases hj : joinErr n es = 0
  · rw [if_neg (fun hc => hc hj)]
    obtain ⟨h5, h8⟩ := hfw hj
    obtain ⟨_, hG, _⟩ := join_zero hj
    have hlo := hG.lo
    obtain ⟨m, rfl⟩ := Int.eq_ofNat_of_zero_le (show 0 ≤ n by omega)
    have hb := bd_ends hG
    rw [Int.toNat_natCast]
    have h70 := few_trees hb (by omega) (by omega) h8
    have hE : tallE m es = ((treesT m (endsL es)).map nI, 0) := by unfold tallE; rw [if_neg (fun hc => hc hj), Int.toNat_natCast]
    refine poly_core m A c es.length ((treesT m (endsL es)).map nI) (wtL m (endsL es)) (by simp [wtL]) (by rw [List.length_map]; omega) ?_ w ?_ ?_
    · intro p hp
      obtain ⟨t, ht, rfl⟩ := List.mem_map.1 hp
      have hT := ((treesT_spec hb (by omega)).1 t).1 ht
      have h1 := insA_len (E := endsL es) (t := t)
      have h2 := outA_len (E := endsL es) (t := t)
      have h3 := hT.len
      exact ⟨by show (insA (endsL es) t).length ≤ 256; omega, by show (outA (endsL es) t).length ≤ 256; omega⟩
    · intro W hB
      have := tall_any m A c es hn (by rw [hE]; simp; omega) W ((h.below hB).more hB.size)
      rw [hE] at this
      exact this
    · intro i xs p hxs hp B d W hB hr
      rw [List.getElem?_map] at hxs
      unfold wtL at hp
      rw [List.getElem?_map] at hp
      cases ht : (treesT m (endsL es))[i]? with
      | none => rw [ht] at hxs; cases hxs
      | some t =>
        rw [ht] at hxs hp
        injection hxs with hxs
        injection hp with hp
        subst hxs
        have hT := ((treesT_spec hb (by omega)).1 t).1 (List.mem_of_getElem? ht)
        have hz : treeErr m es (nI t) = 0 := tree_ok hj hT
        have e1 : intE m es (nI t) = (nI (insA (endsL es) t), 0) := by unfold intE; rw [if_pos hz, toN_nI]
        have e2 : extE m es (nI t) = (nI (outA (endsL es) t), 0) := by unfold extE; rw [if_pos hz, toN_nI]
        have h1 := insA_len (E := endsL es) (t := t)
        have h2 := outA_len (E := endsL es) (t := t)
        have h3 := hT.len
        have hwE : weightE m es (nI t) = ([(p, 1)], 0) := by
          unfold weightE
          rw [if_pos hz, e1, e2]
          dsimp only
          rw [nI_length, nI_length, ← hp]
        have := weight_any m A c es hn B d (nI t) (by rw [nI_length]; omega) (by rw [e1]; dsimp only; rw [nI_length]; omega) (by rw [e2]; dsimp only; rw [nI_length]; omega) W ((h.below hB).more hB.size) hr
        rw [hwE] at this
        exact this
  · rw [if_pos hj]
    have hE : tallE n es = ([], joinErr n es) := by unfold tallE; rw [if_pos hj]
    have AC := Lib.hid (fun (W : World) (hB : Below w.heap.size w W) => tall_any n A c es hn (by rw [hE]; simp) W ((h.below hB).more hB.size))
    rw [hE] at AC
    obtain ⟨z, hzz⟩ : ∃ z, joinErr n es = z := ⟨_, rfl⟩
    rw [hzz] at AC hj ⊢
    have hzb : (z != 0) = true := by simpa using hj
    have g := Blk.new w 24 #[.int .i64 n, .slice A es.length c]
    have hB : Below w.heap.size w (w.alloc (.cells #[.int .i64 n, .slice A es.length c] 24)) := (Below.refl _ _).alloc (Nat.le_refl _) _
    have k0 := g.cell 0
    have k1 := g.cell 1
    clear hj hzz hE hfw h
    go_enter Tryz.func15, Tryz.ntmps15
    go_wp2_with fail
    refine (AC.out _ hB).mono ?_
    rintro e w1 ⟨Ar, cr, vs, rfl, _, hb⟩
    have hB := hB.trans (hb.mono hB.size)
    go_wp2
    go_ret2
    exact ⟨none, 0, rfl, OwnT.nil_ _ _, hB⟩
end Go.Proofs.YtnbikkcalcpedaaGreatDoor

/-! The reference's digits of numerals: digits, cut, digit, Minus. -/
namespace Go.Proofs.YtnbikkcalcpedaaGreatDoor
open Go.RowKit

/-- The text of a number that is not 0, by its digits. -/
theorem intS_dig {n : Nat} (h : 0 < n) : (intS n).data.toList = (digB 10 n).reverse.map asc := by
  unfold intS Lib.itoa
  rw [if_neg (by omega), Int.toNat_natCast]
  exact dec_dig h
theorem digB_last {n : Nat} (h : 0 < n) : ∃ d, (digB 10 n).getLast? = some d ∧ d ≠ 0 := by
  induction n using Nat.strongRecOn with
  | _ n ih =>
    rw [digB_pos (by omega) h]
    by_cases h1 : n / 10 = 0
    · rw [h1, digB_zero]
      exact ⟨n % 10, rfl, by omega⟩
    · obtain ⟨d, hd, h0⟩ := ih (n / 10) (by omega) (by omega)
      refine ⟨d, ?_, h0⟩
      have hne : digB 10 (n / 10) ≠ [] := fun hc => by rw [hc] at hd; cases hd
      rw [List.getLast?_cons, hd]
      rfl
end Go.Proofs.YtnbikkcalcpedaaGreatDoor

/-! The reference's Weight and Members. -/
namespace Go.Proofs.YtnbikkcalcpedaaGreatDoor
open Go.RowKit
end Go.Proofs.YtnbikkcalcpedaaGreatDoor

/-! The examples of chapter 31, each by itself. -/
namespace Go.Proofs.YtnbikkcalcpedaaGreatDoor
open Go.RowKit
def tri31 : List E3 := [(0, 1, 1), (0, 2, 1), (1, 2, 1)]
theorem a31_i : intE 3 tri31 [0, 1] = ([0, 1], 0) := by decide +kernel
theorem a31_x : extE 3 tri31 [1, 2] = ([0], 0) := by decide +kernel
theorem a31_j : joinErr 3 tri31 = 0 := by decide +kernel
theorem a31_m : (endsL tri31).length ≤ 8 := by decide +kernel
theorem a31_l : (tallE 3 tri31).1.length ≤ 16384 := by decide +kernel
theorem a31_w : wtL 3 (endsL tri31) = [(2, 0), (1, 0), (0, 1)] := by decide +kernel
theorem a31_p : polyE 3 tri31 = ([((2, 0), 1), ((1, 0), 1), ((0, 1), 1)], 0) := by
  unfold polyE
  rw [if_neg (fun hc => hc a31_j), show (3 : Int).toNat = 3 from rfl, a31_w]
  simp [sumP, plusP, abv]
theorem a31_t : intvE 3 tri31 [0, 1, 2] = ([1, 2], 0) := by decide +kernel
theorem a31_u : intvE 3 tri31 [] = ([0, 1], 0) := by decide +kernel
theorem Blk.newB {w : World} {g : Nat} {t : TypeId} {cs : Array Value} (hg : g = w.heap.size) : Blk (w.alloc (.cells cs t)) g t cs := by subst hg; exact Blk.new w t cs
theorem row_litB {W : World} {g : Nat} {xs : List Int} (h : Blk W g 3 (ints xs).toArray) : Reads W W.heap.size 1 (some ⟨g, 0, none⟩) xs.length (ints xs) :=
  ⟨by simp [ints], fun _ => ⟨g, 0, rfl, h.lt, fun j u hu => by rw [Nat.zero_add, h.cell j]; simpa using hu⟩⟩
theorem tms_litB {W : World} {g : Nat} {p : List Tm} (h : Blk W g 87 (tmCells p).toArray) : Reads W W.heap.size 3 (some ⟨g, 0, none⟩) p.length (tmCells p) :=
  ⟨by rw [tmCells_length], fun _ => ⟨g, 0, rfl, h.lt, fun j u hu => by rw [Nat.zero_add, h.cell j]; simpa using hu⟩⟩
theorem below_al {w w' : World} {o : Obj} (h : Below (w.alloc o).heap.size (w.alloc o) w') : Below w.heap.size w w' := ((Below.refl _ _).alloc (Nat.le_refl _) o).trans (h.mono (by simp))
set_option maxHeartbeats 1000000 in
theorem tri31_any (w : World) : Calls Tryz.prog 52 #[] w fun e w' => ∃ A c, e = .returned (.agg #[.int .i64 3, .slice A 3 c]) ∧ Reads w' w'.heap.size 3 A tri31.length (edgeCells tri31) ∧ Below w.heap.size w w' := by
  go_enter Tryz.func52, Tryz.ntmps52
  go_wp2
  refine bodyPost_ret (results_g rfl rfl ((Blk.new w 24 #[.int .i64 3, .slice (some ⟨w.heap.size + 1, 0, none⟩) 3 3]).alloc _) rfl) rfl ?_
  have hB := Blk.new (w.alloc (.cells #[.int .i64 3, .slice (some ⟨w.heap.size + 1, 0, none⟩) 3 3] 24)) 107 (edgeCells tri31).toArray
  rw [show (w.alloc (.cells #[.int .i64 3, .slice (some ⟨w.heap.size + 1, 0, none⟩) 3 3] 24)).heap.size = w.heap.size + 1 from by simp] at hB
  refine ⟨some ⟨w.heap.size + 1, 0, none⟩, 3, rfl, ⟨by simp [edgeCells_length], fun _ => ⟨w.heap.size + 1, 0, rfl, by simp, fun j u hu => ?_⟩⟩, ((Below.refl _ _).alloc (Nat.le_refl _) _).alloc (by simp) _⟩
  rw [Nat.zero_add]
  refine (hB.cell j).trans ?_
  rw [← hu, List.getElem?_toArray]
theorem c31_int (A : Option Addr) (c : Nat) (w : World) (h : Reads w w.heap.size 3 A tri31.length (edgeCells tri31)) : Calls Tryz.prog 22 #[.agg #[.int .i64 3, .slice A 3 c], .slice (some ⟨w.heap.size, 0, none⟩) 2 2] (w.alloc (.cells (ints [0, 1]).toArray 3)) fun e w' => ∃ A1 c1, e = .returned (.tuple #[.slice A1 2 c1, .int .i64 0]) ∧ Reads w' w'.heap.size 1 A1 2 (ints [0, 1]) ∧ Below w.heap.size w w' := by
  have hb := internal_any 3 A c tri31 (by decide) (some ⟨w.heap.size, 0, none⟩) 2 [0, 1] (by decide) (w.alloc (.cells (ints [0, 1]).toArray 3)) ((h.alloc (Nat.le_refl _) _).more (by simp)) (row_litB (xs := [0, 1]) (Blk.newB rfl))
  rw [a31_i] at hb
  refine hb.mono ?_
  rintro e w' ⟨A1, c1, he, o, hb⟩
  exact ⟨A1, c1, he, o.reads, below_al hb⟩
theorem c31_ext (A : Option Addr) (c : Nat) (w : World) (h : Reads w w.heap.size 3 A tri31.length (edgeCells tri31)) : Calls Tryz.prog 23 #[.agg #[.int .i64 3, .slice A 3 c], .slice (some ⟨w.heap.size, 0, none⟩) 2 2] (w.alloc (.cells (ints [1, 2]).toArray 3)) fun e w' => ∃ A1 c1, e = .returned (.tuple #[.slice A1 1 c1, .int .i64 0]) ∧ Reads w' w'.heap.size 1 A1 1 (ints [0]) ∧ Below w.heap.size w w' := by
  have hb := external_any 3 A c tri31 (by decide) (some ⟨w.heap.size, 0, none⟩) 2 [1, 2] (by decide) (w.alloc (.cells (ints [1, 2]).toArray 3)) ((h.alloc (Nat.le_refl _) _).more (by simp)) (row_litB (xs := [1, 2]) (Blk.newB rfl))
  rw [a31_x] at hb
  refine hb.mono ?_
  rintro e w' ⟨A1, c1, he, o, hb⟩
  exact ⟨A1, c1, he, o.reads, below_al hb⟩
theorem c31_poly (A : Option Addr) (c : Nat) (w : World) (h : Reads w w.heap.size 3 A tri31.length (edgeCells tri31)) : Calls Tryz.prog 15 #[.agg #[.int .i64 3, .slice A 3 c]] w fun e w' => ∃ A1 c1, e = .returned (.tuple #[.slice A1 3 c1, .int .i64 0]) ∧ Reads w' w'.heap.size 3 A1 3 (tmCells [((2, 0), 1), ((1, 0), 1), ((0, 1), 1)]) ∧ Below w.heap.size w w' := by
  have hb := polynomial_any 3 A c tri31 (by decide) (fun _ => ⟨by decide, a31_m⟩) w h
  rw [a31_p] at hb
  refine hb.mono ?_
  rintro e w' ⟨A1, c1, he, o, hb⟩
  exact ⟨A1, c1, he, o.reads, hb⟩
theorem c31_tv (A : Option Addr) (c : Nat) (w : World) (h : Reads w w.heap.size 3 A tri31.length (edgeCells tri31)) : Calls Tryz.prog 53 #[.agg #[.int .i64 3, .slice A 3 c], .slice (some ⟨w.heap.size, 0, none⟩) 3 3] (w.alloc (.cells (ints [0, 1, 2]).toArray 3)) fun e w' => ∃ A1 c1, e = .returned (.tuple #[.slice A1 2 c1, .int .i64 0]) ∧ Reads w' w'.heap.size 1 A1 2 (ints [1, 2]) ∧ Below w.heap.size w w' := by
  have hb := interval_any 3 A c tri31 (by decide) a31_l (fun _ => Nat.le_trans a31_m (by omega)) (some ⟨w.heap.size, 0, none⟩) 3 [0, 1, 2] (by decide) (w.alloc (.cells (ints [0, 1, 2]).toArray 3)) ((h.alloc (Nat.le_refl _) _).more (by simp)) (row_litB (xs := [0, 1, 2]) (Blk.newB rfl))
  rw [a31_t] at hb
  refine hb.mono ?_
  rintro e w' ⟨A1, c1, he, o, hb⟩
  exact ⟨A1, c1, he, o, below_al hb⟩
theorem c31_uv (A : Option Addr) (c : Nat) (w : World) (h : Reads w w.heap.size 3 A tri31.length (edgeCells tri31)) : Calls Tryz.prog 53 #[.agg #[.int .i64 3, .slice A 3 c], .slice none 0 0] w fun e w' => ∃ A1 c1, e = .returned (.tuple #[.slice A1 2 c1, .int .i64 0]) ∧ Reads w' w'.heap.size 1 A1 2 (ints [0, 1]) ∧ Below w.heap.size w w' := by
  have hb := interval_any 3 A c tri31 (by decide) a31_l (fun _ => Nat.le_trans a31_m (by omega)) none 0 [] (by decide) w h Reads.nil_
  rw [a31_u] at hb
  exact hb
theorem c31_eq (l : List Int) (hl : l.length ≤ 100) (A : Option Addr) (c : Nat) (w : World) (h : Reads w w.heap.size 1 A l.length (ints l)) : Calls Tryz.prog 40 #[.slice A l.length c, .slice (some ⟨w.heap.size, 0, none⟩) l.length l.length] (w.alloc (.cells (ints l).toArray 3)) fun e w' => e = .returned (.bool true) ∧ Below w.heap.size w w' := by
  have hb := iequal_any A c l (some ⟨w.heap.size, 0, none⟩) l.length l (by omega) (w.alloc (.cells (ints l).toArray 3)) ((h.alloc (Nat.le_refl _) _).more (by simp)) (row_litB (xs := l) (Blk.newB rfl))
  refine hb.mono ?_
  rintro e w' ⟨he, hb⟩
  exact ⟨by rw [he, decide_eq_true rfl], below_al hb⟩
theorem c31_same (p : List Tm) (hl : p.length ≤ 100) (A : Option Addr) (c : Nat) (w : World) (h : Reads w w.heap.size 3 A p.length (tmCells p)) : Calls Tryz.prog 41 #[.slice A p.length c, .slice (some ⟨w.heap.size, 0, none⟩) p.length p.length] (w.alloc (.cells (tmCells p).toArray 87)) fun e w' => e = .returned (.bool true) ∧ Below w.heap.size w w' := by
  have hb := rsame06_any A c p (some ⟨w.heap.size, 0, none⟩) p.length (by omega) (w.alloc (.cells (tmCells p).toArray 87)) ((h.alloc (Nat.le_refl _) _).more (by simp)) (tms_litB (p := p) (Blk.newB rfl))
  refine hb.mono ?_
  rintro e w' ⟨he, hb⟩
  exact ⟨he, below_al hb⟩
end Go.Proofs.YtnbikkcalcpedaaGreatDoor

/-! The reference's sum of digits. -/
namespace Go.Proofs.YtnbikkcalcpedaaGreatDoor
open Go.RowKit

end Go.Proofs.YtnbikkcalcpedaaGreatDoor

/-! The example of chapter 31 holds (awake of sandpilelaw31). -/
namespace Go.Proofs.YtnbikkcalcpedaaGreatDoor
open Go.RowKit
theorem one31 : (⟨#[49]⟩ : ByteArray) = intS 1 := by decide +kernel
set_option maxRecDepth 100000 in
set_option maxHeartbeats 8000000 in
theorem awake31_any (w : World) : Calls Tryz.prog 13 #[] w fun e w' => e = .returned (.bool true) ∧ Below w.heap.size w w' := by
  go_enter Tryz.func13, Tryz.ntmps13
  go_wp2_with fail
  refine (tri31_any w).mono ?_
  rintro e w1 ⟨A, c, rfl, r1, b1⟩
  have gg : Blk (w1.alloc (.cells #[.int .i64 3, .slice A 3 c] 24)) w1.heap.size 24 #[.int .i64 3, .slice A 3 c] := Blk.newB rfl
  have bg : Below w1.heap.size w1 (w1.alloc (.cells #[.int .i64 3, .slice A 3 c] 24)) := (Below.refl _ _).alloc (Nat.le_refl _) _
  obtain ⟨gb, hgb⟩ : ∃ gb, w1.heap.size = gb := ⟨_, rfl⟩
  have r2 := (r1.below bg).more bg.size
  have hB := b1.trans (bg.mono b1.size)
  obtain ⟨W2, hW2⟩ : ∃ W2, w1.alloc (.cells #[.int .i64 3, .slice A 3 c] 24) = W2 := ⟨_, rfl⟩
  rw [hW2, hgb] at gg
  rw [hW2] at r2 hB
  have HW2 := Lib.hid hW2
  have HGB := Lib.hid hgb
  have hz2 : gb + 1 = W2.heap.size := by rw [← hW2]; simp [hgb]
  have HZ2 := Lib.hid hz2
  clear bg b1 r1 hW2 hgb hz2
  have c0 : ∀ o, ((w1.alloc (.cells #[.int .i64 3, .slice A 3 c] 24)).alloc o).cell? ⟨w1.heap.size, 0, none⟩ = some (.int .i64 3) := fun o => by rw [HW2.out, HGB.out]; exact (gg.alloc o).cell 0
  have c1 : ∀ o, ((w1.alloc (.cells #[.int .i64 3, .slice A 3 c] 24)).alloc o).cell? ⟨w1.heap.size, 1, none⟩ = some (.slice A 3 c) := fun o => by rw [HW2.out, HGB.out]; exact (gg.alloc o).cell 1
  have C := c31_int A c W2 r2
  rw [← HZ2.out] at C
  have C := Lib.hid C
  go_wp2_with fail
  try rw [HW2.out]
  try rw [HGB.out]
  refine (C.out).mono ?_
  rintro e v0 ⟨A0, d0, rfl, q0, b⟩
  rw [HZ2.out] at b
  have gg := gg.next b
  have r2 := r2.next b
  have hB := hB.trans (b.mono hB.size)
  clear b c0 c1 C
  have c0 := gg.cell 0
  have c1 := gg.cell 1
  have C := Lib.hid (c31_ext A c v0 r2)
  go_wp2_with fail
  refine (C.out).mono ?_
  rintro e v1 ⟨A1, d1, rfl, q1, b⟩
  have q0 := q0.next b
  have gg := gg.next b
  have r2 := r2.next b
  have hB := hB.trans (b.mono hB.size)
  clear b c0 c1 C
  have c0 := gg.cell 0
  have c1 := gg.cell 1
  have C := Lib.hid (c31_poly A c v1 r2)
  go_wp2_with fail
  refine (C.out).mono ?_
  rintro e v2 ⟨A2, d2, rfl, q2, b⟩
  have q0 := q0.next b
  have q1 := q1.next b
  have gg := gg.next b
  have r2 := r2.next b
  have hB := hB.trans (b.mono hB.size)
  clear b c0 c1 C
  have c0 := gg.cell 0
  have c1 := gg.cell 1
  have C := Lib.hid (c31_tv A c v2 r2)
  go_wp2_with fail
  refine (C.out).mono ?_
  rintro e v3 ⟨A3, d3, rfl, q3, b⟩
  have q0 := q0.next b
  have q1 := q1.next b
  have q2 := q2.next b
  have gg := gg.next b
  have r2 := r2.next b
  have hB := hB.trans (b.mono hB.size)
  clear b c0 c1 C
  have c0 := gg.cell 0
  have c1 := gg.cell 1
  have C := Lib.hid (c31_uv A c v3 r2)
  go_wp2_with fail
  refine (C.out).mono ?_
  rintro e v4 ⟨A4, d4, rfl, q4, b⟩
  have q0 := q0.next b
  have q1 := q1.next b
  have q2 := q2.next b
  have q3 := q3.next b
  have gg := gg.next b
  have r2 := r2.next b
  have hB := hB.trans (b.mono hB.size)
  clear b c0 c1 C
  have C := Lib.hid (c31_eq [0, 1] (by decide) A0 d0 v4 q0)
  go_wp2_with fail
  refine (C.out).mono ?_
  rintro e v5 ⟨rfl, b⟩
  have q1 := q1.next b
  have q2 := q2.next b
  have q3 := q3.next b
  have q4 := q4.next b
  have hB := hB.trans (b.mono hB.size)
  clear b C
  have C := Lib.hid (c31_eq [0] (by decide) A1 d1 v5 q1)
  go_wp2_with fail
  refine (C.out).mono ?_
  rintro e v6 ⟨rfl, b⟩
  have q2 := q2.next b
  have q3 := q3.next b
  have q4 := q4.next b
  have hB := hB.trans (b.mono hB.size)
  clear b C
  have C := Lib.hid (c31_same [((2, 0), 1), ((1, 0), 1), ((0, 1), 1)] (by decide) A2 d2 v6 q2)
  have C : Hid (Calls Tryz.prog 41 #[.slice A2 3 d2, .slice (some ⟨v6.heap.size, 0, none⟩) 3 3] (v6.alloc (.cells #[.int .i64 2, .int .i64 0, .string ⟨#[49]⟩, .int .i64 1, .int .i64 0, .string ⟨#[49]⟩, .int .i64 0, .int .i64 1, .string ⟨#[49]⟩] 87)) fun e w' => e = .returned (.bool true) ∧ Below v6.heap.size v6 w') := by rw [one31]; exact C
  go_wp2_with fail
  refine (C.out).mono ?_
  rintro e v7 ⟨rfl, b⟩
  have q3 := q3.next b
  have q4 := q4.next b
  have hB := hB.trans (b.mono hB.size)
  clear b C
  have C := Lib.hid (c31_eq [1, 2] (by decide) A3 d3 v7 q3)
  go_wp2_with fail
  refine (C.out).mono ?_
  rintro e v8 ⟨rfl, b⟩
  have q4 := q4.next b
  have hB := hB.trans (b.mono hB.size)
  clear b C
  have C := Lib.hid (c31_eq [0, 1] (by decide) A4 d4 v8 q4)
  go_wp2_with fail
  refine (C.out).mono ?_
  rintro e v9 ⟨rfl, b⟩
  have hB := hB.trans (b.mono hB.size)
  clear b C
  go_wp2
  go_ret
  exact ⟨rfl, hB⟩
end Go.Proofs.YtnbikkcalcpedaaGreatDoor

/-! The reference's text of digits, its sign, and its sum of positive numerals. -/
namespace Go.Proofs.YtnbikkcalcpedaaGreatDoor
open Go.RowKit

end Go.Proofs.YtnbikkcalcpedaaGreatDoor

/-! The reference's sum of polynomials with positive coefficients. -/
namespace Go.Proofs.YtnbikkcalcpedaaGreatDoor
open Go.RowKit

theorem intS_ne0 {n : Nat} (h : 0 < n) : ((intS n).toList == [48]) = false := by
  rw [Lib.toList_data, intS_dig h]
  obtain ⟨d, hd, hd0⟩ := digB_last h
  have hd10 := digB_lt (B := 10) (by omega) (List.mem_of_getLast? hd)
  rw [Bool.eq_false_iff]
  intro hc
  have hc := eq_of_beq hc
  have h1 : ((digB 10 n).reverse.map asc).head? = some (asc d) := by rw [List.head?_map, List.head?_reverse, hd]; rfl
  rw [hc] at h1
  injection h1 with h1
  have := congrArg UInt8.toNat h1
  rw [asc_nat hd10] at this
  have h48 : (48 : UInt8).toNat = 48 := rfl
  omega
/-- Polynomials with positive coefficients, not too great. -/
def PosP (p : List Tm) : Prop := ∀ a ∈ p, 0 < a.2 ∧ a.2 < 1000000
end Go.Proofs.YtnbikkcalcpedaaGreatDoor

