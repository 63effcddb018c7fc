/-
 Texts of this claim, put together: Ear33, Awake33.
-/
import Derived.Test.YtnbikkcalcpedaaGreatDoorK44
import Derived.Test.YtnbikkcalcpedaaGreatDoorK46
import Derived.Test.YtnbikkcalcpedaaGreatDoorK45
set_option maxRecDepth 100000
set_option maxHeartbeats 8000000
namespace Go.Proofs.YtnbikkcalcpedaaGreatDoor
open Go.RowKit
def two33 : List E3 := [(0, 1, 3)]
theorem a33_l : lvlE 3 tri31 0 [0, 1, 1] = (1, 0) := by decide +kernel
theorem a33_r : rootErr 3 tri31 0 = 0 := by decide +kernel
theorem a33_n : (recsL 3 tri31 0).length ≤ 1000 := by decide +kernel
theorem a33_c : lcntE 3 tri31 0 = ([2, 1], 0) := by decide +kernel
theorem a33_p : lpolE 3 tri31 0 = ([((0, 1), 1), ((0, 0), 2)], 0) := by decide +kernel
theorem a33_n2 : (recsL 2 two33 0).length ≤ 1000 := by decide +kernel
theorem a33_p2 : lpolE 2 two33 0 = ([((0, 2), 1), ((0, 1), 1), ((0, 0), 1)], 0) := by decide +kernel
theorem a33_t : lvtE 3 tri31 0 [0, 1] = (1, 0) := by decide +kernel
theorem a33_av : avS (lcntE 3 tri31 0).1 (lcntE 3 tri31 0).1.length = 1 ∧ avN (lcntE 3 tri31 0).1 (lcntE 3 tri31 0).1.length = 3 := by decide +kernel
theorem a33_f : fracV 1 3 = .agg #[.string ⟨#[49]⟩, .string ⟨#[51]⟩] := by
 unfold fracV
 rw [show 1 / Nat.gcd 1 3 = 1 from rfl, show 3 / Nat.gcd 1 3 = 3 from rfl, ← numS_int, ← numS_int]
 unfold numS
 rw [Lib.decDigits_one (by omega), Lib.decDigits_one (by omega)]
 rfl
theorem tri33_any (w : World) : Calls Tryz.prog 81 #[] w fun e w' => ∃ A c, e = .returned (.agg #[.int .i64 3, .slice A 3 c]) ∧ Reads w' w'.heap.size 3 A tri31.length (edgeCells tri31) ∧ Below w.heap.size w w' := by
 go_enter Tryz.func81, Tryz.ntmps81
 go_wp2
 refine bodyPost_ret (results_g rfl rfl ((Blk.new w 24 #[.int .i64 3, .slice (some ⟨w.heap.size + 1, 0, none⟩) 3 3]).alloc _) rfl) rfl ?_
 have hB := Blk.new (w.alloc (.cells #[.int .i64 3, .slice (some ⟨w.heap.size + 1, 0, none⟩) 3 3] 24)) 107 (edgeCells tri31).toArray
 rw [show (w.alloc (.cells #[.int .i64 3, .slice (some ⟨w.heap.size + 1, 0, none⟩) 3 3] 24)).heap.size = w.heap.size + 1 from by simp] at hB
 refine ⟨some ⟨w.heap.size + 1, 0, none⟩, 3, rfl, ⟨by simp [edgeCells_length], fun _ => ⟨w.heap.size + 1, 0, rfl, by simp, fun j u hu => ?_⟩⟩, ((Below.refl _ _).alloc (Nat.le_refl _) _).alloc (by simp) _⟩
 rw [Nat.zero_add]
 refine (hB.cell j).trans ?_
 rw [← hu, List.getElem?_toArray]
theorem c33_lev (A : Option Addr) (c : Nat) (w : World) (h : Reads w w.heap.size 3 A tri31.length (edgeCells tri31)) : Calls Tryz.prog 29 #[.agg #[.int .i64 3, .slice A 3 c], .int .i64 0, .slice (some ⟨w.heap.size, 0, none⟩) 3 3] (w.alloc (.cells (ints [0, 1, 1]).toArray 3)) fun e w' => e = .returned (.tuple #[.int .i64 1, .int .i64 0]) ∧ Below w.heap.size w w' := by
 have hb := llevel_any 3 A c tri31 (by decide) 0 (some ⟨w.heap.size, 0, none⟩) 3 [0, 1, 1] (by decide) (w.alloc (.cells (ints [0, 1, 1]).toArray 3)) ((h.alloc (Nat.le_refl _) _).more (by simp)) (row_litB (xs := [0, 1, 1]) (Blk.newB rfl))
 rw [a33_l] at hb
 refine hb.mono ?_
 rintro e w' ⟨he, hb⟩
 exact ⟨he, below_al hb⟩
theorem c33_cnt (A : Option Addr) (c : Nat) (w : World) (h : Reads w w.heap.size 3 A tri31.length (edgeCells tri31)) : Calls Tryz.prog 34 #[.agg #[.int .i64 3, .slice A 3 c], .int .i64 0] w fun e w' => ∃ A1 c1, e = .returned (.tuple #[.slice A1 2 c1, .int .i64 0]) ∧ Reads w' w'.heap.size 1 A1 2 (ints [2, 1]) ∧ Below w.heap.size w w' := by
 have hb := lcounts_any 3 A c tri31 (by decide) 0 (fun _ => ⟨Nat.le_trans a31_m (by omega), Nat.le_trans a33_n (by omega)⟩) w h
 rw [a33_c] at hb
 refine hb.mono ?_
 rintro e w' ⟨A1, c1, he, o, hb⟩
 exact ⟨A1, c1, he, o.reads, hb⟩
theorem c33_pol (A : Option Addr) (c : Nat) (w : World) (ht : Tab10 w) (h : Reads w w.heap.size 3 A tri31.length (edgeCells tri31)) : Calls Tryz.prog 36 #[.agg #[.int .i64 3, .slice A 3 c], .int .i64 0] w fun e w' => ∃ A1 c1, e = .returned (.tuple #[.slice A1 2 c1, .int .i64 0]) ∧ Reads w' w'.heap.size 3 A1 2 (tmCells [((0, 1), 1), ((0, 0), 2)]) ∧ Below w.heap.size w w' := by
 have hb := lpoly_any 3 A c tri31 (by decide) 0 (fun _ => ⟨Nat.le_trans a31_m (by omega), Nat.le_trans a33_n (by omega)⟩) w ht h
 rw [a33_p] at hb
 refine hb.mono ?_
 rintro e w' ⟨A1, c1, he, o, hb⟩
 exact ⟨A1, c1, he, o.reads, hb⟩
theorem c33_pol2 (w : World) (ht : Tab10 w) : Calls Tryz.prog 36 #[.agg #[.int .i64 2, .slice (some ⟨w.heap.size, 0, none⟩) 1 1], .int .i64 0] (w.alloc (.cells (edgeCells two33).toArray 107)) fun e w' => ∃ A1 c1, e = .returned (.tuple #[.slice A1 3 c1, .int .i64 0]) ∧ Reads w' w'.heap.size 3 A1 3 (tmCells [((0, 2), 1), ((0, 1), 1), ((0, 0), 1)]) ∧ Below w.heap.size w w' := by
 have hr : Reads (w.alloc (.cells (edgeCells two33).toArray 107)) (w.alloc (.cells (edgeCells two33).toArray 107)).heap.size 3 (some ⟨w.heap.size, 0, none⟩) two33.length (edgeCells two33) :=
  ⟨by simp [edgeCells_length], fun _ => ⟨w.heap.size, 0, rfl, by simp, fun j u hu => by rw [Nat.zero_add]; refine ((Blk.new w 107 (edgeCells two33).toArray).cell j).trans ?_; rw [← hu, List.getElem?_toArray]⟩⟩
 have hb := lpoly_any 2 (some ⟨w.heap.size, 0, none⟩) 1 two33 (by decide) 0 (fun _ => ⟨by decide +kernel, Nat.le_trans a33_n2 (by omega)⟩) _ (ht.below ((Below.refl _ _).alloc (Nat.le_refl _) _)) hr
 rw [a33_p2] at hb
 refine hb.mono ?_
 rintro e w' ⟨A1, c1, he, o, hb⟩
 exact ⟨A1, c1, he, o.reads, below_al hb⟩
theorem c33_ave (A : Option Addr) (c : Nat) (w : World) (ht : Tab10 w) (h : Reads w w.heap.size 3 A tri31.length (edgeCells tri31)) : Calls Tryz.prog 38 #[.agg #[.int .i64 3, .slice A 3 c], .int .i64 0] w fun e w' => e = .returned (.tuple #[.agg #[.string ⟨#[49]⟩, .string ⟨#[51]⟩], .int .i64 0]) ∧ Below w.heap.size w w' := by
 have hb := laverage_ok 3 0 A c tri31 (by decide) a33_r (Nat.le_trans a31_m (by omega)) a33_n (by show 0 < avN (lcntE 3 tri31 0).1 (lcntE 3 tri31 0).1.length; rw [a33_av.2]; decide) w ht h
 have hv : (lavE 3 tri31 0).1 = .agg #[.string ⟨#[49]⟩, .string ⟨#[51]⟩] := by
  unfold lavE
  rw [if_pos a33_r, a33_av.1, a33_av.2]
  exact a33_f
 have hb2 : Calls Tryz.prog 38 #[.agg #[.int .i64 3, .slice A 3 c], .int .i64 0] w fun e w' => e = .returned (.tuple #[(lavE 3 tri31 0).1, .int .i64 0]) ∧ Below w.heap.size w w' := hb
 rw [hv] at hb2
 exact hb2
theorem c33_tre (A : Option Addr) (c : Nat) (w : World) (h : Reads w w.heap.size 3 A tri31.length (edgeCells tri31)) : Calls Tryz.prog 32 #[.agg #[.int .i64 3, .slice A 3 c], .int .i64 0, .slice (some ⟨w.heap.size, 0, none⟩) 2 2] (w.alloc (.cells (ints [0, 1]).toArray 3)) fun e w' => e = .returned (.tuple #[.int .i64 1, .int .i64 0]) ∧ Below w.heap.size w w' := by
 have hb := ltree_any 3 A c tri31 (by decide) (fun _ => Nat.le_trans a31_m (by omega)) 0 (some ⟨w.heap.size, 0, none⟩) 2 [0, 1] (by decide) (w.alloc (.cells (ints [0, 1]).toArray 3)) ((h.alloc (Nat.le_refl _) _).more (by simp)) (row_litB (xs := [0, 1]) (Blk.newB rfl))
 rw [a33_t] at hb
 refine hb.mono ?_
 rintro e w' ⟨he, hb⟩
 exact ⟨he, below_al hb⟩
theorem intS_12 : intS 1 = ⟨#[49]⟩ ∧ intS 2 = ⟨#[50]⟩ := by
 rw [show (1 : Int) = ((1 : Nat) : Int) from rfl, show (2 : Int) = ((2 : Nat) : Int) from rfl, ← numS_int, ← numS_int]
 unfold numS
 rw [Lib.decDigits_one (by omega), Lib.decDigits_one (by omega)]
 exact ⟨rfl, rfl⟩
theorem tm33_a : (tmCells [((0, 1), 1), ((0, 0), 2)]).toArray = #[.int .i64 0, .int .i64 1, .string ⟨#[49]⟩, .int .i64 0, .int .i64 0, .string ⟨#[50]⟩] := by
 simp only [tmCells]
 rw [intS_12.1, intS_12.2]
 rfl
theorem tm33_b : (tmCells [((0, 2), 1), ((0, 1), 1), ((0, 0), 1)]).toArray = #[.int .i64 0, .int .i64 2, .string ⟨#[49]⟩, .int .i64 0, .int .i64 1, .string ⟨#[49]⟩, .int .i64 0, .int .i64 0, .string ⟨#[49]⟩] := by
 simp only [tmCells]
 rw [intS_12.1]
 rfl
theorem awake33_any (w : World) (ht : Tab10 w) : Calls Tryz.prog 28 #[] w fun e w' => e = .returned (.bool true) ∧ Below w.heap.size w w' := by
 have TR := Lib.hid tri33_any
 have LV := Lib.hid c33_lev
 have CN := Lib.hid c33_cnt
 have PO := Lib.hid (fun (A : Option Addr) (c : Nat) (W : World) (hB : Below w.heap.size w W) => c33_pol A c W (ht.below hB))
 have P2 := Lib.hid (fun (W : World) (hB : Below w.heap.size w W) => c33_pol2 W (ht.below hB))
 have AV := Lib.hid (fun (A : Option Addr) (c : Nat) (W : World) (hB : Below w.heap.size w W) => c33_ave A c W (ht.below hB))
 have TE := Lib.hid c33_tre
 have EQ := Lib.hid (c31_eq [2, 1] (by decide))
 have S1 := Lib.hid (c31_same [((0, 1), 1), ((0, 0), 2)] (by decide))
 have S2 := Lib.hid (c31_same [((0, 2), 1), ((0, 1), 1), ((0, 0), 1)] (by decide))
 rw [tm33_a] at S1
 rw [tm33_b] at S2
 have hB := Below.refl w.heap.size w
 have hnq : ∀ w, (binOp .neq 68 (.agg #[.string ⟨#[49]⟩, .string ⟨#[51]⟩]) (.agg #[.string ⟨#[49]⟩, .string ⟨#[51]⟩])).run Tryz.prog w = .ok (.bool false) w := fun _ => by kernel_rfl
 clear ht
 go_enter Tryz.func28, Tryz.ntmps28
 go_wp2_with fail
 refine (TR.out _).mono ?_
 rintro e w1 ⟨A1, c1, rfl, r1, hb⟩
 have hB := hB.trans (hb.mono hB.size)
 clear hb
 go_wp2_with fail
 refine (LV.out A1 c1 w1 r1).mono ?_
 rintro e w2 ⟨rfl, hb⟩
 have hB := hB.trans (hb.mono hB.size)
 clear hb r1
 go_wp2_with fail
 refine (TR.out _).mono ?_
 rintro e w3 ⟨A1, c1, rfl, r1, hb⟩
 have hB := hB.trans (hb.mono hB.size)
 clear hb
 go_wp2_with fail
 refine (CN.out A1 c1 _ r1).mono ?_
 rintro e w4 ⟨A4, c4, rfl, r4, hb⟩
 have hB := hB.trans (hb.mono hB.size)
 clear hb r1
 go_wp2_with fail
 refine (TR.out _).mono ?_
 rintro e w5 ⟨A1, c1, rfl, r1, hb⟩
 have hB := hB.trans (hb.mono hB.size)
 have r4 := r4.next hb
 clear hb
 go_wp2_with fail
 refine (PO.out A1 c1 _ hB r1).mono ?_
 rintro e w6 ⟨A6, c6, rfl, r6, hb⟩
 have hB := hB.trans (hb.mono hB.size)
 have r4 := r4.next hb
 clear hb r1
 go_wp2_with fail
 refine (TR.out _).mono ?_
 rintro e w7 ⟨A1, c1, rfl, r1, hb⟩
 have hB := hB.trans (hb.mono hB.size)
 have r4 := r4.next hb
 have r6 := r6.next hb
 clear hb
 go_wp2_with fail
 refine (AV.out A1 c1 _ hB r1).mono ?_
 rintro e w8 ⟨rfl, hb⟩
 have hB := hB.trans (hb.mono hB.size)
 have r4 := r4.next hb
 have r6 := r6.next hb
 clear hb r1
 have hn8 := Below.alloc (Below.refl w8.heap.size w8) (Nat.le_refl _) (.cells #[.string ⟨#[49]⟩, .string ⟨#[51]⟩] 68)
 have r4 := r4.next hn8
 have r6 := r6.next hn8
 have gf := Blk.new w8 68 #[.string ⟨#[49]⟩, .string ⟨#[51]⟩]
 have hB := hB.trans (hn8.mono hB.size)
 clear hn8
 have hP := P2.out (w8.alloc (.cells #[.string ⟨#[49]⟩, .string ⟨#[51]⟩] 68)) hB
 rw [show (w8.alloc (.cells #[.string ⟨#[49]⟩, .string ⟨#[51]⟩] 68)).heap.size = w8.heap.size + 1 by simp, show (edgeCells two33).toArray = #[.int .i64 0, .int .i64 1, .int .i64 3] from rfl] at hP
 have HP := Lib.hid hP
 clear hP
 go_wp2_with fail
 refine (HP.out).mono ?_
 rintro e w9 ⟨A9, c9, rfl, r9, hb⟩
 have hb : Below (w8.alloc (.cells #[.string ⟨#[49]⟩, .string ⟨#[51]⟩] 68)).heap.size (w8.alloc (.cells #[.string ⟨#[49]⟩, .string ⟨#[51]⟩] 68)) w9 := by rw [show (w8.alloc (.cells #[.string ⟨#[49]⟩, .string ⟨#[51]⟩] 68)).heap.size = w8.heap.size + 1 by simp]; exact hb
 have hB := hB.trans (hb.mono hB.size)
 have r4 := r4.next hb
 have r6 := r6.next hb
 have gf := gf.next hb
 clear hb
 go_wp2_with fail
 refine (TR.out _).mono ?_
 rintro e w10 ⟨A1, c1, rfl, r1, hb⟩
 have hB := hB.trans (hb.mono hB.size)
 have r4 := r4.next hb
 have r6 := r6.next hb
 have r9 := r9.next hb
 have gf := gf.next hb
 clear hb
 go_wp2_with fail
 refine (TE.out A1 c1 w10 r1).mono ?_
 rintro e w11 ⟨rfl, hb⟩
 have hB := hB.trans (hb.mono hB.size)
 have r4 := r4.next hb
 have r6 := r6.next hb
 have r9 := r9.next hb
 have gf := gf.next hb
 clear hb r1
 go_wp2_with fail
 refine (EQ.out A4 c4 w11 r4).mono ?_
 rintro e w12 ⟨rfl, hb⟩
 have hB := hB.trans (hb.mono hB.size)
 have r6 := r6.next hb
 have r9 := r9.next hb
 have gf := gf.next hb
 have f0 := gf.cell 0
 have f1 := gf.cell 1
 clear hb r4
 go_wp2_with fail
 refine (S1.out A6 c6 w12 r6).mono ?_
 rintro e w13 ⟨rfl, hb⟩
 have hB := hB.trans (hb.mono hB.size)
 have r9 := r9.next hb
 clear hb r6 f0 f1 gf
 go_wp2_with fail
 refine (S2.out A9 c9 w13 r9).mono ?_
 rintro e w14 ⟨rfl, hb⟩
 have hB := hB.trans (hb.mono hB.size)
 go_wp2
 go_ret
 exact ⟨rfl, hB⟩
end Go.Proofs.YtnbikkcalcpedaaGreatDoor
