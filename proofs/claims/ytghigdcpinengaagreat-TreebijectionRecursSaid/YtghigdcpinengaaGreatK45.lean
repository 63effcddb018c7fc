/-
  Texts of this claim, put together: Awake30, Right30.
-/
import Derived.Test.YtghigdcpinengaaGreatK44
import Derived.Test.YtghigdcpinengaaGreatK27
import Derived.Test.YtghigdcpinengaaGreatK25
import Derived.Test.YtghigdcpinengaaGreatK43
import Derived.Test.YtghigdcpinengaaGreatK29
/-! The examples of chapter 30: awake. -/
namespace Go.Proofs.YtghigdcpinengaaGreat
open Go.RowKit

set_option maxRecDepth 100000 in
set_option maxHeartbeats 8000000 in
theorem awake30_any (w : World) : Calls Tryz.prog 12 #[] w fun e w' => e = .returned (.bool true) ∧ Below w.heap.size w w' := by
  have SL := Lib.hid (fun Aa ca Ab cb W h h' => samelists_any Aa ca [[1, 2], [0, 1, 2], [0, 3], [0, 2, 3], [3], [0, 0, 0], [1, 3], [0, 2, 1]] Ab cb [[1, 2], [0, 1, 2], [0, 3], [0, 2, 3], [3], [0, 0, 0], [1, 3], [0, 2, 1]] (by decide) (by decide) W h h')
  rw [decide_eq_true rfl] at SL
  go_enter Tryz.func12, Tryz.ntmps12
  go_wp2_with fail
  refine (ear30_any w).mono ?_
  rintro e w1 ⟨A, c, rfl, r1, b1⟩
  have gg : Blk (w1.alloc (.cells #[.int .i64 3, .slice A 3 c] 24)) w1.heap.size 24 #[.int .i64 3, .slice A 3 c] := Blk.newA rfl
  have bg : Below w1.heap.size w1 (w1.alloc (.cells #[.int .i64 3, .slice A 3 c] 24)) := (Below.refl _ _).alloc (Nat.le_refl _) _
  obtain ⟨gb, hgb⟩ : ∃ gb, w1.heap.size = gb := ⟨_, rfl⟩
  have r2 := (r1.below bg).more bg.size
  have hB := b1.trans (bg.mono b1.size)
  obtain ⟨W2, hW2⟩ : ∃ W2, w1.alloc (.cells #[.int .i64 3, .slice A 3 c] 24) = W2 := ⟨_, rfl⟩
  rw [hW2, hgb] at gg
  rw [hW2] at r2 hB
  have HW2 := Lib.hid hW2
  have HGB := Lib.hid hgb
  have hz2 : gb + 1 = W2.heap.size := by rw [← hW2]; simp [hgb]
  clear bg b1 r1 hW2 hgb
  have al0 : Below W2.heap.size W2 (W2.alloc (.cells (ints [0, 1, 0]).toArray 3)) := (Below.refl _ _).alloc (Nat.le_refl _) _
  have rt : Reads (W2.alloc (.cells (ints [0, 1, 0]).toArray 3)) (W2.alloc (.cells (ints [0, 1, 0]).toArray 3)).heap.size 1 (some ⟨gb + 1, 0, none⟩) 3 (ints [0, 1, 0]) := row_litA (xs := [0, 1, 0]) (Blk.newA hz2)
  have r3 := r2.next al0
  have c0 : ∀ o, ((w1.alloc (.cells #[.int .i64 3, .slice A 3 c] 24)).alloc o).cell? ⟨w1.heap.size, 0, none⟩ = some (.int .i64 3) := fun o => by rw [HW2.out, HGB.out]; exact (gg.alloc o).cell 0
  have c1 : ∀ o, ((w1.alloc (.cells #[.int .i64 3, .slice A 3 c] 24)).alloc o).cell? ⟨w1.heap.size, 1, none⟩ = some (.slice A 3 c) := fun o => by rw [HW2.out, HGB.out]; exact (gg.alloc o).cell 1
  have C := Lib.hid (c30_tr1 A c _ 3 _ r3 rt)
  clear rt r3
  go_wp2_with fail
  try rw [HW2.out]
  try rw [HGB.out]
  refine (C.out).mono ?_
  rintro e w10 ⟨A0, d0, X0, y0, rfl, q0, p0, b⟩
  have gg := (gg.alloc _).next b
  have r2 := (r2.next al0).next b
  have hB := hB.trans ((al0.trans (b.mono al0.size)).mono hB.size)
  clear hz2
  clear b al0 c0 c1 C
  have al1 : Below w10.heap.size w10 (w10.alloc (.cells (ints [0, 0, 1]).toArray 3)) := (Below.refl _ _).alloc (Nat.le_refl _) _
  have rt : Reads (w10.alloc (.cells (ints [0, 0, 1]).toArray 3)) (w10.alloc (.cells (ints [0, 0, 1]).toArray 3)).heap.size 1 (some ⟨w10.heap.size, 0, none⟩) 3 (ints [0, 0, 1]) := row_litA (xs := [0, 0, 1]) (Blk.newA rfl)
  have r3 := r2.next al1
  have k0 := gg.cell 0
  have k1 := gg.cell 1
  have c0 : ∀ o, (w10.alloc o).cell? ⟨gb, 0, none⟩ = some (.int .i64 3) := fun o => (gg.alloc o).cell 0
  have c1 : ∀ o, (w10.alloc o).cell? ⟨gb, 1, none⟩ = some (.slice A 3 c) := fun o => (gg.alloc o).cell 1
  have q0 := q0.next al1
  have p0 := p0.next al1
  have C := Lib.hid (c30_tr2 A c _ 3 _ r3 rt)
  clear rt r3
  go_wp2_with fail
  refine (C.out).mono ?_
  rintro e w11 ⟨A1, d1, X1, y1, rfl, q1, p1, b⟩
  have gg := (gg.alloc _).next b
  have r2 := (r2.next al1).next b
  have hB := hB.trans ((al1.trans (b.mono al1.size)).mono hB.size)
  have q0 := q0.next b
  have p0 := p0.next b
  clear b al1 c0 c1 C k0 k1 p1
  have al2 : Below w11.heap.size w11 (w11.alloc (.cells (ints [0, 0, 1]).toArray 3)) := (Below.refl _ _).alloc (Nat.le_refl _) _
  have rt : Reads (w11.alloc (.cells (ints [0, 0, 1]).toArray 3)) (w11.alloc (.cells (ints [0, 0, 1]).toArray 3)).heap.size 1 (some ⟨w11.heap.size, 0, none⟩) 3 (ints [0, 0, 1]) := row_litA (xs := [0, 0, 1]) (Blk.newA rfl)
  have r3 := r2.next al2
  have k0 := gg.cell 0
  have k1 := gg.cell 1
  have c0 : ∀ o, (w11.alloc o).cell? ⟨gb, 0, none⟩ = some (.int .i64 3) := fun o => (gg.alloc o).cell 0
  have c1 : ∀ o, (w11.alloc o).cell? ⟨gb, 1, none⟩ = some (.slice A 3 c) := fun o => (gg.alloc o).cell 1
  have q0 := q0.next al2
  have p0 := p0.next al2
  have q1 := q1.next al2
  have C := Lib.hid (c30_st A c _ 3 _ r3 rt)
  clear rt r3
  go_wp2_with fail
  refine (C.out).mono ?_
  rintro e w12 ⟨A2, d2, rfl, q2, b⟩
  have gg := (gg.alloc _).next b
  have r2 := (r2.next al2).next b
  have hB := hB.trans ((al2.trans (b.mono al2.size)).mono hB.size)
  have q0 := q0.next b
  have p0 := p0.next b
  have q1 := q1.next b
  clear b al2 c0 c1 C k0 k1
  have al3 : Below w12.heap.size w12 (w12.alloc (.cells (ints [1, 2]).toArray 3)) := (Below.refl _ _).alloc (Nat.le_refl _) _
  have rt : Reads (w12.alloc (.cells (ints [1, 2]).toArray 3)) (w12.alloc (.cells (ints [1, 2]).toArray 3)).heap.size 1 (some ⟨w12.heap.size, 0, none⟩) 2 (ints [1, 2]) := row_litA (xs := [1, 2]) (Blk.newA rfl)
  have r3 := r2.next al3
  have k0 := gg.cell 0
  have k1 := gg.cell 1
  have c0 : ∀ o, (w12.alloc o).cell? ⟨gb, 0, none⟩ = some (.int .i64 3) := fun o => (gg.alloc o).cell 0
  have c1 : ∀ o, (w12.alloc o).cell? ⟨gb, 1, none⟩ = some (.slice A 3 c) := fun o => (gg.alloc o).cell 1
  have q0 := q0.next al3
  have p0 := p0.next al3
  have q1 := q1.next al3
  have q2 := q2.next al3
  have C := Lib.hid (c30_un1 A c _ 2 _ r3 rt)
  clear rt r3
  go_wp2_with fail
  refine (C.out).mono ?_
  rintro e w13 ⟨A3, d3, rfl, q3, b⟩
  have gg := (gg.alloc _).next b
  have r2 := (r2.next al3).next b
  have hB := hB.trans ((al3.trans (b.mono al3.size)).mono hB.size)
  have q0 := q0.next b
  have p0 := p0.next b
  have q1 := q1.next b
  have q2 := q2.next b
  clear b al3 c0 c1 C k0 k1
  have al4 : Below w13.heap.size w13 (w13.alloc (.cells (ints [0, 2]).toArray 3)) := (Below.refl _ _).alloc (Nat.le_refl _) _
  have rt : Reads (w13.alloc (.cells (ints [0, 2]).toArray 3)) (w13.alloc (.cells (ints [0, 2]).toArray 3)).heap.size 1 (some ⟨w13.heap.size, 0, none⟩) 2 (ints [0, 2]) := row_litA (xs := [0, 2]) (Blk.newA rfl)
  have r3 := r2.next al4
  have k0 := gg.cell 0
  have k1 := gg.cell 1
  have c0 : ∀ o, (w13.alloc o).cell? ⟨gb, 0, none⟩ = some (.int .i64 3) := fun o => (gg.alloc o).cell 0
  have c1 : ∀ o, (w13.alloc o).cell? ⟨gb, 1, none⟩ = some (.slice A 3 c) := fun o => (gg.alloc o).cell 1
  have q0 := q0.next al4
  have p0 := p0.next al4
  have q1 := q1.next al4
  have q2 := q2.next al4
  have q3 := q3.next al4
  have C := Lib.hid (c30_cf A c _ 2 _ r3 rt)
  clear rt r3
  go_wp2_with fail
  refine (C.out).mono ?_
  rintro e w14 ⟨A4, d4, rfl, q4, b⟩
  have gg := (gg.alloc _).next b
  have r2 := (r2.next al4).next b
  have hB := hB.trans ((al4.trans (b.mono al4.size)).mono hB.size)
  have q0 := q0.next b
  have p0 := p0.next b
  have q1 := q1.next b
  have q2 := q2.next b
  have q3 := q3.next b
  clear b al4 c0 c1 C k0 k1
  have al5 : Below w14.heap.size w14 (w14.alloc (.cells (ints [0, 2]).toArray 3)) := (Below.refl _ _).alloc (Nat.le_refl _) _
  have rt : Reads (w14.alloc (.cells (ints [0, 2]).toArray 3)) (w14.alloc (.cells (ints [0, 2]).toArray 3)).heap.size 1 (some ⟨w14.heap.size, 0, none⟩) 2 (ints [0, 2]) := row_litA (xs := [0, 2]) (Blk.newA rfl)
  have r3 := r2.next al5
  have k0 := gg.cell 0
  have k1 := gg.cell 1
  have c0 : ∀ o, (w14.alloc o).cell? ⟨gb, 0, none⟩ = some (.int .i64 3) := fun o => (gg.alloc o).cell 0
  have c1 : ∀ o, (w14.alloc o).cell? ⟨gb, 1, none⟩ = some (.slice A 3 c) := fun o => (gg.alloc o).cell 1
  have q0 := q0.next al5
  have p0 := p0.next al5
  have q1 := q1.next al5
  have q2 := q2.next al5
  have q3 := q3.next al5
  have q4 := q4.next al5
  have C := Lib.hid (c30_un2 A c _ 2 _ r3 rt)
  clear rt r3
  go_wp2_with fail
  refine (C.out).mono ?_
  rintro e w15 ⟨A5, d5, rfl, q5, b⟩
  have gg := (gg.alloc _).next b
  have r2 := (r2.next al5).next b
  have hB := hB.trans ((al5.trans (b.mono al5.size)).mono hB.size)
  have q0 := q0.next b
  have p0 := p0.next b
  have q1 := q1.next b
  have q2 := q2.next b
  have q3 := q3.next b
  have q4 := q4.next b
  clear b al5 c0 c1 C k0 k1
  have al6 : Below w15.heap.size w15 (w15.alloc (.cells (ints [0, 2]).toArray 3)) := (Below.refl _ _).alloc (Nat.le_refl _) _
  have rt : Reads (w15.alloc (.cells (ints [0, 2]).toArray 3)) (w15.alloc (.cells (ints [0, 2]).toArray 3)).heap.size 1 (some ⟨w15.heap.size, 0, none⟩) 2 (ints [0, 2]) := row_litA (xs := [0, 2]) (Blk.newA rfl)
  have r3 := r2.next al6
  have k0 := gg.cell 0
  have k1 := gg.cell 1
  have c0 : ∀ o, (w15.alloc o).cell? ⟨gb, 0, none⟩ = some (.int .i64 3) := fun o => (gg.alloc o).cell 0
  have c1 : ∀ o, (w15.alloc o).cell? ⟨gb, 1, none⟩ = some (.slice A 3 c) := fun o => (gg.alloc o).cell 1
  have q0 := q0.next al6
  have p0 := p0.next al6
  have q1 := q1.next al6
  have q2 := q2.next al6
  have q3 := q3.next al6
  have q4 := q4.next al6
  have q5 := q5.next al6
  have C := Lib.hid (c30_rc A c _ 2 _ r3 rt)
  clear rt r3
  go_wp2_with fail
  refine (C.out).mono ?_
  rintro e w16 ⟨A6, d6, rfl, q6, b⟩
  have gg := (gg.alloc _).next b
  have r2 := (r2.next al6).next b
  have hB := hB.trans ((al6.trans (b.mono al6.size)).mono hB.size)
  have q0 := q0.next b
  have p0 := p0.next b
  have q1 := q1.next b
  have q2 := q2.next b
  have q3 := q3.next b
  have q4 := q4.next b
  have q5 := q5.next b
  clear b al6 c0 c1 C k0 k1
  obtain ⟨WB, hWWB⟩ : ∃ WB, (((((((((w16.alloc (.cells ([.slice A0 2 d0, .slice X0 3 y0, .slice A1 2 d1, .slice A2 3 d2, .slice A3 1 d3, .slice A4 3 d4, .slice A5 2 d5, .slice A6 3 d6] : List Value).toArray 25)).alloc (.cells (ints [1, 2]).toArray 3)).alloc (.cells (ints [0, 1, 2]).toArray 3)).alloc (.cells (ints [0, 3]).toArray 3)).alloc (.cells (ints [0, 2, 3]).toArray 3)).alloc (.cells (ints [3]).toArray 3)).alloc (.cells (ints [0, 0, 0]).toArray 3)).alloc (.cells (ints [1, 3]).toArray 3)).alloc (.cells (ints [0, 2, 1]).toArray 3)).alloc (.cells ([.slice (some ⟨w16.heap.size + 1, 0, none⟩) 2 2, .slice (some ⟨w16.heap.size + 2, 0, none⟩) 3 3, .slice (some ⟨w16.heap.size + 3, 0, none⟩) 2 2, .slice (some ⟨w16.heap.size + 4, 0, none⟩) 3 3, .slice (some ⟨w16.heap.size + 5, 0, none⟩) 1 1, .slice (some ⟨w16.heap.size + 6, 0, none⟩) 3 3, .slice (some ⟨w16.heap.size + 7, 0, none⟩) 2 2, .slice (some ⟨w16.heap.size + 8, 0, none⟩) 3 3] : List Value).toArray 25) = WB := ⟨_, rfl⟩
  have bW : Below w16.heap.size w16 WB := by rw [← hWWB]; exact ((((((((((Below.refl _ _).alloc (Nat.le_refl _) _).alloc (by simp) _).alloc (by simp; omega) _).alloc (by simp; omega) _).alloc (by simp; omega) _).alloc (by simp; omega) _).alloc (by simp; omega) _).alloc (by simp; omega) _).alloc (by simp; omega) _).alloc (by simp; omega) _
  have lf : Blk WB w16.heap.size 25 ([.slice A0 2 d0, .slice X0 3 y0, .slice A1 2 d1, .slice A2 3 d2, .slice A3 1 d3, .slice A4 3 d4, .slice A5 2 d5, .slice A6 3 d6] : List Value).toArray := by rw [← hWWB]; exact ((((((((((Blk.newA rfl).alloc _).alloc _).alloc _).alloc _).alloc _).alloc _).alloc _).alloc _).alloc _)
  have l0 : Blk WB (w16.heap.size + 1) 3 (ints [1, 2]).toArray := by rw [← hWWB]; exact (((((((((Blk.newA (by simp)).alloc _).alloc _).alloc _).alloc _).alloc _).alloc _).alloc _).alloc _)
  have l1 : Blk WB (w16.heap.size + 2) 3 (ints [0, 1, 2]).toArray := by rw [← hWWB]; exact ((((((((Blk.newA (by simp)).alloc _).alloc _).alloc _).alloc _).alloc _).alloc _).alloc _)
  have l2 : Blk WB (w16.heap.size + 3) 3 (ints [0, 3]).toArray := by rw [← hWWB]; exact (((((((Blk.newA (by simp)).alloc _).alloc _).alloc _).alloc _).alloc _).alloc _)
  have l3 : Blk WB (w16.heap.size + 4) 3 (ints [0, 2, 3]).toArray := by rw [← hWWB]; exact ((((((Blk.newA (by simp)).alloc _).alloc _).alloc _).alloc _).alloc _)
  have l4 : Blk WB (w16.heap.size + 5) 3 (ints [3]).toArray := by rw [← hWWB]; exact (((((Blk.newA (by simp)).alloc _).alloc _).alloc _).alloc _)
  have l5 : Blk WB (w16.heap.size + 6) 3 (ints [0, 0, 0]).toArray := by rw [← hWWB]; exact ((((Blk.newA (by simp)).alloc _).alloc _).alloc _)
  have l6 : Blk WB (w16.heap.size + 7) 3 (ints [1, 3]).toArray := by rw [← hWWB]; exact (((Blk.newA (by simp)).alloc _).alloc _)
  have l7 : Blk WB (w16.heap.size + 8) 3 (ints [0, 2, 1]).toArray := by rw [← hWWB]; exact ((Blk.newA (by simp)).alloc _)
  have lo : Blk WB (w16.heap.size + 9) 25 ([.slice (some ⟨w16.heap.size + 1, 0, none⟩) 2 2, .slice (some ⟨w16.heap.size + 2, 0, none⟩) 3 3, .slice (some ⟨w16.heap.size + 3, 0, none⟩) 2 2, .slice (some ⟨w16.heap.size + 4, 0, none⟩) 3 3, .slice (some ⟨w16.heap.size + 5, 0, none⟩) 1 1, .slice (some ⟨w16.heap.size + 6, 0, none⟩) 3 3, .slice (some ⟨w16.heap.size + 7, 0, none⟩) 2 2, .slice (some ⟨w16.heap.size + 8, 0, none⟩) 3 3] : List Value).toArray := by rw [← hWWB]; exact (Blk.newA (by simp))
  have q0 := q0.next bW
  have p0 := p0.next bW
  have q1 := q1.next bW
  have q2 := q2.next bW
  have q3 := q3.next bW
  have q4 := q4.next bW
  have q5 := q5.next bW
  have q6 := q6.next bW
  have wf : RowsR WB WB.heap.size (some ⟨w16.heap.size, 0, none⟩) [[1, 2], [0, 1, 2], [0, 3], [0, 2, 3], [3], [0, 0, 0], [1, 3], [0, 2, 1]] := rows_litA lf rfl fun i xs hx => by
    match i with
    | 0 => injection hx with hx; subst hx; exact ⟨_, _, rfl, q0⟩
    | 1 => injection hx with hx; subst hx; exact ⟨_, _, rfl, p0⟩
    | 2 => injection hx with hx; subst hx; exact ⟨_, _, rfl, q1⟩
    | 3 => injection hx with hx; subst hx; exact ⟨_, _, rfl, q2⟩
    | 4 => injection hx with hx; subst hx; exact ⟨_, _, rfl, q3⟩
    | 5 => injection hx with hx; subst hx; exact ⟨_, _, rfl, q4⟩
    | 6 => injection hx with hx; subst hx; exact ⟨_, _, rfl, q5⟩
    | 7 => injection hx with hx; subst hx; exact ⟨_, _, rfl, q6⟩
    | i + 8 => cases hx
  have wo : RowsR WB WB.heap.size (some ⟨w16.heap.size + 9, 0, none⟩) [[1, 2], [0, 1, 2], [0, 3], [0, 2, 3], [3], [0, 0, 0], [1, 3], [0, 2, 1]] := rows_litA lo rfl fun i xs hx => by
    match i with
    | 0 => injection hx with hx; subst hx; exact ⟨_, 2, rfl, row_litA l0⟩
    | 1 => injection hx with hx; subst hx; exact ⟨_, 3, rfl, row_litA l1⟩
    | 2 => injection hx with hx; subst hx; exact ⟨_, 2, rfl, row_litA l2⟩
    | 3 => injection hx with hx; subst hx; exact ⟨_, 3, rfl, row_litA l3⟩
    | 4 => injection hx with hx; subst hx; exact ⟨_, 1, rfl, row_litA l4⟩
    | 5 => injection hx with hx; subst hx; exact ⟨_, 3, rfl, row_litA l5⟩
    | 6 => injection hx with hx; subst hx; exact ⟨_, 2, rfl, row_litA l6⟩
    | 7 => injection hx with hx; subst hx; exact ⟨_, 3, rfl, row_litA l7⟩
    | i + 8 => cases hx
  have hB := hB.trans (bW.mono hB.size)
  have SB := Lib.hid (SL.out (some ⟨w16.heap.size, 0, none⟩) 8 (some ⟨w16.heap.size + 9, 0, none⟩) 8 WB wf wo)
  have HWB := Lib.hid hWWB
  clear bW hWWB wf wo lf lo gg r2 l0 l1 l2 l3 l4 l5 l6 l7 q0 p0 q1 q2 q3 q4 q5 q6
  go_wp2_with fail
  try simp only [ints, List.map_cons, List.map_nil] at HWB
  try rw [HWB.out]
  refine (SB.out).mono ?_
  rintro e w50 ⟨rfl, b⟩
  go_wp2
  go_ret
  exact ⟨rfl, hB.trans (b.mono hB.size)⟩
end Go.Proofs.YtghigdcpinengaaGreat

/-! sandpilelaw30.right. -/
namespace Go.Proofs.YtghigdcpinengaaGreat
open Go.RowKit

def right30B (n : Int) (es : List E3) (q : Int) : Bool := smallB n es 5 8 && decide (rootErr n es q = 0)
theorem small30 {n : Int} {es : List E3} (h : smallB n es 5 8 = true) : es.length ≤ 40 ∧ (checkG n es = 0 → n ≤ 5 ∧ (endsL es).length ≤ 8) := by
  unfold smallB at h
  by_cases h1 : 40 < es.length
  · rw [if_pos h1] at h; cases h
  · refine ⟨by omega, fun h2 => ?_⟩
    rw [if_neg h1, if_neg (fun hc => hc h2), Bool.and_eq_true, size_ends] at h
    have := of_decide_eq_true h.1
    have := of_decide_eq_true h.2
    omega
theorem right30_parts {n : Int} {es : List E3} {q : Int} (h : right30B n es q = true) : ∃ m p : Nat, n = m ∧ q = p ∧ p < m ∧ m ≤ 5 ∧ es.length ≤ 40 ∧ (endsL es).length ≤ 8 ∧ RightG m es ∧ AllConn m es ∧ checkG n es = 0 ∧ joinErr n es = 0 ∧ rootErr n es q = 0 := by
  unfold right30B at h
  rw [Bool.and_eq_true, decide_eq_true_eq] at h
  obtain ⟨hl, hs⟩ := small30 h.1
  obtain ⟨m, p, rfl, rfl, hp, hG, hC, hck, hj⟩ := root_natF h.2
  obtain ⟨h5, h8⟩ := hs hck
  exact ⟨m, p, rfl, rfl, hp, by omega, hl, h8, hG, hC, hck, hj, h.2⟩
set_option maxHeartbeats 1000000 in
theorem right30_any (n : Int) (A : Option Addr) (c : Nat) (es : List E3) (q : Int) (w : World) (h : Reads w w.heap.size 3 A es.length (edgeCells es)) :
    Calls Tryz.prog 26 #[.agg #[.int .i64 n, .slice A es.length c], .int .i64 q] w fun e w' => e = .returned (.bool (right30B n es q)) ∧ Below w.heap.size w w' := by
  have FC := Lib.hid (fun w h => rfewtrees_any n A c es w h)
  have g := Blk.new w 24 #[.int .i64 n, .slice A es.length c]
  have hB : Below w.heap.size w (w.alloc (.cells #[.int .i64 n, .slice A es.length c] 24)) := (Below.refl _ _).alloc (Nat.le_refl _) _
  have k0 := g.cell 0
  have k1 := g.cell 1
  unfold right30B
  by_cases hf : smallB n es 5 8 = true
  · have hl := (small30 hf).1
    have RC := Lib.hid (fun w h => rrooted_any n A c es (by omega) q w h)
    rw [hf] at FC ⊢
    rw [Bool.true_and]
    obtain ⟨z, hz⟩ : ∃ z, rootErr n es q = z := ⟨_, rfl⟩
    rw [hz] at RC ⊢
    have hzz : (z == 0) = decide (z = 0) := by rw [Bool.eq_iff_iff]; simp
    have HZ := Lib.hid hzz
    clear hf hz hl hzz
    go_enter Tryz.func26, Tryz.ntmps26
    go_wp2_with fail
    refine (FC.out _ ((h.below hB).more hB.size)).mono ?_
    rintro e wn ⟨rfl, hb⟩
    have g := g.next hb
    have hB := hB.trans (hb.mono hB.size)
    have k0 := g.cell 0
    have k1 := g.cell 1
    clear hb
    go_wp2_with fail
    refine (RC.out _ ((h.below hB).more hB.size)).mono ?_
    rintro e wn ⟨rfl, hb⟩
    have g := g.next hb
    have hB := hB.trans (hb.mono hB.size)
    have k0 := g.cell 0
    have k1 := g.cell 1
    clear hb
    go_wp2
    go_ret
    exact ⟨by rw [← HZ.out]; rfl, hB⟩
  · have hf : smallB n es 5 8 = false := by rw [← Bool.not_eq_true]; exact hf
    rw [hf] at FC ⊢
    rw [Bool.false_and]
    clear hf
    go_enter Tryz.func26, Tryz.ntmps26
    go_wp2_with fail
    refine (FC.out _ ((h.below hB).more hB.size)).mono ?_
    rintro e wn ⟨rfl, hb⟩
    have g := g.next hb
    have hB := hB.trans (hb.mono hB.size)
    have k0 := g.cell 0
    have k1 := g.cell 1
    clear hb
    go_wp2
    go_ret
    exact ⟨rfl, hB⟩
end Go.Proofs.YtghigdcpinengaaGreat

