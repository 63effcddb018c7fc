/-
  Texts of this claim, put together: Awake30, REnds.
-/
import Derived.Test.YtghigdcpinengaaGreatK43
import Derived.Test.YtghigdcpinengaaGreatK28
import Derived.Test.YtghigdcpinengaaGreatK10
import Derived.Deep.RegionLaw
/-! The examples of chapter 30: awake. -/
namespace Go.Proofs.YtghigdcpinengaaGreat
open Go.RowKit

set_option maxRecDepth 100000 in
set_option maxHeartbeats 8000000 in
theorem awake30_any (w : World) : Calls Tryz.prog 12 #[] w fun e w' => e = .returned (.bool true) ∧ Below w.heap.size w w' := by
  have SL := Lib.hid (fun Aa ca Ab cb W h h' => samelists_any Aa ca [[1, 2], [0, 1, 2], [0, 3], [0, 2, 3], [3], [0, 0, 0], [1, 3], [0, 2, 1]] Ab cb [[1, 2], [0, 1, 2], [0, 3], [0, 2, 3], [3], [0, 0, 0], [1, 3], [0, 2, 1]] (by decide) (by decide) W h h')
  rw [decide_eq_true rfl] at SL
  go_enter Tryz.func12, Tryz.ntmps12
  go_wp2_with fail
  refine (ear30_any w).mono ?_
  rintro e w1 ⟨A, c, rfl, r1, b1⟩
  have gg : Blk (w1.alloc (.cells #[.int .i64 3, .slice A 3 c] 24)) w1.heap.size 24 #[.int .i64 3, .slice A 3 c] := Blk.newA rfl
  have bg : Below w1.heap.size w1 (w1.alloc (.cells #[.int .i64 3, .slice A 3 c] 24)) := (Below.refl _ _).alloc (Nat.le_refl _) _
  obtain ⟨gb, hgb⟩ : ∃ gb, w1.heap.size = gb := ⟨_, rfl⟩
  have r2 := (r1.below bg).more bg.size
  have hB := b1.trans (bg.mono b1.size)
  obtain ⟨W2, hW2⟩ : ∃ W2, w1.alloc (.cells #[.int .i64 3, .slice A 3 c] 24) = W2 := ⟨_, rfl⟩
  rw [hW2, hgb] at gg
  rw [hW2] at r2 hB
  have HW2 := Lib.hid hW2
  have HGB := Lib.hid hgb
  have hz2 : gb + 1 = W2.heap.size := by rw [← hW2]; simp [hgb]
  clear bg b1 r1 hW2 hgb
  have al0 : Below W2.heap.size W2 (W2.alloc (.cells (ints [0, 1, 0]).toArray 3)) := (Below.refl _ _).alloc (Nat.le_refl _) _
  have rt : Reads (W2.alloc (.cells (ints [0, 1, 0]).toArray 3)) (W2.alloc (.cells (ints [0, 1, 0]).toArray 3)).heap.size 1 (some ⟨gb + 1, 0, none⟩) 3 (ints [0, 1, 0]) := row_litA (xs := [0, 1, 0]) (Blk.newA hz2)
  have r3 := r2.next al0
  have c0 : ∀ o, ((w1.alloc (.cells #[.int .i64 3, .slice A 3 c] 24)).alloc o).cell? ⟨w1.heap.size, 0, none⟩ = some (.int .i64 3) := fun o => by rw [HW2.out, HGB.out]; exact (gg.alloc o).cell 0
  have c1 : ∀ o, ((w1.alloc (.cells #[.int .i64 3, .slice A 3 c] 24)).alloc o).cell? ⟨w1.heap.size, 1, none⟩ = some (.slice A 3 c) := fun o => by rw [HW2.out, HGB.out]; exact (gg.alloc o).cell 1
  have C := Lib.hid (c30_tr1 A c _ 3 _ r3 rt)
  clear rt r3
  go_wp2_with fail
  try rw [HW2.out]
  try rw [HGB.out]
  refine (C.out).mono ?_
  rintro e w10 ⟨A0, d0, X0, y0, rfl, q0, p0, b⟩
  have gg := (gg.alloc _).next b
  have r2 := (r2.next al0).next b
  have hB := hB.trans ((al0.trans (b.mono al0.size)).mono hB.size)
  clear hz2
  clear b al0 c0 c1 C
  have al1 : Below w10.heap.size w10 (w10.alloc (.cells (ints [0, 0, 1]).toArray 3)) := (Below.refl _ _).alloc (Nat.le_refl _) _
  have rt : Reads (w10.alloc (.cells (ints [0, 0, 1]).toArray 3)) (w10.alloc (.cells (ints [0, 0, 1]).toArray 3)).heap.size 1 (some ⟨w10.heap.size, 0, none⟩) 3 (ints [0, 0, 1]) := row_litA (xs := [0, 0, 1]) (Blk.newA rfl)
  have r3 := r2.next al1
  have k0 := gg.cell 0
  have k1 := gg.cell 1
  have c0 : ∀ o, (w10.alloc o).cell? ⟨gb, 0, none⟩ = some (.int .i64 3) := fun o => (gg.alloc o).cell 0
  have c1 : ∀ o, (w10.alloc o).cell? ⟨gb, 1, none⟩ = some (.slice A 3 c) := fun o => (gg.alloc o).cell 1
  have q0 := q0.next al1
  have p0 := p0.next al1
  have C := Lib.hid (c30_tr2 A c _ 3 _ r3 rt)
  clear rt r3
  go_wp2_with fail
  refine (C.out).mono ?_
  rintro e w11 ⟨A1, d1, X1, y1, rfl, q1, p1, b⟩
  have gg := (gg.alloc _).next b
  have r2 := (r2.next al1).next b
  have hB := hB.trans ((al1.trans (b.mono al1.size)).mono hB.size)
  have q0 := q0.next b
  have p0 := p0.next b
  clear b al1 c0 c1 C k0 k1 p1
  have al2 : Below w11.heap.size w11 (w11.alloc (.cells (ints [0, 0, 1]).toArray 3)) := (Below.refl _ _).alloc (Nat.le_refl _) _
  have rt : Reads (w11.alloc (.cells (ints [0, 0, 1]).toArray 3)) (w11.alloc (.cells (ints [0, 0, 1]).toArray 3)).heap.size 1 (some ⟨w11.heap.size, 0, none⟩) 3 (ints [0, 0, 1]) := row_litA (xs := [0, 0, 1]) (Blk.newA rfl)
  have r3 := r2.next al2
  have k0 := gg.cell 0
  have k1 := gg.cell 1
  have c0 : ∀ o, (w11.alloc o).cell? ⟨gb, 0, none⟩ = some (.int .i64 3) := fun o => (gg.alloc o).cell 0
  have c1 : ∀ o, (w11.alloc o).cell? ⟨gb, 1, none⟩ = some (.slice A 3 c) := fun o => (gg.alloc o).cell 1
  have q0 := q0.next al2
  have p0 := p0.next al2
  have q1 := q1.next al2
  have C := Lib.hid (c30_st A c _ 3 _ r3 rt)
  clear rt r3
  go_wp2_with fail
  refine (C.out).mono ?_
  rintro e w12 ⟨A2, d2, rfl, q2, b⟩
  have gg := (gg.alloc _).next b
  have r2 := (r2.next al2).next b
  have hB := hB.trans ((al2.trans (b.mono al2.size)).mono hB.size)
  have q0 := q0.next b
  have p0 := p0.next b
  have q1 := q1.next b
  clear b al2 c0 c1 C k0 k1
  have al3 : Below w12.heap.size w12 (w12.alloc (.cells (ints [1, 2]).toArray 3)) := (Below.refl _ _).alloc (Nat.le_refl _) _
  have rt : Reads (w12.alloc (.cells (ints [1, 2]).toArray 3)) (w12.alloc (.cells (ints [1, 2]).toArray 3)).heap.size 1 (some ⟨w12.heap.size, 0, none⟩) 2 (ints [1, 2]) := row_litA (xs := [1, 2]) (Blk.newA rfl)
  have r3 := r2.next al3
  have k0 := gg.cell 0
  have k1 := gg.cell 1
  have c0 : ∀ o, (w12.alloc o).cell? ⟨gb, 0, none⟩ = some (.int .i64 3) := fun o => (gg.alloc o).cell 0
  have c1 : ∀ o, (w12.alloc o).cell? ⟨gb, 1, none⟩ = some (.slice A 3 c) := fun o => (gg.alloc o).cell 1
  have q0 := q0.next al3
  have p0 := p0.next al3
  have q1 := q1.next al3
  have q2 := q2.next al3
  have C := Lib.hid (c30_un1 A c _ 2 _ r3 rt)
  clear rt r3
  go_wp2_with fail
  refine (C.out).mono ?_
  rintro e w13 ⟨A3, d3, rfl, q3, b⟩
  have gg := (gg.alloc _).next b
  have r2 := (r2.next al3).next b
  have hB := hB.trans ((al3.trans (b.mono al3.size)).mono hB.size)
  have q0 := q0.next b
  have p0 := p0.next b
  have q1 := q1.next b
  have q2 := q2.next b
  clear b al3 c0 c1 C k0 k1
  have al4 : Below w13.heap.size w13 (w13.alloc (.cells (ints [0, 2]).toArray 3)) := (Below.refl _ _).alloc (Nat.le_refl _) _
  have rt : Reads (w13.alloc (.cells (ints [0, 2]).toArray 3)) (w13.alloc (.cells (ints [0, 2]).toArray 3)).heap.size 1 (some ⟨w13.heap.size, 0, none⟩) 2 (ints [0, 2]) := row_litA (xs := [0, 2]) (Blk.newA rfl)
  have r3 := r2.next al4
  have k0 := gg.cell 0
  have k1 := gg.cell 1
  have c0 : ∀ o, (w13.alloc o).cell? ⟨gb, 0, none⟩ = some (.int .i64 3) := fun o => (gg.alloc o).cell 0
  have c1 : ∀ o, (w13.alloc o).cell? ⟨gb, 1, none⟩ = some (.slice A 3 c) := fun o => (gg.alloc o).cell 1
  have q0 := q0.next al4
  have p0 := p0.next al4
  have q1 := q1.next al4
  have q2 := q2.next al4
  have q3 := q3.next al4
  have C := Lib.hid (c30_cf A c _ 2 _ r3 rt)
  clear rt r3
  go_wp2_with fail
  refine (C.out).mono ?_
  rintro e w14 ⟨A4, d4, rfl, q4, b⟩
  have gg := (gg.alloc _).next b
  have r2 := (r2.next al4).next b
  have hB := hB.trans ((al4.trans (b.mono al4.size)).mono hB.size)
  have q0 := q0.next b
  have p0 := p0.next b
  have q1 := q1.next b
  have q2 := q2.next b
  have q3 := q3.next b
  clear b al4 c0 c1 C k0 k1
  have al5 : Below w14.heap.size w14 (w14.alloc (.cells (ints [0, 2]).toArray 3)) := (Below.refl _ _).alloc (Nat.le_refl _) _
  have rt : Reads (w14.alloc (.cells (ints [0, 2]).toArray 3)) (w14.alloc (.cells (ints [0, 2]).toArray 3)).heap.size 1 (some ⟨w14.heap.size, 0, none⟩) 2 (ints [0, 2]) := row_litA (xs := [0, 2]) (Blk.newA rfl)
  have r3 := r2.next al5
  have k0 := gg.cell 0
  have k1 := gg.cell 1
  have c0 : ∀ o, (w14.alloc o).cell? ⟨gb, 0, none⟩ = some (.int .i64 3) := fun o => (gg.alloc o).cell 0
  have c1 : ∀ o, (w14.alloc o).cell? ⟨gb, 1, none⟩ = some (.slice A 3 c) := fun o => (gg.alloc o).cell 1
  have q0 := q0.next al5
  have p0 := p0.next al5
  have q1 := q1.next al5
  have q2 := q2.next al5
  have q3 := q3.next al5
  have q4 := q4.next al5
  have C := Lib.hid (c30_un2 A c _ 2 _ r3 rt)
  clear rt r3
  go_wp2_with fail
  refine (C.out).mono ?_
  rintro e w15 ⟨A5, d5, rfl, q5, b⟩
  have gg := (gg.alloc _).next b
  have r2 := (r2.next al5).next b
  have hB := hB.trans ((al5.trans (b.mono al5.size)).mono hB.size)
  have q0 := q0.next b
  have p0 := p0.next b
  have q1 := q1.next b
  have q2 := q2.next b
  have q3 := q3.next b
  have q4 := q4.next b
  clear b al5 c0 c1 C k0 k1
  have al6 : Below w15.heap.size w15 (w15.alloc (.cells (ints [0, 2]).toArray 3)) := (Below.refl _ _).alloc (Nat.le_refl _) _
  have rt : Reads (w15.alloc (.cells (ints [0, 2]).toArray 3)) (w15.alloc (.cells (ints [0, 2]).toArray 3)).heap.size 1 (some ⟨w15.heap.size, 0, none⟩) 2 (ints [0, 2]) := row_litA (xs := [0, 2]) (Blk.newA rfl)
  have r3 := r2.next al6
  have k0 := gg.cell 0
  have k1 := gg.cell 1
  have c0 : ∀ o, (w15.alloc o).cell? ⟨gb, 0, none⟩ = some (.int .i64 3) := fun o => (gg.alloc o).cell 0
  have c1 : ∀ o, (w15.alloc o).cell? ⟨gb, 1, none⟩ = some (.slice A 3 c) := fun o => (gg.alloc o).cell 1
  have q0 := q0.next al6
  have p0 := p0.next al6
  have q1 := q1.next al6
  have q2 := q2.next al6
  have q3 := q3.next al6
  have q4 := q4.next al6
  have q5 := q5.next al6
  have C := Lib.hid (c30_rc A c _ 2 _ r3 rt)
  clear rt r3
  go_wp2_with fail
  refine (C.out).mono ?_
  rintro e w16 ⟨A6, d6, rfl, q6, b⟩
  have gg := (gg.alloc _).next b
  have r2 := (r2.next al6).next b
  have hB := hB.trans ((al6.trans (b.mono al6.size)).mono hB.size)
  have q0 := q0.next b
  have p0 := p0.next b
  have q1 := q1.next b
  have q2 := q2.next b
  have q3 := q3.next b
  have q4 := q4.next b
  have q5 := q5.next b
  clear b al6 c0 c1 C k0 k1
  obtain ⟨WB, hWWB⟩ : ∃ WB, (((((((((w16.alloc (.cells ([.slice A0 2 d0, .slice X0 3 y0, .slice A1 2 d1, .slice A2 3 d2, .slice A3 1 d3, .slice A4 3 d4, .slice A5 2 d5, .slice A6 3 d6] : List Value).toArray 25)).alloc (.cells (ints [1, 2]).toArray 3)).alloc (.cells (ints [0, 1, 2]).toArray 3)).alloc (.cells (ints [0, 3]).toArray 3)).alloc (.cells (ints [0, 2, 3]).toArray 3)).alloc (.cells (ints [3]).toArray 3)).alloc (.cells (ints [0, 0, 0]).toArray 3)).alloc (.cells (ints [1, 3]).toArray 3)).alloc (.cells (ints [0, 2, 1]).toArray 3)).alloc (.cells ([.slice (some ⟨w16.heap.size + 1, 0, none⟩) 2 2, .slice (some ⟨w16.heap.size + 2, 0, none⟩) 3 3, .slice (some ⟨w16.heap.size + 3, 0, none⟩) 2 2, .slice (some ⟨w16.heap.size + 4, 0, none⟩) 3 3, .slice (some ⟨w16.heap.size + 5, 0, none⟩) 1 1, .slice (some ⟨w16.heap.size + 6, 0, none⟩) 3 3, .slice (some ⟨w16.heap.size + 7, 0, none⟩) 2 2, .slice (some ⟨w16.heap.size + 8, 0, none⟩) 3 3] : List Value).toArray 25) = WB := ⟨_, rfl⟩
  have bW : Below w16.heap.size w16 WB := by rw [← hWWB]; exact ((((((((((Below.refl _ _).alloc (Nat.le_refl _) _).alloc (by simp) _).alloc (by simp; omega) _).alloc (by simp; omega) _).alloc (by simp; omega) _).alloc (by simp; omega) _).alloc (by simp; omega) _).alloc (by simp; omega) _).alloc (by simp; omega) _).alloc (by simp; omega) _
  have lf : Blk WB w16.heap.size 25 ([.slice A0 2 d0, .slice X0 3 y0, .slice A1 2 d1, .slice A2 3 d2, .slice A3 1 d3, .slice A4 3 d4, .slice A5 2 d5, .slice A6 3 d6] : List Value).toArray := by rw [← hWWB]; exact ((((((((((Blk.newA rfl).alloc _).alloc _).alloc _).alloc _).alloc _).alloc _).alloc _).alloc _).alloc _)
  have l0 : Blk WB (w16.heap.size + 1) 3 (ints [1, 2]).toArray := by rw [← hWWB]; exact (((((((((Blk.newA (by simp)).alloc _).alloc _).alloc _).alloc _).alloc _).alloc _).alloc _).alloc _)
  have l1 : Blk WB (w16.heap.size + 2) 3 (ints [0, 1, 2]).toArray := by rw [← hWWB]; exact ((((((((Blk.newA (by simp)).alloc _).alloc _).alloc _).alloc _).alloc _).alloc _).alloc _)
  have l2 : Blk WB (w16.heap.size + 3) 3 (ints [0, 3]).toArray := by rw [← hWWB]; exact (((((((Blk.newA (by simp)).alloc _).alloc _).alloc _).alloc _).alloc _).alloc _)
  have l3 : Blk WB (w16.heap.size + 4) 3 (ints [0, 2, 3]).toArray := by rw [← hWWB]; exact ((((((Blk.newA (by simp)).alloc _).alloc _).alloc _).alloc _).alloc _)
  have l4 : Blk WB (w16.heap.size + 5) 3 (ints [3]).toArray := by rw [← hWWB]; exact (((((Blk.newA (by simp)).alloc _).alloc _).alloc _).alloc _)
  have l5 : Blk WB (w16.heap.size + 6) 3 (ints [0, 0, 0]).toArray := by rw [← hWWB]; exact ((((Blk.newA (by simp)).alloc _).alloc _).alloc _)
  have l6 : Blk WB (w16.heap.size + 7) 3 (ints [1, 3]).toArray := by rw [← hWWB]; exact (((Blk.newA (by simp)).alloc _).alloc _)
  have l7 : Blk WB (w16.heap.size + 8) 3 (ints [0, 2, 1]).toArray := by rw [← hWWB]; exact ((Blk.newA (by simp)).alloc _)
  have lo : Blk WB (w16.heap.size + 9) 25 ([.slice (some ⟨w16.heap.size + 1, 0, none⟩) 2 2, .slice (some ⟨w16.heap.size + 2, 0, none⟩) 3 3, .slice (some ⟨w16.heap.size + 3, 0, none⟩) 2 2, .slice (some ⟨w16.heap.size + 4, 0, none⟩) 3 3, .slice (some ⟨w16.heap.size + 5, 0, none⟩) 1 1, .slice (some ⟨w16.heap.size + 6, 0, none⟩) 3 3, .slice (some ⟨w16.heap.size + 7, 0, none⟩) 2 2, .slice (some ⟨w16.heap.size + 8, 0, none⟩) 3 3] : List Value).toArray := by rw [← hWWB]; exact (Blk.newA (by simp))
  have q0 := q0.next bW
  have p0 := p0.next bW
  have q1 := q1.next bW
  have q2 := q2.next bW
  have q3 := q3.next bW
  have q4 := q4.next bW
  have q5 := q5.next bW
  have q6 := q6.next bW
  have wf : RowsR WB WB.heap.size (some ⟨w16.heap.size, 0, none⟩) [[1, 2], [0, 1, 2], [0, 3], [0, 2, 3], [3], [0, 0, 0], [1, 3], [0, 2, 1]] := rows_litA lf rfl fun i xs hx => by
    match i with
    | 0 => injection hx with hx; subst hx; exact ⟨_, _, rfl, q0⟩
    | 1 => injection hx with hx; subst hx; exact ⟨_, _, rfl, p0⟩
    | 2 => injection hx with hx; subst hx; exact ⟨_, _, rfl, q1⟩
    | 3 => injection hx with hx; subst hx; exact ⟨_, _, rfl, q2⟩
    | 4 => injection hx with hx; subst hx; exact ⟨_, _, rfl, q3⟩
    | 5 => injection hx with hx; subst hx; exact ⟨_, _, rfl, q4⟩
    | 6 => injection hx with hx; subst hx; exact ⟨_, _, rfl, q5⟩
    | 7 => injection hx with hx; subst hx; exact ⟨_, _, rfl, q6⟩
    | i + 8 => cases hx
  have wo : RowsR WB WB.heap.size (some ⟨w16.heap.size + 9, 0, none⟩) [[1, 2], [0, 1, 2], [0, 3], [0, 2, 3], [3], [0, 0, 0], [1, 3], [0, 2, 1]] := rows_litA lo rfl fun i xs hx => by
    match i with
    | 0 => injection hx with hx; subst hx; exact ⟨_, 2, rfl, row_litA l0⟩
    | 1 => injection hx with hx; subst hx; exact ⟨_, 3, rfl, row_litA l1⟩
    | 2 => injection hx with hx; subst hx; exact ⟨_, 2, rfl, row_litA l2⟩
    | 3 => injection hx with hx; subst hx; exact ⟨_, 3, rfl, row_litA l3⟩
    | 4 => injection hx with hx; subst hx; exact ⟨_, 1, rfl, row_litA l4⟩
    | 5 => injection hx with hx; subst hx; exact ⟨_, 3, rfl, row_litA l5⟩
    | 6 => injection hx with hx; subst hx; exact ⟨_, 2, rfl, row_litA l6⟩
    | 7 => injection hx with hx; subst hx; exact ⟨_, 3, rfl, row_litA l7⟩
    | i + 8 => cases hx
  have hB := hB.trans (bW.mono hB.size)
  have SB := Lib.hid (SL.out (some ⟨w16.heap.size, 0, none⟩) 8 (some ⟨w16.heap.size + 9, 0, none⟩) 8 WB wf wo)
  have HWB := Lib.hid hWWB
  clear bW hWWB wf wo lf lo gg r2 l0 l1 l2 l3 l4 l5 l6 l7 q0 p0 q1 q2 q3 q4 q5 q6
  go_wp2_with fail
  try simp only [ints, List.map_cons, List.map_nil] at HWB
  try rw [HWB.out]
  refine (SB.out).mono ?_
  rintro e w50 ⟨rfl, b⟩
  go_wp2
  go_ret
  exact ⟨rfl, hB.trans (b.mono hB.size)⟩
end Go.Proofs.YtghigdcpinengaaGreat

/-! ref08.Ends and Size: as far as the number of single edges goes; ref08.small and Few. -/
namespace Go.Proofs.YtghigdcpinengaaGreat
open Go.RowKit

/-- The number of single edges. -/
def sizeE (es : List E3) : Nat := (es.map fun e => e.2.2.toNat).sum
theorem sizeE_take {es : List E3} {k : Nat} {e : E3} (h : es[k]? = some e) : sizeE (es.take (k + 1)) = sizeE (es.take k) + e.2.2.toNat := by
  rw [take_snoc h]; simp [sizeE]
theorem sizeE_bd {N : Int} {es : List E3} (h : ∀ e ∈ es, okE N e) : sizeE es ≤ 50 * es.length := by
  induction es with
  | nil => simp [sizeE]
  | cons e es ih =>
    have h1 := h e (by simp)
    have h2 := ih fun x hx => h x (by simp [hx])
    unfold okE at h1
    unfold sizeE at *
    simp at *
    omega
theorem info_pair2 : (Tryz.prog.info? 63).map (fun i => (i.zero, i.size, i.bytes)) = some (some (.agg #[.int .i64 0, .int .i64 0]), 2, 16) := by kernel_rfl

set_option maxRecDepth 100000 in
set_option maxHeartbeats 4000000 in
theorem rends_any (n : Int) (A : Option Addr) (c : Nat) (es : List E3) (hn : es.length ≤ 40) (N : Int) (hok : ∀ e ∈ es, okE N e) (w : World) (h : Reads w w.heap.size 3 A es.length (edgeCells es)) :
    Calls Tryz.prog 38 #[.agg #[.int .i64 n, .slice A es.length c]] w fun e w' => ∃ A' c', e = .returned (.slice A' (sizeE es) c') ∧ Below w.heap.size w w' := by
  have HO := Lib.hid hok
  have HSZ : Hid (∀ k, sizeE (es.take k) ≤ 2000) := fun k => Nat.le_trans (sizeE_bd (N := N) fun e he => hok e (List.mem_of_mem_take he)) (by rw [List.length_take]; omega)
  have g0 := Blk.new w 24 #[.int .i64 n, .slice A es.length c]
  clear hok
  go_enter Tryz.func38, Tryz.ntmps38
  go_wp2
  go_loopw [3, 4] (fun s i wr => ∃ (k : Nat) (A' : Option Addr) (c' : Nat) (m : Nat) (vs : List Value), k ≤ es.length ∧ i = .int .i64 k ∧ s = .slice A' m c' ∧ Hid (sizeE (es.take k) = m) ∧ wr.ownsRow w.heap.size 63 2 (.slice A' m c') m vs ∧ Below w.heap.size w wr ∧ Blk wr w.heap.size 24 #[.int .i64 n, .slice A es.length c]) (fun _ i _ => es.length - (intOf i).toNat)
  case atStart => exact ⟨0, none, 0, 0, [], by omega, rfl, rfl, rfl, World.ownsRow_nil _ _ _ _, (Below.refl _ _).alloc (Nat.le_refl _) _, g0⟩
  case round =>
    obtain ⟨k, A', c', m, vs, hk, rfl, rfl, HM, hown, hbel, g1⟩ := hrel
    clear g0
    have c1 := g1.cell 1
    by_cases hlt : k < es.length
    · obtain ⟨⟨x, y, z⟩, hx⟩ := get_of_lt hlt
      have hokx := HO.out _ (List.mem_of_getElem? hx)
      unfold okE at hokx
      dsimp only at hokx
      obtain ⟨zn, rfl⟩ := Int.eq_ofNat_of_zero_le (show 0 ≤ z by omega)
      have hst := sizeE_take hx
      rw [HM.out] at hst
      dsimp only at hst
      rw [Int.toNat_natCast] at hst
      have hmax := HSZ.out (k + 1)
      rw [hst] at hmax
      have HST := Lib.hid hst
      have HX := Lib.hid hx
      have hi : (k : Int) < (es.length : Int) := by omega
      clear hst hx hokx
      go_wp2
      obtain ⟨wo, rfl⟩ : ∃ wo : World, wo = wr := ⟨_, rfl⟩
      go_loopw [3, 5] (fun s i wr => ∃ (j : Nat) (A' : Option Addr) (c' : Nat) (vs : List Value), j ≤ zn ∧ i = .int .i64 j ∧ s = .slice A' (m + j) c' ∧ wr.ownsRow w.heap.size 63 2 (.slice A' (m + j) c') (m + j) vs ∧ Below w.heap.size w wr ∧ Blk wr w.heap.size 24 #[.int .i64 n, .slice A es.length c]) (fun _ i _ => zn - (intOf i).toNat)
      case atStart => exact ⟨0, A', c', vs, by omega, rfl, rfl, hown, hbel, g1⟩
      case round =>
        clear hown hbel g1 c1
        obtain ⟨j, A', c', vs, hj, rfl, rfl, hown, hbel, g1⟩ := hrel
        have hsz := hbel.size
        have c1 := g1.cell 1
        obtain ⟨bb, off, rfl, hbb, q1, q2, q3⟩ := (h.below hbel).edge HX.out
        dsimp only at q1 q2 q3
        by_cases hlt2 : j < zn
        · have hi2 : (j : Int) < (zn : Int) := by omega
          have hownA : (wr.drew.alloc (.cells #[.int .i64 x, .int .i64 y] 63)).ownsRow w.heap.size 63 2 (.slice A' (m + j) c') (m + j) vs := World.ownsRow.alloc (World.ownsRow.drew hown) _
          have hz : w.heap.size ≤ (wr.drew.alloc (.cells #[.int .i64 x, .int .i64 y] 63)).heap.size := by show _ ≤ (wr.alloc _).heap.size; simp; omega
          go_wp2
          go_region_law (refine append_step2 rfl (.tmp 23) (.tmp 37) _ _ rfl w.heap.size 63 63 Tryz.underlying61 Tryz.underlying61 info_pair2 rfl (by omega) A' c' (m + j) vs rfl (by exact hownA) _ [.int .i64 x, .int .i64 y] rfl (by exact Reads.boxN wr.drew #[.int .i64 x, .int .i64 y] 63) (by simp [Value.oneCell']) (by omega) (by exact hz) ?_; intro A3 c3 W3 hown3 hgr3 hb3 _)
          all_goals (
            have g2 : Blk W3 w.heap.size 24 #[.int .i64 n, .slice (some ⟨bb, off, none⟩) es.length c] := Blk.grown (h := (g1.drew.alloc (.cells #[.int .i64 x, .int .i64 y] 63))) hgr3 (own_blk_ne hownA (g1.drew.alloc _) (by decide))
            have hb4 : Below w.heap.size w W3 := (hbel.drew.alloc hsz (.cells #[.int .i64 x, .int .i64 y] 63)).trans hb3
            go_wp2
            go_roundw
            case rel => exact ⟨j + 1, A3, c3, _, by omega, by go_num, rfl, hown3, hb4, g2⟩
            case measure => simp [intOf]; omega)
        · obtain rfl : j = zn := by omega
          go_wp2
          go_roundw
          case rel => exact ⟨k + 1, A', c', m + j, vs, by omega, by go_num, rfl, HST.out, hown, hbel, g1⟩
          case measure => simp [intOf]; omega
    · obtain rfl : k = es.length := by omega
      rw [List.take_length] at HM
      go_wp2
      go_ret
      exact ⟨A', c', by rw [HM.out]; rfl, hbel⟩
set_option maxHeartbeats 1000000 in
theorem rsize_any (n : Int) (A : Option Addr) (c : Nat) (es : List E3) (hn : es.length ≤ 40) (N : Int) (hok : ∀ e ∈ es, okE N e) (w : World) (h : Reads w w.heap.size 3 A es.length (edgeCells es)) :
    Calls Tryz.prog 56 #[.agg #[.int .i64 n, .slice A es.length c]] w fun e w' => e = .returned (.int .i64 (sizeE es : Nat)) ∧ Below w.heap.size w w' := by
  have EC := Lib.hid (rends_any n A c es hn N hok)
  go_enter Tryz.func56, Tryz.ntmps56
  go_wp2_with fail
  refine (EC.out _ ((h.alloc (Nat.le_refl _) _).more (by simp))).mono ?_
  rintro e w1 ⟨A1, c1, rfl, hb1⟩
  have hbel1 : Below w.heap.size w w1 := ((Below.refl _ _).alloc (Nat.le_refl _) _).trans (hb1.mono (by simp))
  go_wp2
  go_ret
  exact ⟨rfl, hbel1⟩

/-- Few vertices and single edges, or an error. -/
def smallB (n : Int) (es : List E3) (a b : Int) : Bool := if 40 < es.length then false else if checkG n es ≠ 0 then true else decide (n ≤ a) && decide ((sizeE es : Int) ≤ b)
set_option maxRecDepth 100000 in
set_option maxHeartbeats 1000000 in
theorem rsmall_any (n : Int) (A : Option Addr) (c : Nat) (es : List E3) (a b : Int) (w : World) (h : Reads w w.heap.size 3 A es.length (edgeCells es)) :
    Calls Tryz.prog 48 #[.agg #[.int .i64 n, .slice A es.length c], .int .i64 a, .int .i64 b] w fun e w' => e = .returned (.bool (smallB n es a b)) ∧ Below w.heap.size w w' := by
  have g0 := Blk.new w 24 #[.int .i64 n, .slice A es.length c]
  by_cases h1 : 40 < es.length
  · have hd : smallB n es a b = false := by unfold smallB; rw [if_pos h1]
    rw [hd]
    have hi : (40 : Int) < (es.length : Int) := by omega
    go_enter Tryz.func48, Tryz.ntmps48
    go_wp2
    go_ret
    exact ⟨rfl, (Below.refl _ _).alloc (Nat.le_refl _) _⟩
  have hi : ¬ (40 : Int) < (es.length : Int) := by omega
  have GC := rgcheck_any n A c es (by omega)
  by_cases h2 : checkG n es = 0
  · have hd : smallB n es a b = (decide (n ≤ a) && decide ((sizeE es : Int) ≤ b)) := by unfold smallB; rw [if_neg h1, if_neg (fun hc => hc h2)]
    rw [hd]
    rw [h2] at GC
    have hG := right_of h2
    have SC := Lib.hid (rsize_any n A c es (by omega) n hG.ok)
    have GC := Lib.hid GC
    clear h2 hd hG
    by_cases h3 : n ≤ a
    · have hd3 : decide (n ≤ a) = true := decide_eq_true h3
      go_enter Tryz.func48, Tryz.ntmps48
      go_wp2_with fail
      refine (GC.out _ ((h.alloc (Nat.le_refl _) _).more (by simp))).mono ?_
      rintro e w1 ⟨rfl, hb1⟩
      have hbel1 : Below w.heap.size w w1 := ((Below.refl _ _).alloc (Nat.le_refl _) _).trans (hb1.mono (by simp))
      have g1 := g0.next hb1
      have c0 := g1.cell 0
      have c1 := g1.cell 1
      go_wp2_with fail
      refine (SC.out _ ((h.below hbel1).more hbel1.size)).mono ?_
      rintro e w2 ⟨rfl, hb2⟩
      go_wp2
      go_ret
      exact ⟨ret_bool (by simp [h3]), hbel1.trans (hb2.mono hbel1.size)⟩
    · have hd3 : decide (n ≤ a) = false := decide_eq_false h3
      go_enter Tryz.func48, Tryz.ntmps48
      go_wp2_with fail
      refine (GC.out _ ((h.alloc (Nat.le_refl _) _).more (by simp))).mono ?_
      rintro e w1 ⟨rfl, hb1⟩
      have hbel1 : Below w.heap.size w w1 := ((Below.refl _ _).alloc (Nat.le_refl _) _).trans (hb1.mono (by simp))
      have g1 := g0.next hb1
      have c0 := g1.cell 0
      have c1 := g1.cell 1
      go_wp2
      go_ret
      exact ⟨ret_bool (by rw [hd3]; rfl), hbel1⟩
  · have hd : smallB n es a b = true := by unfold smallB; rw [if_neg h1, if_pos h2]
    rw [hd]
    obtain ⟨q, hq⟩ : ∃ q, checkG n es = q := ⟨_, rfl⟩
    rw [hq] at GC h2
    have hb : (q != 0) = true := by simpa using h2
    have GC := Lib.hid GC
    clear h2 hd hq
    go_enter Tryz.func48, Tryz.ntmps48
    go_wp2_with fail
    refine (GC.out _ ((h.alloc (Nat.le_refl _) _).more (by simp))).mono ?_
    rintro e w1 ⟨rfl, hb1⟩
    have hbel1 : Below w.heap.size w w1 := ((Below.refl _ _).alloc (Nat.le_refl _) _).trans (hb1.mono (by simp))
    go_wp2
    go_ret
    exact ⟨rfl, hbel1⟩
end Go.Proofs.YtghigdcpinengaaGreat

