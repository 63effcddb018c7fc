/-
  Texts of this claim, put together: Awake31.
-/
import Derived.Test.YtplgbapbgcipdaaGreatDoorK40
/-! The example of chapter 31 holds (awake of sandpilelaw31). -/
namespace Go.Proofs.YtplgbapbgcipdaaGreatDoor
open Go.RowKit
theorem one31 : (⟨#[49]⟩ : ByteArray) = intS 1 := by decide +kernel
set_option maxRecDepth 100000 in
set_option maxHeartbeats 8000000 in
theorem awake31_any (w : World) : Calls Tryz.prog 11 #[] w fun e w' => e = .returned (.bool true) ∧ Below w.heap.size w w' := by
  go_enter Tryz.func11, Tryz.ntmps11
  go_wp2_with fail
  refine (tri31_any w).mono ?_
  rintro e w1 ⟨A, c, rfl, r1, b1⟩
  have gg : Blk (w1.alloc (.cells #[.int .i64 3, .slice A 3 c] 24)) w1.heap.size 24 #[.int .i64 3, .slice A 3 c] := Blk.newB rfl
  have bg : Below w1.heap.size w1 (w1.alloc (.cells #[.int .i64 3, .slice A 3 c] 24)) := (Below.refl _ _).alloc (Nat.le_refl _) _
  obtain ⟨gb, hgb⟩ : ∃ gb, w1.heap.size = gb := ⟨_, rfl⟩
  have r2 := (r1.below bg).more bg.size
  have hB := b1.trans (bg.mono b1.size)
  obtain ⟨W2, hW2⟩ : ∃ W2, w1.alloc (.cells #[.int .i64 3, .slice A 3 c] 24) = W2 := ⟨_, rfl⟩
  rw [hW2, hgb] at gg
  rw [hW2] at r2 hB
  have HW2 := Lib.hid hW2
  have HGB := Lib.hid hgb
  have hz2 : gb + 1 = W2.heap.size := by rw [← hW2]; simp [hgb]
  have HZ2 := Lib.hid hz2
  clear bg b1 r1 hW2 hgb hz2
  have c0 : ∀ o, ((w1.alloc (.cells #[.int .i64 3, .slice A 3 c] 24)).alloc o).cell? ⟨w1.heap.size, 0, none⟩ = some (.int .i64 3) := fun o => by rw [HW2.out, HGB.out]; exact (gg.alloc o).cell 0
  have c1 : ∀ o, ((w1.alloc (.cells #[.int .i64 3, .slice A 3 c] 24)).alloc o).cell? ⟨w1.heap.size, 1, none⟩ = some (.slice A 3 c) := fun o => by rw [HW2.out, HGB.out]; exact (gg.alloc o).cell 1
  have C := c31_int A c W2 r2
  rw [← HZ2.out] at C
  have C := Lib.hid C
  go_wp2_with fail
  try rw [HW2.out]
  try rw [HGB.out]
  refine (C.out).mono ?_
  rintro e v0 ⟨A0, d0, rfl, q0, b⟩
  rw [HZ2.out] at b
  have gg := gg.next b
  have r2 := r2.next b
  have hB := hB.trans (b.mono hB.size)
  clear b c0 c1 C
  have c0 := gg.cell 0
  have c1 := gg.cell 1
  have C := Lib.hid (c31_ext A c v0 r2)
  go_wp2_with fail
  refine (C.out).mono ?_
  rintro e v1 ⟨A1, d1, rfl, q1, b⟩
  have q0 := q0.next b
  have gg := gg.next b
  have r2 := r2.next b
  have hB := hB.trans (b.mono hB.size)
  clear b c0 c1 C
  have c0 := gg.cell 0
  have c1 := gg.cell 1
  have C := Lib.hid (c31_poly A c v1 r2)
  go_wp2_with fail
  refine (C.out).mono ?_
  rintro e v2 ⟨A2, d2, rfl, q2, b⟩
  have q0 := q0.next b
  have q1 := q1.next b
  have gg := gg.next b
  have r2 := r2.next b
  have hB := hB.trans (b.mono hB.size)
  clear b c0 c1 C
  have c0 := gg.cell 0
  have c1 := gg.cell 1
  have C := Lib.hid (c31_tv A c v2 r2)
  go_wp2_with fail
  refine (C.out).mono ?_
  rintro e v3 ⟨A3, d3, rfl, q3, b⟩
  have q0 := q0.next b
  have q1 := q1.next b
  have q2 := q2.next b
  have gg := gg.next b
  have r2 := r2.next b
  have hB := hB.trans (b.mono hB.size)
  clear b c0 c1 C
  have c0 := gg.cell 0
  have c1 := gg.cell 1
  have C := Lib.hid (c31_uv A c v3 r2)
  go_wp2_with fail
  refine (C.out).mono ?_
  rintro e v4 ⟨A4, d4, rfl, q4, b⟩
  have q0 := q0.next b
  have q1 := q1.next b
  have q2 := q2.next b
  have q3 := q3.next b
  have gg := gg.next b
  have r2 := r2.next b
  have hB := hB.trans (b.mono hB.size)
  clear b c0 c1 C
  have C := Lib.hid (c31_eq [0, 1] (by decide) A0 d0 v4 q0)
  go_wp2_with fail
  refine (C.out).mono ?_
  rintro e v5 ⟨rfl, b⟩
  have q1 := q1.next b
  have q2 := q2.next b
  have q3 := q3.next b
  have q4 := q4.next b
  have hB := hB.trans (b.mono hB.size)
  clear b C
  have C := Lib.hid (c31_eq [0] (by decide) A1 d1 v5 q1)
  go_wp2_with fail
  refine (C.out).mono ?_
  rintro e v6 ⟨rfl, b⟩
  have q2 := q2.next b
  have q3 := q3.next b
  have q4 := q4.next b
  have hB := hB.trans (b.mono hB.size)
  clear b C
  have C := Lib.hid (c31_same [((2, 0), 1), ((1, 0), 1), ((0, 1), 1)] (by decide) A2 d2 v6 q2)
  have C : Hid (Calls Tryz.prog 20 #[.slice A2 3 d2, .slice (some ⟨v6.heap.size, 0, none⟩) 3 3] (v6.alloc (.cells #[.int .i64 2, .int .i64 0, .string ⟨#[49]⟩, .int .i64 1, .int .i64 0, .string ⟨#[49]⟩, .int .i64 0, .int .i64 1, .string ⟨#[49]⟩] 72)) fun e w' => e = .returned (.bool true) ∧ Below v6.heap.size v6 w') := by rw [one31]; exact C
  go_wp2_with fail
  refine (C.out).mono ?_
  rintro e v7 ⟨rfl, b⟩
  have q3 := q3.next b
  have q4 := q4.next b
  have hB := hB.trans (b.mono hB.size)
  clear b C
  have C := Lib.hid (c31_eq [1, 2] (by decide) A3 d3 v7 q3)
  go_wp2_with fail
  refine (C.out).mono ?_
  rintro e v8 ⟨rfl, b⟩
  have q4 := q4.next b
  have hB := hB.trans (b.mono hB.size)
  clear b C
  have C := Lib.hid (c31_eq [0, 1] (by decide) A4 d4 v8 q4)
  go_wp2_with fail
  refine (C.out).mono ?_
  rintro e v9 ⟨rfl, b⟩
  have hB := hB.trans (b.mono hB.size)
  clear b C
  go_wp2
  go_ret
  exact ⟨rfl, hB⟩
end Go.Proofs.YtplgbapbgcipdaaGreatDoor

