/-
  Texts of this claim, put together: Ear31, Awake31.
-/
import Derived.Test.YtplgbapbgcipdaaGreatDoorK32
import Derived.Test.YtplgbapbgcipdaaGreatDoorK28
import Derived.Test.YtplgbapbgcipdaaGreatDoorK31
import Derived.Test.YtplgbapbgcipdaaGreatDoorK10
import Derived.Test.YtplgbapbgcipdaaGreatDoorK07
/-! The examples of chapter 31, each by itself. -/
namespace Go.Proofs.YtplgbapbgcipdaaGreatDoor
open Go.RowKit
def tri31 : List E3 := [(0, 1, 1), (0, 2, 1), (1, 2, 1)]
theorem a31_i : intE 3 tri31 [0, 1] = ([0, 1], 0) := by decide +kernel
theorem a31_x : extE 3 tri31 [1, 2] = ([0], 0) := by decide +kernel
theorem a31_j : joinErr 3 tri31 = 0 := by decide +kernel
theorem a31_m : (endsL tri31).length ≤ 8 := by decide +kernel
theorem a31_l : (tallE 3 tri31).1.length ≤ 16384 := by decide +kernel
theorem a31_w : wtL 3 (endsL tri31) = [(2, 0), (1, 0), (0, 1)] := by decide +kernel
theorem a31_p : polyE 3 tri31 = ([((2, 0), 1), ((1, 0), 1), ((0, 1), 1)], 0) := by
  unfold polyE
  rw [if_neg (fun hc => hc a31_j), show (3 : Int).toNat = 3 from rfl, a31_w]
  simp [sumP, plusP, abv]
theorem a31_t : intvE 3 tri31 [0, 1, 2] = ([1, 2], 0) := by decide +kernel
theorem a31_u : intvE 3 tri31 [] = ([0, 1], 0) := by decide +kernel
theorem Blk.newB {w : World} {g : Nat} {t : TypeId} {cs : Array Value} (hg : g = w.heap.size) : Blk (w.alloc (.cells cs t)) g t cs := by subst hg; exact Blk.new w t cs
theorem row_litB {W : World} {g : Nat} {xs : List Int} (h : Blk W g 3 (ints xs).toArray) : Reads W W.heap.size 1 (some ⟨g, 0, none⟩) xs.length (ints xs) :=
  ⟨by simp [ints], fun _ => ⟨g, 0, rfl, h.lt, fun j u hu => by rw [Nat.zero_add, h.cell j]; simpa using hu⟩⟩
theorem tms_litB {W : World} {g : Nat} {p : List Tm} (h : Blk W g 72 (tmCells p).toArray) : Reads W W.heap.size 3 (some ⟨g, 0, none⟩) p.length (tmCells p) :=
  ⟨by rw [tmCells_length], fun _ => ⟨g, 0, rfl, h.lt, fun j u hu => by rw [Nat.zero_add, h.cell j]; simpa using hu⟩⟩
theorem below_al {w w' : World} {o : Obj} (h : Below (w.alloc o).heap.size (w.alloc o) w') : Below w.heap.size w w' := ((Below.refl _ _).alloc (Nat.le_refl _) o).trans (h.mono (by simp))
set_option maxHeartbeats 1000000 in
theorem tri31_any (w : World) : Calls Tryz.prog 42 #[] w fun e w' => ∃ A c, e = .returned (.agg #[.int .i64 3, .slice A 3 c]) ∧ Reads w' w'.heap.size 3 A tri31.length (edgeCells tri31) ∧ Below w.heap.size w w' := by
  go_enter Tryz.func42, Tryz.ntmps42
  go_wp2
  refine bodyPost_ret (results_g rfl rfl ((Blk.new w 24 #[.int .i64 3, .slice (some ⟨w.heap.size + 1, 0, none⟩) 3 3]).alloc _) rfl) rfl ?_
  have hB := Blk.new (w.alloc (.cells #[.int .i64 3, .slice (some ⟨w.heap.size + 1, 0, none⟩) 3 3] 24)) 106 (edgeCells tri31).toArray
  rw [show (w.alloc (.cells #[.int .i64 3, .slice (some ⟨w.heap.size + 1, 0, none⟩) 3 3] 24)).heap.size = w.heap.size + 1 from by simp] at hB
  refine ⟨some ⟨w.heap.size + 1, 0, none⟩, 3, rfl, ⟨by simp [edgeCells_length], fun _ => ⟨w.heap.size + 1, 0, rfl, by simp, fun j u hu => ?_⟩⟩, ((Below.refl _ _).alloc (Nat.le_refl _) _).alloc (by simp) _⟩
  rw [Nat.zero_add]
  refine (hB.cell j).trans ?_
  rw [← hu, List.getElem?_toArray]
theorem c31_int (A : Option Addr) (c : Nat) (w : World) (h : Reads w w.heap.size 3 A tri31.length (edgeCells tri31)) : Calls Tryz.prog 12 #[.agg #[.int .i64 3, .slice A 3 c], .slice (some ⟨w.heap.size, 0, none⟩) 2 2] (w.alloc (.cells (ints [0, 1]).toArray 3)) fun e w' => ∃ A1 c1, e = .returned (.tuple #[.slice A1 2 c1, .int .i64 0]) ∧ Reads w' w'.heap.size 1 A1 2 (ints [0, 1]) ∧ Below w.heap.size w w' := by
  have hb := internal_any 3 A c tri31 (by decide) (some ⟨w.heap.size, 0, none⟩) 2 [0, 1] (by decide) (w.alloc (.cells (ints [0, 1]).toArray 3)) ((h.alloc (Nat.le_refl _) _).more (by simp)) (row_litB (xs := [0, 1]) (Blk.newB rfl))
  rw [a31_i] at hb
  refine hb.mono ?_
  rintro e w' ⟨A1, c1, he, o, hb⟩
  exact ⟨A1, c1, he, o.reads, below_al hb⟩
theorem c31_ext (A : Option Addr) (c : Nat) (w : World) (h : Reads w w.heap.size 3 A tri31.length (edgeCells tri31)) : Calls Tryz.prog 14 #[.agg #[.int .i64 3, .slice A 3 c], .slice (some ⟨w.heap.size, 0, none⟩) 2 2] (w.alloc (.cells (ints [1, 2]).toArray 3)) fun e w' => ∃ A1 c1, e = .returned (.tuple #[.slice A1 1 c1, .int .i64 0]) ∧ Reads w' w'.heap.size 1 A1 1 (ints [0]) ∧ Below w.heap.size w w' := by
  have hb := external_any 3 A c tri31 (by decide) (some ⟨w.heap.size, 0, none⟩) 2 [1, 2] (by decide) (w.alloc (.cells (ints [1, 2]).toArray 3)) ((h.alloc (Nat.le_refl _) _).more (by simp)) (row_litB (xs := [1, 2]) (Blk.newB rfl))
  rw [a31_x] at hb
  refine hb.mono ?_
  rintro e w' ⟨A1, c1, he, o, hb⟩
  exact ⟨A1, c1, he, o.reads, below_al hb⟩
theorem c31_poly (A : Option Addr) (c : Nat) (w : World) (h : Reads w w.heap.size 3 A tri31.length (edgeCells tri31)) : Calls Tryz.prog 18 #[.agg #[.int .i64 3, .slice A 3 c]] w fun e w' => ∃ A1 c1, e = .returned (.tuple #[.slice A1 3 c1, .int .i64 0]) ∧ Reads w' w'.heap.size 3 A1 3 (tmCells [((2, 0), 1), ((1, 0), 1), ((0, 1), 1)]) ∧ Below w.heap.size w w' := by
  have hb := polynomial_any 3 A c tri31 (by decide) (fun _ => ⟨by decide, a31_m⟩) w h
  rw [a31_p] at hb
  refine hb.mono ?_
  rintro e w' ⟨A1, c1, he, o, hb⟩
  exact ⟨A1, c1, he, o.reads, hb⟩
theorem c31_tv (A : Option Addr) (c : Nat) (w : World) (h : Reads w w.heap.size 3 A tri31.length (edgeCells tri31)) : Calls Tryz.prog 21 #[.agg #[.int .i64 3, .slice A 3 c], .slice (some ⟨w.heap.size, 0, none⟩) 3 3] (w.alloc (.cells (ints [0, 1, 2]).toArray 3)) fun e w' => ∃ A1 c1, e = .returned (.tuple #[.slice A1 2 c1, .int .i64 0]) ∧ Reads w' w'.heap.size 1 A1 2 (ints [1, 2]) ∧ Below w.heap.size w w' := by
  have hb := interval_any 3 A c tri31 (by decide) a31_l (fun _ => Nat.le_trans a31_m (by omega)) (some ⟨w.heap.size, 0, none⟩) 3 [0, 1, 2] (by decide) (w.alloc (.cells (ints [0, 1, 2]).toArray 3)) ((h.alloc (Nat.le_refl _) _).more (by simp)) (row_litB (xs := [0, 1, 2]) (Blk.newB rfl))
  rw [a31_t] at hb
  refine hb.mono ?_
  rintro e w' ⟨A1, c1, he, o, hb⟩
  exact ⟨A1, c1, he, o, below_al hb⟩
theorem c31_uv (A : Option Addr) (c : Nat) (w : World) (h : Reads w w.heap.size 3 A tri31.length (edgeCells tri31)) : Calls Tryz.prog 21 #[.agg #[.int .i64 3, .slice A 3 c], .slice none 0 0] w fun e w' => ∃ A1 c1, e = .returned (.tuple #[.slice A1 2 c1, .int .i64 0]) ∧ Reads w' w'.heap.size 1 A1 2 (ints [0, 1]) ∧ Below w.heap.size w w' := by
  have hb := interval_any 3 A c tri31 (by decide) a31_l (fun _ => Nat.le_trans a31_m (by omega)) none 0 [] (by decide) w h Reads.nil_
  rw [a31_u] at hb
  exact hb
theorem c31_eq (l : List Int) (hl : l.length ≤ 100) (A : Option Addr) (c : Nat) (w : World) (h : Reads w w.heap.size 1 A l.length (ints l)) : Calls Tryz.prog 43 #[.slice A l.length c, .slice (some ⟨w.heap.size, 0, none⟩) l.length l.length] (w.alloc (.cells (ints l).toArray 3)) fun e w' => e = .returned (.bool true) ∧ Below w.heap.size w w' := by
  have hb := iequal_any A c l (some ⟨w.heap.size, 0, none⟩) l.length l (by omega) (w.alloc (.cells (ints l).toArray 3)) ((h.alloc (Nat.le_refl _) _).more (by simp)) (row_litB (xs := l) (Blk.newB rfl))
  refine hb.mono ?_
  rintro e w' ⟨he, hb⟩
  exact ⟨by rw [he, decide_eq_true rfl], below_al hb⟩
theorem c31_same (p : List Tm) (hl : p.length ≤ 100) (A : Option Addr) (c : Nat) (w : World) (h : Reads w w.heap.size 3 A p.length (tmCells p)) : Calls Tryz.prog 20 #[.slice A p.length c, .slice (some ⟨w.heap.size, 0, none⟩) p.length p.length] (w.alloc (.cells (tmCells p).toArray 72)) fun e w' => e = .returned (.bool true) ∧ Below w.heap.size w w' := by
  have hb := rsame06_any A c p (some ⟨w.heap.size, 0, none⟩) p.length (by omega) (w.alloc (.cells (tmCells p).toArray 72)) ((h.alloc (Nat.le_refl _) _).more (by simp)) (tms_litB (p := p) (Blk.newB rfl))
  refine hb.mono ?_
  rintro e w' ⟨he, hb⟩
  exact ⟨he, below_al hb⟩
end Go.Proofs.YtplgbapbgcipdaaGreatDoor

/-! The example of chapter 31 holds (awake of sandpilelaw31). -/
namespace Go.Proofs.YtplgbapbgcipdaaGreatDoor
open Go.RowKit
theorem one31 : (⟨#[49]⟩ : ByteArray) = intS 1 := by decide +kernel
set_option maxRecDepth 100000 in
set_option maxHeartbeats 8000000 in
theorem awake31_any (w : World) : Calls Tryz.prog 11 #[] w fun e w' => e = .returned (.bool true) ∧ Below w.heap.size w w' := by
  go_enter Tryz.func11, Tryz.ntmps11
  go_wp2_with fail
  refine (tri31_any w).mono ?_
  rintro e w1 ⟨A, c, rfl, r1, b1⟩
  have gg : Blk (w1.alloc (.cells #[.int .i64 3, .slice A 3 c] 24)) w1.heap.size 24 #[.int .i64 3, .slice A 3 c] := Blk.newB rfl
  have bg : Below w1.heap.size w1 (w1.alloc (.cells #[.int .i64 3, .slice A 3 c] 24)) := (Below.refl _ _).alloc (Nat.le_refl _) _
  obtain ⟨gb, hgb⟩ : ∃ gb, w1.heap.size = gb := ⟨_, rfl⟩
  have r2 := (r1.below bg).more bg.size
  have hB := b1.trans (bg.mono b1.size)
  obtain ⟨W2, hW2⟩ : ∃ W2, w1.alloc (.cells #[.int .i64 3, .slice A 3 c] 24) = W2 := ⟨_, rfl⟩
  rw [hW2, hgb] at gg
  rw [hW2] at r2 hB
  have HW2 := Lib.hid hW2
  have HGB := Lib.hid hgb
  have hz2 : gb + 1 = W2.heap.size := by rw [← hW2]; simp [hgb]
  have HZ2 := Lib.hid hz2
  clear bg b1 r1 hW2 hgb hz2
  have c0 : ∀ o, ((w1.alloc (.cells #[.int .i64 3, .slice A 3 c] 24)).alloc o).cell? ⟨w1.heap.size, 0, none⟩ = some (.int .i64 3) := fun o => by rw [HW2.out, HGB.out]; exact (gg.alloc o).cell 0
  have c1 : ∀ o, ((w1.alloc (.cells #[.int .i64 3, .slice A 3 c] 24)).alloc o).cell? ⟨w1.heap.size, 1, none⟩ = some (.slice A 3 c) := fun o => by rw [HW2.out, HGB.out]; exact (gg.alloc o).cell 1
  have C := c31_int A c W2 r2
  rw [← HZ2.out] at C
  have C := Lib.hid C
  go_wp2_with fail
  try rw [HW2.out]
  try rw [HGB.out]
  refine (C.out).mono ?_
  rintro e v0 ⟨A0, d0, rfl, q0, b⟩
  rw [HZ2.out] at b
  have gg := gg.next b
  have r2 := r2.next b
  have hB := hB.trans (b.mono hB.size)
  clear b c0 c1 C
  have c0 := gg.cell 0
  have c1 := gg.cell 1
  have C := Lib.hid (c31_ext A c v0 r2)
  go_wp2_with fail
  refine (C.out).mono ?_
  rintro e v1 ⟨A1, d1, rfl, q1, b⟩
  have q0 := q0.next b
  have gg := gg.next b
  have r2 := r2.next b
  have hB := hB.trans (b.mono hB.size)
  clear b c0 c1 C
  have c0 := gg.cell 0
  have c1 := gg.cell 1
  have C := Lib.hid (c31_poly A c v1 r2)
  go_wp2_with fail
  refine (C.out).mono ?_
  rintro e v2 ⟨A2, d2, rfl, q2, b⟩
  have q0 := q0.next b
  have q1 := q1.next b
  have gg := gg.next b
  have r2 := r2.next b
  have hB := hB.trans (b.mono hB.size)
  clear b c0 c1 C
  have c0 := gg.cell 0
  have c1 := gg.cell 1
  have C := Lib.hid (c31_tv A c v2 r2)
  go_wp2_with fail
  refine (C.out).mono ?_
  rintro e v3 ⟨A3, d3, rfl, q3, b⟩
  have q0 := q0.next b
  have q1 := q1.next b
  have q2 := q2.next b
  have gg := gg.next b
  have r2 := r2.next b
  have hB := hB.trans (b.mono hB.size)
  clear b c0 c1 C
  have c0 := gg.cell 0
  have c1 := gg.cell 1
  have C := Lib.hid (c31_uv A c v3 r2)
  go_wp2_with fail
  refine (C.out).mono ?_
  rintro e v4 ⟨A4, d4, rfl, q4, b⟩
  have q0 := q0.next b
  have q1 := q1.next b
  have q2 := q2.next b
  have q3 := q3.next b
  have gg := gg.next b
  have r2 := r2.next b
  have hB := hB.trans (b.mono hB.size)
  clear b c0 c1 C
  have C := Lib.hid (c31_eq [0, 1] (by decide) A0 d0 v4 q0)
  go_wp2_with fail
  refine (C.out).mono ?_
  rintro e v5 ⟨rfl, b⟩
  have q1 := q1.next b
  have q2 := q2.next b
  have q3 := q3.next b
  have q4 := q4.next b
  have hB := hB.trans (b.mono hB.size)
  clear b C
  have C := Lib.hid (c31_eq [0] (by decide) A1 d1 v5 q1)
  go_wp2_with fail
  refine (C.out).mono ?_
  rintro e v6 ⟨rfl, b⟩
  have q2 := q2.next b
  have q3 := q3.next b
  have q4 := q4.next b
  have hB := hB.trans (b.mono hB.size)
  clear b C
  have C := Lib.hid (c31_same [((2, 0), 1), ((1, 0), 1), ((0, 1), 1)] (by decide) A2 d2 v6 q2)
  have C : Hid (Calls Tryz.prog 20 #[.slice A2 3 d2, .slice (some ⟨v6.heap.size, 0, none⟩) 3 3] (v6.alloc (.cells #[.int .i64 2, .int .i64 0, .string ⟨#[49]⟩, .int .i64 1, .int .i64 0, .string ⟨#[49]⟩, .int .i64 0, .int .i64 1, .string ⟨#[49]⟩] 72)) fun e w' => e = .returned (.bool true) ∧ Below v6.heap.size v6 w') := by rw [one31]; exact C
  go_wp2_with fail
  refine (C.out).mono ?_
  rintro e v7 ⟨rfl, b⟩
  have q3 := q3.next b
  have q4 := q4.next b
  have hB := hB.trans (b.mono hB.size)
  clear b C
  have C := Lib.hid (c31_eq [1, 2] (by decide) A3 d3 v7 q3)
  go_wp2_with fail
  refine (C.out).mono ?_
  rintro e v8 ⟨rfl, b⟩
  have q4 := q4.next b
  have hB := hB.trans (b.mono hB.size)
  clear b C
  have C := Lib.hid (c31_eq [0, 1] (by decide) A4 d4 v8 q4)
  go_wp2_with fail
  refine (C.out).mono ?_
  rintro e v9 ⟨rfl, b⟩
  have hB := hB.trans (b.mono hB.size)
  clear b C
  go_wp2
  go_ret
  exact ⟨rfl, hB⟩
end Go.Proofs.YtplgbapbgcipdaaGreatDoor

