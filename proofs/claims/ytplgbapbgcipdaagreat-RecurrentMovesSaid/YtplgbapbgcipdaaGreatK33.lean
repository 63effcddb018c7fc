/-
  Texts of this claim, put together: Awake24.
-/
import Derived.Test.YtplgbapbgcipdaaGreatK32
import Derived.Test.YtplgbapbgcipdaaGreatK12
/-! The examples of chapter 24: awake. -/
namespace Go.Proofs.YtplgbapbgcipdaaGreat
open Go.RowKit

set_option maxHeartbeats 1000000 in
theorem triangle24_any (w : World) : Calls Tryz.prog 31 #[] w fun e w' => ∃ A c, e = .returned (.agg #[.int .i64 3, .slice A 3 c]) ∧ Reads w' w'.heap.size 3 A tri.length (edgeCells tri) ∧ Below w.heap.size w w' := by
  go_enter Tryz.func31, Tryz.ntmps31
  go_wp2
  refine bodyPost_ret (results_g rfl rfl ((Blk.new w 24 #[.int .i64 3, .slice (some ⟨w.heap.size + 1, 0, none⟩) 3 3]).alloc _) rfl) rfl ?_
  have hB := Blk.new (w.alloc (.cells #[.int .i64 3, .slice (some ⟨w.heap.size + 1, 0, none⟩) 3 3] 24)) 73 (edgeCells tri).toArray
  rw [show (w.alloc (.cells #[.int .i64 3, .slice (some ⟨w.heap.size + 1, 0, none⟩) 3 3] 24)).heap.size = w.heap.size + 1 from by simp] at hB
  refine ⟨some ⟨w.heap.size + 1, 0, none⟩, 3, rfl, ⟨by simp [edgeCells_length], fun _ => ⟨w.heap.size + 1, 0, rfl, by simp, fun j u hu => ?_⟩⟩, ((Below.refl _ _).alloc (Nat.le_refl _) _).alloc (by simp) _⟩
  rw [Nat.zero_add]
  refine (hB.cell j).trans ?_
  rw [← hu, List.getElem?_toArray]

section
variable (A : Option Addr) (c : Nat)
theorem t24_rec (w : World) (g : Nat) (hg : g = w.heap.size) (h : Reads w w.heap.size 3 A tri.length (edgeCells tri)) : Calls Tryz.prog 32 #[.agg #[.int .i64 3, .slice A 3 c], .int .i64 0, .slice (some ⟨g, 0, none⟩) 3 3] (w.alloc (obj3 0 1 0)) fun e w' => ∃ A1 c1,
    e = .returned (.tuple #[.bool true, .slice A1 3 c1, .int .i64 0]) ∧ OwnI w' w.heap.size A1 c1 [0, 1, 2] ∧ Below w.heap.size w w' := by
  subst hg
  have hb := recurrent_any 3 A c tri (by decide) 0 (some ⟨w.heap.size, 0, none⟩) 3 [0, 1, 0] (by decide) (w.alloc (obj3 0 1 0)) ((h.alloc (Nat.le_refl _) _).more (by simp)) (reads_lit w [0, 1, 0])
  rw [tri_rec] at hb
  exact hb.mono fun e w' ⟨A1, c1, he, o1, hb⟩ => ⟨A1, c1, he, o1.mono (by simp), below_new hb⟩
theorem t24_forb (w : World) (g : Nat) (hg : g = w.heap.size) (h : Reads w w.heap.size 3 A tri.length (edgeCells tri)) : Calls Tryz.prog 33 #[.agg #[.int .i64 3, .slice A 3 c], .int .i64 0, .slice (some ⟨g, 0, none⟩) 3 3] (w.alloc (obj3 0 0 0)) fun e w' => ∃ A1 c1,
    e = .returned (.tuple #[.slice A1 2 c1, .int .i64 0]) ∧ OwnI w' w.heap.size A1 c1 [1, 2] ∧ Below w.heap.size w w' := by
  subst hg
  have hb := forb_any 3 A c tri (by decide) 0 (some ⟨w.heap.size, 0, none⟩) 3 [0, 0, 0] (by decide) (w.alloc (obj3 0 0 0)) ((h.alloc (Nat.le_refl _) _).more (by simp)) (reads_lit w [0, 0, 0])
  rw [tri_forb] at hb
  exact hb.mono fun e w' ⟨A1, c1, he, o1, hb⟩ => ⟨A1, c1, he, o1.mono (by simp), below_new hb⟩
theorem t24_all (w : World) (h : Reads w w.heap.size 3 A tri.length (edgeCells tri)) : Calls Tryz.prog 16 #[.agg #[.int .i64 3, .slice A 3 c], .int .i64 0] w fun e w' => ∃ A1 c1,
    e = .returned (.tuple #[.slice A1 3 c1, .int .i64 0]) ∧ RowsR w' w'.heap.size A1 [[0, 0, 1], [0, 1, 0], [0, 1, 1]] ∧ Below w.heap.size w w' := by
  have hb := rall_any 3 A c tri (by decide) 0 (by rw [tri_all]; decide) w h
  rw [tri_all] at hb
  exact hb
theorem t24_min (w : World) (h : Reads w w.heap.size 3 A tri.length (edgeCells tri)) : Calls Tryz.prog 26 #[.agg #[.int .i64 3, .slice A 3 c], .int .i64 0] w fun e w' => ∃ A1 c1,
    e = .returned (.tuple #[.slice A1 2 c1, .int .i64 0]) ∧ RowsR w' w'.heap.size A1 [[0, 0, 1], [0, 1, 0]] ∧ Below w.heap.size w w' := by
  have hb := minimal_any 3 A c tri (by decide) 0 (by rw [tri_all]; decide) w h
  rw [tri_min] at hb
  exact hb
set_option maxRecDepth 100000 in
theorem t24_next (w : World) (g : Nat) (hg : g = w.heap.size) (h : Reads w w.heap.size 3 A tri.length (edgeCells tri)) : Calls Tryz.prog 8 #[.agg #[.int .i64 3, .slice A 3 c], .int .i64 0, .slice (some ⟨g, 0, none⟩) 3 3, .int .i64 1] (w.alloc (obj3 0 1 1)) fun e w' => ∃ A1 c1,
    e = .returned (.tuple #[.slice A1 3 c1, .int .i64 0]) ∧ OwnI w' w.heap.size A1 c1 [0, 1, 0] ∧ Below w.heap.size w w' := by
  subst hg
  have hb := next_any 3 A c tri (by decide) 0 (some ⟨w.heap.size, 0, none⟩) 3 [0, 1, 1] (by decide) 1 (w.alloc (obj3 0 1 1)) ((h.alloc (Nat.le_refl _) _).more (by simp)) (reads_lit w [0, 1, 1])
  refine hb.mono ?_
  rintro e w' ⟨ds, er, A1, c1, hE, he, o1, hb⟩
  obtain ⟨rfl, rfl⟩ := tri_next hE
  exact ⟨A1, c1, he, o1.mono (by simp), below_new hb⟩
set_option maxRecDepth 100000 in
theorem t24_kick (w : World) (g : Nat) (hg : g = w.heap.size) (h : Reads w w.heap.size 3 A tri.length (edgeCells tri)) : Calls Tryz.prog 10 #[.agg #[.int .i64 3, .slice A 3 c], .int .i64 0, .slice (some ⟨g, 0, none⟩) 3 3] (w.alloc (obj3 0 1 0)) fun e w' => ∃ A1 c1 A2 c2,
    e = .returned (.tuple #[.slice A1 3 c1, .slice A2 3 c2, .int .i64 0]) ∧ OwnI w' w.heap.size A1 c1 [0, 1, 0] ∧ Reads w' w'.heap.size 1 A2 3 (ints [0, 1, 1]) ∧ Below w.heap.size w w' := by
  subst hg
  have hb := kick_any 3 A c tri (by decide) 0 (some ⟨w.heap.size, 0, none⟩) 3 [0, 1, 0] (by decide) (w.alloc (obj3 0 1 0)) ((h.alloc (Nat.le_refl _) _).more (by simp)) (reads_lit w [0, 1, 0])
  refine hb.mono ?_
  rintro e w' ⟨ds, ss, er, A1, c1, A2, c2, hE, he, o1, r2, hb⟩
  obtain ⟨rfl, rfl, rfl⟩ := tri_kick hE
  exact ⟨A1, c1, A2, c2, he, o1.mono (by simp), r2, below_new hb⟩
end
/-- A literal of three slices. -/
abbrev objR (g : Nat) : Obj := .cells #[.slice (some ⟨g, 0, none⟩) 3 3, .slice (some ⟨g + 1, 0, none⟩) 3 3, .slice (some ⟨g + 2, 0, none⟩) 3 3] 26

set_option maxRecDepth 100000 in
set_option maxHeartbeats 4000000 in
theorem awake24_any (w : World) : Calls Tryz.prog 7 #[] w fun e w' => e = .returned (.bool true) ∧ Below w.heap.size w w' := by
  go_enter Tryz.func7, Tryz.ntmps7
  go_wp2_with fail
  refine (triangle24_any w).mono ?_
  rintro e w1 ⟨A, c, rfl, r1, b1⟩
  have g2 := Blk.new w1 24 #[.int .i64 3, .slice A 3 c]
  have c0 := g2.cell 0
  have c1 := g2.cell 1
  have r2 := (r1.alloc (Nat.le_refl _) (.cells #[.int .i64 3, .slice A 3 c] 24)).more (B' := (w1.alloc (.cells #[.int .i64 3, .slice A 3 c] 24)).heap.size) (by simp)
  have hB2 := b1.alloc b1.size (.cells #[.int .i64 3, .slice A 3 c] 24)
  go_wp2_with fail
  refine (t24_rec A c _ _ (by simp) r2).mono ?_
  rintro e w3 ⟨A1, c1, rfl, o1, b3⟩
  have c0 := (g2.next b3).cell 0
  have c1' := (g2.next b3).cell 1
  have g3 := g2.next b3
  have r3 := (r2.below b3).more b3.size
  have hB3 := hB2.trans (b3.mono hB2.size)
  clear g2 r2 b3 b1 r1
  go_wp2_with fail
  refine (t24_forb A c _ _ (by simp) r3).mono ?_
  rintro e w4 ⟨A4, c4, rfl, o4, b4⟩
  have c0 := (g3.next b4).cell 0
  have c1' := (g3.next b4).cell 1
  have g4 := g3.next b4
  have r4 := (r3.below b4).more b4.size
  have o1 := o1.next b4
  have hB4 := hB3.trans (b4.mono hB3.size)
  clear g3 r3 b4
  go_wp2_with fail
  refine (t24_all A c _ r4).mono ?_
  rintro e w5 ⟨A5, c5, rfl, r5a, b5⟩
  have c0 := (g4.next b5).cell 0
  have c1' := (g4.next b5).cell 1
  have g5 := g4.next b5
  have r5 := (r4.below b5).more b5.size
  have o1 := o1.next b5
  have o4 := o4.next b5
  have hB5 := hB4.trans (b5.mono hB4.size)
  clear g4 r4 b5
  go_wp2_with fail
  refine (t24_min A c _ r5).mono ?_
  rintro e w6 ⟨A6, c6, rfl, r6a, b6⟩
  have c0 := (g5.next b6).cell 0
  have c1' := (g5.next b6).cell 1
  have g6 := g5.next b6
  have r6 := (r5.below b6).more b6.size
  have o1 := o1.next b6
  have o4 := o4.next b6
  have r5a := (r5a.below b6).more b6.size
  have hB6 := hB5.trans (b6.mono hB5.size)
  clear g5 r5 b6
  go_wp2_with fail
  refine (t24_next A c _ _ (by simp) r6).mono ?_
  rintro e w7 ⟨A7, c7, rfl, o7, b7⟩
  have c0 := (g6.next b7).cell 0
  have c1' := (g6.next b7).cell 1
  have g7 := g6.next b7
  have r7 := (r6.below b7).more b7.size
  have o1 := o1.next b7
  have o4 := o4.next b7
  have r5a := (r5a.below b7).more b7.size
  have r6a := (r6a.below b7).more b7.size
  have hB7 := hB6.trans (b7.mono hB6.size)
  clear g6 r6 b7
  go_wp2_with fail
  refine (t24_kick A c _ _ (by simp) r7).mono ?_
  rintro e w8 ⟨A8, c8, A9, c9, rfl, o8, r9, b8⟩
  have o1 := o1.next b8
  have o4 := o4.next b8
  have r5a := (r5a.below b8).more b8.size
  have r6a := (r6a.below b8).more b8.size
  have o7 := o7.next b8
  have hB8 := hB7.trans (b8.mono hB7.size)
  clear g7 r7 b8
  obtain ⟨W, hW⟩ : ∃ W, (((w8.alloc (obj3 0 0 1)).alloc (obj3 0 1 0)).alloc (obj3 0 1 1)).alloc (objR w8.heap.size) = W := ⟨_, rfl⟩
  have bW : Below w8.heap.size w8 W := by rw [← hW]; exact ((((Below.refl _ _).alloc (Nat.le_refl _) _).alloc (by simp) _).alloc (by simp; omega) _).alloc (by simp; omega) _
  have o1 := o1.next bW
  have o4 := o4.next bW
  have r5a := (r5a.below bW).more bW.size
  have r6a := (r6a.below bW).more bW.size
  have o7 := o7.next bW
  have o8 := o8.next bW
  have r9 := (r9.below bW).more bW.size
  have hBW := hB8.trans (bW.mono hB8.size)
  have l1 : Blk W w8.heap.size 3 #[.int .i64 0, .int .i64 0, .int .i64 1] := by rw [← hW]; exact (((Blk.new_at rfl).alloc _).alloc _).alloc _
  have l2 : Blk W (w8.heap.size + 1) 3 #[.int .i64 0, .int .i64 1, .int .i64 0] := by rw [← hW]; exact ((Blk.new_at (by simp)).alloc _).alloc _
  have l3 : Blk W (w8.heap.size + 2) 3 #[.int .i64 0, .int .i64 1, .int .i64 1] := by rw [← hW]; exact (Blk.new_at (by simp)).alloc _
  have l4 : Blk W (w8.heap.size + 3) 26 #[.slice (some ⟨w8.heap.size, 0, none⟩) 3 3, .slice (some ⟨w8.heap.size + 1, 0, none⟩) 3 3, .slice (some ⟨w8.heap.size + 2, 0, none⟩) 3 3] := by rw [← hW]; exact Blk.new_at (by simp)
  have wantR : RowsR W W.heap.size (some ⟨w8.heap.size + 3, 0, none⟩) [[0, 0, 1], [0, 1, 0], [0, 1, 1]] := by
    refine ⟨[.slice (some ⟨w8.heap.size, 0, none⟩) 3 3, .slice (some ⟨w8.heap.size + 1, 0, none⟩) 3 3, .slice (some ⟨w8.heap.size + 2, 0, none⟩) 3 3], ⟨rfl, fun _ => ⟨_, 0, rfl, l4.lt, fun j u hu => ?_⟩⟩, fun i xs hx => ?_⟩
    · rw [Nat.zero_add, l4.cell j]; simpa using hu
    · have rd : ∀ {g : Nat} {a b d : Int}, Blk W g 3 #[.int .i64 a, .int .i64 b, .int .i64 d] → Reads W W.heap.size 1 (some ⟨g, 0, none⟩) 3 (ints [a, b, d]) := fun {g a b d} hl => ⟨rfl, fun _ => ⟨g, 0, rfl, hl.lt, fun j u hu => by rw [Nat.zero_add, hl.cell j]; simpa [ints] using hu⟩⟩
      match i with
      | 0 => injection hx with hx; subst hx; exact ⟨_, 3, rfl, rd l1⟩
      | 1 => injection hx with hx; subst hx; exact ⟨_, 3, rfl, rd l2⟩
      | 2 => injection hx with hx; subst hx; exact ⟨_, 3, rfl, rd l3⟩
      | i + 3 => cases hx
  have wantR2 : RowsR W W.heap.size (some ⟨w8.heap.size + 3, 0, none⟩) [[0, 0, 1], [0, 1, 0]] := by
    obtain ⟨vs, ⟨hv1, hv2⟩, hr⟩ := wantR
    refine ⟨vs.take 2, ⟨by rw [List.length_take, hv1]; rfl, fun _ => ?_⟩, fun i xs hx => ?_⟩
    · obtain ⟨b, off, e, hb, hc⟩ := hv2 (by decide)
      exact ⟨b, off, e, hb, fun j u hu => hc j u (by
        rw [List.getElem?_take] at hu
        split at hu
        · exact hu
        · cases hu)⟩
    · have hi : i < 2 := (List.getElem?_eq_some_iff.1 hx).1
      obtain ⟨A', c', h1, h2⟩ := hr i xs (by
        match i with
        | 0 => exact hx
        | 1 => exact hx)
      exact ⟨A', c', by rw [List.getElem?_take, if_pos hi]; exact h1, h2⟩
  clear bW l1 l2 l3 l4
  go_wp2_with fail
  refine (ieq3 A1 _ 0 1 2 W _ rfl o1.reads).mono ?_
  rintro e w10 ⟨rfl, b10⟩
  have o4 := o4.next b10
  have o7 := o7.next b10
  have o8 := o8.next b10
  have r9 := (r9.below b10).more b10.size
  have r5a := (r5a.below b10).more b10.size
  have r6a := (r6a.below b10).more b10.size
  have wantR := (wantR.below b10).more b10.size
  have wantR2 := (wantR2.below b10).more b10.size
  have hB10 := hBW.trans (b10.mono hBW.size)
  go_wp2_with fail
  refine (ieq2 A4 _ 1 2 w10 _ rfl o4.reads).mono ?_
  rintro e w11 ⟨rfl, b11⟩
  have o7 := o7.next b11
  have o8 := o8.next b11
  have r9 := (r9.below b11).more b11.size
  have r5a := (r5a.below b11).more b11.size
  have r6a := (r6a.below b11).more b11.size
  have wantR := (wantR.below b11).more b11.size
  have wantR2 := (wantR2.below b11).more b11.size
  have hB11 := hB10.trans (b11.mono hB10.size)
  go_wp2_with fail
  refine (rsameall_any A5 _ [[0, 0, 1], [0, 1, 0], [0, 1, 1]] _ _ [[0, 0, 1], [0, 1, 0], [0, 1, 1]] (by decide) (by decide) w11 _ r5a wantR).mono ?_
  rintro e w12 ⟨rfl, m12, rfl⟩
  go_wp2_with fail
  refine (rsameall_any A6 _ [[0, 0, 1], [0, 1, 0]] _ _ [[0, 0, 1], [0, 1, 0]] (by decide) (by decide) (w11.drewN m12) w11.heap.size r6a wantR2).mono ?_
  rintro e w13 ⟨rfl, m13, rfl⟩
  have hB13 : Below w.heap.size w ((w11.drewN m12).drewN m13) := ⟨hB11.os, hB11.tape, hB11.output, hB11.size, hB11.block⟩
  have o7 : OwnI ((w11.drewN m12).drewN m13) w6.heap.size A7 c7 [0, 1, 0] := o7
  have o8 : OwnI ((w11.drewN m12).drewN m13) w7.heap.size A8 c8 [0, 1, 0] := o8
  have r9 : Reads ((w11.drewN m12).drewN m13) ((w11.drewN m12).drewN m13).heap.size 1 A9 3 (ints [0, 1, 1]) := r9
  obtain ⟨w13, hw13⟩ : ∃ w13, (w11.drewN m12).drewN m13 = w13 := ⟨_, rfl⟩
  rw [hw13] at hB13 o7 o8 r9 ⊢
  clear hw13
  go_wp2_with fail
  refine (deq3 A7 _ 0 1 0 w13 _ rfl o7.reads).mono ?_
  rintro e w14 ⟨rfl, b14⟩
  have o8 := o8.next b14
  have r9 := (r9.below b14).more b14.size
  have hB14 := hB13.trans (b14.mono hB13.size)
  go_wp2_with fail
  refine (deq3 A8 _ 0 1 0 w14 _ rfl o8.reads).mono ?_
  rintro e w15 ⟨rfl, b15⟩
  have r9 := (r9.below b15).more b15.size
  have hB15 := hB14.trans (b15.mono hB14.size)
  go_wp2_with fail
  refine (seq3 A9 _ 0 1 1 w15 _ rfl r9).mono ?_
  rintro e w16 ⟨rfl, b16⟩
  go_wp2
  go_ret
  exact ⟨rfl, hB15.trans (b16.mono hB15.size)⟩
end Go.Proofs.YtplgbapbgcipdaaGreat

