/-
  The examples of chapter 23: awake.
-/
import Derived.Test.YthbannpmfdflaaaPush
import Derived.Test.YthbannpmfdflaaaDEqual
import Derived.Test.YthbannpmfdflaaaBurn
import Derived.Test.YthbannpmfdflaaaResults
import Derived.Test.YthbannpmfdflaaaPushE
import Derived.Test.YthbannpmfdflaaaBlocks
/-! The examples of the chapter on the triangle, as plain facts. -/
namespace Go.Proofs.Ythbannpmfdflaaa

/-- The triangle. -/
def tri : List E3 := [(0, 1, 1), (0, 2, 1), (1, 2, 1)]
theorem tri_err1 : burnErr 3 tri 0 [0, 1, 0] = 0 := by decide +kernel
theorem tri_err2 : burnErr 3 tri 0 [0, 1, 1] = 0 := by decide +kernel
theorem tri_err3 : burnErr 3 tri 0 [0, 3, 0] = 0 := by decide +kernel
theorem tri_burn1 : burntL tri [0, 1, 0] 3 0 = [0, 2, 1] := by decide +kernel
theorem tri_rest1 : restL 3 [0, 2, 1] = [] := by decide +kernel
theorem tri_burn2 : burntL tri [0, 1, 1] 3 0 = [0] := by decide +kernel
theorem tri_rest2 : restL 3 [0] = [1, 2] := by decide +kernel
theorem tri_blkE : blkErr 3 tri 0 [0, 1, 1] [1, 2] = 0 := by decide +kernel
theorem tri_blkB : blkB 3 tri 0 [0, 1, 1] [1, 2] = true := by decide +kernel
theorem tri_push : PushR tri 3 0 [0, 3, 0] [0, 0, 0] 0 (some ([0, 0, 0], [0, 2, 1])) := by
  refine .step (by decide +kernel) (by decide +kernel) ?_
  rw [show leftC tri 3 0 [0, 3, 0] = [1] from by decide +kernel, show stepC tri 3 0 [0, 3, 0] = [0, 1, 1] from by decide +kernel]
  refine .step (by decide +kernel) (by decide +kernel) ?_
  rw [show leftC tri 3 0 [0, 1, 1] = [1, 2] from by decide +kernel, show stepC tri 3 0 [0, 1, 1] = [0, 0, 0] from by decide +kernel]
  exact .done (by decide +kernel)
theorem tri_pushE : PushE 3 tri 0 [0, 3, 0] [0, 0, 0] [0, 2, 1] 0 := .inr ⟨tri_err3, _, tri_push, .inl ⟨rfl, rfl⟩⟩
end Go.Proofs.Ythbannpmfdflaaa

/-! The triangle of chapter 23, and its examples of Burn and Blocks. -/
namespace Go.Proofs.Ythbannpmfdflaaa
open Go.RowKit

theorem reads_lit (w : World) (xs : List Int) : Reads (w.alloc (.cells (ints xs).toArray 3)) (w.alloc (.cells (ints xs).toArray 3)).heap.size 1 (some ⟨w.heap.size, 0, none⟩) xs.length (ints xs) :=
  ⟨by simp [ints], fun _ => ⟨w.heap.size, 0, rfl, by simp, fun j u hu => by
    rw [Nat.zero_add, (Blk.new w 3 (ints xs).toArray).cell j]
    simpa using hu⟩⟩
theorem below_new {w w' : World} {o : Obj} (h : Below (w.alloc o).heap.size (w.alloc o) w') : Below w.heap.size w w' := ((Below.refl _ w).alloc (Nat.le_refl _) o).trans (h.mono (by simp))
/-- A literal of three ints, of two. -/
abbrev obj3 (a b c : Int) : Obj := .cells #[.int .i64 a, .int .i64 b, .int .i64 c] 3
abbrev obj2 (a b : Int) : Obj := .cells #[.int .i64 a, .int .i64 b] 3

set_option maxHeartbeats 1000000 in
theorem triangle_any (w : World) : Calls Try.prog 61 #[] w fun e w' => ∃ A c, e = .returned (.agg #[.int .i64 3, .slice A 3 c]) ∧ Reads w' w'.heap.size 3 A tri.length (edgeCells tri) ∧ Below w.heap.size w w' := by
  go_enter Try.func61, Try.ntmps61
  go_wp2
  refine bodyPost_ret (results_g rfl rfl ((Blk.new w 24 #[.int .i64 3, .slice (some ⟨w.heap.size + 1, 0, none⟩) 3 3]).alloc _) rfl) rfl ?_
  have hB := Blk.new (w.alloc (.cells #[.int .i64 3, .slice (some ⟨w.heap.size + 1, 0, none⟩) 3 3] 24)) 130 (edgeCells tri).toArray
  rw [show (w.alloc (.cells #[.int .i64 3, .slice (some ⟨w.heap.size + 1, 0, none⟩) 3 3] 24)).heap.size = w.heap.size + 1 from by simp] at hB
  refine ⟨some ⟨w.heap.size + 1, 0, none⟩, 3, rfl, ⟨by simp [edgeCells_length], fun _ => ⟨w.heap.size + 1, 0, rfl, by simp, fun j u hu => ?_⟩⟩, ((Below.refl _ _).alloc (Nat.le_refl _) _).alloc (by simp) _⟩
  rw [Nat.zero_add]
  refine (hB.cell j).trans ?_
  rw [← hu, List.getElem?_toArray]

section
variable (A : Option Addr) (c : Nat)
theorem tri_b1 (w : World) (g : Nat) (hg : g = w.heap.size) (h : Reads w w.heap.size 3 A tri.length (edgeCells tri)) : Calls Try.prog 19 #[.agg #[.int .i64 3, .slice A 3 c], .int .i64 0, .slice (some ⟨g, 0, none⟩) 3 3] (w.alloc (obj3 0 1 0)) fun e w' => ∃ A1 c1 A2 c2,
    e = .returned (.tuple #[.slice A1 3 c1, .slice A2 0 c2, .int .i64 0]) ∧ OwnI w' w.heap.size A1 c1 [0, 2, 1] ∧ Below w.heap.size w w' := by
  subst hg
  have hb := burn_ok 3 A c tri (by decide) 0 (some ⟨w.heap.size, 0, none⟩) 3 [0, 1, 0] (by decide) tri_err1 (w.alloc (obj3 0 1 0)) ((h.alloc (Nat.le_refl _) _).more (by simp)) (reads_lit w [0, 1, 0])
  rw [tri_burn1, tri_rest1] at hb
  exact hb.mono fun e w' ⟨A1, c1, A2, c2, he, o1, _, hb⟩ => ⟨A1, c1, A2, c2, he, o1.mono (by simp), below_new hb⟩
theorem tri_b2 (w : World) (g : Nat) (hg : g = w.heap.size) (h : Reads w w.heap.size 3 A tri.length (edgeCells tri)) : Calls Try.prog 19 #[.agg #[.int .i64 3, .slice A 3 c], .int .i64 0, .slice (some ⟨g, 0, none⟩) 3 3] (w.alloc (obj3 0 1 1)) fun e w' => ∃ A1 c1 A2 c2,
    e = .returned (.tuple #[.slice A1 1 c1, .slice A2 2 c2, .int .i64 0]) ∧ OwnI w' w.heap.size A2 c2 [1, 2] ∧ Below w.heap.size w w' := by
  subst hg
  have hb := burn_ok 3 A c tri (by decide) 0 (some ⟨w.heap.size, 0, none⟩) 3 [0, 1, 1] (by decide) tri_err2 (w.alloc (obj3 0 1 1)) ((h.alloc (Nat.le_refl _) _).more (by simp)) (reads_lit w [0, 1, 1])
  rw [tri_burn2, tri_rest2] at hb
  exact hb.mono fun e w' ⟨A1, c1, A2, c2, he, _, o2, hb⟩ => ⟨A1, c1, A2, c2, he, o2.mono (by simp), below_new hb⟩
theorem tri_bl (w : World) (g : Nat) (hg : g = w.heap.size) (h : Reads w w.heap.size 3 A tri.length (edgeCells tri)) : Calls Try.prog 21 #[.agg #[.int .i64 3, .slice A 3 c], .int .i64 0, .slice (some ⟨g, 0, none⟩) 3 3, .slice (some ⟨g + 1, 0, none⟩) 2 2] ((w.alloc (obj3 0 1 1)).alloc (obj2 1 2)) fun e w' =>
    e = .returned (.tuple #[.bool true, .int .i64 0]) ∧ Below w.heap.size w w' := by
  subst hg
  have hl := reads_lit (w.alloc (obj3 0 1 1)) [1, 2]
  rw [show (w.alloc (obj3 0 1 1)).heap.size = w.heap.size + 1 from by simp] at hl
  have hb := blocks_any 3 A c tri (by decide) 0 (some ⟨w.heap.size, 0, none⟩) 3 [0, 1, 1] (by decide) (some ⟨w.heap.size + 1, 0, none⟩) 2 [1, 2] (by decide) ((w.alloc (obj3 0 1 1)).alloc (obj2 1 2)) (((h.alloc (Nat.le_refl _) _).alloc (by simp) _).more (by simp; omega)) (((reads_lit w [0, 1, 1]).alloc (Nat.le_refl _) (obj2 1 2)).more (by simp)) hl
  rw [tri_blkB, tri_blkE] at hb
  exact hb.mono fun e w' ⟨he, hb⟩ => ⟨he, below_new (below_new hb)⟩
end
end Go.Proofs.Ythbannpmfdflaaa

namespace Go.Proofs.Ythbannpmfdflaaa
open Go.RowKit

section
variable (A : Option Addr) (c : Nat)
theorem tri_pu (w : World) (g : Nat) (hg : g = w.heap.size) (h : Reads w w.heap.size 3 A tri.length (edgeCells tri)) : Calls Try.prog 15 #[.agg #[.int .i64 3, .slice A 3 c], .int .i64 0, .slice (some ⟨g, 0, none⟩) 3 3] (w.alloc (obj3 0 3 0)) fun e w' => ∃ A1 c1 A2 c2,
    e = .returned (.tuple #[.slice A1 3 c1, .slice A2 3 c2, .int .i64 0]) ∧ OwnI w' w.heap.size A1 c1 [0, 0, 0] ∧ OwnI w' w.heap.size A2 c2 [0, 2, 1] ∧ Below w.heap.size w w' := by
  subst hg
  have hb := push_any 3 A c tri (by decide) 0 (some ⟨w.heap.size, 0, none⟩) 3 [0, 3, 0] [0, 0, 0] [0, 2, 1] 0 (by decide) tri_pushE (w.alloc (obj3 0 3 0)) ((h.alloc (Nat.le_refl _) _).more (by simp)) (reads_lit w [0, 3, 0])
  exact hb.mono fun e w' ⟨A1, c1, A2, c2, he, o1, o2, hb⟩ => ⟨A1, c1, A2, c2, he, o1.mono (by simp), o2.mono (by simp), below_new hb⟩
end

theorem ieq3 (A : Option Addr) (c : Nat) (a b d : Int) (w : World) (g : Nat) (hg : g = w.heap.size) (h : Reads w w.heap.size 1 A 3 (ints [a, b, d])) :
    Calls Try.prog 43 #[.slice A 3 c, .slice (some ⟨g, 0, none⟩) 3 3] (w.alloc (obj3 a b d)) fun e w' => e = .returned (.bool true) ∧ Below w.heap.size w w' := by
  subst hg
  have h := iequal_any A c [a, b, d] (some ⟨w.heap.size, 0, none⟩) 3 [a, b, d] (by simp) (w.alloc (obj3 a b d)) ((h.alloc (Nat.le_refl _) _).more (by simp)) (reads_lit w [a, b, d])
  exact h.mono fun e w' ⟨he, hb⟩ => ⟨by simpa using he, below_new hb⟩
theorem ieq2 (A : Option Addr) (c : Nat) (a b : Int) (w : World) (g : Nat) (hg : g = w.heap.size) (h : Reads w w.heap.size 1 A 2 (ints [a, b])) :
    Calls Try.prog 43 #[.slice A 2 c, .slice (some ⟨g, 0, none⟩) 2 2] (w.alloc (obj2 a b)) fun e w' => e = .returned (.bool true) ∧ Below w.heap.size w w' := by
  subst hg
  have h := iequal_any A c [a, b] (some ⟨w.heap.size, 0, none⟩) 2 [a, b] (by simp) (w.alloc (obj2 a b)) ((h.alloc (Nat.le_refl _) _).more (by simp)) (reads_lit w [a, b])
  exact h.mono fun e w' ⟨he, hb⟩ => ⟨by simpa using he, below_new hb⟩
theorem deq3 (A : Option Addr) (c : Nat) (a b d : Int) (w : World) (g : Nat) (hg : g = w.heap.size) (h : Reads w w.heap.size 1 A 3 (ints [a, b, d])) :
    Calls Try.prog 41 #[.slice A 3 c, .slice (some ⟨g, 0, none⟩) 3 3] (w.alloc (obj3 a b d)) fun e w' => e = .returned (.bool true) ∧ Below w.heap.size w w' := by
  subst hg
  have h := dequal_any A c [a, b, d] (some ⟨w.heap.size, 0, none⟩) 3 [a, b, d] (by simp) (w.alloc (obj3 a b d)) ((h.alloc (Nat.le_refl _) _).more (by simp)) (reads_lit w [a, b, d])
  exact h.mono fun e w' ⟨he, hb⟩ => ⟨by simpa using he, below_new hb⟩
theorem seq3 (A : Option Addr) (c : Nat) (a b d : Int) (w : World) (g : Nat) (hg : g = w.heap.size) (h : Reads w w.heap.size 1 A 3 (ints [a, b, d])) :
    Calls Try.prog 62 #[.slice A 3 c, .slice (some ⟨g, 0, none⟩) 3 3] (w.alloc (obj3 a b d)) fun e w' => e = .returned (.bool true) ∧ Below w.heap.size w w' := by
  subst hg
  have h := sequal_any A c [a, b, d] (some ⟨w.heap.size, 0, none⟩) 3 [a, b, d] (by simp) (w.alloc (obj3 a b d)) ((h.alloc (Nat.le_refl _) _).more (by simp)) (reads_lit w [a, b, d])
  exact h.mono fun e w' ⟨he, hb⟩ => ⟨by simpa using he, below_new hb⟩

set_option maxRecDepth 100000 in
set_option maxHeartbeats 2000000 in
theorem awake_any (w : World) : Calls Try.prog 14 #[] w fun e w' => e = .returned (.bool true) ∧ Below w.heap.size w w' := by
  go_enter Try.func14, Try.ntmps14
  go_wp2_with fail
  refine (triangle_any w).mono ?_
  rintro e w1 ⟨A, c, rfl, r1, b1⟩
  have g2 := Blk.new w1 24 #[.int .i64 3, .slice A 3 c]
  have c0 := g2.cell 0
  have c1 := g2.cell 1
  have r2 := (r1.alloc (Nat.le_refl _) (.cells #[.int .i64 3, .slice A 3 c] 24)).more (B' := (w1.alloc (.cells #[.int .i64 3, .slice A 3 c] 24)).heap.size) (by simp)
  have hB2 := b1.alloc b1.size (.cells #[.int .i64 3, .slice A 3 c] 24)
  go_wp2_with fail
  refine (tri_b1 A c _ _ (by simp) r2).mono ?_
  rintro e w3 ⟨A1, c1, A2, c2, rfl, o1, b3⟩
  have c0 := (g2.next b3).cell 0
  have c1' := (g2.next b3).cell 1
  have g3 := g2.next b3
  have r3 := r2.next b3
  have hB3 := hB2.trans (b3.mono hB2.size)
  clear g2 r2 b3 b1 r1
  go_wp2_with fail
  refine (tri_b2 A c _ _ (by simp) r3).mono ?_
  rintro e w4 ⟨A3, c3, A4, c4, rfl, o4, b4⟩
  have c0 := (g3.next b4).cell 0
  have c1' := (g3.next b4).cell 1
  have g4 := g3.next b4
  have r4 := r3.next b4
  have o1 := o1.next b4
  have hB4 := hB3.trans (b4.mono hB3.size)
  clear g3 r3 b4
  go_wp2_with fail
  refine (tri_bl A c _ _ (by simp) r4).mono ?_
  rintro e w5 ⟨rfl, b5⟩
  have c0 := (g4.next b5).cell 0
  have c1' := (g4.next b5).cell 1
  have g5 := g4.next b5
  have r5 := r4.next b5
  have o1 := o1.next b5
  have o4 := o4.next b5
  have hB5 := hB4.trans (b5.mono hB4.size)
  clear g4 r4 b5
  go_wp2_with fail
  refine (tri_pu A c _ _ (by simp) r5).mono ?_
  rintro e w6 ⟨A6, c6, A7, c7, rfl, o6, o7, b6⟩
  have o1 := o1.next b6
  have o4 := o4.next b6
  have hB6 := hB5.trans (b6.mono hB5.size)
  clear g5 r5 b6
  go_wp2_with fail
  refine (ieq3 A1 _ 0 2 1 w6 _ rfl o1.reads).mono ?_
  rintro e w8 ⟨rfl, b8⟩
  have o4 := o4.next b8
  have o6 := o6.next b8
  have o7 := o7.next b8
  have hB8 := hB6.trans (b8.mono hB6.size)
  go_wp2_with fail
  refine (ieq2 A4 _ 1 2 w8 _ rfl o4.reads).mono ?_
  rintro e w9 ⟨rfl, b9⟩
  have o6 := o6.next b9
  have o7 := o7.next b9
  have hB9 := hB8.trans (b9.mono hB8.size)
  go_wp2_with fail
  refine (deq3 A6 _ 0 0 0 w9 _ rfl o6.reads).mono ?_
  rintro e w10 ⟨rfl, b10⟩
  have o7 := o7.next b10
  have hB10 := hB9.trans (b10.mono hB9.size)
  go_wp2_with fail
  refine (seq3 A7 _ 0 2 1 w10 _ rfl o7.reads).mono ?_
  rintro e w11 ⟨rfl, b11⟩
  go_wp2
  go_ret
  exact ⟨rfl, hB10.trans (b11.mono hB10.size)⟩
end Go.Proofs.Ythbannpmfdflaaa
