/-
  The examples of the chapter: awake.
-/
import Derived.Test.YtjeggocindcgaaaPark3
import Derived.Test.YtjeggocindcgaaaList
namespace Go.Proofs.Ytjeggocindcgaaa
open Go.RowKit

theorem Reads.lit (w : World) (xs : List Int) : Reads (w.alloc (.cells (ints xs).toArray 3)) (w.alloc (.cells (ints xs).toArray 3)).heap.size 1 (some ⟨w.heap.size, 0, none⟩) xs.length (ints xs) :=
  ⟨by simp [ints], fun _ => ⟨w.heap.size, 0, rfl, by simp, fun j u hu => by
    rw [Nat.zero_add, (Blk.new w 3 (ints xs).toArray).cell j]
    simpa using hu⟩⟩
/-- A literal of ints. -/
abbrev lit3 (a b c : Int) : Obj := .cells #[.int .i64 a, .int .i64 b, .int .i64 c] 3
abbrev lit2 (a b : Int) : Obj := .cells #[.int .i64 a, .int .i64 b] 3
theorem below_lit {w w' : World} {o : Obj} (h : Below (w.alloc o).heap.size (w.alloc o) w') : Below w.heap.size w w' := ((Below.refl _ w).alloc (Nat.le_refl _) o).trans (h.mono (by simp))

theorem ex_park1 (w : World) : Calls Try.prog 26 #[.slice (some ⟨w.heap.size, 0, none⟩) 3 3] (w.alloc (lit3 1 0 1)) fun e w' =>
    ∃ A c, e = .returned (.tuple #[.slice A 3 c, .int .i64 3, .int .i64 0]) ∧ OwnI w' w.heap.size A c [1, 0, 2] ∧ Below w.heap.size w w' := by
  have h := park_ok (some ⟨w.heap.size, 0, none⟩) 3 [1, 0, 1] (by decide) (w.alloc (lit3 1 0 1)) (Reads.lit w [1, 0, 1])
  rw [show parkedS [1, 0, 1] = [1, 0, 2] from by decide] at h
  exact h.mono fun e w' ⟨A, c, he, ho, hb⟩ => ⟨A, c, he, ho.mono (by simp), below_lit hb⟩
theorem ex_lucky (w : World) : Calls Try.prog 12 #[.slice (some ⟨w.heap.size, 0, none⟩) 3 3] (w.alloc (lit3 1 0 1)) fun e w' =>
    ∃ A c, e = .returned (.tuple #[.slice A 2 c, .int .i64 0]) ∧ OwnI w' w.heap.size A c [0, 1] ∧ Below w.heap.size w w' := by
  have h := lucky_any (some ⟨w.heap.size, 0, none⟩) 3 [1, 0, 1] (w.alloc (lit3 1 0 1)) (Reads.lit w [1, 0, 1])
  rw [show luckyS [1, 0, 1] = ([0, 1], 0) from by decide] at h
  exact h.mono fun e w' ⟨A, c, he, ho, hb⟩ => ⟨A, c, he, ho.mono (by simp), below_lit hb⟩
theorem ex_disp (w : World) : Calls Try.prog 14 #[.slice (some ⟨w.heap.size, 0, none⟩) 3 3] (w.alloc (lit3 1 0 1)) fun e w' =>
    e = .returned (.tuple #[.int .i64 1, .int .i64 0]) ∧ Below w.heap.size w w' := by
  have h := disp_any (some ⟨w.heap.size, 0, none⟩) 3 [1, 0, 1] (w.alloc (lit3 1 0 1)) (Reads.lit w [1, 0, 1])
  rw [show dispS [1, 0, 1] = (1, 0) from by decide] at h
  exact h.mono fun e w' ⟨he, hb⟩ => ⟨he, below_lit hb⟩
theorem ex_park2 (w : World) : Calls Try.prog 26 #[.slice (some ⟨w.heap.size, 0, none⟩) 3 3] (w.alloc (lit3 1 1 1)) fun e w' =>
    ∃ A c, e = .returned (.tuple #[.slice A 2 c, .int .i64 2, .int .i64 0]) ∧ OwnI w' w.heap.size A c [1, 2] ∧ Below w.heap.size w w' := by
  have h := park_ok (some ⟨w.heap.size, 0, none⟩) 3 [1, 1, 1] (by decide) (w.alloc (lit3 1 1 1)) (Reads.lit w [1, 1, 1])
  rw [show parkedS [1, 1, 1] = [1, 2] from by decide] at h
  exact h.mono fun e w' ⟨A, c, he, ho, hb⟩ => ⟨A, c, he, ho.mono (by simp), below_lit hb⟩
theorem ex_all (w : World) : Calls Try.prog 20 #[.int .i64 2] w fun e w' =>
    ∃ A c vs, e = .returned (.tuple #[.slice A 3 c, .int .i64 0]) ∧ OwnRows w' w.heap.size A c vs [[0, 0], [0, 1], [1, 0]] ∧ Below w.heap.size w w' :=
  pall_any 2 (by decide) [[0, 0], [0, 1], [1, 0]] (by decide) (by decide) w
theorem ex_prim (w : World) : Calls Try.prog 21 #[.int .i64 3] w fun e w' => ∃ A c, e = .returned (.tuple #[.slice A 5 c, .int .i64 0]) ∧ Below w.heap.size w w' :=
  (pprim_any 3 (by decide) [[0, 0, 0], [0, 0, 1], [0, 0, 2], [0, 1, 1], [0, 1, 2]] (by decide) (by decide) w).mono fun _ _ ⟨A, c, _, he, _, hb⟩ => ⟨A, c, he, hb⟩
theorem ex_count (w : World) : Calls Try.prog 17 #[.int .i64 3] w fun e w' => e = .returned (.tuple #[.int .i64 16, .int .i64 0]) ∧ w = w' := by
  have h := count_any 3 w
  rwa [show countS 3 = (16, 0) from by decide] at h
theorem ex_rot (w : World) : Calls Try.prog 31 #[.slice (some ⟨w.heap.size, 0, none⟩) 2 2] (w.alloc (lit2 2 2)) fun e w' =>
    e = .returned (.tuple #[.int .i64 1, .int .i64 0]) ∧ Below w.heap.size w w' := by
  have h := rotation_any (some ⟨w.heap.size, 0, none⟩) 2 [2, 2] (w.alloc (lit2 2 2)) (Reads.lit w [2, 2])
  rw [show rotS [2, 2] = (1, 0) from by decide] at h
  exact h.mono fun e w' ⟨he, hb⟩ => ⟨he, below_lit hb⟩
theorem ex_equal3 (A : Option Addr) (c : Nat) (a b d : Int) (w : World) (h : Reads w w.heap.size 1 A 3 (ints [a, b, d])) :
    Calls Try.prog 16 #[.slice A 3 c, .slice (some ⟨w.heap.size, 0, none⟩) 3 3] (w.alloc (lit3 a b d)) fun e w' => e = .returned (.bool true) ∧ Below w.heap.size w w' := by
  have h := equal_any A c [a, b, d] (some ⟨w.heap.size, 0, none⟩) 3 [a, b, d] (by simp) (w.alloc (lit3 a b d)) ((h.alloc (Nat.le_refl _) _).more (by simp)) (Reads.lit w [a, b, d])
  exact h.mono fun e w' ⟨he, hb⟩ => ⟨by simpa using he, below_lit hb⟩
theorem ex_equal2 (A : Option Addr) (c : Nat) (a b : Int) (w : World) (h : Reads w w.heap.size 1 A 2 (ints [a, b])) :
    Calls Try.prog 16 #[.slice A 2 c, .slice (some ⟨w.heap.size, 0, none⟩) 2 2] (w.alloc (lit2 a b)) fun e w' => e = .returned (.bool true) ∧ Below w.heap.size w w' := by
  have h := equal_any A c [a, b] (some ⟨w.heap.size, 0, none⟩) 2 [a, b] (by simp) (w.alloc (lit2 a b)) ((h.alloc (Nat.le_refl _) _).more (by simp)) (Reads.lit w [a, b])
  exact h.mono fun e w' ⟨he, hb⟩ => ⟨by simpa using he, below_lit hb⟩

abbrev litRows (g : Nat) : Obj := .cells #[.slice (some ⟨g, 0, none⟩) 2 2, .slice (some ⟨g + 1, 0, none⟩) 2 2, .slice (some ⟨g + 1 + 1, 0, none⟩) 2 2] 22
theorem ex_lists (A : Option Addr) (c : Nat) (w : World) (h : RowsR w w.heap.size A [[0, 0], [0, 1], [1, 0]]) :
    Calls Try.prog 22 #[.slice A 3 c, .slice (some ⟨w.heap.size + 1 + 1 + 1, 0, none⟩) 3 3] ((((w.alloc (lit2 0 0)).alloc (lit2 0 1)).alloc (lit2 1 0)).alloc (litRows w.heap.size)) fun e w' => e = .returned (.bool true) ∧ Below w.heap.size w w' := by
  have hb : Below w.heap.size w ((((w.alloc (lit2 0 0)).alloc (lit2 0 1)).alloc (lit2 1 0)).alloc (litRows w.heap.size)) := ((((Below.refl _ _).alloc (Nat.le_refl _) _).alloc (by simp) _).alloc (by simp; omega) _).alloc (by simp; omega) _
  have hsz : ((((w.alloc (lit2 0 0)).alloc (lit2 0 1)).alloc (lit2 1 0)).alloc (litRows w.heap.size)).heap.size = w.heap.size + 1 + 1 + 1 + 1 := by simp
  have hr : RowsR ((((w.alloc (lit2 0 0)).alloc (lit2 0 1)).alloc (lit2 1 0)).alloc (litRows w.heap.size)) (w.heap.size + 1 + 1 + 1 + 1) (some ⟨w.heap.size + 1 + 1 + 1, 0, none⟩) [[0, 0], [0, 1], [1, 0]] := by
    refine ⟨[.slice (some ⟨w.heap.size, 0, none⟩) 2 2, .slice (some ⟨w.heap.size + 1, 0, none⟩) 2 2, .slice (some ⟨w.heap.size + 1 + 1, 0, none⟩) 2 2], ⟨rfl, fun _ => ⟨_, 0, rfl, by omega, fun j u hu => ?_⟩⟩, ?_⟩
    · have hB := Blk.new (((w.alloc (lit2 0 0)).alloc (lit2 0 1)).alloc (lit2 1 0)) 22 #[.slice (some ⟨w.heap.size, 0, none⟩) 2 2, .slice (some ⟨w.heap.size + 1, 0, none⟩) 2 2, .slice (some ⟨w.heap.size + 1 + 1, 0, none⟩) 2 2]
      have e : (((w.alloc (lit2 0 0)).alloc (lit2 0 1)).alloc (lit2 1 0)).heap.size = w.heap.size + 1 + 1 + 1 := by simp
      rw [e] at hB
      rw [Nat.zero_add, hB.cell j]
      simpa using hu
    · have r0 : Reads ((((w.alloc (lit2 0 0)).alloc (lit2 0 1)).alloc (lit2 1 0)).alloc (litRows w.heap.size)) (w.heap.size + 1 + 1 + 1 + 1) 1 (some ⟨w.heap.size, 0, none⟩) 2 (ints [0, 0]) :=
        ((((Reads.lit w [0, 0]).alloc (Nat.le_refl _) _).alloc (by simp) _).alloc (by simp <;> omega) _).more (by simp <;> omega)
      have r1 : Reads ((((w.alloc (lit2 0 0)).alloc (lit2 0 1)).alloc (lit2 1 0)).alloc (litRows w.heap.size)) (w.heap.size + 1 + 1 + 1 + 1) 1 (some ⟨w.heap.size + 1, 0, none⟩) 2 (ints [0, 1]) := by
        have := (((Reads.lit (w.alloc (lit2 0 0)) [0, 1]).alloc (Nat.le_refl _) (lit2 1 0)).alloc (by simp) (litRows w.heap.size)).more (B' := w.heap.size + 1 + 1 + 1 + 1) (by simp <;> omega)
        rw [show (w.alloc (lit2 0 0)).heap.size = w.heap.size + 1 from by simp] at this
        exact this
      have r2 : Reads ((((w.alloc (lit2 0 0)).alloc (lit2 0 1)).alloc (lit2 1 0)).alloc (litRows w.heap.size)) (w.heap.size + 1 + 1 + 1 + 1) 1 (some ⟨w.heap.size + 1 + 1, 0, none⟩) 2 (ints [1, 0]) := by
        have := ((Reads.lit ((w.alloc (lit2 0 0)).alloc (lit2 0 1)) [1, 0]).alloc (Nat.le_refl _) (litRows w.heap.size)).more (B' := w.heap.size + 1 + 1 + 1 + 1) (by simp <;> omega)
        rw [show ((w.alloc (lit2 0 0)).alloc (lit2 0 1)).heap.size = w.heap.size + 1 + 1 from by simp] at this
        exact this
      intro i xs hi
      match i, hi with
      | 0, hi => injection hi with hi; subst hi; exact ⟨_, 2, rfl, r0⟩
      | 1, hi => injection hi with hi; subst hi; exact ⟨_, 2, rfl, r1⟩
      | 2, hi => injection hi with hi; subst hi; exact ⟨_, 2, rfl, r2⟩
      | n + 3, hi => simp at hi
  have h1 := (h.below hb).more (B' := w.heap.size + 1 + 1 + 1 + 1) (by omega)
  have h2 := rsamelists_any A c [[0, 0], [0, 1], [1, 0]] (some ⟨w.heap.size + 1 + 1 + 1, 0, none⟩) 3 [[0, 0], [0, 1], [1, 0]] (by decide) (by decide) _ _ h1 hr
  exact h2.mono fun e w' ⟨he, m, hw⟩ => ⟨by simpa using he, by rw [hw]; exact below_drewN hb m⟩

set_option maxRecDepth 100000 in
set_option maxHeartbeats 2000000 in
theorem awake_any (w : World) : Calls Try.prog 11 #[] w fun e w' => e = .returned (.bool true) ∧ Below w.heap.size w w' := by
  go_enter Try.func11, Try.ntmps11
  go_wp2_with fail
  refine (ex_park1 w).mono ?_
  rintro e w1 ⟨A1, c1, rfl, o1, b1⟩
  go_wp2_with fail
  refine (ex_lucky w1).mono ?_
  rintro e w2 ⟨A2, c2, rfl, o2, b2⟩
  go_wp2_with fail
  refine (ex_disp w2).mono ?_
  rintro e w3 ⟨rfl, b3⟩
  go_wp2_with fail
  refine (ex_park2 w3).mono ?_
  rintro e w4 ⟨A4, c4, rfl, o4, b4⟩
  go_wp2_with fail
  refine (ex_all w4).mono ?_
  rintro e w5 ⟨A5, c5, vs5, rfl, o5, b5⟩
  go_wp2_with fail
  refine (ex_prim w5).mono ?_
  rintro e w6 ⟨A6, c6, rfl, b6⟩
  go_wp2_with fail
  refine (ex_count w6).mono ?_
  rintro e w' ⟨rfl, rfl⟩
  go_wp2_with fail
  refine (ex_rot w6).mono ?_
  rintro e w7 ⟨rfl, b7⟩
  go_wp2_with fail
  have n1 := (((((o1.next b2).next b3).next b4).next b5).next b6).next b7
  have n2 := ((((o2.next b3).next b4).next b5).next b6).next b7
  have n4 := ((o4.next b5).next b6).next b7
  have n5 := (o5.next b6).next b7
  have hB7 : Below w.heap.size w w7 := by
    have h2 := b1.trans (b2.mono b1.size)
    have h3 := h2.trans (b3.mono h2.size)
    have h4 := h3.trans (b4.mono h3.size)
    have h5 := h4.trans (b5.mono h4.size)
    have h6 := h5.trans (b6.mono h5.size)
    exact h6.trans (b7.mono h6.size)
  clear o1 o2 o4 o5 b1 b2 b3 b4 b5 b6 b7
  refine (ex_equal3 A1 c1 1 0 2 w7 n1.reads).mono ?_
  rintro e w8 ⟨rfl, b8⟩
  go_wp2_with fail
  refine (ex_equal2 A2 c2 0 1 w8 (n2.next b8).reads).mono ?_
  rintro e w9 ⟨rfl, b9⟩
  go_wp2_with fail
  refine (ex_equal2 A4 c4 1 2 w9 ((n4.next b8).next b9).reads).mono ?_
  rintro e w10 ⟨rfl, b10⟩
  have m5 := ((n5.next b8).next b9).next b10
  go_wp2_with fail
  refine (ex_lists A5 c5 w10 m5.reads).mono ?_
  rintro e w11 ⟨rfl, b11⟩
  go_wp2
  go_ret
  have h8 := hB7.trans (b8.mono hB7.size)
  have h9 := h8.trans (b9.mono h8.size)
  have h10 := h9.trans (b10.mono h9.size)
  exact ⟨rfl, h10.trans (b11.mono h10.size)⟩
end Go.Proofs.Ytjeggocindcgaaa
