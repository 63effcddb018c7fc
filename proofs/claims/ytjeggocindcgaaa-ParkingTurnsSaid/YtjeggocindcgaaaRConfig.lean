/-
  ref29.Config.
-/
import Derived.Test.YtjeggocindcgaaaMade
import Derived.Test.YtjeggocindcgaaaParkingTells
namespace Go.Proofs.Ytjeggocindcgaaa
open Go.RowKit

theorem taken_err (xs : List Int) : (takenS xs).2 = givenR xs := by
  rw [taken_given]
  by_cases h : givenR xs = 0 <;> simp [h]

set_option maxRecDepth 100000 in
set_option maxHeartbeats 1000000 in
theorem rconfig_ok (A : Option Addr) (c : Nat) (xs : List Int) (hok : givenR xs = 0) (w : World) (h : Reads w w.heap.size 1 A xs.length (ints xs)) :
    Calls Try.prog 34 #[.slice A xs.length c] w fun e w' =>
      ∃ A1 c1 A2 c2, e = .returned (.tuple #[.agg #[.int .i64 ((xs.length : Int) + 1), .slice A1 (compl (xs.length + 1)).length c1], .slice A2 (0 :: xs).length c2, .int .i64 0]) ∧
        OwnE w' w.heap.size A1 c1 (compl (xs.length + 1)) ∧ OwnI w' w.heap.size A2 c2 (0 :: xs) ∧ Below w.heap.size w w' := by
  obtain ⟨hn, _⟩ := within_zero (givenR_zero hok)
  have e1 : ((xs.length + 1 : Nat) : Int) = (xs.length : Int) + 1 := by omega
  have HM := fun c A w h => rmade3_any (xs.length + 1) c (by omega) (by omega) A w h
  simp only [e1] at HM
  have hg := fun w h => rgiven_any A c xs w h
  simp only [hok] at hg
  have HM := Lib.hid HM
  have HG := Lib.hid hg
  clear hg e1
  have hra := h.next ((Below.refl w.heap.size w).alloc (Nat.le_refl _) (.cells #[.int .i64 0, .slice none 0 0] 52))
  have hl4 : 1 + xs.length ≤ 1048576 := by omega
  have hbx : Reads ((w.alloc (.cells #[.int .i64 0, .slice none 0 0] 52)).alloc (.cells #[.int .i64 ((xs.length : Int) + 1)] 3)) ((w.alloc (.cells #[.int .i64 0, .slice none 0 0] 52)).alloc (.cells #[.int .i64 ((xs.length : Int) + 1)] 3)).heap.size 1 (some ⟨w.heap.size + 1, 0, none⟩) 1 (ints [(xs.length : Int) + 1]) := by
    simpa [ints] using Reads.box (w.alloc (.cells #[.int .i64 0, .slice none 0 0] 52)) (.int .i64 ((xs.length : Int) + 1)) 3
  go_enter Try.func34, Try.ntmps34
  go_wp2_with first
    | (go_at_call 46; refine (HG.out _ hra).mono ?_; rintro e w0 ⟨rfl, rfl⟩)
    | (go_at_call 61; refine (HM.out _ _ _ hbx).mono ?_; rintro e w1 ⟨A1, c1, rfl, hown1, hb1⟩
       have gB1 : Below w.heap.size w w1 := (((Below.refl _ _).alloc (Nat.le_refl _) _).alloc (by simp) _).trans (hb1.mono (by simp; omega))
       have hz1 : w.heap.size < w1.heap.size := Nat.lt_of_lt_of_le (by simp; omega) hb1.size
       have g1 : Blk w1 w.heap.size 52 #[.int .i64 0, .slice none 0 0] := ((Blk.new w 52 #[.int .i64 0, .slice none 0 0]).alloc _).next hb1
       have hown0 : (w1.alloc (.cells #[.int .i64 0] 3)).ownsRow w1.heap.size 3 1 (.slice (some ⟨w1.heap.size, 0, none⟩) 1 1) 1 [.int .i64 0] := OwnI.of_blk (l := [0]) (Blk.new w1 3 (intCells [0])) (Nat.le_refl _) (by decide)
       have hr3 : Reads (w1.alloc (.cells #[.int .i64 0] 3)) w.heap.size 1 A xs.length (ints xs) := h.below (gB1.alloc (Nat.le_of_lt hz1) _)
       have hz4 : w1.heap.size ≤ (w1.alloc (.cells #[.int .i64 0] 3)).heap.size := by simp)
    | (at_builtin; refine append_go2 rfl (.tmp 17) (.tmp 18) _ _ rfl w1.heap.size 3 3 Try.underlying53 Try.underlying22 info_int rfl (by omega) (some ⟨w1.heap.size, 0, none⟩) 1 1 [.int .i64 0] rfl hown0 w.heap.size (ints xs) rfl hr3 ints_one hl4 hz4 ?_; intro A4 c4 w4 hown4 hg4 hb4 _
       have gB4 : Below w1.heap.size w1 w4 := ((Below.refl _ _).alloc (Nat.le_refl _) _).trans hb4
       have g4 := g1.next gB4
       have p4 := g4.cell 0
       have p5 := g4.cell 1
       have f4 := g4.frozen)
  try simp only [Exit.inBlock, Exit.then]
  refine bodyPost_ret (results_g2 rfl rfl ((g4.set_ 0 _).set_ 1 _) rfl) rfl ?_
  have hI : OwnI w4 w1.heap.size A4 c4 (0 :: xs) := by have := hown4; rw [Nat.add_comm 1 xs.length] at this; exact this
  refine ⟨A1, c1, A4, c4, ?_, ?_, ?_, ?_⟩
  · rw [← Nat.add_comm 1 xs.length]; rfl
  · exact (((hown1.next gB4).set_blk g4 (by decide) _ _).set_blk (g4.set_ 0 _) (by decide) _ _).mono (by simp; omega)
  · exact ((hI.set_blk g4 (by decide) _ _).set_blk (g4.set_ 0 _) (by decide) _ _).mono (Nat.le_of_lt hz1)
  · exact ((gB1.trans (gB4.mono (Nat.le_of_lt hz1))).setCell (Nat.le_refl _) _).setCell (Nat.le_refl _) _
theorem rconfig_bad (A : Option Addr) (c : Nat) (xs : List Int) (hbad : (givenR xs != 0) = true) (w : World) (h : Reads w w.heap.size 1 A xs.length (ints xs)) :
    Calls Try.prog 34 #[.slice A xs.length c] w fun e w' =>
      e = .returned (.tuple #[.agg #[.int .i64 0, .slice none 0 0], .slice none 0 0, .int .i64 (givenR xs)]) ∧ Below w.heap.size w w' := by
  have hra := h.next ((Below.refl w.heap.size w).alloc (Nat.le_refl _) (.cells #[.int .i64 0, .slice none 0 0] 52))
  have g0 : Blk (w.alloc (.cells #[.int .i64 0, .slice none 0 0] 52)) w.heap.size 52 #[.int .i64 0, .slice none 0 0] := Blk.new w 52 #[.int .i64 0, .slice none 0 0]
  have f0 := g0.frozen
  have q0 := g0.cell 0
  have q1 := g0.cell 1
  go_enter Try.func34, Try.ntmps34
  go_wp2_with (go_at_call 46; refine (rgiven_any A c xs _ hra).mono ?_; rintro e w0 ⟨rfl, rfl⟩)
  try simp only [Exit.inBlock, Exit.then]
  refine bodyPost_ret (results_g2 rfl rfl g0 rfl) rfl ?_
  exact ⟨rfl, (Below.refl _ _).alloc (Nat.le_refl _) _⟩
end Go.Proofs.Ytjeggocindcgaaa
