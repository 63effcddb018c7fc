/-
  parking.Config: the complete graph with all edges once, and the divisor behind a zero.
-/
import Derived.Test.YtjeggocindcgaaaEdge
import Derived.Test.YtjeggocindcgaaaPark2
import Derived.Test.YtjeggocindcgaaaRef29c
import Derived.Test.YtjeggocindcgaaaResults
import Derived.Deep.RegionLaw
namespace Go.Proofs.Ytjeggocindcgaaa
open Go.RowKit

def rowTo (a b : Nat) : List E3 := (List.range' (a + 1) (b - (a + 1))).map fun j : Nat => ((a : Int), (j : Int), (1 : Int))
theorem rowTo_succ {a b : Nat} (h : a + 1 ≤ b) : rowTo a (b + 1) = rowTo a b ++ [((a : Int), (b : Int), (1 : Int))] := by
  unfold rowTo
  rw [show b + 1 - (a + 1) = (b - (a + 1)) + 1 from by omega, List.range'_1_concat, List.map_append]
  simp only [List.map_cons, List.map_nil]
  rw [show a + 1 + (b - (a + 1)) = b from by omega]
theorem rowTo_none {a b : Nat} (h : b ≤ a + 1) : rowTo a b = [] := by
  unfold rowTo
  rw [show b - (a + 1) = 0 from by omega]
  rfl
theorem rowTo_length (a b : Nat) : (rowTo a b).length = b - (a + 1) := by simp [rowTo]
def complTo (n a : Nat) : List E3 := (List.range a).flatMap fun i => rowTo i n
theorem complTo_succ (n a : Nat) : complTo n (a + 1) = complTo n a ++ rowTo a n := by simp [complTo, List.range_succ, List.flatMap_append]
theorem complTo_length (n a : Nat) : (complTo n a).length ≤ a * n := by
  induction a with
  | zero => simp [complTo]
  | succ a ih => rw [complTo_succ, List.length_append, rowTo_length, Nat.succ_mul]; omega
def compl (n : Nat) : List E3 := complTo n n

def pconfS (xs : List Int) : (Int × List E3) × List Int × Int := if (takenS xs).2 = 0 then (((xs.length : Int) + 1, compl (xs.length + 1)), 0 :: xs, 0) else ((0, []), [], (takenS xs).2)

set_option maxRecDepth 100000 in
set_option maxHeartbeats 1000000 in
theorem pconfig_ok (A : Option Addr) (c : Nat) (xs : List Int) (hok : (takenS xs).2 = 0) (w : World) (h : Reads w w.heap.size 1 A xs.length (ints xs)) :
    Calls Try.prog 33 #[.slice A xs.length c] w fun e w' =>
      ∃ A1 c1 A2 c2, e = .returned (.tuple #[.agg #[.int .i64 ((xs.length : Int) + 1), .slice A1 (compl (xs.length + 1)).length c1], .slice A2 (0 :: xs).length c2, .int .i64 0]) ∧
        OwnE w' w.heap.size A1 c1 (compl (xs.length + 1)) ∧ OwnI w' w.heap.size A2 c2 (0 :: xs) ∧ Below w.heap.size w w' := by
  obtain ⟨hlen, hn⟩ := takenS_ok hok
  have htk := fun w h => taken_any A c xs w h
  rw [hok] at htk
  have HT := Lib.hid htk
  clear htk hlen hok
  go_enter Try.func33, Try.ntmps33
  go_wp2_with (go_at_call 45; refine (HT.out _ ((h.below ((Below.refl _ _).alloc (Nat.le_refl _) _)).more (by simp))).mono ?_; rintro e w1 ⟨A1, c1, rfl, hown1, hb1⟩)
  have hB1 : Below w.heap.size w w1 := ((Below.refl _ _).alloc (Nat.le_refl _) _).trans (hb1.mono (by simp))
  have hz1 : w.heap.size < w1.heap.size := Nat.lt_of_lt_of_le (by simp) hb1.size
  have g0 : Blk w1 w.heap.size 52 #[.int .i64 0, .slice none 0 0] := (Blk.new w 52 #[.int .i64 0, .slice none 0 0]).below hb1 (by simp)
  clear hb1 hown1
  go_wp2
  go_loopw [25] (fun i wr => ∃ (a : Nat) (A' : Option Addr) (c' : Nat), a ≤ xs.length + 1 ∧ i = .int .i64 a ∧ Blk wr w1.heap.size 52 #[.int .i64 ((xs.length : Int) + 1), .slice A' (complTo (xs.length + 1) a).length c'] ∧
    OwnE wr w1.heap.size A' c' (complTo (xs.length + 1) a) ∧ Below w1.heap.size w1 wr) (fun i _ => xs.length + 1 - (intOf i).toNat)
  case atStart =>
    refine ⟨0, none, 0, by omega, rfl, Blk.new _ _ _, OwnE.nil_ _ _, (Below.refl _ _).alloc (Nat.le_refl _) _⟩
  case round =>
    obtain ⟨a, A', c', ha, rfl, g1, hown, hbel⟩ := hrel
    have q0 := g1.cell 0
    have q1 := g1.cell 1
    have hz2 := hbel.size
    by_cases hlt : a < xs.length + 1
    · have hi : (a : Int) < (xs.length : Int) + 1 := by omega
      obtain ⟨wo, rfl⟩ : ∃ wo : World, wo = wr := ⟨_, rfl⟩
      go_wp2
      go_loopw [9] (fun i wr => ∃ (b : Nat) (A' : Option Addr) (c' : Nat), a + 1 ≤ b ∧ b ≤ xs.length + 1 ∧ i = .int .i64 b ∧ Blk wr w1.heap.size 52 #[.int .i64 ((xs.length : Int) + 1), .slice A' (complTo (xs.length + 1) a ++ rowTo a b).length c'] ∧
        OwnE wr w1.heap.size A' c' (complTo (xs.length + 1) a ++ rowTo a b) ∧ Below w1.heap.size w1 wr) (fun i _ => xs.length + 1 - (intOf i).toNat)
      case atStart =>
        refine ⟨a + 1, A', c', by omega, by omega, by go_num, ?_, ?_, hbel⟩
        · rw [rowTo_none (Nat.le_refl _), List.append_nil]; exact g1
        · rw [rowTo_none (Nat.le_refl _), List.append_nil]; exact hown
      case round =>
        clear q0 q1 g1 hown hbel hz2
        obtain ⟨b, A', c', hab, hb, rfl, g1, hown, hbel⟩ := hrel
        have q0 := g1.cell 0
        have q1 := g1.cell 1
        have hz2 := hbel.size
        have hlen := complTo_length (xs.length + 1) a
        have hlen2 := rowTo_length a b
        have hl13 : (complTo (xs.length + 1) a ++ rowTo a b).length ≤ 1048000 := by
          have : a * (xs.length + 1) ≤ 12 * 12 := Nat.mul_le_mul (by omega) (by omega)
          rw [List.length_append]; omega
        clear hlen hlen2
        obtain ⟨es, hes⟩ : ∃ es, complTo (xs.length + 1) a ++ rowTo a b = es := ⟨_, rfl⟩
        rw [hes] at g1 hown hl13 q1
        have HES := Lib.hid hes
        clear hes
        by_cases hlt2 : b < xs.length + 1
        · have hi2 : (b : Int) < (xs.length : Int) + 1 := by omega
          go_wp2_with (at_builtin; refine push_edge rfl (.tmp 37) (.tmp 41) _ rfl Try.underlying50 w1.heap.size A' c' es a b 1 rfl hown rfl rfl hl13 hz2 ?_; intro A3 c3 w3 hown3 hg3 hb3; have g3 := (g1.alloc _).grown hg3 (own_blk_ne hown g1 (by decide)); have p1 := g3.cell 1; have f3 := g3.frozen)
          have HR : complTo (xs.length + 1) a ++ rowTo a (b + 1) = es ++ [((a : Int), (b : Int), (1 : Int))] := by rw [rowTo_succ hab, ← List.append_assoc, HES.out]
          have HR := Lib.hid HR
          go_roundw
          case rel =>
            refine ⟨b + 1, A3, c3, by omega, by omega, by go_num, ?_, ?_, ?_⟩
            · rw [HR.out, List.length_append]; exact g3.set_ 1 _
            · rw [HR.out]; exact hown3.set_blk g3 (by decide) 1 _
            · exact (hbel.trans hb3).setCell (Nat.le_refl _) _
          case measure => simp [intOf]; omega
        · have hi2 : ¬ (b : Int) < (xs.length : Int) + 1 := by omega
          go_wp2
          have HR : es = complTo (xs.length + 1) (a + 1) := by rw [complTo_succ, ← HES.out, show b = xs.length + 1 from by omega]
          have HR := Lib.hid HR
          go_roundw
          case rel =>
            refine ⟨a + 1, A', c', by omega, by go_num, ?_, ?_, hbel⟩
            · rw [← HR.out]; exact g1
            · rw [← HR.out]; exact hown
          case measure => simp [intOf]; omega
    · have hi : ¬ (a : Int) < (xs.length : Int) + 1 := by omega
      obtain rfl : a = xs.length + 1 := by omega
      have hl13 : (complTo (xs.length + 1) (xs.length + 1)).length ≤ 1048000 := by
        have := complTo_length (xs.length + 1) (xs.length + 1)
        have : (xs.length + 1) * (xs.length + 1) ≤ 12 * 12 := Nat.mul_le_mul (by omega) (by omega)
        omega
      obtain ⟨es, hes⟩ : ∃ es, complTo (xs.length + 1) (xs.length + 1) = es := ⟨_, rfl⟩
      rw [hes] at g1 hown hl13 q1
      have HES := Lib.hid hes
      clear hes
      have g2 : Blk wr w.heap.size 52 #[.int .i64 0, .slice none 0 0] := g0.below hbel hz1
      have f2 := g2.frozen
      have hr2 := ((h.below hB1).below (hbel.mono (Nat.le_of_lt hz1)))
      have hown0 : (wr.alloc (.cells #[.int .i64 0] 3)).ownsRow wr.heap.size 3 1 (.slice (some ⟨wr.heap.size, 0, none⟩) 1 1) 1 [.int .i64 0] := OwnI.of_blk (l := [0]) (Blk.new wr 3 (intCells [0])) (Nat.le_refl _) (by decide)
      have hr3 : Reads (wr.alloc (.cells #[.int .i64 0] 3)) w.heap.size 1 A xs.length (ints xs) := hr2.below ((Below.refl _ _).alloc (by omega) _)
      have g5 := g2.alloc (.cells #[.int .i64 0] 3)
      have g6 := g1.alloc (.cells #[.int .i64 0] 3)
      have q6 := g6.cell 0
      have q7 := g6.cell 1
      have hl4 : 1 + xs.length ≤ 1048576 := by omega
      have hz4 : wr.heap.size ≤ (wr.alloc (.cells #[.int .i64 0] 3)).heap.size := by simp
      go_wp2
      go_region_law (refine append_step2 rfl (.tmp 46) (.tmp 47) _ _ rfl wr.heap.size 3 3 Try.underlying53 Try.underlying22 info_int rfl (by omega) (some ⟨wr.heap.size, 0, none⟩) 1 1 [.int .i64 0] rfl hown0 w.heap.size (ints xs) rfl hr3 ints_one hl4 hz4 ?_; intro A4 c4 w4 hown4 hg4 hb4 _; have g4 := Blk.below (h := by exact g5) hb4 (Nat.lt_of_lt_of_le hz1 hz2); have p4 := g4.cell 0; have p5 := g4.cell 1; have f4 := g4.frozen; have g8 := Blk.below (h := by exact g6) hb4 g1.lt; have p8 := g8.cell 0; have p9 := g8.cell 1)
      all_goals (
        go_wp2
        try simp only [Exit.inBlock, Exit.then]
        refine bodyPost_ret (results_g2 rfl rfl ((g4.set_ 0 _).set_ 1 _) rfl) rfl ?_
        have gB : Below wr.heap.size wr w4 := ((Below.refl _ _).alloc (Nat.le_refl _) _).trans ⟨hb4.os, hb4.tape, hb4.output, hb4.size, hb4.block⟩
        have hI : OwnI w4 wr.heap.size A4 c4 (0 :: xs) := by have := hown4; rw [Nat.add_comm 1 xs.length] at this; exact this
        have hzz : w.heap.size ≤ wr.heap.size := by omega
        refine ⟨A', c', A4, c4, ?_, ?_, ?_, ?_⟩
        · rw [compl, HES.out, ← Nat.add_comm 1 xs.length]; rfl
        · rw [compl, HES.out]; exact (((hown.next gB).set_blk g4 (by decide) _ _).set_blk (g4.set_ 0 _) (by decide) _ _).mono (Nat.le_of_lt hz1)
        · exact ((hI.set_blk g4 (by decide) _ _).set_blk (g4.set_ 0 _) (by decide) _ _).mono hzz
        · exact (((hB1.trans (hbel.mono (Nat.le_of_lt hz1))).trans (gB.mono hzz)).setCell (Nat.le_refl _) _).setCell (Nat.le_refl _) _)

theorem pconfig_bad (A : Option Addr) (c : Nat) (xs : List Int) (hbad : ((takenS xs).2 != 0) = true) (w : World) (h : Reads w w.heap.size 1 A xs.length (ints xs)) :
    Calls Try.prog 33 #[.slice A xs.length c] w fun e w' =>
      e = .returned (.tuple #[.agg #[.int .i64 0, .slice none 0 0], .slice none 0 0, .int .i64 (takenS xs).2]) ∧ Below w.heap.size w w' := by
  go_enter Try.func33, Try.ntmps33
  go_wp2_with (go_at_call 45; refine (taken_any A c xs _ ((h.below ((Below.refl _ _).alloc (Nat.le_refl _) _)).more (by simp))).mono ?_; rintro e w1 ⟨A1, c1, rfl, hown1, hb1⟩; have g0 : Blk w1 w.heap.size 52 #[.int .i64 0, .slice none 0 0] := (Blk.new w 52 #[.int .i64 0, .slice none 0 0]).below hb1 (by simp); have f0 := g0.frozen; have q0 := g0.cell 0; have q1 := g0.cell 1)
  try simp only [Exit.inBlock, Exit.then]
  refine bodyPost_ret (results_g2 rfl rfl ((g0.set_ 0 _).set_ 1 _) rfl) rfl ?_
  exact ⟨rfl, ((((Below.refl _ _).alloc (Nat.le_refl _) _).trans (hb1.mono (by simp))).setCell (Nat.le_refl _) _).setCell (Nat.le_refl _) _⟩
end Go.Proofs.Ytjeggocindcgaaa
