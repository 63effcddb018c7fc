/-
  Package burning: Superstable.
-/
import Derived.Test.YtjeggocindcgaaaBurn
namespace Go.Proofs.Ytjeggocindcgaaa
open Go.RowKit

set_option maxRecDepth 100000 in
set_option maxHeartbeats 1000000 in
theorem superstable_ok (n : Nat) (A : Option Addr) (c : Nat) (es : List E3) (hn : es.length ≤ 1048576) (q : Nat) (B : Option Addr) (d : Nat) (cs : List Int) (hm : cs.length ≤ 1048000) (hck : burnErr n es q cs = 0) (w : World) (h : Reads w w.heap.size 3 A es.length (edgeCells es)) (h' : Reads w w.heap.size 1 B cs.length (ints cs)) :
    Calls Try.prog 40 #[.agg #[.int .i64 n, .slice A es.length c], .int .i64 q, .slice B cs.length d] w fun e w' => e = .returned (.tuple #[.bool (decide (restL n (burntL es cs n q) = [])), .int .i64 0]) ∧ Below w.heap.size w w' := by
  have BC := Lib.hid (burn_ok n A c es hn q B d cs hm hck)
  obtain ⟨r, hr⟩ : ∃ r, restL n (burntL es cs n q) = r := ⟨_, rfl⟩
  rw [hr] at BC ⊢
  clear hr hck
  have hz : decide (r = []) = decide (r.length = 0) := by rw [Bool.eq_iff_iff]; simp
  rw [hz]
  obtain ⟨m, hm'⟩ : ∃ m, r.length = m := ⟨_, rfl⟩
  rw [hm'] at BC ⊢
  clear hz hm'
  go_enter Try.func40, Try.ntmps40
  go_wp2_with fail
  refine (BC.out _ ((h.alloc (Nat.le_refl _) _).more (by simp)) ((h'.alloc (Nat.le_refl _) _).more (by simp))).mono ?_
  rintro e w1 ⟨A1, c1, A2, c2, rfl, _, _, hb1⟩
  have hbel1 : Below w.heap.size w w1 := ((Below.refl _ _).alloc (Nat.le_refl _) _).trans (hb1.mono (by simp))
  go_wp2
  go_ret2
  refine ⟨?_, hbel1⟩
  rw [show ((m : Int) == 0) = decide (m = 0) from by rw [Bool.eq_iff_iff]; simp]
  rfl
end Go.Proofs.Ytjeggocindcgaaa
