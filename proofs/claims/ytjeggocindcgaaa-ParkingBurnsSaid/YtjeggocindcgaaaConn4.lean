/-
  Package connect: connectedness.
-/
import Derived.Test.YtjeggocindcgaaaConn3
import Derived.Test.YtjeggocindcgaaaConnB
namespace Go.Proofs.Ytjeggocindcgaaa
open Go.RowKit

set_option maxRecDepth 100000 in
set_option maxHeartbeats 2000000 in
theorem components_ok (n : Nat) (A : Option Addr) (c : Nat) (es : List E3) (hn : es.length ≤ 1048576) (hck : checkG n es = 0) (w : World) (h : Reads w w.heap.size 3 A es.length (edgeCells es)) :
    Calls Try.prog 119 #[.agg #[.int .i64 n, .slice A es.length c]] w fun e w' => ∃ d m : Nat, ∃ A', e = .returned (.tuple #[.slice A' m d, .int .i64 0]) ∧ Hid (decide (m = 1) = connB n es) ∧ Below w.heap.size w w' := by
  have hG := right_of hck
  have hhi := hG.hi
  have HG := Lib.hid hG
  have GC := Lib.hid (gcheck_any n A c es hn)
  rw [hck] at GC
  have hj := Lib.hid (joined_any n A c es hn hG)
  clear hck hG
  go_enter Try.func119, Try.ntmps119
  have g0 := Blk.new w 52 #[.int .i64 n, .slice A es.length c]
  go_wp2_with fail
  refine (GC.out _ ((h.alloc (Nat.le_refl _) _).more (by simp))).mono ?_
  rintro e w1 ⟨rfl, hb1⟩
  have g1 := g0.next hb1
  have hbel1 : Below w.heap.size w w1 := ((Below.refl _ _).alloc (Nat.le_refl _) _).trans (hb1.mono (by simp))
  have c10 := g1.cell 0
  have c11 := g1.cell 1
  have hs1 := g1.lt
  go_wp2_with fail
  refine (hj.out _ ((h.below hbel1).more (by omega))).mono ?_
  rintro e w2 ⟨f, rfl, hJ, hb2⟩
  obtain ⟨a0, a1, a2, a3, a4, a5, a6, a7, a8, a9, a10, a11, rfl⟩ := list12 hJ.len
  have g2 := g1.next hb2
  have hbel2 : Below w.heap.size w w2 := hbel1.trans (hb2.mono (by omega))
  have g3 := g2.alloc (.cells #[.int .i64 (a0 : Nat), .int .i64 (a1 : Nat), .int .i64 (a2 : Nat), .int .i64 (a3 : Nat), .int .i64 (a4 : Nat), .int .i64 (a5 : Nat), .int .i64 (a6 : Nat), .int .i64 (a7 : Nat), .int .i64 (a8 : Nat), .int .i64 (a9 : Nat), .int .i64 (a10 : Nat), .int .i64 (a11 : Nat)] 160)
  have gf : Blk (w2.alloc (.cells #[.int .i64 (a0 : Nat), .int .i64 (a1 : Nat), .int .i64 (a2 : Nat), .int .i64 (a3 : Nat), .int .i64 (a4 : Nat), .int .i64 (a5 : Nat), .int .i64 (a6 : Nat), .int .i64 (a7 : Nat), .int .i64 (a8 : Nat), .int .i64 (a9 : Nat), .int .i64 (a10 : Nat), .int .i64 (a11 : Nat)] 160)) w2.heap.size 160 (fcells [a0, a1, a2, a3, a4, a5, a6, a7, a8, a9, a10, a11]) := Blk.new w2 160 #[.int .i64 (a0 : Nat), .int .i64 (a1 : Nat), .int .i64 (a2 : Nat), .int .i64 (a3 : Nat), .int .i64 (a4 : Nat), .int .i64 (a5 : Nat), .int .i64 (a6 : Nat), .int .i64 (a7 : Nat), .int .i64 (a8 : Nat), .int .i64 (a9 : Nat), .int .i64 (a10 : Nat), .int .i64 (a11 : Nat)]
  have hs2 := g2.lt
  have c20 := g3.cell 0
  have c21 := g3.cell 1
  have hbel3 := hbel2.alloc hbel2.size (.cells #[.int .i64 (a0 : Nat), .int .i64 (a1 : Nat), .int .i64 (a2 : Nat), .int .i64 (a3 : Nat), .int .i64 (a4 : Nat), .int .i64 (a5 : Nat), .int .i64 (a6 : Nat), .int .i64 (a7 : Nat), .int .i64 (a8 : Nat), .int .i64 (a9 : Nat), .int .i64 (a10 : Nat), .int .i64 (a11 : Nat)] 160)
  have PC := Lib.hid (parts_any w2.heap.size _ hJ.forest hJ.len n (by omega) _ gf)
  have HC := Lib.hid (connB_joins HG.out hJ)
  rw [show fcells [a0, a1, a2, a3, a4, a5, a6, a7, a8, a9, a10, a11] = #[.int .i64 (a0 : Nat), .int .i64 (a1 : Nat), .int .i64 (a2 : Nat), .int .i64 (a3 : Nat), .int .i64 (a4 : Nat), .int .i64 (a5 : Nat), .int .i64 (a6 : Nat), .int .i64 (a7 : Nat), .int .i64 (a8 : Nat), .int .i64 (a9 : Nat), .int .i64 (a10 : Nat), .int .i64 (a11 : Nat)] from rfl]
  clear hJ gf g3 g2 g1 g0
  go_wp2_with fail
  refine (PC.out).mono ?_
  rintro e w3 ⟨A', c', vs, xss, rfl, _, HX, hb3⟩
  obtain ⟨m, hm⟩ : ∃ m, xss.length = m := ⟨_, rfl⟩
  rw [hm] at HX ⊢
  have hbel4 : Below w.heap.size w w3 := hbel3.trans (hb3.mono (by simp; omega))
  have HM : Hid (decide (m = 1) = connB n es) := by rw [Hid, HC.out, HX.out]
  clear hm HX
  go_wp2
  refine bodyPost_ret (v := .tuple #[.slice A' m c', .int .i64 0]) (by simp [results, Try.results119, go_sem]) rfl ⟨c', m, A', rfl, HM, hbel4⟩
set_option maxRecDepth 100000 in
set_option maxHeartbeats 2000000 in
theorem components_bad (n : Int) (A : Option Addr) (c : Nat) (es : List E3) (hn : es.length ≤ 1048576) (hck : checkG n es ≠ 0) (w : World) (h : Reads w w.heap.size 3 A es.length (edgeCells es)) :
    Calls Try.prog 119 #[.agg #[.int .i64 n, .slice A es.length c]] w fun e w' => e = .returned (.tuple #[.slice none 0 0, .int .i64 (checkG n es)]) ∧ Below w.heap.size w w' := by
  have GC := Lib.hid (gcheck_any n A c es hn)
  obtain ⟨q, hq⟩ : ∃ q, checkG n es = q := ⟨_, rfl⟩
  rw [hq] at GC hck ⊢
  have hb : (q != 0) = true := by simpa using hck
  clear hck hq
  go_enter Try.func119, Try.ntmps119
  go_wp2_with fail
  refine (GC.out _ ((h.alloc (Nat.le_refl _) _).more (by simp))).mono ?_
  rintro e w1 ⟨rfl, hb1⟩
  have hbel1 : Below w.heap.size w w1 := ((Below.refl _ _).alloc (Nat.le_refl _) _).trans (hb1.mono (by simp))
  go_wp2
  refine bodyPost_ret (v := .tuple #[.slice none 0 0, .int .i64 q]) (by simp [results, Try.results119, go_sem]) rfl ⟨rfl, hbel1⟩
set_option maxRecDepth 100000 in
set_option maxHeartbeats 2000000 in
theorem connected_ok (n : Nat) (A : Option Addr) (c : Nat) (es : List E3) (hn : es.length ≤ 1048576) (hck : checkG n es = 0) (w : World) (h : Reads w w.heap.size 3 A es.length (edgeCells es)) :
    Calls Try.prog 113 #[.agg #[.int .i64 n, .slice A es.length c]] w fun e w' => e = .returned (.tuple #[.bool (connB n es), .int .i64 0]) ∧ Below w.heap.size w w' := by
  have GC := Lib.hid (components_ok n A c es hn hck)
  obtain ⟨q, hq⟩ : ∃ q, connB n es = q := ⟨_, rfl⟩
  rw [hq] at GC ⊢
  clear hck hq
  go_enter Try.func113, Try.ntmps113
  go_wp2_with fail
  refine (GC.out _ ((h.alloc (Nat.le_refl _) _).more (by simp))).mono ?_
  rintro e w1 ⟨d, m, A', rfl, HM, hb1⟩
  have hbel1 : Below w.heap.size w w1 := ((Below.refl _ _).alloc (Nat.le_refl _) _).trans (hb1.mono (by simp))
  cases q
  · have hb : ((m : Int) == 1) = false := by have := HM.out; simp at this; simp; omega
    go_wp2
    refine bodyPost_ret (v := .tuple #[.bool false, .int .i64 0]) (by simp [results, Try.results113, go_sem]) rfl ⟨rfl, hbel1⟩
  · have hb : ((m : Int) == 1) = true := by have := HM.out; simp at this; simp; omega
    go_wp2
    refine bodyPost_ret (v := .tuple #[.bool true, .int .i64 0]) (by simp [results, Try.results113, go_sem]) rfl ⟨rfl, hbel1⟩
set_option maxRecDepth 100000 in
set_option maxHeartbeats 2000000 in
theorem connected_bad (n : Int) (A : Option Addr) (c : Nat) (es : List E3) (hn : es.length ≤ 1048576) (hck : checkG n es ≠ 0) (w : World) (h : Reads w w.heap.size 3 A es.length (edgeCells es)) :
    Calls Try.prog 113 #[.agg #[.int .i64 n, .slice A es.length c]] w fun e w' => e = .returned (.tuple #[.bool false, .int .i64 (checkG n es)]) ∧ Below w.heap.size w w' := by
  have GC := Lib.hid (components_bad n A c es hn hck)
  obtain ⟨q, hq⟩ : ∃ q, checkG n es = q := ⟨_, rfl⟩
  rw [hq] at GC ⊢
  clear hck hq
  go_enter Try.func113, Try.ntmps113
  go_wp2_with fail
  refine (GC.out _ ((h.alloc (Nat.le_refl _) _).more (by simp))).mono ?_
  rintro e w1 ⟨rfl, hb1⟩
  have hbel1 : Below w.heap.size w w1 := ((Below.refl _ _).alloc (Nat.le_refl _) _).trans (hb1.mono (by simp))
  go_wp2
  refine bodyPost_ret (v := .tuple #[.bool false, .int .i64 q]) (by simp [results, Try.results113, go_sem]) rfl ⟨rfl, hbel1⟩
end Go.Proofs.Ytjeggocindcgaaa
