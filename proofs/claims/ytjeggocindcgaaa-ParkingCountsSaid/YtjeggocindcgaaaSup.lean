/-
  Package superstable: calm, first, configurations.
-/
import Derived.Test.YtjeggocindcgaaaSupP
import Derived.Test.YtjeggocindcgaaaMaximal
import Derived.Test.YtjeggocindcgaaaIterX
namespace Go.Proofs.Ytjeggocindcgaaa
open Go.RowKit Go.Shelf

set_option maxRecDepth 100000 in
set_option maxHeartbeats 2000000 in
theorem calm_any (n : Nat) (A : Option Addr) (c : Nat) (es : List E3) (hn : es.length ≤ 1048576) (q : Nat) (B : Option Addr) (d : Nat) (cs : List Int) (hm : cs.length ≤ 1048000) (w : World) (h : Reads w w.heap.size 3 A es.length (edgeCells es)) (h' : Reads w w.heap.size 1 B cs.length (ints cs)) :
    Calls Try.prog 81 #[.agg #[.int .i64 n, .slice A es.length c], .int .i64 q, .slice B cs.length d] w fun e w' => e = .returned (.bool (calmB n es q cs)) ∧ Below w.heap.size w w' := by
  have SA := super_any n A c es hn q B d cs hm
  unfold calmB
  obtain ⟨b, hb⟩ : ∃ b, (superE n es q cs).1 = b := ⟨_, rfl⟩
  obtain ⟨e, he⟩ : ∃ e, (superE n es q cs).2 = e := ⟨_, rfl⟩
  rw [hb, he] at SA ⊢
  have SA := Lib.hid SA
  have g0 := Blk.new w 52 #[.int .i64 n, .slice A es.length c]
  have c0 := g0.cell 0
  have c1 := g0.cell 1
  clear hb he
  have hbd : (e == 0) = decide (e = 0) := by rw [Bool.eq_iff_iff]; simp
  go_enter Try.func81, Try.ntmps81
  go_wp2_with fail
  refine (SA.out _ ((h.alloc (Nat.le_refl _) _).more (by simp)) ((h'.alloc (Nat.le_refl _) _).more (by simp))).mono ?_
  rintro e' w1 ⟨rfl, hb1⟩
  have hB1 : Below w.heap.size w w1 := ((Below.refl _ _).alloc (Nat.le_refl _) _).trans (hb1.mono (by simp))
  cases b
  · go_wp2
    go_ret
    exact ⟨by simp, hB1⟩
  · go_wp2
    go_ret
    exact ⟨by simp, hB1⟩
set_option maxRecDepth 100000 in
set_option maxHeartbeats 2000000 in
theorem sfirst_ok (n : Nat) (A : Option Addr) (c : Nat) (es : List E3) (hlen : es.length ≤ 10000) (q : Nat) (hx : rootErr n es q = 0) (w : World) (h : Reads w w.heap.size 3 A es.length (edgeCells es)) :
    Calls Try.prog 65 #[.agg #[.int .i64 n, .slice A es.length c], .int .i64 q] w fun e w' => ∃ Am cm, e = .returned (.tuple #[.slice Am n cm, .int .i64 0]) ∧ OwnI w' w.heap.size Am cm (maxL n es q) ∧ Below w.heap.size w w' := by
  have MX := Lib.hid (maximal_ok n A c es hlen q hx)
  have g0 := Blk.new w 52 #[.int .i64 n, .slice A es.length c]
  have c0 := g0.cell 0
  have c1 := g0.cell 1
  clear hx
  go_enter Try.func65, Try.ntmps65
  go_wp2_with fail
  refine (MX.out _ ((h.alloc (Nat.le_refl _) _).more (by simp))).mono ?_
  rintro e w1 ⟨Am, cm, rfl, o1, hb1⟩
  have hB1 : Below w.heap.size w w1 := ((Below.refl _ _).alloc (Nat.le_refl _) _).trans (hb1.mono (by simp))
  go_wp2
  go_ret2
  exact ⟨Am, cm, rfl, o1.mono (by simp), hB1⟩
set_option maxRecDepth 100000 in
set_option maxHeartbeats 2000000 in
theorem sfirst_bad (n : Int) (A : Option Addr) (c : Nat) (es : List E3) (hlen : es.length ≤ 10000) (q : Int) (x : Int) (hx : rootErr n es q = x) (hx0 : (x == 0) = false) (w : World) (h : Reads w w.heap.size 3 A es.length (edgeCells es)) :
    Calls Try.prog 65 #[.agg #[.int .i64 n, .slice A es.length c], .int .i64 q] w fun e w' => e = .returned (.tuple #[.slice none 0 0, .int .i64 x]) ∧ Below w.heap.size w w' := by
  have MX := Lib.hid (maximal_bad n A c es hlen q x hx hx0)
  have g0 := Blk.new w 52 #[.int .i64 n, .slice A es.length c]
  have c0 := g0.cell 0
  have c1 := g0.cell 1
  clear hx
  go_enter Try.func65, Try.ntmps65
  go_wp2_with fail
  refine (MX.out _ ((h.alloc (Nat.le_refl _) _).more (by simp))).mono ?_
  rintro e w1 ⟨rfl, hb1⟩
  have hB1 : Below w.heap.size w w1 := ((Below.refl _ _).alloc (Nat.le_refl _) _).trans (hb1.mono (by simp))
  go_wp2
  go_ret2
  exact ⟨rfl, hB1⟩
set_option maxHeartbeats 1000000 in
theorem confs_any (n : Int) (A : Option Addr) (c m : Nat) (q : Int) (w : World) :
    Calls Try.prog 66 #[.agg #[.int .i64 n, .slice A m c], .int .i64 q] w fun e w' => e = .returned (.func (.func 78) #[] #[.pointer (some ⟨w.heap.size, 0, none⟩), .pointer (some ⟨w.heap.size + 1, 0, none⟩)]) ∧
      (w.alloc (.cells #[.int .i64 n, .slice A m c] 52)).alloc (.cells #[.int .i64 q] 3) = w' := by
  have hmf : ∀ (fn : Fn) (first cap : Array Value) (w : World), (Instr.makeFunc fn first cap).run Try.prog w = .ok (.func fn first cap) w := fun _ _ _ _ => rfl
  go_enter Try.func66, Try.ntmps66
  go_wp2
  go_ret
  exact ⟨rfl, rfl⟩
end Go.Proofs.Ytjeggocindcgaaa
