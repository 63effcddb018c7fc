/-
  Package connect: the forest of a graph, and its parts.
-/
import Derived.Test.YtjeggocindcgaaaConn
import Derived.Test.YtjeggocindcgaaaResults
import Derived.Maps.Own
import Derived.Maps.OwnOps
import Derived.Deep.RegionLaw
namespace Go.Proofs.Ytjeggocindcgaaa
open Go.RowKit

theorem list12 {l : List Nat} (h : l.length = 12) : ∃ a0 a1 a2 a3 a4 a5 a6 a7 a8 a9 a10 a11, l = [a0, a1, a2, a3, a4, a5, a6, a7, a8, a9, a10, a11] := by
  match l, h with
  | [a0, a1, a2, a3, a4, a5, a6, a7, a8, a9, a10, a11], _ => exact ⟨_, _, _, _, _, _, _, _, _, _, _, _, rfl⟩

set_option maxRecDepth 100000 in
set_option maxHeartbeats 2000000 in
theorem joined_any (n : Nat) (A : Option Addr) (c : Nat) (es : List E3) (hn : es.length ≤ 1048576) (hG : RightG n es) (w : World) (h : Reads w w.heap.size 3 A es.length (edgeCells es)) :
    Calls Try.prog 123 #[.agg #[.int .i64 n, .slice A es.length c]] w fun e w' => ∃ f, e = .returned (.agg (fcells f)) ∧ Joins es f ∧ Below w.heap.size w w' := by
  have HG := Lib.hid hG
  clear hG
  go_enter Try.func123, Try.ntmps123
  go_wp2_with (go_at_call 128; refine (grown_any _).mono ?_; rintro e w1 ⟨rfl, hb1⟩
               have gb := ((Blk.new w 52 #[.int .i64 n, .slice A es.length c]).alloc (.cells #[.int .i64 0, .int .i64 0, .int .i64 0, .int .i64 0, .int .i64 0, .int .i64 0, .int .i64 0, .int .i64 0, .int .i64 0, .int .i64 0, .int .i64 0, .int .i64 0] 160)).next hb1
               have gr := Blk.new (w.alloc (.cells #[.int .i64 n, .slice A es.length c] 52)) 160 #[.int .i64 0, .int .i64 0, .int .i64 0, .int .i64 0, .int .i64 0, .int .i64 0, .int .i64 0, .int .i64 0, .int .i64 0, .int .i64 0, .int .i64 0, .int .i64 0]
               rw [show (w.alloc (.cells #[.int .i64 n, .slice A es.length c] 52)).heap.size = w.heap.size + 1 from by simp] at gr
               have gr1 := gr.next hb1
               have hbel1 : Below w.heap.size w w1 := (((Below.refl _ _).alloc (Nat.le_refl _) _).alloc (by simp) _).trans (hb1.mono (by simp; omega))
               have gf : Blk (w1.alloc (.cells #[.int .i64 0, .int .i64 1, .int .i64 2, .int .i64 3, .int .i64 4, .int .i64 5, .int .i64 6, .int .i64 7, .int .i64 8, .int .i64 9, .int .i64 10, .int .i64 11] 160)) w1.heap.size 160 (fcells (List.range 12)) := Blk.new w1 160 #[.int .i64 0, .int .i64 1, .int .i64 2, .int .i64 3, .int .i64 4, .int .i64 5, .int .i64 6, .int .i64 7, .int .i64 8, .int .i64 9, .int .i64 10, .int .i64 11]
               have hsz1 := gr1.lt
               have gb1 := gb.alloc (.cells #[.int .i64 0, .int .i64 1, .int .i64 2, .int .i64 3, .int .i64 4, .int .i64 5, .int .i64 6, .int .i64 7, .int .i64 8, .int .i64 9, .int .i64 10, .int .i64 11] 160)
               have gr2 := gr1.alloc (.cells #[.int .i64 0, .int .i64 1, .int .i64 2, .int .i64 3, .int .i64 4, .int .i64 5, .int .i64 6, .int .i64 7, .int .i64 8, .int .i64 9, .int .i64 10, .int .i64 11] 160)
               have hbel2 := hbel1.alloc hbel1.size (.cells #[.int .i64 0, .int .i64 1, .int .i64 2, .int .i64 3, .int .i64 4, .int .i64 5, .int .i64 6, .int .i64 7, .int .i64 8, .int .i64 9, .int .i64 10, .int .i64 11] 160)
               have c1 := gb1.cell 1
               have d0 := gb1.cell 0
               clear gr gr1 gb hb1 hbel1)
  go_loopw [10] (fun i wr => ∃ (k : Nat) (f : List Nat), k ≤ es.length ∧ i = .int .i64 k ∧ Below w.heap.size w wr ∧ Blk wr w1.heap.size 160 (fcells f) ∧ Blk wr (w.heap.size + 1) 160 #[.int .i64 0, .int .i64 0, .int .i64 0, .int .i64 0, .int .i64 0, .int .i64 0, .int .i64 0, .int .i64 0, .int .i64 0, .int .i64 0, .int .i64 0, .int .i64 0] ∧ Hid (Joins (es.take k) f)) (fun i _ => es.length - (intOf i).toNat)
  case atStart => exact ⟨0, List.range 12, by omega, rfl, hbel2, gf, gr2, joins_nil⟩
  clear hbel2 gf gr2 gb1 c1 d0
  case round =>
    obtain ⟨k, f, hk, rfl, hbel, gf, gr, HJ⟩ := hrel
    have hsz := hbel.size
    by_cases hlt : k < es.length
    · obtain ⟨⟨x, y, m⟩, hx⟩ := get_of_lt hlt
      have hok := HG.out.ok _ (List.mem_of_getElem? hx)
      have hhi := HG.out.hi
      unfold okE at hok
      dsimp only at hok
      obtain ⟨a, rfl⟩ := Int.eq_ofNat_of_zero_le (show 0 ≤ x by omega)
      obtain ⟨b, rfl⟩ := Int.eq_ofNat_of_zero_le (show 0 ≤ y by omega)
      have ha : a < 12 := by omega
      have hb : b < 12 := by omega
      have HN := Lib.hid (joins_snoc HJ.out (e := ((a : Int), (b : Int), m)) ha hb rfl rfl)
      rw [← take_snoc hx] at HN
      obtain ⟨bb, off, rfl, hbb, q1, q2, q3⟩ := (h.below hbel).edge hx
      have hi : (k : Int) < (es.length : Int) := by omega
      have gf1 := gf.alloc (.cells #[.int .i64 a, .int .i64 b, .int .i64 m] 62)
      have gr1 := gr.alloc (.cells #[.int .i64 a, .int .i64 b, .int .i64 m] 62)
      have hbl1 := hbel.alloc hsz (.cells #[.int .i64 a, .int .i64 b, .int .i64 m] 62)
      have JC := Lib.hid (join_any w1.heap.size f HJ.out.forest HJ.out.len a b ha hb _ gf1)
      have hne : w.heap.size + 1 ≠ w1.heap.size := by omega
      dsimp only at q1 q2 q3
      clear hx h hbel hok
      go_wp2_with (go_at_call 129; (with_reducible refine (JC.out).mono ?_); rintro e w' ⟨⟨v, rfl⟩, rfl⟩)
      go_roundw
      case rel =>
        refine ⟨k + 1, joinF f a b, by omega, by go_num, hbl1.setCell (by simp; omega) _, ?_, gr1.far (by simpa using hne) _, HN.out⟩
        have := gf1.set_ (max (rt f a) (rt f b)) (.int .i64 ((min (rt f a) (rt f b) : Nat) : Int))
        rwa [fcells_set] at this
      case measure => simp [intOf]; omega
    · obtain rfl : k = es.length := by omega
      rw [List.take_length] at HJ
      obtain ⟨a0, a1, a2, a3, a4, a5, a6, a7, a8, a9, a10, a11, rfl⟩ := list12 HJ.out.len
      have hne : w.heap.size + 1 ≠ w1.heap.size := by omega
      replace gf : Blk wr w1.heap.size 160 #[.int .i64 (a0 : Nat), .int .i64 (a1 : Nat), .int .i64 (a2 : Nat), .int .i64 (a3 : Nat), .int .i64 (a4 : Nat), .int .i64 (a5 : Nat), .int .i64 (a6 : Nat), .int .i64 (a7 : Nat), .int .i64 (a8 : Nat), .int .i64 (a9 : Nat), .int .i64 (a10 : Nat), .int .i64 (a11 : Nat)] := gf
      have c0 := gf.cell 0
      have z0 := gr.frozen 0
      have y0 := gr.cell 0
      have c1 := gf.cell 1
      have z1 := gr.frozen 1
      have y1 := gr.cell 1
      have c2 := gf.cell 2
      have z2 := gr.frozen 2
      have y2 := gr.cell 2
      have c3 := gf.cell 3
      have z3 := gr.frozen 3
      have y3 := gr.cell 3
      have c4 := gf.cell 4
      have z4 := gr.frozen 4
      have y4 := gr.cell 4
      have c5 := gf.cell 5
      have z5 := gr.frozen 5
      have y5 := gr.cell 5
      have c6 := gf.cell 6
      have z6 := gr.frozen 6
      have y6 := gr.cell 6
      have c7 := gf.cell 7
      have z7 := gr.frozen 7
      have y7 := gr.cell 7
      have c8 := gf.cell 8
      have z8 := gr.frozen 8
      have y8 := gr.cell 8
      have c9 := gf.cell 9
      have z9 := gr.frozen 9
      have y9 := gr.cell 9
      have c10 := gf.cell 10
      have z10 := gr.frozen 10
      have y10 := gr.cell 10
      have c11 := gf.cell 11
      have z11 := gr.frozen 11
      have y11 := gr.cell 11
      go_wp2
      have G := ((((((((((((gr.set_ 0 (.int .i64 (a0 : Nat))).set_ 1 (.int .i64 (a1 : Nat))).set_ 2 (.int .i64 (a2 : Nat))).set_ 3 (.int .i64 (a3 : Nat))).set_ 4 (.int .i64 (a4 : Nat))).set_ 5 (.int .i64 (a5 : Nat))).set_ 6 (.int .i64 (a6 : Nat))).set_ 7 (.int .i64 (a7 : Nat))).set_ 8 (.int .i64 (a8 : Nat))).set_ 9 (.int .i64 (a9 : Nat))).set_ 10 (.int .i64 (a10 : Nat))).set_ 11 (.int .i64 (a11 : Nat)))
      simp only [List.setIfInBounds_toArray, List.set_cons_zero, List.set_cons_succ] at G
      exact bodyPost_ret (results_cell_row rfl _ _ (w.heap.size + 1) _ (fcells [a0, a1, a2, a3, a4, a5, a6, a7, a8, a9, a10, a11]) _ _ rfl G Try.underlying160 rfl (by kernel_rfl)) rfl ⟨_, rfl, HJ.out, ((((((((((((hbel.setCell (p := ⟨w.heap.size + 1, 0, none⟩) (Nat.le_succ _) _).setCell (p := ⟨w.heap.size + 1, 1, none⟩) (Nat.le_succ _) _).setCell (p := ⟨w.heap.size + 1, 2, none⟩) (Nat.le_succ _) _).setCell (p := ⟨w.heap.size + 1, 3, none⟩) (Nat.le_succ _) _).setCell (p := ⟨w.heap.size + 1, 4, none⟩) (Nat.le_succ _) _).setCell (p := ⟨w.heap.size + 1, 5, none⟩) (Nat.le_succ _) _).setCell (p := ⟨w.heap.size + 1, 6, none⟩) (Nat.le_succ _) _).setCell (p := ⟨w.heap.size + 1, 7, none⟩) (Nat.le_succ _) _).setCell (p := ⟨w.heap.size + 1, 8, none⟩) (Nat.le_succ _) _).setCell (p := ⟨w.heap.size + 1, 9, none⟩) (Nat.le_succ _) _).setCell (p := ⟨w.heap.size + 1, 10, none⟩) (Nat.le_succ _) _).setCell (p := ⟨w.heap.size + 1, 11, none⟩) (Nat.le_succ _) _)⟩
end Go.Proofs.Ytjeggocindcgaaa
