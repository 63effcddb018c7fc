/-
  Texts of this claim, put together: Conn, EvlP, REnds.
-/
import Derived.Test.YtnbikkcalcpedaaGreatDoorK13
import Derived.Test.YtnbikkcalcpedaaGreatDoorK02
import Derived.Test.YtnbikkcalcpedaaGreatDoorK06
import Derived.Test.YtnbikkcalcpedaaGreatDoorK05
import Derived.Maps.Own
import Derived.Maps.OwnOps
import Derived.Deep.RegionLaw
import Derived.Test.YtnbikkcalcpedaaGreatDoorK10
import Derived.Test.YtnbikkcalcpedaaGreatDoorK14
import Derived.Test.YtnbikkcalcpedaaGreatDoorK15
/-! Package connect: the forest of joined vertices. -/
namespace Go.Proofs.YtnbikkcalcpedaaGreatDoor
open Go.RowKit

set_option maxHeartbeats 1000000 in
theorem root_any (g : Nat) (f : List Nat) (hf : Forest f) (hl : f.length = 12) (v : Nat) (hv : v < 12) (w : World) (h : Blk w g 266 (fcells f)) :
    Calls Tryz.prog 278 #[.pointer (some ⟨g, 0, none⟩), .int .i64 v] w fun e w' => e = .returned (.int .i64 (rt f v : Nat)) ∧ w = w' := by
  have HF := Lib.hid hf
  have HL := Lib.hid hl
  obtain ⟨r, hr⟩ : ∃ r, rt f v = r := ⟨_, rfl⟩
  rw [hr]
  have HR := Lib.hid hr
  clear hr hl hf
  go_enter Tryz.func278, Tryz.ntmps278
  go_wp2
  go_loop [1] (fun i => ∃ u : Nat, u < 12 ∧ i = .int .i64 u ∧ Hid (rt f v = rt f u)) (fun i => (intOf i).toNat)
  case atStart => exact ⟨v, hv, rfl, rfl⟩
  case round =>
    obtain ⟨u, hu, rfl, HU⟩ := hrel
    have hc := h.cell u
    rw [fcells_get (by rw [HL.out]; omega)] at hc
    have he := rt_eq HF.out u
    have hle := HF.out u
    obtain ⟨x, hx⟩ : ∃ x, f.getD u 0 = x := ⟨_, rfl⟩
    rw [hx] at hc he hle
    have hu' : (u : Int) < 12 := by omega
    clear hx
    by_cases hxu : x = u
    · rw [if_pos hxu] at he
      have HE := Lib.hid he
      have hb : ((x : Int) != (u : Int)) = false := by simp; omega
      clear he hxu
      go_wp2
      go_ret
      exact ⟨ret_int (by rw [← HR.out, HU.out, HE.out]), rfl⟩
    · rw [if_neg hxu] at he
      have HE := Lib.hid he
      have hb : ((x : Int) != (u : Int)) = true := by simp; omega
      have hlt : x < u := by omega
      clear he hxu
      go_wp2
      go_round
      case rel => exact ⟨x, by omega, rfl, by rw [Hid, HU.out, HE.out]⟩
      case measure => simp [intOf]; omega
set_option maxHeartbeats 1000000 in
theorem join_any (g : Nat) (f : List Nat) (hf : Forest f) (hl : f.length = 12) (a b : Nat) (ha : a < 12) (hb : b < 12) (w : World) (h : Blk w g 266 (fcells f)) :
    Calls Tryz.prog 277 #[.pointer (some ⟨g, 0, none⟩), .int .i64 a, .int .i64 b] w fun e w' => (∃ v, e = .returned v) ∧ w.setCell ⟨g, max (rt f a) (rt f b), none⟩ (.int .i64 ((min (rt f a) (rt f b) : Nat) : Int)) = w' := by
  have R1 := Lib.hid (root_any g f hf hl a ha w h)
  have R2 := Lib.hid (root_any g f hf hl b hb w h)
  have l1 := (rt_le hf a).1
  have l2 := (rt_le hf b).1
  obtain ⟨x, hx⟩ : ∃ x, rt f a = x := ⟨_, rfl⟩
  obtain ⟨y, hy⟩ : ∃ y, rt f b = y := ⟨_, rfl⟩
  rw [hx] at R1 l1 ⊢
  rw [hy] at R2 l2 ⊢
  have k1 : (x : Int) < 12 := by omega
  have k2 : (y : Int) < 12 := by omega
  have F1 := h.frozen x
  have F2 := h.frozen y
  have C1 := h.cell x
  have C2 := h.cell y
  rw [fcells_get (by omega)] at C1 C2
  clear hx hy hf hl
  rcases Nat.lt_trichotomy x y with hxy | rfl | hxy
  · have m1 : max x y = y := by omega
    have m2 : min x y = x := by omega
    have i1 : (x : Int) < (y : Int) := by omega
    have i2 : ¬ (y : Int) < (x : Int) := by omega
    rw [m1, m2]
    clear m1 m2
    go_enter Tryz.func277, Tryz.ntmps277
    go_wp2_with (first | (go_at_call 278; (with_reducible refine (R1.out).mono ?_); rintro e w' ⟨rfl, rfl⟩) | (go_at_call 278; (with_reducible refine (R2.out).mono ?_); rintro e w' ⟨rfl, rfl⟩))
    exact bodyPost_end (results_none rfl _ _ _) rfl ⟨⟨_, rfl⟩, rfl⟩
  · have m1 : max x x = x := by omega
    have m2 : min x x = x := by omega
    rw [m1, m2]
    clear m1 m2
    go_enter Tryz.func277, Tryz.ntmps277
    go_wp2_with (first | (go_at_call 278; (with_reducible refine (R1.out).mono ?_); rintro e w' ⟨rfl, rfl⟩) | (go_at_call 278; (with_reducible refine (R2.out).mono ?_); rintro e w' ⟨rfl, rfl⟩))
    exact bodyPost_end (results_none rfl _ _ _) rfl ⟨⟨_, rfl⟩, rfl⟩
  · have m1 : max x y = x := by omega
    have m2 : min x y = y := by omega
    have i1 : ¬ (x : Int) < (y : Int) := by omega
    have i2 : (y : Int) < (x : Int) := by omega
    rw [m1, m2]
    clear m1 m2
    go_enter Tryz.func277, Tryz.ntmps277
    go_wp2_with (first | (go_at_call 278; (with_reducible refine (R1.out).mono ?_); rintro e w' ⟨rfl, rfl⟩) | (go_at_call 278; (with_reducible refine (R2.out).mono ?_); rintro e w' ⟨rfl, rfl⟩))
    exact bodyPost_end (results_none rfl _ _ _) rfl ⟨⟨_, rfl⟩, rfl⟩

def growTo (k : Nat) : List Nat := (List.range 12).map fun i => if i < k then i else 0
theorem growTo_succ {k : Nat} (h : k < 12) : (growTo k).set k k = growTo (k + 1) := by
  have : ∀ k, k < 12 → (growTo k).set k k = growTo (k + 1) := by decide
  exact this k h
theorem growTo_length (k : Nat) : (growTo k).length = 12 := by simp [growTo]
set_option maxRecDepth 100000 in
set_option maxHeartbeats 1000000 in
theorem grown_any (w : World) :
    Calls Tryz.prog 276 #[] w fun e w' => e = .returned (.agg #[.int .i64 0, .int .i64 1, .int .i64 2, .int .i64 3, .int .i64 4, .int .i64 5, .int .i64 6, .int .i64 7, .int .i64 8, .int .i64 9, .int .i64 10, .int .i64 11]) ∧ Below w.heap.size w w' := by
  go_enter Tryz.func276, Tryz.ntmps276
  go_wp2
  go_loopw [3] (fun i wr => ∃ k : Nat, k ≤ 12 ∧ i = .int .i64 k ∧ Below w.heap.size w wr ∧ Blk wr (w.heap.size + 1) 266 (fcells (growTo k)) ∧ Blk wr w.heap.size 266 (fcells (growTo 0))) (fun i _ => 12 - (intOf i).toNat)
  case atStart =>
    refine ⟨0, by omega, rfl, ((Below.refl _ _).alloc (Nat.le_refl _) _).alloc (by simp) _, ?_, (Blk.new w 266 (fcells (growTo 0))).alloc _⟩
    have := Blk.new (w.alloc (.cells (fcells (growTo 0)) 266)) 266 (fcells (growTo 0))
    rw [show (w.alloc (.cells (fcells (growTo 0)) 266)).heap.size = w.heap.size + 1 from by simp] at this
    exact this
  case round =>
    obtain ⟨k, hk, rfl, hbel, g1, g0⟩ := hrel
    by_cases hlt : k < 12
    · have hi : (k : Int) < 12 := by omega
      have f1 := g1.frozen k
      have c1 := g1.cell k
      rw [fcells_get (by rw [growTo_length]; omega)] at c1
      go_wp2
      go_roundw
      case rel =>
        refine ⟨k + 1, by omega, by go_num, hbel.setCell (by simp) _, ?_, g0.far (by simp) _⟩
        have := g1.set_ k (.int .i64 (k : Nat))
        rwa [fcells_set, growTo_succ hlt] at this
      case measure => simp [intOf]; omega
    · obtain rfl : k = 12 := by omega
      have e : fcells (growTo 12) = #[.int .i64 0, .int .i64 1, .int .i64 2, .int .i64 3, .int .i64 4, .int .i64 5, .int .i64 6, .int .i64 7, .int .i64 8, .int .i64 9, .int .i64 10, .int .i64 11] := rfl
      have e0 : fcells (growTo 0) = #[.int .i64 0, .int .i64 0, .int .i64 0, .int .i64 0, .int .i64 0, .int .i64 0, .int .i64 0, .int .i64 0, .int .i64 0, .int .i64 0, .int .i64 0, .int .i64 0] := rfl
      rw [e] at g1
      rw [e0] at g0
      clear e e0
      have c0 := g1.cell 0
      have z0 := g0.frozen 0
      have y0 := g0.cell 0
      have c1 := g1.cell 1
      have z1 := g0.frozen 1
      have y1 := g0.cell 1
      have c2 := g1.cell 2
      have z2 := g0.frozen 2
      have y2 := g0.cell 2
      have c3 := g1.cell 3
      have z3 := g0.frozen 3
      have y3 := g0.cell 3
      have c4 := g1.cell 4
      have z4 := g0.frozen 4
      have y4 := g0.cell 4
      have c5 := g1.cell 5
      have z5 := g0.frozen 5
      have y5 := g0.cell 5
      have c6 := g1.cell 6
      have z6 := g0.frozen 6
      have y6 := g0.cell 6
      have c7 := g1.cell 7
      have z7 := g0.frozen 7
      have y7 := g0.cell 7
      have c8 := g1.cell 8
      have z8 := g0.frozen 8
      have y8 := g0.cell 8
      have c9 := g1.cell 9
      have z9 := g0.frozen 9
      have y9 := g0.cell 9
      have c10 := g1.cell 10
      have z10 := g0.frozen 10
      have y10 := g0.cell 10
      have c11 := g1.cell 11
      have z11 := g0.frozen 11
      have y11 := g0.cell 11
      go_wp2
      have G := ((((((((((((g0.set_ 0 (.int .i64 0)).set_ 1 (.int .i64 1)).set_ 2 (.int .i64 2)).set_ 3 (.int .i64 3)).set_ 4 (.int .i64 4)).set_ 5 (.int .i64 5)).set_ 6 (.int .i64 6)).set_ 7 (.int .i64 7)).set_ 8 (.int .i64 8)).set_ 9 (.int .i64 9)).set_ 10 (.int .i64 10)).set_ 11 (.int .i64 11))
      simp only [List.setIfInBounds_toArray, List.set_cons_zero, List.set_cons_succ] at G
      exact bodyPost_ret (results_cell_row rfl _ _ w.heap.size _ (fcells (List.range 12)) _ _ rfl G Tryz.underlying266 rfl (by kernel_rfl)) rfl ⟨rfl, ((((((((((((hbel.setCell (p := ⟨w.heap.size, 0, none⟩) (Nat.le_refl _) _).setCell (p := ⟨w.heap.size, 1, none⟩) (Nat.le_refl _) _).setCell (p := ⟨w.heap.size, 2, none⟩) (Nat.le_refl _) _).setCell (p := ⟨w.heap.size, 3, none⟩) (Nat.le_refl _) _).setCell (p := ⟨w.heap.size, 4, none⟩) (Nat.le_refl _) _).setCell (p := ⟨w.heap.size, 5, none⟩) (Nat.le_refl _) _).setCell (p := ⟨w.heap.size, 6, none⟩) (Nat.le_refl _) _).setCell (p := ⟨w.heap.size, 7, none⟩) (Nat.le_refl _) _).setCell (p := ⟨w.heap.size, 8, none⟩) (Nat.le_refl _) _).setCell (p := ⟨w.heap.size, 9, none⟩) (Nat.le_refl _) _).setCell (p := ⟨w.heap.size, 10, none⟩) (Nat.le_refl _) _).setCell (p := ⟨w.heap.size, 11, none⟩) (Nat.le_refl _) _)⟩
end Go.Proofs.YtnbikkcalcpedaaGreatDoor

/-! Package connect: the forest of a graph, and its parts. -/
namespace Go.Proofs.YtnbikkcalcpedaaGreatDoor
open Go.RowKit

set_option maxRecDepth 100000 in
set_option maxHeartbeats 2000000 in
theorem joined_any (n : Nat) (A : Option Addr) (c : Nat) (es : List E3) (hn : es.length ≤ 1048576) (hG : RightG n es) (w : World) (h : Reads w w.heap.size 3 A es.length (edgeCells es)) :
    Calls Tryz.prog 219 #[.agg #[.int .i64 n, .slice A es.length c]] w fun e w' => ∃ f, e = .returned (.agg (fcells f)) ∧ Joins es f ∧ Below w.heap.size w w' := by
  have HG := Lib.hid hG
  clear hG
  go_enter Tryz.func219, Tryz.ntmps219
  go_wp2_with (go_at_call 276; refine (grown_any _).mono ?_; rintro e w1 ⟨rfl, hb1⟩
               have gb := ((Blk.new w 24 #[.int .i64 n, .slice A es.length c]).alloc (.cells #[.int .i64 0, .int .i64 0, .int .i64 0, .int .i64 0, .int .i64 0, .int .i64 0, .int .i64 0, .int .i64 0, .int .i64 0, .int .i64 0, .int .i64 0, .int .i64 0] 266)).next hb1
               have gr := Blk.new (w.alloc (.cells #[.int .i64 n, .slice A es.length c] 24)) 266 #[.int .i64 0, .int .i64 0, .int .i64 0, .int .i64 0, .int .i64 0, .int .i64 0, .int .i64 0, .int .i64 0, .int .i64 0, .int .i64 0, .int .i64 0, .int .i64 0]
               rw [show (w.alloc (.cells #[.int .i64 n, .slice A es.length c] 24)).heap.size = w.heap.size + 1 from by simp] at gr
               have gr1 := gr.next hb1
               have hbel1 : Below w.heap.size w w1 := (((Below.refl _ _).alloc (Nat.le_refl _) _).alloc (by simp) _).trans (hb1.mono (by simp; omega))
               have gf : Blk (w1.alloc (.cells #[.int .i64 0, .int .i64 1, .int .i64 2, .int .i64 3, .int .i64 4, .int .i64 5, .int .i64 6, .int .i64 7, .int .i64 8, .int .i64 9, .int .i64 10, .int .i64 11] 266)) w1.heap.size 266 (fcells (List.range 12)) := Blk.new w1 266 #[.int .i64 0, .int .i64 1, .int .i64 2, .int .i64 3, .int .i64 4, .int .i64 5, .int .i64 6, .int .i64 7, .int .i64 8, .int .i64 9, .int .i64 10, .int .i64 11]
               have hsz1 := gr1.lt
               have gb1 := gb.alloc (.cells #[.int .i64 0, .int .i64 1, .int .i64 2, .int .i64 3, .int .i64 4, .int .i64 5, .int .i64 6, .int .i64 7, .int .i64 8, .int .i64 9, .int .i64 10, .int .i64 11] 266)
               have gr2 := gr1.alloc (.cells #[.int .i64 0, .int .i64 1, .int .i64 2, .int .i64 3, .int .i64 4, .int .i64 5, .int .i64 6, .int .i64 7, .int .i64 8, .int .i64 9, .int .i64 10, .int .i64 11] 266)
               have hbel2 := hbel1.alloc hbel1.size (.cells #[.int .i64 0, .int .i64 1, .int .i64 2, .int .i64 3, .int .i64 4, .int .i64 5, .int .i64 6, .int .i64 7, .int .i64 8, .int .i64 9, .int .i64 10, .int .i64 11] 266)
               have c1 := gb1.cell 1
               have d0 := gb1.cell 0
               clear gr gr1 gb hb1 hbel1)
  go_loopw [10] (fun i wr => ∃ (k : Nat) (f : List Nat), k ≤ es.length ∧ i = .int .i64 k ∧ Below w.heap.size w wr ∧ Blk wr w1.heap.size 266 (fcells f) ∧ Blk wr (w.heap.size + 1) 266 #[.int .i64 0, .int .i64 0, .int .i64 0, .int .i64 0, .int .i64 0, .int .i64 0, .int .i64 0, .int .i64 0, .int .i64 0, .int .i64 0, .int .i64 0, .int .i64 0] ∧ Hid (Joins (es.take k) f)) (fun i _ => es.length - (intOf i).toNat)
  case atStart => exact ⟨0, List.range 12, by omega, rfl, hbel2, gf, gr2, joins_nil⟩
  clear hbel2 gf gr2 gb1 c1 d0
  case round =>
    obtain ⟨k, f, hk, rfl, hbel, gf, gr, HJ⟩ := hrel
    have hsz := hbel.size
    by_cases hlt : k < es.length
    · obtain ⟨⟨x, y, m⟩, hx⟩ := get_of_lt hlt
      have hok := HG.out.ok _ (List.mem_of_getElem? hx)
      have hhi := HG.out.hi
      unfold okE at hok
      dsimp only at hok
      obtain ⟨a, rfl⟩ := Int.eq_ofNat_of_zero_le (show 0 ≤ x by omega)
      obtain ⟨b, rfl⟩ := Int.eq_ofNat_of_zero_le (show 0 ≤ y by omega)
      have ha : a < 12 := by omega
      have hb : b < 12 := by omega
      have HN := Lib.hid (joins_snoc HJ.out (e := ((a : Int), (b : Int), m)) ha hb rfl rfl)
      rw [← take_snoc hx] at HN
      obtain ⟨bb, off, rfl, hbb, q1, q2, q3⟩ := (h.below hbel).edge hx
      have hi : (k : Int) < (es.length : Int) := by omega
      have gf1 := gf.alloc (.cells #[.int .i64 a, .int .i64 b, .int .i64 m] 107)
      have gr1 := gr.alloc (.cells #[.int .i64 a, .int .i64 b, .int .i64 m] 107)
      have hbl1 := hbel.alloc hsz (.cells #[.int .i64 a, .int .i64 b, .int .i64 m] 107)
      have JC := Lib.hid (join_any w1.heap.size f HJ.out.forest HJ.out.len a b ha hb _ gf1)
      have hne : w.heap.size + 1 ≠ w1.heap.size := by omega
      dsimp only at q1 q2 q3
      clear hx h hbel hok
      go_wp2_with (go_at_call 277; (with_reducible refine (JC.out).mono ?_); rintro e w' ⟨⟨v, rfl⟩, rfl⟩)
      go_roundw
      case rel =>
        refine ⟨k + 1, joinF f a b, by omega, by go_num, hbl1.setCell (by simp; omega) _, ?_, gr1.far (by simpa using hne) _, HN.out⟩
        have := gf1.set_ (max (rt f a) (rt f b)) (.int .i64 ((min (rt f a) (rt f b) : Nat) : Int))
        rwa [fcells_set] at this
      case measure => simp [intOf]; omega
    · obtain rfl : k = es.length := by omega
      rw [List.take_length] at HJ
      obtain ⟨a0, a1, a2, a3, a4, a5, a6, a7, a8, a9, a10, a11, rfl⟩ := list12 HJ.out.len
      have hne : w.heap.size + 1 ≠ w1.heap.size := by omega
      replace gf : Blk wr w1.heap.size 266 #[.int .i64 (a0 : Nat), .int .i64 (a1 : Nat), .int .i64 (a2 : Nat), .int .i64 (a3 : Nat), .int .i64 (a4 : Nat), .int .i64 (a5 : Nat), .int .i64 (a6 : Nat), .int .i64 (a7 : Nat), .int .i64 (a8 : Nat), .int .i64 (a9 : Nat), .int .i64 (a10 : Nat), .int .i64 (a11 : Nat)] := gf
      have c0 := gf.cell 0
      have z0 := gr.frozen 0
      have y0 := gr.cell 0
      have c1 := gf.cell 1
      have z1 := gr.frozen 1
      have y1 := gr.cell 1
      have c2 := gf.cell 2
      have z2 := gr.frozen 2
      have y2 := gr.cell 2
      have c3 := gf.cell 3
      have z3 := gr.frozen 3
      have y3 := gr.cell 3
      have c4 := gf.cell 4
      have z4 := gr.frozen 4
      have y4 := gr.cell 4
      have c5 := gf.cell 5
      have z5 := gr.frozen 5
      have y5 := gr.cell 5
      have c6 := gf.cell 6
      have z6 := gr.frozen 6
      have y6 := gr.cell 6
      have c7 := gf.cell 7
      have z7 := gr.frozen 7
      have y7 := gr.cell 7
      have c8 := gf.cell 8
      have z8 := gr.frozen 8
      have y8 := gr.cell 8
      have c9 := gf.cell 9
      have z9 := gr.frozen 9
      have y9 := gr.cell 9
      have c10 := gf.cell 10
      have z10 := gr.frozen 10
      have y10 := gr.cell 10
      have c11 := gf.cell 11
      have z11 := gr.frozen 11
      have y11 := gr.cell 11
      go_wp2
      have G := ((((((((((((gr.set_ 0 (.int .i64 (a0 : Nat))).set_ 1 (.int .i64 (a1 : Nat))).set_ 2 (.int .i64 (a2 : Nat))).set_ 3 (.int .i64 (a3 : Nat))).set_ 4 (.int .i64 (a4 : Nat))).set_ 5 (.int .i64 (a5 : Nat))).set_ 6 (.int .i64 (a6 : Nat))).set_ 7 (.int .i64 (a7 : Nat))).set_ 8 (.int .i64 (a8 : Nat))).set_ 9 (.int .i64 (a9 : Nat))).set_ 10 (.int .i64 (a10 : Nat))).set_ 11 (.int .i64 (a11 : Nat)))
      simp only [List.setIfInBounds_toArray, List.set_cons_zero, List.set_cons_succ] at G
      exact bodyPost_ret (results_cell_row rfl _ _ (w.heap.size + 1) _ (fcells [a0, a1, a2, a3, a4, a5, a6, a7, a8, a9, a10, a11]) _ _ rfl G Tryz.underlying266 rfl (by kernel_rfl)) rfl ⟨_, rfl, HJ.out, ((((((((((((hbel.setCell (p := ⟨w.heap.size + 1, 0, none⟩) (Nat.le_succ _) _).setCell (p := ⟨w.heap.size + 1, 1, none⟩) (Nat.le_succ _) _).setCell (p := ⟨w.heap.size + 1, 2, none⟩) (Nat.le_succ _) _).setCell (p := ⟨w.heap.size + 1, 3, none⟩) (Nat.le_succ _) _).setCell (p := ⟨w.heap.size + 1, 4, none⟩) (Nat.le_succ _) _).setCell (p := ⟨w.heap.size + 1, 5, none⟩) (Nat.le_succ _) _).setCell (p := ⟨w.heap.size + 1, 6, none⟩) (Nat.le_succ _) _).setCell (p := ⟨w.heap.size + 1, 7, none⟩) (Nat.le_succ _) _).setCell (p := ⟨w.heap.size + 1, 8, none⟩) (Nat.le_succ _) _).setCell (p := ⟨w.heap.size + 1, 9, none⟩) (Nat.le_succ _) _).setCell (p := ⟨w.heap.size + 1, 10, none⟩) (Nat.le_succ _) _).setCell (p := ⟨w.heap.size + 1, 11, none⟩) (Nat.le_succ _) _)⟩
end Go.Proofs.YtnbikkcalcpedaaGreatDoor

/-! Values of sums of monomials at natural numbers: the number of trees at 1, 1, the number of sets at 2, 2; loops are externally active, bridges internally. No program is in sight. -/
namespace Go.Proofs.YtnbikkcalcpedaaGreatDoor
/-- The value at two natural numbers of a polynomial whose coefficients are natural numbers. -/
def valN (p : List Tm) (x y : Nat) : Nat := (p.map fun a => a.2.toNat * x ^ a.1.1 * y ^ a.1.2).sum
theorem valN_cons (a : Tm) (p : List Tm) (x y : Nat) : valN (a :: p) x y = a.2.toNat * x ^ a.1.1 * y ^ a.1.2 + valN p x y := by simp [valN]
theorem valN_step {p : List Tm} {k : Nat} {a : Tm} (h : p[k]? = some a) (x y : Nat) : valN (p.take (k + 1)) x y = valN (p.take k) x y + a.2.toNat * x ^ a.1.1 * y ^ a.1.2 := by
  rw [List.take_add_one, h]
  simp [valN]
theorem valN_take (p : List Tm) (k x y : Nat) : valN (p.take k) x y ≤ valN p x y := by
  have h : valN p x y = valN (p.take k) x y + valN (p.drop k) x y := by
    unfold valN
    rw [← List.sum_append, ← List.map_append, List.take_append_drop]
  omega
theorem valN_lin (x y : Nat) : ∀ (p : List Tm), (∀ a ∈ p, 0 ≤ a.2) → (valN p x y : Int) = linP (fun k => ((x ^ k.1 * y ^ k.2 : Nat) : Int)) p
  | [], _ => rfl
  | a :: p, h => by
    rw [valN_cons, linP_cons, ← valN_lin x y p fun b hb => h b (by simp [hb])]
    have ha := h a (by simp)
    obtain ⟨⟨i, j⟩, z⟩ := a
    obtain ⟨n, rfl⟩ := Int.eq_ofNat_of_zero_le (show (0 : Int) ≤ z from ha)
    dsimp only
    rw [Int.toNat_natCast, Int.natCast_add, Nat.mul_assoc, Int.natCast_mul]
theorem sum_cast : ∀ (l : List Nat), (((l.sum : Nat)) : Int) = (l.map fun n : Nat => (n : Int)).sum
  | [] => rfl
  | a :: l => by simp [sum_cast l]
theorem valN_sum (ks : List (Nat × Nat)) (x y : Nat) (h : ∀ a ∈ sumP ks, 0 ≤ a.2) : valN (sumP ks) x y = (ks.map fun k => x ^ k.1 * y ^ k.2).sum := by
  have h1 := valN_lin x y (sumP ks) h
  rw [linP_sum] at h1
  have h2 := sum_cast (ks.map fun k => x ^ k.1 * y ^ k.2)
  rw [List.map_map] at h2
  have h3 : ((fun n : Nat => (n : Int)) ∘ fun k : Nat × Nat => x ^ k.1 * y ^ k.2) = fun k => ((x ^ k.1 * y ^ k.2 : Nat) : Int) := rfl
  rw [h3] at h2
  omega
theorem val_one (ks : List (Nat × Nat)) (h : ∀ a ∈ sumP ks, 0 ≤ a.2) : valN (sumP ks) 1 1 = ks.length := by
  rw [valN_sum ks 1 1 h]
  have h1 : ∀ l : List (Nat × Nat), (l.map fun k => 1 ^ k.1 * 1 ^ k.2).sum = l.length := fun l => by
    induction l with
    | nil => rfl
    | cons a l ih => rw [List.map_cons, List.sum_cons, ih, Nat.one_pow, Nat.one_pow, List.length_cons]; omega
  exact h1 ks
theorem val_two {n : Nat} {E : List (Nat × Nat)} (hb : BdP n E) (hn : 0 < n) (hx : ∃ t, IsTr n E t) (ks : List (Nat × Nat)) (hk : ks = (treesT n E).map fun t => ((insA E t).length, (outA E t).length)) (h : ∀ a ∈ sumP ks, 0 ≤ a.2) : valN (sumP ks) 2 2 = 2 ^ E.length := by
  rw [valN_sum ks 2 2 h, hk, List.map_map, ← iv_sum hb hn hx]
  congr 1
  refine List.map_congr_left fun t _ => ?_
  show 2 ^ (insA E t).length * 2 ^ (outA E t).length = _
  rw [Nat.pow_add]
/-- A loop is externally active; a bridge internally. -/
theorem loop_out {E : List (Nat × Nat)} {t : List Nat} {s a : Nat} (hs : s < E.length) (hl : E.getD s (0, 0) = (a, a)) (ht : s ∉ t) : s ∈ outA E t := by
  unfold outA
  rw [List.mem_filter]
  refine ⟨List.mem_range.2 hs, ?_⟩
  rw [Bool.and_eq_true]
  refine ⟨by simpa using ht, decide_eq_true ?_⟩
  intro f hf hsep
  rw [hl] at hsep
  exact absurd .refl hsep
theorem bridge_in {E : List (Nat × Nat)} {t : List Nat} {s : Nat} (ht : s ∈ t) (h : ∀ i, i < E.length → Sep E t (E.getD i (0, 0)).1 (E.getD i (0, 0)).2 s → i = s) : s ∈ insA E t := by
  unfold insA
  rw [List.mem_filter]
  refine ⟨ht, decide_eq_true ?_⟩
  intro i hi hsep
  exact Nat.le_of_eq (h i hi hsep).symm
end Go.Proofs.YtnbikkcalcpedaaGreatDoor

/-! ref08.Ends and Size: as far as the number of single edges goes; ref08.small and Few. -/
namespace Go.Proofs.YtnbikkcalcpedaaGreatDoor
open Go.RowKit

/-- The number of single edges. -/
def sizeE (es : List E3) : Nat := (es.map fun e => e.2.2.toNat).sum
theorem sizeE_take {es : List E3} {k : Nat} {e : E3} (h : es[k]? = some e) : sizeE (es.take (k + 1)) = sizeE (es.take k) + e.2.2.toNat := by
  rw [take_snoc h]; simp [sizeE]
theorem sizeE_bd {N : Int} {es : List E3} (h : ∀ e ∈ es, okE N e) : sizeE es ≤ 50 * es.length := by
  induction es with
  | nil => simp [sizeE]
  | cons e es ih =>
    have h1 := h e (by simp)
    have h2 := ih fun x hx => h x (by simp [hx])
    unfold okE at h1
    unfold sizeE at *
    simp at *
    omega
theorem info_pair2 : (Tryz.prog.info? 50).map (fun i => (i.zero, i.size, i.bytes)) = some (some (.agg #[.int .i64 0, .int .i64 0]), 2, 16) := by kernel_rfl

set_option maxRecDepth 100000 in
set_option maxHeartbeats 4000000 in
theorem rends_any (n : Int) (A : Option Addr) (c : Nat) (es : List E3) (hn : es.length ≤ 40) (N : Int) (hok : ∀ e ∈ es, okE N e) (w : World) (h : Reads w w.heap.size 3 A es.length (edgeCells es)) :
    Calls Tryz.prog 24 #[.agg #[.int .i64 n, .slice A es.length c]] w fun e w' => ∃ A' c', e = .returned (.slice A' (sizeE es) c') ∧ Below w.heap.size w w' := by
  have HO := Lib.hid hok
  have HSZ : Hid (∀ k, sizeE (es.take k) ≤ 2000) := fun k => Nat.le_trans (sizeE_bd (N := N) fun e he => hok e (List.mem_of_mem_take he)) (by rw [List.length_take]; omega)
  have g0 := Blk.new w 24 #[.int .i64 n, .slice A es.length c]
  clear hok
  go_enter Tryz.func24, Tryz.ntmps24
  go_wp2
  go_loopw [3, 4] (fun s i wr => ∃ (k : Nat) (A' : Option Addr) (c' : Nat) (m : Nat) (vs : List Value), k ≤ es.length ∧ i = .int .i64 k ∧ s = .slice A' m c' ∧ Hid (sizeE (es.take k) = m) ∧ wr.ownsRow w.heap.size 50 2 (.slice A' m c') m vs ∧ Below w.heap.size w wr ∧ Blk wr w.heap.size 24 #[.int .i64 n, .slice A es.length c]) (fun _ i _ => es.length - (intOf i).toNat)
  case atStart => exact ⟨0, none, 0, 0, [], by omega, rfl, rfl, rfl, World.ownsRow_nil _ _ _ _, (Below.refl _ _).alloc (Nat.le_refl _) _, g0⟩
  case round =>
    obtain ⟨k, A', c', m, vs, hk, rfl, rfl, HM, hown, hbel, g1⟩ := hrel
    clear g0
    have c1 := g1.cell 1
    by_cases hlt : k < es.length
    · obtain ⟨⟨x, y, z⟩, hx⟩ := get_of_lt hlt
      have hokx := HO.out _ (List.mem_of_getElem? hx)
      unfold okE at hokx
      dsimp only at hokx
      obtain ⟨zn, rfl⟩ := Int.eq_ofNat_of_zero_le (show 0 ≤ z by omega)
      have hst := sizeE_take hx
      rw [HM.out] at hst
      dsimp only at hst
      rw [Int.toNat_natCast] at hst
      have hmax := HSZ.out (k + 1)
      rw [hst] at hmax
      have HST := Lib.hid hst
      have HX := Lib.hid hx
      have hi : (k : Int) < (es.length : Int) := by omega
      clear hst hx hokx
      go_wp2
      obtain ⟨wo, rfl⟩ : ∃ wo : World, wo = wr := ⟨_, rfl⟩
      go_loopw [3, 5] (fun s i wr => ∃ (j : Nat) (A' : Option Addr) (c' : Nat) (vs : List Value), j ≤ zn ∧ i = .int .i64 j ∧ s = .slice A' (m + j) c' ∧ wr.ownsRow w.heap.size 50 2 (.slice A' (m + j) c') (m + j) vs ∧ Below w.heap.size w wr ∧ Blk wr w.heap.size 24 #[.int .i64 n, .slice A es.length c]) (fun _ i _ => zn - (intOf i).toNat)
      case atStart => exact ⟨0, A', c', vs, by omega, rfl, rfl, hown, hbel, g1⟩
      case round =>
        clear hown hbel g1 c1
        obtain ⟨j, A', c', vs, hj, rfl, rfl, hown, hbel, g1⟩ := hrel
        have hsz := hbel.size
        have c1 := g1.cell 1
        obtain ⟨bb, off, rfl, hbb, q1, q2, q3⟩ := (h.below hbel).edge HX.out
        dsimp only at q1 q2 q3
        by_cases hlt2 : j < zn
        · have hi2 : (j : Int) < (zn : Int) := by omega
          have hownA : (wr.drew.alloc (.cells #[.int .i64 x, .int .i64 y] 50)).ownsRow w.heap.size 50 2 (.slice A' (m + j) c') (m + j) vs := World.ownsRow.alloc (World.ownsRow.drew hown) _
          have hz : w.heap.size ≤ (wr.drew.alloc (.cells #[.int .i64 x, .int .i64 y] 50)).heap.size := by show _ ≤ (wr.alloc _).heap.size; simp; omega
          go_wp2
          go_region_law (refine append_step2 rfl (.tmp 23) (.tmp 37) _ _ rfl w.heap.size 50 50 Tryz.underlying48 Tryz.underlying48 info_pair2 rfl (by omega) A' c' (m + j) vs rfl (by exact hownA) _ [.int .i64 x, .int .i64 y] rfl (by exact Reads.boxN wr.drew #[.int .i64 x, .int .i64 y] 50) (by simp [Value.oneCell']) (by omega) (by exact hz) ?_; intro A3 c3 W3 hown3 hgr3 hb3 _)
          all_goals (
            have g2 : Blk W3 w.heap.size 24 #[.int .i64 n, .slice (some ⟨bb, off, none⟩) es.length c] := Blk.grown (h := (g1.drew.alloc (.cells #[.int .i64 x, .int .i64 y] 50))) hgr3 (own_blk_ne hownA (g1.drew.alloc _) (by decide))
            have hb4 : Below w.heap.size w W3 := (hbel.drew.alloc hsz (.cells #[.int .i64 x, .int .i64 y] 50)).trans hb3
            go_wp2
            go_roundw
            case rel => exact ⟨j + 1, A3, c3, _, by omega, by go_num, rfl, hown3, hb4, g2⟩
            case measure => simp [intOf]; omega)
        · obtain rfl : j = zn := by omega
          go_wp2
          go_roundw
          case rel => exact ⟨k + 1, A', c', m + j, vs, by omega, by go_num, rfl, HST.out, hown, hbel, g1⟩
          case measure => simp [intOf]; omega
    · obtain rfl : k = es.length := by omega
      rw [List.take_length] at HM
      go_wp2
      go_ret
      exact ⟨A', c', by rw [HM.out]; rfl, hbel⟩
set_option maxHeartbeats 1000000 in
theorem rsize_any (n : Int) (A : Option Addr) (c : Nat) (es : List E3) (hn : es.length ≤ 40) (N : Int) (hok : ∀ e ∈ es, okE N e) (w : World) (h : Reads w w.heap.size 3 A es.length (edgeCells es)) :
    Calls Tryz.prog 20 #[.agg #[.int .i64 n, .slice A es.length c]] w fun e w' => e = .returned (.int .i64 (sizeE es : Nat)) ∧ Below w.heap.size w w' := by
  have EC := Lib.hid (rends_any n A c es hn N hok)
  go_enter Tryz.func20, Tryz.ntmps20
  go_wp2_with fail
  refine (EC.out _ ((h.alloc (Nat.le_refl _) _).more (by simp))).mono ?_
  rintro e w1 ⟨A1, c1, rfl, hb1⟩
  have hbel1 : Below w.heap.size w w1 := ((Below.refl _ _).alloc (Nat.le_refl _) _).trans (hb1.mono (by simp))
  go_wp2
  go_ret
  exact ⟨rfl, hbel1⟩

/-- Few vertices and single edges, or an error. -/
def smallB (n : Int) (es : List E3) (a b : Int) : Bool := if 40 < es.length then false else if checkG n es ≠ 0 then true else decide (n ≤ a) && decide ((sizeE es : Int) ≤ b)
set_option maxRecDepth 100000 in
set_option maxHeartbeats 1000000 in
theorem rsmall_any (n : Int) (A : Option Addr) (c : Nat) (es : List E3) (a b : Int) (w : World) (h : Reads w w.heap.size 3 A es.length (edgeCells es)) :
    Calls Tryz.prog 80 #[.agg #[.int .i64 n, .slice A es.length c], .int .i64 a, .int .i64 b] w fun e w' => e = .returned (.bool (smallB n es a b)) ∧ Below w.heap.size w w' := by
  have g0 := Blk.new w 24 #[.int .i64 n, .slice A es.length c]
  by_cases h1 : 40 < es.length
  · have hd : smallB n es a b = false := by unfold smallB; rw [if_pos h1]
    rw [hd]
    have hi : (40 : Int) < (es.length : Int) := by omega
    go_enter Tryz.func80, Tryz.ntmps80
    go_wp2
    go_ret
    exact ⟨rfl, (Below.refl _ _).alloc (Nat.le_refl _) _⟩
  have hi : ¬ (40 : Int) < (es.length : Int) := by omega
  have GC := rgcheck_any n A c es (by omega)
  by_cases h2 : checkG n es = 0
  · have hd : smallB n es a b = (decide (n ≤ a) && decide ((sizeE es : Int) ≤ b)) := by unfold smallB; rw [if_neg h1, if_neg (fun hc => hc h2)]
    rw [hd]
    rw [h2] at GC
    have hG := right_of h2
    have SC := Lib.hid (rsize_any n A c es (by omega) n hG.ok)
    have GC := Lib.hid GC
    clear h2 hd hG
    by_cases h3 : n ≤ a
    · have hd3 : decide (n ≤ a) = true := decide_eq_true h3
      go_enter Tryz.func80, Tryz.ntmps80
      go_wp2_with fail
      refine (GC.out _ ((h.alloc (Nat.le_refl _) _).more (by simp))).mono ?_
      rintro e w1 ⟨rfl, hb1⟩
      have hbel1 : Below w.heap.size w w1 := ((Below.refl _ _).alloc (Nat.le_refl _) _).trans (hb1.mono (by simp))
      have g1 := g0.next hb1
      have c0 := g1.cell 0
      have c1 := g1.cell 1
      go_wp2_with fail
      refine (SC.out _ ((h.below hbel1).more hbel1.size)).mono ?_
      rintro e w2 ⟨rfl, hb2⟩
      go_wp2
      go_ret
      exact ⟨ret_bool (by simp [h3]), hbel1.trans (hb2.mono hbel1.size)⟩
    · have hd3 : decide (n ≤ a) = false := decide_eq_false h3
      go_enter Tryz.func80, Tryz.ntmps80
      go_wp2_with fail
      refine (GC.out _ ((h.alloc (Nat.le_refl _) _).more (by simp))).mono ?_
      rintro e w1 ⟨rfl, hb1⟩
      have hbel1 : Below w.heap.size w w1 := ((Below.refl _ _).alloc (Nat.le_refl _) _).trans (hb1.mono (by simp))
      have g1 := g0.next hb1
      have c0 := g1.cell 0
      have c1 := g1.cell 1
      go_wp2
      go_ret
      exact ⟨ret_bool (by rw [hd3]; rfl), hbel1⟩
  · have hd : smallB n es a b = true := by unfold smallB; rw [if_neg h1, if_pos h2]
    rw [hd]
    obtain ⟨q, hq⟩ : ∃ q, checkG n es = q := ⟨_, rfl⟩
    rw [hq] at GC h2
    have hb : (q != 0) = true := by simpa using h2
    have GC := Lib.hid GC
    clear h2 hd hq
    go_enter Tryz.func80, Tryz.ntmps80
    go_wp2_with fail
    refine (GC.out _ ((h.alloc (Nat.le_refl _) _).more (by simp))).mono ?_
    rintro e w1 ⟨rfl, hb1⟩
    have hbel1 : Below w.heap.size w w1 := ((Below.refl _ _).alloc (Nat.le_refl _) _).trans (hb1.mono (by simp))
    go_wp2
    go_ret
    exact ⟨rfl, hbel1⟩
end Go.Proofs.YtnbikkcalcpedaaGreatDoor

