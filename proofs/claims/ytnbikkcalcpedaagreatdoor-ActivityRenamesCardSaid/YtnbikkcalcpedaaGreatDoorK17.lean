/-
  Texts of this claim, put together: Conn, RankP, SortO, Chips, Val, PushE.
-/
import Derived.Test.YtnbikkcalcpedaaGreatDoorK14
import Derived.Test.YtnbikkcalcpedaaGreatDoorK02
import Derived.Test.YtnbikkcalcpedaaGreatDoorK06
import Derived.Test.YtnbikkcalcpedaaGreatDoorK05
import Derived.Maps.Own
import Derived.Maps.OwnOps
import Derived.Deep.RegionLaw
import Derived.Test.YtnbikkcalcpedaaGreatDoorK15
import Derived.Test.YtnbikkcalcpedaaGreatDoorK09
import Derived.Test.YtnbikkcalcpedaaGreatDoorK08
import Derived.BigQuiet
import Derived.Test.YtnbikkcalcpedaaGreatDoorK10
/-! Package connect: the forest of joined vertices. -/
namespace Go.Proofs.YtnbikkcalcpedaaGreatDoor
open Go.RowKit

set_option maxHeartbeats 1000000 in
theorem root_any (g : Nat) (f : List Nat) (hf : Forest f) (hl : f.length = 12) (v : Nat) (hv : v < 12) (w : World) (h : Blk w g 266 (fcells f)) :
    Calls Tryz.prog 278 #[.pointer (some ⟨g, 0, none⟩), .int .i64 v] w fun e w' => e = .returned (.int .i64 (rt f v : Nat)) ∧ w = w' := by
  have HF := Lib.hid hf
  have HL := Lib.hid hl
  obtain ⟨r, hr⟩ : ∃ r, rt f v = r := ⟨_, rfl⟩
  rw [hr]
  have HR := Lib.hid hr
  clear hr hl hf
  go_enter Tryz.func278, Tryz.ntmps278
  go_wp2
  go_loop [1] (fun i => ∃ u : Nat, u < 12 ∧ i = .int .i64 u ∧ Hid (rt f v = rt f u)) (fun i => (intOf i).toNat)
  case atStart => exact ⟨v, hv, rfl, rfl⟩
  case round =>
    obtain ⟨u, hu, rfl, HU⟩ := hrel
    have hc := h.cell u
    rw [fcells_get (by rw [HL.out]; omega)] at hc
    have he := rt_eq HF.out u
    have hle := HF.out u
    obtain ⟨x, hx⟩ : ∃ x, f.getD u 0 = x := ⟨_, rfl⟩
    rw [hx] at hc he hle
    have hu' : (u : Int) < 12 := by omega
    clear hx
    by_cases hxu : x = u
    · rw [if_pos hxu] at he
      have HE := Lib.hid he
      have hb : ((x : Int) != (u : Int)) = false := by simp; omega
      clear he hxu
      go_wp2
      go_ret
      exact ⟨ret_int (by rw [← HR.out, HU.out, HE.out]), rfl⟩
    · rw [if_neg hxu] at he
      have HE := Lib.hid he
      have hb : ((x : Int) != (u : Int)) = true := by simp; omega
      have hlt : x < u := by omega
      clear he hxu
      go_wp2
      go_round
      case rel => exact ⟨x, by omega, rfl, by rw [Hid, HU.out, HE.out]⟩
      case measure => simp [intOf]; omega
set_option maxHeartbeats 1000000 in
theorem join_any (g : Nat) (f : List Nat) (hf : Forest f) (hl : f.length = 12) (a b : Nat) (ha : a < 12) (hb : b < 12) (w : World) (h : Blk w g 266 (fcells f)) :
    Calls Tryz.prog 277 #[.pointer (some ⟨g, 0, none⟩), .int .i64 a, .int .i64 b] w fun e w' => (∃ v, e = .returned v) ∧ w.setCell ⟨g, max (rt f a) (rt f b), none⟩ (.int .i64 ((min (rt f a) (rt f b) : Nat) : Int)) = w' := by
  have R1 := Lib.hid (root_any g f hf hl a ha w h)
  have R2 := Lib.hid (root_any g f hf hl b hb w h)
  have l1 := (rt_le hf a).1
  have l2 := (rt_le hf b).1
  obtain ⟨x, hx⟩ : ∃ x, rt f a = x := ⟨_, rfl⟩
  obtain ⟨y, hy⟩ : ∃ y, rt f b = y := ⟨_, rfl⟩
  rw [hx] at R1 l1 ⊢
  rw [hy] at R2 l2 ⊢
  have k1 : (x : Int) < 12 := by omega
  have k2 : (y : Int) < 12 := by omega
  have F1 := h.frozen x
  have F2 := h.frozen y
  have C1 := h.cell x
  have C2 := h.cell y
  rw [fcells_get (by omega)] at C1 C2
  clear hx hy hf hl
  rcases Nat.lt_trichotomy x y with hxy | rfl | hxy
  · have m1 : max x y = y := by omega
    have m2 : min x y = x := by omega
    have i1 : (x : Int) < (y : Int) := by omega
    have i2 : ¬ (y : Int) < (x : Int) := by omega
    rw [m1, m2]
    clear m1 m2
    go_enter Tryz.func277, Tryz.ntmps277
    go_wp2_with (first | (go_at_call 278; (with_reducible refine (R1.out).mono ?_); rintro e w' ⟨rfl, rfl⟩) | (go_at_call 278; (with_reducible refine (R2.out).mono ?_); rintro e w' ⟨rfl, rfl⟩))
    exact bodyPost_end (results_none rfl _ _ _) rfl ⟨⟨_, rfl⟩, rfl⟩
  · have m1 : max x x = x := by omega
    have m2 : min x x = x := by omega
    rw [m1, m2]
    clear m1 m2
    go_enter Tryz.func277, Tryz.ntmps277
    go_wp2_with (first | (go_at_call 278; (with_reducible refine (R1.out).mono ?_); rintro e w' ⟨rfl, rfl⟩) | (go_at_call 278; (with_reducible refine (R2.out).mono ?_); rintro e w' ⟨rfl, rfl⟩))
    exact bodyPost_end (results_none rfl _ _ _) rfl ⟨⟨_, rfl⟩, rfl⟩
  · have m1 : max x y = x := by omega
    have m2 : min x y = y := by omega
    have i1 : ¬ (x : Int) < (y : Int) := by omega
    have i2 : (y : Int) < (x : Int) := by omega
    rw [m1, m2]
    clear m1 m2
    go_enter Tryz.func277, Tryz.ntmps277
    go_wp2_with (first | (go_at_call 278; (with_reducible refine (R1.out).mono ?_); rintro e w' ⟨rfl, rfl⟩) | (go_at_call 278; (with_reducible refine (R2.out).mono ?_); rintro e w' ⟨rfl, rfl⟩))
    exact bodyPost_end (results_none rfl _ _ _) rfl ⟨⟨_, rfl⟩, rfl⟩

def growTo (k : Nat) : List Nat := (List.range 12).map fun i => if i < k then i else 0
theorem growTo_succ {k : Nat} (h : k < 12) : (growTo k).set k k = growTo (k + 1) := by
  have : ∀ k, k < 12 → (growTo k).set k k = growTo (k + 1) := by decide
  exact this k h
theorem growTo_length (k : Nat) : (growTo k).length = 12 := by simp [growTo]
set_option maxRecDepth 100000 in
set_option maxHeartbeats 1000000 in
theorem grown_any (w : World) :
    Calls Tryz.prog 276 #[] w fun e w' => e = .returned (.agg #[.int .i64 0, .int .i64 1, .int .i64 2, .int .i64 3, .int .i64 4, .int .i64 5, .int .i64 6, .int .i64 7, .int .i64 8, .int .i64 9, .int .i64 10, .int .i64 11]) ∧ Below w.heap.size w w' := by
  go_enter Tryz.func276, Tryz.ntmps276
  go_wp2
  go_loopw [3] (fun i wr => ∃ k : Nat, k ≤ 12 ∧ i = .int .i64 k ∧ Below w.heap.size w wr ∧ Blk wr (w.heap.size + 1) 266 (fcells (growTo k)) ∧ Blk wr w.heap.size 266 (fcells (growTo 0))) (fun i _ => 12 - (intOf i).toNat)
  case atStart =>
    refine ⟨0, by omega, rfl, ((Below.refl _ _).alloc (Nat.le_refl _) _).alloc (by simp) _, ?_, (Blk.new w 266 (fcells (growTo 0))).alloc _⟩
    have := Blk.new (w.alloc (.cells (fcells (growTo 0)) 266)) 266 (fcells (growTo 0))
    rw [show (w.alloc (.cells (fcells (growTo 0)) 266)).heap.size = w.heap.size + 1 from by simp] at this
    exact this
  case round =>
    obtain ⟨k, hk, rfl, hbel, g1, g0⟩ := hrel
    by_cases hlt : k < 12
    · have hi : (k : Int) < 12 := by omega
      have f1 := g1.frozen k
      have c1 := g1.cell k
      rw [fcells_get (by rw [growTo_length]; omega)] at c1
      go_wp2
      go_roundw
      case rel =>
        refine ⟨k + 1, by omega, by go_num, hbel.setCell (by simp) _, ?_, g0.far (by simp) _⟩
        have := g1.set_ k (.int .i64 (k : Nat))
        rwa [fcells_set, growTo_succ hlt] at this
      case measure => simp [intOf]; omega
    · obtain rfl : k = 12 := by omega
      have e : fcells (growTo 12) = #[.int .i64 0, .int .i64 1, .int .i64 2, .int .i64 3, .int .i64 4, .int .i64 5, .int .i64 6, .int .i64 7, .int .i64 8, .int .i64 9, .int .i64 10, .int .i64 11] := rfl
      have e0 : fcells (growTo 0) = #[.int .i64 0, .int .i64 0, .int .i64 0, .int .i64 0, .int .i64 0, .int .i64 0, .int .i64 0, .int .i64 0, .int .i64 0, .int .i64 0, .int .i64 0, .int .i64 0] := rfl
      rw [e] at g1
      rw [e0] at g0
      clear e e0
      have c0 := g1.cell 0
      have z0 := g0.frozen 0
      have y0 := g0.cell 0
      have c1 := g1.cell 1
      have z1 := g0.frozen 1
      have y1 := g0.cell 1
      have c2 := g1.cell 2
      have z2 := g0.frozen 2
      have y2 := g0.cell 2
      have c3 := g1.cell 3
      have z3 := g0.frozen 3
      have y3 := g0.cell 3
      have c4 := g1.cell 4
      have z4 := g0.frozen 4
      have y4 := g0.cell 4
      have c5 := g1.cell 5
      have z5 := g0.frozen 5
      have y5 := g0.cell 5
      have c6 := g1.cell 6
      have z6 := g0.frozen 6
      have y6 := g0.cell 6
      have c7 := g1.cell 7
      have z7 := g0.frozen 7
      have y7 := g0.cell 7
      have c8 := g1.cell 8
      have z8 := g0.frozen 8
      have y8 := g0.cell 8
      have c9 := g1.cell 9
      have z9 := g0.frozen 9
      have y9 := g0.cell 9
      have c10 := g1.cell 10
      have z10 := g0.frozen 10
      have y10 := g0.cell 10
      have c11 := g1.cell 11
      have z11 := g0.frozen 11
      have y11 := g0.cell 11
      go_wp2
      have G := ((((((((((((g0.set_ 0 (.int .i64 0)).set_ 1 (.int .i64 1)).set_ 2 (.int .i64 2)).set_ 3 (.int .i64 3)).set_ 4 (.int .i64 4)).set_ 5 (.int .i64 5)).set_ 6 (.int .i64 6)).set_ 7 (.int .i64 7)).set_ 8 (.int .i64 8)).set_ 9 (.int .i64 9)).set_ 10 (.int .i64 10)).set_ 11 (.int .i64 11))
      simp only [List.setIfInBounds_toArray, List.set_cons_zero, List.set_cons_succ] at G
      exact bodyPost_ret (results_cell_row rfl _ _ w.heap.size _ (fcells (List.range 12)) _ _ rfl G Tryz.underlying266 rfl (by kernel_rfl)) rfl ⟨rfl, ((((((((((((hbel.setCell (p := ⟨w.heap.size, 0, none⟩) (Nat.le_refl _) _).setCell (p := ⟨w.heap.size, 1, none⟩) (Nat.le_refl _) _).setCell (p := ⟨w.heap.size, 2, none⟩) (Nat.le_refl _) _).setCell (p := ⟨w.heap.size, 3, none⟩) (Nat.le_refl _) _).setCell (p := ⟨w.heap.size, 4, none⟩) (Nat.le_refl _) _).setCell (p := ⟨w.heap.size, 5, none⟩) (Nat.le_refl _) _).setCell (p := ⟨w.heap.size, 6, none⟩) (Nat.le_refl _) _).setCell (p := ⟨w.heap.size, 7, none⟩) (Nat.le_refl _) _).setCell (p := ⟨w.heap.size, 8, none⟩) (Nat.le_refl _) _).setCell (p := ⟨w.heap.size, 9, none⟩) (Nat.le_refl _) _).setCell (p := ⟨w.heap.size, 10, none⟩) (Nat.le_refl _) _).setCell (p := ⟨w.heap.size, 11, none⟩) (Nat.le_refl _) _)⟩
end Go.Proofs.YtnbikkcalcpedaaGreatDoor

/-! Package connect: the forest of a graph, and its parts. -/
namespace Go.Proofs.YtnbikkcalcpedaaGreatDoor
open Go.RowKit

set_option maxRecDepth 100000 in
set_option maxHeartbeats 2000000 in
theorem joined_any (n : Nat) (A : Option Addr) (c : Nat) (es : List E3) (hn : es.length ≤ 1048576) (hG : RightG n es) (w : World) (h : Reads w w.heap.size 3 A es.length (edgeCells es)) :
    Calls Tryz.prog 219 #[.agg #[.int .i64 n, .slice A es.length c]] w fun e w' => ∃ f, e = .returned (.agg (fcells f)) ∧ Joins es f ∧ Below w.heap.size w w' := by
  have HG := Lib.hid hG
  clear hG
  go_enter Tryz.func219, Tryz.ntmps219
  go_wp2_with (go_at_call 276; refine (grown_any _).mono ?_; rintro e w1 ⟨rfl, hb1⟩
               have gb := ((Blk.new w 24 #[.int .i64 n, .slice A es.length c]).alloc (.cells #[.int .i64 0, .int .i64 0, .int .i64 0, .int .i64 0, .int .i64 0, .int .i64 0, .int .i64 0, .int .i64 0, .int .i64 0, .int .i64 0, .int .i64 0, .int .i64 0] 266)).next hb1
               have gr := Blk.new (w.alloc (.cells #[.int .i64 n, .slice A es.length c] 24)) 266 #[.int .i64 0, .int .i64 0, .int .i64 0, .int .i64 0, .int .i64 0, .int .i64 0, .int .i64 0, .int .i64 0, .int .i64 0, .int .i64 0, .int .i64 0, .int .i64 0]
               rw [show (w.alloc (.cells #[.int .i64 n, .slice A es.length c] 24)).heap.size = w.heap.size + 1 from by simp] at gr
               have gr1 := gr.next hb1
               have hbel1 : Below w.heap.size w w1 := (((Below.refl _ _).alloc (Nat.le_refl _) _).alloc (by simp) _).trans (hb1.mono (by simp; omega))
               have gf : Blk (w1.alloc (.cells #[.int .i64 0, .int .i64 1, .int .i64 2, .int .i64 3, .int .i64 4, .int .i64 5, .int .i64 6, .int .i64 7, .int .i64 8, .int .i64 9, .int .i64 10, .int .i64 11] 266)) w1.heap.size 266 (fcells (List.range 12)) := Blk.new w1 266 #[.int .i64 0, .int .i64 1, .int .i64 2, .int .i64 3, .int .i64 4, .int .i64 5, .int .i64 6, .int .i64 7, .int .i64 8, .int .i64 9, .int .i64 10, .int .i64 11]
               have hsz1 := gr1.lt
               have gb1 := gb.alloc (.cells #[.int .i64 0, .int .i64 1, .int .i64 2, .int .i64 3, .int .i64 4, .int .i64 5, .int .i64 6, .int .i64 7, .int .i64 8, .int .i64 9, .int .i64 10, .int .i64 11] 266)
               have gr2 := gr1.alloc (.cells #[.int .i64 0, .int .i64 1, .int .i64 2, .int .i64 3, .int .i64 4, .int .i64 5, .int .i64 6, .int .i64 7, .int .i64 8, .int .i64 9, .int .i64 10, .int .i64 11] 266)
               have hbel2 := hbel1.alloc hbel1.size (.cells #[.int .i64 0, .int .i64 1, .int .i64 2, .int .i64 3, .int .i64 4, .int .i64 5, .int .i64 6, .int .i64 7, .int .i64 8, .int .i64 9, .int .i64 10, .int .i64 11] 266)
               have c1 := gb1.cell 1
               have d0 := gb1.cell 0
               clear gr gr1 gb hb1 hbel1)
  go_loopw [10] (fun i wr => ∃ (k : Nat) (f : List Nat), k ≤ es.length ∧ i = .int .i64 k ∧ Below w.heap.size w wr ∧ Blk wr w1.heap.size 266 (fcells f) ∧ Blk wr (w.heap.size + 1) 266 #[.int .i64 0, .int .i64 0, .int .i64 0, .int .i64 0, .int .i64 0, .int .i64 0, .int .i64 0, .int .i64 0, .int .i64 0, .int .i64 0, .int .i64 0, .int .i64 0] ∧ Hid (Joins (es.take k) f)) (fun i _ => es.length - (intOf i).toNat)
  case atStart => exact ⟨0, List.range 12, by omega, rfl, hbel2, gf, gr2, joins_nil⟩
  clear hbel2 gf gr2 gb1 c1 d0
  case round =>
    obtain ⟨k, f, hk, rfl, hbel, gf, gr, HJ⟩ := hrel
    have hsz := hbel.size
    by_cases hlt : k < es.length
    · obtain ⟨⟨x, y, m⟩, hx⟩ := get_of_lt hlt
      have hok := HG.out.ok _ (List.mem_of_getElem? hx)
      have hhi := HG.out.hi
      unfold okE at hok
      dsimp only at hok
      obtain ⟨a, rfl⟩ := Int.eq_ofNat_of_zero_le (show 0 ≤ x by omega)
      obtain ⟨b, rfl⟩ := Int.eq_ofNat_of_zero_le (show 0 ≤ y by omega)
      have ha : a < 12 := by omega
      have hb : b < 12 := by omega
      have HN := Lib.hid (joins_snoc HJ.out (e := ((a : Int), (b : Int), m)) ha hb rfl rfl)
      rw [← take_snoc hx] at HN
      obtain ⟨bb, off, rfl, hbb, q1, q2, q3⟩ := (h.below hbel).edge hx
      have hi : (k : Int) < (es.length : Int) := by omega
      have gf1 := gf.alloc (.cells #[.int .i64 a, .int .i64 b, .int .i64 m] 107)
      have gr1 := gr.alloc (.cells #[.int .i64 a, .int .i64 b, .int .i64 m] 107)
      have hbl1 := hbel.alloc hsz (.cells #[.int .i64 a, .int .i64 b, .int .i64 m] 107)
      have JC := Lib.hid (join_any w1.heap.size f HJ.out.forest HJ.out.len a b ha hb _ gf1)
      have hne : w.heap.size + 1 ≠ w1.heap.size := by omega
      dsimp only at q1 q2 q3
      clear hx h hbel hok
      go_wp2_with (go_at_call 277; (with_reducible refine (JC.out).mono ?_); rintro e w' ⟨⟨v, rfl⟩, rfl⟩)
      go_roundw
      case rel =>
        refine ⟨k + 1, joinF f a b, by omega, by go_num, hbl1.setCell (by simp; omega) _, ?_, gr1.far (by simpa using hne) _, HN.out⟩
        have := gf1.set_ (max (rt f a) (rt f b)) (.int .i64 ((min (rt f a) (rt f b) : Nat) : Int))
        rwa [fcells_set] at this
      case measure => simp [intOf]; omega
    · obtain rfl : k = es.length := by omega
      rw [List.take_length] at HJ
      obtain ⟨a0, a1, a2, a3, a4, a5, a6, a7, a8, a9, a10, a11, rfl⟩ := list12 HJ.out.len
      have hne : w.heap.size + 1 ≠ w1.heap.size := by omega
      replace gf : Blk wr w1.heap.size 266 #[.int .i64 (a0 : Nat), .int .i64 (a1 : Nat), .int .i64 (a2 : Nat), .int .i64 (a3 : Nat), .int .i64 (a4 : Nat), .int .i64 (a5 : Nat), .int .i64 (a6 : Nat), .int .i64 (a7 : Nat), .int .i64 (a8 : Nat), .int .i64 (a9 : Nat), .int .i64 (a10 : Nat), .int .i64 (a11 : Nat)] := gf
      have c0 := gf.cell 0
      have z0 := gr.frozen 0
      have y0 := gr.cell 0
      have c1 := gf.cell 1
      have z1 := gr.frozen 1
      have y1 := gr.cell 1
      have c2 := gf.cell 2
      have z2 := gr.frozen 2
      have y2 := gr.cell 2
      have c3 := gf.cell 3
      have z3 := gr.frozen 3
      have y3 := gr.cell 3
      have c4 := gf.cell 4
      have z4 := gr.frozen 4
      have y4 := gr.cell 4
      have c5 := gf.cell 5
      have z5 := gr.frozen 5
      have y5 := gr.cell 5
      have c6 := gf.cell 6
      have z6 := gr.frozen 6
      have y6 := gr.cell 6
      have c7 := gf.cell 7
      have z7 := gr.frozen 7
      have y7 := gr.cell 7
      have c8 := gf.cell 8
      have z8 := gr.frozen 8
      have y8 := gr.cell 8
      have c9 := gf.cell 9
      have z9 := gr.frozen 9
      have y9 := gr.cell 9
      have c10 := gf.cell 10
      have z10 := gr.frozen 10
      have y10 := gr.cell 10
      have c11 := gf.cell 11
      have z11 := gr.frozen 11
      have y11 := gr.cell 11
      go_wp2
      have G := ((((((((((((gr.set_ 0 (.int .i64 (a0 : Nat))).set_ 1 (.int .i64 (a1 : Nat))).set_ 2 (.int .i64 (a2 : Nat))).set_ 3 (.int .i64 (a3 : Nat))).set_ 4 (.int .i64 (a4 : Nat))).set_ 5 (.int .i64 (a5 : Nat))).set_ 6 (.int .i64 (a6 : Nat))).set_ 7 (.int .i64 (a7 : Nat))).set_ 8 (.int .i64 (a8 : Nat))).set_ 9 (.int .i64 (a9 : Nat))).set_ 10 (.int .i64 (a10 : Nat))).set_ 11 (.int .i64 (a11 : Nat)))
      simp only [List.setIfInBounds_toArray, List.set_cons_zero, List.set_cons_succ] at G
      exact bodyPost_ret (results_cell_row rfl _ _ (w.heap.size + 1) _ (fcells [a0, a1, a2, a3, a4, a5, a6, a7, a8, a9, a10, a11]) _ _ rfl G Tryz.underlying266 rfl (by kernel_rfl)) rfl ⟨_, rfl, HJ.out, ((((((((((((hbel.setCell (p := ⟨w.heap.size + 1, 0, none⟩) (Nat.le_succ _) _).setCell (p := ⟨w.heap.size + 1, 1, none⟩) (Nat.le_succ _) _).setCell (p := ⟨w.heap.size + 1, 2, none⟩) (Nat.le_succ _) _).setCell (p := ⟨w.heap.size + 1, 3, none⟩) (Nat.le_succ _) _).setCell (p := ⟨w.heap.size + 1, 4, none⟩) (Nat.le_succ _) _).setCell (p := ⟨w.heap.size + 1, 5, none⟩) (Nat.le_succ _) _).setCell (p := ⟨w.heap.size + 1, 6, none⟩) (Nat.le_succ _) _).setCell (p := ⟨w.heap.size + 1, 7, none⟩) (Nat.le_succ _) _).setCell (p := ⟨w.heap.size + 1, 8, none⟩) (Nat.le_succ _) _).setCell (p := ⟨w.heap.size + 1, 9, none⟩) (Nat.le_succ _) _).setCell (p := ⟨w.heap.size + 1, 10, none⟩) (Nat.le_succ _) _).setCell (p := ⟨w.heap.size + 1, 11, none⟩) (Nat.le_succ _) _)⟩
end Go.Proofs.YtnbikkcalcpedaaGreatDoor

/-! Ranks in the interval of a tree; the numbers of trees by activities follow from the numbers of sets by ranks. No program is in sight. -/
namespace Go.Proofs.YtnbikkcalcpedaaGreatDoor
section
variable {n : Nat} {E : List (Nat × Nat)} {t S : List Nat} {e f : Nat}
/-- The single edges of a tree that a set has. -/
def inS (S t : List Nat) : List Nat := t.filter fun f => decide (f ∈ S)
theorem mem_inS {x : Nat} : x ∈ inS S t ↔ x ∈ t ∧ x ∈ S := by unfold inS; rw [List.mem_filter, decide_eq_true_eq]
/-- In the interval of a tree the set joins what it has of the tree. -/
theorem iv_cn (hb : BdP n E) (ht : IsTr n E t) (hS : ∀ x ∈ S, x < E.length) (h : InIv E S t) (a b : Nat) : Cn (pk E S) a b ↔ Cn (pk E (inS S t)) a b := by
  refine ⟨fun hc => ?_, fun hc => cn_sub (fun x hx => (mem_inS.1 hx).2) hc⟩
  have hT := ht.foe hb
  have key : ∀ e ∈ S, Cn (pk E (inS S t)) (E.getD e (0, 0)).1 (E.getD e (0, 0)).2 := by
    intro e he
    by_cases het : e ∈ t
    · have h1 := inc_cn (E := E) (t := inS S t) (e := e) (mem_inS.2 ⟨het, he⟩) (.inl rfl)
      have : oth (E.getD e (0, 0)) (E.getD e (0, 0)).1 = (E.getD e (0, 0)).2 := by unfold oth; rw [if_pos rfl]
      rwa [this] at h1
    · have hel := hS e he
      obtain ⟨ha, hb2⟩ := getD_bd hb hel
      have hsep := sep_cn hT (ht.cn hb ha hb2)
      refine cn_sub (fun f hf => ?_) hsep
      obtain ⟨hft, hs⟩ := mem_sep.1 hf
      refine mem_inS.2 ⟨hft, Classical.byContradiction fun hfS => ?_⟩
      have h1 := h.1 f hft hfS e hel hs
      have h2 := h.2 e hel he het f hft hs
      have : e = f := by omega
      exact het (this ▸ hft)
  induction hc with
  | refl => exact .refl
  | step _ hs ih =>
    rcases hs with hs | hs
    · obtain ⟨f, hf, hp⟩ := mem_pk.1 hs
      have := key f hf
      rw [hp] at this
      exact ih.trans this
    · obtain ⟨f, hf, hp⟩ := mem_pk.1 hs
      have := key f hf
      rw [hp] at this
      exact ih.trans this.symm
/-- So its parts are one more than the single edges of the tree that it lacks. -/
theorem iv_parts (hb : BdP n E) (ht : IsTr n E t) (hS : ∀ x ∈ S, x < E.length) (h : InIv E S t) : partsP n (pk E S) + (inS S t).length = n := by
  have hT := ht.foe hb
  have hsub : (inS S t).Sublist t := List.filter_sublist
  rw [partsP_congr (iv_cn hb ht hS h)]
  have := (fo_parts (n := n) (ps := pk E (inS S t)) (bd_pk hb fun x hx => ht.set.2 x (mem_inS.1 hx).1)).2.1 (ht.fo.sub (pk_sub hsub))
  rwa [pk_length] at this
/-! Weights. -/
/-- The product of weights over numbers below m. -/
theorem subs_weight (c : Nat → Bool → Nat) : ∀ m, ((subsN m).map fun s => prodN (fun e => c e (decide (e ∈ s))) m).sum = prodN (fun e => c e true + c e false) m
  | 0 => by simp [subsN, prodN]
  | m + 1 => by
    have e0 : ∀ (s : List Nat), (∀ x ∈ s, x < m) → ∀ k, k ≤ m → prodN (fun e => c e (decide (e ∈ s ++ [m]))) k = prodN (fun e => c e (decide (e ∈ s))) k := by
      intro s _ k
      induction k with
      | zero => exact fun _ => rfl
      | succ k ih =>
        intro hk
        rw [prodN, prodN, ih (by omega)]
        congr 2
        rw [decide_eq_decide, List.mem_append, List.mem_singleton]
        exact ⟨fun h => h.resolve_right (by omega), .inl⟩
    have e1 : ((subsN m).map fun s => prodN (fun e => c e (decide (e ∈ s))) (m + 1)) = (subsN m).map fun s => prodN (fun e => c e (decide (e ∈ s))) m * c m false := by
      refine List.map_congr_left fun s hs => ?_
      rw [prodN]
      have : m ∉ s := fun h => by have := subsN_lt m s hs m h; omega
      rw [decide_eq_false this]
    have e2 : (((subsN m).map fun s => s ++ [m]).map fun s => prodN (fun e => c e (decide (e ∈ s))) (m + 1)) = (subsN m).map fun s => prodN (fun e => c e (decide (e ∈ s))) m * c m true := by
      rw [List.map_map]
      refine List.map_congr_left fun s hs => ?_
      show prodN (fun e => c e (decide (e ∈ s ++ [m]))) (m + 1) = _
      rw [prodN, e0 s (subsN_lt m s hs) m (Nat.le_refl m), decide_eq_true (by simp)]
    have e3 : ∀ (l : List (List Nat)) (f : List Nat → Nat) (k : Nat), (l.map fun s => f s * k).sum = (l.map f).sum * k := by
      intro l f k
      induction l with
      | nil => simp
      | cons a l ih => rw [List.map_cons, List.sum_cons, ih, List.map_cons, List.sum_cons, Nat.add_mul]
    rw [subsN, List.map_append, List.sum_append, e1, e2, e3, e3, subs_weight c m, prodN, Nat.mul_add]
    omega
theorem prodN_zero {f : Nat → Nat} {e : Nat} (h : f e = 0) : ∀ m, e < m → prodN f m = 0
  | m + 1, hm => by
    rw [prodN]
    by_cases he : e = m
    · rw [← he, h, Nat.mul_zero]
    · rw [prodN_zero h m (by omega), Nat.zero_mul]
theorem prodN_congr {f g : Nat → Nat} : ∀ m, (∀ e, e < m → f e = g e) → prodN f m = prodN g m
  | 0, _ => rfl
  | m + 1, h => by rw [prodN, prodN, prodN_congr m fun e he => h e (by omega), h m (by omega)]
theorem prodN_two (p q : Nat → Bool) (u v : Nat) (h : ∀ e, ¬ (p e = true ∧ q e = true)) : ∀ m, prodN (fun e => if p e = true then u else if q e = true then v else 1) m = u ^ ((List.range m).filter p).length * v ^ ((List.range m).filter q).length
  | 0 => rfl
  | m + 1 => by
    rw [prodN, prodN_two p q u v h m, List.range_succ, List.filter_append, List.filter_append, List.length_append, List.length_append, Nat.pow_add, Nat.pow_add]
    have := h m
    cases hp : p m <;> cases hq : q m
    · simp [hp, hq]
    · simp [hp, hq]; rw [Nat.mul_assoc]
    · simp [hp, hq]; rw [Nat.mul_assoc, Nat.mul_assoc, Nat.mul_comm u]
    · simp [hp, hq] at this
/-- The weight of a single edge in the interval of a tree. -/
def ivW (E : List (Nat × Nat)) (t : List Nat) (u v : Nat) (e : Nat) (b : Bool) : Nat := if ivC E t e b = true then (if e ∈ t then (if b = true then 1 else u) else (if b = true then v else 1)) else 0
theorem iv_weight (ht : SetN E.length t) (u v : Nat) : ((subsN E.length).map fun S => if InIv E S t then u ^ ((List.range E.length).filter fun e => decide (e ∈ t) && !decide (e ∈ S)).length * v ^ ((List.range E.length).filter fun e => !decide (e ∈ t) && decide (e ∈ S)).length else 0).sum = (1 + u) ^ (insA E t).length * (1 + v) ^ (outA E t).length := by
  have h1 := subs_weight (ivW E t u v) E.length
  have h2 : ((subsN E.length).map fun S => if InIv E S t then u ^ ((List.range E.length).filter fun e => decide (e ∈ t) && !decide (e ∈ S)).length * v ^ ((List.range E.length).filter fun e => !decide (e ∈ t) && decide (e ∈ S)).length else 0) = (subsN E.length).map fun s => prodN (fun e => ivW E t u v e (decide (e ∈ s))) E.length := by
    refine List.map_congr_left fun S _ => ?_
    by_cases h : InIv E S t
    · rw [if_pos h]
      have h3 := List.all_eq_true.1 ((iv_iff ht.2).1 h)
      rw [← prodN_two (fun e => decide (e ∈ t) && !decide (e ∈ S)) (fun e => !decide (e ∈ t) && decide (e ∈ S)) u v (fun e => by by_cases h : e ∈ t <;> simp [h])]
      refine prodN_congr _ fun e he => ?_
      unfold ivW
      rw [if_pos (h3 e (List.mem_range.2 he))]
      by_cases h5 : e ∈ t <;> by_cases h6 : e ∈ S <;> simp [h5, h6]
    · rw [if_neg h]
      have h3 : ¬ ∀ e ∈ List.range E.length, ivC E t e (decide (e ∈ S)) = true := fun hc => h ((iv_iff ht.2).2 (List.all_eq_true.2 hc))
      obtain ⟨e, he⟩ := Classical.not_forall.1 h3
      obtain ⟨hel, hc⟩ := Classical.not_imp.1 he
      exact (prodN_zero (f := fun e => ivW E t u v e (decide (e ∈ S))) (e := e) (by unfold ivW; rw [if_neg hc]) _ (List.mem_range.1 hel)).symm
  rw [h2, h1]
  have h4 : prodN (fun e => ivW E t u v e true + ivW E t u v e false) E.length = prodN (fun e => if (decide (e ∈ t) && decide (IAct E t e)) = true then 1 + u else if (!decide (e ∈ t) && decide (EAct E t e)) = true then 1 + v else 1) E.length := by
    refine prodN_congr _ fun e _ => ?_
    unfold ivW ivC
    by_cases h5 : e ∈ t
    · by_cases h6 : IAct E t e <;> simp [h5, h6]
    · by_cases h6 : EAct E t e <;> simp [h5, h6]
      omega
  rw [h4, prodN_two _ _ _ _ (fun e => by by_cases h : e ∈ t <;> simp [h]), ← ins_range ht]
  rfl
end
end Go.Proofs.YtnbikkcalcpedaaGreatDoor

/-! slices.Sort on at most 12 ints of the call's own, none of them too: they come out ascending, and only their block turns. -/
namespace Go.Proofs.YtnbikkcalcpedaaGreatDoor
open Go.RowKit

end Go.Proofs.YtnbikkcalcpedaaGreatDoor

/-! The error of a divisor: chips.Check. -/
namespace Go.Proofs.YtnbikkcalcpedaaGreatDoor
open Go.RowKit

end Go.Proofs.YtnbikkcalcpedaaGreatDoor

/-! graph.Valence; package recurrent: joins, valence, stable, catches. -/
namespace Go.Proofs.YtnbikkcalcpedaaGreatDoor
open Go.RowKit

end Go.Proofs.YtnbikkcalcpedaaGreatDoor

/-! What Push returns, as a relation, with its errors. -/
namespace Go.Proofs.YtnbikkcalcpedaaGreatDoor
open Go.RowKit

/-- How far the pushing has come. -/
def PState (es : List E3) (n q : Nat) (r : Option (List Int × List Int)) (cs ss : List Int) (m : Nat) : Prop :=
  cs.length = n ∧ ss.length = n ∧ ((m ≤ 1048576 ∧ PushR es n q cs ss m r ∧ Bd (1048576 + 14400 * m) cs ∧ Bd m ss) ∨ (1048576 < m ∧ r = none))
theorem PState.next {es : List E3} {n q : Nat} {r : Option (List Int × List Int)} {cs ss : List Int} {m : Nat} (h : PState es n q r cs ss m) (hn : n ≤ 12) {N : Int} (hok : ∀ e ∈ es, okE N e) (hm : m ≤ 1048576) (hne : leftC es n q cs ≠ []) :
    PState es n q r (stepC es n q cs) (bumpL ss (leftC es n q cs)) (m + (leftC es n q cs).length) := by
  obtain ⟨h1, h2, h3⟩ := h
  refine ⟨by rw [stepC_length]; exact h1, by rw [bumpL_length]; exact h2, ?_⟩
  rcases h3 with ⟨_, h4, h5, h6⟩ | ⟨h4, _⟩
  · have hp := List.length_pos_iff.2 hne
    by_cases hov : m + (leftC es n q cs).length ≤ 1048576
    · exact .inl ⟨hov, h4.step_inv hne hov, (stepC_bd hok hn (by omega) h5).mono (by push_cast; omega), (bumpL_bd (by omega) h6 _).mono (by push_cast; omega)⟩
    · exact .inr ⟨by omega, h4.over_inv hne (by omega)⟩
  · omega

/-- What Push returns. -/
def PushE (n : Int) (es : List E3) (q : Int) (cs ds ss : List Int) (e : Int) : Prop :=
  (burnErr n es q cs ≠ 0 ∧ ds = [] ∧ ss = [] ∧ e = burnErr n es q cs) ∨
  (burnErr n es q cs = 0 ∧ ∃ r, PushR es n.toNat q.toNat cs (List.replicate n.toNat 0) 0 r ∧ ((r = some (ds, ss) ∧ e = 0) ∨ (r = none ∧ ds = [] ∧ ss = [] ∧ e = 12)))
end Go.Proofs.YtnbikkcalcpedaaGreatDoor

/-! Plain laws of pushing right configurations: a push comes to an end; adding chips first or later leads to the same. No program is in sight. -/
namespace Go.Proofs.YtnbikkcalcpedaaGreatDoor

end Go.Proofs.YtnbikkcalcpedaaGreatDoor

