/-
  Texts of this claim, put together: Ear31, RAdd01, Awake31, RPlus01, RPlus06, RenP, RWhole31.
-/
import Derived.Test.YtnbikkcalcpedaaGreatDoorK40
import Derived.Test.YtnbikkcalcpedaaGreatDoorK32
import Derived.Test.YtnbikkcalcpedaaGreatDoorK34
import Derived.Test.YtnbikkcalcpedaaGreatDoorK09
import Derived.Test.YtnbikkcalcpedaaGreatDoorK06
import Derived.Laws.IdiomStrings
import Derived.Test.YtnbikkcalcpedaaGreatDoorK07
import Derived.Deep.RegionHeld3
import Derived.Test.YtnbikkcalcpedaaGreatDoorK21
import Derived.Test.YtnbikkcalcpedaaGreatDoorK23
import Derived.Test.YtnbikkcalcpedaaGreatDoorK29
import Derived.Test.YtnbikkcalcpedaaGreatDoorK25
import Derived.Test.YtnbikkcalcpedaaGreatDoorK24
/-! The examples of chapter 31, each by itself. -/
namespace Go.Proofs.YtnbikkcalcpedaaGreatDoor
open Go.RowKit
def tri31 : List E3 := [(0, 1, 1), (0, 2, 1), (1, 2, 1)]
theorem a31_i : intE 3 tri31 [0, 1] = ([0, 1], 0) := by decide +kernel
theorem a31_x : extE 3 tri31 [1, 2] = ([0], 0) := by decide +kernel
theorem a31_j : joinErr 3 tri31 = 0 := by decide +kernel
theorem a31_m : (endsL tri31).length ≤ 8 := by decide +kernel
theorem a31_l : (tallE 3 tri31).1.length ≤ 16384 := by decide +kernel
theorem a31_w : wtL 3 (endsL tri31) = [(2, 0), (1, 0), (0, 1)] := by decide +kernel
theorem a31_p : polyE 3 tri31 = ([((2, 0), 1), ((1, 0), 1), ((0, 1), 1)], 0) := by
  unfold polyE
  rw [if_neg (fun hc => hc a31_j), show (3 : Int).toNat = 3 from rfl, a31_w]
  simp [sumP, plusP, abv]
theorem a31_t : intvE 3 tri31 [0, 1, 2] = ([1, 2], 0) := by decide +kernel
theorem a31_u : intvE 3 tri31 [] = ([0, 1], 0) := by decide +kernel
theorem Blk.newB {w : World} {g : Nat} {t : TypeId} {cs : Array Value} (hg : g = w.heap.size) : Blk (w.alloc (.cells cs t)) g t cs := by subst hg; exact Blk.new w t cs
theorem row_litB {W : World} {g : Nat} {xs : List Int} (h : Blk W g 3 (ints xs).toArray) : Reads W W.heap.size 1 (some ⟨g, 0, none⟩) xs.length (ints xs) :=
  ⟨by simp [ints], fun _ => ⟨g, 0, rfl, h.lt, fun j u hu => by rw [Nat.zero_add, h.cell j]; simpa using hu⟩⟩
theorem tms_litB {W : World} {g : Nat} {p : List Tm} (h : Blk W g 87 (tmCells p).toArray) : Reads W W.heap.size 3 (some ⟨g, 0, none⟩) p.length (tmCells p) :=
  ⟨by rw [tmCells_length], fun _ => ⟨g, 0, rfl, h.lt, fun j u hu => by rw [Nat.zero_add, h.cell j]; simpa using hu⟩⟩
theorem below_al {w w' : World} {o : Obj} (h : Below (w.alloc o).heap.size (w.alloc o) w') : Below w.heap.size w w' := ((Below.refl _ _).alloc (Nat.le_refl _) o).trans (h.mono (by simp))
set_option maxHeartbeats 1000000 in
theorem tri31_any (w : World) : Calls Tryz.prog 52 #[] w fun e w' => ∃ A c, e = .returned (.agg #[.int .i64 3, .slice A 3 c]) ∧ Reads w' w'.heap.size 3 A tri31.length (edgeCells tri31) ∧ Below w.heap.size w w' := by
  go_enter Tryz.func52, Tryz.ntmps52
  go_wp2
  refine bodyPost_ret (results_g rfl rfl ((Blk.new w 24 #[.int .i64 3, .slice (some ⟨w.heap.size + 1, 0, none⟩) 3 3]).alloc _) rfl) rfl ?_
  have hB := Blk.new (w.alloc (.cells #[.int .i64 3, .slice (some ⟨w.heap.size + 1, 0, none⟩) 3 3] 24)) 107 (edgeCells tri31).toArray
  rw [show (w.alloc (.cells #[.int .i64 3, .slice (some ⟨w.heap.size + 1, 0, none⟩) 3 3] 24)).heap.size = w.heap.size + 1 from by simp] at hB
  refine ⟨some ⟨w.heap.size + 1, 0, none⟩, 3, rfl, ⟨by simp [edgeCells_length], fun _ => ⟨w.heap.size + 1, 0, rfl, by simp, fun j u hu => ?_⟩⟩, ((Below.refl _ _).alloc (Nat.le_refl _) _).alloc (by simp) _⟩
  rw [Nat.zero_add]
  refine (hB.cell j).trans ?_
  rw [← hu, List.getElem?_toArray]
theorem c31_int (A : Option Addr) (c : Nat) (w : World) (h : Reads w w.heap.size 3 A tri31.length (edgeCells tri31)) : Calls Tryz.prog 22 #[.agg #[.int .i64 3, .slice A 3 c], .slice (some ⟨w.heap.size, 0, none⟩) 2 2] (w.alloc (.cells (ints [0, 1]).toArray 3)) fun e w' => ∃ A1 c1, e = .returned (.tuple #[.slice A1 2 c1, .int .i64 0]) ∧ Reads w' w'.heap.size 1 A1 2 (ints [0, 1]) ∧ Below w.heap.size w w' := by
  have hb := internal_any 3 A c tri31 (by decide) (some ⟨w.heap.size, 0, none⟩) 2 [0, 1] (by decide) (w.alloc (.cells (ints [0, 1]).toArray 3)) ((h.alloc (Nat.le_refl _) _).more (by simp)) (row_litB (xs := [0, 1]) (Blk.newB rfl))
  rw [a31_i] at hb
  refine hb.mono ?_
  rintro e w' ⟨A1, c1, he, o, hb⟩
  exact ⟨A1, c1, he, o.reads, below_al hb⟩
theorem c31_ext (A : Option Addr) (c : Nat) (w : World) (h : Reads w w.heap.size 3 A tri31.length (edgeCells tri31)) : Calls Tryz.prog 23 #[.agg #[.int .i64 3, .slice A 3 c], .slice (some ⟨w.heap.size, 0, none⟩) 2 2] (w.alloc (.cells (ints [1, 2]).toArray 3)) fun e w' => ∃ A1 c1, e = .returned (.tuple #[.slice A1 1 c1, .int .i64 0]) ∧ Reads w' w'.heap.size 1 A1 1 (ints [0]) ∧ Below w.heap.size w w' := by
  have hb := external_any 3 A c tri31 (by decide) (some ⟨w.heap.size, 0, none⟩) 2 [1, 2] (by decide) (w.alloc (.cells (ints [1, 2]).toArray 3)) ((h.alloc (Nat.le_refl _) _).more (by simp)) (row_litB (xs := [1, 2]) (Blk.newB rfl))
  rw [a31_x] at hb
  refine hb.mono ?_
  rintro e w' ⟨A1, c1, he, o, hb⟩
  exact ⟨A1, c1, he, o.reads, below_al hb⟩
theorem c31_poly (A : Option Addr) (c : Nat) (w : World) (h : Reads w w.heap.size 3 A tri31.length (edgeCells tri31)) : Calls Tryz.prog 15 #[.agg #[.int .i64 3, .slice A 3 c]] w fun e w' => ∃ A1 c1, e = .returned (.tuple #[.slice A1 3 c1, .int .i64 0]) ∧ Reads w' w'.heap.size 3 A1 3 (tmCells [((2, 0), 1), ((1, 0), 1), ((0, 1), 1)]) ∧ Below w.heap.size w w' := by
  have hb := polynomial_any 3 A c tri31 (by decide) (fun _ => ⟨by decide, a31_m⟩) w h
  rw [a31_p] at hb
  refine hb.mono ?_
  rintro e w' ⟨A1, c1, he, o, hb⟩
  exact ⟨A1, c1, he, o.reads, hb⟩
theorem c31_tv (A : Option Addr) (c : Nat) (w : World) (h : Reads w w.heap.size 3 A tri31.length (edgeCells tri31)) : Calls Tryz.prog 53 #[.agg #[.int .i64 3, .slice A 3 c], .slice (some ⟨w.heap.size, 0, none⟩) 3 3] (w.alloc (.cells (ints [0, 1, 2]).toArray 3)) fun e w' => ∃ A1 c1, e = .returned (.tuple #[.slice A1 2 c1, .int .i64 0]) ∧ Reads w' w'.heap.size 1 A1 2 (ints [1, 2]) ∧ Below w.heap.size w w' := by
  have hb := interval_any 3 A c tri31 (by decide) a31_l (fun _ => Nat.le_trans a31_m (by omega)) (some ⟨w.heap.size, 0, none⟩) 3 [0, 1, 2] (by decide) (w.alloc (.cells (ints [0, 1, 2]).toArray 3)) ((h.alloc (Nat.le_refl _) _).more (by simp)) (row_litB (xs := [0, 1, 2]) (Blk.newB rfl))
  rw [a31_t] at hb
  refine hb.mono ?_
  rintro e w' ⟨A1, c1, he, o, hb⟩
  exact ⟨A1, c1, he, o, below_al hb⟩
theorem c31_uv (A : Option Addr) (c : Nat) (w : World) (h : Reads w w.heap.size 3 A tri31.length (edgeCells tri31)) : Calls Tryz.prog 53 #[.agg #[.int .i64 3, .slice A 3 c], .slice none 0 0] w fun e w' => ∃ A1 c1, e = .returned (.tuple #[.slice A1 2 c1, .int .i64 0]) ∧ Reads w' w'.heap.size 1 A1 2 (ints [0, 1]) ∧ Below w.heap.size w w' := by
  have hb := interval_any 3 A c tri31 (by decide) a31_l (fun _ => Nat.le_trans a31_m (by omega)) none 0 [] (by decide) w h Reads.nil_
  rw [a31_u] at hb
  exact hb
theorem c31_eq (l : List Int) (hl : l.length ≤ 100) (A : Option Addr) (c : Nat) (w : World) (h : Reads w w.heap.size 1 A l.length (ints l)) : Calls Tryz.prog 40 #[.slice A l.length c, .slice (some ⟨w.heap.size, 0, none⟩) l.length l.length] (w.alloc (.cells (ints l).toArray 3)) fun e w' => e = .returned (.bool true) ∧ Below w.heap.size w w' := by
  have hb := iequal_any A c l (some ⟨w.heap.size, 0, none⟩) l.length l (by omega) (w.alloc (.cells (ints l).toArray 3)) ((h.alloc (Nat.le_refl _) _).more (by simp)) (row_litB (xs := l) (Blk.newB rfl))
  refine hb.mono ?_
  rintro e w' ⟨he, hb⟩
  exact ⟨by rw [he, decide_eq_true rfl], below_al hb⟩
theorem c31_same (p : List Tm) (hl : p.length ≤ 100) (A : Option Addr) (c : Nat) (w : World) (h : Reads w w.heap.size 3 A p.length (tmCells p)) : Calls Tryz.prog 41 #[.slice A p.length c, .slice (some ⟨w.heap.size, 0, none⟩) p.length p.length] (w.alloc (.cells (tmCells p).toArray 87)) fun e w' => e = .returned (.bool true) ∧ Below w.heap.size w w' := by
  have hb := rsame06_any A c p (some ⟨w.heap.size, 0, none⟩) p.length (by omega) (w.alloc (.cells (tmCells p).toArray 87)) ((h.alloc (Nat.le_refl _) _).more (by simp)) (tms_litB (p := p) (Blk.newB rfl))
  refine hb.mono ?_
  rintro e w' ⟨he, hb⟩
  exact ⟨he, below_al hb⟩
end Go.Proofs.YtnbikkcalcpedaaGreatDoor

/-! The reference's sum of digits. -/
namespace Go.Proofs.YtnbikkcalcpedaaGreatDoor
open Go.RowKit

end Go.Proofs.YtnbikkcalcpedaaGreatDoor

/-! The example of chapter 31 holds (awake of sandpilelaw31). -/
namespace Go.Proofs.YtnbikkcalcpedaaGreatDoor
open Go.RowKit
theorem one31 : (⟨#[49]⟩ : ByteArray) = intS 1 := by decide +kernel
set_option maxRecDepth 100000 in
set_option maxHeartbeats 8000000 in
theorem awake31_any (w : World) : Calls Tryz.prog 13 #[] w fun e w' => e = .returned (.bool true) ∧ Below w.heap.size w w' := by
  go_enter Tryz.func13, Tryz.ntmps13
  go_wp2_with fail
  refine (tri31_any w).mono ?_
  rintro e w1 ⟨A, c, rfl, r1, b1⟩
  have gg : Blk (w1.alloc (.cells #[.int .i64 3, .slice A 3 c] 24)) w1.heap.size 24 #[.int .i64 3, .slice A 3 c] := Blk.newB rfl
  have bg : Below w1.heap.size w1 (w1.alloc (.cells #[.int .i64 3, .slice A 3 c] 24)) := (Below.refl _ _).alloc (Nat.le_refl _) _
  obtain ⟨gb, hgb⟩ : ∃ gb, w1.heap.size = gb := ⟨_, rfl⟩
  have r2 := (r1.below bg).more bg.size
  have hB := b1.trans (bg.mono b1.size)
  obtain ⟨W2, hW2⟩ : ∃ W2, w1.alloc (.cells #[.int .i64 3, .slice A 3 c] 24) = W2 := ⟨_, rfl⟩
  rw [hW2, hgb] at gg
  rw [hW2] at r2 hB
  have HW2 := Lib.hid hW2
  have HGB := Lib.hid hgb
  have hz2 : gb + 1 = W2.heap.size := by rw [← hW2]; simp [hgb]
  have HZ2 := Lib.hid hz2
  clear bg b1 r1 hW2 hgb hz2
  have c0 : ∀ o, ((w1.alloc (.cells #[.int .i64 3, .slice A 3 c] 24)).alloc o).cell? ⟨w1.heap.size, 0, none⟩ = some (.int .i64 3) := fun o => by rw [HW2.out, HGB.out]; exact (gg.alloc o).cell 0
  have c1 : ∀ o, ((w1.alloc (.cells #[.int .i64 3, .slice A 3 c] 24)).alloc o).cell? ⟨w1.heap.size, 1, none⟩ = some (.slice A 3 c) := fun o => by rw [HW2.out, HGB.out]; exact (gg.alloc o).cell 1
  have C := c31_int A c W2 r2
  rw [← HZ2.out] at C
  have C := Lib.hid C
  go_wp2_with fail
  try rw [HW2.out]
  try rw [HGB.out]
  refine (C.out).mono ?_
  rintro e v0 ⟨A0, d0, rfl, q0, b⟩
  rw [HZ2.out] at b
  have gg := gg.next b
  have r2 := r2.next b
  have hB := hB.trans (b.mono hB.size)
  clear b c0 c1 C
  have c0 := gg.cell 0
  have c1 := gg.cell 1
  have C := Lib.hid (c31_ext A c v0 r2)
  go_wp2_with fail
  refine (C.out).mono ?_
  rintro e v1 ⟨A1, d1, rfl, q1, b⟩
  have q0 := q0.next b
  have gg := gg.next b
  have r2 := r2.next b
  have hB := hB.trans (b.mono hB.size)
  clear b c0 c1 C
  have c0 := gg.cell 0
  have c1 := gg.cell 1
  have C := Lib.hid (c31_poly A c v1 r2)
  go_wp2_with fail
  refine (C.out).mono ?_
  rintro e v2 ⟨A2, d2, rfl, q2, b⟩
  have q0 := q0.next b
  have q1 := q1.next b
  have gg := gg.next b
  have r2 := r2.next b
  have hB := hB.trans (b.mono hB.size)
  clear b c0 c1 C
  have c0 := gg.cell 0
  have c1 := gg.cell 1
  have C := Lib.hid (c31_tv A c v2 r2)
  go_wp2_with fail
  refine (C.out).mono ?_
  rintro e v3 ⟨A3, d3, rfl, q3, b⟩
  have q0 := q0.next b
  have q1 := q1.next b
  have q2 := q2.next b
  have gg := gg.next b
  have r2 := r2.next b
  have hB := hB.trans (b.mono hB.size)
  clear b c0 c1 C
  have c0 := gg.cell 0
  have c1 := gg.cell 1
  have C := Lib.hid (c31_uv A c v3 r2)
  go_wp2_with fail
  refine (C.out).mono ?_
  rintro e v4 ⟨A4, d4, rfl, q4, b⟩
  have q0 := q0.next b
  have q1 := q1.next b
  have q2 := q2.next b
  have q3 := q3.next b
  have gg := gg.next b
  have r2 := r2.next b
  have hB := hB.trans (b.mono hB.size)
  clear b c0 c1 C
  have C := Lib.hid (c31_eq [0, 1] (by decide) A0 d0 v4 q0)
  go_wp2_with fail
  refine (C.out).mono ?_
  rintro e v5 ⟨rfl, b⟩
  have q1 := q1.next b
  have q2 := q2.next b
  have q3 := q3.next b
  have q4 := q4.next b
  have hB := hB.trans (b.mono hB.size)
  clear b C
  have C := Lib.hid (c31_eq [0] (by decide) A1 d1 v5 q1)
  go_wp2_with fail
  refine (C.out).mono ?_
  rintro e v6 ⟨rfl, b⟩
  have q2 := q2.next b
  have q3 := q3.next b
  have q4 := q4.next b
  have hB := hB.trans (b.mono hB.size)
  clear b C
  have C := Lib.hid (c31_same [((2, 0), 1), ((1, 0), 1), ((0, 1), 1)] (by decide) A2 d2 v6 q2)
  have C : Hid (Calls Tryz.prog 41 #[.slice A2 3 d2, .slice (some ⟨v6.heap.size, 0, none⟩) 3 3] (v6.alloc (.cells #[.int .i64 2, .int .i64 0, .string ⟨#[49]⟩, .int .i64 1, .int .i64 0, .string ⟨#[49]⟩, .int .i64 0, .int .i64 1, .string ⟨#[49]⟩] 87)) fun e w' => e = .returned (.bool true) ∧ Below v6.heap.size v6 w') := by rw [one31]; exact C
  go_wp2_with fail
  refine (C.out).mono ?_
  rintro e v7 ⟨rfl, b⟩
  have q3 := q3.next b
  have q4 := q4.next b
  have hB := hB.trans (b.mono hB.size)
  clear b C
  have C := Lib.hid (c31_eq [1, 2] (by decide) A3 d3 v7 q3)
  go_wp2_with fail
  refine (C.out).mono ?_
  rintro e v8 ⟨rfl, b⟩
  have q4 := q4.next b
  have hB := hB.trans (b.mono hB.size)
  clear b C
  have C := Lib.hid (c31_eq [0, 1] (by decide) A4 d4 v8 q4)
  go_wp2_with fail
  refine (C.out).mono ?_
  rintro e v9 ⟨rfl, b⟩
  have hB := hB.trans (b.mono hB.size)
  clear b C
  go_wp2
  go_ret
  exact ⟨rfl, hB⟩
end Go.Proofs.YtnbikkcalcpedaaGreatDoor

/-! The reference's text of digits, its sign, and its sum of positive numerals. -/
namespace Go.Proofs.YtnbikkcalcpedaaGreatDoor
open Go.RowKit

end Go.Proofs.YtnbikkcalcpedaaGreatDoor

/-! The reference's sum of polynomials with positive coefficients. -/
namespace Go.Proofs.YtnbikkcalcpedaaGreatDoor
open Go.RowKit

end Go.Proofs.YtnbikkcalcpedaaGreatDoor

/-! A graph with other numbers of its vertices: it is right, it is joined, and its polynomial is the same. No program is in sight. -/
namespace Go.Proofs.YtnbikkcalcpedaaGreatDoor
section
variable {n : Nat} {es : List E3} {T : List Nat}
theorem getD_of {k v : Nat} (h : T[k]? = some v) : T.getD k 0 = v := by rw [List.getD_eq_getElem?_getD, h]; rfl
theorem ren_lt (hT : T.length = n) (hb : ∀ t ∈ T, t < n) {a : Nat} (ha : a < n) : T.getD a 0 < n := by
  obtain ⟨v, hv⟩ : ∃ v, T[a]? = some v := ⟨_, List.getElem?_eq_getElem (by omega)⟩
  rw [getD_of hv]
  exact hb v (List.mem_of_getElem? hv)
theorem ren_inj (hT : T.length = n) (hn : T.Nodup) {a b : Nat} (ha : a < n) (hb : b < n) (h : T.getD a 0 = T.getD b 0) : a = b := by
  rw [List.getD_eq_getElem?_getD, List.getD_eq_getElem?_getD, List.getElem?_eq_getElem (by omega), List.getElem?_eq_getElem (by omega)] at h
  simp only [Option.getD_some] at h
  rcases Nat.lt_trichotomy a b with h1 | h1 | h1
  · exact absurd h ((List.pairwise_iff_getElem.1 hn) a b (by omega) (by omega) h1)
  · exact h1
  · exact absurd h.symm ((List.pairwise_iff_getElem.1 hn) b a (by omega) (by omega) h1)
theorem gT_inj (hT : T.length = n) (hn : T.Nodup) {p q : Nat × Nat} (hp : p.1 ≤ p.2 ∧ p.2 < n) (hq : q.1 ≤ q.2 ∧ q.2 < n) (h : gT T p = gT T q) : p = q := by
  unfold gT at h
  obtain ⟨p1, p2⟩ := p
  obtain ⟨q1, q2⟩ := q
  dsimp only at *
  injection h with h1 h2
  have inj := fun {a b : Nat} (ha : a < n) (hb : b < n) => ren_inj (a := a) (b := b) hT hn ha hb
  rcases (by omega : (T.getD p1 0 = T.getD q1 0 ∧ T.getD p2 0 = T.getD q2 0) ∨ (T.getD p1 0 = T.getD q2 0 ∧ T.getD p2 0 = T.getD q1 0)) with ⟨e1, e2⟩ | ⟨e1, e2⟩
  · have := inj (by omega) (by omega) e1
    have := inj (by omega) (by omega) e2
    exact Prod.ext (by omega) (by omega)
  · have := inj (by omega) (by omega) e1
    have := inj (by omega) (by omega) e2
    exact Prod.ext (by show p1 = q1; omega) (by show p2 = q2; omega)
theorem ends_ord (hok : ∀ e ∈ es, okE (n : Int) e) {p : Nat × Nat} (hp : p ∈ endsL es) : p.1 ≤ p.2 ∧ p.2 < n := by
  obtain ⟨e, he, h1, h2⟩ := (mem_endsL hok).1 hp
  have := hok e he
  unfold okE at this
  omega
theorem ren_dis (hok : ∀ e ∈ es, okE (n : Int) e) (hs : es.Pairwise ltE) (hT : T.length = n) (hn : T.Nodup) (k : Nat) (e : E3) (he : es[k]? = some e) : gT T (e.1.toNat, e.2.1.toNat) ∉ (endsL (es.take k)).map (gT T) := by
  intro hm
  obtain ⟨p, hp, hg⟩ := List.mem_map.1 hm
  have hok' : ∀ e ∈ es.take k, okE (n : Int) e := fun e he => hok e (List.mem_of_mem_take he)
  obtain ⟨e', he', h1, h2⟩ := (mem_endsL hok').1 hp
  have ho := hok e (List.mem_of_getElem? he)
  unfold okE at ho
  have := gT_inj hT hn (ends_ord hok' hp) (q := (e.1.toNat, e.2.1.toNat)) ⟨by show e.1.toNat ≤ e.2.1.toNat; omega, by show e.2.1.toNat < n; omega⟩ hg
  subst this
  obtain ⟨j, hj⟩ := List.getElem?_of_mem he'
  have hjk : j < k := by
    have := (List.getElem?_eq_some_iff.1 hj).1
    rw [List.length_take] at this
    omega
  rw [List.getElem?_take_of_lt hjk] at hj
  obtain ⟨hj1, hj2⟩ := List.getElem?_eq_some_iff.1 hj
  obtain ⟨hk1, hk2⟩ := List.getElem?_eq_some_iff.1 he
  have hlt := (List.pairwise_iff_getElem.1 hs) j k hj1 hk1 hjk
  rw [hj2, hk2] at hlt
  unfold ltE at hlt
  dsimp only at h1 h2
  omega
/-- A bag's edges have the pairs of the bag, each as often as the bag. -/
theorem bag_ends {F : List (Nat × Nat)} : ∀ {L : List (Nat × Nat)}, L.Nodup → ∀ p, (endsL (L.map (bagE F))).count p = if p ∈ L then F.count p else 0
  | [], _, p => by simp [endsL]
  | q :: L, hn, p => by
    obtain ⟨h1, h2⟩ := List.nodup_cons.1 hn
    have he : endsL ((q :: L).map (bagE F)) = List.replicate (F.count q) q ++ endsL (L.map (bagE F)) := by
      unfold endsL bagE
      simp
    rw [he, List.count_append, List.count_replicate, bag_ends h2 p]
    by_cases h : q = p
    · subst h
      simp [h1]
    · have h4 : p ≠ q := fun hc => h hc.symm
      simp [h, h4]
theorem endsL_perm {x y : List E3} (h : x.Perm y) : (endsL x).Perm (endsL y) := h.flatMap_right _
theorem bag_perm {F L : List (Nat × Nat)} (hn : L.Nodup) (hm : ∀ p, p ∈ L ↔ p ∈ F) {es' : List E3} (hp : (L.map (bagE F)).Perm es') : (endsL es').Perm F := by
  refine (endsL_perm hp).symm.trans (List.perm_iff_count.2 fun p => ?_)
  rw [bag_ends hn]
  by_cases h : p ∈ L
  · rw [if_pos h]
  · rw [if_neg h, List.count_eq_zero_of_not_mem fun hc => h ((hm p).2 hc)]
/-- The graph with other numbers is right. -/
theorem ren_right (hG : RightG n es) (hT : T.length = n) (hb : ∀ t ∈ T, t < n) (hn : T.Nodup) {es' : List E3} (hs : es'.Pairwise fun a b => ¬ ltE b a) {L : List (Nat × Nat)} (hL : L.Nodup) (hm : ∀ p, p ∈ L ↔ p ∈ (endsL es).map (gT T)) (hp : (L.map (bagE ((endsL es).map (gT T)))).Perm es') : RightG n es' := by
  have hok := hG.ok
  have key : ∀ e ∈ es', ∃ p ∈ L, e = bagE ((endsL es).map (gT T)) p := fun e he => by
    obtain ⟨p, hp, rfl⟩ := List.mem_map.1 (hp.mem_iff.2 he)
    exact ⟨p, hp, rfl⟩
  refine ⟨hG.lo, hG.hi, fun e he => ?_, ?_⟩
  · obtain ⟨p, hpL, rfl⟩ := key e he
    obtain ⟨q, hq, rfl⟩ := List.mem_map.1 ((hm p).1 hpL)
    have ho := ends_ord hok hq
    have h1 := ren_lt hT hb (a := q.1) (by omega)
    have h2 := ren_lt hT hb (a := q.2) (by omega)
    have hc : ((endsL es).map (gT T)).count (gT T q) = (endsL es).count q := by
      have : ∀ l : List (Nat × Nat), (∀ x ∈ l, x.1 ≤ x.2 ∧ x.2 < n) → (l.map (gT T)).count (gT T q) = l.count q := by
        intro l
        induction l with
        | nil => intro _; rfl
        | cons a l ih =>
          intro hl
          rw [List.map_cons, List.count_cons, List.count_cons, ih fun x hx => hl x (by simp [hx])]
          by_cases h : a = q
          · subst h; simp
          · have h3 : gT T a ≠ gT T q := fun hc => h (gT_inj hT hn (hl a (by simp)) ho hc)
            have e1 : (a == q) = false := by simpa using h
            have e2 : (gT T a == gT T q) = false := by simpa using h3
            rw [e1, e2]
      exact this _ fun x hx => ends_ord hok hx
    obtain ⟨e, he', g1, g2⟩ := (mem_endsL hok).1 hq
    have hce := count_ends hok hG.sorted e he'
    have hoe := hok e he'
    unfold okE at hoe
    have : (e.1.toNat, e.2.1.toNat) = q := Prod.ext (by show e.1.toNat = q.1; omega) (by show e.2.1.toNat = q.2; omega)
    rw [this] at hce
    unfold okE bagE
    dsimp only
    rw [hc, hce]
    unfold gT
    dsimp only
    omega
  · have h1 : (L.map (bagE ((endsL es).map (gT T)))).Pairwise fun a b => ¬ (a.1 = b.1 ∧ a.2.1 = b.2.1) := List.pairwise_map.2 (hL.imp fun {a b} h hc => h (by
      unfold bagE at hc
      dsimp only at hc
      exact Prod.ext (by omega) (by omega)))
    have h2 := (hp.pairwise_iff (fun {a b} h hc => h ⟨hc.1.symm, hc.2.symm⟩)).1 h1
    exact (hs.and h2).imp fun {a b} h => by
      obtain ⟨h3, h4⟩ := h
      unfold ltE at *
      omega
theorem gT_or (T : List Nat) (p : Nat × Nat) : gT T p = (T.getD p.1 0, T.getD p.2 0) ∨ gT T p = (T.getD p.2 0, T.getD p.1 0) := by
  unfold gT
  rcases Nat.le_total (T.getD p.1 0) (T.getD p.2 0) with h | h
  · left; rw [Nat.min_eq_left h, Nat.max_eq_right h]
  · right; rw [Nat.min_eq_right h, Nat.max_eq_left h]
/-- It is joined as the graph is. -/
theorem ren_joined (hj : joinErr n es = 0) (hT : T.length = n) (hb : ∀ t ∈ T, t < n) (hn : T.Nodup) {es' : List E3} (hG' : RightG n es') (hF : (endsL es').Perm ((endsL es).map (gT T))) : joinErr n es' = 0 := by
  obtain ⟨_, hG, hc⟩ := join_zero hj
  rw [Int.toNat_natCast, connB_parts hG, decide_eq_true_eq] at hc
  have hp := parts_ren (g := gT T) (tw := fun a => T.getD a 0) (gT_or T) (bd_ends hG) (fun a ha => ren_lt hT hb ha) (fun a b ha hb h => ren_inj hT hn ha hb h)
  unfold joinErr
  rw [if_neg (fun h => h (check_right hG')), Int.toNat_natCast, connB_parts hG', parts_perm hF, hp, hc]
  rfl
theorem ren_tree (hj : joinErr n es = 0) : ∃ t, IsTr n (endsL es) t := by
  obtain ⟨_, hG, hc⟩ := join_zero hj
  rw [Int.toNat_natCast, connB_parts hG, decide_eq_true_eq] at hc
  exact tree_ex (bd_ends hG) hc
theorem ends_len_ge : ∀ {es : List E3}, (∀ e ∈ es, okE (n : Int) e) → es.length ≤ (endsL es).length
  | [], _ => Nat.zero_le _
  | e :: es, hok => by
    have h1 := hok e (by simp)
    have h2 := ends_len_ge (es := es) fun x hx => hok x (by simp [hx])
    unfold okE at h1
    unfold endsL at *
    rw [List.flatMap_cons, List.length_append, List.length_replicate, List.length_cons]
    omega
/-- The polynomial is the same. -/
theorem ren_poly (hj : joinErr n es = 0) (hT : T.length = n) (hb : ∀ t ∈ T, t < n) (hn : T.Nodup) {es' : List E3} (hG' : RightG n es') (hF : (endsL es').Perm ((endsL es).map (gT T))) : polyE n es' = polyE n es := by
  have hj' := ren_joined hj hT hb hn hG' hF
  obtain ⟨_, hG, _⟩ := join_zero hj
  have hlo := hG.lo
  unfold polyE
  rw [if_neg (fun h => h hj'), if_neg (fun h => h hj), Int.toNat_natCast]
  have hk := key_ren (g := gT T) (tw := fun a => T.getD a 0) (gT_or T) (fun a ha => ren_lt hT hb ha) (fun a b ha hb h => ren_inj hT hn ha hb h) hF (bd_ends hG) (bd_ends hG') (by omega) (ren_tree hj) (ren_tree hj')
  have : sumP (wtL n (endsL es')) = sumP (wtL n (endsL es)) := canon_eq (sumP_canon _) (sumP_canon _) fun k => by
    rw [sumP_cf, sumP_cf]
    have := hk k
    unfold keyT at this
    unfold wtL
    rw [this]
  rw [this]
end
end Go.Proofs.YtnbikkcalcpedaaGreatDoor

/-! The reference's Whole and Polynomial of chapter 31. -/
namespace Go.Proofs.YtnbikkcalcpedaaGreatDoor
open Go.RowKit

theorem plusP_len : ∀ (p q : List Tm), (plusP p q).length ≤ p.length + q.length
  | [], q => by rw [plusP]; simp
  | a :: p, [] => by rw [plusP]; simp
  | a :: p, b :: q => by
    rw [plusP]
    split
    · have := plusP_len p (b :: q); simp at this ⊢; omega
    · split
      · have := plusP_len (a :: p) q; simp at this ⊢; omega
      · split
        · have := plusP_len p q; simp; omega
        · have := plusP_len p q; simp; omega
termination_by p q => p.length + q.length
theorem sumP_len (F : List (Nat × Nat)) : (sumP F).length ≤ F.length := by
  have key : ∀ (ks : List (Nat × Nat)) (p : List Tm), (ks.foldl (fun p k => plusP p [(k, 1)]) p).length ≤ p.length + ks.length := by
    intro ks
    induction ks with
    | nil => intro p; simp
    | cons k ks ih =>
      intro p
      have h1 := ih (plusP p [(k, 1)])
      have h2 := plusP_len p [(k, 1)]
      rw [List.foldl_cons]
      simp at h2 ⊢
      omega
  have := key F []
  simpa [sumP] using this
end Go.Proofs.YtnbikkcalcpedaaGreatDoor

