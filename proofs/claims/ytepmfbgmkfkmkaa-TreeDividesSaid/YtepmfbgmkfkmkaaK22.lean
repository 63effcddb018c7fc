/-
  Texts of this claim, put together: LEqual, Results, Lits, Awake13, Law.
-/
import Derived.Test.YtepmfbgmkfkmkaaK03
import Derived.Deep.QuietTactic
import Derived.BigQuiet
import Derived.Test.YtepmfbgmkfkmkaaRows
import Derived.Test.YtepmfbgmkfkmkaaK01
import Derived.Laws.Rows
import Derived.Laws.ResultCell
import Derived.Test.YtepmfbgmkfkmkaaK21
import Derived.Test.YtepmfbgmkfkmkaaK06
import Derived.Test.YtepmfbgmkfkmkaaK18
import Derived.WalkKit
import Derived.ProofKit
import Derived.OpenShut
import Derived.ShutString
import Derived.ChangeOld
import Derived.Below
/-! slices.Equal on lists and on scripts. -/
namespace Go.Proofs.Ytepmfbgmkfkmkaa
open Go.RowKit

set_option maxHeartbeats 800000 in
theorem iequal_any (A : Option Addr) (c : Nat) (xs : List Int) (B : Option Addr) (d : Nat) (ys : List Int) (hn : xs.length ≤ 1048576) (w : World) (h : Reads w w.heap.size 1 A xs.length (ints xs)) (h' : Reads w w.heap.size 1 B ys.length (ints ys)) :
    Calls Try.prog 19 #[.slice A xs.length c, .slice B ys.length d] w fun e w' => e = .returned (.bool (decide (xs = ys))) ∧ Below w.heap.size w w' := by
  by_cases hl : xs.length = ys.length
  · have HL := Lib.hid hl
    have hb : ((xs.length : Int) != (ys.length : Int)) = false := by simp; omega
    clear hl
    go_enter Try.func19, Try.ntmps19
    go_wp2
    clear hb
    go_loopw [13] (fun i wr => ∃ k : Nat, k ≤ xs.length ∧ i = .int .i64 k ∧ Below w.heap.size w wr ∧ Hid (xs.take k = ys.take k)) (fun i _ => xs.length - (intOf i).toNat)
    case atStart => exact ⟨0, by omega, rfl, Below.refl _ _, by simp [Hid]⟩
    case round =>
      obtain ⟨k, hk, rfl, hbel, HS⟩ := hrel
      by_cases hlt : k < xs.length
      · obtain ⟨x, hx⟩ := get_of_lt hlt
        obtain ⟨y, hy⟩ := get_of_lt (xs := ys) (k := k) (by have := HL.out; omega)
        have HX := Lib.hid hx
        have HY := Lib.hid hy
        obtain ⟨b, off, rfl, hb, hcell⟩ := (h.below hbel).at_ (ints_at hx)
        obtain ⟨b', off', rfl, hb', hcell'⟩ := (h'.below hbel).at_ (ints_at hy)
        have hi : (k : Int) < (xs.length : Int) := by omega
        have hi' : (k : Int) < (ys.length : Int) := by have := HL.out; omega
        clear hx hy h h'
        by_cases hxy : x = y
        · subst hxy
          go_wp2
          go_quiet (fail)
          go_wp2
          go_roundw
          case rel => exact ⟨k + 1, by omega, by go_num, below_drewN hbel _, by rw [Hid, take_snoc HX.out, take_snoc HY.out, HS.out]⟩
          case measure => simp [intOf]; omega
        · have hbx : (x != y) = true := by simpa using hxy
          go_wp2
          go_quiet (fail)
          go_wp2
          go_ret
          refine ⟨ret_bool ?_, below_drewN hbel _⟩
          have : ¬ xs = ys := fun e => hxy (by have h1 := HX.out; rw [e, HY.out] at h1; injection h1 with h1; exact h1.symm)
          simp [this]
      · go_wp2
        go_ret
        refine ⟨ret_bool ?_, hbel⟩
        have e : xs = ys := by have h1 := HS.out; rw [show k = xs.length from by omega, List.take_length, HL.out, List.take_length] at h1; exact h1
        simp [e]
  · have hb : ((xs.length : Int) != (ys.length : Int)) = true := by simp; omega
    go_enter Try.func19, Try.ntmps19
    go_wp2
    go_ret
    have : ¬ xs = ys := fun e => hl (by rw [e])
    exact ⟨ret_bool (by simp [this]), Below.refl _ _⟩
end Go.Proofs.Ytepmfbgmkfkmkaa

/-! A struct that a function hands back: read out of its box. -/
namespace Go.Proofs.Ytepmfbgmkfkmkaa
open Go.RowKit
section
variable {fn : Func} {p u v : Tmp} {tmps : Array Value} {w : World} {g : Nat} {cs : Array Value}
theorem info_graph : (Try.prog.info? 24).map (·.size) = some 2 := by kernel_rfl
theorem results_g (h : fn.results = #[.cell p 24]) (hp : tmps.getD p undef = .pointer (some ⟨g, 0, none⟩)) (hg : Blk w g 24 cs) (hs : cs.size = 2) :
    (results fn tmps).run Try.prog w = .ok (.agg cs) w := by
  exact results_cell_row h tmps w g _ cs _ _ hp hg Try.underlying24 rfl (by rw [info_graph, hs])
theorem results_g1 (h : fn.results = #[.cell p 24, .tmp u]) (hp : tmps.getD p undef = .pointer (some ⟨g, 0, none⟩)) (hg : Blk w g 24 cs) (hs : cs.size = 2) :
    (results fn tmps).run Try.prog w = .ok (.tuple #[.agg cs, tmps.getD u undef]) w := by
  have hi : (Try.prog.info? 24).map (·.size) = some cs.size := by rw [info_graph, hs]
  have hp' : tmps[p]?.getD undef = .pointer (some ⟨g, 0, none⟩) := by simpa using hp
  simp [results, h, hp', asAddr, run_loadVar_row w g _ _ cs _ _ hg Try.underlying24 rfl hi]
theorem results_g2 (h : fn.results = #[.cell p 24, .tmp u, .tmp v]) (hp : tmps.getD p undef = .pointer (some ⟨g, 0, none⟩)) (hg : Blk w g 24 cs) (hs : cs.size = 2) :
    (results fn tmps).run Try.prog w = .ok (.tuple #[.agg cs, tmps.getD u undef, tmps.getD v undef]) w := by
  have hi : (Try.prog.info? 24).map (·.size) = some cs.size := by rw [info_graph, hs]
  have hp' : tmps[p]?.getD undef = .pointer (some ⟨g, 0, none⟩) := by simpa using hp
  simp [results, h, hp', asAddr, run_loadVar_row w g _ _ cs _ _ hg Try.underlying24 rfl hi]
end
end Go.Proofs.Ytepmfbgmkfkmkaa

/-! Literals of ints, their comparisons; the triangle. -/
namespace Go.Proofs.Ytepmfbgmkfkmkaa
open Go.RowKit

/-- The triangle. -/
def tri : List E3 := [(0, 1, 1), (0, 2, 1), (1, 2, 1)]
theorem reads_lit (w : World) (xs : List Int) : Reads (w.alloc (.cells (ints xs).toArray 3)) (w.alloc (.cells (ints xs).toArray 3)).heap.size 1 (some ⟨w.heap.size, 0, none⟩) xs.length (ints xs) :=
  ⟨by simp [ints], fun _ => ⟨w.heap.size, 0, rfl, by simp, fun j u hu => by
    rw [Nat.zero_add, (Blk.new w 3 (ints xs).toArray).cell j]
    simpa using hu⟩⟩
theorem below_new {w w' : World} {o : Obj} (h : Below (w.alloc o).heap.size (w.alloc o) w') : Below w.heap.size w w' := ((Below.refl _ w).alloc (Nat.le_refl _) o).trans (h.mono (by simp))
/-- A literal of three ints, of two. -/
abbrev obj3 (a b c : Int) : Obj := .cells #[.int .i64 a, .int .i64 b, .int .i64 c] 3
abbrev obj2 (a b : Int) : Obj := .cells #[.int .i64 a, .int .i64 b] 3

theorem ieq3 (A : Option Addr) (c : Nat) (a b d : Int) (w : World) (g : Nat) (hg : g = w.heap.size) (h : Reads w w.heap.size 1 A 3 (ints [a, b, d])) :
    Calls Try.prog 19 #[.slice A 3 c, .slice (some ⟨g, 0, none⟩) 3 3] (w.alloc (obj3 a b d)) fun e w' => e = .returned (.bool true) ∧ Below w.heap.size w w' := by
  subst hg
  have h := iequal_any A c [a, b, d] (some ⟨w.heap.size, 0, none⟩) 3 [a, b, d] (by simp) (w.alloc (obj3 a b d)) ((h.alloc (Nat.le_refl _) _).more (by simp)) (reads_lit w [a, b, d])
  exact h.mono fun e w' ⟨he, hb⟩ => ⟨by simpa using he, below_new hb⟩
theorem ieq2 (A : Option Addr) (c : Nat) (a b : Int) (w : World) (g : Nat) (hg : g = w.heap.size) (h : Reads w w.heap.size 1 A 2 (ints [a, b])) :
    Calls Try.prog 19 #[.slice A 2 c, .slice (some ⟨g, 0, none⟩) 2 2] (w.alloc (obj2 a b)) fun e w' => e = .returned (.bool true) ∧ Below w.heap.size w w' := by
  subst hg
  have h := iequal_any A c [a, b] (some ⟨w.heap.size, 0, none⟩) 2 [a, b] (by simp) (w.alloc (obj2 a b)) ((h.alloc (Nat.le_refl _) _).more (by simp)) (reads_lit w [a, b])
  exact h.mono fun e w' ⟨he, hb⟩ => ⟨by simpa using he, below_new hb⟩
end Go.Proofs.Ytepmfbgmkfkmkaa

/-! The examples of chapter 13: awake. -/
namespace Go.Proofs.Ytepmfbgmkfkmkaa
open Go.RowKit

set_option maxHeartbeats 1000000 in
theorem ear_any (w : World) : Calls Try.prog 48 #[] w fun e w' => ∃ A c, e = .returned (.agg #[.int .i64 3, .slice A 3 c]) ∧ Reads w' w'.heap.size 3 A ear.length (edgeCells ear) ∧ Below w.heap.size w w' := by
  go_enter Try.func48, Try.ntmps48
  go_wp2
  refine bodyPost_ret (results_g rfl rfl ((Blk.new w 24 #[.int .i64 3, .slice (some ⟨w.heap.size + 1, 0, none⟩) 3 3]).alloc _) rfl) rfl ?_
  have hB := Blk.new (w.alloc (.cells #[.int .i64 3, .slice (some ⟨w.heap.size + 1, 0, none⟩) 3 3] 24)) 82 (edgeCells ear).toArray
  rw [show (w.alloc (.cells #[.int .i64 3, .slice (some ⟨w.heap.size + 1, 0, none⟩) 3 3] 24)).heap.size = w.heap.size + 1 from by simp] at hB
  refine ⟨some ⟨w.heap.size + 1, 0, none⟩, 3, rfl, ⟨by simp [edgeCells_length], fun _ => ⟨w.heap.size + 1, 0, rfl, by simp, fun j u hu => ?_⟩⟩, ((Below.refl _ _).alloc (Nat.le_refl _) _).alloc (by simp) _⟩
  rw [Nat.zero_add]
  refine (hB.cell j).trans ?_
  rw [← hu, List.getElem?_toArray]

section
variable (A : Option Addr) (c : Nat) (B : Option Addr) (d : Nat)
theorem e13_all (w : World) (h : Reads w w.heap.size 3 A ear.length (edgeCells ear)) : Calls Try.prog 38 #[.agg #[.int .i64 3, .slice A 3 c]] w fun e w' => ∃ A1 c1,
    e = .returned (.tuple #[.slice A1 5 c1, .int .i64 0]) ∧ RowsR w' w'.heap.size A1 [[0, 2], [0, 3], [1, 2], [1, 3], [2, 3]] ∧ Below w.heap.size w w' :=
  (tall_ok 3 A c ear (by decide) ear_join _ ear_trees (by decide) w h).mono fun _ _ ⟨A1, c1, _, he, ho, hb⟩ => ⟨A1, c1, he, ho.reads, hb⟩
theorem e13_cyc1 (w : World) (h : Reads w w.heap.size 3 A ear.length (edgeCells ear)) (h' : Reads w w.heap.size 1 B 2 (ints [0, 3])) : Calls Try.prog 22 #[.agg #[.int .i64 3, .slice A 3 c], .slice B 2 d, .int .i64 1] w fun e w' => ∃ A1 c1,
    e = .returned (.tuple #[.slice A1 2 c1, .int .i64 0]) ∧ OwnI w' w.heap.size A1 c1 [0, 1] ∧ Below w.heap.size w w' := by
  have hb := tcycle_any 3 A c ear (by decide) B d [0, 3] (by decide) 1 w h h'
  rw [ear_cyc1] at hb
  exact hb
theorem e13_cyc2 (w : World) (h : Reads w w.heap.size 3 A ear.length (edgeCells ear)) (h' : Reads w w.heap.size 1 B 2 (ints [0, 3])) : Calls Try.prog 22 #[.agg #[.int .i64 3, .slice A 3 c], .slice B 2 d, .int .i64 2] w fun e w' => ∃ A1 c1,
    e = .returned (.tuple #[.slice A1 3 c1, .int .i64 0]) ∧ OwnI w' w.heap.size A1 c1 [0, 2, 3] ∧ Below w.heap.size w w' := by
  have hb := tcycle_any 3 A c ear (by decide) B d [0, 3] (by decide) 2 w h h'
  rw [ear_cyc2] at hb
  exact hb
theorem e13_cut0 (w : World) (h : Reads w w.heap.size 3 A ear.length (edgeCells ear)) (h' : Reads w w.heap.size 1 B 2 (ints [0, 3])) : Calls Try.prog 24 #[.agg #[.int .i64 3, .slice A 3 c], .slice B 2 d, .int .i64 0] w fun e w' => ∃ A1 c1,
    e = .returned (.tuple #[.slice A1 3 c1, .int .i64 0]) ∧ OwnI w' w.heap.size A1 c1 [0, 1, 2] ∧ Below w.heap.size w w' := by
  have hb := tcutset_any 3 A c ear (by decide) (by decide) B d [0, 3] (by decide) 0 w h h'
  rw [ear_cut0] at hb
  exact hb
theorem e13_cut3 (w : World) (h : Reads w w.heap.size 3 A ear.length (edgeCells ear)) (h' : Reads w w.heap.size 1 B 2 (ints [0, 3])) : Calls Try.prog 24 #[.agg #[.int .i64 3, .slice A 3 c], .slice B 2 d, .int .i64 3] w fun e w' => ∃ A1 c1,
    e = .returned (.tuple #[.slice A1 2 c1, .int .i64 0]) ∧ OwnI w' w.heap.size A1 c1 [2, 3] ∧ Below w.heap.size w w' := by
  have hb := tcutset_any 3 A c ear (by decide) (by decide) B d [0, 3] (by decide) 3 w h h'
  rw [ear_cut3] at hb
  exact hb
theorem e13_path (w : World) (h : Reads w w.heap.size 3 A ear.length (edgeCells ear)) (h' : Reads w w.heap.size 1 B 2 (ints [0, 3])) : Calls Try.prog 17 #[.agg #[.int .i64 3, .slice A 3 c], .slice B 2 d, .int .i64 2, .int .i64 0] w fun e w' => ∃ A1 c1,
    e = .returned (.tuple #[.slice A1 2 c1, .int .i64 0]) ∧ OwnI w' w.heap.size A1 c1 [3, 0] ∧ Below w.heap.size w w' := by
  have hb := tpath_any 3 A c ear (by decide) B d [0, 3] (by decide) 2 0 w h h'
  rw [ear_path] at hb
  exact hb
theorem e13_par (w : World) (h : Reads w w.heap.size 3 A ear.length (edgeCells ear)) (h' : Reads w w.heap.size 1 B 2 (ints [0, 3])) : Calls Try.prog 18 #[.agg #[.int .i64 3, .slice A 3 c], .slice B 2 d, .int .i64 0] w fun e w' => ∃ A1 c1,
    e = .returned (.tuple #[.slice A1 3 c1, .int .i64 0]) ∧ OwnI w' w.heap.size A1 c1 [-1, 0, 3] ∧ Below w.heap.size w w' := by
  have hb := tparents_any 3 A c ear (by decide) B d [0, 3] (by decide) 0 w h h'
  rw [ear_par] at hb
  exact hb
theorem e13_swap (w : World) (h : Reads w w.heap.size 3 A ear.length (edgeCells ear)) (h' : Reads w w.heap.size 1 B 2 (ints [0, 3])) : Calls Try.prog 26 #[.agg #[.int .i64 3, .slice A 3 c], .slice B 2 d, .int .i64 3, .int .i64 2] w fun e w' => ∃ A1 c1,
    e = .returned (.tuple #[.slice A1 2 c1, .int .i64 0]) ∧ OwnI w' w.heap.size A1 c1 [0, 2] ∧ Below w.heap.size w w' := by
  have hb := tswap_any 3 A c ear (by decide) (by decide) B d [0, 3] (by decide) 3 2 w h h'
  rw [ear_swap] at hb
  exact hb
end
/-- A block of slices that read as rows. -/
theorem rows_lit {W : World} {g : Nat} {t : TypeId} {vs : List Value} {xss : List (List Int)} (h : Blk W g t vs.toArray) (hl : vs.length = xss.length) (hr : ∀ (i : Nat) (xs : List Int), xss[i]? = some xs → ∃ A' c', vs[i]? = some (.slice A' xs.length c') ∧ Reads W W.heap.size 1 A' xs.length (ints xs)) : RowsR W W.heap.size (some ⟨g, 0, none⟩) xss :=
  ⟨vs, ⟨by rw [hl]; simp, fun _ => ⟨g, 0, rfl, h.lt, fun j u hu => by rw [Nat.zero_add, h.cell j]; simpa using hu⟩⟩, hr⟩
theorem row_lit {W : World} {g : Nat} {xs : List Int} (h : Blk W g 3 (ints xs).toArray) : Reads W W.heap.size 1 (some ⟨g, 0, none⟩) xs.length (ints xs) :=
  ⟨by simp [ints], fun _ => ⟨g, 0, rfl, h.lt, fun j u hu => by rw [Nat.zero_add, h.cell j]; simpa using hu⟩⟩

set_option maxRecDepth 100000 in
set_option maxHeartbeats 8000000 in
theorem awake13_any (w : World) : Calls Try.prog 13 #[] w fun e w' => e = .returned (.bool true) ∧ Below w.heap.size w w' := by
  have SL := Lib.hid (fun Aa ca Ab cb W h h' => samelists_any Aa ca [[0, 2], [0, 3], [1, 2], [1, 3], [2, 3]] Ab cb [[0, 2], [0, 3], [1, 2], [1, 3], [2, 3]] (by decide) (by decide) W h h')
  have SM := Lib.hid (fun Aa ca Ab cb W h h' => samelists_any Aa ca [[0, 1], [0, 2, 3], [0, 1, 2], [2, 3], [3, 0], [-1, 0, 3], [0, 2]] Ab cb [[0, 1], [0, 2, 3], [0, 1, 2], [2, 3], [3, 0], [-1, 0, 3], [0, 2]] (by decide) (by decide) W h h')
  rw [decide_eq_true rfl] at SL SM
  go_enter Try.func13, Try.ntmps13
  go_wp2_with fail
  refine (ear_any w).mono ?_
  rintro e w1 ⟨A, c, rfl, r1, b1⟩
  obtain ⟨W2, hW2⟩ : ∃ W2, (w1.alloc (.cells (ints [0, 3]).toArray 3)).alloc (.cells #[.int .i64 3, .slice A 3 c] 24) = W2 := ⟨_, rfl⟩
  have b2 : Below w1.heap.size w1 W2 := by rw [← hW2]; exact ((Below.refl _ _).alloc (Nat.le_refl _) _).alloc (by simp) _
  have g2 : Blk W2 (w1.heap.size + 1) 24 #[.int .i64 3, .slice A 3 c] := by rw [← hW2]; exact Blk.newAt (by simp)
  have rt : Reads W2 W2.heap.size 1 (some ⟨w1.heap.size, 0, none⟩) 2 (ints [0, 3]) := row_lit (xs := [0, 3]) (by rw [← hW2]; exact (Blk.newAt rfl).alloc _)
  have r2 := (r1.below b2).more b2.size
  have hB := b1.trans (b2.mono b1.size)
  have c0 := g2.cell 0
  have c1 := g2.cell 1
  have HW2 := Lib.hid hW2
  clear hW2 r1 b1 b2
  go_wp2_with fail
  try rw [show (w1.alloc (.cells #[.int .i64 0, .int .i64 3] 3)).alloc (.cells #[.int .i64 3, .slice A 3 c] 24) = W2 from HW2.out]
  refine (e13_all A c _ r2).mono ?_
  rintro e w3 ⟨A0, d0, rfl, q0, b⟩
  have g2 := g2.next b
  have c0 := g2.cell 0
  have c1 := g2.cell 1
  have r2 := r2.next b
  have rt := rt.next b
  have hB := hB.trans (b.mono hB.size)
  clear b
  go_wp2_with fail
  refine (e13_cyc1 A c _ _ _ r2 rt).mono ?_
  rintro e w4 ⟨A1, d1, rfl, q1, b⟩
  have g2 := g2.next b
  have c0 := g2.cell 0
  have c1 := g2.cell 1
  have r2 := r2.next b
  have rt := rt.next b
  have hB := hB.trans (b.mono hB.size)
  have q0 := q0.next b
  clear b
  have q1 := q1.reads
  go_wp2_with fail
  refine (e13_cyc2 A c _ _ _ r2 rt).mono ?_
  rintro e w5 ⟨A2, d2, rfl, q2, b⟩
  have g2 := g2.next b
  have c0 := g2.cell 0
  have c1 := g2.cell 1
  have r2 := r2.next b
  have rt := rt.next b
  have hB := hB.trans (b.mono hB.size)
  have q0 := q0.next b
  have q1 := q1.next b
  clear b
  have q2 := q2.reads
  go_wp2_with fail
  refine (e13_cut0 A c _ _ _ r2 rt).mono ?_
  rintro e w6 ⟨A3, d3, rfl, q3, b⟩
  have g2 := g2.next b
  have c0 := g2.cell 0
  have c1 := g2.cell 1
  have r2 := r2.next b
  have rt := rt.next b
  have hB := hB.trans (b.mono hB.size)
  have q0 := q0.next b
  have q1 := q1.next b
  have q2 := q2.next b
  clear b
  have q3 := q3.reads
  go_wp2_with fail
  refine (e13_cut3 A c _ _ _ r2 rt).mono ?_
  rintro e w7 ⟨A4, d4, rfl, q4, b⟩
  have g2 := g2.next b
  have c0 := g2.cell 0
  have c1 := g2.cell 1
  have r2 := r2.next b
  have rt := rt.next b
  have hB := hB.trans (b.mono hB.size)
  have q0 := q0.next b
  have q1 := q1.next b
  have q2 := q2.next b
  have q3 := q3.next b
  clear b
  have q4 := q4.reads
  go_wp2_with fail
  refine (e13_path A c _ _ _ r2 rt).mono ?_
  rintro e w8 ⟨A5, d5, rfl, q5, b⟩
  have g2 := g2.next b
  have c0 := g2.cell 0
  have c1 := g2.cell 1
  have r2 := r2.next b
  have rt := rt.next b
  have hB := hB.trans (b.mono hB.size)
  have q0 := q0.next b
  have q1 := q1.next b
  have q2 := q2.next b
  have q3 := q3.next b
  have q4 := q4.next b
  clear b
  have q5 := q5.reads
  go_wp2_with fail
  refine (e13_par A c _ _ _ r2 rt).mono ?_
  rintro e w9 ⟨A6, d6, rfl, q6, b⟩
  have g2 := g2.next b
  have c0 := g2.cell 0
  have c1 := g2.cell 1
  have r2 := r2.next b
  have rt := rt.next b
  have hB := hB.trans (b.mono hB.size)
  have q0 := q0.next b
  have q1 := q1.next b
  have q2 := q2.next b
  have q3 := q3.next b
  have q4 := q4.next b
  have q5 := q5.next b
  clear b
  have q6 := q6.reads
  go_wp2_with fail
  refine (e13_swap A c _ _ _ r2 rt).mono ?_
  rintro e w10 ⟨A7, d7, rfl, q7, b⟩
  have g2 := g2.next b
  have c0 := g2.cell 0
  have c1 := g2.cell 1
  have r2 := r2.next b
  have rt := rt.next b
  have hB := hB.trans (b.mono hB.size)
  have q0 := q0.next b
  have q1 := q1.next b
  have q2 := q2.next b
  have q3 := q3.next b
  have q4 := q4.next b
  have q5 := q5.next b
  have q6 := q6.next b
  clear b
  have q7 := q7.reads
  obtain ⟨WA, hWWA⟩ : ∃ WA, ((((((w10.alloc (.cells (ints [0, 2]).toArray 3)).alloc (.cells (ints [0, 3]).toArray 3)).alloc (.cells (ints [1, 2]).toArray 3)).alloc (.cells (ints [1, 3]).toArray 3)).alloc (.cells (ints [2, 3]).toArray 3)).alloc (.cells ([.slice (some ⟨w10.heap.size, 0, none⟩) 2 2, .slice (some ⟨w10.heap.size + 1, 0, none⟩) 2 2, .slice (some ⟨w10.heap.size + 2, 0, none⟩) 2 2, .slice (some ⟨w10.heap.size + 3, 0, none⟩) 2 2, .slice (some ⟨w10.heap.size + 4, 0, none⟩) 2 2] : List Value).toArray 25)) = WA := ⟨_, rfl⟩
  have bW : Below w10.heap.size w10 WA := by rw [← hWWA]; exact ((((((Below.refl _ _).alloc (Nat.le_refl _) _).alloc (by simp) _).alloc (by simp; omega) _).alloc (by simp; omega) _).alloc (by simp; omega) _).alloc (by simp; omega) _
  have l0 : Blk WA (w10.heap.size) 3 (ints [0, 2]).toArray := by rw [← hWWA]; exact (((((Blk.newAt rfl).alloc _).alloc _).alloc _).alloc _).alloc _
  have l1 : Blk WA (w10.heap.size + 1) 3 (ints [0, 3]).toArray := by rw [← hWWA]; exact ((((Blk.newAt (by simp)).alloc _).alloc _).alloc _).alloc _
  have l2 : Blk WA (w10.heap.size + 2) 3 (ints [1, 2]).toArray := by rw [← hWWA]; exact (((Blk.newAt (by simp)).alloc _).alloc _).alloc _
  have l3 : Blk WA (w10.heap.size + 3) 3 (ints [1, 3]).toArray := by rw [← hWWA]; exact ((Blk.newAt (by simp)).alloc _).alloc _
  have l4 : Blk WA (w10.heap.size + 4) 3 (ints [2, 3]).toArray := by rw [← hWWA]; exact (Blk.newAt (by simp)).alloc _
  have lo : Blk WA (w10.heap.size + 5) 25 ([.slice (some ⟨w10.heap.size, 0, none⟩) 2 2, .slice (some ⟨w10.heap.size + 1, 0, none⟩) 2 2, .slice (some ⟨w10.heap.size + 2, 0, none⟩) 2 2, .slice (some ⟨w10.heap.size + 3, 0, none⟩) 2 2, .slice (some ⟨w10.heap.size + 4, 0, none⟩) 2 2] : List Value).toArray := by rw [← hWWA]; exact Blk.newAt (by simp)
  have wa : RowsR WA WA.heap.size (some ⟨w10.heap.size + 5, 0, none⟩) [[0, 2], [0, 3], [1, 2], [1, 3], [2, 3]] := rows_lit lo rfl fun i xs hx => by
    match i with
    | 0 => injection hx with hx; subst hx; exact ⟨_, 2, rfl, row_lit l0⟩
    | 1 => injection hx with hx; subst hx; exact ⟨_, 2, rfl, row_lit l1⟩
    | 2 => injection hx with hx; subst hx; exact ⟨_, 2, rfl, row_lit l2⟩
    | 3 => injection hx with hx; subst hx; exact ⟨_, 2, rfl, row_lit l3⟩
    | 4 => injection hx with hx; subst hx; exact ⟨_, 2, rfl, row_lit l4⟩
    | i + 5 => cases hx
  have hB := hB.trans (bW.mono hB.size)
  have q0 := q0.next bW
  have q1 := q1.next bW
  have q2 := q2.next bW
  have q3 := q3.next bW
  have q4 := q4.next bW
  have q5 := q5.next bW
  have q6 := q6.next bW
  have q7 := q7.next bW
  have SA := Lib.hid (SL.out A0 d0 (some ⟨w10.heap.size + 5, 0, none⟩) 5 WA q0 wa)
  have HWA := Lib.hid hWWA
  clear bW hWWA g2 r2 rt c0 c1 q0 wa lo l0 l1 l2 l3 l4
  go_wp2_with fail
  try simp only [ints, List.map_cons, List.map_nil] at HWA
  try rw [HWA.out]
  refine (SA.out).mono ?_
  rintro e w11 ⟨rfl, b⟩
  have hB := hB.trans (b.mono hB.size)
  have q1 := q1.next b
  have q2 := q2.next b
  have q3 := q3.next b
  have q4 := q4.next b
  have q5 := q5.next b
  have q6 := q6.next b
  have q7 := q7.next b
  clear b
  obtain ⟨WB, hWWB⟩ : ∃ WB, (((((((((w11.alloc (.cells ([.slice A1 2 d1, .slice A2 3 d2, .slice A3 3 d3, .slice A4 2 d4, .slice A5 2 d5, .slice A6 3 d6, .slice A7 2 d7] : List Value).toArray 25)).alloc (.cells (ints [0, 1]).toArray 3)).alloc (.cells (ints [0, 2, 3]).toArray 3)).alloc (.cells (ints [0, 1, 2]).toArray 3)).alloc (.cells (ints [2, 3]).toArray 3)).alloc (.cells (ints [3, 0]).toArray 3)).alloc (.cells (ints [-1, 0, 3]).toArray 3)).alloc (.cells (ints [0, 2]).toArray 3)).alloc (.cells ([.slice (some ⟨w11.heap.size + 1, 0, none⟩) 2 2, .slice (some ⟨w11.heap.size + 2, 0, none⟩) 3 3, .slice (some ⟨w11.heap.size + 3, 0, none⟩) 3 3, .slice (some ⟨w11.heap.size + 4, 0, none⟩) 2 2, .slice (some ⟨w11.heap.size + 5, 0, none⟩) 2 2, .slice (some ⟨w11.heap.size + 6, 0, none⟩) 3 3, .slice (some ⟨w11.heap.size + 7, 0, none⟩) 2 2] : List Value).toArray 25)) = WB := ⟨_, rfl⟩
  have bW : Below w11.heap.size w11 WB := by rw [← hWWB]; exact (((((((((Below.refl _ _).alloc (Nat.le_refl _) _).alloc (by simp) _).alloc (by simp; omega) _).alloc (by simp; omega) _).alloc (by simp; omega) _).alloc (by simp; omega) _).alloc (by simp; omega) _).alloc (by simp; omega) _).alloc (by simp; omega) _
  have lf : Blk WB (w11.heap.size) 25 ([.slice A1 2 d1, .slice A2 3 d2, .slice A3 3 d3, .slice A4 2 d4, .slice A5 2 d5, .slice A6 3 d6, .slice A7 2 d7] : List Value).toArray := by rw [← hWWB]; exact ((((((((Blk.newAt rfl).alloc _).alloc _).alloc _).alloc _).alloc _).alloc _).alloc _).alloc _
  have l0 : Blk WB (w11.heap.size + 1) 3 (ints [0, 1]).toArray := by rw [← hWWB]; exact (((((((Blk.newAt (by simp)).alloc _).alloc _).alloc _).alloc _).alloc _).alloc _).alloc _
  have l1 : Blk WB (w11.heap.size + 2) 3 (ints [0, 2, 3]).toArray := by rw [← hWWB]; exact ((((((Blk.newAt (by simp)).alloc _).alloc _).alloc _).alloc _).alloc _).alloc _
  have l2 : Blk WB (w11.heap.size + 3) 3 (ints [0, 1, 2]).toArray := by rw [← hWWB]; exact (((((Blk.newAt (by simp)).alloc _).alloc _).alloc _).alloc _).alloc _
  have l3 : Blk WB (w11.heap.size + 4) 3 (ints [2, 3]).toArray := by rw [← hWWB]; exact ((((Blk.newAt (by simp)).alloc _).alloc _).alloc _).alloc _
  have l4 : Blk WB (w11.heap.size + 5) 3 (ints [3, 0]).toArray := by rw [← hWWB]; exact (((Blk.newAt (by simp)).alloc _).alloc _).alloc _
  have l5 : Blk WB (w11.heap.size + 6) 3 (ints [-1, 0, 3]).toArray := by rw [← hWWB]; exact ((Blk.newAt (by simp)).alloc _).alloc _
  have l6 : Blk WB (w11.heap.size + 7) 3 (ints [0, 2]).toArray := by rw [← hWWB]; exact (Blk.newAt (by simp)).alloc _
  have lo : Blk WB (w11.heap.size + 8) 25 ([.slice (some ⟨w11.heap.size + 1, 0, none⟩) 2 2, .slice (some ⟨w11.heap.size + 2, 0, none⟩) 3 3, .slice (some ⟨w11.heap.size + 3, 0, none⟩) 3 3, .slice (some ⟨w11.heap.size + 4, 0, none⟩) 2 2, .slice (some ⟨w11.heap.size + 5, 0, none⟩) 2 2, .slice (some ⟨w11.heap.size + 6, 0, none⟩) 3 3, .slice (some ⟨w11.heap.size + 7, 0, none⟩) 2 2] : List Value).toArray := by rw [← hWWB]; exact Blk.newAt (by simp)
  have q1 := q1.next bW
  have q2 := q2.next bW
  have q3 := q3.next bW
  have q4 := q4.next bW
  have q5 := q5.next bW
  have q6 := q6.next bW
  have q7 := q7.next bW
  have wf : RowsR WB WB.heap.size (some ⟨w11.heap.size, 0, none⟩) [[0, 1], [0, 2, 3], [0, 1, 2], [2, 3], [3, 0], [-1, 0, 3], [0, 2]] := rows_lit lf rfl fun i xs hx => by
    match i with
    | 0 => injection hx with hx; subst hx; exact ⟨_, _, rfl, q1⟩
    | 1 => injection hx with hx; subst hx; exact ⟨_, _, rfl, q2⟩
    | 2 => injection hx with hx; subst hx; exact ⟨_, _, rfl, q3⟩
    | 3 => injection hx with hx; subst hx; exact ⟨_, _, rfl, q4⟩
    | 4 => injection hx with hx; subst hx; exact ⟨_, _, rfl, q5⟩
    | 5 => injection hx with hx; subst hx; exact ⟨_, _, rfl, q6⟩
    | 6 => injection hx with hx; subst hx; exact ⟨_, _, rfl, q7⟩
    | i + 7 => cases hx
  have wo : RowsR WB WB.heap.size (some ⟨w11.heap.size + 8, 0, none⟩) [[0, 1], [0, 2, 3], [0, 1, 2], [2, 3], [3, 0], [-1, 0, 3], [0, 2]] := rows_lit lo rfl fun i xs hx => by
    match i with
    | 0 => injection hx with hx; subst hx; exact ⟨_, 2, rfl, row_lit l0⟩
    | 1 => injection hx with hx; subst hx; exact ⟨_, 3, rfl, row_lit l1⟩
    | 2 => injection hx with hx; subst hx; exact ⟨_, 3, rfl, row_lit l2⟩
    | 3 => injection hx with hx; subst hx; exact ⟨_, 2, rfl, row_lit l3⟩
    | 4 => injection hx with hx; subst hx; exact ⟨_, 2, rfl, row_lit l4⟩
    | 5 => injection hx with hx; subst hx; exact ⟨_, 3, rfl, row_lit l5⟩
    | 6 => injection hx with hx; subst hx; exact ⟨_, 2, rfl, row_lit l6⟩
    | i + 7 => cases hx
  have hB := hB.trans (bW.mono hB.size)
  have SB := Lib.hid (SM.out (some ⟨w11.heap.size, 0, none⟩) 7 (some ⟨w11.heap.size + 8, 0, none⟩) 7 WB wf wo)
  have HWB := Lib.hid hWWB
  clear bW hWWB wf wo lf lo l0 q1 l1 q2 l2 q3 l3 q4 l4 q5 l5 q6 l6 q7
  go_wp2_with fail
  try simp only [ints, List.map_cons, List.map_nil] at HWB
  try rw [HWB.out]
  refine (SB.out).mono ?_
  rintro e w12 ⟨rfl, b⟩
  go_wp2
  go_ret
  exact ⟨rfl, hB.trans (b.mono hB.size)⟩
end Go.Proofs.Ytepmfbgmkfkmkaa

/-! What the laws' proofs share: a slice of ints that came in reads as a list. -/
namespace Go.Proofs.Ytepmfbgmkfkmkaa
open Go.ChangeShapes Go.WideShapes Go.ChangeAt Go.RowKit

theorem own : ownKnob Try.prog.godebug = none := by kernel_rfl
theorem laidOut : laidOutB Try.prog = true := by kernel_rfl

/-- A slice of integers that came in: nil, or a row of 'cap' cells. -/
def IsRow (k : IntKind) (w : World) (a : Option Addr) (len cap : Nat) (zs : List Int) : Prop :=
  (a = none ∧ len = 0 ∧ cap = 0 ∧ zs = []) ∨
  ∃ x, a = some x ∧ len ≤ cap ∧ cap ≤ maxLen ∧ zs.length = cap ∧ (∀ i, i < zs.length → w.cell? (x.add i) = some (.int k (zs.getD i 0))) ∧ ∀ n ∈ zs, (Lit.int k n).wf = true

theorem IsRow.reads {w : World} {a : Option Addr} {len cap : Nat} {zs : List Int} (h : IsRow .i64 w a len cap zs) :
    ∃ xs : List Int, xs.length = len ∧ len ≤ maxLen ∧ Reads w w.heap.size 1 a xs.length (ints xs) ∧ ∀ x ∈ xs, (Lit.int .i64 x).wf = true := by
  rcases h with ⟨rfl, rfl, rfl, rfl⟩ | ⟨x, rfl, hl, hm, hz, hc, hw⟩
  · exact ⟨[], rfl, by simp [maxLen], Reads.nil_, by simp⟩
  · have hlen : (zs.take len).length = len := by simp; omega
    refine ⟨zs.take len, hlen, Nat.le_trans hl hm, ⟨by rw [ints_length, Nat.mul_one], fun hn => ?_⟩, fun y hy => hw y (List.mem_of_mem_take hy)⟩
    obtain ⟨b, off, spot⟩ := x
    have h0 := hc 0 (by omega)
    obtain rfl : spot = none := by simpa [Addr.add] using World.cell?_spot h0
    refine ⟨b, off, rfl, ?_, fun j u hu => ?_⟩
    · have := World.block_lt_of_cell? w _ h0
      simpa [Addr.add] using this
    · obtain ⟨hj, hju⟩ := List.getElem?_eq_some_iff.1 hu
      rw [ints_length, hlen] at hj
      have h1 := hc j (by omega)
      have h2 : (zs.take len)[j]? = some (zs.getD j 0) := by
        rw [List.getElem?_take_of_lt hj, List.getD_eq_getElem?_getD, List.getElem?_eq_getElem (by omega)]
        rfl
      rw [ints_at h2] at hu
      injection hu with hu
      rw [← hu, ← h1]
      by_cases e : j = 0
      · subst e; simp [Addr.add]
      · simp [Addr.add, e]
end Go.Proofs.Ytepmfbgmkfkmkaa

