/-
  Texts of this claim, put together: Nat8, Weight, PolyW.
-/
import Derived.Test.YtnbikkcalcpedaaGreatDoorK40
import Derived.Test.YtnbikkcalcpedaaGreatDoorK35
import Derived.Test.YtnbikkcalcpedaaGreatDoorK31
import Derived.Laws.OwnMore
import Derived.Test.YtnbikkcalcpedaaGreatDoorK34
import Derived.Test.YtnbikkcalcpedaaGreatDoorK30
import Derived.Deep.RegionHeld3
import Derived.Test.YtnbikkcalcpedaaGreatDoorK07
/-! integer.Pow below a billion. -/
namespace Go.Proofs.YtnbikkcalcpedaaGreatDoor
open Go.RowKit Go.Lib

set_option maxRecDepth 100000 in
set_option maxHeartbeats 4000000 in
theorem pow_any (x n : Nat) (hx : 0 < x) (hx9 : x < 1000000000) (hn : n ≤ 256) (hp : x ^ n < 1000000000) (w : World) (ht : Tab10 w) :
    Calls Tryz.prog 124 #[.string (intS x), .int .i64 n] w fun e w' => e = .returned (.tuple #[.string (intS (x ^ n : Nat)), .int .i64 0]) ∧ Below w.heap.size w w' := by
  have hp0 : 0 < x ^ n := Nat.pow_pos hx
  have HPW : Hid (∀ k, k < n → 0 < x ^ k ∧ x ^ k * x < 1000000000 ∧ x ^ (k + 1) = x ^ k * x) := by
    intro k hk
    have h1 : x ^ (k + 1) ≤ x ^ n := Nat.pow_le_pow_right hx (by omega)
    rw [Nat.pow_succ] at h1
    exact ⟨Nat.pow_pos hx, by omega, Nat.pow_succ ..⟩
  have CC := Lib.hid (fun (W : World) => check_int x (by omega) W)
  have RA := Lib.hid (fun (W : World) => read_any x hx9 W)
  rw [wordsN_pos hx] at RA
  have RC := Lib.hid (fun (A : Option Addr) (c : Nat) (W : World) (hB : Below w.heap.size w W) (h : Reads W W.heap.size 1 A 1 (u32s [x ^ n])) => resultNum_any (x ^ n) hp0 hp A c W h (ht.below hB))
  have HX := Lib.hid hx
  obtain ⟨s, hs⟩ : ∃ s, intS x = s := ⟨_, rfl⟩
  obtain ⟨u, hu⟩ : ∃ u, intS (x ^ n : Nat) = u := ⟨_, rfl⟩
  rw [hs] at CC RA ⊢
  rw [hu] at RC ⊢
  have hi0 : ¬ (n : Int) < 0 := by omega
  have hi1 : ¬ (4096 : Int) < (n : Int) := by omega
  have hi2 : decide ((n : Int) < 0) = false := decide_eq_false hi0
  have hi3 : decide ((4096 : Int) < (n : Int)) = false := decide_eq_false hi1
  clear hs hu hp hp0 ht hx hx9
  go_enter Tryz.func124, Tryz.ntmps124
  go_wp2_with fail
  refine (CC.out _).mono ?_
  rintro e w1 ⟨rfl, hB⟩
  go_wp2_with fail
  refine (RA.out _).mono ?_
  rintro e w2 ⟨A1, c1, rfl, r1, n1, hb⟩
  have hB := hB.trans (hb.mono hB.size)
  clear hb n1
  obtain ⟨w5, hw5⟩ : ∃ w5, ((w2.alloc (.cells #[.int .u32 1] 209)).alloc (.cells #[.bool false, .slice A1 1 c1] 215)).alloc (.cells #[.bool false, .slice (some ⟨w2.heap.size, 0, none⟩) 1 1] 215) = w5 := ⟨_, rfl⟩
  have q0 : Blk w5 w2.heap.size 209 #[.int .u32 1] := by rw [← hw5]; exact ((Blk.new w2 _ _).alloc _).alloc _
  have q1 : Blk w5 (w2.heap.size + 1) 215 #[.bool false, .slice A1 1 c1] := by rw [← hw5]; exact (blk_at5 (by simp)).alloc _
  have q2 : Blk w5 (w2.heap.size + 2) 215 #[.bool false, .slice (some ⟨w2.heap.size, 0, none⟩) 1 1] := by rw [← hw5]; exact blk_at5 (by simp)
  have B25 : Below w2.heap.size w2 w5 := by rw [← hw5]; exact (((Below.refl _ _).alloc (Nat.le_refl _) _).alloc (by simp) _).alloc (by simp; omega) _
  have r1 := Lib.hid (r1.below B25)
  have B5 := Lib.hid (hB.trans (B25.mono hB.size))
  have Q0 := Lib.hid (Reads.blk q0)
  have Q1 := Lib.hid q1
  have Q2 := Lib.hid q2
  have HW5 := Lib.hid hw5
  have HS5 : Hid (w5.heap.size = w2.heap.size + 3) := by rw [Hid, ← hw5]; simp
  have HSB := Lib.hid hB.size
  clear q0 q1 q2 B25 hw5 hB
  go_wp2
  rw [HW5.out]
  go_loopw [25] (fun i wr => ∃ (k : Nat) (A : Option Addr) (c : Nat), k ≤ n ∧ i = .int .i64 k ∧ Hid (Blk wr (w2.heap.size + 1) 215 #[.bool false, .slice A1 1 c1]) ∧ Hid (Blk wr (w2.heap.size + 2) 215 #[.bool false, .slice A 1 c]) ∧ Hid (Reads wr w2.heap.size 1 A1 1 (u32s [x])) ∧
    Hid (Reads wr wr.heap.size 1 A 1 (u32s [x ^ k])) ∧ Hid (∀ j, blockOf A j → j ≠ w2.heap.size + 2) ∧ Hid (Below w.heap.size w wr) ∧ Hid (w5.heap.size ≤ wr.heap.size)) (fun i _ => n - (RowKit.intOf i).toNat)
  case atStart => exact ⟨0, _, _, by omega, rfl, Q1.out, Q2.out, r1.out, Q0.out, (by rintro j ⟨a, ha, rfl⟩; injection ha with ha; subst ha; show w2.heap.size ≠ _; omega), B5.out, Nat.le_refl _⟩
  case round =>
    obtain ⟨k, A, c, hk, rfl, g1, g2, i1, i2, i3, i4, i5⟩ := hrel
    have a0 := g1.out.cell 0
    have a1 := g1.out.cell 1
    have b0 := g2.out.cell 0
    have b1 := g2.out.cell 1
    have b2 := g2.out.frozen 0
    have b3 := g2.out.frozen 1
    have hsz := HS5.out
    have hle := i5.out
    by_cases hlt : k < n
    · have hi : (k : Int) < (n : Int) := by omega
      obtain ⟨h1, h2, h3⟩ := HPW.out k hlt
      have MC := Lib.hid (product_any (x ^ k) x h1 HX.out h2 A c A1 c1 wr i2.out (i1.out.more (by omega)))
      clear hsz
      go_wp2_with fail
      refine (MC.out).mono ?_
      rintro e w6 ⟨A5, c5, rfl, r5, n5, hb⟩
      have hB2 := i4.out.trans (hb.mono i4.out.size)
      have G1 := g1.out.next hb
      have G2 := g2.out.next hb
      have a0 := G1.cell 0
      have a1 := G1.cell 1
      have b0 := G2.cell 0
      have b1 := G2.cell 1
      have b2 := G2.frozen 0
      have b3 := G2.frozen 1
      have hsz := HS5.out
      have O := ((Only.refl (fun k => k = w2.heap.size + 2) w6).setCell (p := ⟨w2.heap.size + 2, 0, none⟩) (.inl rfl) (.bool false)).setCell (p := ⟨w2.heap.size + 2, 1, none⟩) (.inl rfl) (.slice A5 1 c5)
      have N1 := Lib.hid (reads_only (i1.out.below (hb.mono (by omega))) O (by have := hb.size; omega) (fun k hk hc => by
        obtain ⟨b, off, hA, hbb, _⟩ := i1.out.2 (by omega)
        obtain ⟨a, ha, rfl⟩ := hk
        rw [hA] at ha; injection ha with ha; subst ha
        have h4 : b = w2.heap.size + 2 := hc
        omega))
      have N2 := Lib.hid ((reads_only r5 O (Nat.le_refl _) (fun k hk hc => by have := n5 k hk; omega)).more O.size)
      have N3 := Lib.hid (O.size)
      have N4 := Lib.hid (hB2.trans (O.below (fun k hk hc => by have := HSB.out; omega) hB2.size))
      have N5 : Hid (∀ j, blockOf A5 j → j ≠ w2.heap.size + 2) := fun j hj => by have := n5 j hj; omega
      have N6 := Lib.hid (((G1.far (p := ⟨w2.heap.size + 2, 0, none⟩) (by show w2.heap.size + 1 ≠ w2.heap.size + 2; omega) (.bool false)).far (p := ⟨w2.heap.size + 2, 1, none⟩) (by show w2.heap.size + 1 ≠ w2.heap.size + 2; omega) (.slice A5 1 c5)))
      have N7 := Lib.hid ((G2.set_ 0 (.bool false)).set_ 1 (.slice A5 1 c5))
      have N8 : Hid (w5.heap.size ≤ w6.heap.size) := Nat.le_trans hle hb.size
      clear hb r5 n5 hB2 G1 G2 O hsz hle
      go_wp2
      go_roundw
      case rel => exact ⟨k + 1, A5, c5, by omega, by go_num, N6.out, N7.out, N1.out, by rw [Hid, h3]; exact N2.out, N5.out, N4.out, Nat.le_trans N8.out N3.out⟩
      case measure => simp [RowKit.intOf]; omega
    · obtain rfl : k = n := by omega
      clear hsz hle
      go_wp2_with fail
      refine (RC.out _ _ _ i4.out i2.out).mono ?_
      rintro e w6 ⟨rfl, hb⟩
      have hB := i4.out.trans (hb.mono i4.out.size)
      go_wp2
      go_ret2
      exact ⟨rfl, hB⟩
end Go.Proofs.YtnbikkcalcpedaaGreatDoor

/-! polynomial.Monomial with the coefficient one; activity.Weight. -/
namespace Go.Proofs.YtnbikkcalcpedaaGreatDoor
open Go.RowKit

theorem exponent_any (x : Nat) (h : x ≤ 256) (w : World) : Calls Tryz.prog 120 #[.int .i64 x] w fun e w' => e = .returned (.bool true) ∧ w' = w := by
  have h0 : (0 : Int) ≤ (x : Int) := by omega
  have h1 : (x : Int) ≤ 256 := by omega
  have h2 : decide ((x : Int) ≤ 256) = true := decide_eq_true h1
  go_enter Tryz.func120, Tryz.ntmps120
  go_wp2
  go_ret
  exact ⟨rfl, rfl⟩
theorem oneT {w : World} {base : Nat} (hb : base ≤ w.heap.size) (x y : Nat) (z : Int) : OwnT (w.alloc (.cells #[.int .i64 x, .int .i64 y, .string (intS z)] 87)) base (some ⟨w.heap.size, 0, none⟩) 1 [((x, y), z)] :=
  World.ownsRow_lit w #[.int .i64 x, .int .i64 y, .string (intS z)] 1 hb (by unfold maxLen; omega) rfl
set_option maxRecDepth 100000 in
set_option maxHeartbeats 2000000 in
theorem monomial_one (x y : Nat) (hx : x ≤ 256) (hy : y ≤ 256) (w : World) :
    Calls Tryz.prog 116 #[.int .i64 x, .int .i64 y, .string (intS 1)] w fun e w' => ∃ A' c', e = .returned (.tuple #[.slice A' 1 c', .int .i64 0]) ∧ OwnT w' w.heap.size A' c' [((x, y), 1)] ∧ Below w.heap.size w w' := by
  have XC := Lib.hid (exponent_any x hx)
  have YC := Lib.hid (exponent_any y hy)
  have CC := Lib.hid (check_int 1 (by decide) w)
  have hz : ((intS 1).toList == [48]) = false := by decide +kernel
  have hO := Lib.hid (fun (W : World) (hb : w.heap.size ≤ W.heap.size) => oneT hb x y 1)
  obtain ⟨S, hS⟩ : ∃ S, intS 1 = S := ⟨_, rfl⟩
  replace CC : Hid (Calls Tryz.prog 65 #[.string S] w fun e w' => e = .returned (.int .i64 0) ∧ Below w.heap.size w w') := by rw [← hS]; exact CC
  rw [hS] at hz hO ⊢
  clear hx hy hS
  go_enter Tryz.func116, Tryz.ntmps116
  go_wp2_with fail
  refine (XC.out _).mono ?_
  rintro e w' ⟨rfl, rfl⟩
  go_wp2_with fail
  refine (YC.out _).mono ?_
  rintro e w' ⟨rfl, rfl⟩
  go_wp2_with fail
  refine (CC.out).mono ?_
  rintro e w' ⟨rfl, hb⟩
  go_wp2
  go_ret2
  exact ⟨_, _, rfl, hO.out _ hb.size, hb.alloc hb.size _⟩

/-- What Weight returns. -/
def weightE (n : Int) (es : List E3) (xs : List Int) : List Tm × Int := if treeErr n es xs = 0 then ([(((intE n es xs).1.length, (extE n es xs).1.length), 1)], 0) else ([], treeErr n es xs)
set_option maxRecDepth 100000 in
set_option maxHeartbeats 2000000 in
theorem weight_any (n : Int) (A : Option Addr) (c : Nat) (es : List E3) (hn : es.length ≤ 10000) (B : Option Addr) (d : Nat) (xs : List Int) (hm : xs.length ≤ 1048576) (hl : (intE n es xs).1.length ≤ 256) (hl2 : (extE n es xs).1.length ≤ 256) (w : World) (h : Reads w w.heap.size 3 A es.length (edgeCells es)) (h' : Reads w w.heap.size 1 B xs.length (ints xs)) :
    Calls Tryz.prog 58 #[.agg #[.int .i64 n, .slice A es.length c], .slice B xs.length d] w fun e w' => ∃ A' c', e = .returned (.tuple #[.slice A' (weightE n es xs).1.length c', .int .i64 (weightE n es xs).2]) ∧ OwnT w' w.heap.size A' c' (weightE n es xs).1 ∧ Below w.heap.size w w' := by
  have BC := Lib.hid (fun (W : World) (hB : Below w.heap.size w W) => both_any n A c es hn B d xs hm W ((h.below hB).more hB.size) ((h'.below hB).more hB.size))
  have g := Blk.new w 24 #[.int .i64 n, .slice A es.length c]
  have hB : Below w.heap.size w (w.alloc (.cells #[.int .i64 n, .slice A es.length c] 24)) := (Below.refl _ _).alloc (Nat.le_refl _) _
  have k0 := g.cell 0
  have k1 := g.cell 1
  have OC := Lib.hid (intOf_any 1 (by omega))
  rw [show numS 1 = intS 1 from numS_int 1] at OC
  have MC := Lib.hid (monomial_one (intE n es xs).1.length (extE n es xs).1.length hl hl2)
  unfold weightE
  obtain ⟨N, hN⟩ : ∃ N, xs.length = N := ⟨_, rfl⟩
  rw [hN] at BC ⊢
  by_cases hz : treeErr n es xs = 0
  · rw [if_pos hz]
    rw [hz] at BC
    dsimp only
    obtain ⟨R, hR⟩ : ∃ R, (intE n es xs).1.length = R := ⟨_, rfl⟩
    obtain ⟨T, hT⟩ : ∃ T, (extE n es xs).1.length = T := ⟨_, rfl⟩
    rw [hR, hT] at BC MC
    rw [hR, hT]
    obtain ⟨S, hS⟩ : ∃ S, intS 1 = S := ⟨_, rfl⟩
    rw [hS] at OC MC
    clear hR hT hS hz hl hl2 hN hm h h'
    go_enter Tryz.func58, Tryz.ntmps58
    go_wp2_with fail
    refine (BC.out _ hB).mono ?_
    rintro e wn ⟨A1, c1, A2, c2, rfl, _, _, hb⟩
    have hB := hB.trans (hb.mono hB.size)
    go_wp2_with fail
    refine (OC.out _).mono ?_
    rintro e wm ⟨rfl, rfl⟩
    go_wp2_with fail
    refine (MC.out _).mono ?_
    rintro e wm ⟨A', c', rfl, o, hb2⟩
    have o' := o.mono (base' := w.heap.size) hB.size
    have hB := hB.trans (hb2.mono hB.size)
    go_wp2
    go_ret2
    exact ⟨A', c', rfl, o', hB⟩
  · rw [if_neg hz]
    dsimp only
    obtain ⟨z, hzz⟩ : ∃ z, treeErr n es xs = z := ⟨_, rfl⟩
    rw [hzz] at BC hz ⊢
    have hzb : (z != 0) = true := by simpa using hz
    clear hz hzz hl hl2 hN hm h h' MC
    go_enter Tryz.func58, Tryz.ntmps58
    go_wp2_with fail
    refine (BC.out _ hB).mono ?_
    rintro e wn ⟨A1, c1, A2, c2, rfl, _, _, hb⟩
    have hB := hB.trans (hb.mono hB.size)
    go_wp2
    go_ret2
    exact ⟨none, 0, rfl, OwnT.nil_ _ _, hB⟩
end Go.Proofs.YtnbikkcalcpedaaGreatDoor

/-! activity.Polynomial over the trees: a map counts the weights, its entries become terms, and these are sorted. -/
namespace Go.Proofs.YtnbikkcalcpedaaGreatDoor
open Go.RowKit

set_option maxRecDepth 100000 in
set_option maxHeartbeats 4000000 in
theorem poly_core (n : Int) (A : Option Addr) (c m : Nat) (xss : List (List Int)) (F : List (Nat × Nat)) (hFl : F.length = xss.length) (hN : xss.length < 100) (hF : ∀ p ∈ F, p.1 ≤ 256 ∧ p.2 ≤ 256) (w : World)
    (AC : ∀ W, Below w.heap.size w W → Calls Tryz.prog 49 #[.agg #[.int .i64 n, .slice A m c]] W fun e w' => ∃ Ar cr vs, e = .returned (.tuple #[.slice Ar xss.length cr, .int .i64 0]) ∧ OwnRows w' W.heap.size Ar cr vs xss ∧ Below W.heap.size W w')
    (WC : ∀ (i : Nat) (xs : List Int) (p : Nat × Nat), xss[i]? = some xs → F[i]? = some p → ∀ B d W, Below w.heap.size w W → Reads W W.heap.size 1 B xs.length (ints xs) → Calls Tryz.prog 58 #[.agg #[.int .i64 n, .slice A m c], .slice B xs.length d] W fun e w' => ∃ A' c', e = .returned (.tuple #[.slice A' 1 c', .int .i64 0]) ∧ OwnT w' W.heap.size A' c' [(p, 1)] ∧ Below W.heap.size W w') :
    Calls Tryz.prog 15 #[.agg #[.int .i64 n, .slice A m c]] w fun e w' => ∃ A' c', e = .returned (.tuple #[.slice A' (sumP F).length c', .int .i64 0]) ∧ OwnT w' w.heap.size A' c' (sumP F) ∧ Below w.heap.size w w' := by
  have AC := Lib.hid AC
  have WC := Lib.hid WC
  have HF := Lib.hid hF
  have HFL := Lib.hid hFl
  have g := Blk.new w 24 #[.int .i64 n, .slice A m c]
  have hB : Below w.heap.size w (w.alloc (.cells #[.int .i64 n, .slice A m c] 24)) := (Below.refl _ _).alloc (Nat.le_refl _) _
  have k0 := g.cell 0
  have k1 := g.cell 1
  obtain ⟨N, hNN⟩ : ∃ N, xss.length = N := ⟨_, rfl⟩
  have HNN := Lib.hid hNN
  rw [hNN] at AC hN
  clear hF hFl hNN
  go_enter Tryz.func15, Tryz.ntmps15
  go_wp2_with fail
  refine (AC.out _ hB).mono ?_
  rintro e w1 ⟨Ar, cr, vs, rfl, hrows, hb⟩
  have g := g.next hb
  have hB := hB.trans (hb.mono hB.size)
  have hR := hrows.reads
  clear hb hrows k0 k1
  have hM0 : (w1.alloc (.map #[] 0)).ownsMap Tryz.prog 50 (plainElem (H := Unit) Tryz.prog 3) w1.heap.size 0 (.map []) := World.ownsMap_made w1 _ _ _
  have hmm := @run_makeMap Tryz.prog
  go_wp2
  go_loopw [2, 3, 8, 9, 10, 25] (fun _ _ _ _ _ i wr => ∃ k : Nat, k ≤ N ∧ i = .int .i64 k ∧ Below w1.heap.size w1 wr ∧ ∃ D : DataW Unit, wr.ownsMap Tryz.prog 50 (plainElem Tryz.prog 3) w1.heap.size k D ∧ CntD (F.take k) D) (fun _ _ _ _ _ i _ => N - (intOf i).toNat)
  case atStart => exact ⟨0, by omega, rfl, (Below.refl _ _).alloc (Nat.le_refl _) _, _, hM0, by rw [List.take_zero]; exact CntD.nil⟩
  case round =>
    obtain ⟨k, hk, rfl, hb1, D, hM, hD⟩ := hrel
    by_cases hlt : k < N
    · have hi : (k : Int) < (N : Int) := by omega
      have gk := g.below hb1 g.lt
      have k0 := gk.cell 0
      have k1 := gk.cell 1
      obtain ⟨xs, hxs⟩ : ∃ xs, xss[k]? = some xs := ⟨_, List.getElem?_eq_getElem (by rw [HNN.out]; exact hlt)⟩
      obtain ⟨p, hp⟩ : ∃ p, F[k]? = some p := ⟨_, List.getElem?_eq_getElem (by rw [HFL.out, HNN.out]; exact hlt)⟩
      have HX := Lib.hid hxs
      have HP := Lib.hid hp
      have HPM := Lib.hid (HF.out p (List.mem_of_getElem? hp))
      obtain ⟨b', off', A0, c0, rfl, hb', hc', hr0⟩ := (hR.below hb1).at_ hxs
      have hBr : Below w.heap.size w wr := hB.trans (hb1.mono hB.size)
      have hr0 := hr0.more hb1.size
      obtain ⟨M, hMM⟩ : ∃ M, xs.length = M := ⟨_, rfl⟩
      have WK := Lib.hid (WC.out k xs p hxs hp A0 c0 wr hBr hr0)
      rw [hMM] at hc' WK
      clear hxs hp hMM
      go_wp2_with fail
      refine (WK.out).mono ?_
      rintro e wm ⟨A1, c1, rfl, ho, hb2⟩
      obtain ⟨b2, o2, rfl, _, q0, q1, _⟩ := (OwnT.reads ho).tm (k := 0) (e := (p, 1)) rfl
      rw [Nat.zero_mul, Nat.add_zero] at q0 q1
      have hM' : wm.ownsMap Tryz.prog 50 (plainElem (H := Unit) Tryz.prog 3) w1.heap.size k D := ownsMap_below hM hM.lt hb2
      have hFk : (F.take k).length = k := by rw [List.length_take, HFL.out, HNN.out]; omega
      obtain ⟨st, W1, e1, g1, s1, l0, l1, hst⟩ := hD.entry (t := 92) hM'.drew pairLaw keyOf_pair Tryz.underlying92 Tryz.underlying3 Tryz.zeroValue3 (by omega) (by omega) (q := p) (by have := HPM.out; omega)
      obtain ⟨W2, e2, hM2, g2, s2⟩ := hst W1 rfl
      have hcl : (F.take k).count p ≤ k := by have := List.count_le_length (a := p) (l := F.take k); omega
      obtain ⟨cn, hcn⟩ : ∃ cn, (F.take k).count p = cn := ⟨_, rfl⟩
      rw [hcn] at e1 l0 l1 e2 hM2 hcl
      have hwc : IntKind.i64.wrap ((cn : Int) + 1) = (cn : Int) + 1 := IntWalk.i64_in _ (by omega)
      have HCN := Lib.hid hcn
      clear hcn hst hFk
      unfold pairV at e1 l0 l1
      simp only [goInt] at e1 e2
      have hbm : w1.heap.size < b2 := Nat.lt_of_lt_of_le hM.lt ((OwnT.lt ho) b2 ⟨_, rfl, rfl⟩).1
      have q0' : W1.cell? ⟨b2, o2, none⟩ = some (.int .i64 p.1) := by
        rw [World.cell?_of_block (w := wm) (g1.block b2 ((OwnT.lt ho) b2 ⟨_, rfl, rfl⟩).2 (by simp; omega))]; exact q0
      have q1' : W1.cell? ⟨b2, o2 + 1, none⟩ = some (.int .i64 p.2) := by
        rw [World.cell?_of_block (w := wm) (g1.block b2 ((OwnT.lt ho) b2 ⟨_, rfl, rfl⟩).2 (by simp; omega))]; exact q1
      have hlt2 : b2 < W1.heap.size := by rw [s1]; exact ((OwnT.lt ho) b2 ⟨_, rfl, rfl⟩).2
      have q0'' : W2.cell? ⟨b2, o2, none⟩ = some (.int .i64 p.1) := by
        rw [World.cell?_of_block (w := W1) (g2.block b2 hlt2 (by simp; omega))]; exact q0'
      have q1'' : W2.cell? ⟨b2, o2 + 1, none⟩ = some (.int .i64 p.2) := by
        rw [World.cell?_of_block (w := W1) (g2.block b2 hlt2 (by simp; omega))]; exact q1'
      go_wp2
      go_region_held3 (fun W => W.cell? ⟨b2, o2, none⟩ = some (.int .i64 p.1) ∧ W.cell? ⟨b2, o2 + 1, none⟩ = some (.int .i64 p.2)) (first | exact ⟨q0, q1⟩ | exact ⟨q0', q1'⟩ | exact ⟨q0'', q1''⟩ | go_keep) (fail)
      all_goals
        go_wp2
        go_roundw
        case rel =>
          refine ⟨k + 1, by omega, by go_num, ?_, _, hM2, ?_⟩
          · exact (((hb1.trans (hb2.mono hb1.size)).drew.grown g1 (Nat.le_trans hb1.size hb2.size) (fun j hj => by cases hj; exact Nat.le_refl _))).grown g2 (by rw [s1]; exact Nat.le_trans hb1.size hb2.size) (fun j hj => by cases hj; exact Nat.le_refl _)
          · rw [take_snoc HP.out, ← HCN.out]
            exact hD.push pairLaw keyOf_pair (by have := HPM.out; omega)
        case measure => simp [intOf]; omega
    · obtain rfl : k = N := by omega
      have hf : ¬ (k : Int) < (k : Int) := by omega
      have hFF : F.take k = F := List.take_of_length_le (by rw [HFL.out, HNN.out]; exact Nat.le_refl _)
      rw [hFF] at hD
      have HF300 : Hid (∀ q ∈ F, q.1 ≤ 300 ∧ q.2 ≤ 300) := fun q hq => by have := HF.out q hq; omega
      go_wp2_with (first
        | (at_range; refine wpList_range_own _ rfl _ 92 rfl 50 3 (Maps.Keyed.of_law pairLaw) Tryz.underlying92 _ w1.heap.size k D rfl hM ?_; intro w2 hrg hg2 hs2)
        | fail)
      have hsz := ownsMap_size hM
      have hbr : Below w1.heap.size w1 w2 := hb1.grown hg2 hb1.size (fun j hj => by cases hj)
      obtain ⟨r, hr⟩ : ∃ r, wr.heap.size = r := ⟨_, rfl⟩
      have hrlt : w1.heap.size < r := by rw [← hr]; exact hM.lt
      rw [hr] at hrg hs2 ⊢
      clear hM hg2 hb1 hr g AC WC hR
      go_loopw [11, 12, 13] (fun s _ _ wr => ∃ left cnt Aq cq, ∃ L : List (Nat × Nat), s = .slice Aq L.length cq ∧ wr.ranges Tryz.prog 50 (plainElem (H := Unit) Tryz.prog 3) w1.heap.size r k D left cnt ∧ OwnT wr (r + 1) Aq cq (L.map fun p => (p, (F.count p : Int))) ∧ Below w1.heap.size w1 wr ∧ r + 1 ≤ wr.heap.size ∧ L.length + cnt ≤ k ∧ L.Nodup ∧ (∀ q ∈ L, q ∈ F) ∧ (∀ kl, left kl = true → Maps.has D kl = true) ∧ (∀ q ∈ F, left (kk q) = true ∨ q ∈ L) ∧ (∀ q ∈ L, left (kk q) = false)) (fun _ _ _ wr => wr.rangeLeft w1.heap.size r)
      case atStart =>
        refine ⟨_, _, none, 0, [], rfl, hrg, OwnT.nil_ _ _, hbr, by omega, ?_, List.nodup_nil, by simp, fun _ h => h, fun q hq => .inl (hD.mem_ q hq), by simp⟩
        simpa using hsz
      case round =>
        obtain ⟨left, cnt, Aq, cq, L, rfl, hrg, hO, hbr, hrs, hcn, hnd, hLF, hlD, hFL, hLl⟩ := hrel
        go_wp2_with (first
          | (at_next; refine wpList_next_cnt _ rfl _ rfl pairLaw keyOf_pair Tryz.underlying3 HF300.out w1.heap.size r k D hD left hlD cnt rfl hrg ?_ ?_)
          | fail)
        · intro hc0 hl0
          have hdone : ∀ q, q ∈ L ↔ q ∈ F := fun q => ⟨hLF q, fun hq => by
            rcases hFL q hq with h | h
            · rw [hl0] at h; cases h
            · exact h⟩
          have SC := Lib.hid (sortT_any 60 (enters_of Tryz.func60 (by kernel_rfl) rfl) actcmp_any (r + 1) Aq cq (L.map fun p => (p, (F.count p : Int))) (by rw [List.length_map]; omega) wr hO)
          rw [List.length_map] at SC
          have hLL : L.length = (L.map fun p => (p, (F.count p : Int))).length := by rw [List.length_map]
          obtain ⟨N2, hN2⟩ : ∃ N2, L.length = N2 := ⟨_, rfl⟩
          rw [hN2] at SC ⊢
          have HN2 := Lib.hid (hLL.symm.trans hN2)
          clear hN2 hLL
          go_wp2_with fail
          refine (SC.out).mono ?_
          rintro e w' ⟨rfl, p', hp1, hp2, hp3, hb3⟩
          have hpe := poly_done hnd hdone hp1 hp2
          have hlen : (sumP F).length = N2 := by rw [← hpe, ← hp1.length_eq]; exact HN2.out
          rw [hpe] at hp3
          have HLE := Lib.hid hlen
          clear hlen hpe hp1 hp2
          go_wp2
          go_ret2
          exact ⟨Aq, cq, by rw [HLE.out]; rfl, hp3.mono (by have := hB.size; omega), hB.trans ((hbr.trans (hb3.mono (by omega))).mono hB.size)⟩
        · intro x y w3 cnt' hp hl hrg' hlt hg3 hs3 hen
          unfold pairV at hen ⊢
          have hcl : F.count (x, y) ≤ F.length := List.count_le_length
          have hclk : F.length ≤ 100 := by rw [HFL.out, HNN.out]; omega
          have IC := Lib.hid (fun W => intOf_any (F.count (x, y)) (by rw [HFL.out, HNN.out] at hcl; omega) W)
          rw [numS_int] at IC
          obtain ⟨cn, hcn⟩ : ∃ cn, F.count (x, y) = cn := ⟨_, rfl⟩
          rw [hcn] at hen IC ⊢
          have HCQ : Hid (∀ z : Nat, z = F.count (x, y) → z = cn) := fun z hz => hz.trans hcn
          obtain ⟨S5, hS5⟩ : ∃ S5, intS (cn : Int) = S5 := ⟨_, rfl⟩
          rw [hS5] at IC
          have HS5 := Lib.hid hS5
          have hOw : w3.ownsRow (r + 1) 87 3 (.slice Aq L.length cq) L.length (tmCells (L.map fun p => (p, (F.count p : Int)))) := by
            have h := hO.kept (w' := w3) fun k hk => hg3.block k (hO.lt k hk).2 (fun e => by injection e with e; have := (hO.lt k hk).1; omega)
            unfold OwnT at h
            rw [List.length_map] at h
            exact h
          have G7 := Blk.new w3 50 #[.int .i64 x, .int .i64 y]
          have hOX := World.ownsRow.alloc hOw (.cells #[.int .i64 x, .int .i64 y] 50)
          have hne8 := Lib.hid (own_blk_ne hOX G7 (by decide))
          have HL3 := Lib.hid hs3
          have hL100 : L.length + 1 ≤ 1000 := by omega
          clear hcl hclk hcn hS5 hs3
          go_wp2
          have G8 := G7.drew.alloc (.cells #[.int .i64 x, .int .i64 y, .string S5] 87)
          have hO8 := World.ownsRow.alloc (World.ownsRow.drew hOX) (.cells #[.int .i64 x, .int .i64 y, .string S5] 87)
          have hRd := Reads.boxN ((w3.alloc (.cells #[.int .i64 x, .int .i64 y] 50)).drew) #[.int .i64 x, .int .i64 y, .string S5] 87
          rw [show ((w3.alloc (.cells #[.int .i64 x, .int .i64 y] 50)).drew).heap.size = w3.heap.size + 1 from by simp] at hRd
          have HRd := Lib.hid hRd
          clear hRd
          have HL := Lib.hid hL100
          clear hL100
          refine wp_region_held_drew (S := (fun W : World => W.cell? ⟨w3.heap.size, 0, none⟩ = some (.int .i64 x) ∧ W.cell? ⟨w3.heap.size, 1, none⟩ = some (.int .i64 y))) (by kernel_rfl) ⟨G7.drew.cell 0, G7.drew.cell 1⟩ (fun hSw => ?_)
          refine h_take (i := 0) (.slice Aq L.length cq) rfl (by kernel_rfl) (by kernel_rfl) (by kernel_rfl) (fun _ _ _ h => h) (by kernel_rfl) hSw ?_ ?_
          · intro w hw; (try dsimp only at hw); go_split_ands; go_simp
          refine h_take (i := 1) (.pointer (some ⟨w3.heap.size, 0, none⟩)) rfl (by kernel_rfl) (by kernel_rfl) (by kernel_rfl) (fun _ _ _ h => h) (by kernel_rfl) hSw ?_ ?_
          · intro w hw; (try dsimp only at hw); go_split_ands; go_simp
          refine h_take (i := 2) (.int .i64 x) rfl (by kernel_rfl) (by kernel_rfl) (by kernel_rfl) (fun _ _ _ h => h) (by kernel_rfl) hSw ?_ ?_
          · intro w hw; (try dsimp only at hw); go_split_ands; go_simp
          refine h_take (i := 3) (.pointer (some ⟨w3.heap.size, 1, none⟩)) rfl (by kernel_rfl) (by kernel_rfl) (by kernel_rfl) (fun _ _ _ h => h) (by kernel_rfl) hSw ?_ ?_
          · intro w hw; (try dsimp only at hw); go_split_ands; go_simp
          refine h_take (i := 4) (.int .i64 y) rfl (by kernel_rfl) (by kernel_rfl) (by kernel_rfl) (fun _ _ _ h => h) (by kernel_rfl) hSw ?_ ?_
          · intro w hw; (try dsimp only at hw); go_split_ands; go_simp
          refine h_take (i := 5) (.int .i64 cn) rfl (by kernel_rfl) (by kernel_rfl) (by kernel_rfl) (fun _ _ _ h => h) (by kernel_rfl) hSw ?_ ?_
          · intro w hw; (try dsimp only at hw); go_split_ands; go_simp
          refine h_step (i := 6) rfl (by kernel_rfl) (by kernel_rfl) ?_
          intro K hK
          go_simp
          go_at_call 19
          refine (IC.out _).mono ?_
          rintro e wz ⟨rfl, rfl⟩
          try go_simp
          refine hK _ _ hSw ?_
          clear hK K
          refine h_take (i := 7) (.agg #[.int .i64 x, .int .i64 y, .string S5]) rfl (by kernel_rfl) (by kernel_rfl) (by kernel_rfl) (fun _ _ _ h => h) (by kernel_rfl) hSw ?_ ?_
          · intro w hw; (try dsimp only at hw); go_split_ands; go_simp
          refine h_step (i := 8) rfl (by kernel_rfl) (by kernel_rfl) ?_
          intro K hK
          go_simp
          refine hK _ _ ⟨G8.cell 0, G8.cell 1⟩ ?_
          clear hK K hSw
          have hSw : (fun W : World => W.cell? ⟨w3.heap.size, 0, none⟩ = some (.int .i64 x) ∧ W.cell? ⟨w3.heap.size, 1, none⟩ = some (.int .i64 y)) _ := ⟨G8.cell 0, G8.cell 1⟩
          refine h_step (i := 9) rfl (by kernel_rfl) (by kernel_rfl) ?_
          intro K hK
          refine append_wp rfl (.tmp 60) (.tmp 68) _ rfl (r + 1) 87 Tryz.underlying33 info_tm rfl (by omega) Aq cq L.length _ rfl hO8 _ [.int .i64 x, .int .i64 y, .string S5] rfl HRd.out (by intro u hu; simp at hu; rcases hu with rfl | rfl | rfl <;> rfl) (by have := HL.out; omega) (by simp; have := HL3.out; omega) ?_
          intro A4 c4 w4 hown4 hg4 hb4 _
          have G4 := G8.grown hg4 (fun e => hne8.out e)
          refine hK _ _ ⟨G4.cell 0, G4.cell 1⟩ ?_
          clear hK K hSw
          have hSw : (fun W : World => W.cell? ⟨w3.heap.size, 0, none⟩ = some (.int .i64 x) ∧ W.cell? ⟨w3.heap.size, 1, none⟩ = some (.int .i64 y)) w4 := ⟨G4.cell 0, G4.cell 1⟩
          refine h_take (i := 10) (.slice A4 (L.length + 1) c4) rfl (by kernel_rfl) (by kernel_rfl) (by kernel_rfl) (fun _ _ _ h => h) (by kernel_rfl) hSw ?_ ?_
          · intro w hw; (try dsimp only at hw); go_split_ands; go_simp
          refine wpAnyH_done (by kernel_rfl) ?_ _
          go_simp
          go_wp2
          have hw3 : w3.heap.size = wr.heap.size := HL3.out
          have hB4 : Below (r + 1) w3 w4 := ((((Below.refl (r + 1) w3).alloc (by omega) (.cells #[.int .i64 x, .int .i64 y] 50)).drew.alloc (by simp; omega) (.cells #[.int .i64 x, .int .i64 y, .string S5] 87))).trans hb4
          have hrg4 := ranges_below hrg' (by omega) (by omega) hB4
          have hKK : ∀ q ∈ F, (kk q).sameKey (kk (x, y)) = true → q = (x, y) := fun q hq h => kk_inj pairLaw keyOf_pair (HF300.out q hq) (HF300.out _ hp) (WideAt.sameKey_eq h)
          have hself : (kk (x, y)).sameKey (kk (x, y)) = true := WideAt.sameKey_self ((Maps.Keyed.of_law pairLaw).key (keyOf_pair _ (HF300.out _ hp).1 (HF300.out _ hp).2))
          have hnL : (x, y) ∉ L := fun hc => by have := hLl _ hc; rw [hl] at this; cases this
          have hT : (L ++ [(x, y)]).map (fun p => (p, (F.count p : Int))) = L.map (fun p => (p, (F.count p : Int))) ++ [((x, y), (cn : Int))] := by rw [List.map_append, List.map_singleton, HCQ.out _ rfl]
          have hOT : OwnT w4 (r + 1) A4 c4 ((L ++ [(x, y)]).map fun p => (p, (F.count p : Int))) := by
            unfold OwnT
            rw [hT, tmCells_append, List.length_append, List.length_map]
            show w4.ownsRow (r + 1) _ 3 _ _ (_ ++ [.int .i64 x, .int .i64 y, .string (intS (cn : Int))])
            rw [HS5.out]
            exact hown4
          go_roundw
          case rel =>
            refine ⟨_, cnt', A4, c4, L ++ [(x, y)], by rw [List.length_append]; rfl, hrg4, hOT, ?_, by have := hb4.size; simp at this; omega, by rw [List.length_append, List.length_singleton]; omega, List.nodup_append.2 ⟨hnd, by simp, fun a ha b hb hab => hnL (by rw [List.mem_singleton] at hb; rw [← hb, ← hab]; exact ha)⟩, ?_, ?_, ?_, ?_⟩
            · exact (hbr.grown hg3 (by omega) (fun j hj => by cases hj; omega)).trans (hB4.mono (by omega))
            · intro q hq
              rcases List.mem_append.1 hq with hq | hq
              · exact hLF q hq
              · rw [List.mem_singleton] at hq; rw [hq]; exact hp
            · intro kl h
              exact hlD kl (Bool.and_eq_true_iff.1 h).1
            · intro q hq
              rcases hFL q hq with h | h
              · by_cases hs : (kk q).sameKey (kk (x, y)) = true
                · right; rw [hKK q hq hs]; simp
                · left; show (left (kk q) && !(kk q).sameKey (kk (x, y))) = true
                  rw [h, Bool.eq_false_iff.2 hs]; rfl
              · right; exact List.mem_append.2 (.inl h)
            · intro q hq
              show (left (kk q) && !(kk q).sameKey (kk (x, y))) = false
              rcases List.mem_append.1 hq with hq | hq
              · rw [hLl q hq]; rfl
              · rw [List.mem_singleton] at hq; rw [hq, hself]; simp
          case measure => rw [hrg4.left_eq, hrg.left_eq]; exact hlt
end Go.Proofs.YtnbikkcalcpedaaGreatDoor

