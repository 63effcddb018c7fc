/-
  slices.ContainsFunc on divisors, with a function that has captured nothing; firing.bounded, Check, Apply; slices.Min and Max on scripts.
-/
import Derived.Test.YthbannpmfdflaaaApply
import Derived.WalkKit
namespace Go.Proofs.Ythbannpmfdflaaa
open Go.RowKit

set_option maxHeartbeats 1000000 in
theorem dindexf_any (F : Nat) (eg : ∀ args w, (callFunc F args).run Try.prog w = .ok (.enter F args) w) (p : Int → Bool) (A : Option Addr) (c : Nat) (xs : List Int) (hn : xs.length ≤ 1048576) (w : World) (h : Reads w w.heap.size 1 A xs.length (ints xs))
    (hp : ∀ x ∈ xs, ∀ m, Calls Try.prog F #[.int .i64 x] (w.drewN m) fun e w' => e = .returned (.bool (p x)) ∧ ∃ m', w' = w.drewN m') :
    Calls Try.prog 161 #[.slice A xs.length c, .func (.func F) #[] #[]] w fun e w' => ∃ r : Int, e = .returned (.int .i64 r) ∧ Hid (0 ≤ r ↔ ∃ x ∈ xs, p x = true) ∧ ∃ m, w' = w.drewN m := by
  have HP := Lib.hid hp
  clear hp
  go_enter Try.func161, Try.ntmps161
  go_wp2
  go_loopw [8] (fun i wr => ∃ k : Nat, k ≤ xs.length ∧ i = .int .i64 k ∧ Hid (∀ x ∈ xs.take k, p x = false) ∧ Hid (∃ m, wr = w.drewN m)) (fun i _ => xs.length - (intOf i).toNat)
  case atStart => exact ⟨0, by omega, rfl, by simp [Hid], ⟨0, rfl⟩⟩
  case round =>
    obtain ⟨k, hk, rfl, HS, HM⟩ := hrel
    by_cases hlt : k < xs.length
    · obtain ⟨x, hx⟩ := get_of_lt hlt
      obtain ⟨m, rfl⟩ := HM.out
      obtain ⟨b, off, rfl, hb, hcell0⟩ := h.at_ (ints_at hx)
      have hcell : (w.drewN m).cell? ⟨b, off + k, none⟩ = some (.int .i64 x) := hcell0
      have hi : (k : Int) < (xs.length : Int) := by omega
      have htk := take_snoc hx
      have PC := HP.out x (List.mem_of_getElem? hx) m
      have HX := Lib.hid hx
      cases hpx : p x
      · rw [hpx] at PC
        have PC := Lib.hid PC
        have HN : Hid (∀ x ∈ xs.take (k + 1), p x = false) := by
          rw [htk]
          intro z hz
          rcases List.mem_append.1 hz with hz | hz
          · exact HS.out z hz
          · rw [List.mem_singleton.1 hz]; exact hpx
        clear hx htk hpx hcell0 h
        go_wp2_with fail
        refine (PC.out).mono ?_
        rintro e w2 ⟨rfl, m2, rfl⟩
        go_wp2
        go_roundw
        case rel => exact ⟨k + 1, by omega, by go_num, HN, ⟨m2, rfl⟩⟩
        case measure => simp [intOf]; omega
      · rw [hpx] at PC
        have PC := Lib.hid PC
        have HT : Hid (∃ x ∈ xs, p x = true) := ⟨x, List.mem_of_getElem? hx, hpx⟩
        clear hx htk hpx hcell0 h
        go_wp2_with fail
        refine (PC.out).mono ?_
        rintro e w2 ⟨rfl, m2, rfl⟩
        go_wp2
        go_ret
        exact ⟨k, rfl, ⟨fun _ => HT.out, fun _ => by omega⟩, m2, rfl⟩
    · obtain rfl : k = xs.length := by omega
      rw [List.take_length] at HS
      go_wp2
      go_ret
      refine ⟨-1, rfl, ⟨fun h => absurd h (by decide), ?_⟩, HM.out⟩
      rintro ⟨x, hx, hp⟩
      rw [HS.out x hx] at hp; cases hp
set_option maxHeartbeats 1000000 in
theorem dcontainsf_any (F : Nat) (eg : ∀ args w, (callFunc F args).run Try.prog w = .ok (.enter F args) w) (p : Int → Bool) (A : Option Addr) (c : Nat) (xs : List Int) (hn : xs.length ≤ 1048576) (w : World) (h : Reads w w.heap.size 1 A xs.length (ints xs))
    (hp : ∀ x ∈ xs, ∀ m, Calls Try.prog F #[.int .i64 x] (w.drewN m) fun e w' => e = .returned (.bool (p x)) ∧ ∃ m', w' = w.drewN m') :
    Calls Try.prog 133 #[.slice A xs.length c, .func (.func F) #[] #[]] w fun e w' => e = .returned (.bool (xs.any p)) ∧ ∃ m, w' = w.drewN m := by
  have IC := Lib.hid (dindexf_any F eg p A c xs hn w h hp)
  have HA : Hid (∀ r : Int, (0 ≤ r ↔ ∃ x ∈ xs, p x = true) → decide (0 ≤ r) = xs.any p) := by
    intro r hr
    rw [Bool.eq_iff_iff, List.any_eq_true, decide_eq_true_eq]; exact hr
  clear hp h
  go_enter Try.func133, Try.ntmps133
  go_wp2_with fail
  refine (IC.out).mono ?_
  rintro e w1 ⟨r, rfl, HR, HM⟩
  go_wp2
  go_ret
  exact ⟨ret_bool (HA.out r HR.out), HM⟩

set_option maxHeartbeats 1000000 in
theorem inside_any (x : Int) (hx : -1048576 ≤ x ∧ x ≤ 1048576) (w : World) : Calls Try.prog 134 #[.int .i64 x] w fun e w' => e = .returned (.bool false) ∧ ∃ m, w' = w.drewN m := by
  have h1 : ¬ x < -1048576 := by omega
  have h2 : ¬ 1048576 < x := by omega
  go_enter Try.func134, Try.ntmps134
  go_wp2
  go_ret
  exact ⟨rfl, 0, rfl⟩
set_option maxHeartbeats 1000000 in
theorem bounded_ok (A : Option Addr) (c : Nat) (xs : List Int) (hn : xs.length ≤ 1048576) (hb : Bd 1048576 xs) (w : World) (h : Reads w w.heap.size 1 A xs.length (ints xs)) :
    Calls Try.prog 87 #[.slice A xs.length c] w fun e w' => e = .returned (.tuple #[.slice A xs.length c, .int .i64 0]) ∧ ∃ m, w' = w.drewN m := by
  have eg : ∀ args w, (callFunc 134 args).run Try.prog w = .ok (.enter 134 args) w := enters_of (P := Try.prog) Try.func134 (by kernel_rfl) rfl
  have CC := dcontainsf_any 134 eg (fun _ => false) A c xs hn w h fun x hx m => by
    refine (inside_any x (hb x hx) (w.drewN m)).mono ?_
    rintro e w' ⟨he, m', rfl⟩
    exact ⟨he, m + m', by rw [World.drewN_drewN]⟩
  rw [show (xs.any fun _ => false) = false from by simp] at CC
  have CC := Lib.hid CC
  clear hb eg
  go_enter Try.func87, Try.ntmps87
  go_wp2_with fail
  refine (CC.out).mono ?_
  rintro e w1 ⟨rfl, m, rfl⟩
  go_wp2
  go_ret2
  exact ⟨rfl, m, rfl⟩
set_option maxHeartbeats 1000000 in
theorem fcheck_any (n : Int) (A : Option Addr) (c : Nat) (es : List E3) (hn : es.length ≤ 1048576) (B : Option Addr) (d : Nat) (ss : List Int) (hm : ss.length ≤ 1048576) (w : World) (h : Reads w w.heap.size 3 A es.length (edgeCells es)) (h' : Reads w w.heap.size 1 B ss.length (ints ss)) :
    Calls Try.prog 86 #[.agg #[.int .i64 n, .slice A es.length c], .slice B ss.length d] w fun e w' => e = .returned (.int .i64 (givErr n es ss)) ∧ Below w.heap.size w w' := by
  have GC := Lib.hid (given_any n A c es hn B d ss hm)
  have g0 := Blk.new w 24 #[.int .i64 n, .slice A es.length c]
  have hb0 : Below w.heap.size w (w.alloc (.cells #[.int .i64 n, .slice A es.length c] 24)) := (Below.refl _ _).alloc (Nat.le_refl _) _
  have c0 := g0.cell 0
  have c1 := g0.cell 1
  go_enter Try.func86, Try.ntmps86
  go_wp2_with fail
  refine (GC.out _ ((h.below hb0).more hb0.size) ((h'.below hb0).more hb0.size)).mono ?_
  rintro e w1 ⟨rfl, hb1⟩
  go_wp2
  go_ret
  exact ⟨rfl, hb0.trans (hb1.mono hb0.size)⟩
set_option maxRecDepth 100000 in
set_option maxHeartbeats 2000000 in
theorem apply_ok (n : Nat) (A : Option Addr) (c : Nat) (es : List E3) (hn : es.length ≤ 1048576) (hG : RightG n es) (B : Option Addr) (d : Nat) (cs : List Int) (hcl : cs.length = n) (hbc : Bd 1048576 cs) (S : Option Addr) (f : Nat) (ss : List Int) (hsl : ss.length = n) (hbs : Bd 1048576 ss) (hz1 : givErr n es cs = 0) (hz2 : givErr n es ss = 0)
    (hbm : Bd 1048576 (movedL es ss cs)) (w : World)
    (h : Reads w w.heap.size 3 A es.length (edgeCells es)) (h' : Reads w w.heap.size 1 B cs.length (ints cs)) (h'' : Reads w w.heap.size 1 S ss.length (ints ss)) :
    Calls Try.prog 40 #[.agg #[.int .i64 n, .slice A es.length c], .slice B cs.length d, .slice S ss.length f] w fun e w' => ∃ g c', e = .returned (.tuple #[.slice (some ⟨g, 0, none⟩) cs.length c', .int .i64 0]) ∧ OwnI w' w.heap.size (some ⟨g, 0, none⟩) c' (movedL es ss cs) ∧ Below w.heap.size w w' := by
  have hhi := hG.hi
  have hlo := hG.lo
  have GC := given_any n A c es hn B d cs (by omega)
  rw [hz1] at GC
  have GC := Lib.hid GC
  have FC := fcheck_any n A c es hn S f ss (by omega)
  rw [hz2] at FC
  have FC := Lib.hid FC
  have MC := Lib.hid (fmoved_any n (by omega) A c es hn hG.ok B d cs hcl (by omega) hbc S f ss hsl hbs)
  have BC : Hid (∀ (g c' base : Nat) (w : World), OwnI w base (some ⟨g, 0, none⟩) c' (movedL es ss cs) → Calls Try.prog 87 #[.slice (some ⟨g, 0, none⟩) cs.length c'] w fun e w' => e = .returned (.tuple #[.slice (some ⟨g, 0, none⟩) cs.length c', .int .i64 0]) ∧ ∃ m, w' = w.drewN m) := by
    intro g c' base w ho
    have := bounded_ok (some ⟨g, 0, none⟩) c' (movedL es ss cs) (by rw [movedL_length]; omega) hbm w ho.reads
    rwa [movedL_length] at this
  have g0 := Blk.new w 24 #[.int .i64 n, .slice A es.length c]
  have hb0 : Below w.heap.size w (w.alloc (.cells #[.int .i64 n, .slice A es.length c] 24)) := (Below.refl _ _).alloc (Nat.le_refl _) _
  clear hG hcl hbc hsl hbs hz1 hz2 hbm
  go_enter Try.func40, Try.ntmps40
  go_wp2_with fail
  refine (GC.out _ ((h.alloc (Nat.le_refl _) _).more (by simp)) ((h'.alloc (Nat.le_refl _) _).more (by simp))).mono ?_
  rintro e w1 ⟨rfl, hb1⟩
  have g1 := g0.next hb1
  have c0 := g1.cell 0
  have c1 := g1.cell 1
  have hB1 := hb0.trans (hb1.mono hb0.size)
  go_wp2_with fail
  refine (FC.out _ ((h.below hB1).more hB1.size) ((h''.below hB1).more hB1.size)).mono ?_
  rintro e w2 ⟨rfl, hb2⟩
  have g2 := g1.next hb2
  have c0 := g2.cell 0
  have c1 := g2.cell 1
  have hB2 := hB1.trans (hb2.mono hB1.size)
  go_wp2_with fail
  refine (MC.out _ ((h.below hB2).more hB2.size) ((h'.below hB2).more hB2.size) ((h''.below hB2).more hB2.size)).mono ?_
  rintro e w3 ⟨g, c', rfl, o3, hb3⟩
  have hB3 := hB2.trans (hb3.mono hB2.size)
  go_wp2_with fail
  refine (BC.out g c' _ w3 o3).mono ?_
  rintro e w4 ⟨rfl, m, rfl⟩
  go_wp2
  go_ret2
  exact ⟨g, c', rfl, (o3.mono hB2.size).drewN m, below_drewN hB3 m⟩

set_option maxHeartbeats 1000000 in
theorem smin_any (A : Option Addr) (c : Nat) (xs : List Int) (hn : xs.length ≤ 1048576) (h0 : 0 < xs.length) (w : World) (h : Reads w w.heap.size 1 A xs.length (ints xs)) :
    Calls Try.prog 39 #[.slice A xs.length c] w fun e w' => ∃ x, x ∈ xs ∧ e = .returned (.int .i64 x) ∧ w = w' := by
  obtain ⟨x0, hx0⟩ := get_of_lt h0
  obtain ⟨b, off, rfl, hb, hc0⟩ := h.at_ (ints_at hx0)
  rw [Nat.add_zero] at hc0
  have h00 : (0 : Int) < (xs.length : Int) := by omega
  have hne : ¬ (xs.length : Int) < 1 := by omega
  have hm0 : Hid (x0 ∈ xs) := List.mem_of_getElem? hx0
  clear hx0
  go_enter Try.func39, Try.ntmps39
  go_wp2
  go_loopw [3, 4] (fun m i wr => ∃ (k : Nat) (x : Int), 1 ≤ k ∧ k ≤ xs.length ∧ i = .int .i64 k ∧ m = .int .i64 x ∧ Hid (x ∈ xs) ∧ w = wr) (fun _ i _ => xs.length - (intOf i).toNat)
  case atStart => exact ⟨1, x0, by omega, by omega, rfl, rfl, hm0.out, rfl⟩
  case round =>
    obtain ⟨k, x, hk1, hk, rfl, rfl, HM, rfl⟩ := hrel
    by_cases hlt : k < xs.length
    · obtain ⟨y, hy⟩ := get_of_lt hlt
      obtain ⟨b', off', hA, _, hcy⟩ := h.at_ (ints_at hy)
      injection hA with hA; injection hA with q1 q2; subst q1 q2
      have hi : (k : Int) < (xs.length : Int) := by omega
      have HY : Hid (y ∈ xs) := List.mem_of_getElem? hy
      have HMM : Hid ((if y < x then y else x) ∈ xs) := by
        rw [Hid]
        split
        · exact HY.out
        · exact HM.out
      clear hy h
      go_wp2
      go_roundw
      case rel => exact ⟨k + 1, (if y < x then y else x), by omega, by omega, by go_num, rfl, HMM.out, trivial⟩
      case measure => simp [intOf]; omega
    · obtain rfl : k = xs.length := by omega
      go_wp2
      go_ret
      exact ⟨x, HM.out, rfl, rfl⟩

set_option maxHeartbeats 1000000 in
theorem smax_any (A : Option Addr) (c : Nat) (xs : List Int) (hn : xs.length ≤ 1048576) (h0 : 0 < xs.length) (w : World) (h : Reads w w.heap.size 1 A xs.length (ints xs)) :
    Calls Try.prog 42 #[.slice A xs.length c] w fun e w' => ∃ x, x ∈ xs ∧ e = .returned (.int .i64 x) ∧ w = w' := by
  obtain ⟨x0, hx0⟩ := get_of_lt h0
  obtain ⟨b, off, rfl, hb, hc0⟩ := h.at_ (ints_at hx0)
  rw [Nat.add_zero] at hc0
  have h00 : (0 : Int) < (xs.length : Int) := by omega
  have hne : ¬ (xs.length : Int) < 1 := by omega
  have hm0 : Hid (x0 ∈ xs) := List.mem_of_getElem? hx0
  clear hx0
  go_enter Try.func42, Try.ntmps42
  go_wp2
  go_loopw [3, 4] (fun m i wr => ∃ (k : Nat) (x : Int), 1 ≤ k ∧ k ≤ xs.length ∧ i = .int .i64 k ∧ m = .int .i64 x ∧ Hid (x ∈ xs) ∧ w = wr) (fun _ i _ => xs.length - (intOf i).toNat)
  case atStart => exact ⟨1, x0, by omega, by omega, rfl, rfl, hm0.out, rfl⟩
  case round =>
    obtain ⟨k, x, hk1, hk, rfl, rfl, HM, rfl⟩ := hrel
    by_cases hlt : k < xs.length
    · obtain ⟨y, hy⟩ := get_of_lt hlt
      obtain ⟨b', off', hA, _, hcy⟩ := h.at_ (ints_at hy)
      injection hA with hA; injection hA with q1 q2; subst q1 q2
      have hi : (k : Int) < (xs.length : Int) := by omega
      have HY : Hid (y ∈ xs) := List.mem_of_getElem? hy
      have HMM : Hid ((if x < y then y else x) ∈ xs) := by
        rw [Hid]
        split
        · exact HY.out
        · exact HM.out
      clear hy h
      go_wp2
      go_roundw
      case rel => exact ⟨k + 1, (if x < y then y else x), by omega, by omega, by go_num, rfl, HMM.out, trivial⟩
      case measure => simp [intOf]; omega
    · obtain rfl : k = xs.length := by omega
      go_wp2
      go_ret
      exact ⟨x, HM.out, rfl, rfl⟩
end Go.Proofs.Ythbannpmfdflaaa
