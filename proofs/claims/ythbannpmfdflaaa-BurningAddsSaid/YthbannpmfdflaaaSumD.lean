/-
  The sum of two divisors (a closure of the law BurningAdds); ref14.SameDivisor; right.
-/
import Derived.Test.YthbannpmfdflaaaKindle
import Derived.Test.YthbannpmfdflaaaOwnSet
import Derived.Test.YthbannpmfdflaaaPushE
import Derived.Test.YthbannpmfdflaaaRFew
import Derived.Test.YthbannpmfdflaaaRConf2
import Derived.BigRegion
namespace Go.Proofs.Ythbannpmfdflaaa
open Go.RowKit

theorem sumK_end (xs ys : List Int) : sumK xs ys xs.length = sumL xs ys := rfl
set_option maxHeartbeats 2000000 in
theorem dsum_any (A : Option Addr) (c : Nat) (xs : List Int) (B : Option Addr) (d : Nat) (ys : List Int) (hl : xs.length = ys.length) (hn : xs.length ≤ 12) (hbx : Bd 1048576 xs) (hby : Bd 1048576 ys) (w : World) (h : Reads w w.heap.size 1 A xs.length (ints xs)) (h' : Reads w w.heap.size 1 B ys.length (ints ys)) :
    Calls Try.prog 27 #[.slice A xs.length c, .slice B ys.length d] w fun e w' => ∃ C c', e = .returned (.slice C xs.length c') ∧ OwnI w' w.heap.size C c' (sumL xs ys) ∧ Below w.heap.size w w' := by
  have HX := Lib.hid hbx
  have HY := Lib.hid hby
  have HL := Lib.hid hl
  clear hl hbx hby
  go_enter Try.func27, Try.ntmps27
  go_wp2_with fail
  refine (dclone_any A c xs (by omega) w h).mono ?_
  rintro e w1 ⟨C, c', rfl, oC, hb1⟩
  rw [← sumK_zero xs ys] at oC
  go_wp2
  go_loopw [11] (fun i wr => ∃ k : Nat, k ≤ xs.length ∧ i = .int .i64 k ∧ Below w.heap.size w wr ∧ OwnI wr w.heap.size C c' (sumK xs ys k)) (fun i _ => xs.length - (intOf i).toNat)
  case atStart => exact ⟨0, by omega, rfl, hb1, oC⟩
  case round =>
    obtain ⟨k, hk, rfl, hbel, oK⟩ := hrel
    clear hb1 oC
    by_cases hlt : k < xs.length
    · obtain ⟨y, hy⟩ := get_of_lt (xs := ys) (k := k) (by have := HL.out; omega)
      obtain ⟨x, hx⟩ := get_of_lt hlt
      have hs := sumK_at xs ys k hlt
      rw [if_neg (by omega), Int.add_zero, getD_at hx] at hs
      have hset := sumK_succ xs ys hlt
      rw [getD_at hx, getD_at hy] at hset
      obtain ⟨g, rfl, hg, hf, hc⟩ := oK.block (by rw [sumK_length]; omega)
      have hf := hf k
      have hc := hc k x hs
      obtain ⟨b', off', rfl, hb', hcell'⟩ := (h'.below hbel).at_ (ints_at hy)
      have hbx := HX.out.at_ hx
      have hby := HY.out.at_ hy
      have hx0 : -1048576 ≤ x := by omega
      have hx1 : x ≤ 1048576 := by omega
      have hy0 : -1048576 ≤ y := by omega
      have hy1 : y ≤ 1048576 := by omega
      have hi : (k : Int) < (xs.length : Int) := by omega
      have hi' : (k : Int) < (ys.length : Int) := by have := HL.out; omega
      have HS := Lib.hid hset
      have HO := Lib.hid oK
      clear hbx hby hx hy hs hset h h' oK
      go_wp2
      go_region
      all_goals (
        have OX := HO.out.put k (x + y)
        rw [← HS.out] at OX
        have BX := hbel.setCell (p := ⟨g, k, none⟩) (by show w.heap.size ≤ g; omega) (.int .i64 (x + y))
        go_wp2
        go_roundw
        case rel => exact ⟨k + 1, by omega, by go_num, ⟨BX.os, BX.tape, BX.output, BX.size, BX.block⟩, OX⟩
        case measure => simp [intOf]; omega)
    · obtain rfl : k = xs.length := by omega
      rw [sumK_end] at oK
      go_wp2
      go_ret
      exact ⟨C, c', rfl, oK, hbel⟩

set_option maxHeartbeats 800000 in
theorem rsdiv_any (A : Option Addr) (c : Nat) (xs : List Int) (B : Option Addr) (d : Nat) (hn : xs.length ≤ 1048576) (w : World) (h : Reads w w.heap.size 1 A xs.length (ints xs)) (h' : Reads w w.heap.size 1 B xs.length (ints xs)) :
    Calls Try.prog 28 #[.slice A xs.length c, .slice B xs.length d] w fun e w' => e = .returned (.bool true) ∧ Below w.heap.size w w' := by
  go_enter Try.func28, Try.ntmps28
  go_wp2
  go_loopw [5] (fun i wr => ∃ k : Nat, k ≤ xs.length ∧ i = .int .i64 k ∧ Below w.heap.size w wr) (fun i _ => xs.length - (intOf i).toNat)
  case atStart => exact ⟨0, by omega, rfl, Below.refl _ _⟩
  case round =>
    obtain ⟨k, hk, rfl, hbel⟩ := hrel
    by_cases hlt : k < xs.length
    · obtain ⟨x, hx⟩ := get_of_lt hlt
      obtain ⟨b, off, rfl, hb, hcell⟩ := (h.below hbel).at_ (ints_at hx)
      obtain ⟨b', off', rfl, hb', hcell'⟩ := (h'.below hbel).at_ (ints_at hx)
      have hi : (k : Int) < (xs.length : Int) := by omega
      clear hx h h'
      go_wp2
      go_region
      all_goals (
        go_wp2
        go_roundw
        case rel => exact ⟨k + 1, by omega, by go_num, below_drewN hbel _⟩
        case measure => simp [intOf]; omega)
    · have hi : ¬ (k : Int) < (xs.length : Int) := by omega
      go_wp2
      go_ret
      exact ⟨rfl, hbel⟩
end Go.Proofs.Ythbannpmfdflaaa
