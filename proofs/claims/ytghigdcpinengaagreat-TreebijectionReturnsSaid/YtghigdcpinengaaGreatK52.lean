/-
  Texts of this claim, put together: LEqual, DEqual.
-/
import Derived.Test.YtghigdcpinengaaGreatK01
import Derived.Deep.QuietTactic
import Derived.BigQuiet
/-! slices.Equal on lists and on scripts. -/
namespace Go.Proofs.YtghigdcpinengaaGreat
open Go.RowKit

set_option maxHeartbeats 800000 in
theorem iequal_any (A : Option Addr) (c : Nat) (xs : List Int) (B : Option Addr) (d : Nat) (ys : List Int) (hn : xs.length ≤ 1048576) (w : World) (h : Reads w w.heap.size 1 A xs.length (ints xs)) (h' : Reads w w.heap.size 1 B ys.length (ints ys)) :
    Calls Tryz.prog 25 #[.slice A xs.length c, .slice B ys.length d] w fun e w' => e = .returned (.bool (decide (xs = ys))) ∧ Below w.heap.size w w' := by
  by_cases hl : xs.length = ys.length
  · have HL := Lib.hid hl
    have hb : ((xs.length : Int) != (ys.length : Int)) = false := by simp; omega
    clear hl
    go_enter Tryz.func25, Tryz.ntmps25
    go_wp2
    clear hb
    go_loopw [13] (fun i wr => ∃ k : Nat, k ≤ xs.length ∧ i = .int .i64 k ∧ Below w.heap.size w wr ∧ Hid (xs.take k = ys.take k)) (fun i _ => xs.length - (intOf i).toNat)
    case atStart => exact ⟨0, by omega, rfl, Below.refl _ _, by simp [Hid]⟩
    case round =>
      obtain ⟨k, hk, rfl, hbel, HS⟩ := hrel
      by_cases hlt : k < xs.length
      · obtain ⟨x, hx⟩ := get_of_lt hlt
        obtain ⟨y, hy⟩ := get_of_lt (xs := ys) (k := k) (by have := HL.out; omega)
        have HX := Lib.hid hx
        have HY := Lib.hid hy
        obtain ⟨b, off, rfl, hb, hcell⟩ := (h.below hbel).at_ (ints_at hx)
        obtain ⟨b', off', rfl, hb', hcell'⟩ := (h'.below hbel).at_ (ints_at hy)
        have hi : (k : Int) < (xs.length : Int) := by omega
        have hi' : (k : Int) < (ys.length : Int) := by have := HL.out; omega
        clear hx hy h h'
        by_cases hxy : x = y
        · subst hxy
          go_wp2
          go_quiet (fail)
          go_wp2
          go_roundw
          case rel => exact ⟨k + 1, by omega, by go_num, below_drewN hbel _, by rw [Hid, take_snoc HX.out, take_snoc HY.out, HS.out]⟩
          case measure => simp [intOf]; omega
        · have hbx : (x != y) = true := by simpa using hxy
          go_wp2
          go_quiet (fail)
          go_wp2
          go_ret
          refine ⟨ret_bool ?_, below_drewN hbel _⟩
          have : ¬ xs = ys := fun e => hxy (by have h1 := HX.out; rw [e, HY.out] at h1; injection h1 with h1; exact h1.symm)
          simp [this]
      · go_wp2
        go_ret
        refine ⟨ret_bool ?_, hbel⟩
        have e : xs = ys := by have h1 := HS.out; rw [show k = xs.length from by omega, List.take_length, HL.out, List.take_length] at h1; exact h1
        simp [e]
  · have hb : ((xs.length : Int) != (ys.length : Int)) = true := by simp; omega
    go_enter Tryz.func25, Tryz.ntmps25
    go_wp2
    go_ret
    have : ¬ xs = ys := fun e => hl (by rw [e])
    exact ⟨ret_bool (by simp [this]), Below.refl _ _⟩
end Go.Proofs.YtghigdcpinengaaGreat

/-! slices.Equal on divisors. -/
namespace Go.Proofs.YtghigdcpinengaaGreat
open Go.RowKit

set_option maxHeartbeats 800000 in
theorem dequal_any (A : Option Addr) (c : Nat) (xs : List Int) (B : Option Addr) (d : Nat) (ys : List Int) (hn : xs.length ≤ 1048576) (w : World) (h : Reads w w.heap.size 1 A xs.length (ints xs)) (h' : Reads w w.heap.size 1 B ys.length (ints ys)) :
    Calls Tryz.prog 28 #[.slice A xs.length c, .slice B ys.length d] w fun e w' => e = .returned (.bool (decide (xs = ys))) ∧ Below w.heap.size w w' := by
  by_cases hl : xs.length = ys.length
  · have HL := Lib.hid hl
    have hb : ((xs.length : Int) != (ys.length : Int)) = false := by simp; omega
    clear hl
    go_enter Tryz.func28, Tryz.ntmps28
    go_wp2
    clear hb
    go_loopw [13] (fun i wr => ∃ k : Nat, k ≤ xs.length ∧ i = .int .i64 k ∧ Below w.heap.size w wr ∧ Hid (xs.take k = ys.take k)) (fun i _ => xs.length - (intOf i).toNat)
    case atStart => exact ⟨0, by omega, rfl, Below.refl _ _, by simp [Hid]⟩
    case round =>
      obtain ⟨k, hk, rfl, hbel, HS⟩ := hrel
      by_cases hlt : k < xs.length
      · obtain ⟨x, hx⟩ := get_of_lt hlt
        obtain ⟨y, hy⟩ := get_of_lt (xs := ys) (k := k) (by have := HL.out; omega)
        have HX := Lib.hid hx
        have HY := Lib.hid hy
        obtain ⟨b, off, rfl, hb, hcell⟩ := (h.below hbel).at_ (ints_at hx)
        obtain ⟨b', off', rfl, hb', hcell'⟩ := (h'.below hbel).at_ (ints_at hy)
        have hi : (k : Int) < (xs.length : Int) := by omega
        have hi' : (k : Int) < (ys.length : Int) := by have := HL.out; omega
        clear hx hy h h'
        by_cases hxy : x = y
        · subst hxy
          go_wp2
          go_quiet (fail)
          go_wp2
          go_roundw
          case rel => exact ⟨k + 1, by omega, by go_num, below_drewN hbel _, by rw [Hid, take_snoc HX.out, take_snoc HY.out, HS.out]⟩
          case measure => simp [intOf]; omega
        · have hbx : (x != y) = true := by simpa using hxy
          go_wp2
          go_quiet (fail)
          go_wp2
          go_ret
          refine ⟨ret_bool ?_, below_drewN hbel _⟩
          have : ¬ xs = ys := fun e => hxy (by have h1 := HX.out; rw [e, HY.out] at h1; injection h1 with h1; exact h1.symm)
          simp [this]
      · go_wp2
        go_ret
        refine ⟨ret_bool ?_, hbel⟩
        have e : xs = ys := by have h1 := HS.out; rw [show k = xs.length from by omega, List.take_length, HL.out, List.take_length] at h1; exact h1
        simp [e]
  · have hb : ((xs.length : Int) != (ys.length : Int)) = true := by simp; omega
    go_enter Tryz.func28, Tryz.ntmps28
    go_wp2
    go_ret
    have : ¬ xs = ys := fun e => hl (by rw [e])
    exact ⟨ret_bool (by simp [this]), Below.refl _ _⟩
end Go.Proofs.YtghigdcpinengaaGreat

/-! slices.Equal on ints and on scripts. -/
namespace Go.Proofs.YtghigdcpinengaaGreat
open Go.RowKit

end Go.Proofs.YtghigdcpinengaaGreat

