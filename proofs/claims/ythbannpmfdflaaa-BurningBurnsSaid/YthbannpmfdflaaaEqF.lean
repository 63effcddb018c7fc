/-
  ref08.SameInts; slices.EqualFunc with it: lists that are the same.
-/
import Derived.Test.YthbannpmfdflaaaOwn
import Derived.Test.YthbannpmfdflaaaRows2
import Derived.WalkKit
import Derived.BigRegion
namespace Go.Proofs.Ythbannpmfdflaaa
open Go.RowKit

set_option maxHeartbeats 800000 in
theorem sameints_any (A : Option Addr) (c : Nat) (xs : List Int) (B : Option Addr) (d : Nat) (hn : xs.length ≤ 1048576) (w : World) (h : Reads w w.heap.size 1 A xs.length (ints xs)) (h' : Reads w w.heap.size 1 B xs.length (ints xs)) :
    Calls Try.prog 37 #[.slice A xs.length c, .slice B xs.length d] w fun e w' => e = .returned (.bool true) ∧ Below w.heap.size w w' := by
  go_enter Try.func37, Try.ntmps37
  go_wp2
  go_loopw [5] (fun i wr => ∃ k : Nat, k ≤ xs.length ∧ i = .int .i64 k ∧ Below w.heap.size w wr) (fun i _ => xs.length - (intOf i).toNat)
  case atStart => exact ⟨0, by omega, rfl, Below.refl _ _⟩
  case round =>
    obtain ⟨k, hk, rfl, hbel⟩ := hrel
    by_cases hlt : k < xs.length
    · obtain ⟨x, hx⟩ := get_of_lt hlt
      obtain ⟨b, off, rfl, hb, hcell⟩ := (h.below hbel).at_ (ints_at hx)
      obtain ⟨b', off', rfl, hb', hcell'⟩ := (h'.below hbel).at_ (ints_at hx)
      have hi : (k : Int) < (xs.length : Int) := by omega
      clear hx h h'
      go_wp2
      go_region
      all_goals (
        go_wp2
        go_roundw
        case rel => exact ⟨k + 1, by omega, by go_num, below_drewN hbel _⟩
        case measure => simp [intOf]; omega)
    · have hi : ¬ (k : Int) < (xs.length : Int) := by omega
      go_wp2
      go_ret
      exact ⟨rfl, hbel⟩

set_option maxRecDepth 100000 in
set_option maxHeartbeats 2000000 in
theorem equalf_any (A : Option Addr) (c : Nat) (xss : List (List Int)) (B : Option Addr) (d : Nat) (hn : xss.length ≤ 1000) (hs : ∀ xs ∈ xss, xs.length ≤ 1048576) (w : World) (h : RowsR w w.heap.size A xss) (h' : RowsR w w.heap.size B xss) :
    Calls Try.prog 38 #[.slice A xss.length c, .slice B xss.length d, .func (.func 37) #[] #[]] w fun e w' => e = .returned (.bool true) ∧ Below w.heap.size w w' := by
  have eg : ∀ args w, (callFunc 37 args).run Try.prog w = .ok (.enter 37 args) w := enters_of (P := Try.prog) Try.func37 (by kernel_rfl) rfl
  have hb : ((xss.length : Int) != (xss.length : Int)) = false := by simp
  have HS := Lib.hid hs
  have SC := Lib.hid (fun A c xs B d hn w h h' => sameints_any A c xs B d hn w h h')
  clear hs
  go_enter Try.func38, Try.ntmps38
  go_wp2
  go_loopw [7, 8, 9, 17] (fun t7 t8 t9 i wr => ∃ k : Nat, k ≤ xss.length ∧ i = .int .i64 k ∧ Below w.heap.size w wr) (fun _ _ _ i _ => xss.length - (intOf i).toNat)
  case atStart => exact ⟨0, by omega, rfl, Below.refl _ _⟩
  case round =>
    obtain ⟨k, hk, rfl, hbel⟩ := hrel
    have hsz := hbel.size
    by_cases hlt : k < xss.length
    · obtain ⟨xs, hx⟩ := get_of_lt hlt
      obtain ⟨b, off, A1, c1, rfl, hb1, hcell, hr1⟩ := (h.below hbel).at_ hx
      obtain ⟨b', off', A2, c2, rfl, hb2, hcell', hr2⟩ := (h'.below hbel).at_ hx
      have hi : (k : Int) < (xss.length : Int) := by omega
      have SX := Lib.hid (SC.out A1 c1 xs A2 c2 (HS.out xs (List.mem_of_getElem? hx)) wr (hr1.more hsz) (hr2.more hsz))
      clear hx hr1 hr2
      go_wp2_with fail
      refine (SX.out).mono ?_
      rintro e w3 ⟨rfl, hb3⟩
      go_wp2
      go_roundw
      case rel => exact ⟨k + 1, by omega, by go_num, hbel.trans (hb3.mono hsz)⟩
      case measure => simp [intOf]; omega
    · obtain rfl : k = xss.length := by omega
      go_wp2
      go_ret
      exact ⟨rfl, hbel⟩
end Go.Proofs.Ythbannpmfdflaaa
