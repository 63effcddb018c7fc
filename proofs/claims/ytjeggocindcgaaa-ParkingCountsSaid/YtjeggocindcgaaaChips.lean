/-
  The error of a divisor: chips.Check.
-/
import Derived.Test.YtjeggocindcgaaaGraph
namespace Go.Proofs.Ytjeggocindcgaaa
open Go.RowKit

set_option maxHeartbeats 400000 in
theorem within1_any (k : Int) (w : World) :
    Calls Try.prog 118 #[.int .i64 k] w fun e w' => e = .returned (.bool (chipB k)) ∧ w = w' := by
  go_enter Try.func118, Try.ntmps118
  go_wp2
  all_goals (go_ret; exact ⟨by simp only [chipB]; simp [*]; try omega, rfl⟩)
set_option maxHeartbeats 1000000 in
/-- chips.Check -/
theorem dcheck_any (A : Option Addr) (c : Nat) (cs : List Int) (hm : cs.length ≤ 1048576) (n : Int) (w : World) (h : Reads w w.heap.size 1 A cs.length (ints cs)) :
    Calls Try.prog 111 #[.slice A cs.length c, .int .i64 n] w fun e w' => e = .returned (.int .i64 (divErr cs n)) ∧ w = w' := by
  by_cases h1 : n < 1
  · have hd : divErr cs n = 2 := by unfold divErr; rw [if_pos (.inl h1)]
    rw [hd]
    go_enter Try.func111, Try.ntmps111
    go_wp2
    go_ret
    exact ⟨rfl, rfl⟩
  by_cases h2 : 12 < n
  · have hd : divErr cs n = 2 := by unfold divErr; rw [if_pos (.inr h2)]
    rw [hd]
    go_enter Try.func111, Try.ntmps111
    go_wp2
    go_ret
    exact ⟨rfl, rfl⟩
  by_cases hl : (cs.length : Int) = n
  · have hn : ¬ (n < 1 ∨ 12 < n) := by omega
    subst hl
    have hb : ((cs.length : Int) != (cs.length : Int)) = false := by simp
    have HE := Lib.hid (fun k x hx hb => divErr_at (cs := cs) (k := k) (x := x) hn rfl hx hb)
    have HF := Lib.hid (divErr_end (cs := cs) hn rfl)
    obtain ⟨r, hr⟩ : ∃ r, divErr cs cs.length = r := ⟨_, rfl⟩
    rw [hr] at HE HF ⊢
    clear hn hr
    go_enter Try.func111, Try.ntmps111
    go_wp2
    go_loop [19] (fun i => ∃ k : Nat, k ≤ cs.length ∧ i = .int .i64 k ∧ Hid ((cs.take k).all chipB = true)) (fun i => cs.length - (intOf i).toNat)
    case atStart => exact ⟨0, by omega, rfl, by simp [Hid]⟩
    case round =>
      obtain ⟨k, hk, rfl, HS⟩ := hrel
      by_cases hlt : k < cs.length
      · obtain ⟨x, hx⟩ := get_of_lt hlt
        obtain ⟨b, off, rfl, hb', hcell⟩ := h.at_ (ints_at hx)
        have hi : (k : Int) < (cs.length : Int) := by omega
        have HX := Lib.hid hx
        clear hx h
        cases hin : chipB x
        · obtain rfl := HE.out k x HX.out hin
          go_wp2_with (go_at_call 118; refine (within1_any _ _).mono ?_; rintro e w' ⟨rfl, rfl⟩)
          go_ret
          exact ⟨rfl, rfl⟩
        · have HN := Lib.hid (all_snoc HX.out HS.out hin)
          go_wp2_with (go_at_call 118; refine (within1_any _ _).mono ?_; rintro e w' ⟨rfl, rfl⟩)
          go_round
          case rel => exact ⟨k + 1, by omega, by go_num, HN.out⟩
          case measure => simp [intOf]; omega
      · obtain rfl : k = cs.length := by omega
        obtain rfl := HF.out HS.out
        go_wp2
        go_ret
        exact ⟨rfl, rfl⟩
  · have hd : divErr cs n = 8 := by unfold divErr; rw [if_neg (by omega), if_pos hl]
    have hb : ((cs.length : Int) != n) = true := by simpa using hl
    rw [hd]
    clear hl hd
    go_enter Try.func111, Try.ntmps111
    go_wp2
    go_ret
    exact ⟨rfl, rfl⟩
end Go.Proofs.Ytjeggocindcgaaa
