/-
  The contracts of the reference's functions of chapter 29 that read lists.
-/
import Derived.Test.YtjeggocindcgaaaPark2
namespace Go.Proofs.Ytjeggocindcgaaa
open Go.RowKit

set_option maxHeartbeats 400000 in
theorem rcars_any (n : Int) (w : World) :
    Calls Try.prog 19 #[.int .i64 n] w fun e w' => e = .returned (.bool (carsB n)) ∧ w = w' := by
  go_enter Try.func19, Try.ntmps19
  go_wp2
  all_goals (go_ret; exact ⟨by simp only [carsB]; simp [*]; try omega, rfl⟩)

set_option maxHeartbeats 400000 in
theorem rwithin_any (A : Option Addr) (c : Nat) (xs : List Int) (more : Int) (hm0 : 0 ≤ more) (hm1 : more ≤ 1) (w : World) (h : Reads w w.heap.size 1 A xs.length (ints xs)) :
    Calls Try.prog 54 #[.slice A xs.length c, .int .i64 more] w fun e w' => e = .returned (.int .i64 (withinS xs more)) ∧ w = w' := by
  by_cases hc : carsB xs.length = true
  · have hle := carsB_le hc
    go_enter Try.func54, Try.ntmps54
    go_wp2_with (go_at_call 19; refine (rcars_any _ _).mono ?_; rintro e w' ⟨rfl, rfl⟩)
    have HC := Lib.hid hc; clear hc
    go_loop [5] (fun i => ∃ k : Nat, k ≤ xs.length ∧ i = .int .i64 k ∧ Hid ((xs.take k).all (inB xs.length more) = true)) (fun i => xs.length - (intOf i).toNat)
    case atStart => exact ⟨0, by omega, rfl, by simp [Hid]⟩
    case round =>
      obtain ⟨k, hk, rfl, hall⟩ := hrel
      by_cases hlt : k < xs.length
      · obtain ⟨x, hx⟩ := get_of_lt hlt
        have HX := Lib.hid hx
        obtain ⟨b, off, rfl, hb, hcell⟩ := h.at_ (ints_at hx)
        clear hx h
        go_wp2
        · go_ret
          exact ⟨ret_int (within_bad HC.out HX.out (by simp [inB]; omega)).symm, rfl⟩
        · go_round
          case rel => exact ⟨k + 1, by omega, by go_num, by rw [Hid, take_snoc HX.out, List.all_append, hall.out]; simp [inB]; omega⟩
          case measure => simp [intOf]; omega
        · go_ret
          exact ⟨ret_int (within_bad HC.out HX.out (by simp [inB]; omega)).symm, rfl⟩
      · go_wp2
        go_ret
        have : k = xs.length := by omega
        subst this
        exact ⟨ret_int (within_good HC.out hall.out).symm, rfl⟩
  · have hc' : carsB xs.length = false := by simpa using hc
    go_enter Try.func54, Try.ntmps54
    go_wp2_with (go_at_call 19; refine (rcars_any _ _).mono ?_; rintro e w' ⟨rfl, rfl⟩)
    go_ret
    exact ⟨ret_int (within_cars hc').symm, rfl⟩

set_option maxHeartbeats 400000 in
theorem rcheck_any (A : Option Addr) (c : Nat) (xs : List Int) (w : World) (h : Reads w w.heap.size 1 A xs.length (ints xs)) :
    Calls Try.prog 25 #[.slice A xs.length c] w fun e w' => e = .returned (.int .i64 (withinS xs 0)) ∧ w = w' := by
  go_enter Try.func25, Try.ntmps25
  go_wp2_with (go_at_call 54; refine (rwithin_any _ _ _ _ (by omega) (by omega) _ h).mono ?_; rintro e w' ⟨rfl, rfl⟩)
  go_ret
  exact ⟨rfl, rfl⟩

/-! The definition of a parking function: of each place i at least i + 1 preferences are at most i. -/
def countLe (xs : List Int) (i : Nat) : Nat := (xs.filter fun x => decide (x ≤ (i : Int))).length
def isR (xs : List Int) : Bool := (List.range xs.length).all fun i => decide (i < countLe xs i)
theorem countLe_take {xs : List Int} {i k : Nat} {x : Int} (h : xs[k]? = some x) : countLe (xs.take (k + 1)) i = countLe (xs.take k) i + if x ≤ (i : Int) then 1 else 0 := by
  rw [take_snoc h]
  unfold countLe
  rw [List.filter_append]
  by_cases hx : x ≤ (i : Int) <;> simp [hx]
theorem countLe_le (xs : List Int) (i : Nat) : countLe xs i ≤ xs.length := List.length_filter_le _ _

set_option maxHeartbeats 400000 in
theorem ris_any (A : Option Addr) (c : Nat) (xs : List Int) (hn : xs.length ≤ 1048576) (w : World) (h : Reads w w.heap.size 1 A xs.length (ints xs)) :
    Calls Try.prog 30 #[.slice A xs.length c] w fun e w' => e = .returned (.bool (isR xs)) ∧ w = w' := by
  go_enter Try.func30, Try.ntmps30
  go_wp2
  go_loop [3, 4, 5] (fun i _ _ => ∃ k : Nat, k ≤ xs.length ∧ i = .int .i64 k ∧ Hid ((List.range k).all (fun i => decide (i < countLe xs i)) = true)) (fun i _ _ => xs.length - (intOf i).toNat)
  case atStart => exact ⟨0, by omega, rfl, by simp [Hid]⟩
  case round =>
    obtain ⟨k, hk, rfl, HS⟩ := hrel
    by_cases hlt : k < xs.length
    · go_wp2
      go_loop [4, 5] (fun n j => ∃ m : Nat, m ≤ xs.length ∧ j = .int .i64 m ∧ n = .int .i64 (countLe (xs.take m) k)) (fun _ j => xs.length - (intOf j).toNat)
      case atStart => exact ⟨0, by omega, rfl, by simp [countLe]⟩
      case round =>
        obtain ⟨m, hm, rfl, rfl⟩ := hrel
        have hcl := countLe_le (xs.take m) k
        have hl : (xs.take m).length ≤ m := List.length_take_le _ _
        by_cases hmt : m < xs.length
        · obtain ⟨x, hx⟩ := get_of_lt hmt
          have HX := Lib.hid (countLe_take (i := k) hx)
          obtain ⟨b, off, rfl, hb, hcell⟩ := h.at_ (ints_at hx)
          clear hx h
          by_cases hle : x ≤ (k : Int)
          · go_wp2
            go_round
            case rel => exact ⟨m + 1, by omega, by go_num, by rw [HX.out, if_pos hle]; go_num⟩
            case measure => simp [intOf]; omega
          · go_wp2
            go_round
            case rel => exact ⟨m + 1, by omega, by go_num, by rw [HX.out, if_neg hle]; rfl⟩
            case measure => simp [intOf]; omega
        · obtain rfl : m = xs.length := by omega
          rw [List.take_length] at hcl ⊢
          by_cases hc : k < countLe xs k
          · have hd : decide ((countLe xs k : Nat) ≤ k) = false := by simp; omega
            go_wp2
            go_round
            case rel => exact ⟨k + 1, by omega, by go_num, by rw [Hid, List.range_succ, List.all_append, HS.out]; simp [hc]⟩
            case measure => simp [intOf]; omega
          · have hd : decide ((countLe xs k : Nat) ≤ k) = true := by simp; omega
            go_wp2
            go_ret
            refine ⟨ret_bool ?_, rfl⟩
            symm
            rw [Bool.eq_false_iff]
            intro hall
            have := List.all_eq_true.1 hall k (by simp; omega)
            simp at this
            omega
    · go_wp2
      go_ret
      obtain rfl : k = xs.length := by omega
      exact ⟨ret_bool HS.out.symm, rfl⟩

/-- The error of a list that has to be a parking function. -/
def givenR (xs : List Int) : Int := if withinS xs 0 = 0 then (if isR xs then 0 else 15) else withinS xs 0
set_option maxHeartbeats 400000 in
theorem rgiven_any (A : Option Addr) (c : Nat) (xs : List Int) (w : World) (h : Reads w w.heap.size 1 A xs.length (ints xs)) :
    Calls Try.prog 46 #[.slice A xs.length c] w fun e w' => e = .returned (.int .i64 (givenR xs)) ∧ w = w' := by
  by_cases hok : withinS xs 0 = 0
  · have hw := within_zero hok
    have hch := rcheck_any A c xs w h
    rw [hok] at hch
    have HC := Lib.hid hch
    have hg : givenR xs = if isR xs then 0 else 15 := by simp [givenR, hok]
    rw [hg]
    clear hch hok hg
    cases hi : isR xs
    · go_enter Try.func46, Try.ntmps46
      go_wp2_with (first | (go_at_call 25; refine (HC.out).mono ?_; rintro e w' ⟨rfl, rfl⟩) | (go_at_call 30; refine (ris_any A c xs (by omega) _ h).mono ?_; rintro e w' ⟨rfl, rfl⟩))
      go_ret
      exact ⟨rfl, rfl⟩
    · go_enter Try.func46, Try.ntmps46
      go_wp2_with (first | (go_at_call 25; refine (HC.out).mono ?_; rintro e w' ⟨rfl, rfl⟩) | (go_at_call 30; refine (ris_any A c xs (by omega) _ h).mono ?_; rintro e w' ⟨rfl, rfl⟩))
      go_ret
      exact ⟨rfl, rfl⟩
  · have hbad : (withinS xs 0 != 0) = true := by simpa using hok
    have hg : givenR xs = withinS xs 0 := by simp [givenR, hok]
    rw [hg]
    clear hg hok
    go_enter Try.func46, Try.ntmps46
    go_wp2_with (go_at_call 25; refine (rcheck_any A c xs _ h).mono ?_; rintro e w' ⟨rfl, rfl⟩)
    go_ret
    exact ⟨rfl, rfl⟩

set_option maxHeartbeats 400000 in
theorem rpower_any (a : Int) (n : Nat) (h0 : 0 ≤ a) (ha : a ≤ 12) (hn : n ≤ 12) (w : World) : Calls Try.prog 48 #[.int .i64 a, .int .i64 n] w fun e w' => e = .returned (.int .i64 (a ^ n)) ∧ w = w' := by
  go_enter Try.func48, Try.ntmps48
  go_wp2
  go_loop [5, 6] (fun v i => ∃ k : Nat, k ≤ n ∧ i = .int .i64 k ∧ v = .int .i64 (a ^ k)) (fun _ i => n - (intOf i).toNat)
  case atStart => exact ⟨0, by omega, rfl, by simp⟩
  case round =>
    obtain ⟨k, hk, rfl, rfl⟩ := hrel
    by_cases hlt : k < n
    · have h1 := pow_bd (a := a) (k := k) (by omega) (by omega) (by omega)
      have h2 := pow_bd (a := a) (k := k + 1) (by omega) (by omega) (by omega)
      have h3 : a ^ (k + 1) = a ^ k * a := Int.pow_succ _ _
      generalize a ^ k = p at *
      have H3 := Lib.hid h3
      have h4 : 0 ≤ p * a ∧ p * a ≤ 8916100448256 := by rw [← h3]; exact h2
      clear h3 h2
      go_wp2
      go_round
      case rel => exact ⟨k + 1, by omega, by go_num, by rw [H3.out]⟩
      case measure => simp [intOf]; omega
    · go_wp2
      go_ret
      obtain rfl : k = n := by omega
      exact ⟨rfl, rfl⟩

set_option maxHeartbeats 400000 in
theorem rcount_any (n : Int) (w : World) : Calls Try.prog 18 #[.int .i64 n] w fun e w' => e = .returned (.tuple #[.int .i64 (countS n).1, .int .i64 (countS n).2]) ∧ w = w' := by
  by_cases hc : carsB n = true
  · obtain ⟨m, rfl⟩ : ∃ m : Nat, n = (m : Int) + 1 := by simp [carsB] at hc; exact ⟨(n - 1).toNat, by omega⟩
    have hle := carsB_le (n := m + 1) hc
    have e : countS ((m : Int) + 1) = (((m : Int) + 1 + 1) ^ m, 0) := by
      unfold countS
      rw [if_pos hc, show ((m : Int) + 1 - 1).toNat = m from by omega]
    rw [e]
    have es : (m : Int) + 1 - 1 = (m : Int) := by omega
    clear e
    go_enter Try.func18, Try.ntmps18
    go_wp2_with (first | (go_at_call 19; refine (rcars_any _ _).mono ?_; rintro e w' ⟨rfl, rfl⟩) | (go_at_call 48; refine (rpower_any _ m (by omega) (by omega) (by omega) _).mono ?_; rintro e w' ⟨rfl, rfl⟩))
    go_ret2
    exact ⟨rfl, rfl⟩
  · have e : countS n = (0, 2) := by simp [countS, hc]
    rw [e]
    have hc' : carsB n = false := by simpa using hc
    clear e hc
    go_enter Try.func18, Try.ntmps18
    go_wp2_with (go_at_call 19; refine (rcars_any _ _).mono ?_; rintro e w' ⟨rfl, rfl⟩)
    go_ret2
    exact ⟨rfl, rfl⟩
end Go.Proofs.Ytjeggocindcgaaa
