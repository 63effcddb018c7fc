/-
  The contracts of slices.Min, Max, Index and Contains on ints.
-/
import Derived.Test.YtjeggocindcgaaaPark2
namespace Go.Proofs.Ytjeggocindcgaaa
open Go.RowKit

def minL : List Int → Int | [] => 0 | x :: xs => xs.foldl min x
def maxL : List Int → Int | [] => 0 | x :: xs => xs.foldl max x
theorem minL_snoc {xs : List Int} (h : xs ≠ []) (y : Int) : minL (xs ++ [y]) = min (minL xs) y := by
  rcases xs with _ | ⟨x, xs⟩
  · exact absurd rfl h
  · simp [minL, List.foldl_append]
theorem maxL_snoc {xs : List Int} (h : xs ≠ []) (y : Int) : maxL (xs ++ [y]) = max (maxL xs) y := by
  rcases xs with _ | ⟨x, xs⟩
  · exact absurd rfl h
  · simp [maxL, List.foldl_append]
theorem foldl_min_neg (xs : List Int) : ∀ x : Int, xs.foldl min x < 0 ↔ x < 0 ∨ ∃ y ∈ xs, y < 0 := by
  induction xs with
  | nil => intro x; simp
  | cons z xs ih =>
    intro x
    rw [List.foldl_cons, ih]
    constructor
    · rintro (h | ⟨y, h1, h2⟩)
      · by_cases hx : x < 0
        · exact .inl hx
        · exact .inr ⟨z, by simp, by omega⟩
      · exact .inr ⟨y, by simp [h1], h2⟩
    · rintro (h | ⟨y, h1, h2⟩)
      · exact .inl (by omega)
      · rcases List.mem_cons.1 h1 with rfl | h1
        · exact .inl (by omega)
        · exact .inr ⟨y, h1, h2⟩
theorem foldl_max_gt (n : Int) (xs : List Int) : ∀ x : Int, n < xs.foldl max x ↔ n < x ∨ ∃ y ∈ xs, n < y := by
  induction xs with
  | nil => intro x; simp
  | cons z xs ih =>
    intro x
    rw [List.foldl_cons, ih]
    constructor
    · rintro (h | ⟨y, h1, h2⟩)
      · by_cases hx : n < x
        · exact .inl hx
        · exact .inr ⟨z, by simp, by omega⟩
      · exact .inr ⟨y, by simp [h1], h2⟩
    · rintro (h | ⟨y, h1, h2⟩)
      · exact .inl (by omega)
      · rcases List.mem_cons.1 h1 with rfl | h1
        · exact .inl (by omega)
        · exact .inr ⟨y, h1, h2⟩
theorem minL_neg {xs : List Int} : minL xs < 0 ↔ ∃ y ∈ xs, y < 0 := by
  rcases xs with _ | ⟨x, xs⟩
  · simp [minL]
  · simp only [minL, foldl_min_neg, List.mem_cons]
    constructor
    · rintro (h | ⟨y, h1, h2⟩)
      · exact ⟨x, .inl rfl, h⟩
      · exact ⟨y, .inr h1, h2⟩
    · rintro ⟨y, rfl | h1, h2⟩
      · exact .inl h2
      · exact .inr ⟨y, h1, h2⟩
theorem maxL_gt {xs : List Int} {n : Int} (hn : 0 ≤ n) : n < maxL xs ↔ ∃ y ∈ xs, n < y := by
  rcases xs with _ | ⟨x, xs⟩
  · simp [maxL]; omega
  · simp only [maxL, foldl_max_gt, List.mem_cons]
    constructor
    · rintro (h | ⟨y, h1, h2⟩)
      · exact ⟨x, .inl rfl, h⟩
      · exact ⟨y, .inr h1, h2⟩
    · rintro ⟨y, rfl | h1, h2⟩
      · exact .inl h2
      · exact .inr ⟨y, h1, h2⟩

set_option maxHeartbeats 400000 in
theorem min_any (A : Option Addr) (c : Nat) (xs : List Int) (h1 : 1 ≤ xs.length) (hn : xs.length ≤ 1048576) (w : World) (h : Reads w w.heap.size 1 A xs.length (ints xs)) :
    Calls Try.prog 37 #[.slice A xs.length c] w fun e w' => e = .returned (.int .i64 (minL xs)) ∧ w = w' := by
  obtain ⟨x0, hx0⟩ := get_of_lt (xs := xs) (k := 0) (by omega)
  have H0 : Hid (minL (xs.take 1) = x0) := by
    rw [Hid, take_snoc hx0]; simp [minL]
  obtain ⟨b, off, rfl, hb, hc0⟩ := h.at_ (ints_at hx0)
  rw [Nat.add_zero] at hc0
  have hd : decide ((xs.length : Int) < 1) = false := decide_eq_false (by omega)
  have hnil : ¬ xs = [] := by rintro rfl; simp at h1
  have hp0 : 0 < xs.length := by omega
  clear hx0
  go_enter Try.func37, Try.ntmps37
  go_wp2
  go_loop [3, 4] (fun v i => ∃ k : Nat, 1 ≤ k ∧ k ≤ xs.length ∧ i = .int .i64 k ∧ v = .int .i64 (minL (xs.take k))) (fun _ i => xs.length - (intOf i).toNat)
  case atStart => exact ⟨1, by omega, by omega, rfl, by rw [H0.out]⟩
  case round =>
    obtain ⟨k, hk1, hk, rfl, rfl⟩ := hrel
    by_cases hlt : k < xs.length
    · obtain ⟨x, hx⟩ := get_of_lt hlt
      have HS : Hid (minL (xs.take (k + 1)) = min (minL (xs.take k)) x) := by
        rw [Hid, take_snoc hx, minL_snoc]
        intro e
        have := congrArg List.length e
        rw [List.length_take, List.length_nil] at this; omega
      obtain ⟨b', off', e, hb', hcell⟩ := h.at_ (ints_at hx)
      injection e with e; injection e with e1 e2
      subst e1; subst e2
      clear hx h
      go_wp2
      go_round
      case rel => exact ⟨k + 1, by omega, by omega, by go_num, by rw [HS.out]; exact congrArg _ (by split <;> omega)⟩
      case measure => simp [intOf]; omega
    · go_wp2
      go_ret
      exact ⟨by rw [show k = xs.length from by omega, List.take_length]; rfl, rfl⟩
set_option maxHeartbeats 400000 in
theorem max_any (A : Option Addr) (c : Nat) (xs : List Int) (h1 : 1 ≤ xs.length) (hn : xs.length ≤ 1048576) (w : World) (h : Reads w w.heap.size 1 A xs.length (ints xs)) :
    Calls Try.prog 38 #[.slice A xs.length c] w fun e w' => e = .returned (.int .i64 (maxL xs)) ∧ w = w' := by
  obtain ⟨x0, hx0⟩ := get_of_lt (xs := xs) (k := 0) (by omega)
  have H0 : Hid (maxL (xs.take 1) = x0) := by
    rw [Hid, take_snoc hx0]; simp [maxL]
  obtain ⟨b, off, rfl, hb, hc0⟩ := h.at_ (ints_at hx0)
  rw [Nat.add_zero] at hc0
  have hd : decide ((xs.length : Int) < 1) = false := decide_eq_false (by omega)
  have hnil : ¬ xs = [] := by rintro rfl; simp at h1
  have hp0 : 0 < xs.length := by omega
  clear hx0
  go_enter Try.func38, Try.ntmps38
  go_wp2
  go_loop [3, 4] (fun v i => ∃ k : Nat, 1 ≤ k ∧ k ≤ xs.length ∧ i = .int .i64 k ∧ v = .int .i64 (maxL (xs.take k))) (fun _ i => xs.length - (intOf i).toNat)
  case atStart => exact ⟨1, by omega, by omega, rfl, by rw [H0.out]⟩
  case round =>
    obtain ⟨k, hk1, hk, rfl, rfl⟩ := hrel
    by_cases hlt : k < xs.length
    · obtain ⟨x, hx⟩ := get_of_lt hlt
      have HS : Hid (maxL (xs.take (k + 1)) = max (maxL (xs.take k)) x) := by
        rw [Hid, take_snoc hx, maxL_snoc]
        intro e
        have := congrArg List.length e
        rw [List.length_take, List.length_nil] at this; omega
      obtain ⟨b', off', e, hb', hcell⟩ := h.at_ (ints_at hx)
      injection e with e; injection e with e1 e2
      subst e1; subst e2
      clear hx h
      go_wp2
      go_round
      case rel => exact ⟨k + 1, by omega, by omega, by go_num, by rw [HS.out]; exact congrArg _ (by split <;> omega)⟩
      case measure => simp [intOf]; omega
    · go_wp2
      go_ret
      exact ⟨by rw [show k = xs.length from by omega, List.take_length]; rfl, rfl⟩

/-- The first index of a number, or -1. -/
def idxGo : List Int → Int → Nat → Int
  | [], _, _ => -1
  | x :: xs, v, i => if x = v then (i : Int) else idxGo xs v (i + 1)
theorem idxGo_nonneg (xs : List Int) (v : Int) : ∀ i, (0 ≤ idxGo xs v i ↔ v ∈ xs) ∧ -1 ≤ idxGo xs v i := by
  induction xs with
  | nil => intro i; simp [idxGo]
  | cons x xs ih =>
    intro i
    simp only [idxGo]
    by_cases h : x = v
    · subst h; simp <;> omega
    · rw [if_neg h]
      refine ⟨?_, (ih _).2⟩
      rw [(ih _).1]
      simp [Ne.symm h]
theorem idxGo_drop {xs : List Int} {k : Nat} {x v : Int} (h : xs[k]? = some x) : idxGo (xs.drop k) v k = if x = v then (k : Int) else idxGo (xs.drop (k + 1)) v (k + 1) := by
  obtain ⟨hk, he⟩ := List.getElem?_eq_some_iff.1 h
  rw [List.drop_eq_getElem_cons hk, he]
  rfl
set_option maxHeartbeats 400000 in
theorem index_any (A : Option Addr) (c : Nat) (xs : List Int) (v : Int) (hn : xs.length ≤ 1048576) (w : World) (h : Reads w w.heap.size 1 A xs.length (ints xs)) :
    Calls Try.prog 63 #[.slice A xs.length c, .int .i64 v] w fun e w' => e = .returned (.int .i64 (idxGo xs v 0)) ∧ w = w' := by
  go_enter Try.func63, Try.ntmps63
  go_wp2
  go_loop [8] (fun i => ∃ k : Nat, k ≤ xs.length ∧ i = .int .i64 k ∧ Hid (idxGo xs v 0 = idxGo (xs.drop k) v k)) (fun i => xs.length - (intOf i).toNat)
  case atStart => exact ⟨0, by omega, rfl, rfl⟩
  case round =>
    obtain ⟨k, hk, rfl, HS⟩ := hrel
    by_cases hlt : k < xs.length
    · obtain ⟨x, hx⟩ := get_of_lt hlt
      have hdd := idxGo_drop (v := v) hx
      obtain ⟨b, off, rfl, hb, hcell⟩ := h.at_ (ints_at hx)
      clear hx h
      by_cases hxv : x = v
      · rw [if_pos hxv] at hdd
        have HD := Lib.hid hdd
        clear hdd
        subst hxv
        go_wp2
        go_ret
        exact ⟨by rw [HS.out, HD.out]; rfl, rfl⟩
      · have hb1 : (v == x) = false := by simpa using Ne.symm hxv
        have hb2 : (x == v) = false := by simpa using hxv
        rw [if_neg hxv] at hdd
        have HD := Lib.hid hdd
        clear hxv hdd
        go_wp2
        go_round
        case rel => exact ⟨k + 1, by omega, by go_num, by rw [Hid, HS.out, HD.out]⟩
        case measure => simp [intOf]; omega
    · go_wp2
      go_ret
      exact ⟨by rw [HS.out, show k = xs.length from by omega, List.drop_length]; rfl, rfl⟩
set_option maxHeartbeats 400000 in
theorem contains_any (A : Option Addr) (c : Nat) (xs : List Int) (v : Int) (hn : xs.length ≤ 1048576) (w : World) (h : Reads w w.heap.size 1 A xs.length (ints xs)) :
    Calls Try.prog 39 #[.slice A xs.length c, .int .i64 v] w fun e w' => e = .returned (.bool (decide (v ∈ xs))) ∧ w = w' := by
  go_enter Try.func39, Try.ntmps39
  go_wp2_with (go_at_call 63; refine (index_any A c xs v hn _ h).mono ?_; rintro e w' ⟨rfl, rfl⟩)
  go_ret
  exact ⟨ret_bool (by rw [Bool.eq_iff_iff]; simp [(idxGo_nonneg xs v 0).1]), rfl⟩
end Go.Proofs.Ytjeggocindcgaaa
