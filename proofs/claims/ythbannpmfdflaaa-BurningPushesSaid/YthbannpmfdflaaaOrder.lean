/-
  ref17.Order and ref17.Same: the order and the equality of divisors.
-/
import Derived.Test.YthbannpmfdflaaaOwn
import Derived.Deep.QuietTactic
import Derived.BigQuiet
namespace Go.Proofs.Ythbannpmfdflaaa
open Go.RowKit

/-- The order of two lists of one length. -/
def ordS : List Int → List Int → Int
  | x :: xs, y :: ys => if x < y then -1 else if y < x then 1 else ordS xs ys
  | _, _ => 0
theorem ordS_drop {xs ys : List Int} {k : Nat} {x y : Int} (h : xs[k]? = some x) (h' : ys[k]? = some y) :
    ordS (xs.drop k) (ys.drop k) = if x < y then -1 else if y < x then 1 else ordS (xs.drop (k + 1)) (ys.drop (k + 1)) := by
  obtain ⟨l1, e1⟩ := List.getElem?_eq_some_iff.1 h
  obtain ⟨l2, e2⟩ := List.getElem?_eq_some_iff.1 h'
  rw [List.drop_eq_getElem_cons l1, List.drop_eq_getElem_cons l2, e1, e2, ordS]
theorem ordS_zero : ∀ {xs ys : List Int}, xs.length = ys.length → (ordS xs ys = 0 ↔ xs = ys)
  | [], [], _ => by simp [ordS]
  | [], _ :: _, h => by simp at h
  | _ :: _, [], h => by simp at h
  | x :: xs, y :: ys, h => by
    have ih := ordS_zero (xs := xs) (ys := ys) (by simpa using h)
    rw [ordS]
    by_cases h1 : x < y
    · rw [if_pos h1]; simp; intro e; omega
    · by_cases h2 : y < x
      · rw [if_neg h1, if_pos h2]; simp; intro e; omega
      · have : x = y := by omega
        subst this
        rw [if_neg h1, if_neg h1, ih]; simp

theorem drew_once {w wr : World} {a : Nat} (h : ∃ m, wr = w.drewN m) : ∃ m, wr.drewN a = w.drewN m := by
  obtain ⟨m, e⟩ := h
  exact ⟨m + a, by rw [e, World.drewN_drewN]⟩
theorem drew_twice {w wr : World} {a b : Nat} (h : ∃ m, wr = w.drewN m) : ∃ m, (wr.drewN a).drewN b = w.drewN m := by
  obtain ⟨m, e⟩ := h
  exact ⟨m + (a + b), by rw [e, World.drewN_drewN, World.drewN_drewN]⟩
set_option maxHeartbeats 800000 in
theorem rorder_any (A : Option Addr) (c : Nat) (xs : List Int) (B : Option Addr) (d : Nat) (ys : List Int) (hn : xs.length ≤ 1048576) (hl : xs.length = ys.length) (w : World) (b0 : Nat) (h : Reads w b0 1 A xs.length (ints xs)) (h' : Reads w b0 1 B ys.length (ints ys)) :
    Calls Try.prog 121 #[.slice A xs.length c, .slice B ys.length d] w fun e w' => e = .returned (.int .i64 (ordS xs ys)) ∧ ∃ m, w' = w.drewN m := by
  have HL := Lib.hid hl
  clear hl
  go_enter Try.func121, Try.ntmps121
  go_wp2
  go_loopw [5] (fun i wr => ∃ k : Nat, k ≤ xs.length ∧ i = .int .i64 k ∧ Hid (∃ m, wr = w.drewN m) ∧ Hid (ordS xs ys = ordS (xs.drop k) (ys.drop k))) (fun i _ => xs.length - (intOf i).toNat)
  case atStart => exact ⟨0, by omega, rfl, ⟨0, rfl⟩, by simp [Hid]⟩
  case round =>
    obtain ⟨k, hk, rfl, HM, HS⟩ := hrel
    have hrd : Reads wr b0 1 A xs.length (ints xs) := by obtain ⟨m, e⟩ := HM.out; rw [e]; exact h
    have hrd' : Reads wr b0 1 B ys.length (ints ys) := by obtain ⟨m, e⟩ := HM.out; rw [e]; exact h'
    by_cases hlt : k < xs.length
    · obtain ⟨x, hx⟩ := get_of_lt hlt
      obtain ⟨y, hy⟩ := get_of_lt (xs := ys) (k := k) (by have := HL.out; omega)
      have hd := ordS_drop hx hy
      obtain ⟨b, off, rfl, hb, hcell⟩ := hrd.at_ (ints_at hx)
      obtain ⟨b', off', rfl, hb', hcell'⟩ := hrd'.at_ (ints_at hy)
      have hi : (k : Int) < (xs.length : Int) := by omega
      have hi' : (k : Int) < (ys.length : Int) := by have := HL.out; omega
      clear hx hy h h' hrd hrd'
      by_cases h1 : x < y
      · have d1 : decide (x < y) = true := decide_eq_true h1
        rw [if_pos h1] at hd
        have HD := Lib.hid hd
        clear hd
        go_wp2
        go_quiet (fail)
        go_wp2
        go_ret
        exact ⟨by rw [HS.out, HD.out]; rfl, by obtain ⟨m, e⟩ := HM.out; exact ⟨m + nq, by rw [e, World.drewN_drewN]⟩⟩
      · have d1 : decide (x < y) = false := decide_eq_false h1
        by_cases h2 : y < x
        · have d2 : decide (y < x) = true := decide_eq_true h2
          rw [if_neg h1, if_pos h2] at hd
          have HD := Lib.hid hd
          clear hd
          go_wp2
          go_quiet (fail)
          go_wp2
          go_quiet (fail)
          go_wp2
          go_ret
          exact ⟨by rw [HS.out, HD.out]; rfl, drew_twice HM.out⟩
        · have d2 : decide (y < x) = false := decide_eq_false h2
          rw [if_neg h1, if_neg h2] at hd
          have HD := Lib.hid hd
          clear hd
          go_wp2
          go_quiet (fail)
          go_wp2
          go_quiet (fail)
          go_wp2
          go_roundw
          case rel => exact ⟨k + 1, by omega, by go_num, drew_once HM.out, by rw [Hid, HS.out, HD.out]⟩
          case measure => simp [intOf]; omega
    · go_wp2
      go_ret
      refine ⟨?_, HM.out⟩
      have e : ordS xs ys = 0 := by rw [HS.out, List.drop_eq_nil_of_le (by omega)]; rfl
      rw [e]; rfl

set_option maxHeartbeats 400000 in
theorem dsame_any (A : Option Addr) (c : Nat) (xs : List Int) (B : Option Addr) (d : Nat) (ys : List Int) (hn : xs.length ≤ 1048576) (w : World) (b0 : Nat) (h : Reads w b0 1 A xs.length (ints xs)) (h' : Reads w b0 1 B ys.length (ints ys)) :
    Calls Try.prog 70 #[.slice A xs.length c, .slice B ys.length d] w fun e w' => e = .returned (.bool (decide (xs = ys))) ∧ ∃ m, w' = w.drewN m := by
  by_cases hl : xs.length = ys.length
  · have hb : ((xs.length : Int) != (ys.length : Int)) = false := by simp; omega
    have HO := Lib.hid (rorder_any A c xs B d ys hn hl w b0 h h')
    have HZ := Lib.hid (ordS_zero hl)
    clear hl
    go_enter Try.func70, Try.ntmps70
    go_wp2_with (go_at_call 121; refine (HO.out).mono ?_; rintro e w' ⟨rfl, hw'⟩)
    go_ret
    refine ⟨ret_bool ?_, hw'⟩
    by_cases he : xs = ys
    · have := HZ.out.2 he; simp [he] at this ⊢; exact this
    · have : ¬ ordS xs ys = 0 := fun e => he (HZ.out.1 e)
      simp [he, this]
  · have hb : ((xs.length : Int) != (ys.length : Int)) = true := by simp; omega
    go_enter Try.func70, Try.ntmps70
    go_wp2
    go_ret
    have : ¬ xs = ys := fun e => hl (by rw [e])
    exact ⟨ret_bool (by simp [this]), 0, rfl⟩
end Go.Proofs.Ythbannpmfdflaaa

/-! ref23.Same. -/
namespace Go.Proofs.Ythbannpmfdflaaa
open Go.RowKit

set_option maxHeartbeats 800000 in
theorem rsame_any (A : Option Addr) (c : Nat) (xs : List Int) (B : Option Addr) (d : Nat) (ys : List Int) (hn : xs.length ≤ 1048576) (w : World) (h : Reads w w.heap.size 1 A xs.length (ints xs)) (h' : Reads w w.heap.size 1 B ys.length (ints ys)) :
    Calls Try.prog 17 #[.slice A xs.length c, .slice B ys.length d] w fun e w' => e = .returned (.bool (decide (xs = ys))) ∧ Below w.heap.size w w' := by
  have HC := Lib.hid (dsame_any A c xs B d ys hn w w.heap.size h h')
  go_enter Try.func17, Try.ntmps17
  go_wp2_with fail
  refine (HC.out).mono ?_
  rintro e w1 ⟨rfl, m, rfl⟩
  go_wp2
  go_ret
  exact ⟨rfl, below_drewN (Below.refl _ _) m⟩
end Go.Proofs.Ythbannpmfdflaaa
