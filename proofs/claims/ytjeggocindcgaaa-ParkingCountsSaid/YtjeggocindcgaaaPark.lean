/-
  The contracts of small functions of package parking.
-/
import Derived.Test.YtjeggocindcgaaaRows
import Derived.Test.YtjeggocindcgaaaWords
import Derived.Test.YtjeggocindcgaaaOwn
import Derived.WalkKit
import Derived.WalkSpells
import Derived.WalkLawsBesides
namespace Go.Proofs.Ytjeggocindcgaaa
open Go.RowKit

def carsB (n : Int) : Bool := decide (1 ≤ n) && decide (n < 12)

set_option maxHeartbeats 400000 in
theorem cars_any (n : Int) (w : World) :
    Calls Try.prog 47 #[.int .i64 n] w fun e w' => e = .returned (.bool (carsB n)) ∧ w = w' := by
  go_enter Try.func47, Try.ntmps47
  go_wp2
  all_goals (go_ret; exact ⟨by simp only [carsB]; simp [*]; try omega, rfl⟩)

/-- The errors of preferences for 'more' places more than cars. -/
def inB (n : Nat) (more : Int) (x : Int) : Bool := decide (0 ≤ x) && decide (x < n + more)
def withinS (xs : List Int) (more : Int) : Int :=
  if carsB xs.length then (if xs.all (inB xs.length more) then 0 else 2) else 8
theorem carsB_le {n : Nat} (h : carsB n = true) : 1 ≤ n ∧ n < 12 := by simp [carsB] at h; omega
theorem within_bad {xs : List Int} {more : Int} {k : Nat} {x : Int} (hc : carsB xs.length = true) (hx : xs[k]? = some x) (hb : inB xs.length more x = false) : withinS xs more = 2 := by
  have hm : x ∈ xs := List.mem_of_getElem? hx
  have : xs.all (inB xs.length more) = false := by
    rw [Bool.eq_false_iff]; intro h; rw [List.all_eq_true] at h; rw [h x hm] at hb; cases hb
  simp [withinS, hc, this]
theorem within_good {xs : List Int} {more : Int} (hc : carsB xs.length = true) (h : (xs.take xs.length).all (inB xs.length more) = true) : withinS xs more = 0 := by
  rw [List.take_length] at h
  simp [withinS, hc, h]
theorem within_cars {xs : List Int} {more : Int} (hc : carsB xs.length = false) : withinS xs more = 8 := by simp [withinS, hc]

set_option maxHeartbeats 400000 in
theorem within_any (A : Option Addr) (c : Nat) (xs : List Int) (more : Int) (hm0 : 0 ≤ more) (hm1 : more ≤ 1) (w : World) (h : Reads w w.heap.size 1 A xs.length (ints xs)) :
    Calls Try.prog 57 #[.slice A xs.length c, .int .i64 more] w fun e w' => e = .returned (.int .i64 (withinS xs more)) ∧ w = w' := by
  by_cases hc : carsB xs.length = true
  · have hle := carsB_le hc
    go_enter Try.func57, Try.ntmps57
    go_wp2_with (go_at_call 47; refine (cars_any _ _).mono ?_; rintro e w' ⟨rfl, rfl⟩)
    have HC := Lib.hid hc; clear hc
    go_loop [13] (fun i => ∃ k : Nat, k ≤ xs.length ∧ i = .int .i64 k ∧ Hid ((xs.take k).all (inB xs.length more) = true)) (fun i => xs.length - (intOf i).toNat)
    case atStart => exact ⟨0, by omega, rfl, by simp [Hid]⟩
    case round =>
      obtain ⟨k, hk, rfl, hall⟩ := hrel
      by_cases hlt : k < xs.length
      · obtain ⟨x, hx⟩ := get_of_lt hlt
        have HX := Lib.hid hx
        obtain ⟨b, off, rfl, hb, hcell⟩ := h.at_ (ints_at hx)
        clear hx h
        go_wp2
        · go_ret
          exact ⟨ret_int (within_bad HC.out HX.out (by simp [inB]; omega)).symm, rfl⟩
        · go_round
          case rel => exact ⟨k + 1, by omega, by go_num, by rw [Hid, take_snoc HX.out, List.all_append, hall.out]; simp [inB]; omega⟩
          case measure => simp [intOf]; omega
        · go_ret
          exact ⟨ret_int (within_bad HC.out HX.out (by simp [inB]; omega)).symm, rfl⟩
      · go_wp2
        go_ret
        have : k = xs.length := by omega
        subst this
        exact ⟨ret_int (within_good HC.out hall.out).symm, rfl⟩
  · have hc' : carsB xs.length = false := by simpa using hc
    go_enter Try.func57, Try.ntmps57
    go_wp2_with (go_at_call 47; refine (cars_any _ _).mono ?_; rintro e w' ⟨rfl, rfl⟩)
    go_ret
    exact ⟨ret_int (within_cars hc').symm, rfl⟩

set_option maxHeartbeats 400000 in
theorem check_any (A : Option Addr) (c : Nat) (xs : List Int) (w : World) (h : Reads w w.heap.size 1 A xs.length (ints xs)) :
    Calls Try.prog 28 #[.slice A xs.length c] w fun e w' => e = .returned (.int .i64 (withinS xs 0)) ∧ w = w' := by
  go_enter Try.func28, Try.ntmps28
  go_wp2_with (go_at_call 57; refine (within_any _ _ _ _ (by omega) (by omega) _ h).mono ?_; rintro e w' ⟨rfl, rfl⟩)
  go_ret
  exact ⟨rfl, rfl⟩

/-! The street: an array of 13 bools in a block of its own. -/
/-- The first free place from 'at' on, below n. -/
def spot (s : List Bool) (n : Nat) (i : Nat) : Option Nat := (List.range' i (n - i)).find? (fun j => !(s[j]?.getD true))
theorem spot_step {s : List Bool} {n i : Nat} (h : i < n) (hs : s[i]? = some true) : spot s n i = spot s n (i + 1) := by
  unfold spot
  rw [show n - i = (n - (i + 1)) + 1 from by omega, List.range'_succ, List.find?_cons]
  simp [hs]
theorem spot_hit {s : List Bool} {n i : Nat} (h : i < n) (hs : s[i]? = some false) : spot s n i = some i := by
  unfold spot
  rw [show n - i = (n - (i + 1)) + 1 from by omega, List.range'_succ, List.find?_cons]
  simp [hs]
theorem spot_out {s : List Bool} {n i : Nat} (h : n ≤ i) : spot s n i = none := by
  unfold spot
  rw [show n - i = 0 from by omega]
  simp
theorem spot_lt {s : List Bool} {n i k : Nat} (h : spot s n i = some k) : i ≤ k ∧ k < n := by
  unfold spot at h
  have := List.mem_of_find?_eq_some h
  simp [List.mem_range'] at this
  omega
def spotInt : Option Nat → Int | some k => k | none => -1
def spotWorld (w : World) (g : Nat) : Option Nat → World | some k => w.setCell ⟨g, k, none⟩ (.bool true) | none => w

set_option maxHeartbeats 400000 in
theorem park_any (g x n : Nat) (hn : n ≤ 13) (s : List Bool) (hs : s.length = 13) (w : World) (h : Blk w g 77 (bools s)) :
    Calls Try.prog 58 #[.pointer (some ⟨g, 0, none⟩), .int .i64 x, .int .i64 n] w fun e w' =>
      e = .returned (.int .i64 (spotInt (spot s n x))) ∧ w' = spotWorld w g (spot s n x) := by
  have hfr := h.frozen
  go_enter Try.func58, Try.ntmps58
  go_wp2
  go_loop [7] (fun i => ∃ k : Nat, i = .int .i64 k ∧ Hid (spot s n x = spot s n k)) (fun i => n - (intOf i).toNat)
  case atStart => exact ⟨x, rfl, rfl⟩
  case round =>
    obtain ⟨k, rfl, HS⟩ := hrel
    by_cases hlt : k < n
    · obtain ⟨b, hb⟩ := get_of_lt (xs := s) (k := k) (by omega)
      have hc := (h.cell k).trans (bools_get hb)
      have HB := Lib.hid hb
      clear hb h
      cases b
      · go_wp2
        go_ret
        have e : spot s n x = some k := HS.out.trans (spot_hit hlt HB.out)
        rw [e]
        exact ⟨rfl, rfl⟩
      · go_wp2
        go_round
        case rel => exact ⟨k + 1, by go_num, HS.out.trans (spot_step hlt HB.out)⟩
        case measure => simp [intOf]; omega
    · go_wp2
      go_ret
      have e : spot s n x = none := HS.out.trans (spot_out (by omega))
      rw [e]
      exact ⟨rfl, rfl⟩

theorem park_hit (g x n j : Nat) (hn : n ≤ 13) (s : List Bool) (hs : s.length = 13) (w : World) (h : Blk w g 77 (bools s)) (hj : spot s n x = some j) :
    Calls Try.prog 58 #[.pointer (some ⟨g, 0, none⟩), .int .i64 x, .int .i64 n] w fun e w' =>
      e = .returned (.int .i64 j) ∧ w.setCell ⟨g, j, none⟩ (.bool true) = w' :=
  (park_any g x n hn s hs w h).mono fun _ _ ⟨he, hw⟩ => by rw [hj] at he hw; exact ⟨he, hw.symm⟩
theorem park_miss (g x n : Nat) (hn : n ≤ 13) (s : List Bool) (hs : s.length = 13) (w : World) (h : Blk w g 77 (bools s)) (hj : spot s n x = none) :
    Calls Try.prog 58 #[.pointer (some ⟨g, 0, none⟩), .int .i64 x, .int .i64 n] w fun e w' =>
      e = .returned (.int .i64 (-1)) ∧ w = w' :=
  (park_any g x n hn s hs w h).mono fun _ _ ⟨he, hw⟩ => by rw [hj] at he hw; exact ⟨he, hw.symm⟩

/-- The places of the cars before the first one that fails, on a street of n places. -/
def parkGo (n : Nat) : List Bool → List Int → List Int
  | _, [] => []
  | s, x :: xs => match spot s n x.toNat with
    | none => []
    | some k => (k : Int) :: parkGo n (s.set k true) xs
def street0 : List Bool := List.replicate 13 false
def parkedS (xs : List Int) : List Int := parkGo xs.length street0 xs
theorem parkGo_length (n : Nat) (s : List Bool) (xs : List Int) : (parkGo n s xs).length ≤ xs.length := by
  induction xs generalizing s with
  | nil => simp [parkGo]
  | cons x xs ih =>
    simp only [parkGo]
    split
    · simp
    · simp; exact ih _
theorem parkGo_none {n : Nat} {s : List Bool} {xs : List Int} {k x : Nat} (hx : xs[k]? = some (x : Int)) (h : spot s n x = none) : parkGo n s (xs.drop k) = [] := by
  obtain ⟨hk, he⟩ := List.getElem?_eq_some_iff.1 hx
  rw [List.drop_eq_getElem_cons hk, he]
  simp [parkGo, h]
theorem parkGo_some {n : Nat} {s : List Bool} {xs : List Int} {k x j : Nat} (hx : xs[k]? = some (x : Int)) (h : spot s n x = some j) :
    parkGo n s (xs.drop k) = (j : Int) :: parkGo n (s.set j true) (xs.drop (k + 1)) := by
  obtain ⟨hk, he⟩ := List.getElem?_eq_some_iff.1 hx
  rw [List.drop_eq_getElem_cons hk, he]
  simp [parkGo, h]

theorem nat_of {xs : List Int} (h0 : ∀ x ∈ xs, 0 ≤ x) {k : Nat} (hk : k < xs.length) : ∃ x : Nat, xs[k]? = some (x : Int) := by
  obtain ⟨x, hx⟩ := get_of_lt hk
  obtain ⟨m, rfl⟩ := Int.eq_ofNat_of_zero_le (h0 x (List.mem_of_getElem? hx))
  exact ⟨m, hx⟩

set_option maxHeartbeats 1000000 in
theorem parked_any (A : Option Addr) (c : Nat) (xs : List Int) (hn : xs.length ≤ 12) (h0 : ∀ x ∈ xs, 0 ≤ x) (w : World) (h : Reads w w.heap.size 1 A xs.length (ints xs)) :
    Calls Try.prog 55 #[.slice A xs.length c] w fun e w' =>
      ∃ A' c', e = .returned (.slice A' (parkedS xs).length c') ∧ OwnI w' w.heap.size A' c' (parkedS xs) ∧ Below w.heap.size w w' := by
  go_enter Try.func55, Try.ntmps55
  go_wp2
  go_loopw [4, 10] (fun v i wr => ∃ (k : Nat) (A' : Option Addr) (c' : Nat) (out : List Int) (s : List Bool), k ≤ xs.length ∧ i = .int .i64 k ∧ v = .slice A' out.length c' ∧ out.length ≤ k ∧ s.length = 13 ∧ OwnI wr w.heap.size A' c' out ∧
      Blk wr w.heap.size 77 (bools s) ∧ Below w.heap.size w wr ∧ Hid (parkedS xs = out ++ parkGo xs.length s (xs.drop k))) (fun _ i _ => xs.length - (intOf i).toNat)
  case atStart => exact ⟨0, none, 0, [], street0, by omega, rfl, rfl, by simp, by simp [street0], OwnI.nil_ _ _, Blk.new _ _ _, (Below.refl _ _).alloc (Nat.le_refl _) _, by simp [Hid, parkedS]⟩
  case round =>
    obtain ⟨k, A', c', out, s, hk, rfl, rfl, hol, hs, hown, hblk, hbel, HS⟩ := hrel
    by_cases hlt : k < xs.length
    · obtain ⟨x, hx⟩ := nat_of h0 hlt
      have HX := Lib.hid hx
      obtain ⟨b, off, rfl, hb, hcell⟩ := (h.below hbel).at_ (ints_at hx)
      clear hx h h0
      rcases hsp : spot s xs.length x with _ | j
      · go_wp2_with (go_at_call 58; refine (park_miss _ _ _ (by omega) s hs _ hblk hsp).mono ?_; rintro e w' ⟨rfl, rfl⟩)
        go_ret
        have e : parkedS xs = out := by rw [HS.out, parkGo_none HX.out hsp, List.append_nil]
        rw [e]
        exact ⟨_, _, rfl, hown, hbel⟩
      · have HSP := Lib.hid hsp
        have h1 := hown.set_blk hblk (by decide) j (.bool true)
        go_wp2_with (first | (go_at_call 58; refine (park_hit _ _ _ j (by omega) s hs _ hblk HSP.out).mono ?_; rintro e w' ⟨rfl, rfl⟩) | (at_builtin; refine push_int rfl (.tmp 20) (.tmp 22) _ rfl Try.underlying22 w.heap.size A' c' out j rfl h1 rfl (by simp [World.setCell]) (by omega) (by have := hblk.lt; simp [World.setCell]; omega) ?_; intro A2 c2 w2 hown2 hg2 hb2))
        go_roundw
        case rel =>
          refine ⟨k + 1, A2, c2, out ++ [(j : Int)], s.set j true, by omega, by go_num, by simp, by simp; omega, by simpa using hs, hown2, ?_, ?_, ?_⟩
          · have h2 := (hblk.set_ j (.bool true)).alloc (.cells #[.int .i64 j] 3)
            rw [bools_set] at h2
            exact h2.grown hg2 (own_blk_ne hown hblk (by decide))
          · exact (hbel.setCell (p := ⟨w.heap.size, j, none⟩) (Nat.le_refl _) _).trans hb2
          · rw [Hid, HS.out, parkGo_some HX.out HSP.out]; simp
        case measure => simp [intOf]; omega
    · go_wp2
      go_ret
      have e : parkedS xs = out := by rw [HS.out, show k = xs.length from by omega]; simp [parkGo]
      rw [e]
      exact ⟨_, _, rfl, hown, hbel⟩

theorem parkedS_length (xs : List Int) : (parkedS xs).length ≤ xs.length := parkGo_length _ _ _
theorem within_zero {xs : List Int} {more : Int} (h : withinS xs more = 0) : (1 ≤ xs.length ∧ xs.length < 12) ∧ ∀ x ∈ xs, 0 ≤ x ∧ x < xs.length + more := by
  unfold withinS at h
  by_cases hc : carsB xs.length = true
  · refine ⟨carsB_le hc, fun x hx => ?_⟩
    rw [if_pos hc] at h
    by_cases ha : xs.all (inB xs.length more) = true
    · have := List.all_eq_true.1 ha x hx
      simp [inB] at this
      omega
    · rw [if_neg ha] at h; cases h
  · rw [if_neg hc] at h; cases h

theorem check_ok (A : Option Addr) (c : Nat) (xs : List Int) (w : World) (h : Reads w w.heap.size 1 A xs.length (ints xs)) (hok : withinS xs 0 = 0) :
    Calls Try.prog 28 #[.slice A xs.length c] w fun e w' => e = .returned (.int .i64 0) ∧ w = w' := by
  have := check_any A c xs w h
  rwa [hok] at this

set_option maxHeartbeats 400000 in
theorem all_any (A : Option Addr) (c : Nat) (xs : List Int) (hn : xs.length ≤ 12) (h0 : ∀ x ∈ xs, 0 ≤ x) (w : World) (h : Reads w w.heap.size 1 A xs.length (ints xs)) :
    Calls Try.prog 56 #[.slice A xs.length c] w fun e w' => e = .returned (.bool (decide ((parkedS xs).length = xs.length))) ∧ Below w.heap.size w w' := by
  go_enter Try.func56, Try.ntmps56
  go_wp2_with (go_at_call 55; refine (parked_any A c xs hn h0 _ h).mono ?_; rintro e w' ⟨A', c', rfl, hown, hb⟩)
  go_ret
  exact ⟨ret_bool (nat_beq _ _), hb⟩

set_option maxHeartbeats 400000 in
theorem park_ok (A : Option Addr) (c : Nat) (xs : List Int) (hok : withinS xs 0 = 0) (w : World) (h : Reads w w.heap.size 1 A xs.length (ints xs)) :
    Calls Try.prog 26 #[.slice A xs.length c] w fun e w' =>
      ∃ A' c', e = .returned (.tuple #[.slice A' (parkedS xs).length c', .int .i64 (parkedS xs).length, .int .i64 0]) ∧ OwnI w' w.heap.size A' c' (parkedS xs) ∧ Below w.heap.size w w' := by
  obtain ⟨hn, hx⟩ := within_zero hok
  have HOK := Lib.hid hok; clear hok
  go_enter Try.func26, Try.ntmps26
  go_wp2_with (first | (go_at_call 28; refine (check_ok A c xs _ h HOK.out).mono ?_; rintro e w' ⟨rfl, rfl⟩) | (go_at_call 55; refine (parked_any A c xs (by omega) (fun x h => (hx x h).1) _ h).mono ?_; rintro e w' ⟨A', c', rfl, hown, hb⟩))
  go_ret3
  exact ⟨A', c', rfl, hown, hb⟩
set_option maxHeartbeats 400000 in
theorem park_bad (A : Option Addr) (c : Nat) (xs : List Int) (hbad : (withinS xs 0 != 0) = true) (w : World) (h : Reads w w.heap.size 1 A xs.length (ints xs)) :
    Calls Try.prog 26 #[.slice A xs.length c] w fun e w' =>
      e = .returned (.tuple #[.slice none 0 0, .int .i64 0, .int .i64 (withinS xs 0)]) ∧ w = w' := by
  go_enter Try.func26, Try.ntmps26
  go_wp2_with (go_at_call 28; refine (check_any A c xs _ h).mono ?_; rintro e w' ⟨rfl, rfl⟩)
  go_ret3
  exact ⟨rfl, rfl⟩
set_option maxHeartbeats 400000 in
theorem is_ok (A : Option Addr) (c : Nat) (xs : List Int) (hok : withinS xs 0 = 0) (w : World) (h : Reads w w.heap.size 1 A xs.length (ints xs)) :
    Calls Try.prog 27 #[.slice A xs.length c] w fun e w' =>
      e = .returned (.tuple #[.bool (decide ((parkedS xs).length = xs.length)), .int .i64 0]) ∧ Below w.heap.size w w' := by
  obtain ⟨hn, hx⟩ := within_zero hok
  have HOK := Lib.hid hok; clear hok
  go_enter Try.func27, Try.ntmps27
  go_wp2_with (first | (go_at_call 28; refine (check_ok A c xs _ h HOK.out).mono ?_; rintro e w' ⟨rfl, rfl⟩) | (go_at_call 56; refine (all_any A c xs (by omega) (fun x h => (hx x h).1) _ h).mono ?_; rintro e w' ⟨rfl, hb⟩))
  go_ret2
  exact ⟨rfl, hb⟩
set_option maxHeartbeats 400000 in
theorem is_bad (A : Option Addr) (c : Nat) (xs : List Int) (hbad : (withinS xs 0 != 0) = true) (w : World) (h : Reads w w.heap.size 1 A xs.length (ints xs)) :
    Calls Try.prog 27 #[.slice A xs.length c] w fun e w' =>
      e = .returned (.tuple #[.bool false, .int .i64 (withinS xs 0)]) ∧ w = w' := by
  go_enter Try.func27, Try.ntmps27
  go_wp2_with (go_at_call 28; refine (check_any A c xs _ h).mono ?_; rintro e w' ⟨rfl, rfl⟩)
  go_ret2
  exact ⟨rfl, rfl⟩

/-- The places of a parking function, or the error. -/
def takenS (xs : List Int) : List Int × Int :=
  if withinS xs 0 = 0 then (if (parkedS xs).length = xs.length then (parkedS xs, 0) else ([], 15)) else ([], withinS xs 0)
set_option maxHeartbeats 400000 in
theorem taken_any (A : Option Addr) (c : Nat) (xs : List Int) (w : World) (h : Reads w w.heap.size 1 A xs.length (ints xs)) :
    Calls Try.prog 45 #[.slice A xs.length c] w fun e w' =>
      ∃ A' c', e = .returned (.tuple #[.slice A' (takenS xs).1.length c', .int .i64 (takenS xs).2]) ∧ OwnI w' w.heap.size A' c' (takenS xs).1 ∧ Below w.heap.size w w' := by
  by_cases hok : withinS xs 0 = 0
  · by_cases hl : (parkedS xs).length = xs.length
    · have e : takenS xs = (parkedS xs, 0) := by simp [takenS, hok, hl]
      rw [e]
      have HL := Lib.hid hl
      have hd : decide ((parkedS xs).length < xs.length) = false := by simp; omega
      clear hl e
      go_enter Try.func45, Try.ntmps45
      go_wp2_with (go_at_call 26; refine (park_ok A c xs hok _ h).mono ?_; rintro e w' ⟨A', c', rfl, hown, hb⟩)
      go_ret2
      exact ⟨A', c', rfl, hown, hb⟩
    · have e : takenS xs = ([], 15) := by simp [takenS, hok, hl]
      rw [e]
      have hd : decide ((parkedS xs).length < xs.length) = true := by have := parkedS_length xs; simp; omega
      clear hl e
      go_enter Try.func45, Try.ntmps45
      go_wp2_with (go_at_call 26; refine (park_ok A c xs hok _ h).mono ?_; rintro e w' ⟨A', c', rfl, hown, hb⟩)
      go_ret2
      exact ⟨none, 0, rfl, OwnI.nil_ _ _, hb⟩
  · have hbad : (withinS xs 0 != 0) = true := by simpa using hok
    have e : takenS xs = ([], withinS xs 0) := by simp [takenS, hok]
    rw [e]
    clear e hok
    go_enter Try.func45, Try.ntmps45
    go_wp2_with (go_at_call 26; refine (park_bad A c xs hbad _ h).mono ?_; rintro e w' ⟨rfl, rfl⟩)
    go_ret2
    exact ⟨none, 0, rfl, OwnI.nil_ _ _, Below.refl _ _⟩
end Go.Proofs.Ytjeggocindcgaaa
