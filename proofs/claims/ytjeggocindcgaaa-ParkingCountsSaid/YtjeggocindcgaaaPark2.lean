/-
  The contracts of Lucky, Displacement, Count of package parking, and of slices.Equal on ints.
-/
import Derived.Test.YtjeggocindcgaaaPark
import Derived.Deep.QuietTactic
import Derived.BigQuiet
import Derived.IntWalk
namespace Go.Proofs.Ytjeggocindcgaaa
open Go.RowKit

set_option maxHeartbeats 800000 in
theorem equal_any (A : Option Addr) (c : Nat) (xs : List Int) (B : Option Addr) (d : Nat) (ys : List Int) (hn : xs.length ≤ 1048576) (w : World) (h : Reads w w.heap.size 1 A xs.length (ints xs)) (h' : Reads w w.heap.size 1 B ys.length (ints ys)) :
    Calls Try.prog 16 #[.slice A xs.length c, .slice B ys.length d] w fun e w' => e = .returned (.bool (decide (xs = ys))) ∧ Below w.heap.size w w' := by
  by_cases hl : xs.length = ys.length
  · have HL := Lib.hid hl
    have hb : ((xs.length : Int) != (ys.length : Int)) = false := by simp; omega
    clear hl
    go_enter Try.func16, Try.ntmps16
    go_wp2
    clear hb
    go_loopw [13] (fun i wr => ∃ k : Nat, k ≤ xs.length ∧ i = .int .i64 k ∧ Below w.heap.size w wr ∧ Hid (xs.take k = ys.take k)) (fun i _ => xs.length - (intOf i).toNat)
    case atStart => exact ⟨0, by omega, rfl, Below.refl _ _, by simp [Hid]⟩
    case round =>
      obtain ⟨k, hk, rfl, hbel, HS⟩ := hrel
      by_cases hlt : k < xs.length
      · obtain ⟨x, hx⟩ := get_of_lt hlt
        obtain ⟨y, hy⟩ := get_of_lt (xs := ys) (k := k) (by have := HL.out; omega)
        have HX := Lib.hid hx
        have HY := Lib.hid hy
        obtain ⟨b, off, rfl, hb, hcell⟩ := (h.below hbel).at_ (ints_at hx)
        obtain ⟨b', off', rfl, hb', hcell'⟩ := (h'.below hbel).at_ (ints_at hy)
        have hi : (k : Int) < (xs.length : Int) := by omega
        have hi' : (k : Int) < (ys.length : Int) := by have := HL.out; omega
        clear hx hy h h'
        by_cases hxy : x = y
        · subst hxy
          go_wp2
          go_quiet (fail)
          go_wp2
          go_roundw
          case rel => exact ⟨k + 1, by omega, by go_num, below_drewN hbel _, by rw [Hid, take_snoc HX.out, take_snoc HY.out, HS.out]⟩
          case measure => simp [intOf]; omega
        · have hbx : (x != y) = true := by simpa using hxy
          go_wp2
          go_quiet (fail)
          go_wp2
          go_ret
          refine ⟨ret_bool ?_, below_drewN hbel _⟩
          have : ¬ xs = ys := fun e => hxy (by have h1 := HX.out; rw [e, HY.out] at h1; injection h1 with h1; exact h1.symm)
          simp [this]
      · go_wp2
        go_ret
        refine ⟨ret_bool ?_, hbel⟩
        have e : xs = ys := by have h1 := HS.out; rw [show k = xs.length from by omega, List.take_length, HL.out, List.take_length] at h1; exact h1
        simp [e]
  · have hb : ((xs.length : Int) != (ys.length : Int)) = true := by simp; omega
    go_enter Try.func16, Try.ntmps16
    go_wp2
    go_ret
    have : ¬ xs = ys := fun e => hl (by rw [e])
    exact ⟨ret_bool (by simp [this]), Below.refl _ _⟩

/-- The lucky cars among the first k. -/
def luckyTo (l xs : List Int) (k : Nat) : List Int := ((List.range k).filter fun i => decide (l[i]? = xs[i]?)).map Int.ofNat
theorem luckyTo_yes {l xs : List Int} {k : Nat} {x : Int} (h : l[k]? = some x) (h' : xs[k]? = some x) : luckyTo l xs (k + 1) = luckyTo l xs k ++ [(k : Int)] := by
  simp [luckyTo, List.range_succ, h, h']
theorem luckyTo_no {l xs : List Int} {k : Nat} {x y : Int} (h : l[k]? = some x) (h' : xs[k]? = some y) (hne : ¬ x = y) : luckyTo l xs (k + 1) = luckyTo l xs k := by
  simp [luckyTo, List.range_succ, h, h', hne]
theorem luckyTo_length (l xs : List Int) (k : Nat) : (luckyTo l xs k).length ≤ k := by
  have := List.length_filter_le (fun i => decide (l[i]? = xs[i]?)) (List.range k)
  simpa [luckyTo] using this
def luckyS (xs : List Int) : List Int × Int := if (takenS xs).2 = 0 then (luckyTo (takenS xs).1 xs xs.length, 0) else ([], (takenS xs).2)
theorem takenS_ok {xs : List Int} (h : (takenS xs).2 = 0) : (takenS xs).1.length = xs.length ∧ xs.length < 12 := by
  unfold takenS at *
  by_cases hok : withinS xs 0 = 0
  · have := within_zero hok
    by_cases hl : (parkedS xs).length = xs.length <;> simp [hok, hl] at *
    omega
  · simp [hok] at h

set_option maxHeartbeats 800000 in
theorem lucky_any (A : Option Addr) (c : Nat) (xs : List Int) (w : World) (h : Reads w w.heap.size 1 A xs.length (ints xs)) :
    Calls Try.prog 12 #[.slice A xs.length c] w fun e w' =>
      ∃ A' c', e = .returned (.tuple #[.slice A' (luckyS xs).1.length c', .int .i64 (luckyS xs).2]) ∧ OwnI w' w.heap.size A' c' (luckyS xs).1 ∧ Below w.heap.size w w' := by
  obtain ⟨t, ht⟩ : ∃ t, takenS xs = t := ⟨_, rfl⟩
  by_cases hok : (takenS xs).2 = 0
  · obtain ⟨hlen, hn⟩ := takenS_ok hok
    have e : luckyS xs = (luckyTo (takenS xs).1 xs xs.length, 0) := by simp [luckyS, hok]
    rw [e]
    have htk := taken_any A c xs w h
    rw [hok] at htk
    rw [ht] at htk hlen ⊢
    obtain ⟨l, er⟩ := t
    dsimp only at htk hlen ⊢
    have HT := Lib.hid htk
    have HL := Lib.hid hlen
    clear htk hlen ht hok e
    go_enter Try.func12, Try.ntmps12
    go_wp2_with (go_at_call 45; refine (HT.out).mono ?_; rintro e w1 ⟨A1, c1, rfl, hown1, hb1⟩)
    have hr1 := hown1.reads
    have hB1 : w1.heap.size ≤ w1.heap.size := Nat.le_refl _
    go_loopw [6, 18] (fun v i wr => ∃ (k : Nat) (A' : Option Addr) (c' : Nat), k ≤ xs.length ∧ i = .int .i64 k ∧ v = .slice A' (luckyTo l xs k).length c' ∧ OwnI wr w1.heap.size A' c' (luckyTo l xs k) ∧ Below w1.heap.size w1 wr) (fun _ i _ => xs.length - (intOf i).toNat)
    case atStart => exact ⟨0, none, 0, by omega, rfl, rfl, OwnI.nil_ _ _, Below.refl _ _⟩
    case round =>
      obtain ⟨k, A', c', hk, rfl, rfl, hown, hbel⟩ := hrel
      by_cases hlt : k < xs.length
      · obtain ⟨x, hx⟩ := get_of_lt hlt
        obtain ⟨y, hy⟩ := get_of_lt (xs := l) (k := k) (by have := HL.out; omega)
        have HX := Lib.hid hx
        have HY := Lib.hid hy
        obtain ⟨b, off, rfl, hb, hcell⟩ := ((h.next hb1).below hbel).at_ (ints_at hx)
        obtain ⟨b', off', rfl, hb', hcell'⟩ := (hr1.below hbel).at_ (ints_at hy)
        have hi : (k : Int) < (xs.length : Int) := by omega
        have hi' : (k : Int) < (l.length : Int) := by have := HL.out; omega
        clear hx hy h hr1
        by_cases hxy : y = x
        · subst hxy
          go_wp2
          go_quiet (fail)
          have hz := hbel.size
          go_wp2_with (at_builtin; refine push_int rfl (.tmp 30) (.tmp 32) _ rfl Try.underlying22 w1.heap.size A' c' (luckyTo l xs k) k rfl hown rfl rfl (by have := luckyTo_length l xs k; omega) hz ?_; intro A2 c2 w2 hown2 hg2 hb2)
          go_roundw
          case rel => exact ⟨k + 1, A2, c2, by omega, by go_num, by rw [luckyTo_yes HY.out HX.out]; simp, by rw [luckyTo_yes HY.out HX.out]; exact hown2, (below_drewN hbel _).trans hb2⟩
          case measure => simp [intOf]; omega
        · have hbx : (y == x) = false := by simpa using hxy
          go_wp2
          go_quiet (fail)
          go_wp2
          go_roundw
          case rel => exact ⟨k + 1, A', c', by omega, by go_num, by rw [luckyTo_no HY.out HX.out hxy], by rw [luckyTo_no HY.out HX.out hxy]; exact OwnI.drewN hown _, below_drewN hbel _⟩
          case measure => simp [intOf]; omega
      · go_wp2
        go_ret2
        obtain rfl : k = xs.length := by omega
        exact ⟨A', c', rfl, hown.mono hb1.size, hb1.trans (hbel.mono hb1.size)⟩
  · have e : luckyS xs = ([], (takenS xs).2) := by simp [luckyS, hok]
    rw [e]
    have htk := taken_any A c xs w h
    rw [ht] at htk hok ⊢
    obtain ⟨l, er⟩ := t
    dsimp only at htk hok ⊢
    have HT := Lib.hid htk
    have hbad : (er != 0) = true := by simpa using hok
    clear htk ht hok e
    go_enter Try.func12, Try.ntmps12
    go_wp2_with (go_at_call 45; refine (HT.out).mono ?_; rintro e w1 ⟨A1, c1, rfl, hown1, hb1⟩)
    go_ret2
    exact ⟨none, 0, rfl, OwnI.nil_ _ _, hb1⟩

/-- The sum of the ways of the first k cars. -/
def dispTo (l xs : List Int) : Nat → Int
  | 0 => 0
  | k + 1 => dispTo l xs k + (l[k]?.getD 0 - xs[k]?.getD 0)
def Small (l : List Int) : Prop := ∀ x ∈ l, -100 ≤ x ∧ x ≤ 100
theorem dispTo_bd {l xs : List Int} (h : Small l) (h' : Small xs) (k : Nat) : -(200 * (k : Int)) ≤ dispTo l xs k ∧ dispTo l xs k ≤ 200 * (k : Int) := by
  have hg : ∀ {l : List Int}, Small l → ∀ k : Nat, -100 ≤ l[k]?.getD 0 ∧ l[k]?.getD 0 ≤ 100 := by
    intro l h k
    rcases hk : l[k]? with _ | x
    · simp
    · exact h x (List.mem_of_getElem? hk)
  induction k with
  | zero => simp [dispTo]
  | succ k ih =>
    have := hg h k
    have := hg h' k
    simp only [dispTo]
    omega
theorem dispTo_step {l xs : List Int} {k : Nat} {x y : Int} (h : l[k]? = some y) (h' : xs[k]? = some x) : dispTo l xs (k + 1) = dispTo l xs k + (y - x) := by simp [dispTo, h, h']
def dispS (xs : List Int) : Int × Int := if (takenS xs).2 = 0 then (dispTo (takenS xs).1 xs xs.length, 0) else (0, (takenS xs).2)
theorem parkGo_small (n : Nat) (hn : n ≤ 100) (s : List Bool) (xs : List Int) : Small (parkGo n s xs) := by
  induction xs generalizing s with
  | nil => simp [parkGo, Small]
  | cons x xs ih =>
    simp only [parkGo]
    split
    · simp [Small]
    · rename_i k hk
      have := spot_lt hk
      intro z hz
      rcases List.mem_cons.1 hz with rfl | hz
      · omega
      · exact ih _ z hz
theorem takenS_small {xs : List Int} (h : (takenS xs).2 = 0) : Small (takenS xs).1 ∧ Small xs := by
  have hlen := (takenS_ok h).2
  unfold takenS at *
  by_cases hok : withinS xs 0 = 0
  · have hw := within_zero hok
    refine ⟨?_, fun x hx => by have := hw.2 x hx; omega⟩
    by_cases hl : (parkedS xs).length = xs.length
    · simp only [hok, hl, if_true]
      exact parkGo_small _ (by omega) _ _
    · simp [hok, hl] at h
  · simp [hok] at h

set_option maxHeartbeats 800000 in
theorem disp_any (A : Option Addr) (c : Nat) (xs : List Int) (w : World) (h : Reads w w.heap.size 1 A xs.length (ints xs)) :
    Calls Try.prog 14 #[.slice A xs.length c] w fun e w' => e = .returned (.tuple #[.int .i64 (dispS xs).1, .int .i64 (dispS xs).2]) ∧ Below w.heap.size w w' := by
  obtain ⟨t, ht⟩ : ∃ t, takenS xs = t := ⟨_, rfl⟩
  by_cases hok : (takenS xs).2 = 0
  · obtain ⟨hlen, hn⟩ := takenS_ok hok
    obtain ⟨hs1, hs2⟩ := takenS_small hok
    have e : dispS xs = (dispTo (takenS xs).1 xs xs.length, 0) := by simp [dispS, hok]
    rw [e]
    have htk := taken_any A c xs w h
    rw [hok] at htk
    rw [ht] at htk hlen hs1 ⊢
    obtain ⟨l, er⟩ := t
    dsimp only at htk hlen hs1 ⊢
    have HT := Lib.hid htk
    have HL := Lib.hid hlen
    have HS1 := Lib.hid hs1
    have HS2 := Lib.hid hs2
    clear htk hlen ht hok e hs1 hs2
    go_enter Try.func14, Try.ntmps14
    go_wp2_with (go_at_call 45; refine (HT.out).mono ?_; rintro e w1 ⟨A1, c1, rfl, hown1, hb1⟩)
    have hr1 := hown1.reads
    go_loopw [6, 18] (fun v i wr => ∃ (k : Nat), k ≤ xs.length ∧ i = .int .i64 k ∧ v = .int .i64 (dispTo l xs k) ∧ Below w1.heap.size w1 wr) (fun _ i _ => xs.length - (intOf i).toNat)
    case atStart => exact ⟨0, by omega, rfl, rfl, Below.refl _ _⟩
    case round =>
      obtain ⟨k, hk, rfl, rfl, hbel⟩ := hrel
      by_cases hlt : k < xs.length
      · obtain ⟨x, hx⟩ := get_of_lt hlt
        obtain ⟨y, hy⟩ := get_of_lt (xs := l) (k := k) (by have := HL.out; omega)
        have HX := Lib.hid hx
        have HY := Lib.hid hy
        obtain ⟨b, off, rfl, hb, hcell⟩ := ((h.next hb1).below hbel).at_ (ints_at hx)
        obtain ⟨b', off', rfl, hb', hcell'⟩ := (hr1.below hbel).at_ (ints_at hy)
        have hi : (k : Int) < (xs.length : Int) := by omega
        have hi' : (k : Int) < (l.length : Int) := by have := HL.out; omega
        have bx := HS2.out x (List.mem_of_getElem? hx)
        have bY := HS1.out y (List.mem_of_getElem? hy)
        have bd := dispTo_bd HS1.out HS2.out k
        have e1 : IntKind.i64.wrap (y - x) = y - x := IntWalk.i64_in _ (by omega)
        have e2 : IntKind.i64.wrap (dispTo l xs k + (y - x)) = dispTo l xs k + (y - x) := IntWalk.i64_in _ (by omega)
        clear hx hy h hr1
        go_wp2
        go_quiet (fail)
        clear e1 e2
        go_wp2
        go_roundw
        case rel => exact ⟨k + 1, by omega, by go_num, by rw [dispTo_step HY.out HX.out], below_drewN hbel _⟩
        case measure => simp [intOf]; omega
      · go_wp2
        go_ret2
        obtain rfl : k = xs.length := by omega
        exact ⟨rfl, hb1.trans (hbel.mono hb1.size)⟩
  · have e : dispS xs = (0, (takenS xs).2) := by simp [dispS, hok]
    rw [e]
    have htk := taken_any A c xs w h
    rw [ht] at htk hok ⊢
    obtain ⟨l, er⟩ := t
    dsimp only at htk hok ⊢
    have HT := Lib.hid htk
    have hbad : (er != 0) = true := by simpa using hok
    clear htk ht hok e
    go_enter Try.func14, Try.ntmps14
    go_wp2_with (go_at_call 45; refine (HT.out).mono ?_; rintro e w1 ⟨A1, c1, rfl, hown1, hb1⟩)
    go_ret2
    exact ⟨rfl, hb1⟩

/-- a to the power n. -/
def powI (a : Int) (n : Nat) : Int := a ^ n
def countS (n : Int) : Int × Int := if carsB n then ((n + 1) ^ (n - 1).toNat, 0) else (0, 2)
theorem pow_bd {a : Int} {k : Nat} (h0 : 0 ≤ a) (ha : a ≤ 12) (hk : k ≤ 12) : 0 ≤ a ^ k ∧ a ^ k ≤ 8916100448256 := by
  obtain ⟨m, rfl⟩ := Int.eq_ofNat_of_zero_le h0
  have h1 : m ^ k ≤ 12 ^ k := Nat.pow_le_pow_left (by omega) k
  have h2 : 12 ^ k ≤ 12 ^ 12 := Nat.pow_le_pow_right (by omega) hk
  have h3 : m ^ k ≤ 8916100448256 := Nat.le_trans h1 (Nat.le_trans h2 (by decide))
  have : ((m : Int) ^ k) = ((m ^ k : Nat) : Int) := (Int.natCast_pow m k).symm
  rw [this]
  omega

set_option maxHeartbeats 800000 in
theorem count_any (n : Int) (w : World) : Calls Try.prog 17 #[.int .i64 n] w fun e w' => e = .returned (.tuple #[.int .i64 (countS n).1, .int .i64 (countS n).2]) ∧ w = w' := by
  by_cases hc : carsB n = true
  · obtain ⟨m, rfl⟩ : ∃ m : Nat, n = (m : Int) := by simp [carsB] at hc; exact ⟨n.toNat, by omega⟩
    have hle := carsB_le hc
    have e : countS (m : Int) = (((m : Int) + 1) ^ (m - 1), 0) := by
      unfold countS
      rw [if_pos hc, show ((m : Int) - 1).toNat = m - 1 from by omega]
    rw [e]
    clear e
    go_enter Try.func17, Try.ntmps17
    go_wp2_with (go_at_call 47; refine (cars_any _ _).mono ?_; rintro e w' ⟨rfl, rfl⟩)
    clear hc
    go_loop [4, 10] (fun v i => ∃ k : Nat, k ≤ m - 1 ∧ i = .int .i64 k ∧ v = .int .i64 (((m : Int) + 1) ^ k)) (fun _ i => m - 1 - (intOf i).toNat)
    case atStart => exact ⟨0, by omega, rfl, by simp⟩
    case round =>
      obtain ⟨k, hk, rfl, rfl⟩ := hrel
      have h1 := pow_bd (a := (m : Int) + 1) (k := k) (by omega) (by omega) (by omega)
      have h2 := pow_bd (a := (m : Int) + 1) (k := k + 1) (by omega) (by omega) (by omega)
      have h3 : ((m : Int) + 1) ^ (k + 1) = ((m : Int) + 1) ^ k * ((m : Int) + 1) := Int.pow_succ _ _
      by_cases hlt : k < m - 1
      · generalize ((m : Int) + 1) ^ k = p at *
        have H3 := Lib.hid h3
        have h4 : 0 ≤ p * ((m : Int) + 1) ∧ p * ((m : Int) + 1) ≤ 8916100448256 := by rw [← h3]; exact h2
        clear h3 h2
        go_wp2
        go_round
        case rel => exact ⟨k + 1, by omega, by go_num, by rw [H3.out]⟩
        case measure => simp [intOf]; omega
      · clear h1 h2 h3
        go_wp2
        go_ret2
        obtain rfl : k = m - 1 := by omega
        exact ⟨rfl, rfl⟩
  · have e : countS n = (0, 2) := by simp [countS, hc]
    rw [e]
    have hc' : carsB n = false := by simpa using hc
    clear e hc
    go_enter Try.func17, Try.ntmps17
    go_wp2_with (go_at_call 47; refine (cars_any _ _).mono ?_; rintro e w' ⟨rfl, rfl⟩)
    go_ret2
    exact ⟨rfl, rfl⟩
end Go.Proofs.Ytjeggocindcgaaa
