/-
  The contracts of the reference's Parked, Lucky and Displacement.
-/
import Derived.Test.YtjeggocindcgaaaRef29
namespace Go.Proofs.Ytjeggocindcgaaa
open Go.RowKit

def flags (n k : Nat) : List Bool := (List.range n).map fun j => decide (j < k)
theorem flags_set (n k : Nat) : (flags n k).set k true = flags n (k + 1) := by
  apply List.ext_getElem?
  intro j
  simp only [flags, List.getElem?_set, List.length_map, List.length_range, List.getElem?_map]
  by_cases hj : k = j
  · subst hj
    by_cases hk : k < n
    · simp [hk]
    · simp [hk]
  · rw [if_neg hj]
    by_cases hk : j < n
    · simp [hk]; omega
    · simp [hk]
theorem flags_zero (n : Nat) : flags n 0 = List.replicate n false := by
  apply List.ext_getElem?
  intro j
  by_cases hk : j < n <;> simp [flags, hk]
def frees (s : List Bool) (n : Nat) : List Bool := (s.take n).map (!·)
theorem frees_get {s : List Bool} {n j : Nat} {b : Bool} (hj : j < n) (h : s[j]? = some b) : (frees s n)[j]? = some (!b) := by simp [frees, List.getElem?_take_of_lt hj, h]
theorem flags_full {n : Nat} (hn : n ≤ 13) : flags n n = frees street0 n := by
  apply List.ext_getElem?
  intro j
  by_cases hk : j < n
  · have h1 : street0[j]? = some false := by unfold street0; rw [List.getElem?_replicate, if_pos (by omega)]
    rw [frees_get hk h1]
    simp [flags, hk]
  · rw [List.getElem?_eq_none (by simp [flags]; omega), List.getElem?_eq_none (by simp [frees]; omega)]
theorem frees_set {s : List Bool} {n j : Nat} : (frees s n).set j false = frees (s.set j true) n := by
  simp [frees, List.map_set, List.take_set]
theorem bools_length (s : List Bool) : (bools s).size = s.length := by simp [bools]

set_option maxHeartbeats 1000000 in
theorem rparked_any (A : Option Addr) (c : Nat) (xs : List Int) (hn : xs.length ≤ 12) (h0 : ∀ x ∈ xs, 0 ≤ x ∧ x < xs.length) (w : World) (h : Reads w w.heap.size 1 A xs.length (ints xs)) :
    Calls Try.prog 29 #[.slice A xs.length c] w fun e w' =>
      ∃ A' c', e = .returned (.slice A' (parkedS xs).length c') ∧ OwnI w' w.heap.size A' c' (parkedS xs) ∧ Below w.heap.size w w' := by
  have hmk := make_bools xs.length (by omega)
  go_enter Try.func29, Try.ntmps29
  go_wp2
  clear hmk
  go_loopw [4] (fun i wr => ∃ k : Nat, k ≤ xs.length ∧ i = .int .i64 k ∧ Blk wr w.heap.size 4 (bools (flags xs.length k)) ∧ Below w.heap.size w wr) (fun i _ => xs.length - (intOf i).toNat)
  case atStart => exact ⟨0, by omega, rfl, by rw [flags_zero]; exact Blk.new _ _ _, (Below.refl _ _).alloc (Nat.le_refl _) _⟩
  case round =>
    obtain ⟨k, hk, rfl, hblk, hbel⟩ := hrel
    by_cases hlt : k < xs.length
    · have hc := (hblk.cell k).trans (bools_get (b := decide (k < k)) (by simp [flags, hlt]))
      have hf := hblk.frozen k
      go_wp2
      go_roundw
      case rel => exact ⟨k + 1, by omega, by go_num, by rw [← flags_set, ← bools_set]; exact hblk.set_ _ _, hbel.setCell (p := ⟨w.heap.size, k, none⟩) (Nat.le_refl _) _⟩
      case measure => simp [intOf]; omega
    · obtain rfl : k = xs.length := by omega
      rw [flags_full (by omega)] at hblk
      obtain ⟨w1, hw1⟩ : ∃ w1, w1 = wr := ⟨_, rfl⟩
      go_wp2
      go_loopw [5, 6, 7] (fun v i _ wr => ∃ (k : Nat) (A' : Option Addr) (c' : Nat) (out : List Int) (s : List Bool), k ≤ xs.length ∧ i = .int .i64 k ∧ v = .slice A' out.length c' ∧ out.length ≤ k ∧ s.length = 13 ∧ OwnI wr w.heap.size A' c' out ∧
          Blk wr w.heap.size 4 (bools (frees s xs.length)) ∧ Below w.heap.size w wr ∧ Hid (parkedS xs = out ++ parkGo xs.length s (xs.drop k))) (fun _ i _ _ => xs.length - (intOf i).toNat)
      case atStart => exact ⟨0, none, 0, [], street0, by omega, rfl, rfl, by simp, by simp [street0], OwnI.nil_ _ _, hblk, hbel, by simp [Hid, parkedS]⟩
      case round =>
        clear hw1 hblk hbel w1
        obtain ⟨k, A', c', out, s, hk, rfl, rfl, hol, hs, hown, hblk, hbel, HS⟩ := hrel
        by_cases hlt : k < xs.length
        · obtain ⟨x, hx⟩ := nat_of (fun y hy => (h0 y hy).1) hlt
          have HX := Lib.hid hx
          have hxn : x < xs.length := by have := (h0 _ (List.mem_of_getElem? hx)).2; omega
          obtain ⟨b, off, rfl, hb, hcell⟩ := (h.below hbel).at_ (ints_at hx)
          clear hx h h0
          go_wp2
          go_loop [7] (fun v => ∃ j : Nat, v = .int .i64 j ∧ j ≤ xs.length ∧ Hid (spot s xs.length x = spot s xs.length j)) (fun v => xs.length - (intOf v).toNat)
          case atStart => exact ⟨x, rfl, by omega, rfl⟩
          case round =>
            obtain ⟨j, rfl, hj, HSP⟩ := hrel
            by_cases hjl : j < xs.length
            · obtain ⟨q, hq⟩ := get_of_lt (xs := s) (k := j) (by omega)
              have hc := (hblk.cell j).trans (bools_get (frees_get hjl hq))
              have hf := hblk.frozen j
              have HQ := Lib.hid hq
              have hne : ((j : Int) == (xs.length : Int)) = false := by simp; omega
              clear hq
              cases q
              · have h1 := hown.set_blk hblk (by decide) j (.bool false)
                have hz := hbel.size
                go_wp2_with (at_builtin; refine push_int rfl (.tmp 51) (.tmp 53) _ rfl Try.underlying22 w.heap.size A' c' out j rfl h1 rfl (by simp [World.setCell]) (by omega) (by simp [World.setCell]; omega) ?_; intro A2 c2 w2 hown2 hg2 hb2)
                go_roundw
                case rel =>
                  have hsp : spot s xs.length x = some j := HSP.out.trans (spot_hit hjl HQ.out)
                  refine ⟨k + 1, A2, c2, out ++ [(j : Int)], s.set j true, by omega, by go_num, by simp, by simp; omega, by simpa using hs, hown2, ?_, ?_, ?_⟩
                  · have h2 := (hblk.set_ j (.bool false)).alloc (.cells #[.int .i64 j] 3)
                    rw [bools_set, frees_set] at h2
                    exact h2.grown hg2 (own_blk_ne hown hblk (by decide))
                  · exact (hbel.setCell (p := ⟨w.heap.size, j, none⟩) (Nat.le_refl _) _).trans hb2
                  · rw [Hid, HS.out, parkGo_some HX.out hsp]; simp
                case measure => simp [intOf]; omega
              · go_wp2
                go_round
                case rel => exact ⟨j + 1, by go_num, by omega, HSP.out.trans (spot_step hjl HQ.out)⟩
                case measure => simp [intOf]; omega
            · obtain rfl : j = xs.length := by omega
              have hsp : spot s xs.length x = none := HSP.out.trans (spot_out (Nat.le_refl _))
              go_wp2
              go_ret
              have e : parkedS xs = out := by rw [HS.out, parkGo_none HX.out hsp, List.append_nil]
              rw [e]
              exact ⟨_, _, rfl, hown, hbel⟩
        · go_wp2
          go_ret
          have e : parkedS xs = out := by rw [HS.out, show k = xs.length from by omega]; simp [parkGo]
          rw [e]
          exact ⟨_, _, rfl, hown, hbel⟩

theorem parkedS_small {xs : List Int} (hn : xs.length ≤ 12) : Small (parkedS xs) := parkGo_small _ (by omega) _ _
/-- What the reference's Lucky and Displacement answer. -/
def rluckyS (xs : List Int) : List Int × Int := if givenR xs = 0 then (luckyTo (parkedS xs) xs xs.length, 0) else ([], givenR xs)
def rdispS (xs : List Int) : Int × Int := if givenR xs = 0 then (dispTo (parkedS xs) xs xs.length, 0) else (0, givenR xs)
theorem givenR_zero {xs : List Int} (h : givenR xs = 0) : withinS xs 0 = 0 := by
  unfold givenR at h
  by_cases hok : withinS xs 0 = 0
  · exact hok
  · simp [hok] at h

set_option maxHeartbeats 800000 in
theorem rlucky_any (A : Option Addr) (c : Nat) (xs : List Int) (hall : givenR xs = 0 → (parkedS xs).length = xs.length) (w : World) (h : Reads w w.heap.size 1 A xs.length (ints xs)) :
    Calls Try.prog 13 #[.slice A xs.length c] w fun e w' =>
      ∃ A' c', e = .returned (.tuple #[.slice A' (rluckyS xs).1.length c', .int .i64 (rluckyS xs).2]) ∧ OwnI w' w.heap.size A' c' (rluckyS xs).1 ∧ Below w.heap.size w w' := by
  by_cases hok : givenR xs = 0
  · have hlen := hall hok
    obtain ⟨hn, hx⟩ := within_zero (givenR_zero hok)
    have e : rluckyS xs = (luckyTo (parkedS xs) xs xs.length, 0) := by simp [rluckyS, hok]
    rw [e]
    have hg := rgiven_any A c xs w h
    rw [hok] at hg
    have HG := Lib.hid hg
    have hp := rparked_any A c xs (by omega) (fun y hy => by have := hx y hy; omega) w h
    obtain ⟨l, hl⟩ : ∃ l, parkedS xs = l := ⟨_, rfl⟩
    rw [hl] at hp hlen ⊢
    have HP := Lib.hid hp
    have HL := Lib.hid hlen
    clear hg hp hlen hl hok e hall hx
    go_enter Try.func13, Try.ntmps13
    go_wp2_with (first | (go_at_call 46; refine (HG.out).mono ?_; rintro e w' ⟨rfl, rfl⟩) | (go_at_call 29; refine (HP.out).mono ?_; rintro e w1 ⟨A1, c1, rfl, hown1, hb1⟩))
    have hr1 := hown1.reads
    go_loopw [6, 7] (fun v i wr => ∃ (k : Nat) (A' : Option Addr) (c' : Nat), k ≤ xs.length ∧ i = .int .i64 k ∧ v = .slice A' (luckyTo l xs k).length c' ∧ OwnI wr w1.heap.size A' c' (luckyTo l xs k) ∧ Below w1.heap.size w1 wr) (fun _ i _ => xs.length - (intOf i).toNat)
    case atStart => exact ⟨0, none, 0, by omega, rfl, rfl, OwnI.nil_ _ _, Below.refl _ _⟩
    case round =>
      obtain ⟨k, A', c', hk, rfl, rfl, hown, hbel⟩ := hrel
      by_cases hlt : k < xs.length
      · obtain ⟨x, hx⟩ := get_of_lt hlt
        obtain ⟨y, hy⟩ := get_of_lt (xs := l) (k := k) (by have := HL.out; omega)
        have HX := Lib.hid hx
        have HY := Lib.hid hy
        obtain ⟨b, off, rfl, hb, hcell⟩ := ((h.next hb1).below hbel).at_ (ints_at hx)
        obtain ⟨b', off', rfl, hb', hcell'⟩ := (hr1.below hbel).at_ (ints_at hy)
        have hi : (k : Int) < (xs.length : Int) := by omega
        have hi' : (k : Int) < (l.length : Int) := by have := HL.out; omega
        clear hx hy h hr1
        by_cases hxy : y = x
        · subst hxy
          go_wp2
          go_quiet (fail)
          have hz := hbel.size
          go_wp2_with (at_builtin; refine push_int rfl (.tmp 30) (.tmp 32) _ rfl Try.underlying22 w1.heap.size A' c' (luckyTo l xs k) k rfl hown rfl rfl (by have := luckyTo_length l xs k; omega) hz ?_; intro A2 c2 w2 hown2 hg2 hb2)
          go_roundw
          case rel => exact ⟨k + 1, A2, c2, by omega, by go_num, by rw [luckyTo_yes HY.out HX.out]; simp, by rw [luckyTo_yes HY.out HX.out]; exact hown2, (below_drewN hbel _).trans hb2⟩
          case measure => simp [intOf]; omega
        · have hbx : (y == x) = false := by simpa using hxy
          go_wp2
          go_quiet (fail)
          go_wp2
          go_roundw
          case rel => exact ⟨k + 1, A', c', by omega, by go_num, by rw [luckyTo_no HY.out HX.out hxy], by rw [luckyTo_no HY.out HX.out hxy]; exact OwnI.drewN hown _, below_drewN hbel _⟩
          case measure => simp [intOf]; omega
      · go_wp2
        go_ret2
        obtain rfl : k = xs.length := by omega
        exact ⟨A', c', rfl, hown.mono hb1.size, hb1.trans (hbel.mono hb1.size)⟩
  · have e : rluckyS xs = ([], givenR xs) := by simp [rluckyS, hok]
    rw [e]
    have hbad : (givenR xs != 0) = true := by simpa using hok
    clear hok e hall
    go_enter Try.func13, Try.ntmps13
    go_wp2_with (go_at_call 46; refine (rgiven_any A c xs _ h).mono ?_; rintro e w' ⟨rfl, rfl⟩)
    go_ret2
    exact ⟨none, 0, rfl, OwnI.nil_ _ _, Below.refl _ _⟩

set_option maxHeartbeats 800000 in
theorem rdisp_any (A : Option Addr) (c : Nat) (xs : List Int) (hall : givenR xs = 0 → (parkedS xs).length = xs.length) (w : World) (h : Reads w w.heap.size 1 A xs.length (ints xs)) :
    Calls Try.prog 15 #[.slice A xs.length c] w fun e w' => e = .returned (.tuple #[.int .i64 (rdispS xs).1, .int .i64 (rdispS xs).2]) ∧ Below w.heap.size w w' := by
  by_cases hok : givenR xs = 0
  · have hlen := hall hok
    obtain ⟨hn, hx⟩ := within_zero (givenR_zero hok)
    have hs1 := parkedS_small (xs := xs) (by omega)
    have hs2 : Small xs := fun x h => by have := hx x h; omega
    have e : rdispS xs = (dispTo (parkedS xs) xs xs.length, 0) := by simp [rdispS, hok]
    rw [e]
    have hg := rgiven_any A c xs w h
    rw [hok] at hg
    have HG := Lib.hid hg
    have hp := rparked_any A c xs (by omega) (fun y hy => by have := hx y hy; omega) w h
    obtain ⟨l, hl⟩ : ∃ l, parkedS xs = l := ⟨_, rfl⟩
    rw [hl] at hp hlen hs1 ⊢
    have HP := Lib.hid hp
    have HL := Lib.hid hlen
    have HS1 := Lib.hid hs1
    have HS2 := Lib.hid hs2
    clear hg hp hlen hl hok e hall hx hs1 hs2
    go_enter Try.func15, Try.ntmps15
    go_wp2_with (first | (go_at_call 46; refine (HG.out).mono ?_; rintro e w' ⟨rfl, rfl⟩) | (go_at_call 29; refine (HP.out).mono ?_; rintro e w1 ⟨A1, c1, rfl, hown1, hb1⟩))
    have hr1 := hown1.reads
    go_loopw [6, 7] (fun v i wr => ∃ (k : Nat), k ≤ xs.length ∧ i = .int .i64 k ∧ v = .int .i64 (dispTo l xs k) ∧ Below w1.heap.size w1 wr) (fun _ i _ => xs.length - (intOf i).toNat)
    case atStart => exact ⟨0, by omega, rfl, rfl, Below.refl _ _⟩
    case round =>
      obtain ⟨k, hk, rfl, rfl, hbel⟩ := hrel
      by_cases hlt : k < xs.length
      · obtain ⟨x, hx⟩ := get_of_lt hlt
        obtain ⟨y, hy⟩ := get_of_lt (xs := l) (k := k) (by have := HL.out; omega)
        have HX := Lib.hid hx
        have HY := Lib.hid hy
        obtain ⟨b, off, rfl, hb, hcell⟩ := ((h.next hb1).below hbel).at_ (ints_at hx)
        obtain ⟨b', off', rfl, hb', hcell'⟩ := (hr1.below hbel).at_ (ints_at hy)
        have hi : (k : Int) < (xs.length : Int) := by omega
        have hi' : (k : Int) < (l.length : Int) := by have := HL.out; omega
        have bx := HS2.out x (List.mem_of_getElem? hx)
        have bY := HS1.out y (List.mem_of_getElem? hy)
        have bd := dispTo_bd HS1.out HS2.out k
        have e1 : IntKind.i64.wrap (y - x) = y - x := IntWalk.i64_in _ (by omega)
        have e2 : IntKind.i64.wrap (dispTo l xs k + (y - x)) = dispTo l xs k + (y - x) := IntWalk.i64_in _ (by omega)
        clear hx hy h hr1
        go_wp2
        go_quiet (fail)
        clear e1 e2
        go_wp2
        go_roundw
        case rel => exact ⟨k + 1, by omega, by go_num, by rw [dispTo_step HY.out HX.out], below_drewN hbel _⟩
        case measure => simp [intOf]; omega
      · go_wp2
        go_ret2
        obtain rfl : k = xs.length := by omega
        exact ⟨rfl, hb1.trans (hbel.mono hb1.size)⟩
  · have e : rdispS xs = (0, givenR xs) := by simp [rdispS, hok]
    rw [e]
    have hbad : (givenR xs != 0) = true := by simpa using hok
    clear hok e hall
    go_enter Try.func15, Try.ntmps15
    go_wp2_with (go_at_call 46; refine (rgiven_any A c xs _ h).mono ?_; rintro e w' ⟨rfl, rfl⟩)
    go_ret2
    exact ⟨rfl, Below.refl _ _⟩
end Go.Proofs.Ytjeggocindcgaaa
