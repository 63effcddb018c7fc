/-
  ref29.Rotation.
-/
import Derived.Test.YtjeggocindcgaaaFree
namespace Go.Proofs.Ytjeggocindcgaaa
open Go.RowKit

set_option maxRecDepth 100000 in
set_option maxHeartbeats 1000000 in
theorem rrotation_ok (A : Option Addr) (c : Nat) (xs : List Int) (hok : withinS xs 1 = 0) (w : World) (h : Reads w w.heap.size 1 A xs.length (ints xs)) :
    Calls Try.prog 32 #[.slice A xs.length c] w fun e w' => e = .returned (.tuple #[.int .i64 (rotS xs).1, .int .i64 0]) ∧ Below w.heap.size w w' := by
  obtain ⟨hn, hx1⟩ := within_zero hok
  have hx : ∀ x ∈ xs, 0 ≤ x ∧ x ≤ xs.length := fun x h => by have := hx1 x h; omega
  have hwi := fun w h => rwithin_any A c xs 1 (by omega) (by omega) w h
  simp only [hok] at hwi
  have HW := Lib.hid hwi
  obtain ⟨r, hr, hr1, _⟩ := rot_range hok
  have hfree := fun t ht => rot_free hn.1 (by omega) hx (t := t) ht
  rw [hr1] at hfree ⊢
  have HF := Lib.hid hfree
  have HX := Lib.hid hx
  clear hwi hx1 hfree hx hr1 hok
  go_enter Try.func32, Try.ntmps32
  go_wp2_with (go_at_call 54; refine (HW.out _ h).mono ?_; rintro e w' ⟨rfl, rfl⟩)
  go_loopw [5] (fun i wr => ∃ t : Nat, t ≤ r ∧ i = .int .i64 t ∧ Below w.heap.size w wr) (fun i _ => xs.length + 1 - (intOf i).toNat)
  case atStart => exact ⟨0, by omega, rfl, Below.refl _ _⟩
  case round =>
    obtain ⟨t, ht, rfl, hbel⟩ := hrel
    obtain ⟨wo, rfl⟩ : ∃ wo : World, wo = wr := ⟨_, rfl⟩
    have hd39 : (t : Int) ≤ (xs.length : Int) := by omega
    go_wp2
    go_loopw [6, 7] (fun v i wr => ∃ (k : Nat) (A' : Option Addr) (c' : Nat), k ≤ xs.length ∧ i = .int .i64 k ∧ v = .slice A' (turnTo xs t k).length c' ∧ OwnI wr w.heap.size A' c' (turnTo xs t k) ∧ Below w.heap.size w wr) (fun _ i _ => xs.length - (intOf i).toNat)
    case atStart => exact ⟨0, none, 0, by omega, rfl, rfl, OwnI.nil_ _ _, hbel⟩
    case round =>
      clear hbel
      obtain ⟨k, A', c', hk, rfl, rfl, hown, hbl⟩ := hrel
      by_cases hkl : k < xs.length
      · have hi : (k : Int) < (xs.length : Int) := by omega
        obtain ⟨x, hx⟩ := get_of_lt hkl
        obtain ⟨hx0, hxn⟩ := HX.out x (List.mem_of_getElem? hx)
        have HS := Lib.hid (turnTo_step (t := (t : Int)) hx)
        have hl := turnTo_length xs t k
        obtain ⟨b, off, rfl, hb, hcell⟩ := (h.below hbl).at_ (ints_at hx)
        have hne : ((xs.length : Int) + 1 == 0) = false := by simp; omega
        clear hx h
        go_wp2_with (at_builtin; refine push_int rfl (.tmp 25) (.tmp 36) _ rfl Try.underlying22 w.heap.size A' c' (turnTo xs t k) ((x + t) % ((xs.length : Int) + 1)) rfl hown rfl rfl (by omega) hbl.size ?_; intro A2 c2 w2 hown2 hg2 hb2)
        go_roundw
        case rel => exact ⟨k + 1, A2, c2, by omega, by go_num, by rw [HS.out]; simp, by rw [HS.out]; exact hown2, hbl.trans hb2⟩
        case measure => simp [intOf]; omega
      · obtain rfl : k = xs.length := by omega
        have hi : ¬ (xs.length : Int) < (xs.length : Int) := by omega
        have htl := turnI_length xs t
        rw [turnTo_full] at hown ⊢
        have hrl := hown.reads
        have hlw := HF.out t (by omega)
        have hmem : ∀ z ∈ turnI xs t, 0 ≤ z ∧ z ≤ (turnI xs t).length := by
          intro z hz
          rw [htl]
          obtain ⟨x, _, rfl⟩ := List.mem_map.1 hz
          have h1 := Int.emod_nonneg (x + t) (show ((xs.length : Int) + 1) ≠ 0 by omega)
          have h2 := Int.emod_lt_of_pos (x + t) (show 0 < ((xs.length : Int) + 1) by omega)
          omega
        have hfr := rfree_any A' c' (turnI xs t) (by rw [htl]; omega) hmem wr hrl
        rw [htl] at hfr
        obtain ⟨l, hll⟩ : ∃ l, turnI xs t = l := ⟨_, rfl⟩
        rw [hll] at hown htl hlw hfr ⊢
        rw [htl]
        obtain ⟨v, hv⟩ : ∃ v, spotInt (spot (circS l) (xs.length + 1) 0) = v := ⟨_, rfl⟩
        rw [hv] at hlw hfr
        have HFR := Lib.hid hfr
        clear hfr hmem hll hv htl hrl hown
        by_cases hin : v = (xs.length : Int)
        · have hv2 : (v == (xs.length : Int)) = true := by simpa using hin
          have htr : t = r := by have := hlw.1 hin; omega
          subst htr
          clear hlw hin
          go_wp2_with fail
          refine (HFR.out).mono ?_
          rintro e w' ⟨rfl, hb2⟩
          go_wp2
          go_ret2
          exact ⟨rfl, hbl.trans (hb2.mono hbl.size)⟩
        · have hv2 : (v == (xs.length : Int)) = false := by simpa using hin
          have htr : t < r := by
            have : ¬ t = r := fun e => hin (hlw.2 (by omega))
            omega
          clear hlw hin
          go_wp2_with fail
          refine (HFR.out).mono ?_
          rintro e w' ⟨rfl, hb2⟩
          go_wp2
          go_roundw
          case rel => exact ⟨t + 1, by omega, by go_num, hbl.trans (hb2.mono hbl.size)⟩
          case measure => simp [intOf]; omega
theorem rrotation_bad (A : Option Addr) (c : Nat) (xs : List Int) (hbad : (withinS xs 1 != 0) = true) (w : World) (h : Reads w w.heap.size 1 A xs.length (ints xs)) :
    Calls Try.prog 32 #[.slice A xs.length c] w fun e w' => e = .returned (.tuple #[.int .i64 0, .int .i64 (withinS xs 1)]) ∧ w = w' := by
  go_enter Try.func32, Try.ntmps32
  go_wp2_with (go_at_call 54; refine (rwithin_any A c xs 1 (by omega) (by omega) _ h).mono ?_; rintro e w' ⟨rfl, rfl⟩)
  go_ret2
  exact ⟨rfl, rfl⟩
theorem rrotation_any (A : Option Addr) (c : Nat) (xs : List Int) (w : World) (h : Reads w w.heap.size 1 A xs.length (ints xs)) :
    Calls Try.prog 32 #[.slice A xs.length c] w fun e w' => e = .returned (.tuple #[.int .i64 (rotS xs).1, .int .i64 (rotS xs).2]) ∧ Below w.heap.size w w' := by
  by_cases hok : withinS xs 1 = 0
  · have e : (rotS xs).2 = 0 := by simp [rotS, hok]
    rw [e]
    exact rrotation_ok A c xs hok w h
  · have e : rotS xs = (0, withinS xs 1) := by simp [rotS, hok]
    rw [e]
    exact (rrotation_bad A c xs (by simpa using hok) w h).mono fun _ _ ⟨he, hw⟩ => ⟨he, by subst hw; exact Below.refl _ _⟩
end Go.Proofs.Ytjeggocindcgaaa
