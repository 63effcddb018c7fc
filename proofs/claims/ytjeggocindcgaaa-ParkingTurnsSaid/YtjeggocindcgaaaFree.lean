/-
  ref29.free and ref29.Rotation.
-/
import Derived.Test.YtjeggocindcgaaaParkingCircles
namespace Go.Proofs.Ytjeggocindcgaaa
open Go.RowKit

def circTo (xs : List Int) (k : Nat) : List Bool := (xs.take k).foldl (circStep (xs.length + 1)) street0
theorem circTo_full (xs : List Int) : circTo xs xs.length = circS xs := by simp [circTo, circS]
theorem circTo_length (xs : List Int) (k : Nat) : (circTo xs k).length = 13 := by unfold circTo; rw [fold_length]; simp [street0]
theorem circ_at {xs : List Int} (hn : xs.length ≤ 12) (h0 : ∀ x ∈ xs, 0 ≤ x ∧ x ≤ xs.length) {k x : Nat} (hx : xs[k]? = some (x : Int)) :
    ∃ d, d < xs.length + 1 ∧ (circTo xs k)[(x + d) % (xs.length + 1)]? = some false ∧ (∀ e, e < d → (circTo xs k)[(x + e) % (xs.length + 1)]? = some true) ∧ circTo xs (k + 1) = (circTo xs k).set ((x + d) % (xs.length + 1)) true := by
  have hk : k < xs.length := (List.getElem?_eq_some_iff.1 hx).1
  have hxl := h0 _ (List.mem_of_getElem? hx)
  have hlen : xs.length + 1 ≤ (circTo xs k).length := by rw [circTo_length]; omega
  have hstep : circTo xs (k + 1) = circStep (xs.length + 1) (circTo xs k) (x : Int) := circ_take hx
  have hocc : occ (circTo xs k) (xs.length + 1) = k := by
    obtain ⟨ys, rfl⟩ := nats_of fun x h => (h0 x h).1
    rw [List.length_map] at *
    have h13 : ys.length + 1 ≤ street0.length := by simp [street0]; omega
    have := occ_fold (N := ys.length + 1) (ys.take k) street0 h13 (fun y hy => by have := (h0 (Int.ofNat y) (List.mem_map.2 ⟨y, List.mem_of_mem_take hy, rfl⟩)).2; simp at this; omega) (by rw [occ_street0, List.length_take]; omega)
    rw [occ_street0, List.length_take, List.map_take] at this
    unfold circTo
    rw [List.length_map, this]; omega
  rw [hstep]
  rcases circStep_is hlen (x := x) (by omega) with ⟨d, d1, d2, d3, d4⟩ | ⟨a1, _⟩
  · exact ⟨d, d1, d2, d3, d4⟩
  · have := occ_full (s := circTo xs k) (xs.length + 1) (Nat.zero_le _) (fun j _ hj => a1 j hj)
    rw [hocc, show occ (circTo xs k) 0 = 0 from rfl] at this
    omega
/-- Where the turned list leaves the last place free. -/
theorem rot_free {xs : List Int} (h1 : 1 ≤ xs.length) (hn : xs.length ≤ 11) (hx : ∀ x ∈ xs, 0 ≤ x ∧ x ≤ xs.length) {t : Nat} (ht : t ≤ xs.length) :
    spotInt (spot (circS (turnI xs t)) (xs.length + 1) 0) = (xs.length : Int) ↔ (t : Int) = (rotS xs).1 := by
  obtain ⟨ys, rfl⟩ := nats_of fun x h => (hx x h).1
  rw [List.length_map] at *
  have hy : ∀ y ∈ ys, y ≤ ys.length := fun y h => by have := (hx (Int.ofNat y) (List.mem_map.2 ⟨y, h, rfl⟩)).2; simp at this; omega
  have hlaw := circle_law ys hn hy t ht
  have hlen : (turnL ys t).length = ys.length := turnL_length ys t
  have hok1 : withinS (ys.map Int.ofNat) 1 = 0 := by
    unfold withinS
    rw [List.length_map, if_pos (by simp [carsB]; omega), if_pos]
    rw [List.all_eq_true]
    intro x hx'
    have := hx x hx'
    simp [inB]; omega
  have hrot : (rotS (ys.map Int.ofNat)).1 = ((ys.length : Int) - spotInt (spot (circS (ys.map Int.ofNat)) (ys.length + 1) 0)) % ((ys.length : Int) + 1) := by
    unfold rotS; rw [if_pos hok1, List.length_map]
  rw [hrot, ← hlaw, turnI_nat]
  have h13 : ys.length + 1 ≤ street0.length := by simp [street0]; omega
  have hlt : ∀ q ∈ turnL ys t, q < ys.length + 1 := fun q hq => by
    unfold turnL at hq
    obtain ⟨x, _, rfl⟩ := List.mem_map.1 hq
    exact Nat.mod_lt (x + t) (show 0 < ys.length + 1 by omega)
  have hlin := lin_circ ys.length (turnL ys t) street0 h13 (street0_get (by omega)) (fun y hy => by have := hlt y hy; omega)
  have hp : parkedS ((turnL ys t).map Int.ofNat) = parkGo ys.length street0 ((turnL ys t).map Int.ofNat) := by unfold parkedS; rw [List.length_map, turnL_length]
  rw [hlen] at hlin
  rw [hp, ← hlin]
  have hcirc : circS ((turnL ys t).map Int.ofNat) = ((turnL ys t).map Int.ofNat).foldl (circStep (ys.length + 1)) street0 := by unfold circS; rw [List.length_map, hlen]
  rw [hcirc]
  have ho := occ_fold (turnL ys t) street0 h13 hlt (by rw [occ_street0, hlen]; omega)
  rw [occ_street0, Nat.zero_add, hlen] at ho
  have hlen2 : ys.length + 1 ≤ (((turnL ys t).map Int.ofNat).foldl (circStep (ys.length + 1)) street0).length := by rw [fold_length]; exact h13
  obtain ⟨f, f1, f2, f3⟩ := free_some hlen2 (by omega)
  rw [f1]
  simp only [spotInt]
  constructor
  · intro h
    have : f = ys.length := by omega
    subst this; exact f3
  · intro h
    have := free_unique (by omega) f2 (show ys.length < ys.length + 1 by omega) f3 h
    omega
theorem rot_range {xs : List Int} (hok : withinS xs 1 = 0) : ∃ r : Nat, r ≤ xs.length ∧ (rotS xs).1 = (r : Int) ∧ (rotS xs).2 = 0 := by
  have e : (rotS xs).1 = ((xs.length : Int) - spotInt (spot (circS xs) (xs.length + 1) 0)) % ((xs.length : Int) + 1) := by simp [rotS, hok]
  have h1 := Int.emod_nonneg ((xs.length : Int) - spotInt (spot (circS xs) (xs.length + 1) 0)) (show ((xs.length : Int) + 1) ≠ 0 by omega)
  have h2 := Int.emod_lt_of_pos ((xs.length : Int) - spotInt (spot (circS xs) (xs.length + 1) 0)) (show 0 < ((xs.length : Int) + 1) by omega)
  rw [← e] at h1 h2
  exact ⟨(rotS xs).1.toNat, by omega, by omega, by simp [rotS, hok]⟩
theorem cast_mod (a b : Nat) : (a : Int) % ((b : Int) + 1) = ((a % (b + 1) : Nat) : Int) := by simp
theorem back_mod {x j N : Nat} (hx : x < N) (hj : j < N) : ((x + j) % N + N - x) % N = j := by
  rcases Nat.lt_or_ge (x + j) N with h | h
  · rw [Nat.mod_eq_of_lt h, show x + j + N - x = j + N from by omega, Nat.add_mod_right, Nat.mod_eq_of_lt hj]
  · rw [show x + j = (x + j - N) + N from by omega, Nat.add_mod_right, Nat.mod_eq_of_lt (show x + j - N < N by omega), show x + j - N + N - x = j from by omega, Nat.mod_eq_of_lt hj]
theorem take_get {s : List Bool} {n k : Nat} (h : k < n) : (s.take n)[k]? = s[k]? := List.getElem?_take_of_lt h

set_option maxRecDepth 100000 in
set_option maxHeartbeats 1000000 in
theorem rfree_any (A : Option Addr) (c : Nat) (xs : List Int) (hn : xs.length ≤ 12) (h0 : ∀ x ∈ xs, 0 ≤ x ∧ x ≤ xs.length) (w : World) (h : Reads w w.heap.size 1 A xs.length (ints xs)) :
    Calls Try.prog 60 #[.slice A xs.length c] w fun e w' => e = .returned (.int .i64 (spotInt (spot (circS xs) (xs.length + 1) 0))) ∧ Below w.heap.size w w' := by
  have hmk := make_bools (xs.length + 1) (by omega)
  have e1 : ((xs.length + 1 : Nat) : Int) = (xs.length : Int) + 1 := by omega
  simp only [e1] at hmk
  have hst : bools (List.replicate (xs.length + 1) false) = bools ((circTo xs 0).take (xs.length + 1)) := by
    congr 1
    simp only [circTo, List.take_zero, List.foldl_nil, street0, List.take_replicate]
    rw [Nat.min_eq_left (by omega)]
  rw [hst] at hmk
  have hne : ((xs.length : Int) + 1 == 0) = false := by simp; omega
  have HC := Lib.hid (fun k x hx => circ_at hn h0 (k := k) (x := x) hx)
  have H0 := Lib.hid h0
  clear e1 hst h0
  go_enter Try.func60, Try.ntmps60
  go_wp2
  go_loopw [5] (fun i wr => ∃ k : Nat, k ≤ xs.length ∧ i = .int .i64 k ∧ Blk wr w.heap.size 4 (bools ((circTo xs k).take (xs.length + 1))) ∧ Below w.heap.size w wr) (fun i _ => xs.length - (intOf i).toNat)
  case atStart => exact ⟨0, by omega, rfl, Blk.new _ _ _, (Below.refl _ _).alloc (Nat.le_refl _) _⟩
  case round =>
    obtain ⟨k, hk, rfl, hs, hbel⟩ := hrel
    by_cases hlt : k < xs.length
    · have hi : (k : Int) < (xs.length : Int) := by omega
      obtain ⟨x, hx⟩ := nat_of (fun x hx => (H0.out x hx).1) hlt
      have hxn := (H0.out _ (List.mem_of_getElem? hx)).2
      obtain ⟨d, d1, d2, d3, d4⟩ := HC.out k x hx
      obtain ⟨b, off, rfl, hb, hcell⟩ := (h.below hbel).at_ (ints_at hx)
      have hx0 : (0 : Int) ≤ (x : Int) := by omega
      have HX := Lib.hid hx
      have D2 := Lib.hid d2
      have D3 := Lib.hid d3
      have D4 := Lib.hid d4
      clear hx d2 d3 d4 h
      go_wp2
      go_loop [6] (fun i => ∃ j : Nat, j ≤ d ∧ i = .int .i64 (((x + j) % (xs.length + 1) : Nat) : Int)) (fun i => d - ((intOf i).toNat + (xs.length + 1) - x) % (xs.length + 1))
      case atStart => exact ⟨0, by omega, by rw [cast_mod]; rfl⟩
      case round =>
        obtain ⟨j, hj, rfl⟩ := hrel
        have hback := back_mod (x := x) (j := j) (N := xs.length + 1) (by omega) (by omega)
        have hback2 := back_mod (x := x) (j := j + 1) (N := xs.length + 1) (by omega)
        have hpl : (x + j) % (xs.length + 1) < xs.length + 1 := Nat.mod_lt _ (by omega)
        have hadd : ((x + j) % (xs.length + 1) + 1) % (xs.length + 1) = (x + (j + 1)) % (xs.length + 1) := by rw [Nat.mod_add_mod]; congr 1
        have hcell2 := hs.cell ((x + j) % (xs.length + 1))
        have hget : (bools ((circTo xs k).take (xs.length + 1)))[(x + j) % (xs.length + 1)]? = ((circTo xs k)[(x + j) % (xs.length + 1)]?).map Value.bool := by
          simp only [bools, List.getElem?_toArray, List.getElem?_map, take_get hpl]
        rw [hget] at hcell2
        have hfr := hs.frozen ((x + j) % (xs.length + 1))
        by_cases hjd : j < d
        · rw [D3.out j hjd] at hcell2
          obtain ⟨p, hp⟩ : ∃ p, (x + j) % (xs.length + 1) = p := ⟨_, rfl⟩
          rw [hp] at hcell2 hback hpl hadd hfr ⊢
          have hpi : (p : Int) < (xs.length : Int) + 1 := by omega
          have HP := Lib.hid hp
          have HB := Lib.hid hback
          have HB2 := Lib.hid hback2
          have HA := Lib.hid hadd
          clear hp hback hback2 hadd hget
          go_wp2
          go_round
          case rel => exact ⟨j + 1, by omega, by rw [← HA.out, ← cast_mod]; rfl⟩
          case measure =>
            have e : ((p : Int) + 1) % ((xs.length : Int) + 1) = (((x + (j + 1)) % (xs.length + 1) : Nat) : Int) := by rw [← HA.out, ← cast_mod]; rfl
            simp only [intOf, e, Int.toNat_natCast]
            rw [HB2.out (by omega), HB.out]
            omega
        · obtain rfl : j = d := by omega
          rw [D2.out] at hcell2
          have hs2 := hs.set_ ((x + j) % (xs.length + 1)) (.bool true)
          rw [bools_set, ← List.take_set, ← D4.out] at hs2
          obtain ⟨p, hp⟩ : ∃ p, (x + j) % (xs.length + 1) = p := ⟨_, rfl⟩
          rw [hp] at hcell2 hpl hfr hs2 ⊢
          have hpi : (p : Int) < (xs.length : Int) + 1 := by omega
          clear hp hback hback2 hadd hget
          go_wp2
          go_roundw
          case rel => exact ⟨k + 1, by omega, by go_num, hs2, hbel.setCell (Nat.le_refl _) _⟩
          case measure => simp [intOf]; omega
    · obtain rfl : k = xs.length := by omega
      have hi : ¬ (xs.length : Int) < (xs.length : Int) := by omega
      have hSl := circTo_length xs xs.length
      rw [circTo_full] at hs hSl
      obtain ⟨S, hS⟩ : ∃ S, circS xs = S := ⟨_, rfl⟩
      rw [hS] at hs hSl
      have HS := Lib.hid hS
      clear hS
      go_wp2
      go_loop [7] (fun i => ∃ a : Nat, a ≤ xs.length + 1 ∧ i = .int .i64 a ∧ Hid (spot S (xs.length + 1) 0 = spot S (xs.length + 1) a)) (fun i => xs.length + 1 - (intOf i).toNat)
      case atStart => exact ⟨0, by omega, rfl, rfl⟩
      case round =>
        obtain ⟨a, ha, rfl, HSP⟩ := hrel
        by_cases hlt2 : a < xs.length + 1
        · have hi2 : (a : Int) < (xs.length : Int) + 1 := by omega
          obtain ⟨q, hq⟩ := get_of_lt (xs := S) (k := a) (by omega)
          have hcell2 := hs.cell a
          have hget : (bools (S.take (xs.length + 1)))[a]? = some (.bool q) := by
            simp only [bools, List.getElem?_toArray, List.getElem?_map, take_get hlt2, hq]; rfl
          rw [hget] at hcell2
          have HQ := Lib.hid hq
          clear hq hget
          cases q
          · go_wp2
            go_ret
            exact ⟨by rw [HS.out, HSP.out, spot_hit hlt2 HQ.out]; rfl, hbel⟩
          · go_wp2
            go_round
            case rel => exact ⟨a + 1, by omega, by go_num, HSP.out.trans (spot_step hlt2 HQ.out)⟩
            case measure => simp [intOf]; omega
        · have hi2 : ¬ (a : Int) < (xs.length : Int) + 1 := by omega
          go_wp2
          go_ret
          exact ⟨by rw [HS.out, HSP.out, spot_out (by omega)]; rfl, hbel⟩
end Go.Proofs.Ytjeggocindcgaaa
