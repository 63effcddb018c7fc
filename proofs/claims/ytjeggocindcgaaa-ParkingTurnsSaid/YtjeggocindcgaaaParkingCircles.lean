/-
  For every list of ints the law ParkingCircles answers true: of all rotations of a list from 0 to n, just the one that is told is a parking function. There are no conditions.
-/
import Derived.Test.YtjeggocindcgaaaLaw
import Derived.Test.YtjeggocindcgaaaAwake
import Derived.Test.YtjeggocindcgaaaCirc
import Derived.Test.YtjeggocindcgaaaRef29
import Derived.Test.YtjeggocindcgaaaPlain29b
namespace Go.Proofs.Ytjeggocindcgaaa
open Go.RowKit

/-- The list turned, in ints. -/
def turnI (xs : List Int) (t : Int) : List Int := xs.map fun x => (x + t) % ((xs.length : Int) + 1)
theorem turnI_nat (xs : List Nat) (t : Nat) : turnI (xs.map Int.ofNat) t = (turnL xs t).map Int.ofNat := by
  unfold turnI turnL
  rw [List.map_map, List.map_map]
  apply List.map_congr_left
  intro x _
  simp
theorem nats_of {xs : List Int} (h : ∀ x ∈ xs, 0 ≤ x) : ∃ ys : List Nat, xs = ys.map Int.ofNat :=
  ⟨xs.map Int.toNat, by
    rw [List.map_map]
    conv => lhs; rw [← List.map_id xs]
    apply List.map_congr_left
    intro x hx
    have := h x hx
    simp; omega⟩
/-- The law of the circle, over ints. -/
theorem circle_int {xs : List Int} (h1 : 1 ≤ xs.length) (hn : xs.length ≤ 11) (hx : ∀ x ∈ xs, 0 ≤ x ∧ x ≤ xs.length) {t : Nat} (ht : t ≤ xs.length) :
    ((xs.length : Int) ∈ turnI xs t → withinS (turnI xs t) 0 = 2 ∧ ¬ (t : Int) = (rotS xs).1) ∧
    (¬ (xs.length : Int) ∈ turnI xs t → withinS (turnI xs t) 0 = 0 ∧ ((parkedS (turnI xs t)).length = (turnI xs t).length ↔ (t : Int) = (rotS xs).1)) := by
  obtain ⟨ys, rfl⟩ := nats_of fun x h => (hx x h).1
  rw [List.length_map] at *
  have hy : ∀ y ∈ ys, y ≤ ys.length := fun y h => by have := (hx (Int.ofNat y) (List.mem_map.2 ⟨y, h, rfl⟩)).2; simp at this; omega
  have hlaw := circle_law ys hn hy t ht
  have hlen : (turnL ys t).length = ys.length := turnL_length ys t
  have hlen2 : (turnI (ys.map Int.ofNat) t).length = ys.length := by rw [turnI_nat, List.length_map, hlen]
  have hcars : carsB ((turnI (ys.map Int.ofNat) t).length : Int) = true := by rw [hlen2]; simp [carsB]; omega
  have hok1 : withinS (ys.map Int.ofNat) 1 = 0 := by
    unfold withinS
    rw [List.length_map, if_pos (by simp [carsB]; omega), if_pos]
    rw [List.all_eq_true]
    intro x hx'
    have := hx x hx'
    simp [inB]; omega
  have hrot : (rotS (ys.map Int.ofNat)).1 = ((ys.length : Int) - spotInt (spot (circS (ys.map Int.ofNat)) (ys.length + 1) 0)) % ((ys.length : Int) + 1) := by
    unfold rotS; rw [if_pos hok1, List.length_map]
  rw [hrot]
  rw [turnI_nat] at hlen2 hcars ⊢
  have hmem : ∀ z ∈ (turnL ys t).map Int.ofNat, 0 ≤ z ∧ z ≤ ys.length := by
    intro z hz
    obtain ⟨q, hq, rfl⟩ := List.mem_map.1 hz
    unfold turnL at hq
    obtain ⟨x, _, rfl⟩ := List.mem_map.1 hq
    have := Nat.mod_lt (x + t) (show 0 < ys.length + 1 by omega)
    exact ⟨Int.natCast_nonneg _, by show (((x + t) % (ys.length + 1) : Nat) : Int) ≤ _; omega⟩
  constructor
  · intro hin
    refine ⟨within_bad (k := ((turnL ys t).map Int.ofNat).idxOf (ys.length : Int)) (x := (ys.length : Int)) hcars ?_ ?_, fun h => ?_⟩
    · rw [List.getElem?_eq_getElem (List.idxOf_lt_length_iff.2 hin), List.getElem_idxOf]
    · rw [hlen2]; simp [inB]
    · have h2 := (hlaw.2 h).1
      obtain ⟨q, hq, e⟩ := List.mem_map.1 hin
      have := h2 q hq
      simp at e
      omega
  · intro hin
    have hlt : ∀ q ∈ turnL ys t, q < ys.length := fun q hq => by
      have h1 := (hmem (Int.ofNat q) (List.mem_map.2 ⟨q, hq, rfl⟩)).2
      have h2 : ¬ (q : Int) = ys.length := fun e => hin (List.mem_map.2 ⟨q, hq, e⟩)
      simp at h1
      omega
    refine ⟨?_, ?_⟩
    · unfold withinS
      rw [if_pos hcars, if_pos]
      rw [List.all_eq_true]
      intro z hz
      obtain ⟨q, hq, rfl⟩ := List.mem_map.1 hz
      have := hlt q hq
      rw [hlen2]
      simp [inB]; omega
    · rw [hlen2, ← hlaw]
      exact ⟨fun h => ⟨hlt, h⟩, fun h => h.2⟩
def turnTo (xs : List Int) (t : Int) (k : Nat) : List Int := (xs.take k).map fun x => (x + t) % ((xs.length : Int) + 1)
theorem turnTo_step {xs : List Int} {t x : Int} {k : Nat} (h : xs[k]? = some x) : turnTo xs t (k + 1) = turnTo xs t k ++ [(x + t) % ((xs.length : Int) + 1)] := by simp [turnTo, take_snoc h]
theorem turnTo_full (xs : List Int) (t : Int) : turnTo xs t xs.length = turnI xs t := by simp [turnTo, turnI]
theorem turnTo_length (xs : List Int) (t : Int) (k : Nat) : (turnTo xs t k).length ≤ k := by simp [turnTo]; omega
theorem turnI_length (xs : List Int) (t : Int) : (turnI xs t).length = xs.length := by simp [turnI]

set_option maxRecDepth 100000 in
set_option maxHeartbeats 2000000 in
theorem circles_in (w : World) (A : Option Addr) (c : Nat) (xs : List Int) (h1 : 1 ≤ xs.length) (h11 : xs.length ≤ 11) (hx : ∀ x ∈ xs, 0 ≤ x ∧ x ≤ xs.length) (h : Reads w w.heap.size 1 A xs.length (ints xs)) :
    Calls Try.prog 7 #[.slice A xs.length c] w fun e w' => e = .returned (.bool true) ∧ Below w.heap.size w w' := by
  have hmin : ¬ minL xs < 0 := fun e => by obtain ⟨y, hy, e⟩ := minL_neg.1 e; have := hx y hy; omega
  have hmax : ¬ (xs.length : Int) < maxL xs := fun e => by obtain ⟨y, hy, e⟩ := (maxL_gt (by omega)).1 e; have := hx y hy; omega
  have hok : withinS xs 1 = 0 := by
    unfold withinS
    rw [if_pos (by simp [carsB]; omega), if_pos]
    rw [List.all_eq_true]
    intro x hx'
    have := hx x hx'
    simp [inB]; omega
  have hcars : carsB xs.length = true := by simp [carsB]; omega
  have hc := fun w => rcars_any (xs.length : Int) w
  rw [hcars] at hc
  have HC := Lib.hid hc
  have hrot := rotation_any A c xs w h
  have hr2 : (rotS xs).2 = 0 := by simp [rotS, hok]
  have hlaw := fun t ht => circle_int h1 h11 hx (t := t) ht
  obtain ⟨K, hK⟩ : ∃ K, (rotS xs).1 = K := ⟨_, rfl⟩
  rw [hr2, hK] at hrot
  rw [hK] at hlaw
  have HR := Lib.hid hrot
  have HLAW := Lib.hid hlaw
  have HX := Lib.hid hx
  have Hmin := Lib.hid (min_any A c xs h1 (by omega) w h)
  have Hmax := Lib.hid (max_any A c xs h1 (by omega) w h)
  have hmin2 : decide (minL xs < 0) = false := decide_eq_false hmin
  have hmax2 : decide ((xs.length : Int) < maxL xs) = false := decide_eq_false hmax
  generalize minL xs = mi at *
  generalize maxL xs = ma at *
  clear hc hcars hrot hr2 hlaw hK hok hx
  go_enter Try.func7, Try.ntmps7
  go_wp2_with (first | (go_at_call 19; refine (HC.out _).mono ?_; rintro e w' ⟨rfl, rfl⟩) | (go_at_call 37; refine (Hmin.out).mono ?_; rintro e w' ⟨rfl, rfl⟩) | (go_at_call 38; refine (Hmax.out).mono ?_; rintro e w' ⟨rfl, rfl⟩) |
    (go_at_call 31; refine (HR.out).mono ?_; rintro e w1 ⟨rfl, b1⟩))
  go_loopw [38] (fun i wr => ∃ t : Nat, t ≤ xs.length + 1 ∧ i = .int .i64 t ∧ Below w.heap.size w wr) (fun i _ => xs.length + 1 - (intOf i).toNat)
  case atStart => exact ⟨0, by omega, rfl, b1⟩
  case round =>
    obtain ⟨t, ht, rfl, hbel⟩ := hrel
    obtain ⟨wo, rfl⟩ : ∃ wo : World, wo = wr := ⟨_, rfl⟩
    by_cases hlt : t < xs.length + 1
    · have hd39 : decide ((t : Int) < (xs.length : Int) + 1) = true := decide_eq_true (by omega)
      go_wp2
      go_loopw [6, 43] (fun v i wr => ∃ (k : Nat) (A' : Option Addr) (c' : Nat), k ≤ xs.length ∧ i = .int .i64 k ∧ v = .slice A' (turnTo xs t k).length c' ∧ OwnI wr w.heap.size A' c' (turnTo xs t k) ∧ Below w.heap.size w wr) (fun _ i _ => xs.length - (intOf i).toNat)
      case atStart => exact ⟨0, none, 0, by omega, rfl, rfl, OwnI.nil_ _ _, hbel⟩
      case round =>
        obtain ⟨k, A', c', hk, rfl, rfl, hown, hbl⟩ := hrel
        by_cases hkl : k < xs.length
        · obtain ⟨x, hx⟩ := get_of_lt hkl
          obtain ⟨hx0, hxn⟩ := HX.out x (List.mem_of_getElem? hx)
          have HS := Lib.hid (turnTo_step (t := (t : Int)) hx)
          have hl := turnTo_length xs t k
          obtain ⟨b, off, rfl, hb, hcell⟩ := (h.below hbl).at_ (ints_at hx)
          clear hx h
          go_wp2_with (at_builtin; refine push_int rfl (.tmp 47) (.tmp 55) _ rfl Try.underlying22 w.heap.size A' c' (turnTo xs t k) ((x + t) % ((xs.length : Int) + 1)) rfl hown rfl rfl (by omega) hbl.size ?_; intro A2 c2 w2 hown2 hg2 hb2)
          go_roundw
          case rel => exact ⟨k + 1, A2, c2, by omega, by go_num, by rw [HS.out]; simp, by rw [HS.out]; exact hown2, hbl.trans hb2⟩
          case measure => simp [intOf]; omega
        · obtain rfl : k = xs.length := by omega
          have htl := turnI_length xs t
          have hlw := HLAW.out t (by omega)
          rw [turnTo_full] at hown ⊢
          obtain ⟨l, hll⟩ : ∃ l, turnI xs t = l := ⟨_, rfl⟩
          rw [hll] at hown htl hlw ⊢
          have hrl := hown.reads
          have HC2 := Lib.hid (contains_any A' c' l (xs.length : Int) (by omega))
          have HTL := Lib.hid htl
          clear htl hll
          by_cases hin : (xs.length : Int) ∈ l
          · obtain ⟨hw2, hk2⟩ := hlw.1 hin
            have hbad : (withinS l 0 != 0) = true := by rw [hw2]; rfl
            have hib := fun w1 hb => is_bad A' c' l hbad w1 (hrl.next (w' := w1) hb)
            rw [hw2] at hib
            have hcb := fun w1 (hb : Below wr.heap.size wr w1) => HC2.out w1 (hrl.next hb)
            rw [decide_eq_true hin] at hcb
            have HIB := Lib.hid hib
            have HCB := Lib.hid hcb
            have hkb : ((t : Int) == K) = false := by simpa using hk2
            clear hib hcb hlw hin hw2 hk2 hbad
            go_wp2_with fail
            refine (HIB.out wr (Below.refl _ _)).mono ?_
            rintro e w' ⟨rfl, rfl⟩
            go_wp2_with fail
            refine (HCB.out wr (Below.refl _ _)).mono ?_
            rintro e w' ⟨rfl, rfl⟩
            go_wp2
            go_roundw
            case rel => exact ⟨t + 1, by omega, by go_num, hbl⟩
            case measure => simp [intOf]; omega
          · obtain ⟨hw2, hk2⟩ := hlw.2 hin
            have hib := is_ok A' c' l hw2 wr hrl
            have hdec : decide ((parkedS l).length = l.length) = ((t : Int) == K) := by rw [Bool.eq_iff_iff]; simp [hk2]
            rw [hdec] at hib
            have hcb := fun w1 (hb : Below wr.heap.size wr w1) => HC2.out w1 (hrl.next hb)
            rw [decide_eq_false hin] at hcb
            have HIB := Lib.hid hib
            have HCB := Lib.hid hcb
            clear hib hcb hlw hin hw2 hk2 hdec
            rcases hkb : ((t : Int) == K) with _ | _
            all_goals
              go_wp2_with fail
              refine (HIB.out).mono ?_
              rintro e w2 ⟨rfl, b2⟩
              go_wp2_with fail
              refine (HCB.out w2 b2).mono ?_
              rintro e w' ⟨rfl, rfl⟩
              go_wp2
              go_roundw
              case rel => exact ⟨t + 1, by omega, by go_num, hbl.trans (b2.mono hbl.size)⟩
              case measure => simp [intOf]; omega
    · go_wp2_with (go_at_call 11; refine (awake_any _).mono ?_; rintro e w9 ⟨rfl, b9⟩)
      go_ret
      exact ⟨rfl, hbel.trans (b9.mono hbel.size)⟩

set_option maxRecDepth 100000 in
set_option maxHeartbeats 1000000 in
theorem parkingCircles_walk (w : World) (A : Option Addr) (c : Nat) (xs : List Int) (_hm : xs.length ≤ maxLen) (_hw : ∀ x ∈ xs, (Lit.int .i64 x).wf = true) (h : Reads w w.heap.size 1 A xs.length (ints xs)) :
    Calls Try.prog 7 #[.slice A xs.length c] w fun e w' => e = .returned (.bool true) ∧ Below w.heap.size w w' := by
  rcases hcars : carsB xs.length with _ | _
  · have hc := fun w => rcars_any (xs.length : Int) w
    rw [hcars] at hc
    have HC := Lib.hid hc
    clear hc hcars
    go_enter Try.func7, Try.ntmps7
    go_wp2_with (first | (go_at_call 19; refine (HC.out _).mono ?_; rintro e w' ⟨rfl, rfl⟩) | (go_at_call 11; refine (awake_any _).mono ?_; rintro e w9 ⟨rfl, b9⟩))
    go_ret
    exact ⟨rfl, b9⟩
  · obtain ⟨h1, h12⟩ := carsB_le hcars
    by_cases hneg : minL xs < 0
    · have hc := fun w => rcars_any (xs.length : Int) w
      rw [hcars] at hc
      have HC := Lib.hid hc
      have Hmin := Lib.hid (min_any A c xs h1 (by omega) w h)
      have hmin2 : decide (minL xs < 0) = true := decide_eq_true hneg
      generalize minL xs = mi at *
      clear hc hcars
      go_enter Try.func7, Try.ntmps7
      go_wp2_with (first | (go_at_call 19; refine (HC.out _).mono ?_; rintro e w' ⟨rfl, rfl⟩) | (go_at_call 37; refine (Hmin.out).mono ?_; rintro e w' ⟨rfl, rfl⟩) | (go_at_call 11; refine (awake_any _).mono ?_; rintro e w9 ⟨rfl, b9⟩))
      go_ret
      exact ⟨rfl, b9⟩
    · by_cases hbig : (xs.length : Int) < maxL xs
      · have hc := fun w => rcars_any (xs.length : Int) w
        rw [hcars] at hc
        have HC := Lib.hid hc
        have Hmin := Lib.hid (min_any A c xs h1 (by omega) w h)
        have Hmax := Lib.hid (max_any A c xs h1 (by omega) w h)
        have hmin2 : decide (minL xs < 0) = false := decide_eq_false hneg
        have hmax2 : decide ((xs.length : Int) < maxL xs) = true := decide_eq_true hbig
        generalize minL xs = mi at *
        generalize maxL xs = ma at *
        clear hc hcars
        go_enter Try.func7, Try.ntmps7
        go_wp2_with (first | (go_at_call 19; refine (HC.out _).mono ?_; rintro e w' ⟨rfl, rfl⟩) | (go_at_call 37; refine (Hmin.out).mono ?_; rintro e w' ⟨rfl, rfl⟩) | (go_at_call 38; refine (Hmax.out).mono ?_; rintro e w' ⟨rfl, rfl⟩) | (go_at_call 11; refine (awake_any _).mono ?_; rintro e w9 ⟨rfl, b9⟩))
        go_ret
        exact ⟨rfl, b9⟩
      · refine circles_in w A c xs h1 (by omega) (fun x hx => ⟨?_, ?_⟩) h
        · rcases Decidable.em (x < 0) with hlt | hge
          · exact absurd (minL_neg.2 ⟨x, hx, hlt⟩) hneg
          · omega
        · rcases Decidable.em ((xs.length : Int) < x) with hlt | hge
          · exact absurd ((maxL_gt (by omega)).2 ⟨x, hx, hlt⟩) hbig
          · omega

namespace lawParkingCircles
open Go.ChangeShapes Go.WideShapes Go.ChangeAt Go.RowKit
set_option linter.unusedVariables false
set_option maxRecDepth 100000 in
theorem lifted (os : Os) (started : os.Started) (H : Type) (enc : TypeId × Value → H) :
    ReturnsInHanded {} Try.checked os 7 .any (Rows.parkingCirclesSpec.pre6 enc Try.prog Try.f7 Rows.parkingCirclesRow.domain false) (Rows.parkingCirclesSpec.post enc Try.prog Try.f7 false true false false) := by
  refine returnsInHanded_of_change (C := Try.checked) own started (by kernel_rfl) Try.func7
    (ChangeSpec.witness6 (enc := enc) (C := Try.checked) false ⟨#[], #[.slice none 0 0], []⟩ 8 (by kernel_rfl) (by kernel_rfl) (by kernel_rfl) (by kernel_rfl)) ?_
  intro W base args ds gs before hval0 hW hcnd _
  have hval : ∀ (j : Nat) t v, Try.f7.params[j]? = some t → args[j]? = some v → Value.okWide Try.prog W .any base t v := hval0
  have hW' := hW
  obtain ⟨p, q, hA0, hV, rfl, hfz, hnd⟩ := hW
  have hA : DataW.TrodAll enc Try.prog W 0 (fun _ => true) true Try.f7.params.toList args.toList ds p := hA0
  rw [Try.params7] at hA hval
  obtain ⟨v0, vs0, d0, ds0, p0, q0, hargs, rfl, rfl, h0, r0⟩ := trodAll_cons hA
  obtain ⟨rfl, rfl, rfl⟩ := trodAll_nil r0
  obtain rfl : args = #[v0] := by cases args; simp_all
  obtain ⟨rfl, rfl⟩ := trodVars_none hV
  obtain ⟨a0, len0, cap0, rfl⟩ := okWide_slice Try.underlying22 (hval 0 22 v0 rfl rfl)
  have k0 := h0
  have lt0 : ∀ x ∈ p0, x.block < W.heap.size := by obtain ⟨m, hm⟩ := k0; exact DataW.trod_lt m _ _ _ hm
  obtain ⟨z0, w0⟩ : ∃ zs, IsRow .i64 W a0 len0 cap0 zs := by
    obtain ⟨fuel, hf⟩ := h0
    rcases open_ints Try.underlying22 Try.underlying3 (by kernel_rfl) hf with ⟨hcs, _⟩ | ⟨x, l, c, zs, hcs, _, hl, hm, hz, _, hcell, hwz⟩
    · simp [Value.cells] at hcs
      obtain ⟨rfl, rfl, rfl⟩ := hcs
      exact ⟨[], .inl ⟨rfl, rfl, rfl, rfl⟩⟩
    · simp [Value.cells] at hcs
      obtain ⟨rfl, rfl, rfl⟩ := hcs
      exact ⟨zs, .inr ⟨_, rfl, hl, hm, by simpa using hz, hcell, hwz⟩⟩
  obtain ⟨xs0, rfl, hm0, hr0, hw0⟩ := w0.reads
  clear hA0 hval0
  refine (parkingCircles_walk W a0 cap0 xs0 hm0 hw0 hr0).mono fun e W' ⟨he, bel⟩ => ?_
  subst he
  exact ⟨_, rfl, _, _, _, [], _, [], hW', trodAll_mk1 (shut_bool Try.underlying4 _), (trodAll_cons_mk (Below.trod laidOut (by kernel_rfl) (of_decide_eq_true (by kernel_rfl)) k0 bel lt0) trodAll_mk0), rfl, bel.frame _, fun h => by cases h⟩

theorem over : Rows.parkingCirclesRow.holds Try.pinned (OpenSpec.ofChange Rows.parkingCirclesSpec) :=
  OpenClaim.holds_of_wide 7 Try.f7 rfl rfl rfl rfl rfl rfl rfl ⟨rfl, rfl, rfl, rfl, rfl⟩ rfl rfl rfl rfl rfl (by kernel_rfl) Try.func7 (by kernel_rfl)
    (of_decide_eq_true (by kernel_rfl)) (by unfold Func.isWrapper; first | (rw [if_pos (by decide +kernel)]; kernel_rfl) | (rw [if_neg (by decide +kernel)]; exact ⟨rfl, rfl⟩))
    (fun os started H enc _ => lifted os started H enc)

/-- Just the rotation that is told is a parking function, for every list. -/
theorem proved : Rows.ParkingCirclesSaid := over
#print axioms proved
end lawParkingCircles
end Go.Proofs.Ytjeggocindcgaaa
