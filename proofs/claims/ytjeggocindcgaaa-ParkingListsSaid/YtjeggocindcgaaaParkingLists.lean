/-
  For every int the law ParkingLists answers true: All, Count and Primitive return the results or the errors of the reference. There are no conditions.
-/
import Derived.Test.YtjeggocindcgaaaLaw
import Derived.Test.YtjeggocindcgaaaAwake
import Derived.Test.YtjeggocindcgaaaRef29c
namespace Go.Proofs.Ytjeggocindcgaaa
open Go.RowKit

theorem enum_all {n : Nat} (h1 : 1 ≤ n) (h5 : n ≤ 5) : pfl n (fun _ => 0) n [] = allR n ∧ pfl n lastOr n [] = primR n ∧ (allR n).length ≤ 16384 := by
  obtain ⟨l1, l2, l3, l4, l5⟩ := enum_len
  match n, h1, h5 with
  | 1, _, _ => exact ⟨enum1.1, enum1.2, l1⟩
  | 2, _, _ => exact ⟨enum2.1, enum2.2, l2⟩
  | 3, _, _ => exact ⟨enum3.1, enum3.2, l3⟩
  | 4, _, _ => exact ⟨enum4.1, enum4.2, l4⟩
  | 5, _, _ => exact ⟨enum5.1, enum5.2, l5⟩
theorem primR_length (n : Nat) : (primR n).length ≤ (allR n).length := List.length_filter_le _ _
theorem primR_row {n : Nat} {l : List Int} (h : l ∈ primR n) : l.length = n := allR_row (List.mem_filter.1 h).1

set_option maxRecDepth 100000 in
set_option maxHeartbeats 1000000 in
theorem parkingLists_walk (w : World) (n : Int) (_hw : (Lit.int .i64 n).wf = true) :
    Calls Try.prog 4 #[.int .i64 n] w fun e w' => e = .returned (.bool true) ∧ Below w.heap.size w w' := by
  obtain ⟨⟨a, ea⟩, hcs⟩ : ∃ p, countS n = p := ⟨_, rfl⟩
  have h1 := fun w => count_any n w
  have h2 := fun w => rcount_any n w
  rw [hcs] at h1 h2
  have H1 := Lib.hid h1
  have H2 := Lib.hid h2
  have HC := Lib.hid (rcars_any n)
  clear h1 h2
  rcases hc : carsB n with _ | _
  · have e : ea = 2 := by unfold countS at hcs; rw [hc] at hcs; simp at hcs; exact hcs.2.symm
    subst e
    have h3 := fun w => pall_bad n hc w
    have h4 := fun w => pprim_bad n hc w
    rw [hc] at HC
    have H3 := Lib.hid h3
    have H4 := Lib.hid h4
    clear h3 h4 hc hcs
    by_cases h5 : 5 < n
    · go_enter Try.func4, Try.ntmps4
      go_wp2_with (first | (go_at_call 17; refine (H1.out _).mono ?_; rintro e w' ⟨rfl, rfl⟩) | (go_at_call 18; refine (H2.out _).mono ?_; rintro e w' ⟨rfl, rfl⟩) | (go_at_call 11; refine (awake_any _).mono ?_; rintro e w1 ⟨rfl, b1⟩) | (go_at_call 19; refine (HC.out _).mono ?_; rintro e w' ⟨rfl, rfl⟩) |
        (go_at_call 20; refine (H3.out _).mono ?_; rintro e w2 ⟨rfl, b2⟩) | (go_at_call 21; refine (H4.out _).mono ?_; rintro e w3 ⟨rfl, b3⟩))
      go_ret
      have h := b1.trans (b2.mono b1.size)
      exact ⟨rfl, h.trans (b3.mono h.size)⟩
    · go_enter Try.func4, Try.ntmps4
      go_wp2_with (first | (go_at_call 17; refine (H1.out _).mono ?_; rintro e w' ⟨rfl, rfl⟩) | (go_at_call 18; refine (H2.out _).mono ?_; rintro e w' ⟨rfl, rfl⟩) | (go_at_call 11; refine (awake_any _).mono ?_; rintro e w1 ⟨rfl, b1⟩) |
        (go_at_call 20; refine (H3.out _).mono ?_; rintro e w2 ⟨rfl, b2⟩) | (go_at_call 21; refine (H4.out _).mono ?_; rintro e w3 ⟨rfl, b3⟩))
      go_ret
      have h := b1.trans (b2.mono b1.size)
      exact ⟨rfl, h.trans (b3.mono h.size)⟩
  · have e : ea = 0 := by unfold countS at hcs; rw [hc] at hcs; simp at hcs; exact hcs.2.symm
    subst e
    rw [hc] at HC
    by_cases h5 : 5 < n
    · clear hc hcs
      go_enter Try.func4, Try.ntmps4
      go_wp2_with (first | (go_at_call 17; refine (H1.out _).mono ?_; rintro e w' ⟨rfl, rfl⟩) | (go_at_call 18; refine (H2.out _).mono ?_; rintro e w' ⟨rfl, rfl⟩) | (go_at_call 11; refine (awake_any _).mono ?_; rintro e w1 ⟨rfl, b1⟩) | (go_at_call 19; refine (HC.out _).mono ?_; rintro e w' ⟨rfl, rfl⟩))
      go_ret
      exact ⟨rfl, b1⟩
    · obtain ⟨m, rfl⟩ : ∃ m : Nat, n = (m : Int) := by simp [carsB] at hc; exact ⟨n.toNat, by omega⟩
      have hle := carsB_le hc
      obtain ⟨e1, e2, e3⟩ := enum_all (n := m) (by omega) (by omega)
      have h3 := fun w => pall_any m hc (allR m) e1 e3 w
      have h4 := fun w => pprim_any m hc (primR m) e2 (Nat.le_trans (primR_length m) e3) w
      have h6 := fun w => rall_any m (by omega) (by omega) w
      have h7 := fun w => rprim_any m (by omega) (by omega) w
      have hr1 : ∀ x ∈ allR m, x.length ≤ 1048576 := fun x hx => by rw [allR_row hx]; omega
      have hr2 : ∀ x ∈ primR m, x.length ≤ 1048576 := fun x hx => by rw [primR_row hx]; omega
      have hlp := primR_length m
      obtain ⟨X, hX⟩ : ∃ X, allR m = X := ⟨_, rfl⟩
      obtain ⟨Y, hY⟩ : ∃ Y, primR m = Y := ⟨_, rfl⟩
      rw [hX] at h3 h6 hr1 e3 hlp
      rw [hY] at h4 h7 hr2 hlp
      have H3 := Lib.hid h3
      have H4 := Lib.hid h4
      have H6 := Lib.hid h6
      have H7 := Lib.hid h7
      have HR1 := Lib.hid hr1
      have HR2 := Lib.hid hr2
      clear h3 h4 h6 h7 hr1 hr2 e1 e2 hc hcs hX hY
      go_enter Try.func4, Try.ntmps4
      go_wp2_with fail
      refine (H1.out _).mono ?_
      rintro e w' ⟨rfl, rfl⟩
      go_wp2_with fail
      refine (H2.out _).mono ?_
      rintro e w' ⟨rfl, rfl⟩
      go_wp2_with fail
      refine (awake_any _).mono ?_
      rintro e w1 ⟨rfl, b1⟩
      go_wp2_with fail
      refine (H3.out _).mono ?_
      rintro e w2 ⟨A2, c2, v2, rfl, o2, b2⟩
      have hB2 := b1.trans (b2.mono b1.size)
      go_wp2_with fail
      refine (H4.out _).mono ?_
      rintro e w3 ⟨A3, c3, v3, rfl, o3, b3⟩
      have hB3 := hB2.trans (b3.mono hB2.size)
      go_wp2_with fail
      refine (H6.out _).mono ?_
      rintro e w4 ⟨A4, c4, v4, rfl, o4, b4⟩
      have hB4 := hB3.trans (b4.mono hB3.size)
      go_wp2_with fail
      refine (rsamelists_any A2 c2 X A4 c4 X (by omega) HR1.out w4 _ ((o2.next b3).next b4).reads o4.reads).mono ?_
      rintro e w5 ⟨he, m5, hw5⟩
      rw [decide_eq_true rfl] at he
      subst he
      have b5 : Below w4.heap.size w4 w5 := by rw [hw5]; exact below_drewN (Below.refl _ _) m5
      have hB5 := hB4.trans (b5.mono hB4.size)
      clear hw5
      go_wp2_with fail
      refine (H7.out _).mono ?_
      rintro e w6 ⟨A6, c6, v6, rfl, o6, b6⟩
      have hB6 := hB5.trans (b6.mono hB5.size)
      go_wp2_with fail
      refine (rsamelists_any A3 c3 Y A6 c6 Y (by omega) HR2.out w6 _ (((o3.next b4).next b5).next b6).reads o6.reads).mono ?_
      rintro e w7 ⟨he, m7, hw7⟩
      rw [decide_eq_true rfl] at he
      subst he
      have b7 : Below w6.heap.size w6 w7 := by rw [hw7]; exact below_drewN (Below.refl _ _) m7
      have hB7 := hB6.trans (b7.mono hB6.size)
      clear hw7
      go_wp2
      go_ret
      exact ⟨rfl, hB7⟩

namespace lawParkingLists
open Go.ChangeShapes Go.WideShapes Go.ChangeAt Go.RowKit
set_option linter.unusedVariables false
set_option maxRecDepth 100000 in
theorem lifted (os : Os) (started : os.Started) (H : Type) (enc : TypeId × Value → H) :
    ReturnsInHanded {} Try.checked os 4 .any (Rows.parkingListsSpec.pre6 enc Try.prog Try.f4 Rows.parkingListsRow.domain false) (Rows.parkingListsSpec.post enc Try.prog Try.f4 false true false false) := by
  refine returnsInHanded_of_change (C := Try.checked) own started (by kernel_rfl) Try.func4
    (ChangeSpec.witness6 (enc := enc) (C := Try.checked) false ⟨#[], #[.int .i64 0], []⟩ 8 (by kernel_rfl) (by kernel_rfl) (by kernel_rfl) (by kernel_rfl)) ?_
  intro W base args ds gs before hval0 hW hcnd _
  have hval : ∀ (j : Nat) t v, Try.f4.params[j]? = some t → args[j]? = some v → Value.okWide Try.prog W .any base t v := hval0
  have hW' := hW
  obtain ⟨p, q, hA0, hV, rfl, hfz, hnd⟩ := hW
  have hA : DataW.TrodAll enc Try.prog W 0 (fun _ => true) true Try.f4.params.toList args.toList ds p := hA0
  rw [Try.params4] at hA hval
  obtain ⟨v0, vs0, d0, ds0, p0, q0, hargs, rfl, rfl, h0, r0⟩ := trodAll_cons hA
  obtain ⟨rfl, rfl, rfl⟩ := trodAll_nil r0
  obtain rfl : args = #[v0] := by cases args; simp_all
  obtain ⟨rfl, rfl⟩ := trodVars_none hV
  obtain ⟨a0, rfl, rfl, rfl, w0⟩ := open_int Try.underlying3 (hval 0 3 v0 rfl rfl) h0
  clear hA0 hval0
  refine (parkingLists_walk W a0 w0).mono fun e W' ⟨he, bel⟩ => ?_
  subst he
  exact ⟨_, rfl, _, _, _, [], _, [], hW', trodAll_mk1 (shut_bool Try.underlying4 _), (trodAll_cons_mk (shut_int Try.underlying3 w0) trodAll_mk0), rfl, bel.frame _, fun h => by cases h⟩

theorem over : Rows.parkingListsRow.holds Try.pinned (OpenSpec.ofChange Rows.parkingListsSpec) :=
  OpenClaim.holds_of_wide 4 Try.f4 rfl rfl rfl rfl rfl rfl rfl ⟨rfl, rfl, rfl, rfl, rfl⟩ rfl rfl rfl rfl rfl (by kernel_rfl) Try.func4 (by kernel_rfl)
    (of_decide_eq_true (by kernel_rfl)) (by unfold Func.isWrapper; first | (rw [if_pos (by decide +kernel)]; kernel_rfl) | (rw [if_neg (by decide +kernel)]; exact ⟨rfl, rfl⟩))
    (fun os started H enc _ => lifted os started H enc)

/-- All, Count and Primitive agree with the reference, for every int. -/
theorem proved : Rows.ParkingListsSaid := over
#print axioms proved
end lawParkingLists
end Go.Proofs.Ytjeggocindcgaaa
