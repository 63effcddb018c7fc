/-
  For every list of ints the law ParkingParks answers true: Check, Park and Is return the results or the errors of the reference. There are no conditions.
-/
import Derived.Test.YtjeggocindcgaaaLaw
import Derived.Test.YtjeggocindcgaaaAwake
import Derived.Test.YtjeggocindcgaaaPlain29
import Derived.Test.YtjeggocindcgaaaRef29b
namespace Go.Proofs.Ytjeggocindcgaaa
open Go.RowKit

set_option maxRecDepth 100000 in
set_option maxHeartbeats 1000000 in
theorem parkingParks_walk (w : World) (A : Option Addr) (c : Nat) (xs : List Int) (hm : xs.length ≤ maxLen) (_hw : ∀ x ∈ xs, (Lit.int .i64 x).wf = true) (h : Reads w w.heap.size 1 A xs.length (ints xs)) :
    Calls Try.prog 5 #[.slice A xs.length c] w fun e w' => e = .returned (.bool true) ∧ Below w.heap.size w w' := by
  unfold maxLen at hm
  by_cases hl : 60 < xs.length
  · have hd : decide ((60 : Int) < (xs.length : Int)) = true := by simp; omega
    go_enter Try.func5, Try.ntmps5
    go_wp2_with (go_at_call 11; refine (awake_any _).mono ?_; rintro e w' ⟨rfl, hb⟩)
    go_ret
    exact ⟨rfl, hb⟩
  · have hd : decide ((60 : Int) < (xs.length : Int)) = false := by simp; omega
    by_cases hok : withinS xs 0 = 0
    · obtain ⟨hn, hx⟩ := within_zero hok
      have hpi := parked_iff (xs := xs) (by omega) (fun x hx' => by have := hx x hx'; omega)
      have H1 := Lib.hid (by have := rcheck_any A c xs w h; rw [hok] at this; exact this)
      have h2 := park_ok A c xs hok w h
      have h3 : ∀ w1, Below w.heap.size w w1 → _ := fun w1 hb => is_ok A c xs hok w1 (h.next hb)
      have h4 : ∀ w1, Below w.heap.size w w1 → _ := fun w1 hb => check_ok A c xs w1 (h.next hb) hok
      have h5 : ∀ w1, Below w.heap.size w w1 → _ := fun w1 hb => rparked_any A c xs (by omega) (fun x hx' => by have := hx x hx'; omega) w1 (h.next hb)
      have h6 : ∀ w1, Below w.heap.size w w1 → _ := fun w1 hb => ris_any A c xs (by omega) w1 (h.next hb)
      have hdi : decide ((parkedS xs).length = xs.length) = isR xs := by
        rw [Bool.eq_iff_iff]; simp [hpi]
      rw [hdi] at h3
      have hle := parkedS_length xs
      obtain ⟨l, hpl⟩ : ∃ l, parkedS xs = l := ⟨_, rfl⟩
      obtain ⟨b, hbb⟩ : ∃ b, isR xs = b := ⟨_, rfl⟩
      rw [hpl] at h2 h5 hle
      rw [hbb] at h3 h6
      have H2 := Lib.hid h2
      have H3 := Lib.hid h3
      have H4 := Lib.hid h4
      have H5 := Lib.hid h5
      have H6 := Lib.hid h6
      clear h2 h3 h4 h5 h6 hdi hpl hbb hpi hok hx
      go_enter Try.func5, Try.ntmps5
      go_wp2_with fail
      refine (H1.out).mono ?_
      rintro e w' ⟨rfl, rfl⟩
      go_wp2_with fail
      refine (H2.out).mono ?_
      rintro e w2 ⟨A2, c2, rfl, o2, b2⟩
      go_wp2_with fail
      refine (H3.out w2 b2).mono ?_
      rintro e w3 ⟨rfl, b3⟩
      have hB3 := b2.trans (b3.mono b2.size)
      go_wp2_with fail
      refine (awake_any w3).mono ?_
      rintro e w4 ⟨rfl, b4⟩
      have hB4 := hB3.trans (b4.mono hB3.size)
      go_wp2_with fail
      refine (H4.out w4 hB4).mono ?_
      rintro e w' ⟨rfl, rfl⟩
      go_wp2_with fail
      refine (H5.out w4 hB4).mono ?_
      rintro e w5 ⟨A5, c5, rfl, o5, b5⟩
      have hB5 := hB4.trans (b5.mono hB4.size)
      have r2 := (((o2.next b3).next b4).next b5).reads
      go_wp2_with fail
      refine (equal_any A2 c2 l A5 c5 l (by omega) w5 r2 o5.reads).mono ?_
      rintro e w6 ⟨he, b6⟩
      rw [decide_eq_true rfl] at he
      subst he
      have hB6 := hB5.trans (b6.mono hB5.size)
      go_wp2_with fail
      refine (H6.out w6 hB6).mono ?_
      rintro e w' ⟨rfl, rfl⟩
      go_wp2
      go_ret
      exact ⟨rfl, hB6⟩
    · have hbad : (withinS xs 0 != 0) = true := by simpa using hok
      have H1 := Lib.hid (rcheck_any A c xs w h)
      have H2 := Lib.hid (park_bad A c xs hbad w h)
      have H3 := Lib.hid (is_bad A c xs hbad w h)
      have h4 : ∀ w1, Below w.heap.size w w1 → _ := fun w1 hb => check_any A c xs w1 (h.next hb)
      have H4 := Lib.hid h4
      clear h4 hok
      go_enter Try.func5, Try.ntmps5
      go_wp2_with fail
      refine (H1.out).mono ?_
      rintro e w' ⟨rfl, rfl⟩
      go_wp2_with fail
      refine (H2.out).mono ?_
      rintro e w' ⟨rfl, rfl⟩
      go_wp2_with fail
      refine (H3.out).mono ?_
      rintro e w' ⟨rfl, rfl⟩
      go_wp2_with fail
      refine (awake_any w).mono ?_
      rintro e w4 ⟨rfl, b4⟩
      go_wp2_with fail
      refine (H4.out w4 b4).mono ?_
      rintro e w' ⟨rfl, rfl⟩
      go_wp2
      go_ret
      exact ⟨rfl, b4⟩

namespace lawParkingParks
open Go.ChangeShapes Go.WideShapes Go.ChangeAt Go.RowKit
set_option linter.unusedVariables false
set_option maxRecDepth 100000 in
theorem lifted (os : Os) (started : os.Started) (H : Type) (enc : TypeId × Value → H) :
    ReturnsInHanded {} Try.checked os 5 .any (Rows.parkingParksSpec.pre6 enc Try.prog Try.f5 Rows.parkingParksRow.domain false) (Rows.parkingParksSpec.post enc Try.prog Try.f5 false true false false) := by
  refine returnsInHanded_of_change (C := Try.checked) own started (by kernel_rfl) Try.func5
    (ChangeSpec.witness6 (enc := enc) (C := Try.checked) false ⟨#[], #[.slice none 0 0], []⟩ 8 (by kernel_rfl) (by kernel_rfl) (by kernel_rfl) (by kernel_rfl)) ?_
  intro W base args ds gs before hval0 hW hcnd _
  have hval : ∀ (j : Nat) t v, Try.f5.params[j]? = some t → args[j]? = some v → Value.okWide Try.prog W .any base t v := hval0
  have hW' := hW
  obtain ⟨p, q, hA0, hV, rfl, hfz, hnd⟩ := hW
  have hA : DataW.TrodAll enc Try.prog W 0 (fun _ => true) true Try.f5.params.toList args.toList ds p := hA0
  rw [Try.params5] at hA hval
  obtain ⟨v0, vs0, d0, ds0, p0, q0, hargs, rfl, rfl, h0, r0⟩ := trodAll_cons hA
  obtain ⟨rfl, rfl, rfl⟩ := trodAll_nil r0
  obtain rfl : args = #[v0] := by cases args; simp_all
  obtain ⟨rfl, rfl⟩ := trodVars_none hV
  obtain ⟨a0, len0, cap0, rfl⟩ := okWide_slice Try.underlying22 (hval 0 22 v0 rfl rfl)
  have k0 := h0
  have lt0 : ∀ x ∈ p0, x.block < W.heap.size := by obtain ⟨m, hm⟩ := k0; exact DataW.trod_lt m _ _ _ hm
  obtain ⟨z0, w0⟩ : ∃ zs, IsRow .i64 W a0 len0 cap0 zs := by
    obtain ⟨fuel, hf⟩ := h0
    rcases open_ints Try.underlying22 Try.underlying3 (by kernel_rfl) hf with ⟨hcs, _⟩ | ⟨x, l, c, zs, hcs, _, hl, hm, hz, _, hcell, hwz⟩
    · simp [Value.cells] at hcs
      obtain ⟨rfl, rfl, rfl⟩ := hcs
      exact ⟨[], .inl ⟨rfl, rfl, rfl, rfl⟩⟩
    · simp [Value.cells] at hcs
      obtain ⟨rfl, rfl, rfl⟩ := hcs
      exact ⟨zs, .inr ⟨_, rfl, hl, hm, by simpa using hz, hcell, hwz⟩⟩
  obtain ⟨xs0, rfl, hm0, hr0, hw0⟩ := w0.reads
  clear hA0 hval0
  refine (parkingParks_walk W a0 cap0 xs0 hm0 hw0 hr0).mono fun e W' ⟨he, bel⟩ => ?_
  subst he
  exact ⟨_, rfl, _, _, _, [], _, [], hW', trodAll_mk1 (shut_bool Try.underlying4 _), (trodAll_cons_mk (Below.trod laidOut (by kernel_rfl) (of_decide_eq_true (by kernel_rfl)) k0 bel lt0) trodAll_mk0), rfl, bel.frame _, fun h => by cases h⟩

theorem over : Rows.parkingParksRow.holds Try.pinned (OpenSpec.ofChange Rows.parkingParksSpec) :=
  OpenClaim.holds_of_wide 5 Try.f5 rfl rfl rfl rfl rfl rfl rfl ⟨rfl, rfl, rfl, rfl, rfl⟩ rfl rfl rfl rfl rfl (by kernel_rfl) Try.func5 (by kernel_rfl)
    (of_decide_eq_true (by kernel_rfl)) (by unfold Func.isWrapper; first | (rw [if_pos (by decide +kernel)]; kernel_rfl) | (rw [if_neg (by decide +kernel)]; exact ⟨rfl, rfl⟩))
    (fun os started H enc _ => lifted os started H enc)

/-- Check, Park and Is agree with the reference, for every list. -/
theorem proved : Rows.ParkingParksSaid := over
#print axioms proved
end lawParkingParks
end Go.Proofs.Ytjeggocindcgaaa
