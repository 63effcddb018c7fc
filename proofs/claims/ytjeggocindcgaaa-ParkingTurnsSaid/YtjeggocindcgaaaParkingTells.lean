/-
  For every list of ints the law ParkingTells answers true: Lucky and Displacement return the results or the errors of the reference. There are no conditions.
-/
import Derived.Test.YtjeggocindcgaaaLaw
import Derived.Test.YtjeggocindcgaaaAwake
import Derived.Test.YtjeggocindcgaaaPlain29
import Derived.Test.YtjeggocindcgaaaRef29b
namespace Go.Proofs.Ytjeggocindcgaaa
open Go.RowKit

theorem given_parked {xs : List Int} (h : givenR xs = 0) : (parkedS xs).length = xs.length := by
  have hok := givenR_zero h
  obtain ⟨hn, hx⟩ := within_zero hok
  refine (parked_iff (by omega) (fun x hx' => by have := hx x hx'; omega)).2 ?_
  unfold givenR at h
  rw [if_pos hok] at h
  by_cases hi : isR xs = true
  · exact hi
  · rw [if_neg hi] at h; cases h
theorem taken_given (xs : List Int) : takenS xs = if givenR xs = 0 then (parkedS xs, 0) else ([], givenR xs) := by
  unfold takenS givenR
  by_cases hok : withinS xs 0 = 0
  · obtain ⟨hn, hx⟩ := within_zero hok
    have hp := parked_iff (xs := xs) (by omega) (fun x hx' => by have := hx x hx'; omega)
    rw [if_pos hok, if_pos hok]
    by_cases hi : isR xs = true
    · rw [if_pos (hp.2 hi), if_pos hi, if_pos rfl]
    · rw [if_neg (fun h => hi (hp.1 h)), if_neg hi, if_neg (by decide)]
  · rw [if_neg hok, if_neg hok, if_neg hok]
theorem lucky_eq (xs : List Int) : luckyS xs = rluckyS xs := by
  unfold luckyS rluckyS
  rw [taken_given]
  by_cases h : givenR xs = 0 <;> simp [h]
theorem disp_eq (xs : List Int) : dispS xs = rdispS xs := by
  unfold dispS rdispS
  rw [taken_given]
  by_cases h : givenR xs = 0 <;> simp [h]

set_option maxRecDepth 100000 in
set_option maxHeartbeats 1000000 in
theorem parkingTells_walk (w : World) (A : Option Addr) (c : Nat) (xs : List Int) (hm : xs.length ≤ maxLen) (_hw : ∀ x ∈ xs, (Lit.int .i64 x).wf = true) (h : Reads w w.heap.size 1 A xs.length (ints xs)) :
    Calls Try.prog 3 #[.slice A xs.length c] w fun e w' => e = .returned (.bool true) ∧ Below w.heap.size w w' := by
  unfold maxLen at hm
  by_cases hl : 60 < xs.length
  · have hd : decide ((60 : Int) < (xs.length : Int)) = true := by simp; omega
    go_enter Try.func3, Try.ntmps3
    go_wp2_with (go_at_call 11; refine (awake_any _).mono ?_; rintro e w' ⟨rfl, hb⟩)
    go_ret
    exact ⟨rfl, hb⟩
  · have hd : decide ((60 : Int) < (xs.length : Int)) = false := by simp; omega
    have H1 := Lib.hid (lucky_any A c xs w h)
    have h2 : ∀ w1, Below w.heap.size w w1 → _ := fun w1 hb => rlucky_any A c xs given_parked w1 (h.next hb)
    have h3 : ∀ w1, Below w.heap.size w w1 → _ := fun w1 hb => disp_any A c xs w1 (h.next hb)
    have h4 : ∀ w1, Below w.heap.size w w1 → _ := fun w1 hb => rdisp_any A c xs given_parked w1 (h.next hb)
    simp only [← lucky_eq, ← disp_eq] at h2 h4
    obtain ⟨⟨l, er⟩, hlu⟩ : ∃ p, luckyS xs = p := ⟨_, rfl⟩
    obtain ⟨⟨d, ed⟩, hdi⟩ : ∃ p, dispS xs = p := ⟨_, rfl⟩
    have hll : l.length ≤ 1048576 := by
      have : (luckyS xs).1.length ≤ xs.length := by
        unfold luckyS
        split
        · exact luckyTo_length _ _ _
        · simp
      rw [hlu] at this
      dsimp only at this
      omega
    rw [hlu] at h2 H1
    rw [hdi] at h3 h4
    have H2 := Lib.hid h2
    have H3 := Lib.hid h3
    have H4 := Lib.hid h4
    clear h2 h3 h4 hlu hdi
    go_enter Try.func3, Try.ntmps3
    go_wp2_with fail
    refine (H1.out).mono ?_
    rintro e w1 ⟨A1, c1, rfl, o1, b1⟩
    go_wp2_with fail
    refine (H2.out w1 b1).mono ?_
    rintro e w2 ⟨A2, c2, rfl, o2, b2⟩
    have hB2 := b1.trans (b2.mono b1.size)
    go_wp2_with fail
    refine (H3.out w2 hB2).mono ?_
    rintro e w3 ⟨rfl, b3⟩
    have hB3 := hB2.trans (b3.mono hB2.size)
    go_wp2_with fail
    refine (H4.out w3 hB3).mono ?_
    rintro e w4 ⟨rfl, b4⟩
    have hB4 := hB3.trans (b4.mono hB3.size)
    go_wp2_with fail
    refine (awake_any w4).mono ?_
    rintro e w5 ⟨rfl, b5⟩
    have hB5 := hB4.trans (b5.mono hB4.size)
    have r1 := ((((o1.next b2).next b3).next b4).next b5).reads
    have r2 := (((o2.next b3).next b4).next b5).reads
    go_wp2_with fail
    refine (equal_any A1 c1 l A2 c2 l hll w5 r1 r2).mono ?_
    rintro e w6 ⟨he, b6⟩
    rw [decide_eq_true rfl] at he
    subst he
    go_wp2
    go_ret
    exact ⟨rfl, hB5.trans (b6.mono hB5.size)⟩

namespace lawParkingTells
open Go.ChangeShapes Go.WideShapes Go.ChangeAt Go.RowKit
set_option linter.unusedVariables false
set_option maxRecDepth 100000 in
theorem lifted (os : Os) (started : os.Started) (H : Type) (enc : TypeId × Value → H) :
    ReturnsInHanded {} Try.checked os 3 .any (Rows.parkingTellsSpec.pre6 enc Try.prog Try.f3 Rows.parkingTellsRow.domain false) (Rows.parkingTellsSpec.post enc Try.prog Try.f3 false true false false) := by
  refine returnsInHanded_of_change (C := Try.checked) own started (by kernel_rfl) Try.func3
    (ChangeSpec.witness6 (enc := enc) (C := Try.checked) false ⟨#[], #[.slice none 0 0], []⟩ 8 (by kernel_rfl) (by kernel_rfl) (by kernel_rfl) (by kernel_rfl)) ?_
  intro W base args ds gs before hval0 hW hcnd _
  have hval : ∀ (j : Nat) t v, Try.f3.params[j]? = some t → args[j]? = some v → Value.okWide Try.prog W .any base t v := hval0
  have hW' := hW
  obtain ⟨p, q, hA0, hV, rfl, hfz, hnd⟩ := hW
  have hA : DataW.TrodAll enc Try.prog W 0 (fun _ => true) true Try.f3.params.toList args.toList ds p := hA0
  rw [Try.params3] at hA hval
  obtain ⟨v0, vs0, d0, ds0, p0, q0, hargs, rfl, rfl, h0, r0⟩ := trodAll_cons hA
  obtain ⟨rfl, rfl, rfl⟩ := trodAll_nil r0
  obtain rfl : args = #[v0] := by cases args; simp_all
  obtain ⟨rfl, rfl⟩ := trodVars_none hV
  obtain ⟨a0, len0, cap0, rfl⟩ := okWide_slice Try.underlying22 (hval 0 22 v0 rfl rfl)
  have k0 := h0
  have lt0 : ∀ x ∈ p0, x.block < W.heap.size := by obtain ⟨m, hm⟩ := k0; exact DataW.trod_lt m _ _ _ hm
  obtain ⟨z0, w0⟩ : ∃ zs, IsRow .i64 W a0 len0 cap0 zs := by
    obtain ⟨fuel, hf⟩ := h0
    rcases open_ints Try.underlying22 Try.underlying3 (by kernel_rfl) hf with ⟨hcs, _⟩ | ⟨x, l, c, zs, hcs, _, hl, hm, hz, _, hcell, hwz⟩
    · simp [Value.cells] at hcs
      obtain ⟨rfl, rfl, rfl⟩ := hcs
      exact ⟨[], .inl ⟨rfl, rfl, rfl, rfl⟩⟩
    · simp [Value.cells] at hcs
      obtain ⟨rfl, rfl, rfl⟩ := hcs
      exact ⟨zs, .inr ⟨_, rfl, hl, hm, by simpa using hz, hcell, hwz⟩⟩
  obtain ⟨xs0, rfl, hm0, hr0, hw0⟩ := w0.reads
  clear hA0 hval0
  refine (parkingTells_walk W a0 cap0 xs0 hm0 hw0 hr0).mono fun e W' ⟨he, bel⟩ => ?_
  subst he
  exact ⟨_, rfl, _, _, _, [], _, [], hW', trodAll_mk1 (shut_bool Try.underlying4 _), (trodAll_cons_mk (Below.trod laidOut (by kernel_rfl) (of_decide_eq_true (by kernel_rfl)) k0 bel lt0) trodAll_mk0), rfl, bel.frame _, fun h => by cases h⟩

theorem over : Rows.parkingTellsRow.holds Try.pinned (OpenSpec.ofChange Rows.parkingTellsSpec) :=
  OpenClaim.holds_of_wide 3 Try.f3 rfl rfl rfl rfl rfl rfl rfl ⟨rfl, rfl, rfl, rfl, rfl⟩ rfl rfl rfl rfl rfl (by kernel_rfl) Try.func3 (by kernel_rfl)
    (of_decide_eq_true (by kernel_rfl)) (by unfold Func.isWrapper; first | (rw [if_pos (by decide +kernel)]; kernel_rfl) | (rw [if_neg (by decide +kernel)]; exact ⟨rfl, rfl⟩))
    (fun os started H enc _ => lifted os started H enc)

/-- Lucky and Displacement agree with the reference, for every list. -/
theorem proved : Rows.ParkingTellsSaid := over
#print axioms proved
end lawParkingTells
end Go.Proofs.Ytjeggocindcgaaa
