/-
  For every list of ints the law ParkingTurns answers true: Rotation and Config return the results or errors of the reference. There are no conditions.
-/
import Derived.Test.YtjeggocindcgaaaLaw
import Derived.Test.YtjeggocindcgaaaAwake
import Derived.Test.YtjeggocindcgaaaRRot
import Derived.Test.YtjeggocindcgaaaRConfig
import Derived.Test.YtjeggocindcgaaaOrder
namespace Go.Proofs.Ytjeggocindcgaaa
open Go.RowKit

/-- What Config answers: the graph, the divisor, the error. -/
def confS (xs : List Int) : (Int × List E3) × List Int × Int := if givenR xs = 0 then (((xs.length : Int) + 1, compl (xs.length + 1)), 0 :: xs, 0) else ((0, []), [], givenR xs)
theorem pconfig_any (A : Option Addr) (c : Nat) (xs : List Int) (w : World) (h : Reads w w.heap.size 1 A xs.length (ints xs)) :
    Calls Try.prog 33 #[.slice A xs.length c] w fun e w' =>
      ∃ A1 c1 A2 c2, e = .returned (.tuple #[.agg #[.int .i64 (confS xs).1.1, .slice A1 (confS xs).1.2.length c1], .slice A2 (confS xs).2.1.length c2, .int .i64 (confS xs).2.2]) ∧
        OwnE w' w.heap.size A1 c1 (confS xs).1.2 ∧ OwnI w' w.heap.size A2 c2 (confS xs).2.1 ∧ Below w.heap.size w w' := by
  by_cases hg : givenR xs = 0
  · have e : confS xs = (((xs.length : Int) + 1, compl (xs.length + 1)), 0 :: xs, 0) := by simp [confS, hg]
    rw [e]
    exact pconfig_ok A c xs (by rw [taken_err]; exact hg) w h
  · have e : confS xs = ((0, []), [], givenR xs) := by simp [confS, hg]
    rw [e]
    refine (pconfig_bad A c xs (by rw [taken_err]; simpa using hg) w h).mono ?_
    rintro e w' ⟨rfl, hb⟩
    exact ⟨none, 0, none, 0, by rw [taken_err]; rfl, OwnE.nil_ _ _, OwnI.nil_ _ _, hb⟩
theorem rconfig_any (A : Option Addr) (c : Nat) (xs : List Int) (w : World) (h : Reads w w.heap.size 1 A xs.length (ints xs)) :
    Calls Try.prog 34 #[.slice A xs.length c] w fun e w' =>
      ∃ A1 c1 A2 c2, e = .returned (.tuple #[.agg #[.int .i64 (confS xs).1.1, .slice A1 (confS xs).1.2.length c1], .slice A2 (confS xs).2.1.length c2, .int .i64 (confS xs).2.2]) ∧
        OwnE w' w.heap.size A1 c1 (confS xs).1.2 ∧ OwnI w' w.heap.size A2 c2 (confS xs).2.1 ∧ Below w.heap.size w w' := by
  by_cases hg : givenR xs = 0
  · have e : confS xs = (((xs.length : Int) + 1, compl (xs.length + 1)), 0 :: xs, 0) := by simp [confS, hg]
    rw [e]
    exact rconfig_ok A c xs hg w h
  · have e : confS xs = ((0, []), [], givenR xs) := by simp [confS, hg]
    rw [e]
    refine (rconfig_bad A c xs (by simpa using hg) w h).mono ?_
    rintro e w' ⟨rfl, hb⟩
    exact ⟨none, 0, none, 0, rfl, OwnE.nil_ _ _, OwnI.nil_ _ _, hb⟩
theorem confS_length (xs : List Int) : (confS xs).1.2.length ≤ 1048576 ∧ (confS xs).2.1.length ≤ 1048576 := by
  unfold confS
  by_cases hg : givenR xs = 0
  · obtain ⟨hn, _⟩ := within_zero (givenR_zero hg)
    rw [if_pos hg]
    have h1 := complTo_length (xs.length + 1) (xs.length + 1)
    have h2 : (xs.length + 1) * (xs.length + 1) ≤ 12 * 12 := Nat.mul_le_mul (by omega) (by omega)
    refine ⟨?_, ?_⟩
    · show (complTo (xs.length + 1) (xs.length + 1)).length ≤ _; omega
    · simp; omega
  · rw [if_neg hg]; simp

set_option maxRecDepth 100000 in
set_option maxHeartbeats 1000000 in
theorem parkingTurns_walk (w : World) (A : Option Addr) (c : Nat) (xs : List Int) (hm : xs.length ≤ maxLen) (_hw : ∀ x ∈ xs, (Lit.int .i64 x).wf = true) (h : Reads w w.heap.size 1 A xs.length (ints xs)) :
    Calls Try.prog 6 #[.slice A xs.length c] w fun e w' => e = .returned (.bool true) ∧ Below w.heap.size w w' := by
  unfold maxLen at hm
  by_cases hl : 60 < xs.length
  · have hd : decide ((60 : Int) < (xs.length : Int)) = true := by simp; omega
    go_enter Try.func6, Try.ntmps6
    go_wp2_with (go_at_call 11; refine (awake_any _).mono ?_; rintro e w' ⟨rfl, hb⟩)
    go_ret
    exact ⟨rfl, hb⟩
  · have hd : decide ((60 : Int) < (xs.length : Int)) = false := by simp; omega
    have h1 := rotation_any A c xs w h
    have h2 : ∀ w1, Below w.heap.size w w1 → _ := fun w1 hb => rrotation_any A c xs w1 (h.next hb)
    have h3 : ∀ w1, Below w.heap.size w w1 → _ := fun w1 hb => pconfig_any A c xs w1 (h.next hb)
    have h4 : ∀ w1, Below w.heap.size w w1 → _ := fun w1 hb => rconfig_any A c xs w1 (h.next hb)
    have hlen := confS_length xs
    obtain ⟨⟨ro, re⟩, hro⟩ : ∃ p, rotS xs = p := ⟨_, rfl⟩
    obtain ⟨⟨⟨N, E⟩, D, er⟩, hco⟩ : ∃ p, confS xs = p := ⟨_, rfl⟩
    rw [hro] at h1
    simp only [hro] at h2
    simp only [hco] at h3 h4 hlen
    obtain ⟨hE, hD⟩ := hlen
    have H1 := Lib.hid h1
    have H2 := Lib.hid h2
    have H3 := Lib.hid h3
    have H4 := Lib.hid h4
    clear h1 h2 h3 h4 hro hco
    go_enter Try.func6, Try.ntmps6
    go_wp2_with fail
    refine (H1.out).mono ?_
    rintro e w1 ⟨rfl, b1⟩
    go_wp2_with fail
    refine (H2.out w1 b1).mono ?_
    rintro e w2 ⟨rfl, b2⟩
    have hB2 := b1.trans (b2.mono b1.size)
    go_wp2_with fail
    refine (H3.out w2 hB2).mono ?_
    rintro e w3 ⟨A1, c1, A2, c2, rfl, o1, o2, b3⟩
    have hB3 := (hB2.trans (b3.mono hB2.size)).alloc (hB2.trans (b3.mono hB2.size)).size (.cells #[.int .i64 N, .slice A1 E.length c1] 52)
    go_wp2_with fail
    refine (H4.out _ hB3).mono ?_
    rintro e w4 ⟨A3, c3, A4, c4, rfl, o3, o4, b4⟩
    have hB4 := (hB3.trans (b4.mono hB3.size)).alloc (hB3.trans (b4.mono hB3.size)).size (.cells #[.int .i64 N, .slice A3 E.length c3] 52)
    have s1 := (((o1.alloc (.cells #[.int .i64 N, .slice A1 E.length c1] 52)).next b4).alloc (.cells #[.int .i64 N, .slice A3 E.length c3] 52))
    have s2 := (((o2.alloc (.cells #[.int .i64 N, .slice A1 E.length c1] 52)).next b4).alloc (.cells #[.int .i64 N, .slice A3 E.length c3] 52))
    have s3 := (o3.alloc (.cells #[.int .i64 N, .slice A3 E.length c3] 52))
    have s4 := (o4.alloc (.cells #[.int .i64 N, .slice A3 E.length c3] 52))
    have g1 := (((Blk.new w3 52 #[.int .i64 N, .slice A1 E.length c1]).next b4).alloc (.cells #[.int .i64 N, .slice A3 E.length c3] 52))
    have g2 := Blk.new w4 52 #[.int .i64 N, .slice A3 E.length c3]
    go_wp2_with fail
    refine (awake_any _).mono ?_
    rintro e w5 ⟨rfl, b5⟩
    have hB5 := hB4.trans (b5.mono hB4.size)
    have k1 := g1.next b5
    have k2 := g2.next b5
    have q1 := k1.cell 0
    have q2 := k1.cell 1
    have q3 := k2.cell 0
    have q4 := k2.cell 1
    have r1 := (s1.next b5).reads
    have r2 := (s2.next b5).reads
    have r3 := (s3.next b5).reads
    have r4 := (s4.next b5).reads
    go_wp2_with fail
    refine (gsame_any N N A1 c1 E A3 c3 E hE w5 r1 r3).mono ?_
    rintro e w6 ⟨he, b6⟩
    rw [decide_eq_true ⟨rfl, rfl⟩] at he
    subst he
    have hB6 := hB5.trans (b6.mono hB5.size)
    go_wp2_with fail
    refine (dsame_any A2 c2 D A4 c4 D hD w6 _ (r2.below b6) (r4.below b6)).mono ?_
    rintro e w7 ⟨he, m, rfl⟩
    rw [decide_eq_true rfl] at he
    subst he
    go_wp2
    go_ret
    exact ⟨rfl, below_drewN hB6 m⟩

namespace lawParkingTurns
open Go.ChangeShapes Go.WideShapes Go.ChangeAt Go.RowKit
set_option linter.unusedVariables false
set_option maxRecDepth 100000 in
theorem lifted (os : Os) (started : os.Started) (H : Type) (enc : TypeId × Value → H) :
    ReturnsInHanded {} Try.checked os 6 .any (Rows.parkingTurnsSpec.pre6 enc Try.prog Try.f6 Rows.parkingTurnsRow.domain false) (Rows.parkingTurnsSpec.post enc Try.prog Try.f6 false true false false) := by
  refine returnsInHanded_of_change (C := Try.checked) own started (by kernel_rfl) Try.func6
    (ChangeSpec.witness6 (enc := enc) (C := Try.checked) false ⟨#[], #[.slice none 0 0], []⟩ 8 (by kernel_rfl) (by kernel_rfl) (by kernel_rfl) (by kernel_rfl)) ?_
  intro W base args ds gs before hval0 hW hcnd _
  have hval : ∀ (j : Nat) t v, Try.f6.params[j]? = some t → args[j]? = some v → Value.okWide Try.prog W .any base t v := hval0
  have hW' := hW
  obtain ⟨p, q, hA0, hV, rfl, hfz, hnd⟩ := hW
  have hA : DataW.TrodAll enc Try.prog W 0 (fun _ => true) true Try.f6.params.toList args.toList ds p := hA0
  rw [Try.params6] at hA hval
  obtain ⟨v0, vs0, d0, ds0, p0, q0, hargs, rfl, rfl, h0, r0⟩ := trodAll_cons hA
  obtain ⟨rfl, rfl, rfl⟩ := trodAll_nil r0
  obtain rfl : args = #[v0] := by cases args; simp_all
  obtain ⟨rfl, rfl⟩ := trodVars_none hV
  obtain ⟨a0, len0, cap0, rfl⟩ := okWide_slice Try.underlying22 (hval 0 22 v0 rfl rfl)
  have k0 := h0
  have lt0 : ∀ x ∈ p0, x.block < W.heap.size := by obtain ⟨m, hm⟩ := k0; exact DataW.trod_lt m _ _ _ hm
  obtain ⟨z0, w0⟩ : ∃ zs, IsRow .i64 W a0 len0 cap0 zs := by
    obtain ⟨fuel, hf⟩ := h0
    rcases open_ints Try.underlying22 Try.underlying3 (by kernel_rfl) hf with ⟨hcs, _⟩ | ⟨x, l, c, zs, hcs, _, hl, hm, hz, _, hcell, hwz⟩
    · simp [Value.cells] at hcs
      obtain ⟨rfl, rfl, rfl⟩ := hcs
      exact ⟨[], .inl ⟨rfl, rfl, rfl, rfl⟩⟩
    · simp [Value.cells] at hcs
      obtain ⟨rfl, rfl, rfl⟩ := hcs
      exact ⟨zs, .inr ⟨_, rfl, hl, hm, by simpa using hz, hcell, hwz⟩⟩
  obtain ⟨xs0, rfl, hm0, hr0, hw0⟩ := w0.reads
  clear hA0 hval0
  refine (parkingTurns_walk W a0 cap0 xs0 hm0 hw0 hr0).mono fun e W' ⟨he, bel⟩ => ?_
  subst he
  exact ⟨_, rfl, _, _, _, [], _, [], hW', trodAll_mk1 (shut_bool Try.underlying4 _), (trodAll_cons_mk (Below.trod laidOut (by kernel_rfl) (of_decide_eq_true (by kernel_rfl)) k0 bel lt0) trodAll_mk0), rfl, bel.frame _, fun h => by cases h⟩

theorem over : Rows.parkingTurnsRow.holds Try.pinned (OpenSpec.ofChange Rows.parkingTurnsSpec) :=
  OpenClaim.holds_of_wide 6 Try.f6 rfl rfl rfl rfl rfl rfl rfl ⟨rfl, rfl, rfl, rfl, rfl⟩ rfl rfl rfl rfl rfl (by kernel_rfl) Try.func6 (by kernel_rfl)
    (of_decide_eq_true (by kernel_rfl)) (by unfold Func.isWrapper; first | (rw [if_pos (by decide +kernel)]; kernel_rfl) | (rw [if_neg (by decide +kernel)]; exact ⟨rfl, rfl⟩))
    (fun os started H enc _ => lifted os started H enc)

/-- For every list of ints the law ParkingTurns answers true: Rotation and Config return the results or errors of the reference. There are no conditions. -/
theorem proved : Rows.ParkingTurnsSaid := over
#print axioms proved
end lawParkingTurns
end Go.Proofs.Ytjeggocindcgaaa
