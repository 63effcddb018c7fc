/-
  For every byte the law ParkingCounts answers true: the parking functions are as many as told, ascending, and they are all superstable configurations of the complete graph; the primitive ones are as many as the Catalan number. There are no conditions.
-/
import Derived.Test.YtjeggocindcgaaaLaw
import Derived.Test.YtjeggocindcgaaaAwake
import Derived.Test.YtjeggocindcgaaaCountsP
import Derived.Test.YtjeggocindcgaaaDEqual
import Derived.Deep.RegionWith
namespace Go.Proofs.Ytjeggocindcgaaa
open Go.RowKit

theorem own_cap {w : World} {base : Nat} {A : Option Addr} {c : Nat} {xs : List Int} (h : OwnI w base A c xs) : xs.length ≤ c := by
  obtain ⟨h1, h2⟩ := h
  rcases h2 with h2 | ⟨g, cap, cur, hv, hg, hh, r⟩
  · simp at h2; rw [h2.2]; simp
  · injection hv with hv1 hv2 hv3
    rw [hv3]; exact r.1
theorem reads_tail {w : World} {B : Nat} {g : Nat} {x : Int} {xs : List Int} (h : Reads w B 1 (some ⟨g, 0, none⟩) (x :: xs).length (ints (x :: xs))) : Reads w B 1 (some ⟨g, 1, none⟩) xs.length (ints xs) :=
  ⟨by simp [ints], fun _ => by
    obtain ⟨b, off, e, hb, hc⟩ := h.2 (by simp)
    injection e with e
    injection e with e1 e2
    subst e1 e2
    exact ⟨g, 1, rfl, hb, fun j u hu => by
      have := hc (j + 1) u (by simpa [ints] using hu)
      rwa [show (0 + (j + 1)) = 1 + j by omega] at this⟩⟩

set_option maxRecDepth 100000 in
set_option maxHeartbeats 8000000 in
theorem counts_walk (w : World) (t m : Nat) (ht : t ≤ 255) (hm : m = 1 + t % 4) (hB : countsB m = true) (hen : pfl m (fun _ => 0) m [] = allR m ∧ pfl m lastOr m [] = primR m ∧ (allR m).length ≤ 16384) :
    Calls Try.prog 9 #[.int .u8 t] w fun e w' => e = .returned (.bool true) ∧ Below w.heap.size w w' := by
  have h14 : 1 ≤ m ∧ m ≤ 4 := by omega
  obtain ⟨e1, e2, e3⟩ := hen
  unfold countsB at hB
  simp only [Bool.and_eq_true, decide_eq_true_eq] at hB
  obtain ⟨⟨⟨⟨⟨⟨hsup, hroot⟩, hprim⟩, hcnt⟩, hcars⟩, hhead⟩, htak⟩ := hB
  have H1 := pall_any m hcars (allR m) e1 e3
  have H2 := fun w => count_any m w
  rw [hcnt] at H2
  have H3 := pprim_any m hcars (primR m) e2 (Nat.le_trans (List.length_filter_le _ _) e3)
  rw [hprim] at H3
  have hx0 : (allR m)[0]? = some (List.replicate m 0) := by rw [← List.head?_eq_getElem?]; exact hhead
  have HXR : ∀ l ∈ allR m, l.length = m := fun l hl => allR_row hl
  obtain ⟨X, hX⟩ : ∃ X, allR m = X := ⟨_, rfl⟩
  rw [hX] at H1 H2 hx0 hsup e3 HXR
  have hXl : X.length ≠ 0 := fun e => by rw [List.length_eq_zero_iff] at e; rw [e] at hx0; simp at hx0
  have hXn : ((X.length : Int) == 0) = false := by simp; exact fun e => hXl (by simp [e])
  have H4 : ∀ (A : Option Addr) (c : Nat) (W : World), Reads W W.heap.size 1 A m (ints (List.replicate m 0)) → _ := fun A c W h => pconfig_ok A c (List.replicate m 0) htak W (by rw [List.length_replicate]; exact h)
  simp only [List.length_replicate] at H4
  have hcl : (compl (m + 1)).length ≤ 10000 := by have := complTo_length (m + 1) (m + 1); unfold compl; have : (m + 1) * (m + 1) ≤ 5 * 5 := Nat.mul_le_mul (by omega) (by omega); omega
  have H5 := fun (A : Option Addr) (c : Nat) (W : World) => sall_ok (m + 1) A c (compl (m + 1)) hcl 0 hroot _ hsup (by simpa using e3) W
  rw [List.length_map] at H5
  have hmi : IntKind.i64.wrap ((t : Int)) = t := IntWalk.i64_in _ (by omega)
  replace H1 := Lib.hid H1
  replace H2 := Lib.hid H2
  replace H3 := Lib.hid H3
  replace H4 := Lib.hid H4
  replace H5 := Lib.hid H5
  have HX0 := Lib.hid hx0
  replace HXR := Lib.hid HXR
  have HM := Lib.hid hm
  clear hX hx0 hsup hroot hprim hcnt hcars hhead htak e1 e2 hcl hm
  go_enter Try.func9, Try.ntmps9
  go_wp2_with fail
  rw [show (1 : Int) + (t : Int) % 4 = (m : Int) by have := HM.out; omega]
  refine (H1.out _).mono ?_
  rintro e w1 ⟨A1, c1, v1, rfl, o1, b1⟩
  go_wp2_with fail
  refine (H2.out _).mono ?_
  rintro e w' ⟨rfl, rfl⟩
  go_wp2_with fail
  refine (H3.out _).mono ?_
  rintro e w2 ⟨A2, c2, v2, rfl, _, b2⟩
  have hB2 := b1.trans (b2.mono b1.size)
  have o1 := o1.next b2
  obtain ⟨bA, oA, A0, c0, rfl, hbA, hcA, rA⟩ := o1.reads.at_ HX0.out
  rw [List.length_replicate, Nat.add_zero] at hcA
  rw [List.length_replicate] at rA
  have hbne : ((X.length : Int) != X.length) = false := by simp
  have hpos : (0 : Int) < (X.length : Int) := by omega
  go_wp2_with fail
  refine (H4.out _ _ _ rA).mono ?_
  rintro e w3 ⟨A3, c3, A4, c4, rfl, oE, _, b3⟩
  have hB3 := hB2.trans (b3.mono hB2.size)
  have o1 := o1.next b3
  have gE := Blk.new w3 52 #[.int .i64 ((m : Int) + 1), .slice A3 (compl (m + 1)).length c3]
  have oE2 := OwnE.alloc oE (.cells #[.int .i64 ((m : Int) + 1), .slice A3 (compl (m + 1)).length c3] 52)
  have o2 := o1.kept (fun k hk => Below.heap_alloc w3 (.cells #[.int .i64 ((m : Int) + 1), .slice A3 (compl (m + 1)).length c3] 52) k (o1.lt hk).2)
  have hB4 := hB3.alloc hB3.size (.cells #[.int .i64 ((m : Int) + 1), .slice A3 (compl (m + 1)).length c3] 52)
  have p0 := gE.cell 0
  have p1 := gE.cell 1
  clear o1 hcA rA b1 b2 b3
  go_wp2_with fail
  obtain ⟨w4, hw4⟩ : ∃ w4, w3.alloc (.cells #[.int .i64 ((m : Int) + 1), .slice A3 (compl (m + 1)).length c3] 52) = w4 := ⟨_, rfl⟩
  rw [hw4] at oE2 o2 hB4 ⊢
  clear hw4 gE p0 p1
  refine (H5.out A3 c3 w4 oE2.reads).mono ?_
  rintro e w5 ⟨A5, c5, v5, rfl, o5, b5⟩
  have hB5 := hB4.trans (b5.mono hB4.size)
  have o6 := o2.next b5
  clear oE oE2 o2 b5 H1 H2 H3 H4 H5
  go_wp2_with fail
  go_loopw [13, 14, 77] (fun _ _ i wl => ∃ k : Nat, k ≤ X.length ∧ i = .int .i64 k ∧ OwnDivs wl w4.heap.size A5 c5 v5 (X.map fun l => 0 :: l) ∧ OwnRows wl w.heap.size (some ⟨bA, oA, none⟩) c1 v1 X ∧ Below w.heap.size w wl) (fun _ _ i _ => X.length - (intOf i).toNat)
  case atStart => exact ⟨0, by omega, rfl, o5, o6.mono (Nat.le_refl _), hB5⟩
  case round =>
    obtain ⟨k, hk, rfl, o7, o8, hB7⟩ := hrel
    by_cases hlt : k < X.length
    · obtain ⟨x, hx⟩ := get_of_lt hlt
      have hi : (k : Int) < (X.length : Int) := by omega
      have hxl := HXR.out x (List.mem_of_getElem? hx)
      obtain ⟨A6, c6, hv6, o9⟩ := o7.2.2 k (0 :: x) (by simp [hx])
      obtain ⟨b5, f5, rfl, hb5, hc5⟩ := (Reads.of_own o7.1).at_ hv6
      obtain ⟨g6, rfl, hg6, sl6, hs6⟩ := own_some o9 (by simp)
      have hcap := own_cap o9
      obtain ⟨b8, f8, A8, c8, hA8, hb8, hc8, r8⟩ := o8.reads.at_ hx
      injection hA8 with hA8
      injection hA8 with q1 q2
      subst q1 q2
      rw [List.length_cons, hxl] at hc5 hcap
      rw [hxl] at hc8
      have r9 := reads_tail o9.reads
      have DE := dequal_any (some ⟨g6, 1, none⟩) (c6 - 1) x A8 c8 x (by omega) wr.drew r9 r8
      rw [decide_eq_true rfl, hxl] at DE
      have DE := Lib.hid DE
      have hcap2 : (m : Int) + 1 ≤ (c6 : Int) := by omega
      have hbl8 : bA < wr.heap.size := hb8
      clear hx
      go_wp2_with fail
      go_region_with (go_at_call 41; refine (DE.out).mono ?_; rintro e w6 ⟨rfl, b6⟩; have k8 : w6.cell? ⟨bA, oA + k, none⟩ = some (.slice A8 m c8) := (b6.cell (p := ⟨bA, oA + k, none⟩) hbl8).trans hc8)
      all_goals
        have b6' : Below wr.heap.size wr w6 := (Below.refl _ _).drew.trans b6
        have o7' := Lib.hid (o7.next b6')
        have o8' := Lib.hid (o8.next b6')
        have hB8 := hB7.trans (b6'.mono hB7.size)
        clear o7 o8 o9 r8 r9 hs6
        go_wp2
        go_roundw
        case rel => exact ⟨k + 1, by omega, by go_num, o7'.out, o8'.out, hB8⟩
        case measure => simp [intOf]; omega
    · obtain rfl : k = X.length := by omega
      have hAw := Lib.hid (fun w => awake_any w)
      have hm4 : m = 1 ∨ m = 2 ∨ m = 3 ∨ m = 4 := by omega
      have LT := Blk.new wr 3 #[.int .i64 1, .int .i64 2, .int .i64 5, .int .i64 14]
      have l0 := LT.cell 0
      have l1 := LT.cell 1
      have l2 := LT.cell 2
      have l3 := LT.cell 3
      clear h14 o7 o8
      rcases hm4 with rfl | rfl | rfl | rfl
      all_goals
        simp only [catN, Nat.reduceSub, List.getD_cons_zero, List.getD_cons_succ]
        go_wp2_with (go_at_call 11; refine (hAw.out _).mono ?_; rintro e w9 ⟨rfl, b9⟩)
        go_ret
        exact ⟨rfl, (hB7.alloc hB7.size _).trans (b9.mono (by have := hB7.size; simp; omega))⟩

theorem parkingCounts_walk (w : World) (x : Int) (hx : (Lit.int .u8 x).wf = true) :
    Calls Try.prog 9 #[.int .u8 x] w fun e w' => e = .returned (.bool true) ∧ Below w.heap.size w w' := by
  obtain ⟨t, rfl, ht⟩ : ∃ t : Nat, x = (t : Int) ∧ t ≤ 255 := by
    have h2 : IntKind.u8.min ≤ x ∧ x ≤ IntKind.u8.max := by simpa [Lit.wf] using hx
    simp [IntKind.min, IntKind.max, IntKind.bits, IntKind.signed] at h2
    exact ⟨x.toNat, by omega, by omega⟩
  obtain ⟨l1, l2, l3, l4, l5⟩ := enum_len
  have hm : 1 + t % 4 = 1 ∨ 1 + t % 4 = 2 ∨ 1 + t % 4 = 3 ∨ 1 + t % 4 = 4 := by omega
  rcases hm with hm | hm | hm | hm
  · exact counts_walk w t 1 ht hm.symm counts1 ⟨enum1.1, enum1.2, l1⟩
  · exact counts_walk w t 2 ht hm.symm counts2 ⟨enum2.1, enum2.2, l2⟩
  · exact counts_walk w t 3 ht hm.symm counts3 ⟨enum3.1, enum3.2, l3⟩
  · exact counts_walk w t 4 ht hm.symm counts4 ⟨enum4.1, enum4.2, l4⟩

namespace lawParkingCounts
open Go.ChangeShapes Go.WideShapes Go.ChangeAt Go.RowKit
set_option linter.unusedVariables false
set_option maxRecDepth 100000 in
theorem lifted (os : Os) (started : os.Started) (H : Type) (enc : TypeId × Value → H) :
    ReturnsInHanded {} Try.checked os 9 .any (Rows.parkingCountsSpec.pre6 enc Try.prog Try.f9 Rows.parkingCountsRow.domain false) (Rows.parkingCountsSpec.post enc Try.prog Try.f9 false true false false) := by
  refine returnsInHanded_of_change (C := Try.checked) own started (by kernel_rfl) Try.func9
    (ChangeSpec.witness6 (enc := enc) (C := Try.checked) false ⟨#[], #[.int .u8 0], []⟩ 8 (by kernel_rfl) (by kernel_rfl) (by kernel_rfl) (by kernel_rfl)) ?_
  intro W base args ds gs before hval0 hW hcnd _
  have hval : ∀ (j : Nat) t v, Try.f9.params[j]? = some t → args[j]? = some v → Value.okWide Try.prog W .any base t v := hval0
  have hW' := hW
  obtain ⟨p, q, hA0, hV, rfl, hfz, hnd⟩ := hW
  have hA : DataW.TrodAll enc Try.prog W 0 (fun _ => true) true Try.f9.params.toList args.toList ds p := hA0
  rw [Try.params9] at hA hval
  obtain ⟨v0, vs0, d0, ds0, p0, q0, hargs, rfl, rfl, h0, r0⟩ := trodAll_cons hA
  obtain ⟨rfl, rfl, rfl⟩ := trodAll_nil r0
  obtain rfl : args = #[v0] := by cases args; simp_all
  obtain ⟨rfl, rfl⟩ := trodVars_none hV
  obtain ⟨a0, rfl, rfl, rfl, w0⟩ := open_int Try.underlying5 (hval 0 5 v0 rfl rfl) h0
  clear hA0 hval0
  refine (parkingCounts_walk W a0 w0).mono fun e W' ⟨he, bel⟩ => ?_
  subst he
  exact ⟨_, rfl, _, _, _, [], _, [], hW', trodAll_mk1 (shut_bool Try.underlying4 _), (trodAll_cons_mk (shut_int Try.underlying5 w0) trodAll_mk0), rfl, bel.frame _, fun h => by cases h⟩

theorem over : Rows.parkingCountsRow.holds Try.pinned (OpenSpec.ofChange Rows.parkingCountsSpec) :=
  OpenClaim.holds_of_wide 9 Try.f9 rfl rfl rfl rfl rfl rfl rfl ⟨rfl, rfl, rfl, rfl, rfl⟩ rfl rfl rfl rfl rfl (by kernel_rfl) Try.func9 (by kernel_rfl)
    (of_decide_eq_true (by kernel_rfl)) (by unfold Func.isWrapper; first | (rw [if_pos (by decide +kernel)]; kernel_rfl) | (rw [if_neg (by decide +kernel)]; exact ⟨rfl, rfl⟩))
    (fun os started H enc _ => lifted os started H enc)

/-- For every byte the law ParkingCounts answers true: the parking functions are as many as told, ascending, and they are all superstable configurations of the complete graph; the primitive ones are as many as the Catalan number. -/
theorem proved : Rows.ParkingCountsSaid := over
#print axioms proved
end lawParkingCounts
end Go.Proofs.Ytjeggocindcgaaa
