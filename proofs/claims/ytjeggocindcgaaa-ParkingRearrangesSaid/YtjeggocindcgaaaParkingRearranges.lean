/-
  For every list of ints and every byte the law ParkingRearranges answers true: preferences are a parking function exactly if the one with the index i, in ascending order, is at most i; exactly then all cars park, in whatever order they come; and the displacement does not depend on it. There are no conditions.
-/
import Derived.Test.YtjeggocindcgaaaLaw
import Derived.Test.YtjeggocindcgaaaAwake
import Derived.Test.YtjeggocindcgaaaPlainR
import Derived.Test.YtjeggocindcgaaaFns
import Derived.Test.YtjeggocindcgaaaRef29c
import Derived.Deep.RegionLaw
namespace Go.Proofs.Ytjeggocindcgaaa
open Go.RowKit

theorem Reads.drop_ {w : World} {B b off : Nat} {xs : List Int} (h : Reads w B 1 (some ⟨b, off, none⟩) xs.length (ints xs)) (k : Nat) (hk : k < xs.length) : Reads w B 1 (some ⟨b, off + k, none⟩) (xs.length - k) (ints (xs.drop k)) := by
  refine ⟨by simp [ints], fun _ => ?_⟩
  obtain ⟨b', off', hA, hb, hc⟩ := h.2 (by omega)
  injection hA with hA; injection hA with e1 e2; subst e1 e2
  refine ⟨b, off + k, rfl, hb, fun j v hv => ?_⟩
  rw [show off + k + j = off + (k + j) from by omega]
  exact hc (k + j) v (by rw [← hv]; simp [ints])
theorem Reads.take_ {w : World} {B b off : Nat} {xs : List Int} (h : Reads w B 1 (some ⟨b, off, none⟩) xs.length (ints xs)) (k : Nat) (hk : k < xs.length) : Reads w B 1 (some ⟨b, off, none⟩) k (ints (xs.take k)) := by
  refine ⟨by simp [ints]; omega, fun _ => ?_⟩
  obtain ⟨b', off', hA, hb, hc⟩ := h.2 (by omega)
  injection hA with hA; injection hA with e1 e2; subst e1 e2
  refine ⟨b, off, rfl, hb, fun j v hv => hc j v ?_⟩
  have hj : j < k := by
    have := (List.getElem?_eq_some_iff.1 hv).1
    simp [ints] at this; omega
  rw [← hv]
  simp [ints, List.getElem?_take_of_lt hj]

theorem rearr_bad (w : World) (A : Option Addr) (c t : Nat) (xs : List Int) (hbad : (withinS xs 0 != 0) = true) (h : Reads w w.heap.size 1 A xs.length (ints xs)) :
    Calls Try.prog 10 #[.slice A xs.length c, .int .u8 t] w fun e w' => e = .returned (.bool true) ∧ Below w.heap.size w w' := by
  go_enter Try.func10, Try.ntmps10
  go_wp2_with first
    | (go_at_call 25; refine (rcheck_any A c xs _ h).mono ?_; rintro e w' ⟨rfl, rfl⟩)
    | (go_at_call 11; refine (awake_any _).mono ?_; rintro e w' ⟨rfl, hb⟩)
  go_ret
  exact ⟨rfl, hb⟩

set_option maxRecDepth 100000 in
set_option maxHeartbeats 2000000 in
theorem rearr_ok (w : World) (A : Option Addr) (c t : Nat) (ht : t < 256) (xs : List Int) (hc : xs.length ≤ c) (hok : withinS xs 0 = 0) (h : Reads w w.heap.size 1 A xs.length (ints xs)) :
    Calls Try.prog 10 #[.slice A xs.length c, .int .u8 t] w fun e w' => e = .returned (.bool true) ∧ Below w.heap.size w w' := by
  obtain ⟨hn, hx⟩ := within_zero hok
  have hck := rcheck_any A c xs w h
  rw [hok] at hck
  have HCK := Lib.hid hck
  have HX := Lib.hid hx
  have HOK := Lib.hid hok
  have HCL := Lib.hid (clone_any A c xs (by omega) w h)
  clear hck hx hok
  go_enter Try.func10, Try.ntmps10
  go_wp2_with first
    | (go_at_call 25; refine (HCK.out).mono ?_; rintro e w' ⟨rfl, rfl⟩)
    | (go_at_call 43; refine (HCL.out).mono ?_; rintro e w1 ⟨A1, c1, rfl, o1, b1⟩)
    | (go_at_call 44; refine (sort_any A1 c1 xs (by omega) (by omega) _ _ o1).mono ?_; rintro e w2 ⟨rfl, ys, hp, hs, o2, b2⟩)
  have hyl : ys.length = xs.length := hp.length_eq
  have hyx : ∀ y ∈ ys, 0 ≤ y ∧ y ≤ 12 := fun y hy => by have := HX.out y (hp.mem_iff.1 hy); omega
  have hB2 : Below w.heap.size w w2 := b1.trans b2
  have hr2 := o2.reads
  have HP := Lib.hid hp
  have HR := Lib.hid (right_is hp hs)
  have HS := Lib.hid hs
  have HYX := Lib.hid hyx
  clear hp hs hyx
  have hyn : ys.length ≤ 12 := by omega
  go_loop [6, 7, 29] (fun r s i => ∃ k : Nat, k ≤ xs.length ∧ i = .int .i64 k ∧ r = .bool (rightTo ys k) ∧ s = .int .i64 (gapTo ys k)) (fun _ _ i => xs.length - (intOf i).toNat)
  case atStart => exact ⟨0, by omega, rfl, rfl, rfl⟩
  case round =>
    obtain ⟨k, hk, rfl, rfl, rfl⟩ := hrel
    by_cases hlt : k < xs.length
    · have hi : (k : Int) < (xs.length : Int) := by omega
      obtain ⟨y, hy⟩ := get_of_lt (xs := ys) (k := k) (by omega)
      have hy2 := HYX.out y (List.mem_of_getElem? hy)
      have hbd := gapTo_bd HYX.out hyn k (by omega)
      have hbd2 := gapTo_bd HYX.out hyn (k + 1) (by omega)
      have R1 := rightTo_succ hy
      have R2 := gapTo_succ hy
      obtain ⟨b, off, rfl, hb, hcell⟩ := hr2.at_ (ints_at hy)
      generalize rightTo ys k = r at *
      generalize gapTo ys k = s at *
      rw [R2] at hbd2
      have R1 := Lib.hid R1
      have R2 := Lib.hid R2
      clear hy hr2
      by_cases hle : y ≤ (k : Int)
      · have hd : decide (y ≤ (k : Int)) = true := decide_eq_true hle
        rw [hd] at R1
        cases r
        · go_wp2
          go_round
          case rel => exact ⟨k + 1, by omega, by go_num, by rw [R1.out]; rfl, by rw [R2.out]⟩
          case measure => simp [intOf]; omega
        · go_wp2
          go_round
          case rel => exact ⟨k + 1, by omega, by go_num, by rw [R1.out]; rfl, by rw [R2.out]⟩
          case measure => simp [intOf]; omega
      · have hd : decide (y ≤ (k : Int)) = false := decide_eq_false hle
        rw [hd] at R1
        cases r
        · go_wp2
          go_round
          case rel => exact ⟨k + 1, by omega, by go_num, by rw [R1.out]; rfl, by rw [R2.out]⟩
          case measure => simp [intOf]; omega
        · go_wp2
          go_round
          case rel => exact ⟨k + 1, by omega, by go_num, by rw [R1.out]; rfl, by rw [R2.out]⟩
          case measure => simp [intOf]; omega
    · have hi : ¬ (k : Int) < (xs.length : Int) := by omega
      obtain rfl : k = xs.length := by omega
      go_wp2
      obtain ⟨b, off, rfl, hb, _⟩ := h.2 (by omega)
      obtain ⟨k0, hk0⟩ : ∃ k0, t % xs.length = k0 := ⟨_, rfl⟩
      have hk1 : k0 < xs.length := by rw [← hk0]; exact Nat.mod_lt _ (by omega)
      have hk2 : (t : Int) % (xs.length : Int) = (k0 : Int) := by rw [← hk0]; simp
      have hk3 : (k0 : Int) ≤ (xs.length : Int) := by omega
      have hk4 : (k0 : Int) ≤ (c : Int) := by have := hc; omega
      have hk5 : (xs.length : Int) ≤ (c : Int) := by have := hc; omega
      have hw : IntKind.i64.wrap (t : Int) = (t : Int) := by simp [IntKind.wrap, IntKind.bits]; omega
      have hk7 : (t : Int).tmod (xs.length : Int) = (k0 : Int) := by rw [← hk0]; rfl
      have hck : ¬ c = k0 := by have := hc; omega
      have hne : ¬ xs = [] := by rintro rfl; simp at hn
      have hk6 : ((xs.length : Int) == 0) = false := by simp; omega
      have hrd := (h.below hB2).drop_ k0 hk1
      have hrt := (h.below hB2).take_ k0 hk1
      have hown0 : (w2.alloc (.cells #[] 3)).ownsRow w2.heap.size 3 1 (.slice (some ⟨w2.heap.size, 0, none⟩) 0 0) 0 [] := OwnI.of_blk (l := []) (Blk.new w2 3 (intCells [])) (Nat.le_refl _) (by decide)
      have hrd5 := hrd.below ((Below.refl _ _).alloc hB2.size (.cells #[] 3))
      have hlen5 : xs.length - k0 + k0 = xs.length := by omega
      go_region_law (first
        | (refine append_step2 rfl (.tmp 46) (.tmp 53) _ _ rfl w2.heap.size 3 3 Try.underlying22 Try.underlying22 info_int rfl (by omega) (some ⟨w2.heap.size, 0, none⟩) 0 0 [] rfl hown0 w.heap.size (ints (xs.drop k0)) rfl (by exact hrd5) ints_one (by omega) (by simp) ?_; intro A4 c4 w4 hown4 hg4 hb4 _; rw [Nat.zero_add, List.nil_append] at hown4
           have gB4 : Below w2.heap.size w2 w4 := ((Below.refl _ _).alloc (Nat.le_refl _) (.cells #[] 3)).trans ⟨hb4.os, hb4.tape, hb4.output, hb4.size, hb4.block⟩
           have hrt4 := hrt.below (gB4.mono hB2.size))
        | (refine append_step2 rfl (.tmp 54) (.tmp 61) _ _ rfl w2.heap.size 3 3 Try.underlying22 Try.underlying22 info_int rfl (by omega) A4 c4 (xs.length - k0) (ints (xs.drop k0)) rfl hown4 w.heap.size (ints (xs.take k0)) rfl (by exact hrt4) ints_one (by omega) (by exact gB4.size) ?_; intro A5 c5 w5 hown5 hg5 hb5 _; rw [hlen5] at hown5 ⊢))
      all_goals (
        have gB5 : Below w2.heap.size w2 w5 := gB4.trans ⟨hb5.os, hb5.tape, hb5.output, hb5.size, hb5.block⟩
        have hp5 : (xs.drop k0 ++ xs.take k0).Perm xs := by
          have := List.perm_append_comm (l₁ := xs.drop k0) (l₂ := xs.take k0)
          rwa [List.take_append_drop] at this
        have hI5 : OwnI w5 w2.heap.size A5 c5 (xs.drop k0 ++ xs.take k0) := by
          unfold OwnI
          rw [hp5.length_eq, show ints (xs.drop k0 ++ xs.take k0) = ints (xs.drop k0) ++ ints (xs.take k0) from by simp [ints]]
          exact hown5
        have hz5 : w.heap.size ≤ w5.heap.size := Nat.le_trans hB2.size gB5.size
        have hB5 : Below w.heap.size w w5 := hB2.trans (gB5.mono hB2.size)
        have ra := (h.below hB5).more hz5
        have rb := (o2.next gB5).reads
        have rc := hI5.reads
        have HP5 := Lib.hid hp5
        have gT := Blk.new w5 22 #[.slice (some ⟨b, off, none⟩) xs.length c, .slice A1 xs.length c1, .slice A5 xs.length c5]
        have hB6 := hB5.alloc hz5 (.cells #[.slice (some ⟨b, off, none⟩) xs.length c, .slice A1 xs.length c1, .slice A5 xs.length c5] 22)
        have ra6 := (ra.below ((Below.refl _ _).alloc (Nat.le_refl _) (.cells #[.slice (some ⟨b, off, none⟩) xs.length c, .slice A1 xs.length c1, .slice A5 xs.length c5] 22)))
        have rb6 := (rb.below ((Below.refl _ _).alloc (Nat.le_refl _) (.cells #[.slice (some ⟨b, off, none⟩) xs.length c, .slice A1 xs.length c1, .slice A5 xs.length c5] 22)))
        have rc6 := (rc.below ((Below.refl _ _).alloc (Nat.le_refl _) (.cells #[.slice (some ⟨b, off, none⟩) xs.length c, .slice A1 xs.length c1, .slice A5 xs.length c5] 22)))
        have hrows : Hid (∀ k : Nat, k < 3 → ∃ Al cl l, l.Perm xs ∧ #[Value.slice (some ⟨b, off, none⟩) xs.length c, .slice A1 xs.length c1, .slice A5 xs.length c5][k]? = some (.slice Al l.length cl) ∧
          Reads (w5.alloc (.cells #[.slice (some ⟨b, off, none⟩) xs.length c, .slice A1 xs.length c1, .slice A5 xs.length c5] 22)) w5.heap.size 1 Al l.length (ints l)) := by
          intro k hk
          rcases (show k = 0 ∨ k = 1 ∨ k = 2 by omega) with rfl | rfl | rfl
          · exact ⟨_, _, xs, .refl _, rfl, ra6⟩
          · exact ⟨A1, c1, ys, HP.out, by rw [hyl]; rfl, rb6⟩
          · exact ⟨A5, c5, _, HP5.out, by rw [HP5.out.length_eq]; rfl, rc6⟩
        clear ra rb rc ra6 rb6 rc6 hI5 hown5 hown4 hown0 hrd hrt hrd5 hrt4 gB5 gB4 hg5 hg4 hb4 hb5 o2 hr2 hB5 hB2
        go_wp2
        have HRR : Hid (rightTo ys xs.length = isR xs) := by rw [← hyl]; exact HR.out
        obtain ⟨q, hq⟩ : ∃ q, isR xs = q := ⟨_, rfl⟩
        rw [HRR.out, hq]
        have HQ := Lib.hid hq
        clear hq HRR
        have HD : Hid (∀ l : List Int, l.Perm xs → dispS l = if isR xs = true then (gapTo ys xs.length, 0) else (0, 15)) := fun l hl => by rw [← hyl]; exact disp_perm HOK.out hl (show ys.Perm xs from HP.out)
        go_loopw [68] (fun i wr => ∃ k : Nat, k ≤ 3 ∧ i = .int .i64 k ∧ Below (w5.heap.size + 1) (w5.alloc (.cells #[.slice (some ⟨b, off, none⟩) xs.length c, .slice A1 xs.length c1, .slice A5 xs.length c5] 22)) wr) (fun i _ => 3 - (intOf i).toNat)
        case atStart => exact ⟨0, by omega, rfl, Below.refl _ _⟩
        case round =>
          obtain ⟨k, hk, rfl, hbel⟩ := hrel
          by_cases hlt3 : k < 3
          · obtain ⟨Al, cl, l, hl, hcell, hrd⟩ := hrows.out k hlt3
            have hck := (gT.below hbel (Nat.lt_succ_self _)).cell k
            rw [hcell] at hck
            have hrd2 := (hrd.below (hbel.mono (Nat.le_succ _))).more (Nat.le_trans (by simp) hbel.size)
            have hokl := within_perm hl.symm HOK.out
            have hll : l.length = xs.length := hl.length_eq
            have hpi := parked_iff (xs := l) (by omega) (fun x hx' => by have := (within_zero hokl).2 x hx'; omega)
            rw [isR_perm hl] at hpi
            have hdl := HD.out l hl
            have hi3 : (k : Int) < 3 := by omega
            have H1 := fun w1 hb => is_ok Al cl l hokl w1 (hrd2.next (w' := w1) hb)
            have H2 := fun w1 hb => park_ok Al cl l hokl w1 (hrd2.next (w' := w1) hb)
            have H3 := fun w1 hb => disp_any Al cl l w1 (hrd2.next (w' := w1) hb)
            rw [hdl] at H3
            have HLL := Lib.hid hll
            rw [HQ.out] at hpi H3
            clear hrd hrd2 hcell hdl hll hokl hl hrows HQ
            cases q
            · have hp : ¬ (parkedS l).length = l.length := fun e => by have := hpi.1 e; cases this
              have hplt : (parkedS l).length ≤ l.length := parkedS_length l
              have hpe : (((parkedS l).length : Int) == (l.length : Int)) = false := by simp; omega
              simp only [decide_eq_false hp] at H1
              simp only [Bool.false_eq_true, if_false] at H3
              have H1 := Lib.hid H1
              have H2 := Lib.hid H2
              have H3 := Lib.hid H3
              clear hpi hp hplt
              go_wp2_with fail
              refine (H1.out wr (Below.refl _ _)).mono ?_
              rintro e w6 ⟨rfl, b6⟩
              go_wp2_with fail
              refine (H2.out w6 b6).mono ?_
              rintro e w7 ⟨A7, c7, rfl, o7, b7⟩
              have hB7 := b6.trans (b7.mono b6.size)
              go_wp2_with fail
              refine (H3.out w7 hB7).mono ?_
              rintro e w8 ⟨rfl, b8⟩
              have hB8 := hB7.trans (b8.mono hB7.size)
              go_wp2
              go_roundw
              case rel => exact ⟨k + 1, by omega, by go_num, hbel.trans (hB8.mono (Nat.le_trans (by simp) hbel.size))⟩
              case measure => simp [intOf]; omega
            · have hp : (parkedS l).length = l.length := hpi.2 rfl
              simp only [hp, decide_true] at H1 H2
              simp only [if_true] at H3
              have H1 := Lib.hid H1
              have H2 := Lib.hid H2
              have H3 := Lib.hid H3
              clear hpi hp
              go_wp2_with fail
              refine (H1.out wr (Below.refl _ _)).mono ?_
              rintro e w6 ⟨rfl, b6⟩
              go_wp2_with fail
              refine (H2.out w6 b6).mono ?_
              rintro e w7 ⟨A7, c7, rfl, o7, b7⟩
              have hB7 := b6.trans (b7.mono b6.size)
              go_wp2_with fail
              refine (H3.out w7 hB7).mono ?_
              rintro e w8 ⟨rfl, b8⟩
              have hB8 := hB7.trans (b8.mono hB7.size)
              go_wp2
              go_roundw
              case rel => exact ⟨k + 1, by omega, by go_num, hbel.trans (hB8.mono (Nat.le_trans (by simp) hbel.size))⟩
              case measure => simp [intOf]; omega
          · have hi3 : ¬ (k : Int) < 3 := by omega
            go_wp2_with fail
            refine (awake_any _).mono ?_
            rintro e w6 ⟨rfl, b6⟩
            go_wp2
            go_ret
            exact ⟨rfl, (hB6.trans (hbel.mono (Nat.le_succ_of_le hz5))).trans (b6.mono (Nat.le_trans (Nat.le_trans hz5 (by simp)) hbel.size))⟩)

theorem parkingRearranges_walk (w : World) (A : Option Addr) (c : Nat) (xs : List Int) (_hm : xs.length ≤ maxLen) (hc : xs.length ≤ c) (h : Reads w w.heap.size 1 A xs.length (ints xs)) (x : Int) (hx : (Lit.int .u8 x).wf = true) :
    Calls Try.prog 10 #[.slice A xs.length c, .int .u8 x] w fun e w' => e = .returned (.bool true) ∧ Below w.heap.size w w' := by
  obtain ⟨t, ht, rfl⟩ : ∃ t : Nat, t < 256 ∧ x = (t : Int) := by
    have h2 : IntKind.u8.min ≤ x ∧ x ≤ IntKind.u8.max := by simpa [Lit.wf] using hx
    simp [IntKind.min, IntKind.max, IntKind.bits, IntKind.signed] at h2
    exact ⟨x.toNat, by omega, by omega⟩
  by_cases hok : withinS xs 0 = 0
  · exact rearr_ok w A c t ht xs hc hok h
  · exact rearr_bad w A c t xs (by simpa using hok) h

namespace lawParkingRearranges
open Go.ChangeShapes Go.WideShapes Go.ChangeAt Go.RowKit
set_option linter.unusedVariables false
set_option maxRecDepth 100000 in
theorem lifted (os : Os) (started : os.Started) (H : Type) (enc : TypeId × Value → H) :
    ReturnsInHanded {} Try.checked os 10 .any (Rows.parkingRearrangesSpec.pre6 enc Try.prog Try.f10 Rows.parkingRearrangesRow.domain false) (Rows.parkingRearrangesSpec.post enc Try.prog Try.f10 false true false false) := by
  refine returnsInHanded_of_change (C := Try.checked) own started (by kernel_rfl) Try.func10
    (ChangeSpec.witness6 (enc := enc) (C := Try.checked) false ⟨#[], #[.slice none 0 0, .int .u8 0], []⟩ 8 (by kernel_rfl) (by kernel_rfl) (by kernel_rfl) (by kernel_rfl)) ?_
  intro W base args ds gs before hval0 hW hcnd _
  have hval : ∀ (j : Nat) t v, Try.f10.params[j]? = some t → args[j]? = some v → Value.okWide Try.prog W .any base t v := hval0
  have hW' := hW
  obtain ⟨p, q, hA0, hV, rfl, hfz, hnd⟩ := hW
  have hA : DataW.TrodAll enc Try.prog W 0 (fun _ => true) true Try.f10.params.toList args.toList ds p := hA0
  rw [Try.params10] at hA hval
  obtain ⟨v0, vs0, d0, ds0, p0, q0, hargs, rfl, rfl, h0, r0⟩ := trodAll_cons hA
  obtain ⟨v1, vs1, d1, ds1, p1, q1, rfl, rfl, rfl, h1, r1⟩ := trodAll_cons r0
  obtain ⟨rfl, rfl, rfl⟩ := trodAll_nil r1
  obtain rfl : args = #[v0, v1] := by cases args; simp_all
  obtain ⟨rfl, rfl⟩ := trodVars_none hV
  obtain ⟨a0, len0, cap0, rfl⟩ := okWide_slice Try.underlying22 (hval 0 22 v0 rfl rfl)
  have k0 := h0
  have lt0 : ∀ x ∈ p0, x.block < W.heap.size := by obtain ⟨m, hm⟩ := k0; exact DataW.trod_lt m _ _ _ hm
  obtain ⟨z0, w0⟩ : ∃ zs, IsRow .i64 W a0 len0 cap0 zs := by
    obtain ⟨fuel, hf⟩ := h0
    rcases open_ints Try.underlying22 Try.underlying3 (by kernel_rfl) hf with ⟨hcs, _⟩ | ⟨x, l, c, zs, hcs, _, hl, hm, hz, _, hcell, hwz⟩
    · simp [Value.cells] at hcs
      obtain ⟨rfl, rfl, rfl⟩ := hcs
      exact ⟨[], .inl ⟨rfl, rfl, rfl, rfl⟩⟩
    · simp [Value.cells] at hcs
      obtain ⟨rfl, rfl, rfl⟩ := hcs
      exact ⟨zs, .inr ⟨_, rfl, hl, hm, by simpa using hz, hcell, hwz⟩⟩
  have hcap0 : len0 ≤ cap0 := by
    rcases w0 with ⟨_, h1, h2, _⟩ | ⟨_, _, h1, _⟩
    · omega
    · exact h1
  obtain ⟨xs0, rfl, hm0, hr0, hw0⟩ := w0.reads
  obtain ⟨a1, rfl, rfl, rfl, w1⟩ := open_int Try.underlying5 (hval 1 5 v1 rfl rfl) h1
  clear hA0 hval0
  refine (parkingRearranges_walk W a0 cap0 xs0 hm0 hcap0 hr0 a1 w1).mono fun e W' ⟨he, bel⟩ => ?_
  subst he
  exact ⟨_, rfl, _, _, _, [], _, [], hW', trodAll_mk1 (shut_bool Try.underlying4 _), (trodAll_cons_mk (Below.trod laidOut (by kernel_rfl) (of_decide_eq_true (by kernel_rfl)) k0 bel lt0) (trodAll_cons_mk (shut_int Try.underlying5 w1) trodAll_mk0)), rfl, bel.frame _, fun h => by cases h⟩

theorem over : Rows.parkingRearrangesRow.holds Try.pinned (OpenSpec.ofChange Rows.parkingRearrangesSpec) :=
  OpenClaim.holds_of_wide 10 Try.f10 rfl rfl rfl rfl rfl rfl rfl ⟨rfl, rfl, rfl, rfl, rfl⟩ rfl rfl rfl rfl rfl (by kernel_rfl) Try.func10 (by kernel_rfl)
    (of_decide_eq_true (by kernel_rfl)) (by unfold Func.isWrapper; first | (rw [if_pos (by decide +kernel)]; kernel_rfl) | (rw [if_neg (by decide +kernel)]; exact ⟨rfl, rfl⟩))
    (fun os started H enc _ => lifted os started H enc)

/-- For every list of ints and every byte the law ParkingRearranges answers true: preferences are a parking function exactly if the one with the index i, in ascending order, is at most i; exactly then all cars park, in whatever order they come; and the displacement does not depend on it. There are no conditions. -/
theorem proved : Rows.ParkingRearrangesSaid := over
#print axioms proved
end lawParkingRearranges

end Go.Proofs.Ytjeggocindcgaaa
