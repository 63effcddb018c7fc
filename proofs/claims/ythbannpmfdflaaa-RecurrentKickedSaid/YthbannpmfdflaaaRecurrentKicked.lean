/-
  For every graph, sink and configuration the law RecurrentKicked answers true: a stable configuration is recurrent exactly if kicking it changes nothing, while each vertex other than the sink fires once; no vertex fires more than once. There are no conditions on the arguments.
-/
import Derived.Test.YthbannpmfdflaaaK26
import Derived.Test.YthbannpmfdflaaaK29
import Derived.Test.YthbannpmfdflaaaK30
namespace Go.Proofs.Ythbannpmfdflaaa
open Go.RowKit

/-- Has each of the first k vertices but the sink fired once? -/
def onceTo (q : Nat) (ss : List Int) (k : Nat) : Bool := (List.range k).all fun v => decide (v = q) || decide (ss.getD v 0 = 1)
theorem onceTo_succ (q : Nat) (ss : List Int) (k : Nat) : onceTo q ss (k + 1) = (onceTo q ss k && (decide (k = q) || decide (ss.getD k 0 = 1))) := by simp [onceTo, List.range_succ]
theorem onceTo_iff {q n : Nat} {ss : List Int} : onceTo q ss n = true ↔ ∀ v, v < n → v = q ∨ ss.getD v 0 = 1 := by
  unfold onceTo
  rw [List.all_eq_true]
  constructor
  · intro h v hv
    have := h v (List.mem_range.2 hv)
    rw [Bool.or_eq_true] at this
    exact this.imp of_decide_eq_true of_decide_eq_true
  · intro h v hv
    rw [Bool.or_eq_true]
    exact (h v (List.mem_range.1 hv)).imp decide_eq_true decide_eq_true

set_option maxRecDepth 100000 in
set_option maxHeartbeats 4000000 in
theorem recurrentKicked_walk (w : World) (n : Int) (A : Option Addr) (c : Nat) (es : List E3) (_hm : es.length ≤ maxLen) (_hw : (Lit.int .i64 n).wf = true) (h : Reads w w.heap.size 3 A es.length (edgeCells es)) (q : Int) (_hq : (Lit.int .i64 q).wf = true)
    (B : Option Addr) (d : Nat) (cs : List Int) (_hm' : cs.length ≤ maxLen) (_hw' : ∀ x ∈ cs, (Lit.int .i64 x).wf = true) (h' : Reads w w.heap.size 1 B cs.length (ints cs)) :
    Calls Try.prog 11 #[.agg #[.int .i64 n, .slice A es.length c], .int .i64 q, .slice B cs.length d] w fun e w' => e = .returned (.bool true) ∧ Below w.heap.size w w' := by
  have RC := Lib.hid (fun w h h' => right24_any n A c es q B d cs w h h')
  have g0 := Blk.new w 24 #[.int .i64 n, .slice A es.length c]
  have hb0 : Below w.heap.size w (w.alloc (.cells #[.int .i64 n, .slice A es.length c] 24)) := (Below.refl _ _).alloc (Nat.le_refl _) _
  cases hf : rightB n es q cs
  · have HF := Lib.hid hf
    clear hf
    go_enter Try.func11, Try.ntmps11
    go_wp2_with fail
    refine (RC.out _ ((h.alloc (Nat.le_refl _) _).more (by simp)) ((h'.alloc (Nat.le_refl _) _).more (by simp))).mono ?_
    rintro e w1 ⟨he, hb1⟩
    rw [HF.out] at he
    subst he
    have hB1 := hb0.trans (hb1.mono hb0.size)
    go_wp2_with fail
    refine (awake24_any w1).mono ?_
    rintro e w2 ⟨rfl, hb2⟩
    go_wp2
    go_ret
    exact ⟨rfl, hB1.trans (hb2.mono hB1.size)⟩
  · obtain ⟨h1, h2, h6, h60, hz⟩ := right_parts hf
    obtain ⟨hG, _, hq0, hqn, hlen, hbd, _⟩ := conf_zero (burn_zero hz).1
    have hlo := hG.lo
    obtain ⟨m, rfl⟩ := Int.eq_ofNat_of_zero_le (show 0 ≤ n by omega)
    obtain ⟨p, rfl⟩ := Int.eq_ofNat_of_zero_le hq0
    have hcl : cs.length = m := by omega
    have HF := Lib.hid hf
    have CC := Lib.hid (fun (W : World) (hB : Below w.heap.size w W) => calm19_any m A c es (by omega) hG p B d cs hcl W ((h.below hB).more hB.size) (by rw [← hcl]; exact (h'.below hB).more hB.size))
    have RR := Lib.hid (fun (W : World) (hB : Below w.heap.size w W) => recurrent_ok m A c es (by omega) p B d cs hz W ((h.below hB).more hB.size) ((h'.below hB).more hB.size))
    have KK := Lib.hid (fun (W : World) (hB : Below w.heap.size w W) => kick_ok m A c es (by omega) p B d cs hz W ((h.below hB).more hB.size) ((h'.below hB).more hB.size))
    have KP := Lib.hid (fun (hst : stabTo es cs p m = true) (ds ss : List Int) (er : Int) (hS : SetE m es p (kickL es p cs) ds ss er) => kick_plain hz h1 h60 hst hS)
    have hE : recE m es p cs = if recB m es cs p then (true, natI (recL m es cs p), 0) else (false, [], 0) := by unfold recE; rw [if_pos hz]; simp
    have HE1 : Hid ((recE m es p cs).1 = recB m es cs p) := by rw [Hid, hE]; cases recB m es cs p <;> rfl
    have HE3 : Hid ((recE m es p cs).2.2 = 0) := by rw [Hid, hE]; cases recB m es cs p <;> rfl
    have HCL := Lib.hid hcl
    have hpm : p < m := by omega
    rw [hcl] at RC RR KK h' ⊢
    clear hf hz hbd h60 hG hE hlen hcl
    go_enter Try.func11, Try.ntmps11
    go_wp2_with fail
    refine (RC.out _ ((h.alloc (Nat.le_refl _) _).more (by simp)) ((h'.alloc (Nat.le_refl _) _).more (by simp))).mono ?_
    rintro e w1 ⟨he, hb1⟩
    rw [HF.out] at he
    subst he
    have hB1 := hb0.trans (hb1.mono hb0.size)
    have g1 := g0.next hb1
    have c0 := g1.cell 0
    have c1 := g1.cell 1
    clear g0 hb1
    go_wp2_with fail
    refine (CC.out _ hB1).mono ?_
    rintro e w2 ⟨rfl, hb2⟩
    have hB2 := hB1.trans (hb2.mono hB1.size)
    have g2 := g1.next hb2
    have c0 := g2.cell 0
    have c1 := g2.cell 1
    clear g1 hb2
    cases hS : stabTo es cs p m
    · clear hS
      go_wp2_with fail
      refine (awake24_any w2).mono ?_
      rintro e w3 ⟨rfl, hb3⟩
      go_wp2
      go_ret
      exact ⟨rfl, hB2.trans (hb3.mono hB2.size)⟩
    · have HST := Lib.hid hS
      clear hS
      go_wp2_with fail
      refine (RR.out _ hB2).mono ?_
      rintro e w3 ⟨A3, c3, rfl, _, hb3⟩
      have hB3 := hB2.trans (hb3.mono hB2.size)
      have g3 := g2.next hb3
      have c0 := g3.cell 0
      have c1 := g3.cell 1
      rw [HE1.out, HE3.out]
      clear g2 hb3
      go_wp2_with fail
      refine (KK.out _ hB3).mono ?_
      rintro e w4 ⟨ds, ss, er, A4, c4, A5, c5, hSE, rfl, o4, r5, hb4⟩
      have hB4 := hB3.trans (hb4.mono hB3.size)
      have g4 := g3.next hb4
      have c0 := g4.cell 0
      have c1 := g4.cell 1
      obtain ⟨rfl, hsl, hsq, hs01, hon, heq⟩ := KP.out HST.out ds ss er hSE
      obtain ⟨b5, o5, hA5, hb5, hc5⟩ := r5.at_ (ints_at (show ss[p]? = some 0 by
        obtain ⟨z, hz⟩ := get_of_lt (xs := ss) (k := p) (by omega)
        rw [getD_at hz] at hsq
        rw [hz, hsq]))
      subst hA5
      have HSL := Lib.hid hsl
      have HS01 := Lib.hid hs01
      have hrec1 : recB m es cs p = onceTo p ss m := by rw [Bool.eq_iff_iff, hon, onceTo_iff]
      have hrec2 : recB m es cs p = decide (cs = ds) := by rw [Bool.eq_iff_iff, heq, decide_eq_true_iff]
      have HR1 := Lib.hid hrec1
      have HR2 := Lib.hid hrec2
      have hpi : (p : Int) < (ss.length : Int) := by omega
      have hpi0 : ¬ (p : Int) < 0 := by omega
      have hlm : ((ss.length : Int) != (m : Int)) = false := by simp; omega
      have R5 := Lib.hid r5
      obtain ⟨rb, hrb⟩ : ∃ rb, recB m es cs p = rb := ⟨_, rfl⟩
      rw [hrb] at HR1 HR2 ⊢
      clear g3 hb4 hsl hsq hs01 hon heq hrec1 hrec2 hrb hSE r5
      have hB4' := Lib.hid hB4
      have HG4 := Lib.hid g4
      have HO4 := Lib.hid o4
      go_wp2_with fail
      go_loopw [13, 14, 15, 67] (fun on _ _ i wl => ∃ k : Nat, i = .int .i64 k ∧ k ≤ ss.length ∧ on = .bool (onceTo p ss k) ∧ wl = w4) (fun _ _ _ i _ => ss.length - (intOf i).toNat)
      case atStart => exact ⟨0, rfl, by omega, rfl, rfl⟩
      case round =>
        obtain ⟨k, rfl, hk, rfl, rfl⟩ := hrel
        clear c0 c1 hlm
        have hsm : ss.length ≤ 6 := by have := HSL.out; omega
        by_cases hlt : k < ss.length
        · obtain ⟨x, hx⟩ := get_of_lt hlt
          have hx01 := HS01.out k (by have := HSL.out; omega)
          rw [getD_at hx] at hx01
          obtain ⟨b6, o6, hA6, hb6, hc6⟩ := R5.out.at_ (ints_at hx)
          injection hA6 with hA6
          injection hA6 with q1 q2
          subst q1 q2
          have hos := onceTo_succ p ss k
          rw [getD_at hx] at hos
          have hi : (k : Int) < (ss.length : Int) := by omega
          have hx0 : ¬ x < 0 := by omega
          have hx1 : ¬ (1 : Int) < x := by omega
          obtain ⟨ob, hob⟩ : ∃ ob, onceTo p ss k = ob := ⟨_, rfl⟩
          rw [hob] at hos ⊢
          clear hx hob hx01
          cases ob
          · have HOS : Hid (onceTo p ss (k + 1) = false) := hos
            clear hos
            go_wp2
            go_roundw
            case rel => exact ⟨k + 1, by go_num, by omega, by rw [HOS.out], trivial⟩
            case measure => simp [intOf]; omega
          · rw [Bool.true_and] at hos
            by_cases hkp : k = p
            · rw [decide_eq_true hkp, Bool.true_or] at hos
              have HOS := Lib.hid hos
              have hke : ((k : Int) == (p : Int)) = true := by simp [hkp]
              clear hos hkp
              go_wp2
              go_roundw
              case rel => exact ⟨k + 1, by go_num, by omega, by rw [HOS.out], trivial⟩
              case measure => simp [intOf]; omega
            · rw [decide_eq_false hkp, Bool.false_or] at hos
              have hke : ((k : Int) == (p : Int)) = false := by simp; omega
              by_cases hxe : x = 1
              · rw [decide_eq_true hxe] at hos
                have HOS := Lib.hid hos
                have hxq : (x == 1) = true := by simp [hxe]
                clear hos hkp hxe
                go_wp2
                go_roundw
                case rel => exact ⟨k + 1, by go_num, by omega, by rw [HOS.out], trivial⟩
                case measure => simp [intOf]; omega
              · rw [decide_eq_false hxe] at hos
                have HOS := Lib.hid hos
                have hxq : (x == 1) = false := by simp [hxe]
                clear hos hkp hxe
                go_wp2
                go_roundw
                case rel => exact ⟨k + 1, by go_num, by omega, by rw [HOS.out], trivial⟩
                case measure => simp [intOf]; omega
        · have hkl : k = m := by have := HSL.out; omega
          have hor : onceTo p ss k = rb := by rw [hkl]; exact HR1.out.symm
          rw [hor]
          have DQ := dequal_any B d cs A4 c4 ds (by have := HCL.out; omega) wr ((h'.below hB4).more hB4.size |> fun r => by rw [HCL.out]; exact r) HO4.out.reads
          rw [HCL.out, ← HR2.out] at DQ
          have DQ := Lib.hid DQ
          clear hor hkl
          cases rb
          · go_wp2_with fail
            refine (DQ.out).mono ?_
            rintro e w6 ⟨rfl, hb6⟩
            have hB6 := hB4.trans (hb6.mono hB4.size)
            go_wp2_with fail
            refine (awake24_any w6).mono ?_
            rintro e w7 ⟨rfl, hb7⟩
            go_wp2
            go_ret
            exact ⟨rfl, hB6.trans (hb7.mono hB6.size)⟩
          · go_wp2_with fail
            refine (DQ.out).mono ?_
            rintro e w6 ⟨rfl, hb6⟩
            have hB6 := hB4.trans (hb6.mono hB4.size)
            go_wp2_with fail
            refine (awake24_any w6).mono ?_
            rintro e w7 ⟨rfl, hb7⟩
            go_wp2
            go_ret
            exact ⟨rfl, hB6.trans (hb7.mono hB6.size)⟩

namespace lawRecurrentKicked
open Go.ChangeShapes Go.WideShapes Go.ChangeAt Go.RowKit
set_option linter.unusedVariables false
set_option maxRecDepth 100000 in
theorem lifted (os : Os) (started : os.Started) (H : Type) (enc : TypeId × Value → H) :
    ReturnsInHanded {} Try.checked os 11 .any (Rows.recurrentKickedSpec.pre6 enc Try.prog Try.f11 Rows.recurrentKickedRow.domain false) (Rows.recurrentKickedSpec.post enc Try.prog Try.f11 false true false false) := by
  refine returnsInHanded_of_change (C := Try.checked) own started (by kernel_rfl) Try.func11
    (ChangeSpec.witness6 (enc := enc) (C := Try.checked) false ⟨#[], #[.agg #[.int .i64 0, .slice none 0 0], .int .i64 0, .slice none 0 0], []⟩ 8 (by kernel_rfl) (by kernel_rfl) (by kernel_rfl) (by kernel_rfl)) ?_
  intro W base args ds gs before hval0 hW hcnd _
  have hval : ∀ (j : Nat) t v, Try.f11.params[j]? = some t → args[j]? = some v → Value.okWide Try.prog W .any base t v := hval0
  have hW' := hW
  obtain ⟨p, q, hA0, hV, rfl, hfz, hnd⟩ := hW
  have hA : DataW.TrodAll enc Try.prog W 0 (fun _ => true) true Try.f11.params.toList args.toList ds p := hA0
  rw [Try.params11] at hA hval
  obtain ⟨v0, vs0, d0, ds0, p0, q0, hargs, rfl, rfl, h0, r0⟩ := trodAll_cons hA
  obtain ⟨v1, vs1, d1, ds1, p1, q1, rfl, rfl, rfl, h1, r1⟩ := trodAll_cons r0
  obtain ⟨v2, vs2, d2, ds2, p2, q2, rfl, rfl, rfl, h2, r2⟩ := trodAll_cons r1
  obtain ⟨rfl, rfl, rfl⟩ := trodAll_nil r2
  obtain rfl : args = #[v0, v1, v2] := by cases args; simp_all
  obtain ⟨rfl, rfl⟩ := trodVars_none hV
  obtain ⟨cs0, rfl, _⟩ := okWide_struct Try.underlying24 (hval 0 24 v0 rfl rfl)
  have k0 := h0
  have lt0 : ∀ x ∈ p0, x.block < W.heap.size := by obtain ⟨m, hm⟩ := k0; exact DataW.trod_lt m _ _ _ hm
  obtain ⟨_, hf0⟩ := h0
  obtain ⟨n0, a0, cap0, xs0, hcs0, hm0, hr0, hw0⟩ := open_graph hf0
  obtain rfl : cs0 = #[.int .i64 n0, .slice a0 xs0.length cap0] := Array.toList_inj.1 hcs0
  obtain ⟨a1, rfl, rfl, rfl, w1⟩ := open_int Try.underlying3 (hval 1 3 v1 rfl rfl) h1
  obtain ⟨b2, len2, c2, rfl⟩ := okWide_slice Try.underlying26 (hval 2 26 v2 rfl rfl)
  have k2 := h2
  have lt2 : ∀ x ∈ p2, x.block < W.heap.size := by obtain ⟨m, hm⟩ := k2; exact DataW.trod_lt m _ _ _ hm
  obtain ⟨_, hf2⟩ := h2
  obtain ⟨a2, cap2, xs2, hcs2, hm2, hr2, hw2⟩ := open_row Try.underlying26 hf2
  obtain ⟨rfl, rfl, rfl⟩ : b2 = a2 ∧ len2 = xs2.length ∧ c2 = cap2 := by simpa [Value.cells] using hcs2
  clear hA0 hval0
  refine (recurrentKicked_walk W n0 a0 cap0 xs0 hm0 hw0 hr0 a1 w1 b2 c2 xs2 hm2 hw2 hr2).mono fun e W' ⟨he, bel⟩ => ?_
  subst he
  exact ⟨_, rfl, _, _, _, [], _, [], hW', trodAll_mk1 (shut_bool Try.underlying4 _), (trodAll_cons_mk (Below.trod laidOut (by kernel_rfl) (of_decide_eq_true (by kernel_rfl)) k0 bel lt0) (trodAll_cons_mk (shut_int Try.underlying3 w1) (trodAll_cons_mk (Below.trod laidOut (by kernel_rfl) (of_decide_eq_true (by kernel_rfl)) k2 bel lt2) trodAll_mk0))), rfl, bel.frame _, fun h => by cases h⟩

theorem over : Rows.recurrentKickedRow.holds Try.pinned (OpenSpec.ofChange Rows.recurrentKickedSpec) :=
  OpenClaim.holds_of_wide 11 Try.f11 rfl rfl rfl rfl rfl rfl rfl ⟨rfl, rfl, rfl, rfl, rfl⟩ rfl rfl rfl rfl rfl (by kernel_rfl) Try.func11 (by kernel_rfl)
    (of_decide_eq_true (by kernel_rfl)) (by unfold Func.isWrapper; first | (rw [if_pos (by decide +kernel)]; kernel_rfl) | (rw [if_neg (by decide +kernel)]; exact ⟨rfl, rfl⟩))
    (fun os started H enc _ => lifted os started H enc)

/-- a stable configuration is recurrent exactly if kicking it changes nothing, while each vertex other than the sink fires once; no vertex fires more than once -/
theorem proved : Rows.RecurrentKickedSaid := over
#print axioms proved
end lawRecurrentKicked
end Go.Proofs.Ythbannpmfdflaaa
