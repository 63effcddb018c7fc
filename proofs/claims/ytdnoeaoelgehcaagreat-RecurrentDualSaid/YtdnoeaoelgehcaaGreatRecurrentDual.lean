/-
  For every graph, sink and configuration the law RecurrentDual answers true: a stable configuration is recurrent exactly if its dual is superstable, and exactly if no set is forbidden; the order proves it; the dual of the dual is itself. There are no conditions on the arguments.
-/
import Derived.Test.YtdnoeaoelgehcaaGreatK26
import Derived.Test.YtdnoeaoelgehcaaGreatK29
import Derived.Test.YtdnoeaoelgehcaaGreatK30
import Derived.Test.YtdnoeaoelgehcaaGreatK34
import Derived.Test.YtdnoeaoelgehcaaGreatK25
import Derived.Test.YtdnoeaoelgehcaaGreatK31
import Derived.Test.YtdnoeaoelgehcaaGreatK35
import Derived.Test.YtdnoeaoelgehcaaGreatK01
namespace Go.Proofs.YtdnoeaoelgehcaaGreat
open Go.RowKit

set_option maxRecDepth 100000 in
set_option maxHeartbeats 4000000 in
theorem recurrentDual_walk (w : World) (n : Int) (A : Option Addr) (c : Nat) (es : List E3) (_hm : es.length ≤ maxLen) (_hw : (Lit.int .i64 n).wf = true) (h : Reads w w.heap.size 3 A es.length (edgeCells es)) (q : Int) (_hq : (Lit.int .i64 q).wf = true)
    (B : Option Addr) (d : Nat) (cs : List Int) (_hm' : cs.length ≤ maxLen) (_hw' : ∀ x ∈ cs, (Lit.int .i64 x).wf = true) (h' : Reads w w.heap.size 1 B cs.length (ints cs)) :
    Calls Tryz.prog 5 #[.agg #[.int .i64 n, .slice A es.length c], .int .i64 q, .slice B cs.length d] w fun e w' => e = .returned (.bool true) ∧ Below w.heap.size w w' := by
  have RC := Lib.hid (fun w h h' => right24_any n A c es q B d cs w h h')
  have g0 := Blk.new w 24 #[.int .i64 n, .slice A es.length c]
  have hb0 : Below w.heap.size w (w.alloc (.cells #[.int .i64 n, .slice A es.length c] 24)) := (Below.refl _ _).alloc (Nat.le_refl _) _
  cases hf : rightB n es q cs
  · have HF := Lib.hid hf
    clear hf
    go_enter Tryz.func5, Tryz.ntmps5
    go_wp2_with fail
    refine (RC.out _ ((h.alloc (Nat.le_refl _) _).more (by simp)) ((h'.alloc (Nat.le_refl _) _).more (by simp))).mono ?_
    rintro e w1 ⟨he, hb1⟩
    rw [HF.out] at he
    subst he
    have hB1 := hb0.trans (hb1.mono hb0.size)
    go_wp2_with fail
    refine (awake24_any w1).mono ?_
    rintro e w2 ⟨rfl, hb2⟩
    go_wp2
    go_ret
    exact ⟨rfl, hB1.trans (hb2.mono hB1.size)⟩
  · obtain ⟨h1, h2, h6, h60, hz⟩ := right_parts hf
    obtain ⟨hG, _, hq0, hqn, hlen, hbd, _⟩ := conf_zero (burn_zero hz).1
    have hlo := hG.lo
    obtain ⟨m, rfl⟩ := Int.eq_ofNat_of_zero_le (show 0 ≤ n by omega)
    obtain ⟨p, rfl⟩ := Int.eq_ofNat_of_zero_le hq0
    have hcl : cs.length = m := by omega
    have HF := Lib.hid hf
    have hcl12 : cs.length ≤ 12 := by omega
    have P1 := Lib.hid (fun w h h' => dualE_any m A c es (by omega) p B d cs (by omega) w h h')
    have P2 := Lib.hid (fun w h h' => recurrent_any m A c es (by omega) p B d cs (by omega) w h h')
    cases hS : stabTo es cs p m
    · have hd : dulE m es p cs = ([], 15) := by unfold dulE; rw [if_pos hz]; simp [hS]
      have hr : recE m es p cs = (false, [], 0) := by
        have : recB m es cs p = false := by unfold recB; rw [hS]; rfl
        unfold recE; rw [if_pos hz]; simp [this]
      rw [hd] at P1
      rw [hr] at P2
      clear hf hz hbd h60 hG hlen hcl hS hd hr
      go_enter Tryz.func5, Tryz.ntmps5
      go_wp2_with fail
      refine (RC.out _ ((h.alloc (Nat.le_refl _) _).more (by simp)) ((h'.alloc (Nat.le_refl _) _).more (by simp))).mono ?_
      rintro e w1 ⟨he, hb1⟩
      rw [HF.out] at he
      subst he
      have hB1 := hb0.trans (hb1.mono hb0.size)
      have g1 := g0.next hb1
      have c0 := g1.cell 0
      have c1 := g1.cell 1
      clear g0 hb1
      go_wp2_with fail
      refine (P1.out _ ((h.below hB1).more hB1.size) ((h'.below hB1).more hB1.size)).mono ?_
      rintro e w2 ⟨A2, c2, rfl, o2, hb2⟩
      have hB2 := hB1.trans (hb2.mono hB1.size)
      have g2 := g1.next hb2
      have c0 := g2.cell 0
      have c1 := g2.cell 1
      clear g1 hB1 hb2 o2
      go_wp2_with fail
      refine (P2.out _ ((h.below hB2).more hB2.size) ((h'.below hB2).more hB2.size)).mono ?_
      rintro e w3 ⟨A3, c3, rfl, o3, hb3⟩
      have hB3 := hB2.trans (hb3.mono hB2.size)
      go_wp2_with fail
      refine (awake24_any w3).mono ?_
      rintro e w4 ⟨rfl, hb4⟩
      go_wp2
      go_ret
      exact ⟨rfl, hB3.trans (hb4.mono hB3.size)⟩
    · obtain ⟨a1, a2, a3, a4, a5, a6⟩ := dual_plain (by omega) hz hS
      have hd : dulE m es p cs = (dulL m es cs p, 0) := by unfold dulE; rw [if_pos hz]; simp [hS]
      have hd2 : dulE m es p (dulL m es cs p) = (cs, 0) := by unfold dulE; rw [if_pos a1]; simp [a2, a3]
      have hr : ∃ L, recE m es p cs = (recB m es cs p, L, 0) ∧ (recB m es cs p = false → L = []) ∧ L.length ≤ 12 ∧ (recB m es cs p = true → L = natsI (recL m es cs p)) := by
        have hl := recE_len m es p cs
        unfold recE at hl ⊢
        rw [if_pos hz] at hl ⊢
        simp only [Int.toNat_natCast] at hl ⊢
        cases hb : recB m es cs p
        · exact ⟨[], by simp, fun _ => rfl, by simp, fun h => by cases h⟩
        · rw [hb] at hl
          exact ⟨natsI (recL m es cs p), by simp; rfl, (fun h => by cases h), by simpa [natI, natsI] using hl, fun _ => rfl⟩
      obtain ⟨L, hr, hL0, hL12, hL1⟩ := hr
      have hfb : forbE m es p cs = (natI (worstL m es cs p), 0) := by unfold forbE; rw [if_pos hz]; simp
      have hsu : superE m es p (dulL m es cs p) = (recB m es cs p, 0) := by unfold superE; rw [if_pos a1, ← a4]; simp
      have hDl := dulL_length m es cs p
      have hwl : ((((natI (worstL m es cs p)).length : Nat) : Int) == 0) = recB m es cs p := by
        rw [a5, Bool.eq_iff_iff, natI_length]; simp
      have P3 := Lib.hid (fun D f w h h' => dualE_any m A c es (by omega) p D f (dulL m es cs p) (by omega) w h h')
      have P4 := Lib.hid (fun D f w h h' => super_any m A c es (by omega) p D f (dulL m es cs p) (by omega) w h h')
      have P5 := Lib.hid (fun w h h' => forb_any m A c es (by omega) p B d cs (by omega) w h h')
      have VC := Lib.hid (fun D f xs hf hs w r1 r2 r3 => recver_any m A c es (by omega) p B d cs (by omega) D f xs hf hs w r1 r2 r3)
      have VD := Lib.hid (fun E g D f xs hf hs w r1 r2 r3 => verify_any m A c es (by omega) p E g (dulL m es cs p) (by omega) D f xs hf hs w r1 r2 r3)
      rw [hd] at P1
      rw [hr] at P2
      rw [hd2] at P3
      rw [hsu] at P4
      rw [hfb] at P5
      have A6 := Lib.hid a6
      obtain ⟨D, hD⟩ : ∃ D, dulL m es cs p = D := ⟨_, rfl⟩
      rw [hD] at P1 P3 P4 VD A6 hDl
      obtain ⟨X, hX⟩ : ∃ X, natI (worstL m es cs p) = X := ⟨_, rfl⟩
      rw [hX] at P5 hwl
      obtain ⟨ok, hok⟩ : ∃ b, recB m es cs p = b := ⟨_, rfl⟩
      rw [hok] at P2 P4 hwl hL0 hL1 A6
      have HL0 := Lib.hid hL0
      have HL1 := Lib.hid hL1
      have EQ := Lib.hid (fun E f w h h' => dequal_any E f cs B d cs (by omega) w h h')
      have HD12 : Hid (D.length ≤ 12) := by show D.length ≤ 12; omega
      clear hf hz hbd h60 hG hlen hcl hS hd hr hd2 hfb hsu hD hX hok a1 a2 a3 a4 a5 a6 hL0 hL1 hDl
      go_enter Tryz.func5, Tryz.ntmps5
      go_wp2_with fail
      refine (RC.out _ ((h.alloc (Nat.le_refl _) _).more (by simp)) ((h'.alloc (Nat.le_refl _) _).more (by simp))).mono ?_
      rintro e w1 ⟨he, hb1⟩
      rw [HF.out] at he
      subst he
      have hB1 := hb0.trans (hb1.mono hb0.size)
      have g1 := g0.next hb1
      have c0 := g1.cell 0
      have c1 := g1.cell 1
      clear g0 hb1
      go_wp2_with fail
      refine (P1.out _ ((h.below hB1).more hB1.size) ((h'.below hB1).more hB1.size)).mono ?_
      rintro e w2 ⟨A2, c2, rfl, o2, hb2⟩
      have hB2 := hB1.trans (hb2.mono hB1.size)
      have g2 := g1.next hb2
      have c0 := g2.cell 0
      have c1 := g2.cell 1
      have r2 := o2.reads
      clear g1 hB1 hb2 o2
      go_wp2_with fail
      refine (P2.out _ ((h.below hB2).more hB2.size) ((h'.below hB2).more hB2.size)).mono ?_
      rintro e w3 ⟨A3, c3, rfl, o3, hb3⟩
      have hB3 := hB2.trans (hb3.mono hB2.size)
      have g3 := g2.next hb3
      have c0 := g3.cell 0
      have c1 := g3.cell 1
      have r2 := r2.next hb3
      have r3 := o3.reads
      have hcap := Lib.hid (own_cap o3)
      clear g2 hB2 hb3 o3
      go_wp2_with fail
      refine (P3.out _ _ _ ((h.below hB3).more hB3.size) (by exact r2)).mono ?_
      rintro e w4 ⟨A4, c4, rfl, o4, hb4⟩
      have hB4 := hB3.trans (hb4.mono hB3.size)
      have g4 := g3.next hb4
      have c0 := g4.cell 0
      have c1 := g4.cell 1
      have r2 := r2.next hb4
      have r3 := r3.next hb4
      have r4 := o4.reads
      clear g3 hB3 hb4 o4
      go_wp2_with fail
      refine (P4.out _ _ _ ((h.below hB4).more hB4.size) (by exact r2)).mono ?_
      rintro e w5 ⟨rfl, hb5⟩
      have hB5 := hB4.trans (hb5.mono hB4.size)
      have g5 := g4.next hb5
      have c0 := g5.cell 0
      have c1 := g5.cell 1
      have r2 := r2.next hb5
      have r3 := r3.next hb5
      have r4 := r4.next hb5
      clear g4 hB4 hb5
      go_wp2_with fail
      refine (P5.out _ ((h.below hB5).more hB5.size) ((h'.below hB5).more hB5.size)).mono ?_
      rintro e w6 ⟨A6', c6, rfl, o6, hb6⟩
      have hB6 := hB5.trans (hb6.mono hB5.size)
      have g6 := g5.next hb6
      have c0 := g6.cell 0
      have c1 := g6.cell 1
      have r2 := r2.next hb6
      have r3 := r3.next hb6
      have r4 := r4.next hb6
      clear g5 hB5 hb6 o6
      go_wp2_with fail
      refine (EQ.out _ _ _ (by exact r4) ((h'.below hB6).more hB6.size)).mono ?_
      rintro e w7 ⟨he, hb7⟩
      rw [decide_true] at he
      subst he
      have hB7 := hB6.trans (hb7.mono hB6.size)
      have g7 := g6.next hb7
      have c0 := g7.cell 0
      have c1 := g7.cell 1
      have r2 := r2.next hb7
      have r3 := r3.next hb7
      clear g6 hB6 hb7 r4
      cases ok
      · obtain rfl := HL0.out rfl
        go_wp2_with fail
        refine (awake24_any w7).mono ?_
        rintro e w8 ⟨rfl, hb8⟩
        go_wp2
        go_ret
        exact ⟨rfl, hB7.trans (hb8.mono hB7.size)⟩
      · obtain ⟨v1, v2, v3, v4⟩ := A6.out rfl
        rw [← HL1.out rfl] at v1 v2 v3 v4
        have VB := VC.out A3 c3 L (by exact hcap.out) (by omega) w7 ((h.below hB7).more hB7.size) ((h'.below hB7).more hB7.size) r3
        rw [v1, v2] at VB
        have VB := Lib.hid VB
        have VE := VD.out A2 c2 A3 c3 L (by exact hcap.out) (by omega)
        rw [v3, v4] at VE
        have VE := Lib.hid VE
        clear v1 v2 v3 v4
        go_wp2_with fail
        refine (VB.out).mono ?_
        rintro e w8 ⟨rfl, hb8⟩
        have hB8 := hB7.trans (hb8.mono hB7.size)
        have g8 := g7.next hb8
        have c0 := g8.cell 0
        have c1 := g8.cell 1
        have r2 := r2.next hb8
        have r3 := r3.next hb8
        clear g7 hB7 hb8 VB
        go_wp2_with fail
        refine (VE.out _ ((h.below hB8).more hB8.size) (by exact r2) (by exact r3)).mono ?_
        rintro e w9 ⟨rfl, hb9⟩
        have hB9 := hB8.trans (hb9.mono hB8.size)
        go_wp2_with fail
        refine (awake24_any w9).mono ?_
        rintro e w10 ⟨rfl, hb10⟩
        go_wp2
        go_ret
        exact ⟨rfl, hB9.trans (hb10.mono hB9.size)⟩

namespace lawRecurrentDual
open Go.ChangeShapes Go.WideShapes Go.ChangeAt Go.RowKit
set_option linter.unusedVariables false
set_option maxRecDepth 100000 in
theorem lifted (os : Os) (started : os.Started) (H : Type) (enc : TypeId × Value → H) :
    ReturnsInHanded {} Tryz.checked os 5 .any (Rows.recurrentDualSpec.pre6 enc Tryz.prog Tryz.f5 Rows.recurrentDualRow.domain false) (Rows.recurrentDualSpec.post enc Tryz.prog Tryz.f5 false true false false) := by
  refine returnsInHanded_of_change (C := Tryz.checked) own started (by kernel_rfl) Tryz.func5
    (ChangeSpec.witness6 (enc := enc) (C := Tryz.checked) false ⟨#[], #[.agg #[.int .i64 0, .slice none 0 0], .int .i64 0, .slice none 0 0], []⟩ 8 (by kernel_rfl) (by kernel_rfl) (by kernel_rfl) (by kernel_rfl)) ?_
  intro W base args ds gs before hval0 hW hcnd _
  have hval : ∀ (j : Nat) t v, Tryz.f5.params[j]? = some t → args[j]? = some v → Value.okWide Tryz.prog W .any base t v := hval0
  have hW' := hW
  obtain ⟨p, q, hA0, hV, rfl, hfz, hnd⟩ := hW
  have hA : DataW.TrodAll enc Tryz.prog W 0 (fun _ => true) true Tryz.f5.params.toList args.toList ds p := hA0
  rw [Tryz.params5] at hA hval
  obtain ⟨v0, vs0, d0, ds0, p0, q0, hargs, rfl, rfl, h0, r0⟩ := trodAll_cons hA
  obtain ⟨v1, vs1, d1, ds1, p1, q1, rfl, rfl, rfl, h1, r1⟩ := trodAll_cons r0
  obtain ⟨v2, vs2, d2, ds2, p2, q2, rfl, rfl, rfl, h2, r2⟩ := trodAll_cons r1
  obtain ⟨rfl, rfl, rfl⟩ := trodAll_nil r2
  obtain rfl : args = #[v0, v1, v2] := by cases args; simp_all
  obtain ⟨rfl, rfl⟩ := trodVars_none hV
  obtain ⟨cs0, rfl, _⟩ := okWide_struct Tryz.underlying24 (hval 0 24 v0 rfl rfl)
  have k0 := h0
  have lt0 : ∀ x ∈ p0, x.block < W.heap.size := by obtain ⟨m, hm⟩ := k0; exact DataW.trod_lt m _ _ _ hm
  obtain ⟨_, hf0⟩ := h0
  obtain ⟨n0, a0, cap0, xs0, hcs0, hm0, hr0, hw0⟩ := open_graph hf0
  obtain rfl : cs0 = #[.int .i64 n0, .slice a0 xs0.length cap0] := Array.toList_inj.1 hcs0
  obtain ⟨a1, rfl, rfl, rfl, w1⟩ := open_int Tryz.underlying3 (hval 1 3 v1 rfl rfl) h1
  obtain ⟨b2, len2, c2, rfl⟩ := okWide_slice Tryz.underlying26 (hval 2 26 v2 rfl rfl)
  have k2 := h2
  have lt2 : ∀ x ∈ p2, x.block < W.heap.size := by obtain ⟨m, hm⟩ := k2; exact DataW.trod_lt m _ _ _ hm
  obtain ⟨_, hf2⟩ := h2
  obtain ⟨a2, cap2, xs2, hcs2, hm2, hr2, hw2⟩ := open_row Tryz.underlying26 hf2
  obtain ⟨rfl, rfl, rfl⟩ : b2 = a2 ∧ len2 = xs2.length ∧ c2 = cap2 := by simpa [Value.cells] using hcs2
  clear hA0 hval0
  refine (recurrentDual_walk W n0 a0 cap0 xs0 hm0 hw0 hr0 a1 w1 b2 c2 xs2 hm2 hw2 hr2).mono fun e W' ⟨he, bel⟩ => ?_
  subst he
  exact ⟨_, rfl, _, _, _, [], _, [], hW', trodAll_mk1 (shut_bool Tryz.underlying4 _), (trodAll_cons_mk (Below.trod laidOut (by kernel_rfl) (of_decide_eq_true (by kernel_rfl)) k0 bel lt0) (trodAll_cons_mk (shut_int Tryz.underlying3 w1) (trodAll_cons_mk (Below.trod laidOut (by kernel_rfl) (of_decide_eq_true (by kernel_rfl)) k2 bel lt2) trodAll_mk0))), rfl, bel.frame _, fun h => by cases h⟩

theorem over : Rows.recurrentDualRow.holds Tryz.pinned (OpenSpec.ofChange Rows.recurrentDualSpec) :=
  OpenClaim.holds_of_wide 5 Tryz.f5 rfl rfl rfl rfl rfl rfl rfl ⟨rfl, rfl, rfl, rfl, rfl⟩ rfl rfl rfl rfl rfl (by kernel_rfl) Tryz.func5 (by kernel_rfl)
    (of_decide_eq_true (by kernel_rfl)) (by unfold Func.isWrapper; first | (rw [if_pos (by decide +kernel)]; kernel_rfl) | (rw [if_neg (by decide +kernel)]; exact ⟨rfl, rfl⟩))
    (fun os started H enc _ => lifted os started H enc)

/-- A stable configuration is recurrent exactly if its dual is superstable, and exactly if no set is forbidden; the order proves it. The dual of the dual is itself -/
theorem proved : Rows.RecurrentDualSaid := over
#print axioms proved
end lawRecurrentDual

end Go.Proofs.YtdnoeaoelgehcaaGreat
