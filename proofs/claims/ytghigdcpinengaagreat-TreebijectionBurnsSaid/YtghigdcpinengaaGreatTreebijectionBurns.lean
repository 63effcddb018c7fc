/-
  For every graph, sink and divisor the law TreebijectionBurns answers true: Steps and Tree return the results of the reference, or its error. There are no conditions.
-/
import Derived.Test.YtghigdcpinengaaGreatK43
import Derived.Test.YtghigdcpinengaaGreatK50
import Derived.Test.YtghigdcpinengaaGreatK40
namespace Go.Proofs.YtghigdcpinengaaGreat
open Go.RowKit

/-- The lists of a fire are short. -/
theorem fire_lens {n : Int} {es : List E3} {q : Int} {cs : List Int} (hsm : checkG n es = 0 → (endsL es).length ≤ 60) : (stepsE n es q cs).1.length ≤ 1000 ∧ (treeFE n es q cs).1.length ≤ 1000 ∧ (treeFE n es q cs).2.1.length ≤ 1000 ∧ (stepsE n es q cs).2 = cfgErr n es q cs ∧ (treeFE n es q cs).2.2 = cfgErr n es q cs := by
  unfold stepsE treeFE
  by_cases hz : cfgErr n es q cs = 0
  · rw [if_pos hz, if_pos hz]
    have hm := hsm (cfg_check hz)
    obtain ⟨m, p, rfl, rfl, hp, hm12, hG, hcl⟩ := cfg_nat hz
    have hfi : FI (endsL es) m p (fireC_ (endsL es) m p cs) := (FI.run (lit := ltC cs) (bd_ends hG) hp).1
    have h1 := nodup_sub_le hfi.nodup (m := List.range (endsL es).length) (fun x hx => List.mem_range.2 (hfi.lt x hx))
    have h2 := nodup_sub_le hfi.ond (m := List.range m) (fun x hx => List.mem_range.2 (hfi.olt x hx))
    rw [List.length_range] at h1 h2
    have h3 := treeN_len (n := m) (q := p) (es := es) (c := cs)
    simp only [Int.toNat_natCast]
    exact ⟨by rw [nI_length]; omega, by rw [nI_length]; omega, by rw [nI_length]; omega, hz.symm, hz.symm⟩
  · rw [if_neg hz, if_neg hz]
    simp

set_option maxRecDepth 100000 in
set_option maxHeartbeats 4000000 in
theorem treebijectionBurns_walk (w : World) (n : Int) (A : Option Addr) (c : Nat) (es : List E3) (_hm : es.length ≤ maxLen) (_hw : (Lit.int .i64 n).wf = true) (h : Reads w w.heap.size 3 A es.length (edgeCells es)) (q : Int) (_hq : (Lit.int .i64 q).wf = true)
    (B : Option Addr) (d : Nat) (cs : List Int) (_hm' : cs.length ≤ maxLen) (_hw' : ∀ x ∈ cs, (Lit.int .i64 x).wf = true) (h' : Reads w w.heap.size 1 B cs.length (ints cs)) :
    Calls Tryz.prog 3 #[.agg #[.int .i64 n, .slice A es.length c], .int .i64 q, .slice B cs.length d] w fun e w' => e = .returned (.bool true) ∧ Below w.heap.size w w' := by
  have FC := Lib.hid (fun w h => rfewtrees_any n A c es w h)
  have AW := Lib.hid (fun w => awake30_any w)
  have g := Blk.new w 24 #[.int .i64 n, .slice A es.length c]
  have hB : Below w.heap.size w (w.alloc (.cells #[.int .i64 n, .slice A es.length c] 24)) := (Below.refl _ _).alloc (Nat.le_refl _) _
  have k0 := g.cell 0
  have k1 := g.cell 1
  by_cases hf : smallB n es 5 8 = true ∧ cs.length ≤ 40
  · obtain ⟨hf, hl⟩ := hf
    obtain ⟨hlen, hsm⟩ := small30 hf
    have hsm6 : checkG n es = 0 → n ≤ 6 := fun hc => by have := (hsm hc).1; omega
    have hsm60 : checkG n es = 0 → (endsL es).length ≤ 60 := fun hc => by have := (hsm hc).2; omega
    have S1 := Lib.hid (fun w h h' => steps30_any n q A c es (by omega) hsm60 B d cs (by omega) w h h')
    have S2 := Lib.hid (fun w h h' => ttree30_any n q A c es (by omega) hsm60 B d cs (by omega) w h h')
    have S3 := Lib.hid (fun w h h' => rtree30_any n q A c es hlen hsm6 B d cs (by omega) w h h')
    obtain ⟨l1, l2, l3, z1, z2⟩ := fire_lens (q := q) (cs := cs) hsm60
    unfold RTreeF at S3
    rw [z1] at S1
    rw [z2] at S2
    obtain ⟨X, hX⟩ : ∃ X, (stepsE n es q cs).1 = X := ⟨_, rfl⟩
    obtain ⟨Y, hY⟩ : ∃ Y, (treeFE n es q cs).1 = Y := ⟨_, rfl⟩
    obtain ⟨Z, hZ⟩ : ∃ Z, (treeFE n es q cs).2.1 = Z := ⟨_, rfl⟩
    obtain ⟨z, hz⟩ : ∃ z, cfgErr n es q cs = z := ⟨_, rfl⟩
    rw [hX, hz] at S1
    rw [hY, hZ, hz] at S2
    rw [hX, hY, hZ, hz] at S3
    rw [hX] at l1
    rw [hY] at l2
    rw [hZ] at l3
    have SL := Lib.hid (fun Aa ca Ab cb W h h' => samelists_any Aa ca [X, Y, Z] Ab cb [X, Y, Z] (by
      intro x hx
      simp at hx
      rcases hx with rfl | rfl | rfl <;> omega) (by simp) W h h')
    rw [decide_eq_true rfl] at SL
    have hl2 : ¬ 40 < cs.length := by omega
    have hlb : decide ((cs.length : Int) > 40) = false := decide_eq_false (by omega)
    have HF := Lib.hid hf
    clear hf hX hY hZ hz z1 z2 l1 l2 l3 hsm hsm6 hsm60
    go_enter Tryz.func3, Tryz.ntmps3
    go_wp2_with fail
    refine (FC.out _ ((h.below hB).more hB.size)).mono ?_
    rintro e wn ⟨he, hb⟩
    have g := g.next hb
    have hB := hB.trans (hb.mono hB.size)
    have k0 := g.cell 0
    have k1 := g.cell 1
    clear hb
    rw [HF.out] at he
    subst he
    go_wp2_with fail
    refine (S1.out _ ((h.below hB).more hB.size) ((h'.below hB).more hB.size)).mono ?_
    rintro e wn ⟨A1, d1, rfl, q1, hb⟩
    have g := g.next hb
    have hB := hB.trans (hb.mono hB.size)
    have k0 := g.cell 0
    have k1 := g.cell 1
    clear hb
    have q1 := q1.reads
    go_wp2_with fail
    refine (S2.out _ ((h.below hB).more hB.size) ((h'.below hB).more hB.size)).mono ?_
    rintro e wn ⟨A2, d2, A3, d3, rfl, q2, q3, hb⟩
    have q1 := q1.next hb
    have g := g.next hb
    have hB := hB.trans (hb.mono hB.size)
    have k0 := g.cell 0
    have k1 := g.cell 1
    clear hb
    have q2 := q2.reads
    have q3 := q3.reads
    go_wp2_with fail
    refine (S3.out _ ((h.below hB).more hB.size) ((h'.below hB).more hB.size)).mono ?_
    rintro e wn ⟨A4, d4, A5, d5, A6, d6, A7, m7, d7, rfl, q4, q5, q6, hb⟩
    have q1 := q1.next hb
    have q2 := q2.next hb
    have q3 := q3.next hb
    have g := g.next hb
    have hB := hB.trans (hb.mono hB.size)
    have k0 := g.cell 0
    have k1 := g.cell 1
    clear hb
    obtain ⟨WX, hWX⟩ : ∃ WX, wn.alloc (.cells #[.slice A4 X.length d4, .slice A5 Z.length d5, .slice A6 Y.length d6, .slice A7 m7 d7] 35) = WX := ⟨_, rfl⟩
    have xb : Blk WX wn.heap.size 35 #[.slice A4 X.length d4, .slice A5 Z.length d5, .slice A6 Y.length d6, .slice A7 m7 d7] := by rw [← hWX]; exact Blk.newF rfl
    have bX : Below wn.heap.size wn WX := by rw [← hWX]; exact (Below.refl _ _).alloc (Nat.le_refl _) _
    have q1 := q1.next bX
    have q2 := q2.next bX
    have q3 := q3.next bX
    have q4 := q4.next bX
    have q5 := q5.next bX
    have q6 := q6.next bX
    have hB := hB.trans (bX.mono hB.size)
    have HWX := Lib.hid hWX
    clear bX hWX k0 k1 g
    go_wp2_with fail
    try rw [HWX.out]
    refine (AW.out WX).mono ?_
    rintro e wa ⟨rfl, hb⟩
    have q1 := q1.next hb
    have q2 := q2.next hb
    have q3 := q3.next hb
    have q4 := q4.next hb
    have q5 := q5.next hb
    have q6 := q6.next hb
    have xb := xb.next hb
    have hB := hB.trans (hb.mono hB.size)
    have gl := xb.lt
    obtain ⟨WB, hWB⟩ : ∃ WB, (wa.alloc (.cells #[.slice A1 X.length d1, .slice A2 Y.length d2, .slice A3 Z.length d3] 25)).alloc (.cells #[.slice A4 X.length d4, .slice A6 Y.length d6, .slice A5 Z.length d5] 25) = WB := ⟨_, rfl⟩
    have la : Blk WB wa.heap.size 25 ([.slice A1 X.length d1, .slice A2 Y.length d2, .slice A3 Z.length d3] : List Value).toArray := by rw [← hWB]; exact (Blk.newF rfl).alloc _
    have lb : Blk WB (wa.heap.size + 1) 25 ([.slice A4 X.length d4, .slice A6 Y.length d6, .slice A5 Z.length d5] : List Value).toArray := by rw [← hWB]; exact Blk.newF (by simp)
    have bB : Below wa.heap.size wa WB := by rw [← hWB]; exact ((Below.refl _ _).alloc (Nat.le_refl _) _).alloc (by simp) _
    have q1 := q1.next bB
    have q2 := q2.next bB
    have q3 := q3.next bB
    have q4 := q4.next bB
    have q5 := q5.next bB
    have q6 := q6.next bB
    have wf : RowsR WB WB.heap.size (some ⟨wa.heap.size, 0, none⟩) [X, Y, Z] := rows_litA la rfl fun i xs hx => by
      match i with
      | 0 => injection hx with hx; subst hx; exact ⟨_, _, rfl, q1⟩
      | 1 => injection hx with hx; subst hx; exact ⟨_, _, rfl, q2⟩
      | 2 => injection hx with hx; subst hx; exact ⟨_, _, rfl, q3⟩
      | i + 3 => cases hx
    have wo : RowsR WB WB.heap.size (some ⟨wa.heap.size + 1, 0, none⟩) [X, Y, Z] := rows_litA lb rfl fun i xs hx => by
      match i with
      | 0 => injection hx with hx; subst hx; exact ⟨_, _, rfl, q4⟩
      | 1 => injection hx with hx; subst hx; exact ⟨_, _, rfl, q6⟩
      | 2 => injection hx with hx; subst hx; exact ⟨_, _, rfl, q5⟩
      | i + 3 => cases hx
    have hB := hB.trans (bB.mono hB.size)
    have SB := Lib.hid (SL.out (some ⟨wa.heap.size, 0, none⟩) 3 (some ⟨wa.heap.size + 1, 0, none⟩) 3 WB wf wo)
    have HWB := Lib.hid hWB
    have e0 := xb.cell 0
    have e1 := xb.cell 1
    have e2 := xb.cell 2
    have L0 : ∀ o, (wa.alloc o).cell? ⟨wn.heap.size, 0, none⟩ = some (.slice A4 X.length d4) := fun o => (xb.alloc o).cell 0
    have L1 : ∀ o, (wa.alloc o).cell? ⟨wn.heap.size, 1, none⟩ = some (.slice A5 Z.length d5) := fun o => (xb.alloc o).cell 1
    have L2 : ∀ o, (wa.alloc o).cell? ⟨wn.heap.size, 2, none⟩ = some (.slice A6 Y.length d6) := fun o => (xb.alloc o).cell 2
    clear bB hWB wf wo la lb q1 q2 q3 q4 q5 q6 hb
    go_wp2_with fail
    try rw [HWB.out]
    refine (SB.out).mono ?_
    rintro e wz ⟨rfl, b⟩
    go_wp2
    go_ret
    exact ⟨rfl, hB.trans (b.mono hB.size)⟩
  · by_cases hf2 : smallB n es 5 8 = true
    · have hl : 40 < cs.length := by
        refine Classical.byContradiction fun hc => hf ⟨hf2, by omega⟩
      have hlb : decide ((cs.length : Int) > 40) = true := decide_eq_true (by omega)
      have hl3 : (40 : Int) < (cs.length : Int) := by omega
      have HF := Lib.hid hf2
      clear hf hf2
      go_enter Tryz.func3, Tryz.ntmps3
      go_wp2_with fail
      refine (FC.out _ ((h.below hB).more hB.size)).mono ?_
      rintro e wn ⟨he, hb⟩
      have g := g.next hb
      have hB := hB.trans (hb.mono hB.size)
      have k0 := g.cell 0
      have k1 := g.cell 1
      clear hb
      rw [HF.out] at he
      subst he
      go_wp2_with fail
      refine (AW.out _).mono ?_
      rintro e wn ⟨rfl, hb⟩
      have hB := hB.trans (hb.mono hB.size)
      go_wp2
      go_ret
      exact ⟨rfl, hB⟩
    · have HF : Hid (smallB n es 5 8 = false) := by rw [Hid, ← Bool.not_eq_true]; exact hf2
      clear hf hf2
      go_enter Tryz.func3, Tryz.ntmps3
      go_wp2_with fail
      refine (FC.out _ ((h.below hB).more hB.size)).mono ?_
      rintro e wn ⟨he, hb⟩
      have g := g.next hb
      have hB := hB.trans (hb.mono hB.size)
      have k0 := g.cell 0
      have k1 := g.cell 1
      clear hb
      rw [HF.out] at he
      subst he
      go_wp2_with fail
      refine (AW.out _).mono ?_
      rintro e wn ⟨rfl, hb⟩
      have hB := hB.trans (hb.mono hB.size)
      go_wp2
      go_ret
      exact ⟨rfl, hB⟩

namespace lawTreebijectionBurns
open Go.ChangeShapes Go.WideShapes Go.ChangeAt Go.RowKit
set_option linter.unusedVariables false
set_option maxRecDepth 100000 in
theorem lifted (os : Os) (started : os.Started) (H : Type) (enc : TypeId × Value → H) :
    ReturnsInHanded {} Tryz.checked os 3 .any (Rows.treebijectionBurnsSpec.pre6 enc Tryz.prog Tryz.f3 Rows.treebijectionBurnsRow.domain false) (Rows.treebijectionBurnsSpec.post enc Tryz.prog Tryz.f3 false true false false) := by
  refine returnsInHanded_of_change (C := Tryz.checked) own started (by kernel_rfl) Tryz.func3
    (ChangeSpec.witness6 (enc := enc) (C := Tryz.checked) false ⟨#[], #[.agg #[.int .i64 0, .slice none 0 0], .int .i64 0, .slice none 0 0], []⟩ 8 (by kernel_rfl) (by kernel_rfl) (by kernel_rfl) (by kernel_rfl)) ?_
  intro W base args ds gs before hval0 hW hcnd _
  have hval : ∀ (j : Nat) t v, Tryz.f3.params[j]? = some t → args[j]? = some v → Value.okWide Tryz.prog W .any base t v := hval0
  have hW' := hW
  obtain ⟨p, q, hA0, hV, rfl, hfz, hnd⟩ := hW
  have hA : DataW.TrodAll enc Tryz.prog W 0 (fun _ => true) true Tryz.f3.params.toList args.toList ds p := hA0
  rw [Tryz.params3] at hA hval
  obtain ⟨v0, vs0, d0, ds0, p0, q0, hargs, rfl, rfl, h0, r0⟩ := trodAll_cons hA
  obtain ⟨v1, vs1, d1, ds1, p1, q1, rfl, rfl, rfl, h1, r1⟩ := trodAll_cons r0
  obtain ⟨v2, vs2, d2, ds2, p2, q2, rfl, rfl, rfl, h2, r2⟩ := trodAll_cons r1
  obtain ⟨rfl, rfl, rfl⟩ := trodAll_nil r2
  obtain rfl : args = #[v0, v1, v2] := by cases args; simp_all
  obtain ⟨rfl, rfl⟩ := trodVars_none hV
  obtain ⟨cs0, rfl, _⟩ := okWide_struct Tryz.underlying24 (hval 0 24 v0 rfl rfl)
  have k0 := h0
  have lt0 : ∀ x ∈ p0, x.block < W.heap.size := by obtain ⟨m, hm⟩ := k0; exact DataW.trod_lt m _ _ _ hm
  obtain ⟨_, hf0⟩ := h0
  obtain ⟨n0, a0, cap0, xs0, hcs0, hm0, hr0, hw0⟩ := open_graph hf0
  obtain rfl : cs0 = #[.int .i64 n0, .slice a0 xs0.length cap0] := Array.toList_inj.1 hcs0
  obtain ⟨a1, rfl, rfl, rfl, w1⟩ := open_int Tryz.underlying3 (hval 1 3 v1 rfl rfl) h1
  obtain ⟨b2, len2, c2, rfl⟩ := okWide_slice Tryz.underlying26 (hval 2 26 v2 rfl rfl)
  have k2 := h2
  have lt2 : ∀ x ∈ p2, x.block < W.heap.size := by obtain ⟨m, hm⟩ := k2; exact DataW.trod_lt m _ _ _ hm
  obtain ⟨_, hf2⟩ := h2
  obtain ⟨a2, cap2, xs2, hcs2, hm2, hr2, hw2⟩ := open_row Tryz.underlying26 hf2
  obtain ⟨rfl, rfl, rfl⟩ : b2 = a2 ∧ len2 = xs2.length ∧ c2 = cap2 := by simpa [Value.cells] using hcs2
  clear hA0 hval0
  refine (treebijectionBurns_walk W n0 a0 cap0 xs0 hm0 hw0 hr0 a1 w1 b2 c2 xs2 hm2 hw2 hr2).mono fun e W' ⟨he, bel⟩ => ?_
  subst he
  exact ⟨_, rfl, _, _, _, [], _, [], hW', trodAll_mk1 (shut_bool Tryz.underlying4 _), (trodAll_cons_mk (Below.trod laidOut (by kernel_rfl) (of_decide_eq_true (by kernel_rfl)) k0 bel lt0) (trodAll_cons_mk (shut_int Tryz.underlying3 w1) (trodAll_cons_mk (Below.trod laidOut (by kernel_rfl) (of_decide_eq_true (by kernel_rfl)) k2 bel lt2) trodAll_mk0))), rfl, bel.frame _, fun h => by cases h⟩

theorem over : Rows.treebijectionBurnsRow.holds Tryz.pinned (OpenSpec.ofChange Rows.treebijectionBurnsSpec) :=
  OpenClaim.holds_of_wide 3 Tryz.f3 rfl rfl rfl rfl rfl rfl rfl ⟨rfl, rfl, rfl, rfl, rfl⟩ rfl rfl rfl rfl rfl (by kernel_rfl) Tryz.func3 (by kernel_rfl)
    (of_decide_eq_true (by kernel_rfl)) (by unfold Func.isWrapper; first | (rw [if_pos (by decide +kernel)]; kernel_rfl) | (rw [if_neg (by decide +kernel)]; exact ⟨rfl, rfl⟩))
    (fun os started H enc _ => lifted os started H enc)

/-- For every graph, sink and divisor the law answers true: Steps and Tree return the results of the reference, or its error. -/
theorem proved : Rows.TreebijectionBurnsSaid := over
#print axioms proved
end lawTreebijectionBurns
end Go.Proofs.YtghigdcpinengaaGreat
