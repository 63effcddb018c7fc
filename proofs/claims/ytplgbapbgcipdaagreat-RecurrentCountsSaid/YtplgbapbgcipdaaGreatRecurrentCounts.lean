/-
  For every graph and sink the law RecurrentCounts answers true: as many recurrent configurations as spanning trees, as many minimal ones as acyclic orientations with the one source. There are no conditions.
-/
import Derived.Test.YtplgbapbgcipdaaGreatK48
import Derived.Test.YtplgbapbgcipdaaGreatK41
import Derived.Test.YtplgbapbgcipdaaGreatK47
import Derived.Test.YtplgbapbgcipdaaGreatK43
import Derived.Test.YtplgbapbgcipdaaGreatK40
import Derived.Test.YtplgbapbgcipdaaGreatK32
import Derived.Test.YtplgbapbgcipdaaGreatK14
namespace Go.Proofs.YtplgbapbgcipdaaGreat
open Go.RowKit

theorem sizeC {es : List E3} : sizeE es = (endsL es).length := by
  unfold sizeE endsL
  induction es with
  | nil => rfl
  | cons e es ih => simp only [List.map_cons, List.sum_cons, List.flatMap_cons, List.length_append, List.length_replicate, ih]
theorem smallC {n : Int} {es : List E3} (h : smallB n es 5 8 = true) : es.length ≤ 40 ∧ (checkG n es = 0 → n ≤ 5 ∧ sizeE es ≤ 8) := by
  unfold smallB at h
  by_cases h1 : 40 < es.length
  · rw [if_pos h1] at h; cases h
  · refine ⟨by omega, fun h2 => ?_⟩
    rw [if_neg h1, if_neg (fun hc => hc h2), Bool.and_eq_true] at h
    have := of_decide_eq_true h.1
    have := of_decide_eq_true h.2
    omega
set_option maxRecDepth 100000 in
set_option maxHeartbeats 8000000 in
theorem recurrentCounts_walk (w : World) (n : Int) (A : Option Addr) (c : Nat) (es : List E3) (_hm : es.length ≤ maxLen) (_hw : (Lit.int .i64 n).wf = true) (h : Reads w w.heap.size 3 A es.length (edgeCells es)) (q : Int) (_hq : (Lit.int .i64 q).wf = true) :
    Calls Tryz.prog 5 #[.agg #[.int .i64 n, .slice A es.length c], .int .i64 q] w fun e w' => e = .returned (.bool true) ∧ Below w.heap.size w w' := by
  have AW := Lib.hid (fun w => awake24_any w)
  have g := Blk.new w 24 #[.int .i64 n, .slice A es.length c]
  have hB : Below w.heap.size w (w.alloc (.cells #[.int .i64 n, .slice A es.length c] 24)) := (Below.refl _ _).alloc (Nat.le_refl _) _
  have k0 := g.cell 0
  have k1 := g.cell 1
  have FC := Lib.hid (fun w h => fewtrees_any n A c es w h)
  by_cases hf : smallB n es 5 8 = true
  · rw [hf] at FC
    obtain ⟨hlen, hsm⟩ := smallC hf
    have RC := Lib.hid (fun w h => rrooted_any n A c es (by omega) q w h)
    by_cases hz : rootErr n es q = 0
    · rw [hz] at RC
      obtain ⟨m, p, rfl, rfl⟩ := root_nat hz
      obtain ⟨hck, hG, _, hp⟩ := root_zero hz
      have hp : p < m := by omega
      obtain ⟨hm5, hs8⟩ := hsm hck
      rw [sizeC] at hs8
      obtain ⟨_, hR⟩ := few_bel hz (by omega) (by rw [sizeC]; exact hs8)
      have hj := root_joinO hz
      have hperm := (recur_perm hz hj hG hp (by omega) (by omega)).length_eq
      rw [List.length_map] at hperm
      have hE : allE m es p = (recsL m es p, 0) := by unfold allE; rw [if_pos hz]; simp
      have hM : minimE m es p = ((recsL m es p).filter fun xs => minTo m es p xs m, 0) := by unfold minimE; rw [if_pos hz]; simp
      have hT : tallE m es = ((treesT m (endsL es)).map nI, 0) := by unfold tallE; rw [if_neg (fun hc => hc hj), Int.toNat_natCast]
      have PA := Lib.hid (fun w h => rall_any m A c es (by omega) p (by rw [hE]; exact hR) w h)
      have PM := Lib.hid (fun w h => minimal_any m A c es (by omega) p (by rw [hE]; exact hR) w h)
      have PT := Lib.hid (fun w h => tcount_any m A c es (by omega) (by rw [hT]; simp only [List.length_map]; omega) w h)
      rw [hE] at PA
      rw [hM] at PM
      rw [hT] at PT
      dsimp only at PA PM PT
      rw [List.length_map, hperm] at PT
      have PL := Lib.hid (fun w h => limited_any m A c es (by omega) hG.ok w h)
      have hsl := straight_len es
      have PU := Lib.hid (fun A c w h => unique_any m p A c (straightL es) (Nat.le_trans (List.length_filter_le _ _) (by omega)) (check_right (right_straight hG)) hp (by omega) w h)
      rw [uni_count hz hlen] at PU
      obtain ⟨N, hN⟩ : ∃ N, (recsL m es p).length = N := ⟨_, rfl⟩
      obtain ⟨M, hMM⟩ : ∃ M, ((recsL m es p).filter fun xs => minTo m es p xs m).length = M := ⟨_, rfl⟩
      rw [hN] at PA PT
      rw [hMM] at PM PU
      obtain ⟨fs, hfs⟩ : ∃ fs, straightL es = fs := ⟨_, rfl⟩
      rw [hfs] at PL PU
      clear hz hck hG hsm hE hM hT hN hMM hR hperm hf hs8 hj hsl hfs
      go_enter Tryz.func5, Tryz.ntmps5
      go_wp2_with fail
      refine (FC.out _ ((h.below hB).more hB.size)).mono ?_
      rintro e wn ⟨rfl, hb⟩
      have g := g.next hb
      have hB := hB.trans (hb.mono hB.size)
      have k0 := g.cell 0
      have k1 := g.cell 1
      clear hb
      go_wp2_with fail
      refine (RC.out _ ((h.below hB).more hB.size)).mono ?_
      rintro e wn ⟨rfl, hb⟩
      have g := g.next hb
      have hB := hB.trans (hb.mono hB.size)
      have k0 := g.cell 0
      have k1 := g.cell 1
      clear hb
      go_wp2_with fail
      refine (PA.out _ ((h.below hB).more hB.size)).mono ?_
      rintro e wn ⟨Aa, da, rfl, _, hb⟩
      have g := g.next hb
      have hB := hB.trans (hb.mono hB.size)
      have k0 := g.cell 0
      have k1 := g.cell 1
      clear hb
      go_wp2_with fail
      refine (PM.out _ ((h.below hB).more hB.size)).mono ?_
      rintro e wn ⟨Am, dm, rfl, _, hb⟩
      have g := g.next hb
      have hB := hB.trans (hb.mono hB.size)
      have k0 := g.cell 0
      have k1 := g.cell 1
      clear hb
      go_wp2_with fail
      refine (PT.out _ ((h.below hB).more hB.size)).mono ?_
      rintro e wn ⟨rfl, hb⟩
      have g := g.next hb
      have hB := hB.trans (hb.mono hB.size)
      have k0 := g.cell 0
      have k1 := g.cell 1
      clear hb
      go_wp2_with fail
      refine (PL.out _ ((h.below hB).more hB.size)).mono ?_
      rintro e wn ⟨Al, cl, rfl, ol, hb⟩
      have g := g.next hb
      have hB := hB.trans (hb.mono hB.size)
      have k0 := g.cell 0
      have k1 := g.cell 1
      clear hb
      go_wp2_with fail
      refine (PU.out _ _ _ ol.reads).mono ?_
      rintro e wn ⟨Au, cu, rfl, hb⟩
      have g := g.next hb
      have hB := hB.trans (hb.mono hB.size)
      have k0 := g.cell 0
      have k1 := g.cell 1
      clear hb
      go_wp2_with fail
      refine (AW.out _).mono ?_
      rintro e wn ⟨rfl, hb⟩
      have hB := hB.trans (hb.mono hB.size)
      go_wp2
      go_ret
      exact ⟨rfl, hB⟩
    · have RC' : Hid (rootErr n es q ≠ 0) := hz
      obtain ⟨z, hzz⟩ : ∃ z, rootErr n es q = z := ⟨_, rfl⟩
      rw [hzz] at RC hz
      have hzb : (z != 0) = true := by simpa using hz
      clear hz hzz hsm hf RC'
      go_enter Tryz.func5, Tryz.ntmps5
      go_wp2_with fail
      refine (FC.out _ ((h.below hB).more hB.size)).mono ?_
      rintro e wn ⟨rfl, hb⟩
      have g := g.next hb
      have hB := hB.trans (hb.mono hB.size)
      have k0 := g.cell 0
      have k1 := g.cell 1
      clear hb
      go_wp2_with fail
      refine (RC.out _ ((h.below hB).more hB.size)).mono ?_
      rintro e wn ⟨rfl, hb⟩
      have g := g.next hb
      have hB := hB.trans (hb.mono hB.size)
      have k0 := g.cell 0
      have k1 := g.cell 1
      clear hb
      go_wp2_with fail
      refine (AW.out _).mono ?_
      rintro e wn ⟨rfl, hb⟩
      have hB := hB.trans (hb.mono hB.size)
      go_wp2
      go_ret
      exact ⟨rfl, hB⟩
  · have hf : smallB n es 5 8 = false := by rw [← Bool.not_eq_true]; exact hf
    rw [hf] at FC
    clear hf
    go_enter Tryz.func5, Tryz.ntmps5
    go_wp2_with fail
    refine (FC.out _ ((h.below hB).more hB.size)).mono ?_
    rintro e wn ⟨rfl, hb⟩
    have g := g.next hb
    have hB := hB.trans (hb.mono hB.size)
    have k0 := g.cell 0
    have k1 := g.cell 1
    clear hb
    go_wp2_with fail
    refine (AW.out _).mono ?_
    rintro e wn ⟨rfl, hb⟩
    have hB := hB.trans (hb.mono hB.size)
    go_wp2
    go_ret
    exact ⟨rfl, hB⟩

namespace lawRecurrentCounts
open Go.ChangeShapes Go.WideShapes Go.ChangeAt Go.RowKit
set_option linter.unusedVariables false
set_option maxRecDepth 100000 in
theorem lifted (os : Os) (started : os.Started) (H : Type) (enc : TypeId × Value → H) :
    ReturnsInHanded {} Tryz.checked os 5 .any (Rows.recurrentCountsSpec.pre6 enc Tryz.prog Tryz.f5 Rows.recurrentCountsRow.domain false) (Rows.recurrentCountsSpec.post enc Tryz.prog Tryz.f5 false true false false) := by
  refine returnsInHanded_of_change (C := Tryz.checked) own started (by kernel_rfl) Tryz.func5
    (ChangeSpec.witness6 (enc := enc) (C := Tryz.checked) false ⟨#[], #[.agg #[.int .i64 0, .slice none 0 0], .int .i64 0], []⟩ 8 (by kernel_rfl) (by kernel_rfl) (by kernel_rfl) (by kernel_rfl)) ?_
  intro W base args ds gs before hval0 hW hcnd _
  have hval : ∀ (j : Nat) t v, Tryz.f5.params[j]? = some t → args[j]? = some v → Value.okWide Tryz.prog W .any base t v := hval0
  have hW' := hW
  obtain ⟨p, q, hA0, hV, rfl, hfz, hnd⟩ := hW
  have hA : DataW.TrodAll enc Tryz.prog W 0 (fun _ => true) true Tryz.f5.params.toList args.toList ds p := hA0
  rw [Tryz.params5] at hA hval
  obtain ⟨v0, vs0, d0, ds0, p0, q0, hargs, rfl, rfl, h0, r0⟩ := trodAll_cons hA
  obtain ⟨v1, vs1, d1, ds1, p1, q1, rfl, rfl, rfl, h1, r1⟩ := trodAll_cons r0
  obtain ⟨rfl, rfl, rfl⟩ := trodAll_nil r1
  obtain rfl : args = #[v0, v1] := by cases args; simp_all
  obtain ⟨rfl, rfl⟩ := trodVars_none hV
  obtain ⟨cs0, rfl, _⟩ := okWide_struct Tryz.underlying24 (hval 0 24 v0 rfl rfl)
  have k0 := h0
  have lt0 : ∀ x ∈ p0, x.block < W.heap.size := by obtain ⟨m, hm⟩ := k0; exact DataW.trod_lt m _ _ _ hm
  obtain ⟨_, hf0⟩ := h0
  obtain ⟨n0, a0, cap0, xs0, hcs0, hm0, hr0, hw0⟩ := open_graph hf0
  obtain rfl : cs0 = #[.int .i64 n0, .slice a0 xs0.length cap0] := Array.toList_inj.1 hcs0
  obtain ⟨a1, rfl, rfl, rfl, w1⟩ := open_int Tryz.underlying3 (hval 1 3 v1 rfl rfl) h1
  clear hA0 hval0
  refine (recurrentCounts_walk W n0 a0 cap0 xs0 hm0 hw0 hr0 a1 w1).mono fun e W' ⟨he, bel⟩ => ?_
  subst he
  exact ⟨_, rfl, _, _, _, [], _, [], hW', trodAll_mk1 (shut_bool Tryz.underlying4 _), (trodAll_cons_mk (Below.trod laidOut (by kernel_rfl) (of_decide_eq_true (by kernel_rfl)) k0 bel lt0) (trodAll_cons_mk (shut_int Tryz.underlying3 w1) trodAll_mk0)), rfl, bel.frame _, fun h => by cases h⟩

theorem over : Rows.recurrentCountsRow.holds Tryz.pinned (OpenSpec.ofChange Rows.recurrentCountsSpec) :=
  OpenClaim.holds_of_wide 5 Tryz.f5 rfl rfl rfl rfl rfl rfl rfl ⟨rfl, rfl, rfl, rfl, rfl⟩ rfl rfl rfl rfl rfl (by kernel_rfl) Tryz.func5 (by kernel_rfl)
    (of_decide_eq_true (by kernel_rfl)) (by unfold Func.isWrapper; first | (rw [if_pos (by decide +kernel)]; kernel_rfl) | (rw [if_neg (by decide +kernel)]; exact ⟨rfl, rfl⟩))
    (fun os started H enc _ => lifted os started H enc)

/-- There are as many recurrent configurations as spanning trees, and as many minimal ones as acyclic orientations of the graph without its loops whose only source is the sink. -/
theorem proved : Rows.RecurrentCountsSaid := over
#print axioms proved
end lawRecurrentCounts

end Go.Proofs.YtplgbapbgcipdaaGreat
