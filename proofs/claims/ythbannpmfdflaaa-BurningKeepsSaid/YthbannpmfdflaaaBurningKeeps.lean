/-
  For every graph, sink and divisor the law BurningKeeps answers true: what is pushed is changed by the script but for the sink, and is superstable; a superstable configuration is not changed. There are no conditions.
-/
import Derived.Test.YthbannpmfdflaaaAwakeB
import Derived.Test.YthbannpmfdflaaaLawG
import Derived.Test.YthbannpmfdflaaaRight
import Derived.Test.YthbannpmfdflaaaKeepsQ
import Derived.Test.YthbannpmfdflaaaApply2
import Derived.Test.YthbannpmfdflaaaBurnE
namespace Go.Proofs.Ythbannpmfdflaaa
open Go.RowKit

set_option maxRecDepth 100000 in
set_option maxHeartbeats 4000000 in
theorem burningKeeps_walk (w : World) (n : Int) (A : Option Addr) (c : Nat) (es : List E3) (_hm : es.length ≤ maxLen) (_hw : (Lit.int .i64 n).wf = true) (h : Reads w w.heap.size 3 A es.length (edgeCells es)) (q : Int) (_hq : (Lit.int .i64 q).wf = true)
    (B : Option Addr) (d : Nat) (cs : List Int) (_hm' : cs.length ≤ maxLen) (_hw' : ∀ x ∈ cs, (Lit.int .i64 x).wf = true) (h' : Reads w w.heap.size 1 B cs.length (ints cs)) :
    Calls Try.prog 8 #[.agg #[.int .i64 n, .slice A es.length c], .int .i64 q, .slice B cs.length d] w fun e w' => e = .returned (.bool true) ∧ Below w.heap.size w w' := by
  have RC := Lib.hid (fun w h h' => right_any n A c es q B d cs w h h')
  have g0 := Blk.new w 24 #[.int .i64 n, .slice A es.length c]
  have hb0 : Below w.heap.size w (w.alloc (.cells #[.int .i64 n, .slice A es.length c] 24)) := (Below.refl _ _).alloc (Nat.le_refl _) _
  cases hf : rightB n es q cs
  · have HF := Lib.hid hf
    clear hf
    go_enter Try.func8, Try.ntmps8
    go_wp2_with fail
    refine (RC.out _ ((h.alloc (Nat.le_refl _) _).more (by simp)) ((h'.alloc (Nat.le_refl _) _).more (by simp))).mono ?_
    rintro e w1 ⟨he, hb1⟩
    rw [HF.out] at he
    subst he
    have hB1 := hb0.trans (hb1.mono hb0.size)
    go_wp2_with fail
    refine (awake_any w1).mono ?_
    rintro e w2 ⟨rfl, hb2⟩
    go_wp2
    go_ret
    exact ⟨rfl, hB1.trans (hb2.mono hB1.size)⟩
  · obtain ⟨h1, h2, h6, h60, hz⟩ := right_parts hf
    obtain ⟨hG, _, hq0, hqn, hlen, hbd, _⟩ := conf_zero (burn_zero hz).1
    have hlo := hG.lo
    obtain ⟨m, rfl⟩ := Int.eq_ofNat_of_zero_le (show 0 ≤ n by omega)
    obtain ⟨p, rfl⟩ := Int.eq_ofNat_of_zero_le hq0
    obtain ⟨ds, ss, hP, hdl, hsl, hsq, hs0, hBs, hgs, hgc, hBm, hmd, hzd, hrd, hwas⟩ := keeps_plain hz (by omega) h60
    have hcl : cs.length = m := by omega
    have PC : Hid (∀ w : World, Reads w w.heap.size 3 A es.length (edgeCells es) → Reads w w.heap.size 1 B cs.length (ints cs) → Calls Try.prog 15 #[.agg #[.int .i64 m, .slice A es.length c], .int .i64 p, .slice B cs.length d] w fun e w' => ∃ C c' S c'',
        e = .returned (.tuple #[.slice C m c', .slice S m c'', .int .i64 0]) ∧ OwnI w' w.heap.size C c' ds ∧ OwnI w' w.heap.size S c'' ss ∧ Below w.heap.size w w') := by
      intro w h h'
      have := push_any m A c es (by omega) p B d cs ds ss 0 (by omega) hP w h h'
      rwa [hdl, hsl] at this
    have AC : Hid (∀ (S : Option Addr) (f : Nat) (w : World), Reads w w.heap.size 3 A es.length (edgeCells es) → Reads w w.heap.size 1 B cs.length (ints cs) → Reads w w.heap.size 1 S ss.length (ints ss) → Calls Try.prog 40 #[.agg #[.int .i64 m, .slice A es.length c], .slice B cs.length d, .slice S m f] w fun e w' => ∃ g c',
        e = .returned (.tuple #[.slice (some ⟨g, 0, none⟩) m c', .int .i64 0]) ∧ OwnI w' w.heap.size (some ⟨g, 0, none⟩) c' (movedL es ss cs) ∧ Below w.heap.size w w') := by
      intro S f w h h' h''
      have := apply_ok m A c es (by omega) hG B d cs hcl (fun x hx => hbd x hx) S f ss hsl hBs hgc hgs hBm w h h' h''
      rw [hsl, hcl] at this
      rw [hcl]
      exact this
    have SD : Hid (∀ (D : Option Addr) (f : Nat) (w : World), Reads w w.heap.size 3 A es.length (edgeCells es) → Reads w w.heap.size 1 D ds.length (ints ds) → Calls Try.prog 35 #[.agg #[.int .i64 m, .slice A es.length c], .int .i64 p, .slice D m f] w fun e w' => e = .returned (.tuple #[.bool true, .int .i64 0]) ∧ Below w.heap.size w w') := by
      intro D f w r1 r2
      have := super_any m A c es (by omega) p D f ds (by omega) w r1 r2
      rw [hdl, show superE m es p ds = (true, 0) from by unfold superE; rw [if_pos hzd]; simp [hrd]] at this
      exact this
    have SC : Hid (∀ (w : World), Reads w w.heap.size 3 A es.length (edgeCells es) → Reads w w.heap.size 1 B cs.length (ints cs) → Calls Try.prog 35 #[.agg #[.int .i64 m, .slice A es.length c], .int .i64 p, .slice B cs.length d] w fun e w' => e = .returned (.tuple #[.bool (decide (restL m (burntL es cs m p) = [])), .int .i64 0]) ∧ Below w.heap.size w w') := by
      intro w r1 r2
      have := super_any m A c es (by omega) p B d cs (by omega) w r1 r2
      rw [show superE m es p cs = (decide (restL m (burntL es cs m p) = []), 0) from by unfold superE; rw [if_pos hz]; simp] at this
      exact this
    have MN : Hid (∀ (S : Option Addr) (f : Nat) (w : World), Reads w w.heap.size 1 S ss.length (ints ss) → Calls Try.prog 39 #[.slice S m f] w fun e w' => ∃ x : Int, 0 ≤ x ∧ e = .returned (.int .i64 x) ∧ w = w') := by
      intro S f w r
      have := smin_any S f ss (by omega) (by omega) w r
      rw [hsl] at this
      exact this.mono fun e w' ⟨x, hx, he, hw⟩ => ⟨x, hs0 x hx, he, hw⟩
    have MX : Hid (∀ (S : Option Addr) (f : Nat) (w : World), Reads w w.heap.size 1 S ss.length (ints ss) → Calls Try.prog 42 #[.slice S m f] w fun e w' => ∃ x : Int, x ∈ ss ∧ e = .returned (.int .i64 x) ∧ w = w') := by
      intro S f w r
      have := smax_any S f ss (by omega) (by omega) w r
      rwa [hsl] at this
    have EQ : Hid (∀ (g c' : Nat) (D : Option Addr) (f : Nat) (w : World), Reads w w.heap.size 1 (some ⟨g, 0, none⟩) ds.length (ints ds) → Reads w w.heap.size 1 D ds.length (ints ds) → Calls Try.prog 41 #[.slice (some ⟨g, 0, none⟩) m c', .slice D m f] w fun e w' => e = .returned (.bool true) ∧ Below w.heap.size w w') := by
      intro g c' D f w r1 r2
      have := dequal_any (some ⟨g, 0, none⟩) c' ds D f ds (by omega) w r1 r2
      rwa [hdl, decide_eq_true rfl] at this
    have EC : Hid (cs = ds → ∀ (D : Option Addr) (f : Nat) (w : World), Reads w w.heap.size 1 B cs.length (ints cs) → Reads w w.heap.size 1 D ds.length (ints ds) → Calls Try.prog 41 #[.slice B cs.length d, .slice D m f] w fun e w' => e = .returned (.bool true) ∧ Below w.heap.size w w') := by
      intro he D f w r1 r2
      have := dequal_any B d cs D f ds (by omega) w r1 r2
      rwa [hdl, decide_eq_true he] at this
    obtain ⟨wb, hwb⟩ : ∃ b, decide (restL m (burntL es cs m p) = []) = b := ⟨_, rfl⟩
    rw [hwb] at SC
    have HWB : Hid (wb = true → cs = ds ∧ ∀ x ∈ ss, x = 0) := fun hb => hwas (of_decide_eq_true (hwb.trans hb))
    clear hwb
    have HMD := Lib.hid hmd
    have HDL := Lib.hid hdl
    have HSL := Lib.hid hsl
    have HF := Lib.hid hf
    obtain ⟨s0, hs0'⟩ := get_of_lt (xs := ss) (k := p) (by omega)
    have hs00 : s0 = 0 := by rw [← getD_at hs0', hsq]
    subst hs00
    have HSQ := Lib.hid hs0'
    have hml : (movedL es ss cs).length = m := by rw [movedL_length]; exact hcl
    obtain ⟨mv, hmv⟩ := get_of_lt (xs := movedL es ss cs) (k := p) (by omega)
    have HMV := Lib.hid hmv
    have HML := Lib.hid hml
    have hpi : (p : Int) < (m : Int) := hqn
    have hm0 : 0 < m := by omega
    clear hf hz hG hbd hlen hwas hmd hdl hsl hP hsq hs0 hBs hgs hgc hBm hzd hrd h60 hcl hs0' hmv hml
    go_enter Try.func8, Try.ntmps8
    go_wp2_with fail
    refine (RC.out _ ((h.alloc (Nat.le_refl _) _).more (by simp)) ((h'.alloc (Nat.le_refl _) _).more (by simp))).mono ?_
    rintro e w1 ⟨he, hb1⟩
    rw [HF.out] at he
    subst he
    have g1 := g0.next hb1
    have c0 := g1.cell 0
    have c1 := g1.cell 1
    have hB1 := hb0.trans (hb1.mono hb0.size)
    clear RC HF hb0 g0 hb1
    go_wp2_with fail
    refine (PC.out _ ((h.below hB1).more hB1.size) ((h'.below hB1).more hB1.size)).mono ?_
    rintro e w2 ⟨C, k2, S, l2, rfl, o2, p2, hb2⟩
    have g2 := g1.next hb2
    have c0 := g2.cell 0
    have c1 := g2.cell 1
    have hB2 := hB1.trans (hb2.mono hB1.size)
    obtain ⟨gs, rfl, _, _, hcs⟩ := p2.block (by have := HSL.out; omega)
    have hsq := hcs p 0 HSQ.out
    have hCl : ∀ k, blockOf C k → k < w2.heap.size := fun k hk => (own_lt o2 hk).2
    have hgsl : gs < w2.heap.size := (own_lt p2 (k := gs) ⟨_, rfl, rfl⟩).2
    clear hb2 g1 hcs
    go_wp2_with fail
    refine (MN.out _ _ w2 p2.reads).mono ?_
    rintro e w3 ⟨x, hx0, rfl, rfl⟩
    have hxn : ¬ x < 0 := by omega
    go_wp2_with fail
    refine (AC.out _ _ _ ((h.below hB2).more hB2.size) ((h'.below hB2).more hB2.size) p2.reads).mono ?_
    rintro e w3 ⟨g, k3, rfl, o3, hb3⟩
    have hg2 : w2.heap.size ≤ g := (own_lt o3 (k := g) ⟨_, rfl, rfl⟩).1
    have hs2 := hB2.size
    have g3 := g2.next hb3
    have c0 := g3.cell 0
    have c1 := g3.cell 1
    have o2 := o2.next hb3
    have p2 := p2.next hb3
    have hB3 := hB2.trans (hb3.mono hB2.size)
    clear g2 hb3 hB2 hsq hB1
    go_wp2_with fail
    refine (SD.out _ _ _ ((h.below hB3).more hB3.size) o2.reads).mono ?_
    rintro e w4 ⟨rfl, hb4⟩
    have g4 := g3.next hb4
    have c0 := g4.cell 0
    have c1 := g4.cell 1
    have o2 := o2.next hb4
    have p2 := p2.next hb4
    have o3 := o3.next hb4
    have hB4 := hB3.trans (hb4.mono hB3.size)
    clear g3 hb4 hB3
    go_wp2_with fail
    refine (SC.out _ ((h.below hB4).more hB4.size) ((h'.below hB4).more hB4.size)).mono ?_
    rintro e w5 ⟨rfl, hb5⟩
    have g5 := g4.next hb5
    have c0 := g5.cell 0
    have o2 := o2.next hb5
    have p2 := p2.next hb5
    have o3 := o3.next hb5
    have hB5 := hB4.trans (hb5.mono hB4.size)
    have hs5 := hB5.size
    obtain ⟨_, _, hf5, hc5⟩ := o3.at_ (by have := HML.out; omega)
    have hfp := hf5 p
    have hcp := hc5 p mv HMV.out
    have o6 := o3.put p 0
    rw [HMD.out] at o6
    have hB6 := hB5.setCell (p := ⟨g, p, none⟩) (by show w.heap.size ≤ g; omega) (.int .i64 0)
    have o26 : OwnI (w5.setCell ⟨g, p, none⟩ (.int .i64 0)) w1.heap.size C k2 ds := own_kept o2 fun k hk => Below.heap_setCell w5 ⟨g, p, none⟩ _ k (by have := hCl k hk; show k ≠ g; omega)
    have p26 : OwnI (w5.setCell ⟨g, p, none⟩ (.int .i64 0)) w1.heap.size (some ⟨gs, 0, none⟩) l2 ss := own_kept p2 fun k hk => by
      obtain ⟨a, ha, hk⟩ := hk
      injection ha with ha
      subst ha
      exact Below.heap_setCell w5 ⟨g, p, none⟩ _ k (by have e : gs = k := hk; show k ≠ g; omega)
    have HB5 := Lib.hid hB6
    clear g5 hb5 hB5 o3 o2 p2 hf5 hc5 hB6 g4 hB4
    go_wp2_with fail
    refine (EQ.out _ _ _ _ _ o6.reads o26.reads).mono ?_
    rintro e w7 ⟨rfl, hb7⟩
    have o2 := o26.next hb7
    have p2 := p26.next hb7
    have hB7 := HB5.out.trans (hb7.mono HB5.out.size)
    cases wb
    · go_wp2_with fail
      refine (awake_any w7).mono ?_
      rintro e w8 ⟨rfl, hb8⟩
      go_wp2
      go_ret
      exact ⟨rfl, hB7.trans (hb8.mono hB7.size)⟩
    · obtain ⟨hcd, hss⟩ := HWB.out rfl
      have EC2 := Lib.hid (EC.out hcd)
      have HSS := Lib.hid hss
      clear hcd hss
      go_wp2_with fail
      refine (EC2.out _ _ _ ((h'.below hB7).more hB7.size) o2.reads).mono ?_
      rintro e w8 ⟨rfl, hb8⟩
      have p2 := p2.next hb8
      have hB8 := hB7.trans (hb8.mono hB7.size)
      go_wp2_with fail
      refine (MX.out _ _ w8 p2.reads).mono ?_
      rintro e w9 ⟨y, hy, rfl, rfl⟩
      have hy0 := HSS.out y hy
      subst hy0
      go_wp2_with fail
      refine (awake_any w8).mono ?_
      rintro e w9 ⟨rfl, hb9⟩
      go_wp2
      go_ret
      exact ⟨rfl, hB8.trans (hb9.mono hB8.size)⟩

namespace lawBurningKeeps
open Go.ChangeShapes Go.WideShapes Go.ChangeAt Go.RowKit
set_option linter.unusedVariables false
set_option maxRecDepth 100000 in
theorem lifted (os : Os) (started : os.Started) (H : Type) (enc : TypeId × Value → H) :
    ReturnsInHanded {} Try.checked os 8 .any (Rows.burningKeepsSpec.pre6 enc Try.prog Try.f8 Rows.burningKeepsRow.domain false) (Rows.burningKeepsSpec.post enc Try.prog Try.f8 false true false false) := by
  refine returnsInHanded_of_change (C := Try.checked) own started (by kernel_rfl) Try.func8
    (ChangeSpec.witness6 (enc := enc) (C := Try.checked) false ⟨#[], #[.agg #[.int .i64 0, .slice none 0 0], .int .i64 0, .slice none 0 0], []⟩ 8 (by kernel_rfl) (by kernel_rfl) (by kernel_rfl) (by kernel_rfl)) ?_
  intro W base args ds gs before hval0 hW hcnd _
  have hval : ∀ (j : Nat) t v, Try.f8.params[j]? = some t → args[j]? = some v → Value.okWide Try.prog W .any base t v := hval0
  have hW' := hW
  obtain ⟨p, q, hA0, hV, rfl, hfz, hnd⟩ := hW
  have hA : DataW.TrodAll enc Try.prog W 0 (fun _ => true) true Try.f8.params.toList args.toList ds p := hA0
  rw [Try.params8] at hA hval
  obtain ⟨v0, vs0, d0, ds0, p0, q0, hargs, rfl, rfl, h0, r0⟩ := trodAll_cons hA
  obtain ⟨v1, vs1, d1, ds1, p1, q1, rfl, rfl, rfl, h1, r1⟩ := trodAll_cons r0
  obtain ⟨v2, vs2, d2, ds2, p2, q2, rfl, rfl, rfl, h2, r2⟩ := trodAll_cons r1
  obtain ⟨rfl, rfl, rfl⟩ := trodAll_nil r2
  obtain rfl : args = #[v0, v1, v2] := by cases args; simp_all
  obtain ⟨rfl, rfl⟩ := trodVars_none hV
  obtain ⟨cs0, rfl, _⟩ := okWide_struct Try.underlying24 (hval 0 24 v0 rfl rfl)
  have k0 := h0
  have lt0 : ∀ x ∈ p0, x.block < W.heap.size := by obtain ⟨m, hm⟩ := k0; exact DataW.trod_lt m _ _ _ hm
  obtain ⟨_, hf0⟩ := h0
  obtain ⟨n0, a0, cap0, xs0, hcs0, hm0, hr0, hw0⟩ := open_graph hf0
  obtain rfl : cs0 = #[.int .i64 n0, .slice a0 xs0.length cap0] := Array.toList_inj.1 hcs0
  obtain ⟨a1, rfl, rfl, rfl, w1⟩ := open_int Try.underlying3 (hval 1 3 v1 rfl rfl) h1
  obtain ⟨b2, len2, c2, rfl⟩ := okWide_slice Try.underlying26 (hval 2 26 v2 rfl rfl)
  have k2 := h2
  have lt2 : ∀ x ∈ p2, x.block < W.heap.size := by obtain ⟨m, hm⟩ := k2; exact DataW.trod_lt m _ _ _ hm
  obtain ⟨_, hf2⟩ := h2
  obtain ⟨a2, cap2, xs2, hcs2, hm2, hr2, hw2⟩ := open_row Try.underlying26 hf2
  obtain ⟨rfl, rfl, rfl⟩ : b2 = a2 ∧ len2 = xs2.length ∧ c2 = cap2 := by simpa [Value.cells] using hcs2
  clear hA0 hval0
  refine (burningKeeps_walk W n0 a0 cap0 xs0 hm0 hw0 hr0 a1 w1 b2 c2 xs2 hm2 hw2 hr2).mono fun e W' ⟨he, bel⟩ => ?_
  subst he
  exact ⟨_, rfl, _, _, _, [], _, [], hW', trodAll_mk1 (shut_bool Try.underlying4 _), (trodAll_cons_mk (Below.trod laidOut (by kernel_rfl) (of_decide_eq_true (by kernel_rfl)) k0 bel lt0) (trodAll_cons_mk (shut_int Try.underlying3 w1) (trodAll_cons_mk (Below.trod laidOut (by kernel_rfl) (of_decide_eq_true (by kernel_rfl)) k2 bel lt2) trodAll_mk0))), rfl, bel.frame _, fun h => by cases h⟩

theorem over : Rows.burningKeepsRow.holds Try.pinned (OpenSpec.ofChange Rows.burningKeepsSpec) :=
  OpenClaim.holds_of_wide 8 Try.f8 rfl rfl rfl rfl rfl rfl rfl ⟨rfl, rfl, rfl, rfl, rfl⟩ rfl rfl rfl rfl rfl (by kernel_rfl) Try.func8 (by kernel_rfl)
    (of_decide_eq_true (by kernel_rfl)) (by unfold Func.isWrapper; first | (rw [if_pos (by decide +kernel)]; kernel_rfl) | (rw [if_neg (by decide +kernel)]; exact ⟨rfl, rfl⟩))
    (fun os started H enc _ => lifted os started H enc)

/-- For every graph, sink and divisor the law BurningKeeps answers true. -/
theorem proved : Rows.BurningKeepsSaid := over
#print axioms proved
end lawBurningKeeps
end Go.Proofs.Ythbannpmfdflaaa
