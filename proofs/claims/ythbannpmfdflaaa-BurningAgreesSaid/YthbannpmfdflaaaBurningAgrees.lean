/-
  For every graph, sink and divisor the law BurningAgrees answers true: a configuration is superstable exactly if all vertices burn, in waves with the same vertices, and the order of burning proves it; otherwise the unburnt vertices block. There are no conditions.
-/
import Derived.Test.YthbannpmfdflaaaAwakeB
import Derived.Test.YthbannpmfdflaaaLawG
import Derived.Test.YthbannpmfdflaaaRight
import Derived.Test.YthbannpmfdflaaaAgreesP
import Derived.Test.YthbannpmfdflaaaBurnE
import Derived.Test.YthbannpmfdflaaaVer
import Derived.Test.YthbannpmfdflaaaConcat
import Derived.Deep.RegionHeld3
namespace Go.Proofs.Ythbannpmfdflaaa
open Go.RowKit

set_option maxRecDepth 100000 in
set_option maxHeartbeats 4000000 in
theorem burningAgrees_walk (w : World) (n : Int) (A : Option Addr) (c : Nat) (es : List E3) (_hm : es.length ≤ maxLen) (_hw : (Lit.int .i64 n).wf = true) (h : Reads w w.heap.size 3 A es.length (edgeCells es)) (q : Int) (_hq : (Lit.int .i64 q).wf = true)
    (B : Option Addr) (d : Nat) (cs : List Int) (_hm' : cs.length ≤ maxLen) (_hw' : ∀ x ∈ cs, (Lit.int .i64 x).wf = true) (h' : Reads w w.heap.size 1 B cs.length (ints cs)) :
    Calls Try.prog 9 #[.agg #[.int .i64 n, .slice A es.length c], .int .i64 q, .slice B cs.length d] w fun e w' => e = .returned (.bool true) ∧ Below w.heap.size w w' := by
  have RC := Lib.hid (fun w h h' => right_any n A c es q B d cs w h h')
  have g0 := Blk.new w 24 #[.int .i64 n, .slice A es.length c]
  have hb0 : Below w.heap.size w (w.alloc (.cells #[.int .i64 n, .slice A es.length c] 24)) := (Below.refl _ _).alloc (Nat.le_refl _) _
  cases hf : rightB n es q cs
  · have HF := Lib.hid hf
    clear hf
    go_enter Try.func9, Try.ntmps9
    go_wp2_with fail
    refine (RC.out _ ((h.alloc (Nat.le_refl _) _).more (by simp)) ((h'.alloc (Nat.le_refl _) _).more (by simp))).mono ?_
    rintro e w1 ⟨he, hb1⟩
    rw [HF.out] at he
    subst he
    have hB1 := hb0.trans (hb1.mono hb0.size)
    go_wp2_with fail
    refine (awake_any w1).mono ?_
    rintro e w2 ⟨rfl, hb2⟩
    go_wp2
    go_ret
    exact ⟨rfl, hB1.trans (hb2.mono hB1.size)⟩
  · obtain ⟨h1, h2, h6, h60, hz⟩ := right_parts hf
    obtain ⟨hG, _, hq0, hqn, hlen, hbd, _⟩ := conf_zero (burn_zero hz).1
    have hlo := hG.lo
    obtain ⟨m, rfl⟩ := Int.eq_ofNat_of_zero_le (show 0 ≤ n by omega)
    obtain ⟨p, rfl⟩ := Int.eq_ofNat_of_zero_le hq0
    obtain ⟨a1, a2, a3, a4, a5⟩ := agrees_plain hz
    have BC := Lib.hid (fun w h h' => burn_ok m A c es (by omega) p B d cs (by omega) hz w h h')
    have WC := Lib.hid (fun w h h' => waves_ok m A c es (by omega) p B d cs (by omega) hz w h h')
    have SC : Hid (∀ (w : World), Reads w w.heap.size 3 A es.length (edgeCells es) → Reads w w.heap.size 1 B cs.length (ints cs) → Calls Try.prog 35 #[.agg #[.int .i64 m, .slice A es.length c], .int .i64 p, .slice B cs.length d] w fun e w' => e = .returned (.tuple #[.bool (decide (restL m (burntL es cs m p) = [])), .int .i64 0]) ∧ Below w.heap.size w w') := by
      intro w r1 r2
      have := super_any m A c es (by omega) p B d cs (by omega) w r1 r2
      rw [show superE m es p cs = (decide (restL m (burntL es cs m p) = []), 0) from by unfold superE; rw [if_pos hz]; simp] at this
      exact this
    have VC := Lib.hid (fun D f xs hf hs w r1 r2 r3 => verify_any m A c es (by omega) p B d cs (by omega) D f xs hf hs w r1 r2 r3)
    have KC := Lib.hid (fun D f S hs w r1 r2 r3 => blocks_any m A c es (by omega) p B d cs (by omega) D f S hs w r1 r2 r3)
    have hrl := rounds_length (es := es) (cs := cs) (n := m) m [p]
    obtain ⟨xss, hxss⟩ : ∃ xss, ([p] :: roundsL es cs m m [p]).map natsI = xss := ⟨_, rfl⟩
    have hfl : xss.flatten = natsI ([p] :: roundsL es cs m m [p]).flatten := by rw [← hxss, natsI_flatten]
    have hxl : xss.length ≤ 13 := by rw [← hxss]; simp; omega
    obtain ⟨F, hF⟩ : ∃ F, ([p] :: roundsL es cs m m [p]).flatten = F := ⟨_, rfl⟩
    rw [hF] at a3 a4 hfl
    have HXS := Lib.hid hxss
    clear hrl hF hxss
    obtain ⟨bl, hbl⟩ : ∃ bl, burntL es cs m p = bl := ⟨_, rfl⟩
    rw [hbl] at BC SC a1 a2 a3 a4 a5
    obtain ⟨rl, hrl⟩ : ∃ rl, restL m bl = rl := ⟨_, rfl⟩
    rw [hrl] at BC SC a1 a4 a5
    obtain ⟨ok, hok⟩ : ∃ b, decide (rl = []) = b := ⟨_, rfl⟩
    rw [hok] at SC
    have hle : ((rl.length : Int) == 0) = ok := by rw [← hok, Bool.eq_iff_iff]; simp
    have HOK := Lib.hid hok
    clear hok
    have hFl : F.length = bl.length := a3.length_eq
    have HPF : Hid ((natsI F).Perm (natsI bl)) := natsI_perm a3
    have HFL := Lib.hid hfl
    have hb0l : 0 < bl.length := (List.getElem?_eq_some_iff.1 a2).1
    have hxfl : xss.flatten.length = bl.length := by rw [hfl, natsI_length, hFl]
    have HA4 := Lib.hid a4
    have HA5 := Lib.hid a5
    have HA2 := Lib.hid a2
    have HF := Lib.hid hf
    have HXFL := Lib.hid hxfl
    have HFL2 := Lib.hid hFl
    have hsum : ((bl.length : Int) + (rl.length : Int) != (m : Int)) = false := by simp; omega
    have hbl12 : bl.length ≤ 6 := by omega
    have hrl12 : rl.length ≤ 6 := by omega
    have hbz : ((bl.length : Int) == 0) = false := by rw [beq_eq_false_iff_ne]; omega
    have h00 : (0 : Int) < (bl.length : Int) := by omega
    clear hf hz hG hbd hlen hrl hbl a2 a3 a4 a5 hfl hxfl hFl h60
    go_enter Try.func9, Try.ntmps9
    go_wp2_with fail
    refine (RC.out _ ((h.alloc (Nat.le_refl _) _).more (by simp)) ((h'.alloc (Nat.le_refl _) _).more (by simp))).mono ?_
    rintro e w1 ⟨he, hb1⟩
    rw [HF.out] at he
    subst he
    have g1 := g0.next hb1
    have c0 := g1.cell 0
    have c1 := g1.cell 1
    have hB1 := hb0.trans (hb1.mono hb0.size)
    clear RC HF hb0 g0 hb1
    go_wp2_with fail
    refine (BC.out _ ((h.below hB1).more hB1.size) ((h'.below hB1).more hB1.size)).mono ?_
    rintro e w2 ⟨A1, k1, A2, k2, rfl, o1, o2, hb2⟩
    have g2 := g1.next hb2
    have c0 := g2.cell 0
    have c1 := g2.cell 1
    have hB2 := hB1.trans (hb2.mono hB1.size)
    clear g1 hb2 hB1
    go_wp2_with fail
    refine (WC.out _ ((h.below hB2).more hB2.size) ((h'.below hB2).more hB2.size)).mono ?_
    rintro e w3 ⟨A3, k3, vs, xss', hx', rfl, o3, hb3⟩
    obtain rfl : xss' = xss := hx'.trans HXS.out
    have g3 := g2.next hb3
    have c0 := g3.cell 0
    have c1 := g3.cell 1
    have hB3 := hB2.trans (hb3.mono hB2.size)
    have o1 := o1.next hb3
    have o2 := o2.next hb3
    clear g2 hb3 hB2 hx'
    go_wp2_with fail
    refine (SC.out _ ((h.below hB3).more hB3.size) ((h'.below hB3).more hB3.size)).mono ?_
    rintro e w4 ⟨rfl, hb4⟩
    have g4 := g3.next hb4
    have c0 := g4.cell 0
    have hB4 := hB3.trans (hb4.mono hB3.size)
    have o1 := o1.next hb4
    have o2 := o2.next hb4
    have o3 := o3.next hb4
    clear g3 hb4 hB3
    -- the first vertex
    have rl1 : Reads w4 w4.heap.size 1 A1 bl.length (ints (natsI bl)) := by have := o1.reads; rw [natI_length] at this; exact this
    obtain ⟨b1, off1, hA1, _, hc1⟩ := (o1.reads).at_ (k := 0) (ints_at (show (natI bl)[0]? = some (p : Int) from natsI_at HA2.out))
    rw [Nat.add_zero] at hc1
    have hblk1 : ∀ k, blockOf A1 k → k < w4.heap.size := fun k hk => (own_lt o1 hk).2
    subst hA1
    have CCx := Lib.hid (fun w r => concat_any A3 k3 xss' (by omega) (by have := HXFL.out; omega) (by have := HXFL.out; omega) w r)
    obtain ⟨G, hGe⟩ : ∃ G, xss'.flatten = G := ⟨_, rfl⟩
    rw [hGe] at CCx HFL HXFL
    clear hGe
    go_wp2_with fail
    refine (CCx.out w4 o3.reads).mono ?_
    rintro e w5 ⟨R1, s1, rfl, p1, hb5⟩
    have g5 := g4.next hb5
    have hB5 := hB4.trans (hb5.mono hB4.size)
    have o1 := o1.next hb5
    have o2 := o2.next hb5
    have o3 := o3.next hb5
    have hR1 : ∀ k, blockOf R1 k → k < w5.heap.size := fun k hk => (own_lt p1 hk).2
    have hs45 := hb5.size
    clear g4 hb5 hB4 c0 hc1 rl1
    go_wp2_with fail
    refine (values_any R1 s1 G w5).mono ?_
    rintro e w6 ⟨rfl, hw6⟩
    have b6 : Blk w6 w5.heap.size 25 #[.slice R1 G.length s1] := by rw [← hw6]; exact Blk.new _ _ _
    have hb6 : Below w5.heap.size w5 w6 := by rw [← hw6]; exact (Below.refl _ _).alloc (Nat.le_refl _) _
    have hs56 : w5.heap.size ≤ w6.heap.size := hb6.size
    have p1 := p1.next hb6
    have g6 := g5.next hb6
    have hB6 := hB5.trans (hb6.mono hB5.size)
    have o1 := o1.next hb6
    have o2 := o2.next hb6
    have o3 := o3.next hb6
    have SX := Lib.hid (sorted_any R1 s1 G (by have := HXFL.out; omega) (by have := HXFL.out; omega) w5.heap.size w6 b6 p1.reads (fun k hk => by have := hR1 k hk; omega))
    clear hw6 b6 hb6 hB5 g5 p1 hR1
    go_wp2_with fail
    refine (SX.out).mono ?_
    rintro e w7 ⟨R2, s2, ys, hp1, hs1, rfl, q1, hb7⟩
    have HP1 := Lib.hid hp1
    have HS1 := Lib.hid hs1
    have hyl : Hid (ys.length ≤ 12) := by rw [Hid, hp1.length_eq]; have := HXFL.out; omega
    have g7 := g6.next hb7
    have hB7 := hB6.trans (hb7.mono hB6.size)
    have o1 := o1.next hb7
    have o2 := o2.next hb7
    have o3 := o3.next hb7
    have hs67 := hb7.size
    clear hp1 hs1 g6 hB6 hb7 SX
    have VL := values_any (some ⟨b1, off1, none⟩) k1 (natI bl) w7
    rw [natI_length] at VL
    have VL := Lib.hid VL
    go_wp2_with fail
    refine (VL.out).mono ?_
    rintro e w8 ⟨rfl, hw8⟩
    have b8 : Blk w8 w7.heap.size 25 #[.slice (some ⟨b1, off1, none⟩) bl.length k1] := by rw [← hw8]; exact Blk.new _ _ _
    have hb8 : Below w7.heap.size w7 w8 := by rw [← hw8]; exact (Below.refl _ _).alloc (Nat.le_refl _) _
    have hs78 : w7.heap.size ≤ w8.heap.size := hb8.size
    have q1 := q1.next hb8
    have g8 := g7.next hb8
    have hB8 := hB7.trans (hb8.mono hB7.size)
    have o1 := o1.next hb8
    have o2 := o2.next hb8
    have o3 := o3.next hb8
    have hnbl := natI_length bl
    rw [← hnbl] at b8
    have SY := sorted_any (some ⟨b1, off1, none⟩) k1 (natI bl) (by omega) (by omega) w7.heap.size w8 b8 o1.reads (fun k hk => by have := hblk1 k hk; omega)
    have SY := Lib.hid SY
    clear hw8 b8 hb8 hB7 g7 VL hnbl
    go_wp2_with fail
    refine (SY.out).mono ?_
    rintro e w9 ⟨R3, s3, zs, hp2, hs2, rfl, q2, hb9⟩
    have hyz : Hid (ys = zs) := by
      refine sorted_same HPF.out ?_ hp2 HS1.out hs2
      have := HP1.out
      rw [HFL.out] at this
      exact this
    have g9 := g8.next hb9
    have hB9 := hB8.trans (hb9.mono hB8.size)
    have q1 := q1.next hb9
    have o1 := o1.next hb9
    have o2 := o2.next hb9
    have o3 := o3.next hb9
    clear hp2 hs2 g8 hB8 hb9 SY
    go_wp2_with fail
    refine (iequal_any R2 _ ys R3 _ zs (by have := hyl.out; omega) w9 q1.reads q2.reads).mono ?_
    rintro e w10 ⟨he, hb10⟩
    rw [decide_eq_true hyz.out] at he
    subst he
    have g10 := g9.next hb10
    have hB10 := hB9.trans (hb10.mono hB9.size)
    have o1 := o1.next hb10
    have o2 := o2.next hb10
    have o3 := o3.next hb10
    have c0 := g10.cell 0
    have c1 := g10.cell 1
    clear g9 hB9 hb10 q1 q2 hyz hyl
    cases ok
    · have hne : rl ≠ [] := by have := HOK.out; simpa using this
      obtain ⟨k1', k2'⟩ := HA5.out hne
      have hnr := natI_length rl
      have KB := KC.out A2 k2 (natI rl) (by omega) w10 ((h.below hB10).more hB10.size) ((h'.below hB10).more hB10.size) o2.reads
      rw [show blkErr m es p cs (natI rl) = 0 from k1', show blkB m es p cs (natI rl) = true from k2', hnr] at KB
      have KB := Lib.hid KB
      clear hne k1' k2' hnr
      go_wp2_with fail
      refine (KB.out).mono ?_
      rintro e w11 ⟨rfl, hb11⟩
      have hB11 := hB10.trans (hb11.mono hB10.size)
      go_wp2_with fail
      refine (awake_any w11).mono ?_
      rintro e w12 ⟨rfl, hb12⟩
      go_wp2
      go_ret
      exact ⟨rfl, hB11.trans (hb12.mono hB11.size)⟩
    · have hre : rl = [] := by have := HOK.out; simpa using this
      obtain ⟨v1, v2, v3, v4⟩ := HA4.out hre
      have hnb := natI_length bl
      have hcap := own_cap o1
      have VB := VC.out (some ⟨b1, off1, none⟩) k1 (natI bl) hcap (by omega) w10 ((h.below hB10).more hB10.size) ((h'.below hB10).more hB10.size) o1.reads
      rw [show verErr m es p cs (natI bl) = 0 from v1, show verB m es p cs (natI bl) = true from v2, hnb] at VB
      have VB := Lib.hid VB
      have HV3 : Hid (∀ (D : Option Addr) (f base : Nat) (W : World), OwnI W base D f G → Reads W W.heap.size 3 A es.length (edgeCells es) → Reads W W.heap.size 1 B cs.length (ints cs) → Calls Try.prog 29 #[.agg #[.int .i64 m, .slice A es.length c], .int .i64 p, .slice B cs.length d, .slice D G.length f] W fun e w' => e = .returned (.tuple #[.bool true, .int .i64 0]) ∧ Below W.heap.size W w') := by
        intro D f base W ho r1 r2
        have := VC.out D f G (own_cap ho) (by have := HXFL.out; omega) W r1 r2 ho.reads
        rw [show verErr m es p cs G = 0 from by rw [HFL.out]; exact v3, show verB m es p cs G = true from by rw [HFL.out]; exact v4] at this
        exact this
      clear hre v1 v2 v3 v4 hnb hcap
      go_wp2_with fail
      refine (VB.out).mono ?_
      rintro e w11 ⟨rfl, hb11⟩
      have g11 := g10.next hb11
      have hB11 := hB10.trans (hb11.mono hB10.size)
      have o3 := o3.next hb11
      have c0 := g11.cell 0
      have c1 := g11.cell 1
      have hgl := g11.lt
      have hs11 := hB11.size
      have RR := Lib.hid o3.reads
      have RH := Lib.hid h
      have RH' := Lib.hid h'
      clear g10 hb11 hB10 VB h h'
      go_wp2
      go_region_held3 (fun W => W.cell? ⟨w.heap.size, 0, none⟩ = some (.int .i64 m) ∧ W.cell? ⟨w.heap.size, 1, none⟩ = some (.slice A es.length c)) (go_keep)
        (first
          | (go_at_call 46; refine (CCx.out _ (by exact RR.out)).mono ?_; rintro e w12 ⟨R4, s4, rfl, p4, hb12⟩
             have hb12' : Below w11.heap.size w11 w12 := (Below.refl _ _).drew.trans hb12
             have hB12 := hB11.trans (hb12'.mono hs11)
             have k0 := (g11.next hb12').cell 0
             have k1 := (g11.next hb12').cell 1)
          | (go_at_call 29; refine (HV3.out _ _ _ _ p4 ((RH.out.below hB12).more hB12.size) ((RH'.out.below hB12).more hB12.size)).mono ?_; rintro e w13 ⟨rfl, hb13⟩
             have hb13' : Below w11.heap.size w11 w13 := hb12'.trans (hb13.mono hb12'.size)
             have k0 := (g11.next hb13').cell 0
             have k1 := (g11.next hb13').cell 1))
      all_goals (
        have hB13 := hB11.trans (hb13'.mono hs11)
        go_wp2_with fail
        refine (awake_any w13).mono ?_
        rintro e w14 ⟨rfl, hb14⟩
        go_wp2
        go_ret
        exact ⟨rfl, hB13.trans (hb14.mono hB13.size)⟩)

namespace lawBurningAgrees
open Go.ChangeShapes Go.WideShapes Go.ChangeAt Go.RowKit
set_option linter.unusedVariables false
set_option maxRecDepth 100000 in
theorem lifted (os : Os) (started : os.Started) (H : Type) (enc : TypeId × Value → H) :
    ReturnsInHanded {} Try.checked os 9 .any (Rows.burningAgreesSpec.pre6 enc Try.prog Try.f9 Rows.burningAgreesRow.domain false) (Rows.burningAgreesSpec.post enc Try.prog Try.f9 false true false false) := by
  refine returnsInHanded_of_change (C := Try.checked) own started (by kernel_rfl) Try.func9
    (ChangeSpec.witness6 (enc := enc) (C := Try.checked) false ⟨#[], #[.agg #[.int .i64 0, .slice none 0 0], .int .i64 0, .slice none 0 0], []⟩ 8 (by kernel_rfl) (by kernel_rfl) (by kernel_rfl) (by kernel_rfl)) ?_
  intro W base args ds gs before hval0 hW hcnd _
  have hval : ∀ (j : Nat) t v, Try.f9.params[j]? = some t → args[j]? = some v → Value.okWide Try.prog W .any base t v := hval0
  have hW' := hW
  obtain ⟨p, q, hA0, hV, rfl, hfz, hnd⟩ := hW
  have hA : DataW.TrodAll enc Try.prog W 0 (fun _ => true) true Try.f9.params.toList args.toList ds p := hA0
  rw [Try.params9] at hA hval
  obtain ⟨v0, vs0, d0, ds0, p0, q0, hargs, rfl, rfl, h0, r0⟩ := trodAll_cons hA
  obtain ⟨v1, vs1, d1, ds1, p1, q1, rfl, rfl, rfl, h1, r1⟩ := trodAll_cons r0
  obtain ⟨v2, vs2, d2, ds2, p2, q2, rfl, rfl, rfl, h2, r2⟩ := trodAll_cons r1
  obtain ⟨rfl, rfl, rfl⟩ := trodAll_nil r2
  obtain rfl : args = #[v0, v1, v2] := by cases args; simp_all
  obtain ⟨rfl, rfl⟩ := trodVars_none hV
  obtain ⟨cs0, rfl, _⟩ := okWide_struct Try.underlying24 (hval 0 24 v0 rfl rfl)
  have k0 := h0
  have lt0 : ∀ x ∈ p0, x.block < W.heap.size := by obtain ⟨m, hm⟩ := k0; exact DataW.trod_lt m _ _ _ hm
  obtain ⟨_, hf0⟩ := h0
  obtain ⟨n0, a0, cap0, xs0, hcs0, hm0, hr0, hw0⟩ := open_graph hf0
  obtain rfl : cs0 = #[.int .i64 n0, .slice a0 xs0.length cap0] := Array.toList_inj.1 hcs0
  obtain ⟨a1, rfl, rfl, rfl, w1⟩ := open_int Try.underlying3 (hval 1 3 v1 rfl rfl) h1
  obtain ⟨b2, len2, c2, rfl⟩ := okWide_slice Try.underlying26 (hval 2 26 v2 rfl rfl)
  have k2 := h2
  have lt2 : ∀ x ∈ p2, x.block < W.heap.size := by obtain ⟨m, hm⟩ := k2; exact DataW.trod_lt m _ _ _ hm
  obtain ⟨_, hf2⟩ := h2
  obtain ⟨a2, cap2, xs2, hcs2, hm2, hr2, hw2⟩ := open_row Try.underlying26 hf2
  obtain ⟨rfl, rfl, rfl⟩ : b2 = a2 ∧ len2 = xs2.length ∧ c2 = cap2 := by simpa [Value.cells] using hcs2
  clear hA0 hval0
  refine (burningAgrees_walk W n0 a0 cap0 xs0 hm0 hw0 hr0 a1 w1 b2 c2 xs2 hm2 hw2 hr2).mono fun e W' ⟨he, bel⟩ => ?_
  subst he
  exact ⟨_, rfl, _, _, _, [], _, [], hW', trodAll_mk1 (shut_bool Try.underlying4 _), (trodAll_cons_mk (Below.trod laidOut (by kernel_rfl) (of_decide_eq_true (by kernel_rfl)) k0 bel lt0) (trodAll_cons_mk (shut_int Try.underlying3 w1) (trodAll_cons_mk (Below.trod laidOut (by kernel_rfl) (of_decide_eq_true (by kernel_rfl)) k2 bel lt2) trodAll_mk0))), rfl, bel.frame _, fun h => by cases h⟩

theorem over : Rows.burningAgreesRow.holds Try.pinned (OpenSpec.ofChange Rows.burningAgreesSpec) :=
  OpenClaim.holds_of_wide 9 Try.f9 rfl rfl rfl rfl rfl rfl rfl ⟨rfl, rfl, rfl, rfl, rfl⟩ rfl rfl rfl rfl rfl (by kernel_rfl) Try.func9 (by kernel_rfl)
    (of_decide_eq_true (by kernel_rfl)) (by unfold Func.isWrapper; first | (rw [if_pos (by decide +kernel)]; kernel_rfl) | (rw [if_neg (by decide +kernel)]; exact ⟨rfl, rfl⟩))
    (fun os started H enc _ => lifted os started H enc)

/-- For every graph, sink and divisor the law BurningAgrees answers true. -/
theorem proved : Rows.BurningAgreesSaid := over
#print axioms proved
end lawBurningAgrees
end Go.Proofs.Ythbannpmfdflaaa
