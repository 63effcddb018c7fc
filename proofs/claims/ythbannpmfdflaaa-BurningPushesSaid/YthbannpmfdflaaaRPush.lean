/-
  ref23.Pushed and ref23.Push.
-/
import Derived.Test.YthbannpmfdflaaaRMoved
import Derived.Test.YthbannpmfdflaaaIterX
import Derived.Test.YthbannpmfdflaaaRConf2
import Derived.Test.YthbannpmfdflaaaLit
import Derived.Test.YthbannpmfdflaaaPushE
import Derived.Test.YthbannpmfdflaaaPushP
import Derived.BigRegion
namespace Go.Proofs.Ythbannpmfdflaaa
open Go.RowKit

theorem reads_put {w : World} {C : Option Addr} {xs : List Int} {g k : Nat} {u : Value} (h : Reads w w.heap.size 1 C xs.length (ints xs)) (hC : ∀ k, blockOf C k → k ≠ g) : Reads (w.setCell ⟨g, k, none⟩ u) w.heap.size 1 C xs.length (ints xs) :=
  reads_only (C := fun k => k = g) h ⟨rfl, rfl, rfl, by simp [World.setCell], fun i _ hn => Below.heap_setCell w _ u i hn⟩ (Nat.le_refl _) fun k hk e => hC k hk e
theorem rest_lt {n : Nat} {b : List Nat} : ∀ u ∈ restL n b, u < n := fun _ hu => (mem_rest.1 hu).1

set_option maxRecDepth 100000 in
set_option maxHeartbeats 8000000 in
theorem pushed_any (n : Nat) (hn12 : n ≤ 12) (A : Option Addr) (c : Nat) (es : List E3) (hn : es.length ≤ 1048576) (N : Int) (hok : ∀ e ∈ es, okE N e) (q : Nat) (hq : q < n) (B : Option Addr) (d : Nat) (cs0 : List Int) (hcl : cs0.length = n) (hbd : Bd 1048576 cs0)
    (r : Option (List Int × List Int)) (hr : PushR es n q cs0 (List.replicate n 0) 0 r) (w : World)
    (h : Reads w w.heap.size 3 A es.length (edgeCells es)) (h' : Reads w w.heap.size 1 B cs0.length (ints cs0)) :
    Calls Try.prog 69 #[.agg #[.int .i64 n, .slice A es.length c], .int .i64 q, .slice B cs0.length d] w fun e w' => ∃ (C : Option Addr) (c' : Nat) (S : Option Addr) (c'' m : Nat) (cs ss : List Int),
      e = .returned (.tuple #[.slice C cs.length c', .slice S ss.length c'', .int .i64 m]) ∧ ((m ≤ 1048576 ∧ r = some (cs, ss)) ∨ (1048576 < m ∧ r = none)) ∧ Reads w' w'.heap.size 1 C cs.length (ints cs) ∧ Reads w' w'.heap.size 1 S ss.length (ints ss) ∧ Below w.heap.size w w' := by
  have hmk := make_script n (by omega)
  have g0 := (Blk.new w 24 #[.int .i64 n, .slice A es.length c]).alloc (.cells (ints (List.replicate n 0)).toArray 3)
  have s0 : Blk ((w.alloc (.cells #[.int .i64 n, .slice A es.length c] 24)).alloc (.cells (ints (List.replicate n 0)).toArray 3)) (w.heap.size + 1) 3 (intCells (List.replicate n 0)) := by
    have s0 := Blk.new (w.alloc (.cells #[.int .i64 n, .slice A es.length c] 24)) 3 (ints (List.replicate n 0)).toArray
    rw [show (w.alloc (.cells #[.int .i64 n, .slice A es.length c] 24)).heap.size = w.heap.size + 1 from by simp] at s0
    exact s0
  have hb0 : Below w.heap.size w ((w.alloc (.cells #[.int .i64 n, .slice A es.length c] 24)).alloc (.cells (ints (List.replicate n 0)).toArray 3)) := ((Below.refl w.heap.size w).alloc (Nat.le_refl _) _).alloc (by simp) _
  have hP0 : PState es n q r cs0 (List.replicate n 0) 0 := ⟨hcl, by simp, .inl ⟨by omega, hr, by simpa using hbd, fun x hx => by rw [List.eq_of_mem_replicate hx]; simp⟩⟩
  have HP0 := Lib.hid hP0
  have HO := Lib.hid hok
  have UC := Lib.hid (fun C d cs hcl w h h' => runburnt_any n hn12 A c es hn N hok q hq C d cs hcl w h h')
  have OC := Lib.hid (fun D d' l hl hll w h => of_any n hn12 A es.length c D d' l hl hll w h)
  have MC := Lib.hid (fun C d cs hcl M hM hbd D f ss hsl hss w h h' h'' => moved_any n hn12 (by omega) A c es hn N hok C d cs hcl M hM hbd D f ss hsl hss w h h' h'')
  have WC := Lib.hid (fun C d cs hcm hqc w h => without_any C d cs hcm q hqc w h)
  have hcm0 : cs0.length ≤ 12 := by omega
  have HCL0 := Lib.hid hcl
  have c0 := g0.cell 0
  have c1 := g0.cell 1
  have h2 := (h.below hb0).more hb0.size
  have h2' := (h'.below hb0).more hb0.size
  clear hbd hr hP0 hok hn hcl
  go_enter Try.func69, Try.ntmps69
  go_wp2_with fail
  refine (UC.out B d cs0 HCL0.out _ h2 h2').mono ?_
  rintro e w1 ⟨D1, d1, rfl, oD1, hb1⟩
  have g1 := g0.next hb1
  have s1 := s0.next hb1
  have hbel1 := hb0.trans (hb1.mono (by simp; omega))
  have hrd1 := h'.below hbel1
  have oD1' := oD1.mono (base' := w.heap.size + 2) (by simp)
  have HD1 : Hid (∀ k, blockOf B k → 0 < cs0.length → k ≠ w.heap.size + 1) := fun k hk hn => by
    obtain ⟨b, off, rfl, hb, _⟩ := h'.2 hn
    obtain ⟨a, ha, hk⟩ := hk
    injection ha with ha
    subst ha
    have e : b = k := hk
    omega
  clear g0 s0 hb0 c0 c1 h2 h2' hb1 oD1
  go_wp2_with fail
  go_loopw [2, 10, 11] (fun t2 t10 t11 wr => ∃ (C : Option Addr) (c' : Nat) (cs ss : List Int) (m : Nat) (D : Option Addr) (d' : Nat) (L : List Nat), t2 = .slice C cs.length c' ∧ t10 = .int .i64 m ∧ t11 = .slice D L.length d' ∧ Hid (L = leftC es n q cs) ∧ Hid (PState es n q r cs ss m) ∧
      Below w.heap.size w wr ∧ Blk wr w.heap.size 24 #[.int .i64 n, .slice A es.length c] ∧ Blk wr (w.heap.size + 1) 3 (intCells ss) ∧ OwnI wr (w.heap.size + 2) D d' (natsI L) ∧ Reads wr wr.heap.size 1 C cs.length (ints cs) ∧ Hid (∀ k, blockOf C k → k ≠ w.heap.size + 1)) (fun _ t10 _ _ => 1048590 - (intOf t10).toNat)
  case atStart => exact ⟨B, d, cs0, List.replicate n 0, 0, D1, d1, _, rfl, rfl, rfl, rfl, HP0.out, hbel1, g1, s1, oD1', hrd1.more hbel1.size, fun k hk => HD1.out k hk (by have := HCL0.out; omega)⟩
  case round =>
    obtain ⟨C, c', cs, ss, m, D, d', L, rfl, rfl, rfl, HL, HP, hbel, g2, s2, oD, rC, HC⟩ := hrel
    clear hbel1 g1 s1 oD1' hrd1 HD1 HP0
    obtain ⟨wo, rfl⟩ : ∃ wo : World, wo = wr := ⟨_, rfl⟩
    have hsz := hbel.size
    by_cases hstop : 0 < L.length ∧ m ≤ 1048576
    · obtain ⟨hL0, hm⟩ := hstop
      have hi0 : (0 : Int) < (L.length : Int) := by omega
      have hi1 : (m : Int) ≤ 1048576 := by omega
      have hLL : L.length ≤ 12 := by rw [HL.out]; exact Nat.le_trans (leftC_len _ _ _ _) hn12
      have hne : leftC es n q cs ≠ [] := by rw [← HL.out]; exact List.length_pos_iff.1 hL0
      have HPN := Lib.hid (HP.out.next hn12 HO.out hm hne)
      have hcn := HP.out.1
      have hsn := HP.out.2.1
      have hbd : Bd (1048576 + 14400 * m) cs ∧ Bd m ss := by
        rcases HP.out.2.2 with h | h
        · exact ⟨h.2.2.1, h.2.2.2⟩
        · omega
      have hltn : ∀ u ∈ L, u < n := by rw [HL.out]; exact fun u hu => leftC_lt u hu
      have HLT := Lib.hid hltn
      have hstep : stepC es n q cs = (moveTo es (ofL n L) n cs n).set q 0 := by
        rw [HL.out]
        unfold stepC leftC
        rw [← move_fire hcn]
      have HSTEP := Lib.hid hstep
      have OC2 : Hid (∀ w : World, Reads w w.heap.size 1 D L.length (ints (natsI L)) → Calls Try.prog 120 #[.agg #[.int .i64 n, .slice A es.length c], .slice D L.length d'] w fun e w' => ∃ g, e = .returned (.slice (some ⟨g, 0, none⟩) n n) ∧ Blk w' g 3 (intCells (ofL n L)) ∧ w.heap.size ≤ g ∧ Below w.heap.size w w') :=
        fun w h => OC.out D d' L HLT.out (by omega) w h
      have hof : ∀ x, 0 ≤ (ofL n L).getD x 0 ∧ (ofL n L).getD x 0 ≤ 1 := fun x => by rw [ofL_getD n L hltn]; split <;> omega
      have hofl := ofL_length n L
      obtain ⟨os, hos⟩ : ∃ os, ofL n L = os := ⟨_, rfl⟩
      rw [hos] at hof hofl hstep OC2
      have HML : Hid ((moveTo es os n cs n).length = n) := by rw [Hid, moveTo_length]; exact hcn
      have MC2 : Hid (∀ (g : Nat) (w : World), Blk w g 3 (intCells os) → Reads w w.heap.size 3 A es.length (edgeCells es) → Reads w w.heap.size 1 C cs.length (ints cs) → Calls Try.prog 119 #[.agg #[.int .i64 n, .slice A es.length c], .slice C cs.length c', .slice (some ⟨g, 0, none⟩) n n] w fun e w' => ∃ g c', e = .returned (.slice (some ⟨g, 0, none⟩) n c') ∧ OwnI w' w.heap.size (some ⟨g, 0, none⟩) c' (moveTo es os n cs n) ∧ Below w.heap.size w w') := by
        intro g w hg h h'
        have := MC.out C c' cs hcn (1048576 + 14400 * m) (by omega) hbd.1 (some ⟨g, 0, none⟩) n os hofl hof w h h' ((OwnI.of_blk hg (Nat.zero_le _) (by rw [hofl]; simp [maxLen]; omega)).reads)
        rwa [hofl] at this
      obtain ⟨ms, hms⟩ : ∃ ms, moveTo es os n cs n = ms := ⟨_, rfl⟩
      rw [hms] at HML MC2 hstep
      have WC2 : Hid (∀ (g c' base : Nat) (w : World), OwnI w base (some ⟨g, 0, none⟩) c' ms → Calls Try.prog 118 #[.slice (some ⟨g, 0, none⟩) n c', .int .i64 q] w fun e w' => ∃ g c', e = .returned (.slice (some ⟨g, 0, none⟩) n c') ∧ OwnI w' w.heap.size (some ⟨g, 0, none⟩) c' (stepC es n q cs) ∧ Below w.heap.size w w') := by
        intro g c' base w ho
        have := WC.out (some ⟨g, 0, none⟩) c' ms (by have := HML.out; omega) (by have := HML.out; omega) w ho.reads
        rwa [HML.out, ← hstep] at this
      have HSL : Hid ((stepC es n q cs).length = n) := by rw [Hid, stepC_length]; exact hcn
      obtain ⟨ns, hns⟩ : ∃ ns, stepC es n q cs = ns := ⟨_, rfl⟩
      rw [hns] at HPN HSL WC2
      have HBS := Lib.hid hbd.2
      have HSN := Lib.hid hsn
      have c0 := g2.cell 0
      have c1 := g2.cell 1
      have rD := oD.reads
      rw [natsI_length] at rD
      have HG := Lib.hid h
      have hgl := g2.lt
      clear hne hcn hsn hbd hltn hstep hof hofl hos hms hns
      go_wp2
      go_region_with (first
        | (go_at_call 120; refine (OC2.out _ (by exact rD)).mono ?_; rintro e w3 ⟨gs, rfl, b3, hg3, hb3⟩
           have c30 := (hb3.cell (p := ⟨w.heap.size, 0, none⟩) (by show w.heap.size < wo.heap.size; exact hgl)).trans c0
           have c31 := (hb3.cell (p := ⟨w.heap.size, 1, none⟩) (by show w.heap.size < wo.heap.size; exact hgl)).trans c1
           have hb3' : Below wo.heap.size wo w3 := (Below.refl _ _).drew.trans hb3)
        | (go_at_call 119; refine (MC2.out gs w3 b3 ((HG.out.below (hbel.trans (hb3'.mono hsz))).more (hbel.trans (hb3'.mono hsz)).size) (rC.next hb3')).mono ?_; rintro e w4 ⟨g4, c4, rfl, o4, hb4⟩)
        | (go_at_call 118; refine (WC2.out g4 c4 _ w4 o4).mono ?_; rintro e w5 ⟨g5, c5, rfl, o5, hb5⟩))
      all_goals (
        have hb35 : Below w3.heap.size w3 w5 := hb4.trans (hb5.mono hb4.size)
        have hb5' : Below wo.heap.size wo w5 := hb3'.trans (hb35.mono hb3'.size)
        have g6 := g2.next hb5'
        have s6 := s2.next hb5'
        have oD6 := oD.next hb5'
        have o6 : OwnI w5 wo.heap.size (some ⟨g5, 0, none⟩) c5 ns := o5.mono (Nat.le_trans hb3'.size hb4.size)
        have hbel6 := hbel.trans (hb5'.mono hsz)
        have hsl := s2.lt
        have hs6 := s6.lt
        clear hb3 hb3' hb35 hb5' b3 o4 hb4 hb5 o5 c30 c31 c0 c1 rD
        go_wp2
        go_loopw [12] (fun i wr => ∃ k : Nat, k ≤ L.length ∧ i = .int .i64 k ∧ Below w.heap.size w wr ∧ Blk wr w.heap.size 24 #[.int .i64 n, .slice A es.length c] ∧ Blk wr (w.heap.size + 1) 3 (intCells (bumpL ss (L.take k))) ∧ OwnI wr (w.heap.size + 2) D d' (natsI L) ∧ OwnI wr wo.heap.size (some ⟨g5, 0, none⟩) c5 ns) (fun i _ => L.length - (intOf i).toNat)
        case atStart => exact ⟨0, by omega, rfl, hbel6, g6, s6, oD6, o6⟩
        clear g6 s6 oD6 o6 hbel6
        case round =>
          obtain ⟨k, hk, rfl, hbel7, g7, s7, oD7, o7⟩ := hrel
          have hs7 := hbel7.size
          by_cases hkl : k < L.length
          · obtain ⟨u, hu⟩ := get_of_lt hkl
            have hun := HLT.out u (List.mem_of_getElem? hu)
            have hki : (k : Int) < (L.length : Int) := by omega
            have hui : (u : Int) < (n : Int) := by omega
            have hrd := oD7.reads
            rw [natsI_length] at hrd
            obtain ⟨b, off, rfl, hb, hcell⟩ := hrd.at_ (ints_at (natsI_at hu))
            have hsn := bumpL_snoc (xs := ss) (L.take k) u
            rw [← take_snoc hu] at hsn
            have hlen := bumpL_length (xs := ss) (L.take k)
            have hbb := bumpL_bd (by omega) HBS.out (L.take k)
            rw [HSN.out] at hlen
            obtain ⟨ys, hys⟩ : ∃ ys, bumpL ss (L.take k) = ys := ⟨_, rfl⟩
            rw [hys] at hsn hlen hbb s7
            obtain ⟨y, hy⟩ := get_of_lt (xs := ys) (k := u) (by omega)
            have hyb := hbb.at_ hy
            have htl : (L.take k).length ≤ 12 := by rw [List.length_take]; omega
            have hadd : addAt ys u 1 = ys.set u (y + 1) := by unfold addAt; rw [getD_of hy]
            rw [hadd] at hsn
            have HSS := Lib.hid hsn
            have cy := s7.cell u
            rw [intCells_at hy] at cy
            have fy := s7.frozen u
            have hy0 : -1048600 ≤ y := by omega
            have hy1 : y ≤ 1048600 := by omega
            clear hu hsn hlen hbb hys hy hyb hadd
            go_wp2
            go_region
            all_goals (
              have BX := hbel7.setCell (p := ⟨w.heap.size + 1, u, none⟩) (by simp) (.int .i64 (y + 1))
              have GX := g7.far (p := ⟨w.heap.size + 1, u, none⟩) (by simp) (.int .i64 (y + 1))
              have SX := s7.set_ u (.int .i64 (y + 1))
              rw [intCells_set, ← HSS.out] at SX
              have DX : OwnI (wr.setCell ⟨w.heap.size + 1, u, none⟩ (.int .i64 (y + 1))) (w.heap.size + 2) (some ⟨b, off, none⟩) d' (natsI L) := oD7.far (by simp) _
              have OX := o7.far (p := ⟨w.heap.size + 1, u, none⟩) (by simp; omega) (.int .i64 (y + 1))
              go_wp2
              go_roundw
              case rel => exact ⟨k + 1, by omega, by go_num, ⟨BX.os, BX.tape, BX.output, BX.size, BX.block⟩, GX, SX, DX, OX⟩
              case measure => simp [intOf]; omega)
          · obtain rfl : k = L.length := by omega
            rw [List.take_length, HL.out] at s7
            have c70 := g7.cell 0
            have c71 := g7.cell 1
            have hw7 : wo.heap.size ≤ wr.heap.size := by have := (own_lt o7 ⟨_, rfl, rfl⟩); omega
            have r7 := o7.reads
            have UC2 := Lib.hid (UC.out (some ⟨g5, 0, none⟩) c5 ns HSL.out wr ((HG.out.below hbel7).more hs7) r7)
            have HM2 : Hid (L.length ≤ 12) := hLL
            rw [HSL.out] at UC2
            go_wp2_with fail
            refine (UC2.out).mono ?_
            rintro e w8 ⟨D8, d8, rfl, oD8, hb8⟩
            go_wp2
            go_roundw
            case rel =>
              refine ⟨some ⟨g5, 0, none⟩, c5, ns, _, m + L.length, D8, d8, _, by rw [HSL.out], by go_num, rfl, rfl, ?_, hbel7.trans (hb8.mono hs7), g7.next hb8, s7.next hb8, oD8.mono (by omega), r7.next hb8, ?_⟩
              · rw [HL.out]; exact HPN.out
              · rintro k ⟨a, ha, hk⟩
                injection ha with ha
                subst ha
                have e : g5 = k := hk
                have := (own_lt o7 (k := g5) ⟨_, rfl, rfl⟩).1
                omega
            case measure => simp [intOf]; omega)
    · have hfin : (m ≤ 1048576 ∧ r = some (cs, ss)) ∨ (1048576 < m ∧ r = none) := by
        rcases HP.out.2.2 with h1 | h1
        · refine .inl ⟨h1.1, h1.2.1.done_inv ?_⟩
          rw [← HL.out]
          exact List.length_eq_zero_iff.1 (by omega)
        · exact .inr h1
      have hsn := HP.out.2.1
      have rS := (OwnI.of_blk s2 (Nat.zero_le _) (by rw [hsn]; simp [maxLen]; omega)).reads
      have HF := Lib.hid hfin
      have HSN := Lib.hid hsn
      clear hfin hsn
      by_cases hL0 : L.length = 0
      · have hi0 : ¬ (0 : Int) < (L.length : Int) := by omega
        go_wp2
        go_ret3
        exact ⟨C, c', some ⟨w.heap.size + 1, 0, none⟩, n, m, cs, ss, by rw [HSN.out]; rfl, HF.out, rC, rS, hbel⟩
      · have hi0 : (0 : Int) < (L.length : Int) := by omega
        have hi1 : ¬ (m : Int) ≤ 1048576 := by omega
        go_wp2
        go_ret3
        exact ⟨C, c', some ⟨w.heap.size + 1, 0, none⟩, n, m, cs, ss, by rw [HSN.out]; rfl, HF.out, rC, rS, hbel⟩

set_option maxHeartbeats 2000000 in
theorem rpush_any (n : Int) (A : Option Addr) (c : Nat) (es : List E3) (hn : es.length ≤ 1048576) (q : Int) (B : Option Addr) (d : Nat) (cs ds ss : List Int) (x : Int) (hm : cs.length ≤ 1048000) (hP : PushE n es q cs ds ss x) (w : World)
    (h : Reads w w.heap.size 3 A es.length (edgeCells es)) (h' : Reads w w.heap.size 1 B cs.length (ints cs)) :
    Calls Try.prog 16 #[.agg #[.int .i64 n, .slice A es.length c], .int .i64 q, .slice B cs.length d] w fun e w' => ∃ C c' S c'',
      e = .returned (.tuple #[.slice C ds.length c', .slice S ss.length c'', .int .i64 x]) ∧ Reads w' w'.heap.size 1 C ds.length (ints ds) ∧ Reads w' w'.heap.size 1 S ss.length (ints ss) ∧ Below w.heap.size w w' := by
  have KC := rbcheck_any n A c es hn q B d cs (by omega)
  have g0 := Blk.new w 24 #[.int .i64 n, .slice A es.length c]
  rcases hP with ⟨h1, rfl, rfl, rfl⟩ | ⟨h1, r, hr, hres⟩
  · obtain ⟨z, hz⟩ : ∃ z, burnErr n es q cs = z := ⟨_, rfl⟩
    rw [hz] at KC h1 ⊢
    have hb : (z != 0) = true := by simpa using h1
    have KC := Lib.hid KC
    clear h1 hz
    go_enter Try.func16, Try.ntmps16
    go_wp2_with fail
    refine (KC.out _ ((h.alloc (Nat.le_refl _) _).more (by simp)) ((h'.alloc (Nat.le_refl _) _).more (by simp))).mono ?_
    rintro e w1 ⟨rfl, hb1⟩
    have hbel1 : Below w.heap.size w w1 := ((Below.refl _ _).alloc (Nat.le_refl _) _).trans (hb1.mono (by simp))
    go_wp2
    go_ret3
    exact ⟨none, 0, none, 0, rfl, Reads.nil_, Reads.nil_, hbel1⟩
  · obtain ⟨hG, _, hq0, hqn, hlen, hbd, _⟩ := conf_zero (burn_zero h1).1
    have hhi := hG.hi
    have hlo := hG.lo
    obtain ⟨m, rfl⟩ := Int.eq_ofNat_of_zero_le (show 0 ≤ n by omega)
    obtain ⟨p, rfl⟩ := Int.eq_ofNat_of_zero_le hq0
    simp only [Int.toNat_natCast] at hr
    rw [h1] at KC
    have KC := Lib.hid KC
    have PC := Lib.hid (fun w h h' => pushed_any m (by omega) A c es hn m hG.ok p (by omega) B d cs (by omega) hbd r hr w h h')
    clear h1 hG hlen hbd hr
    have HR := Lib.hid hres
    clear hres
    go_enter Try.func16, Try.ntmps16
    go_wp2_with fail
    refine (KC.out _ ((h.alloc (Nat.le_refl _) _).more (by simp)) ((h'.alloc (Nat.le_refl _) _).more (by simp))).mono ?_
    rintro e w1 ⟨rfl, hb1⟩
    have hbel1 : Below w.heap.size w w1 := ((Below.refl _ _).alloc (Nat.le_refl _) _).trans (hb1.mono (by simp))
    have g1 := g0.next hb1
    have c0 := g1.cell 0
    have c1 := g1.cell 1
    go_wp2_with fail
    refine (PC.out _ ((h.below hbel1).more hbel1.size) ((h'.below hbel1).more hbel1.size)).mono ?_
    rintro e w2 ⟨C, c', S, c'', k, cs2, ss2, rfl, hk, rC, rS, hb2⟩
    have hbel2 := hbel1.trans (hb2.mono hbel1.size)
    rcases hk with ⟨hk, rfl⟩ | ⟨hk, rfl⟩
    · have hki : ¬ (1048576 : Int) < (k : Int) := by omega
      rcases HR.out with ⟨he, rfl⟩ | ⟨he, _⟩
      · injection he with he
        injection he with e1 e2
        subst e1 e2
        clear HR
        go_wp2
        go_ret3
        exact ⟨C, c', S, c'', rfl, rC, rS, hbel2⟩
      · cases he
    · have hki : (1048576 : Int) < (k : Int) := by omega
      rcases HR.out with ⟨he, _⟩ | ⟨_, rfl, rfl, rfl⟩
      · cases he
      · clear HR
        go_wp2
        go_ret3
        exact ⟨none, 0, none, 0, rfl, Reads.nil_, Reads.nil_, hbel2⟩
end Go.Proofs.Ythbannpmfdflaaa
