/-
 Texts of this claim, put together: RTree, RNextF, TCut, TCyc, TIter, FireX.
-/
import Derived.Test.YtnbikkcalcpedaaGreatDoorK23
import Derived.Test.YtnbikkcalcpedaaGreatDoorK09
import Derived.Test.YtnbikkcalcpedaaGreatDoorK19
import Derived.Test.YtnbikkcalcpedaaGreatDoorK20
import Derived.Test.YtnbikkcalcpedaaGreatDoorK08
import Derived.Test.YtnbikkcalcpedaaGreatDoorK12
import Derived.Test.YtnbikkcalcpedaaGreatDoorK02
import Derived.Test.YtnbikkcalcpedaaGreatDoorK24
import Derived.Deep.RegionWith
import Derived.Test.YtnbikkcalcpedaaGreatDoorK25
set_option maxRecDepth 100000
set_option maxHeartbeats 8000000
namespace Go.Proofs.YtnbikkcalcpedaaGreatDoor
open Go.RowKit
theorem endsL_len40 {n : Int} {es : List E3} (hok : ∀ e ∈ es, okE n e) (hn : es.length ≤ 40) : (endsL es).length ≤ 2000 := by
 have := endsL_length hok; omega
theorem rwith_any (n : Nat) (A : Option Addr) (c : Nat) (es : List E3) (hn : es.length ≤ 40) (hG : RightG n es) (B : Option Addr) (d : Nat) (t : List Nat) (ht : ∀ e ∈ t, e < (endsL es).length) (htl : t.length ≤ 50) (w : World)
  (h : Reads w w.heap.size 3 A es.length (edgeCells es)) (h' : Reads w w.heap.size 1 B t.length (ints (nI t))) :
  Calls Tryz.prog 77 #[.agg #[.int .i64 n, .slice A es.length c], .slice B t.length d] w fun e w' => ∃ A1 c1, e = .returned (.agg #[.int .i64 n, .slice A1 (madeS n (pk (endsL es) t)).length c1]) ∧ OwnE w' w.heap.size A1 c1 (madeS n (pk (endsL es) t)) ∧ Below w.heap.size w w' := by
 have hlo := hG.lo
 have hhi := hG.hi
 have EC := Lib.hid (fun (W : World) (hB : Below w.heap.size w W) => rendsC_any n A c es hn n hG.ok W ((h.below hB).more hB.size))
 have hbd := bd_pk (bd_ends hG) ht
 have MC := Lib.hid (fun (A : Option Addr) (c : Nat) (W : World) (hr : Reads W W.heap.size 2 A (pk (endsL es) t).length (pair2 (pk (endsL es) t))) => rmake_any n (by omega) (by omega) A c (pk (endsL es) t) (by rw [pk_length]; omega) hbd (fun a b _ _ => by have := cnt_le (pk (endsL es) t) a b; rw [pk_length] at this; omega) W (by rw [pairCells_pair2]; exact hr))
 have HT := Lib.hid ht
 have HPL : Hid ((pk (endsL es) t).length = t.length) := pk_length
 have hel := endsL_len40 hG.ok hn
 obtain ⟨M, hM⟩ : ∃ M, madeS n (pk (endsL es) t) = M := ⟨_, rfl⟩
 rw [hM] at MC ⊢
 obtain ⟨E, hE⟩ : ∃ E, endsL es = E := ⟨_, rfl⟩
 rw [hE] at EC MC HT HPL hel
 have g0 := Blk.new w 24 #[.int .i64 n, .slice A es.length c]
 have G0 := g0.alloc (.cells #[.int .i64 0, .slice none 0 0] 24)
 have Z0 := Blk.new (w.alloc (.cells #[.int .i64 n, .slice A es.length c] 24)) 24 #[.int .i64 0, .slice none 0 0]
 rw [show (w.alloc (.cells #[.int .i64 n, .slice A es.length c] 24)).heap.size = w.heap.size + 1 from by simp] at Z0
 have B0 : Below w.heap.size w ((w.alloc (.cells #[.int .i64 n, .slice A es.length c] 24)).alloc (.cells #[.int .i64 0, .slice none 0 0] 24)) := ((Below.refl _ _).alloc (Nat.le_refl _) _).alloc (by simp) _
 have hs0 : w.heap.size + 2 ≤ ((w.alloc (.cells #[.int .i64 n, .slice A es.length c] 24)).alloc (.cells #[.int .i64 0, .slice none 0 0] 24)).heap.size := by simp
 obtain ⟨W0, hW0⟩ : ∃ W0, ((w.alloc (.cells #[.int .i64 n, .slice A es.length c] 24)).alloc (.cells #[.int .i64 0, .slice none 0 0] 24)) = W0 := ⟨_, rfl⟩
 rw [hW0] at G0 Z0 B0 hs0
 have HW0 := Lib.hid hW0
 have c0 := G0.cell 0
 have c1 := G0.cell 1
 clear g0 hW0 hG ht hbd hM hE
 go_enter Tryz.func77, Tryz.ntmps77
 go_wp2_with fail
 rw [HW0.out]
 refine (EC.out _ B0).mono ?_
 rintro e w1 ⟨Ar, cr, rfl, HQ, hb1⟩
 have HQ : Hid (OwnQ w1 w.heap.size Ar cr E) := own_rebase2 HQ B0.size
 have B1 := B0.trans (hb1.mono B0.size)
 have G1 := G0.next hb1
 have Z1 := Z0.next hb1
 have hs1 : w.heap.size + 2 ≤ w1.heap.size := Nat.le_trans hs0 hb1.size
 clear G0 Z0 B0 c0 c1 hb1 hs0
 go_wp2_with fail
 go_loopw [6, 7] (fun s i wr => ∃ (k : Nat) (A' : Option Addr) (c' : Nat) (ps : List (Nat × Nat)), k ≤ t.length ∧ i = .int .i64 k ∧ s = .slice A' ps.length c' ∧ Hid (ps = pk E (t.take k)) ∧ ps.length ≤ 50 ∧ Hid (OwnQ wr w1.heap.size A' c' ps) ∧ Hid (Below w1.heap.size w1 wr)) (fun _ i _ => t.length - (intOf i).toNat)
 case atStart => exact ⟨0, none, 0, [], by omega, rfl, rfl, rfl, by simp, World.ownsRow_nil _ _ _ _, Below.refl _ _⟩
 case round =>
  obtain ⟨k, A', c', ps, hk, rfl, rfl, HP, hps, HO, HB⟩ := hrel
  have hwz := HB.out.size
  by_cases hlt : k < t.length
  ·obtain ⟨e, hx⟩ := get_of_lt hlt
   have he := HT.out e (List.mem_of_getElem? hx)
   obtain ⟨bB, oB, hB, hbB, hcell⟩ := (h'.below (B1.trans (HB.out.mono B1.size))).at_ (ints_at (nI_at hx))
   subst hB
   obtain ⟨bA, oA, hA, hbA, q0, q1⟩ := (HQ.out.reads.below HB.out).pairAt (getD_some he)
   subst hA
   have hpk := pk_take_snoc (E := E) hx
   rw [← HP.out] at hpk
   obtain ⟨⟨a, b⟩, hp⟩ : ∃ p, E.getD e (0, 0) = p := ⟨_, rfl⟩
   rw [hp] at q0 q1 hpk
   dsimp only at q0 q1
   have hi : (k : Int) < (t.length : Int) := by omega
   have hie : (e : Int) < (E.length : Int) := by omega
   have hps2 : (ps ++ [(a, b)]).length ≤ 50 := by
    rw [← hpk, pk_length, List.length_take]; omega
   have HPK := Lib.hid hpk.symm
   clear hx hp hpk
   go_wp2_with (at_builtin; refine append_go rfl (.tmp 18) (.tmp 26) _ rfl w1.heap.size 50 Tryz.underlying48 info_pair2 rfl (by omega) A' c' ps.length (pair2 ps) rfl (World.ownsRow.alloc HO.out _) _ [.int .i64 a, .int .i64 b] rfl (Reads.boxN wr #[.int .i64 a, .int .i64 b] _) (by simp [Value.oneCell']) (by omega) (by simp; omega) ?_; intro A3 c3 W3 hown3 hgr3 hb3 _)
   have hq3 : Hid (OwnQ W3 w1.heap.size A3 c3 (ps ++ [(a, b)])) := (by unfold Hid OwnQ; rw [List.length_append, pair2_snoc]; exact hown3)
   have hb4 : Hid (Below w1.heap.size w1 W3) := (HB.out.alloc hwz (.cells #[.int .i64 a, .int .i64 b] 50)).trans hb3
   clear hown3 hgr3 hb3
   go_roundw
   case rel => exact ⟨k + 1, A3, c3, ps ++ [(a, b)], by omega, by go_num, by simp, HPK, hps2, hq3, hb4⟩
   case measure => simp [intOf]; omega
  ·obtain rfl : k = t.length := by omega
   rw [List.take_length] at HP
   have G2 := G1.next HB.out
   have Z2 := Z1.next HB.out
   have c0 := G2.cell 0
   have B2 := B1.trans (HB.out.mono B1.size)
   have hrd := HO.out.reads
   have hpl : ps.length = (pk E t).length := by rw [HP.out]
   have MC2 := MC.out A' c' wr (by rw [← HP.out]; exact hrd)
   rw [← hpl] at MC2
   have MC2 := Lib.hid MC2
   clear hpl hrd
   go_wp2_with fail
   refine (MC2.out).mono ?_
   rintro e w5 ⟨A1, c1, rfl, o5, hb5⟩
   have Z5 := Z2.next hb5
   have B5 := B2.trans (hb5.mono B2.size)
   have k0 := Z5.cell 0
   have k1 := Z5.cell 1
   have f0 := Z5.frozen 0
   have f1 := Z5.frozen 1
   have hzl := Z5.lt
   have Z6 := ((Z5.set_ 0 (.int .i64 n)).set_ 1 (.slice A1 M.length c1)).alloc (.cells #[.int .i64 n, .slice A1 M.length c1] 24)
   have hs5 := B5.size
   have hwr := hb5.size
   have o6 : Hid (OwnE (((w5.setCell ⟨w.heap.size + 1, 0, none⟩ (.int .i64 n)).setCell ⟨w.heap.size + 1, 1, none⟩ (.slice A1 M.length c1)).alloc (.cells #[.int .i64 n, .slice A1 M.length c1] 24)) w.heap.size A1 c1 M) := by
    refine own_rebase2 (own_kept2 o5 fun j hj => ?_) B2.size
    have hl := World.ownsRow.lt o5 j (blockOf_own.2 hj)
    have hne : j ≠ w.heap.size + 1 := by omega
    rw [Below.heap_alloc _ _ _ (by simpa [World.setCell] using hl.2), Below.heap_setCell _ _ _ _ hne, Below.heap_setCell _ _ _ _ hne]
   have B6 := Lib.hid (((B5.setCell (p := ⟨w.heap.size + 1, 0, none⟩) (Nat.le_succ _) (.int .i64 n)).setCell (p := ⟨w.heap.size + 1, 1, none⟩) (Nat.le_succ _) (.slice A1 M.length c1)).alloc (by simpa [World.setCell] using hs5) (.cells #[.int .i64 n, .slice A1 M.length c1] 24))
   have HZ6 := Lib.hid Z6
   clear Z6 Z5 Z2 G2 o5 hb5 B5
   go_wp2
   try simp only [Exit.inBlock, Exit.then]
   refine bodyPost_ret (results_g rfl rfl HZ6.out rfl) rfl ?_
   exact ⟨A1, c1, rfl, o6.out, B6.out⟩
theorem redges_any (n : Int) (A : Option Addr) (c : Nat) (es : List E3) (hn : es.length ≤ 40) (hok : ∀ e ∈ es, okE n e) (B : Option Addr) (d : Nat) (xs : List Int) (hm : xs.length ≤ 1048576) (w : World) (h : Reads w w.heap.size 3 A es.length (edgeCells es)) (h' : Reads w w.heap.size 1 B xs.length (ints xs)) :
  Calls Tryz.prog 68 #[.agg #[.int .i64 n, .slice A es.length c], .slice B xs.length d] w fun e w' => e = .returned (.int .i64 (edgErr (endsL es).length xs)) ∧ Below w.heap.size w w' := by
 have SC := Lib.hid (fun (W : World) (hB : Below w.heap.size w W) => rsize_any n A c es hn n hok W ((h.below hB).more hB.size))
 rw [size_ends] at SC
 have g0 := Blk.new w 24 #[.int .i64 n, .slice A es.length c]
 have hb0 : Below w.heap.size w (w.alloc (.cells #[.int .i64 n, .slice A es.length c] 24)) := (Below.refl _ _).alloc (Nat.le_refl _) _
 have c0 := g0.cell 0
 have c1 := g0.cell 1
 have hel := endsL_len40 hok hn
 obtain ⟨m, hmm⟩ : ∃ m, (endsL es).length = m := ⟨_, rfl⟩
 rw [hmm] at SC hel ⊢
 obtain ⟨z, hzz⟩ : ∃ z, edgErr m xs = z := ⟨_, rfl⟩
 rw [hzz]
 have HZ : Hid (edgFrom m (prevJ xs 0) (xs.drop 0) = z) := hzz
 clear hok hmm hzz
 go_enter Tryz.func68, Tryz.ntmps68
 go_wp2_with fail
 refine (SC.out _ hb0).mono ?_
 rintro e w1 ⟨rfl, hb1⟩
 have B1 := hb0.trans (hb1.mono hb0.size)
 clear g0 hb0 c0 c1 hb1
 go_wp2_with fail
 go_loopw [6] (fun i wr => ∃ k : Nat, k ≤ xs.length ∧ i = .int .i64 k ∧ Hid (edgFrom m (prevJ xs k) (xs.drop k) = z) ∧ Hid (Below w.heap.size w wr)) (fun i _ => xs.length - (intOf i).toNat)
 case atStart => exact ⟨0, by omega, rfl, HZ, B1⟩
 case round =>
  obtain ⟨k, hk, rfl, HE, HB⟩ := hrel
  clear HZ B1
  by_cases hlt : k < xs.length
  ·have hi : (k : Int) < (xs.length : Int) := by omega
   obtain ⟨x, hx⟩ := get_of_lt hlt
   obtain ⟨bB, oB, hA, hbB, hcell⟩ := (h'.below HB.out).at_ (ints_at hx)
   subst hA
   have hat := edgFrom_at (m := m) hx
   rw [HE.out] at hat
   by_cases h1 : x < 0
   ·rw [if_pos (.inl h1)] at hat
    have HA := Lib.hid hat
    have hd1 : decide (x < 0) = true := decide_eq_true h1
    clear hx hat
    go_wp2
    go_ret
    exact ⟨by rw [HA.out]; rfl, HB.out⟩
   ·have hd1 : decide (x < 0) = false := decide_eq_false h1
    by_cases h2 : (m : Int) ≤ x
    ·rw [if_pos (.inr h2)] at hat
     have HA := Lib.hid hat
     have hd2 : decide ((m : Int) ≤ x) = true := decide_eq_true h2
     clear hx hat
     go_wp2
     go_ret
     exact ⟨by rw [HA.out]; rfl, HB.out⟩
    ·rw [if_neg (fun hc => hc.elim h1 h2)] at hat
     have hd2 : decide ((m : Int) ≤ x) = false := decide_eq_false h2
     have HBD := Lib.hid (HB.out.drew)
     by_cases hk0 : k = 0
     ·have HA : Hid (z = edgFrom m (prevJ xs (k + 1)) (xs.drop (k + 1))) := hat.trans (if_neg (by simp [prevJ, hk0, leP]))
      have hkp : ¬ (0 : Int) < (k : Int) := by omega
      have hkd : decide ((0 : Int) < (k : Int)) = false := decide_eq_false hkp
      have hkn : ¬ 0 < k := by omega
      have hkm : decide (0 < k) = false := decide_eq_false hkn
      clear hx hat hk0
      go_wp2_with fail
      go_quiet (fail)
      go_wp2
      go_roundw
      case rel => exact ⟨k + 1, by omega, by go_num, HA.out.symm, below_drewN HB.out _⟩
      case measure => simp [intOf]; omega
     ·obtain ⟨j, rfl⟩ : ∃ j, k = j + 1 := ⟨k - 1, by omega⟩
      obtain ⟨y, hy⟩ := get_of_lt (xs := xs) (k := j) (by omega)
      obtain ⟨bB', oB', hA', _, hcell2⟩ := (h'.below HB.out).at_ (ints_at hy)
      injection hA' with hA'
      injection hA' with e1 e2
      subst e1 e2
      have hprev : prevJ xs (j + 1) = some y := by rw [prevI_succ]; exact hy
      rw [hprev] at hat
      have hk1 : IntKind.i64.wrap (((j + 1 : Nat) : Int) - 1) = (j : Int) := by rw [IntWalk.i64_in _ (by omega)]; omega
      have hkp : (0 : Int) < ((j + 1 : Nat) : Int) := by omega
      have hkq : (0 : Int) < (j : Int) + 1 := by omega
      have hkd : decide ((0 : Int) < (j : Int) + 1) = true := decide_eq_true hkq
      have hjl : (j : Int) < (xs.length : Int) := by omega
      have hm1 : IntKind.i64.wrap ((j : Int) + 1 - 1) = (j : Int) := by rw [IntWalk.i64_in _ (by omega)]; omega
      by_cases h3 : x ≤ y
      ·have HA : Hid (z = 9) := hat.trans (if_pos (by simpa [leP] using h3))
       have hd3 : decide (x ≤ y) = true := decide_eq_true h3
       clear hx hat hy hprev
       go_wp2_with fail
       go_quiet (fail)
       go_wp2
       go_ret
       exact ⟨by rw [HA.out]; rfl, below_drewN HB.out _⟩
      ·have HA : Hid (z = edgFrom m (prevJ xs (j + 1 + 1)) (xs.drop (j + 1 + 1))) := hat.trans (if_neg (by simpa [leP] using h3))
       have hd3 : decide (x ≤ y) = false := decide_eq_false h3
       clear hx hat hy hprev
       go_wp2_with fail
       go_quiet (fail)
       go_wp2
       go_roundw
       case rel => exact ⟨j + 1 + 1, by omega, by go_num, HA.out.symm, below_drewN HB.out _⟩
       case measure => simp [intOf]; omega
  ·obtain rfl : k = xs.length := by omega
   have hz0 : Hid (z = 0) := by rw [Hid, ← HE.out, List.drop_length]; rfl
   go_wp2
   go_ret
   exact ⟨by rw [hz0.out]; rfl, HB.out⟩
theorem rjoinedErr_any (n : Int) (A : Option Addr) (c : Nat) (es : List E3) (hn : es.length ≤ 1048576) (w : World) (h : Reads w w.heap.size 3 A es.length (edgeCells es)) :
  Calls Tryz.prog 50 #[.agg #[.int .i64 n, .slice A es.length c]] w fun e w' => e = .returned (.int .i64 (joinErr n es)) ∧ Below w.heap.size w w' := by
 have g0 := Blk.new w 24 #[.int .i64 n, .slice A es.length c]
 have hb0 : Below w.heap.size w (w.alloc (.cells #[.int .i64 n, .slice A es.length c] 24)) := (Below.refl _ _).alloc (Nat.le_refl _) _
 have c0 := g0.cell 0
 have c1 := g0.cell 1
 have GC := Lib.hid (fun (W : World) (hB : Below w.heap.size w W) => rgcheck_any n A c es hn W ((h.below hB).more hB.size))
 by_cases hz : checkG n es = 0
 ·have hG := right_of hz
  have hlo := hG.lo
  have hhi := hG.hi
  obtain ⟨m, rfl⟩ := Int.eq_ofNat_of_zero_le (show 0 ≤ n by omega)
  have KC := Lib.hid (fun (W : World) (hB : Below w.heap.size w W) => rconnected_any m (by omega) A c es hn W ((h.below hB).more hB.size))
  have HE : Hid (joinErr m es = if connB m es = false then 13 else 0) := by unfold Hid joinErr; rw [if_neg (fun hc => hc hz)]; rfl
  rw [HE.out]
  rw [hz] at GC
  obtain ⟨b, hb⟩ : ∃ b, connB m es = b := ⟨_, rfl⟩
  rw [hb] at KC ⊢
  clear hz hG HE hb
  go_enter Tryz.func50, Tryz.ntmps50
  go_wp2_with fail
  refine (GC.out _ hb0).mono ?_
  rintro e w1 ⟨rfl, hb1⟩
  have B1 := hb0.trans (hb1.mono hb0.size)
  have g1 := g0.next hb1
  have c0 := g1.cell 0
  have c1 := g1.cell 1
  go_wp2_with fail
  refine (KC.out _ B1).mono ?_
  rintro e w2 ⟨rfl, hb2⟩
  have B2 := B1.trans (hb2.mono B1.size)
  cases b
  ·go_wp2
   go_ret
   exact ⟨rfl, B2⟩
  ·go_wp2
   go_ret
   exact ⟨rfl, B2⟩
 ·have HE : Hid (joinErr n es = checkG n es) := by unfold Hid joinErr; rw [if_pos hz]
  rw [HE.out]
  obtain ⟨z, hzz⟩ : ∃ z, checkG n es = z := ⟨_, rfl⟩
  rw [hzz] at GC hz ⊢
  have hb : (z != 0) = true := by simpa using hz
  clear hz hzz HE
  go_enter Tryz.func50, Tryz.ntmps50
  go_wp2_with fail
  refine (GC.out _ hb0).mono ?_
  rintro e w1 ⟨rfl, hb1⟩
  go_wp2
  go_ret
  exact ⟨rfl, hb0.trans (hb1.mono hb0.size)⟩
theorem Blk.newF {w : World} {g : Nat} {t : TypeId} {cs : Array Value} (hg : g = w.heap.size) : Blk (w.alloc (.cells cs t)) g t cs := by subst hg; exact Blk.new w t cs
theorem nI_mem {t : List Nat} (v : Nat) : decide ((v : Int) ∈ nI t) = decide (v ∈ t) := by
 unfold nI
 rw [Bool.eq_iff_iff, decide_eq_true_eq, decide_eq_true_eq, List.mem_map]
 exact ⟨fun ⟨a, ha, hae⟩ => by
  have : a = v := by omega
  exact this ▸ ha, fun h => ⟨v, h, rfl⟩⟩
def nxE (o : Option Nat) : Int := match o with | some e => (e : Int) | none => -1
def nxV (E : List (Nat × Nat)) (s : FireS) (o : Option Nat) : Int := match o with | some e => (leadV E s e : Int) | none => -1
theorem next_upto {E : List (Nat × Nat)} {s : FireS} (h : ∀ e, e < E.length → candB E s e = false) : nextF E s = none := by
 unfold nextF
 rw [List.find?_eq_none]
 intro e he
 have := h e (List.mem_range.1 he)
 simp [this]
theorem next30_any (n : Int) (A : Option Addr) (c : Nat) (es : List E3) (hn : es.length ≤ 40) (N : Int) (hok : ∀ e ∈ es, okE N e) (S : FireS) (hs1 : S.steps.length ≤ 10000) (hs2 : S.order.length ≤ 10000) (AS AO AD AT : Option Addr) (cS cO cD cT nD nT : Nat) (w : World) (h : Reads w w.heap.size 3 A es.length (edgeCells es))
  (h1 : Reads w w.heap.size 1 AS S.steps.length (ints (nI S.steps))) (h2 : Reads w w.heap.size 1 AO S.order.length (ints (nI S.order))) :
  Calls Tryz.prog 261 #[.agg #[.int .i64 n, .slice A es.length c], .agg #[.slice AS S.steps.length cS, .slice AO S.order.length cO, .slice AD nD cD, .slice AT nT cT]] w fun e w' => e = .returned (.tuple #[.int .i64 (nxE (nextF (endsL es) S)), .int .i64 (nxV (endsL es) S (nextF (endsL es) S))]) ∧ Below w.heap.size w w' := by
 have EC := Lib.hid (fun (W : World) (hB : Below w.heap.size w W) => rendsC_any n A c es hn N hok W ((h.below hB).more hB.size))
 have HS : Hid (∀ (v : Nat) (W : World), Below w.heap.size w W → Calls Tryz.prog 51 #[.slice AS S.steps.length cS, .int .i64 (v : Int)] W fun r w' => r = .returned (.bool (decide (v ∈ S.steps))) ∧ W = w') := by
  intro v W hB
  have := holds_any AS cS (nI S.steps) (by rw [nI_length]; omega) (v : Int) W (by rw [nI_length]; exact (h1.below hB).more hB.size)
  rw [nI_length, nI_mem] at this
  exact this
 have HO : Hid (∀ (v : Nat) (W : World), Below w.heap.size w W → Calls Tryz.prog 51 #[.slice AO S.order.length cO, .int .i64 (v : Int)] W fun r w' => r = .returned (.bool (decide (v ∈ S.order))) ∧ W = w') := by
  intro v W hB
  have := holds_any AO cO (nI S.order) (by rw [nI_length]; omega) (v : Int) W (by rw [nI_length]; exact (h2.below hB).more hB.size)
  rw [nI_length, nI_mem] at this
  exact this
 obtain ⟨W0, hW0⟩ : ∃ W0, (w.alloc (.cells #[.int .i64 n, .slice A es.length c] 24)).alloc (.cells #[.slice AS S.steps.length cS, .slice AO S.order.length cO, .slice AD nD cD, .slice AT nT cT] 246) = W0 := ⟨_, rfl⟩
 have g0 : Blk W0 w.heap.size 24 #[.int .i64 n, .slice A es.length c] := by rw [← hW0]; exact (Blk.new w 24 #[.int .i64 n, .slice A es.length c]).alloc _
 have x0 : Blk W0 (w.heap.size + 1) 246 #[.slice AS S.steps.length cS, .slice AO S.order.length cO, .slice AD nD cD, .slice AT nT cT] := by rw [← hW0]; exact Blk.newF (by simp)
 have hB0 : Below w.heap.size w W0 := by rw [← hW0]; exact ((Below.refl _ _).alloc (Nat.le_refl _) _).alloc (by simp) _
 have c0 := g0.cell 0
 have c1 := g0.cell 1
 have HW0 := Lib.hid hW0
 obtain ⟨E, hE⟩ : ∃ E, endsL es = E := ⟨_, rfl⟩
 have hEl : E.length ≤ 2000 := by rw [← hE]; have := endsL_length (N := N) hok; omega
 rw [hE] at EC ⊢
 clear h h1 h2 hok hE hW0
 go_enter Tryz.func261, Tryz.ntmps261
 go_wp2_with fail
 try rw [HW0.out]
 refine (EC.out _ hB0).mono ?_
 rintro e w1 ⟨Ar, cr, rfl, o1, hb1⟩
 have hB1 := hB0.trans (hb1.mono hB0.size)
 have XB := x0.next hb1
 have R1 := Lib.hid (Reads.of_own o1)
 obtain ⟨M, hM⟩ : ∃ M, E.length = M := ⟨_, rfl⟩
 rw [hM] at R1
 try rw [hM]
 have HM := Lib.hid hM
 rw [hM] at hEl
 clear c0 c1 g0 x0 o1 hb1 hM hB0
 go_wp2_with fail
 go_loopw [7] (fun i wr => ∃ k : Nat, k ≤ M ∧ i = .int .i64 k ∧ Hid (∀ j, j < k → candB E S j = false) ∧ Hid (Below w1.heap.size w1 wr)) (fun i _ => M - (intOf i).toNat)
 case atStart => exact ⟨0, by omega, rfl, fun j hj => by omega, Below.refl _ _⟩
 case round =>
  obtain ⟨k, hk, rfl, HC, HB⟩ := hrel
  by_cases hlt : k < M
  ·have hi : (k : Int) < (M : Int) := by omega
   have hkE : k < E.length := by rw [HM.out]; exact hlt
   have r2 := R1.out.below HB.out
   rw [← HM.out] at r2
   obtain ⟨bA, oA, hA, hbA, q0, q1⟩ := r2.pairAt (getD_some hkE)
   obtain ⟨⟨x0, x1⟩, hp⟩ : ∃ p, E.getD k (0, 0) = p := ⟨_, rfl⟩
   rw [hp] at q0 q1
   dsimp only at q0 q1
   subst hA
   have HP := Lib.hid hp
   have hBw := hB1.trans (HB.out.mono hB1.size)
   have X2 := XB.next HB.out
   have CB : Hid (∀ j, j < k + 1 → j ≠ k → candB E S j = false) := fun j h1 h2 => HC.out j (by omega)
   have HKE := Lib.hid hkE
   clear hp r2 HC hkE
   have hw1 : IntKind.i64.wrap ((k : Int) + 1) = (k : Int) + 1 := IntWalk.i64_in _ (by omega)
   go_wp2_with fail
   go_quiet (fail)
   obtain ⟨W5, hW5⟩ : ∃ W, wr.drewN nq = W := ⟨_, rfl⟩
   have HB5 : Hid (Below w1.heap.size w1 W5) := by rw [← hW5]; exact below_drewN HB.out _
   have hBw5 : Below w.heap.size w W5 := by rw [← hW5]; exact below_drewN hBw _
   have x5 : Blk W5 (w.heap.size + 1) 246 #[.slice AS S.steps.length cS, .slice AO S.order.length cO, .slice AD nD cD, .slice AT nT cT] := by rw [← hW5]; exact X2
   have s0 := x5.cell 0
   have s1 := x5.cell 1
   try rw [hW5]
   clear hW5 q0 q1 X2
   have HS1 := HS.out k
   have HO0 := HO.out x0
   have HO1 := HO.out x1
   by_cases m : k ∈ S.steps
   ·have hc : candB E S k = false := by unfold candB; rw [decide_eq_true m]; rfl
    rw [decide_eq_true m] at HS1
    have HC2 : Hid (∀ j, j < k + 1 → candB E S j = false) := fun j hj => by
     by_cases e : j = k
     ·rw [e]; exact hc
     ·exact CB.out j hj e
    have HS1 := Lib.hid (fun m => (HS1 (W5.drewN m) (below_drewN hBw5 m)).mono fun _ _ h => (⟨h.1, h.2.symm⟩ : _ ∧ _ = W5.drewN m))
    clear m hc HO0 HO1
    go_wp2_with fail
    go_quiet ((go_at_call 51; with_reducible exact Calls.quiet_of_same (HS1.out _)))
    go_wp2
    go_roundw
    case rel => exact ⟨k + 1, by omega, by go_num, HC2.out, below_drewN HB5.out _⟩
    case measure => simp [intOf]; omega
   ·rw [decide_eq_false m] at HS1
    obtain ⟨a0, ha0⟩ : ∃ a, decide (x0 ∈ S.order) = a := ⟨_, rfl⟩
    obtain ⟨a1, ha1⟩ : ∃ a, decide (x1 ∈ S.order) = a := ⟨_, rfl⟩
    rw [ha0] at HO0
    rw [ha1] at HO1
    have hcb : candB E S k = !(a0 == a1) := by unfold candB; rw [HP.out, decide_eq_false m, ha0, ha1]; rfl
    have HS1 := Lib.hid (fun m => (HS1 (W5.drewN m) (below_drewN hBw5 m)).mono fun _ _ h => (⟨h.1, h.2.symm⟩ : _ ∧ _ = W5.drewN m))
    have HO0 := Lib.hid (fun m => (HO0 (W5.drewN m) (below_drewN hBw5 m)).mono fun _ _ h => (⟨h.1, h.2.symm⟩ : _ ∧ _ = W5.drewN m))
    have HO1 := Lib.hid (fun m => (HO1 (W5.drewN m) (below_drewN hBw5 m)).mono fun _ _ h => (⟨h.1, h.2.symm⟩ : _ ∧ _ = W5.drewN m))
    have HA0 := Lib.hid ha0
    have HCB := Lib.hid hcb
    clear m ha0 ha1 hcb
    by_cases h01 : a0 = a1
    ·have HC2 : Hid (∀ j, j < k + 1 → candB E S j = false) := fun j hj => by
      by_cases e : j = k
      ·rw [e, HCB.out, h01]; simp
      ·exact CB.out j hj e
     subst h01
     have hbe : (a0 == a0) = true := by simp
     go_wp2_with fail
     go_quiet ((go_at_call 51; first | (with_reducible exact Calls.quiet_of_same (HS1.out _)) | (with_reducible exact Calls.quiet_of_same (HO0.out _)) | (with_reducible exact Calls.quiet_of_same (HO1.out _))))
     go_wp2
     go_roundw
     case rel => exact ⟨k + 1, by omega, by go_num, HC2.out, below_drewN HB5.out _⟩
     case measure => simp [intOf]; omega
    ·have hbe : (a0 == a1) = false := by simpa using h01
     have HN : Hid (nextF E S = some k) := next_least HKE.out (by rw [HCB.out, hbe]; rfl) fun f hf => CB.out f (by omega) (by omega)
     have HLD : Hid (leadV E S k = if a0 = true then x1 else x0) := by
      unfold Hid leadV; rw [HP.out]
      cases ha : a0
      ·have : ¬ x0 ∈ S.order := by have := HA0.out; rw [ha] at this; exact of_decide_eq_false this
       rw [if_neg this, if_neg (by decide)]
      ·have : x0 ∈ S.order := by have := HA0.out; rw [ha] at this; exact of_decide_eq_true this
       rw [if_pos this, if_pos rfl]
     clear h01 HCB CB
     go_wp2_with fail
     go_quiet ((go_at_call 51; first | (with_reducible exact Calls.quiet_of_same (HS1.out _)) | (with_reducible exact Calls.quiet_of_same (HO0.out _)) | (with_reducible exact Calls.quiet_of_same (HO1.out _))))
     have s1' : (W5.drewN nq).cell? ⟨w.heap.size + 1, 1, none⟩ = some (.slice AO S.order.length cO) := s1
     have HO2 := Lib.hid (HO0.out nq)
     have hBf : Below w.heap.size w (W5.drewN nq) := below_drewN hBw5 nq
     obtain ⟨W6, hW6⟩ : ∃ W, W5.drewN nq = W := ⟨_, rfl⟩
     rw [hW6] at s1' HO2 hBf
     try rw [hW6]
     clear hW6
     go_wp2_with fail
     refine (HO2.out).mono ?_
     rintro e w7 ⟨rfl, rfl⟩
     cases a0
     ·go_wp2
      go_ret2
      refine ⟨?_, hBf⟩
      rw [HN.out]
      show _ = Ending.returned (.tuple #[.int .i64 (k : Int), .int .i64 (leadV E S k : Int)])
      rw [HLD.out]; rfl
     ·go_wp2
      go_ret2
      refine ⟨?_, hBf⟩
      rw [HN.out]
      show _ = Ending.returned (.tuple #[.int .i64 (k : Int), .int .i64 (leadV E S k : Int)])
      rw [HLD.out]; rfl
  ·obtain rfl : k = M := by omega
   have HN : Hid (nextF E S = none) := next_upto fun e he => HC.out e (by rw [HM.out] at he; exact he)
   have hBf := hB1.trans (HB.out.mono hB1.size)
   go_wp2
   go_ret2
   refine ⟨?_, hBf⟩
   rw [HN.out]; rfl
end Go.Proofs.YtnbikkcalcpedaaGreatDoor
namespace Go.Proofs.YtnbikkcalcpedaaGreatDoor
open Go.RowKit Go.Shelf
end Go.Proofs.YtnbikkcalcpedaaGreatDoor
namespace Go.Proofs.YtnbikkcalcpedaaGreatDoor
open Go.RowKit
section
variable {w w' : World} {base b n : Nat} {E : List (Nat × Nat)} {lv : Value} {a : FireA} {s : FireS} {H : List Int}
theorem FireW.step {e : Nat} {w1 : World} {A' : Option Addr} {c' : Nat} {x : Nat} (h : FireW w base b E n lv a s H)
  (hg : (w.alloc (.cells #[.int .i64 e] 3)).grownBy w1 (Value.slice a.AS x a.cS).ownBlock)
  (hO : OwnI w1 base A' c' (nI (s.steps ++ [e]))) (hA : ∀ k, blockOf A' k → blockOf a.AS k ∨ w.heap.size ≤ k) :
  FireW (w1.setCell ⟨b, 4, none⟩ (.slice A' (s.steps.length + 1) c')) base b E n lv { a with AS := A', cS := c' } { s with steps := s.steps ++ [e] } H := by
 have hk : ∀ k, k < w.heap.size → k ≠ b → ¬ blockOf a.AS k → (w1.setCell ⟨b, 4, none⟩ (.slice A' (s.steps.length + 1) c')).heap[k]? = w.heap[k]? := fun k k1 k2 k4 =>
  (Below.heap_setCell w1 ⟨b, 4, none⟩ _ k k2).trans ((hg.block k (by simp; omega) (fun e => k4 (blockOf_own.1 e.symm))).trans (Below.heap_alloc w _ k k1))
 have keepI : ∀ {A : Option Addr} {c : Nat} {xs : List Int}, OwnI w base A c xs → Dj A a.AS → OwnI (w1.setCell ⟨b, 4, none⟩ (.slice A' (s.steps.length + 1) c')) base A c xs := fun {A c xs} ho hd => own_kept ho fun k k1 => hk k (own_ltI ho k k1) (own_neB ho h.blk (by decide) k k1) (hd k k1)
 have b1 : Blk w1 b 242 (fireC E n lv a s H) := (hg.block b (by have := h.blk.lt; simp; omega) (fun e => own_neB h.steps h.blk (by decide) b (blockOf_own.1 e.symm) rfl)).trans (h.blk.alloc _)
 have g1 : Blk w1 a.gB 4 (bools (bntL n s.order)) := (hg.block a.gB (by have := h.burnt.lt; simp; omega) (fun e => own_neB h.steps h.burnt (by decide) a.gB (blockOf_own.1 e.symm) rfl)).trans (h.burnt.alloc _)
 have hO' : OwnI (w1.setCell ⟨b, 4, none⟩ (.slice A' (s.steps.length + 1) c')) base A' c' (nI (s.steps ++ [e])) := own_kept hO fun k k1 => Below.heap_setCell w1 ⟨b, 4, none⟩ _ k (own_neB hO b1 (by decide) k k1)
 refine { blk := ?_, ends := ?_, burnt := g1.far (fun e => h.ne e) _, hb := h.hb, hgB := h.hgB, tlen := h.tlen, times := keepI h.times h.tS, order := keepI h.order h.sO.symm, tree := keepI h.tree h.sD.symm, next := keepI h.next h.sH.symm, steps := hO', tS := (h.tS.symm.upd hA (own_ltI h.times)).symm, tO := h.tO, tD := h.tD, tH := h.tH, sO := h.sO.upd hA (own_ltI h.order), sD := h.sD.upd hA (own_ltI h.tree), sH := h.sH.upd hA (own_ltI h.next), oD := h.oD, oH := h.oH, dH := h.dH }
 ·have := b1.set_ 4 (.slice A' (s.steps.length + 1) c')
  have e : (fireC E n lv a s H).setIfInBounds 4 (.slice A' (s.steps.length + 1) c') = fireC E n lv { a with AS := A', cS := c' } { s with steps := s.steps ++ [e] } H := by simp [fireC]
  rw [e] at this; exact this
 ·refine h.ends.keep fun p hp => ?_
  have h1 := h.hb
  have hne : ¬ blockOf a.AS p.block := fun hc => by have := own_geI h.steps _ hc; omega
  have e := hk p.block (by have := h.blk.lt; omega) (by omega) hne
  simp only [World.cell?, e]
theorem FireW.edge {e : Nat} {w1 : World} {A' : Option Addr} {c' : Nat} {x : Nat} (h : FireW w base b E n lv a s H)
  (hg : (w.alloc (.cells #[.int .i64 e] 3)).grownBy w1 (Value.slice a.AD x a.cD).ownBlock)
  (hO : OwnI w1 base A' c' (nI (s.tree ++ [e]))) (hA : ∀ k, blockOf A' k → blockOf a.AD k ∨ w.heap.size ≤ k) :
  FireW (w1.setCell ⟨b, 6, none⟩ (.slice A' (s.tree.length + 1) c')) base b E n lv { a with AD := A', cD := c' } { s with tree := s.tree ++ [e] } H := by
 have hk : ∀ k, k < w.heap.size → k ≠ b → ¬ blockOf a.AD k → (w1.setCell ⟨b, 6, none⟩ (.slice A' (s.tree.length + 1) c')).heap[k]? = w.heap[k]? := fun k k1 k2 k4 =>
  (Below.heap_setCell w1 ⟨b, 6, none⟩ _ k k2).trans ((hg.block k (by simp; omega) (fun e => k4 (blockOf_own.1 e.symm))).trans (Below.heap_alloc w _ k k1))
 have keepI : ∀ {A : Option Addr} {c : Nat} {xs : List Int}, OwnI w base A c xs → Dj A a.AD → OwnI (w1.setCell ⟨b, 6, none⟩ (.slice A' (s.tree.length + 1) c')) base A c xs := fun {A c xs} ho hd => own_kept ho fun k k1 => hk k (own_ltI ho k k1) (own_neB ho h.blk (by decide) k k1) (hd k k1)
 have b1 : Blk w1 b 242 (fireC E n lv a s H) := (hg.block b (by have := h.blk.lt; simp; omega) (fun e => own_neB h.tree h.blk (by decide) b (blockOf_own.1 e.symm) rfl)).trans (h.blk.alloc _)
 have g1 : Blk w1 a.gB 4 (bools (bntL n s.order)) := (hg.block a.gB (by have := h.burnt.lt; simp; omega) (fun e => own_neB h.tree h.burnt (by decide) a.gB (blockOf_own.1 e.symm) rfl)).trans (h.burnt.alloc _)
 have hO' : OwnI (w1.setCell ⟨b, 6, none⟩ (.slice A' (s.tree.length + 1) c')) base A' c' (nI (s.tree ++ [e])) := own_kept hO fun k k1 => Below.heap_setCell w1 ⟨b, 6, none⟩ _ k (own_neB hO b1 (by decide) k k1)
 refine { blk := ?_, ends := ?_, burnt := g1.far (fun e => h.ne e) _, hb := h.hb, hgB := h.hgB, tlen := h.tlen, times := keepI h.times h.tD, order := keepI h.order h.oD, steps := keepI h.steps h.sD, next := keepI h.next h.dH.symm, tree := hO', tS := h.tS, tO := h.tO, tD := (h.tD.symm.upd hA (own_ltI h.times)).symm, tH := h.tH, sO := h.sO, sD := (h.sD.symm.upd hA (own_ltI h.steps)).symm, sH := h.sH, oD := (h.oD.symm.upd hA (own_ltI h.order)).symm, oH := h.oH, dH := h.dH.upd hA (own_ltI h.next) }
 ·have := b1.set_ 6 (.slice A' (s.tree.length + 1) c')
  have e : (fireC E n lv a s H).setIfInBounds 6 (.slice A' (s.tree.length + 1) c') = fireC E n lv { a with AD := A', cD := c' } { s with tree := s.tree ++ [e] } H := by simp [fireC]
  rw [e] at this; exact this
 ·refine h.ends.keep fun p hp => ?_
  have h1 := h.hb
  have hne : ¬ blockOf a.AD p.block := fun hc => by have := own_geI h.tree _ hc; omega
  have e := hk p.block (by have := h.blk.lt; omega) (by omega) hne
  simp only [World.cell?, e]
theorem FireW.time (h : FireW w base b E n lv a s H) (v : Nat) (x : Int) : FireW (w.setCell ⟨a.gT, v, none⟩ (.int .i64 x)) base b E n lv a { s with times := s.times.set v x } H := by
 have hT : blockOf (some ⟨a.gT, 0, none⟩) a.gT := by simp [blockOf]
 have hbT : base ≤ a.gT := own_geI h.times _ hT
 have nb : a.gT ≠ b := own_neB h.times h.blk (by decide) _ hT
 have ng : a.gT ≠ a.gB := own_neB h.times h.burnt (by decide) _ hT
 have keepI : ∀ {A : Option Addr} {c : Nat} {xs : List Int}, OwnI w base A c xs → Dj (some ⟨a.gT, 0, none⟩) A → OwnI (w.setCell ⟨a.gT, v, none⟩ (.int .i64 x)) base A c xs := fun {A c xs} ho hd => own_kept ho fun k k1 => Below.heap_setCell w ⟨a.gT, v, none⟩ _ k (fun e => by have e : k = a.gT := e; subst e; exact hd _ hT k1)
 refine { h with blk := ?_, ends := ?_, burnt := h.burnt.far (fun e => ng e.symm) _, times := h.times.put v x, tlen := by rw [List.length_set]; exact h.tlen, steps := keepI h.steps h.tS, order := keepI h.order h.tO, tree := keepI h.tree h.tD, next := keepI h.next h.tH }
 ·exact h.blk.far (p := ⟨a.gT, v, none⟩) (fun e => nb e.symm) _
 ·refine h.ends.keep fun p hp => ?_
  have e := Below.heap_setCell w ⟨a.gT, v, none⟩ (.int .i64 x) p.block (by show p.block ≠ a.gT; omega)
  simp only [World.cell?, e]
def lenAt (w : World) (b o : Nat) : Nat := match w.cell? ⟨b, o, none⟩ with | some (.slice _ m _) => m | _ => 0
theorem lenAt_of {b o m c : Nat} {A : Option Addr} (h : w.cell? ⟨b, o, none⟩ = some (.slice A m c)) : lenAt w b o = m := by unfold lenAt; rw [h]
theorem FireW.lenH (h : FireW w base b E n lv a s H) : lenAt w b 7 = H.length := lenAt_of (h.blk.cell 7)
theorem FireW.lenO (h : FireW w base b E n lv a s H) : lenAt w b 5 = s.order.length := lenAt_of (h.blk.cell 5)
end
end Go.Proofs.YtnbikkcalcpedaaGreatDoor
