/-
 Texts of this claim, put together: TreeCk, TConn, Conf.
-/
import Derived.Test.YtnbikkcalcpedaaGreatDoorK17
import Derived.Test.YtnbikkcalcpedaaGreatDoorK18
import Derived.Test.YtnbikkcalcpedaaGreatDoorK15
set_option maxRecDepth 100000
set_option maxHeartbeats 4000000
namespace Go.Proofs.YtnbikkcalcpedaaGreatDoor
open Go.RowKit
def leP (p : Option Int) (x : Int) : Bool := match p with | some y => decide (x ≤ y) | none => false
def edgFrom (m : Nat) : Option Int → List Int → Int
 | _, [] => 0
 | p, x :: xs => if x < 0 ∨ (m : Int) ≤ x then 2 else if leP p x = true then 9 else edgFrom m (some x) xs
def edgErr (m : Nat) (xs : List Int) : Int := edgFrom m none xs
def prevJ (xs : List Int) (k : Nat) : Option Int := if k = 0 then none else xs[k - 1]?
theorem prevI_succ (xs : List Int) (k : Nat) : prevJ xs (k + 1) = xs[k]? := by simp [prevJ]
theorem edgFrom_at {m : Nat} {xs : List Int} {k : Nat} {x : Int} (h : xs[k]? = some x) : edgFrom m (prevJ xs k) (xs.drop k) = if x < 0 ∨ (m : Int) ≤ x then 2 else if leP (prevJ xs k) x = true then 9 else edgFrom m (prevJ xs (k + 1)) (xs.drop (k + 1)) := by
 have hk : k < xs.length := (List.getElem?_eq_some_iff.1 h).1
 rw [List.drop_eq_getElem_cons hk, edgFrom]
 have : xs[k] = x := by rw [List.getElem?_eq_getElem hk] at h; injection h
 rw [this, prevI_succ, h]
theorem edgFrom_zero {m : Nat} : ∀ {xs : List Int} {p : Option Int}, edgFrom m p xs = 0 → (∀ x ∈ xs, 0 ≤ x ∧ x < m) ∧ xs.Pairwise (· < ·) ∧ ∀ y, p = some y → ∀ x ∈ xs, y < x
 | [], _, _ => ⟨by simp, .nil, by simp⟩
 | x :: xs, p, h => by
   rw [edgFrom] at h
   by_cases h1 : x < 0 ∨ (m : Int) ≤ x
   ·rw [if_pos h1] at h; omega
   ·rw [if_neg h1] at h
    split at h
    ·omega
    ·rename_i h2
     obtain ⟨i1, i2, i3⟩ := edgFrom_zero h
     refine ⟨?_, List.pairwise_cons.2 ⟨i3 x rfl, i2⟩, ?_⟩
     ·intro z hz
      rcases List.mem_cons.1 hz with rfl | hz
      ·omega
      ·exact i1 z hz
     ·rintro y rfl z hz
      simp [leP] at h2
      rcases List.mem_cons.1 hz with rfl | hz
      ·exact h2
      ·have := i3 x rfl z hz; omega
theorem edg_set {m : Nat} {xs : List Int} (h : edgErr m xs = 0) : ∃ t : List Nat, xs = nI t ∧ SetN m t := by
 obtain ⟨h1, h2, _⟩ := edgFrom_zero h
 refine ⟨xs.map Int.toNat, ?_, ?_, ?_⟩
 ·unfold nI
  rw [List.map_map]
  conv => lhs; rw [← List.map_id xs]
  refine List.map_congr_left fun x hx => ?_
  have := (h1 x hx).1
  simp [Int.toNat_of_nonneg this]
 ·rw [List.pairwise_map]
  refine h2.imp_of_mem fun ha hb hab => ?_
  have := h1 _ ha
  have := h1 _ hb
  omega
 ·intro e he
  obtain ⟨x, hx, rfl⟩ := List.mem_map.1 he
  have := h1 x hx
  omega
theorem size_ok (n : Int) (A : Option Addr) (c : Nat) (es : List E3) (hn : es.length ≤ 10000) (hz : checkG n es = 0) (w : World) (h : Reads w w.heap.size 3 A es.length (edgeCells es)) :
  Calls Tryz.prog 133 #[.agg #[.int .i64 n, .slice A es.length c]] w fun e w' => e = .returned (.tuple #[.int .i64 ((endsL es).length : Nat), .int .i64 0]) ∧ Below w.heap.size w w' := by
 have EC := Lib.hid (fun (W : World) (hB : Below w.heap.size w W) => ends_ok n A c es hn hz n (right_of hz).ok W ((h.below hB).more hB.size))
 have g0 := Blk.new w 24 #[.int .i64 n, .slice A es.length c]
 have hb0 : Below w.heap.size w (w.alloc (.cells #[.int .i64 n, .slice A es.length c] 24)) := (Below.refl _ _).alloc (Nat.le_refl _) _
 have c0 := g0.cell 0
 have c1 := g0.cell 1
 clear hz
 go_enter Tryz.func133, Tryz.ntmps133
 go_wp2_with fail
 refine (EC.out _ hb0).mono ?_
 rintro e w1 ⟨Ar, cr, rfl, _, hb1⟩
 go_wp2
 go_ret2
 exact ⟨rfl, hb0.trans (hb1.mono hb0.size)⟩
theorem cedges_any (n : Int) (A : Option Addr) (c : Nat) (es : List E3) (hn : es.length ≤ 10000) (hz : checkG n es = 0) (B : Option Addr) (d : Nat) (xs : List Int) (hm : xs.length ≤ 1048576) (w : World) (h : Reads w w.heap.size 3 A es.length (edgeCells es)) (h' : Reads w w.heap.size 1 B xs.length (ints xs)) :
  Calls Tryz.prog 110 #[.agg #[.int .i64 n, .slice A es.length c], .slice B xs.length d] w fun e w' => e = .returned (.int .i64 (edgErr (endsL es).length xs)) ∧ Below w.heap.size w w' := by
 have SC := Lib.hid (fun (W : World) (hB : Below w.heap.size w W) => size_ok n A c es hn hz W ((h.below hB).more hB.size))
 have g0 := Blk.new w 24 #[.int .i64 n, .slice A es.length c]
 have hb0 : Below w.heap.size w (w.alloc (.cells #[.int .i64 n, .slice A es.length c] 24)) := (Below.refl _ _).alloc (Nat.le_refl _) _
 have c0 := g0.cell 0
 have c1 := g0.cell 1
 obtain ⟨m, hmm⟩ : ∃ m, (endsL es).length = m := ⟨_, rfl⟩
 rw [hmm] at SC ⊢
 obtain ⟨z, hzz⟩ : ∃ z, edgErr m xs = z := ⟨_, rfl⟩
 rw [hzz]
 have HZ : Hid (edgFrom m (prevJ xs 0) (xs.drop 0) = z) := hzz
 clear hz hmm hzz
 go_enter Tryz.func110, Tryz.ntmps110
 go_wp2_with fail
 refine (SC.out _ hb0).mono ?_
 rintro e w1 ⟨rfl, hb1⟩
 have B1 := hb0.trans (hb1.mono hb0.size)
 clear g0 hb0 c0 c1 hb1
 go_wp2_with fail
 go_loopw [7, 8, 19, 24, 32] (fun _ _ i _ _ wr => ∃ k : Nat, k ≤ xs.length ∧ i = .int .i64 k ∧ Hid (edgFrom m (prevJ xs k) (xs.drop k) = z) ∧ Hid (Below w.heap.size w wr)) (fun _ _ i _ _ _ => xs.length - (intOf i).toNat)
 case atStart => exact ⟨0, by omega, rfl, HZ, B1⟩
 case round =>
  obtain ⟨k, hk, rfl, HE, HB⟩ := hrel
  clear HZ B1
  by_cases hlt : k < xs.length
  ·have hi : (k : Int) < (xs.length : Int) := by omega
   obtain ⟨x, hx⟩ := get_of_lt hlt
   obtain ⟨bB, oB, hA, hbB, hcell⟩ := (h'.below HB.out).at_ (ints_at hx)
   subst hA
   have hat := edgFrom_at (m := m) hx
   rw [HE.out] at hat
   by_cases h1 : x < 0
   ·rw [if_pos (.inl h1)] at hat
    have HA := Lib.hid hat
    have hd1 : decide (x < 0) = true := decide_eq_true h1
    clear hx hat
    go_wp2
    go_ret
    exact ⟨by rw [HA.out]; rfl, HB.out⟩
   ·have hd1 : decide (x < 0) = false := decide_eq_false h1
    by_cases h2 : (m : Int) ≤ x
    ·rw [if_pos (.inr h2)] at hat
     have HA := Lib.hid hat
     have hd2 : decide ((m : Int) ≤ x) = true := decide_eq_true h2
     clear hx hat
     go_wp2
     go_ret
     exact ⟨by rw [HA.out]; rfl, HB.out⟩
    ·rw [if_neg (fun hc => hc.elim h1 h2)] at hat
     have hd2 : decide ((m : Int) ≤ x) = false := decide_eq_false h2
     by_cases hk0 : k = 0
     ·have HA : Hid (z = edgFrom m (prevJ xs (k + 1)) (xs.drop (k + 1))) := hat.trans (if_neg (by simp [prevJ, hk0, leP]))
      have hkp : ¬ (0 : Int) < (k : Int) := by omega
      have hkd : decide ((0 : Int) < (k : Int)) = false := decide_eq_false hkp
      have hkn : ¬ 0 < k := by omega
      have hkm : decide (0 < k) = false := decide_eq_false hkn
      clear hx hat hk0
      go_wp2
      go_roundw
      case rel => exact ⟨k + 1, by omega, by go_num, HA.out.symm, HB⟩
      case measure => simp [intOf]; omega
     ·obtain ⟨j, rfl⟩ : ∃ j, k = j + 1 := ⟨k - 1, by omega⟩
      obtain ⟨y, hy⟩ := get_of_lt (xs := xs) (k := j) (by omega)
      obtain ⟨bB', oB', hA', _, hcell2⟩ := (h'.below HB.out).at_ (ints_at hy)
      injection hA' with hA'
      injection hA' with e1 e2
      subst e1 e2
      have hprev : prevJ xs (j + 1) = some y := by rw [prevI_succ]; exact hy
      rw [hprev] at hat
      have hk1 : IntKind.i64.wrap (((j + 1 : Nat) : Int) - 1) = (j : Int) := by rw [IntWalk.i64_in _ (by omega)]; omega
      have hkp : (0 : Int) < ((j + 1 : Nat) : Int) := by omega
      have hjl : (j : Int) < (xs.length : Int) := by omega
      have hm1 : IntKind.i64.wrap ((j : Int) + 1 - 1) = (j : Int) := by rw [IntWalk.i64_in _ (by omega)]; omega
      by_cases h3 : x ≤ y
      ·have HA : Hid (z = 9) := hat.trans (if_pos (by simpa [leP] using h3))
       have hd3 : decide (x ≤ y) = true := decide_eq_true h3
       clear hx hat hy hprev
       go_wp2
       go_ret
       exact ⟨by rw [HA.out]; rfl, HB.out⟩
      ·have HA : Hid (z = edgFrom m (prevJ xs (j + 1 + 1)) (xs.drop (j + 1 + 1))) := hat.trans (if_neg (by simpa [leP] using h3))
       have hd3 : decide (x ≤ y) = false := decide_eq_false h3
       clear hx hat hy hprev
       go_wp2
       go_roundw
       case rel => exact ⟨j + 1 + 1, by omega, by go_num, HA.out.symm, HB⟩
       case measure => simp [intOf]; omega
  ·obtain rfl : k = xs.length := by omega
   have hz0 : Hid (z = 0) := by rw [Hid, ← HE.out, List.drop_length]; rfl
   go_wp2
   go_ret
   exact ⟨by rw [hz0.out]; rfl, HB.out⟩
def spansB (n : Nat) (E : List (Nat × Nat)) (t : List Nat) : Bool := foB (pk E t) && decide (t.length + 1 = n)
theorem nI_length (t : List Nat) : (nI t).length = t.length := by simp [nI]
theorem nI_at {t : List Nat} {k e : Nat} (h : t[k]? = some e) : (nI t)[k]? = some (e : Int) := by simp [nI, h]
theorem pk_take_snoc {E : List (Nat × Nat)} {t : List Nat} {k e : Nat} (h : t[k]? = some e) : pk E (t.take (k + 1)) = pk E (t.take k) ++ [E.getD e (0, 0)] := by
 rw [take_snoc h]; simp [pk]
theorem getD_some {E : List (Nat × Nat)} {e : Nat} (h : e < E.length) : E[e]? = some (E.getD e (0, 0)) := by
 rw [List.getD_eq_getElem?_getD, List.getElem?_eq_getElem h]; rfl
theorem spans_any (n : Nat) (hn1 : 1 ≤ n) (hn : n ≤ 12) (E : List (Nat × Nat)) (hE : BdP n E) (_hel : E.length ≤ 1000000) (Ar : Option Addr) (cr : Nat) (t : List Nat) (ht : ∀ e ∈ t, e < E.length) (htl : t.length ≤ 1048576) (B : Option Addr) (d : Nat) (w : World)
  (h : Reads w w.heap.size 2 Ar E.length (pair2 E)) (h' : Reads w w.heap.size 1 B t.length (ints (nI t))) :
  Calls Tryz.prog 185 #[.int .i64 n, .slice Ar E.length cr, .slice B t.length d] w fun e w' => e = .returned (.bool (spansB n E t)) ∧ Below w.heap.size w w' := by
 have HT := Lib.hid ht
 have HBE := Lib.hid hE
 have HBP : Hid (BdP n (pk E t)) := bd_pk hE ht
 obtain ⟨r, hr⟩ : ∃ r, spansB n E t = r := ⟨_, rfl⟩
 rw [hr]
 have HR := Lib.hid hr
 clear hE ht hr
 go_enter Tryz.func185, Tryz.ntmps185
 go_wp2_with fail
 refine (loose_any w).mono ?_
 rintro e w2 ⟨rfl, hb2⟩
 have F2 : Blk (w2.alloc obj12) w2.heap.size 174 (fcells (List.range 12)) := Blk.new w2 _ _
 have B2 : Below w.heap.size w (w2.alloc obj12) := hb2.alloc hb2.size _
 have hs2 := hb2.size
 obtain ⟨gf, hgf⟩ : ∃ gf, w2.heap.size = gf := ⟨_, rfl⟩
 have HGF := Lib.hid hgf
 rw [hgf] at F2 hs2
 clear hb2 hgf
 go_wp2_with fail
 try rw [HGF.out]
 go_loopw [9, 13] (fun _ i wr => ∃ (k : Nat) (f : List Nat), k ≤ t.length ∧ i = .int .i64 k ∧ Hid (FR (pk E (t.take k)) f) ∧ Hid (Fo (pk E (t.take k))) ∧ Hid (Blk wr gf 174 (fcells f)) ∧ Hid (Below w.heap.size w wr)) (fun _ i _ => t.length - (intOf i).toNat)
 case atStart => exact ⟨0, List.range 12, by omega, rfl, fr_nil, trivial, F2, B2⟩
 case round =>
  obtain ⟨k, f, hk, rfl, HF, HFo, HB, HW⟩ := hrel
  clear F2 B2
  have hwz := HW.out.size
  by_cases hlt : k < t.length
  ·obtain ⟨e, hx⟩ := get_of_lt hlt
   have he := HT.out e (List.mem_of_getElem? hx)
   have hab := getD_bd HBE.out he
   obtain ⟨bB, oB, hB, hbB, hcell⟩ := (h'.below HW.out).at_ (ints_at (nI_at hx))
   subst hB
   obtain ⟨bA, oA, hA, hbA, q0, q1⟩ := (h.below HW.out).pairAt (getD_some he)
   subst hA
   have hpk := pk_take_snoc (E := E) hx
   have hbt : BdP n (pk E (t.take k) ++ [E.getD e (0, 0)]) := by
    rw [← hpk]
    exact fun p hp => HBP.out p ((pk_sub (List.take_sublist _ _)).subset hp)
   have hfs := fo_append_snoc hbt
   rw [← hpk] at hfs
   obtain ⟨⟨a, b⟩, hp⟩ : ∃ p, E.getD e (0, 0) = p := ⟨_, rfl⟩
   rw [hp] at hab q0 q1 hpk hfs
   dsimp only at hab q0 q1 hfs
   have hi : (k : Int) < (t.length : Int) := by omega
   have hie : (e : Int) < (E.length : Int) := by omega
   have JC := Lib.hid (tjoin_any gf (pk E (t.take k)) f HF.out a b (by omega) (by omega) wr HB.out)
   have HPK := Lib.hid hpk
   have HFS := Lib.hid hfs
   have HX := Lib.hid hx
   have hgf1 : Hid (w.heap.size ≤ gf) := hs2
   clear hx hp hpk hbt hfs
   by_cases hc : Cn (pk E (t.take k)) a b
   ·rw [decide_eq_true hc] at JC
    have hrf : Hid (r = false) := by
     rw [Hid, ← HR.out]
     unfold spansB
     have : foB (pk E t) = false := by
      cases hfo : foB (pk E t)
      ·rfl
      ·exfalso
       have h1 := (foB_iff.1 hfo).sub (pk_sub (List.take_sublist (k + 1) t))
       exact (HFS.out.1 h1).2 hc
     rw [this]; rfl
    clear hc
    go_wp2_with (go_at_call 131; (with_reducible refine (JC.out).mono ?_); rintro e w5 ⟨rfl, f', HF', HB', ho⟩)
    have HW5 := Lib.hid (HW.out.trans (ho.below (fun j hj e => by have := hgf1.out; omega) hwz))
    go_ret
    exact ⟨by rw [hrf.out]; rfl, HW5.out⟩
   ·rw [decide_eq_false hc] at JC
    have hfo2 : Hid (Fo (pk E (t.take (k + 1)))) := HFS.out.2 ⟨HFo.out, hc⟩
    clear hc
    go_wp2_with (go_at_call 131; (with_reducible refine (JC.out).mono ?_); rintro e w5 ⟨rfl, f', HF', HB', ho⟩)
    have HW5 := Lib.hid (HW.out.trans (ho.below (fun j hj e => by have := hgf1.out; omega) hwz))
    go_roundw
    case rel => exact ⟨k + 1, f', by omega, by go_num, by rw [Hid, HPK.out]; exact HF'.out, hfo2, HB', HW5⟩
    case measure => simp [intOf]; omega
  ·obtain rfl : k = t.length := by omega
   have hfo : foB (pk E t) = true := foB_iff.2 (by have := HFo.out; rwa [List.take_length] at this)
   have hrv : Hid (((t.length : Int) == (n : Int) - 1) = r) := by
    rw [Hid, ← HR.out]
    unfold spansB
    rw [hfo, Bool.true_and, Bool.eq_iff_iff]
    simp; omega
   have hwn : IntKind.i64.wrap ((n : Int) - 1) = (n : Int) - 1 := IntWalk.i64_in _ (by omega)
   clear hfo
   go_wp2
   go_ret
   exact ⟨ret_bool hrv.out, HW.out⟩
def treeErr (n : Int) (es : List E3) (xs : List Int) : Int :=
 if joinErr n es ≠ 0 then joinErr n es else if edgErr (endsL es).length xs ≠ 0 then edgErr (endsL es).length xs else if (xs.length : Int) + 1 ≠ n then 8 else if foB (pk (endsL es) (xs.map Int.toNat)) = true then 0 else 3
theorem tree_zero {n : Int} {es : List E3} {xs : List Int} (h : treeErr n es xs = 0) : ∃ (m : Nat) (t : List Nat), n = m ∧ xs = nI t ∧ RightG m es ∧ BdP m (endsL es) ∧ IsTr m (endsL es) t ∧ 1 ≤ m ∧ m ≤ 12 ∧ joinErr n es = 0 := by
 unfold treeErr at h
 by_cases hj : joinErr n es = 0
 ·rw [if_neg (fun hc => hc hj)] at h
  obtain ⟨hz, hG, _⟩ := join_zero hj
  have hlo := hG.lo
  have hhi := hG.hi
  obtain ⟨m, rfl⟩ := Int.eq_ofNat_of_zero_le (show 0 ≤ n by omega)
  by_cases he : edgErr (endsL es).length xs = 0
  ·rw [if_neg (fun hc => hc he)] at h
   obtain ⟨t, rfl, hs⟩ := edg_set he
   by_cases hl : ((nI t).length : Int) + 1 = (m : Int)
   ·rw [if_neg (fun hc => hc hl)] at h
    have htt : (nI t).map Int.toNat = t := by
     unfold nI
     rw [List.map_map]
     conv => rhs; rw [← List.map_id t]
     exact List.map_congr_left fun x _ => by simp
    rw [htt] at h
    have hfo : foB (pk (endsL es) t) = true := by
     cases hf : foB (pk (endsL es) t)
     ·rw [hf] at h; simp at h
     ·rfl
    rw [nI_length] at hl
    exact ⟨m, t, rfl, rfl, hG, bd_ends hG, ⟨hs, by omega, foB_iff.1 hfo⟩, by omega, by omega, hj⟩
   ·rw [if_pos hl] at h; omega
  ·rw [if_pos he] at h; exact absurd h he
 ·rw [if_pos hj] at h; exact absurd h hj
theorem checked_any (n : Int) (A : Option Addr) (c : Nat) (es : List E3) (hn : es.length ≤ 10000) (B : Option Addr) (d : Nat) (xs : List Int) (hm : xs.length ≤ 1048576) (w : World) (h : Reads w w.heap.size 3 A es.length (edgeCells es)) (h' : Reads w w.heap.size 1 B xs.length (ints xs)) :
  Calls Tryz.prog 128 #[.agg #[.int .i64 n, .slice A es.length c], .slice B xs.length d] w fun e w' => GivenR w (treeErr n es xs) (endsL es) e w' := by
 have GC := Lib.hid (fun (W : World) (hB : Below w.heap.size w W) => tgiven_any n A c es hn W ((h.below hB).more hB.size))
 have g0 := Blk.new w 24 #[.int .i64 n, .slice A es.length c]
 have hb0 : Below w.heap.size w (w.alloc (.cells #[.int .i64 n, .slice A es.length c] 24)) := (Below.refl _ _).alloc (Nat.le_refl _) _
 have c0 := g0.cell 0
 have c1 := g0.cell 1
 by_cases hj : joinErr n es = 0
 ·obtain ⟨hz, hG, _⟩ := join_zero hj
  have hlo := hG.lo
  have hhi := hG.hi
  obtain ⟨m, rfl⟩ := Int.eq_ofNat_of_zero_le (show 0 ≤ n by omega)
  rw [hj] at GC
  have EC := Lib.hid (fun (W : World) (hB : Below w.heap.size w W) => cedges_any m A c es hn hz B d xs hm W ((h.below hB).more hB.size) ((h'.below hB).more hB.size))
  have hel := endsL_length hG.ok
  have hbd := bd_ends hG
  by_cases he : edgErr (endsL es).length xs = 0
  ·obtain ⟨t, rfl, hs⟩ := edg_set he
   rw [he] at EC
   have htt : (nI t).map Int.toNat = t := by
    unfold nI
    rw [List.map_map]
    conv => rhs; rw [← List.map_id t]
    exact List.map_congr_left fun x _ => by simp
   have hnl := nI_length t
   have SC := Lib.hid (fun (Ar : Option Addr) (cr : Nat) (W : World) (hB : Below w.heap.size w W) (hr : Reads W W.heap.size 2 Ar (endsL es).length (pair2 (endsL es))) => spans_any m (by omega) (by omega) (endsL es) hbd (by omega) Ar cr t hs.2 (by omega) B d W hr (by rw [← hnl]; exact (h'.below hB).more hB.size))
   have HE : Hid (treeErr m es (nI t) = if (t.length : Int) + 1 ≠ (m : Int) then 8 else if spansB m (endsL es) t = true then 0 else 3) := by
    unfold Hid treeErr spansB
    rw [if_neg (fun hc => hc hj), if_neg (fun hc => hc he), htt, hnl]
    by_cases hl : (t.length : Int) + 1 = (m : Int)
    ·rw [decide_eq_true (show t.length + 1 = m by omega), Bool.and_true]
    ·rw [if_pos hl, if_pos hl]
   obtain ⟨z, hzz⟩ : ∃ z, treeErr m es (nI t) = z := ⟨_, rfl⟩
   rw [hzz] at HE ⊢
   rw [hnl] at EC h' ⊢
   obtain ⟨E, hE⟩ : ∃ E, endsL es = E := ⟨_, rfl⟩
   rw [hE] at GC SC HE ⊢
   clear hz hG hj he htt hzz hs hel hbd hE
   go_enter Tryz.func128, Tryz.ntmps128
   go_wp2_with fail
   refine (GC.out _ hb0).mono ?_
   rintro e w1 ⟨Ar, lr, cr, rfl, hg1, _, hb1⟩
   obtain ⟨rfl, HQ⟩ := hg1 rfl
   have HQ := Lib.hid (own_rebase2 HQ hb0.size)
   have B1 := hb0.trans (hb1.mono hb0.size)
   have g1 := g0.next hb1
   have c0 := g1.cell 0
   have c1 := g1.cell 1
   clear g0 hb0 hb1
   go_wp2_with fail
   refine (EC.out _ B1).mono ?_
   rintro e w2 ⟨rfl, hb2⟩
   have B2 := B1.trans (hb2.mono B1.size)
   have g2 := g1.next hb2
   have HQ2 : Hid (OwnQ w2 w.heap.size Ar cr E) := own_kept2 HQ.out fun j hj => hb2.block j (World.ownsRow.lt HQ.out j (blockOf_own.2 hj)).2
   have c0 := g2.cell 0
   have c1 := g2.cell 1
   have hwn : IntKind.i64.wrap ((m : Int) - 1) = (m : Int) - 1 := IntWalk.i64_in _ (by omega)
   clear g1 hb2 B1
   by_cases hl : (t.length : Int) + 1 = (m : Int)
   ·have hne : ((t.length : Int) != (m : Int) - 1) = false := by simp; omega
    have HE2 : Hid (z = if spansB m E t = true then 0 else 3) := HE.out.trans (if_neg (fun hc => hc hl))
    have SC2 := SC.out Ar cr w2 B2 (OwnQ.reads HQ2.out)
    obtain ⟨sb, hsb⟩ : ∃ sb, spansB m E t = sb := ⟨_, rfl⟩
    rw [hsb] at SC2 HE2
    have SC2 := Lib.hid SC2
    clear hl hsb
    go_wp2_with fail
    refine (SC2.out).mono ?_
    rintro e w3 ⟨rfl, hb3⟩
    have B3 := B2.trans (hb3.mono B2.size)
    have HQ3 : Hid (OwnQ w3 w.heap.size Ar cr E) := own_kept2 HQ2.out fun j hj => hb3.block j (World.ownsRow.lt HQ2.out j (blockOf_own.2 hj)).2
    cases sb
    ·have HI : Hid (z = 3) := HE2.out
     go_wp2
     go_ret2
     refine ⟨none, 0, 0, ?_, ?_, fun _ => ⟨rfl, rfl⟩, B3⟩
     ·rw [HI.out]; rfl
     ·intro h; rw [HI.out] at h; omega
    ·have HI : Hid (z = 0) := HE2.out
     go_wp2
     go_ret2
     refine ⟨Ar, E.length, cr, ?_, fun _ => ⟨rfl, HQ3.out⟩, fun h => absurd HI.out h, B3⟩
     rw [HI.out]; rfl
   ·have hne : ((t.length : Int) != (m : Int) - 1) = true := by simp; omega
    have HI : Hid (z = 8) := HE.out.trans (if_pos hl)
    clear hl
    go_wp2
    go_ret2
    refine ⟨none, 0, 0, ?_, ?_, fun _ => ⟨rfl, rfl⟩, B2⟩
    ·rw [HI.out]; rfl
    ·intro h; rw [HI.out] at h; omega
  ·have HE : Hid (treeErr m es xs = edgErr (endsL es).length xs) := by
    unfold Hid treeErr
    rw [if_neg (fun hc => hc hj), if_pos he]
   rw [HE.out]
   obtain ⟨z, hzz⟩ : ∃ z, edgErr (endsL es).length xs = z := ⟨_, rfl⟩
   rw [hzz] at EC he ⊢
   obtain ⟨E, hE⟩ : ∃ E, endsL es = E := ⟨_, rfl⟩
   rw [hE] at GC ⊢
   have hb : (z != 0) = true := by simpa using he
   have HZ := Lib.hid he
   clear hz hG hj he hzz hel hbd hE HE
   go_enter Tryz.func128, Tryz.ntmps128
   go_wp2_with fail
   refine (GC.out _ hb0).mono ?_
   rintro e w1 ⟨Ar, lr, cr, rfl, hg1, _, hb1⟩
   obtain ⟨rfl, _⟩ := hg1 rfl
   have B1 := hb0.trans (hb1.mono hb0.size)
   have g1 := g0.next hb1
   have c0 := g1.cell 0
   have c1 := g1.cell 1
   clear g0 hb0 hb1
   go_wp2_with fail
   refine (EC.out _ B1).mono ?_
   rintro e w2 ⟨rfl, hb2⟩
   go_wp2
   go_ret2
   exact ⟨none, 0, 0, rfl, fun h => absurd h HZ.out, fun _ => ⟨rfl, rfl⟩, B1.trans (hb2.mono B1.size)⟩
 ·have HE : Hid (treeErr n es xs = joinErr n es) := by
   unfold Hid treeErr
   rw [if_pos hj]
  rw [HE.out]
  obtain ⟨z, hzz⟩ : ∃ z, joinErr n es = z := ⟨_, rfl⟩
  rw [hzz] at GC hj ⊢
  have hb : (z != 0) = true := by simpa using hj
  have HZ := Lib.hid hj
  clear hj hzz HE
  go_enter Tryz.func128, Tryz.ntmps128
  go_wp2_with fail
  refine (GC.out _ hb0).mono ?_
  rintro e w1 ⟨Ar, lr, cr, rfl, _, hg2, hb1⟩
  obtain ⟨rfl, rfl⟩ := hg2 HZ.out
  go_wp2
  go_ret2
  exact ⟨none, 0, 0, rfl, fun h => absurd h HZ.out, fun _ => ⟨rfl, rfl⟩, hb0.trans (hb1.mono hb0.size)⟩
theorem tcheck_any (n : Int) (A : Option Addr) (c : Nat) (es : List E3) (hn : es.length ≤ 10000) (B : Option Addr) (d : Nat) (xs : List Int) (hm : xs.length ≤ 1048576) (w : World) (h : Reads w w.heap.size 3 A es.length (edgeCells es)) (h' : Reads w w.heap.size 1 B xs.length (ints xs)) :
  Calls Tryz.prog 70 #[.agg #[.int .i64 n, .slice A es.length c], .slice B xs.length d] w fun e w' => e = .returned (.int .i64 (treeErr n es xs)) ∧ Below w.heap.size w w' := by
 have GC := Lib.hid (fun (W : World) (hB : Below w.heap.size w W) => checked_any n A c es hn B d xs hm W ((h.below hB).more hB.size) ((h'.below hB).more hB.size))
 have g0 := Blk.new w 24 #[.int .i64 n, .slice A es.length c]
 have hb0 : Below w.heap.size w (w.alloc (.cells #[.int .i64 n, .slice A es.length c] 24)) := (Below.refl _ _).alloc (Nat.le_refl _) _
 have c0 := g0.cell 0
 have c1 := g0.cell 1
 obtain ⟨z, hzz⟩ : ∃ z, treeErr n es xs = z := ⟨_, rfl⟩
 rw [hzz] at GC ⊢
 clear hzz
 go_enter Tryz.func70, Tryz.ntmps70
 go_wp2_with fail
 refine (GC.out _ hb0).mono ?_
 rintro e w1 ⟨Ar, lr, cr, rfl, _, _, hb1⟩
 go_wp2
 go_ret
 exact ⟨rfl, hb0.trans (hb1.mono hb0.size)⟩
theorem rooted_any (n : Int) (A : Option Addr) (c : Nat) (es : List E3) (hn : es.length ≤ 1048576) (q : Int) (w : World) (h : Reads w w.heap.size 3 A es.length (edgeCells es)) :
  Calls Tryz.prog 206 #[.agg #[.int .i64 n, .slice A es.length c], .int .i64 q] w fun e w' => e = .returned (.int .i64 (rootErr n es q)) ∧ Below w.heap.size w w' := by
 have g0 := Blk.new w 24 #[.int .i64 n, .slice A es.length c]
 rcases root_cases n es q with ⟨h1, hE⟩ | ⟨h1, h2, hE⟩ | ⟨h1, h2, h3, hE⟩ | ⟨h1, h2, h3, hE⟩
 ·rw [hE]
  have GC := Lib.hid (connected_bad n A c es hn h1)
  obtain ⟨r, hr⟩ : ∃ r, checkG n es = r := ⟨_, rfl⟩
  rw [hr] at GC h1 ⊢
  have hb : (r != 0) = true := by simpa using h1
  clear hr h1 hE
  go_enter Tryz.func206, Tryz.ntmps206
  go_wp2_with fail
  refine (GC.out _ ((h.alloc (Nat.le_refl _) _).more (by simp))).mono ?_
  rintro e w1 ⟨rfl, hb1⟩
  have hbel1 : Below w.heap.size w w1 := ((Below.refl _ _).alloc (Nat.le_refl _) _).trans (hb1.mono (by simp))
  go_wp2
  go_ret
  exact ⟨rfl, hbel1⟩
 ·rw [hE]
  have hG := right_of h1
  have hlo := hG.lo
  obtain ⟨m, rfl⟩ := Int.eq_ofNat_of_zero_le (show 0 ≤ n by omega)
  have CC := Lib.hid (connected_ok m A c es hn h1)
  rw [Int.toNat_natCast] at h2
  rw [h2] at CC
  clear h1 hE hG h2
  go_enter Tryz.func206, Tryz.ntmps206
  go_wp2_with fail
  refine (CC.out _ ((h.alloc (Nat.le_refl _) _).more (by simp))).mono ?_
  rintro e w1 ⟨rfl, hb1⟩
  have hbel1 : Below w.heap.size w w1 := ((Below.refl _ _).alloc (Nat.le_refl _) _).trans (hb1.mono (by simp))
  go_wp2
  go_ret
  exact ⟨rfl, hbel1⟩
 ·rw [hE]
  have hG := right_of h1
  have hlo := hG.lo
  obtain ⟨m, rfl⟩ := Int.eq_ofNat_of_zero_le (show 0 ≤ n by omega)
  have CC := Lib.hid (connected_ok m A c es hn h1)
  rw [Int.toNat_natCast] at h2
  rw [h2] at CC
  clear h1 hE hG h2
  rw [vertB_false] at h3
  by_cases h4 : q < 0
  ·go_enter Tryz.func206, Tryz.ntmps206
   go_wp2_with fail
   refine (CC.out _ ((h.alloc (Nat.le_refl _) _).more (by simp))).mono ?_
   rintro e w1 ⟨rfl, hb1⟩
   have hbel1 : Below w.heap.size w w1 := ((Below.refl _ _).alloc (Nat.le_refl _) _).trans (hb1.mono (by simp))
   have g1 := g0.next hb1
   have c0 := g1.cell 0
   go_wp2
   go_ret
   exact ⟨rfl, hbel1⟩
  ·have h5 : (m : Int) ≤ q := by omega
   clear h3
   go_enter Tryz.func206, Tryz.ntmps206
   go_wp2_with fail
   refine (CC.out _ ((h.alloc (Nat.le_refl _) _).more (by simp))).mono ?_
   rintro e w1 ⟨rfl, hb1⟩
   have hbel1 : Below w.heap.size w w1 := ((Below.refl _ _).alloc (Nat.le_refl _) _).trans (hb1.mono (by simp))
   have g1 := g0.next hb1
   have c0 := g1.cell 0
   go_wp2
   go_ret
   exact ⟨rfl, hbel1⟩
 ·rw [hE]
  have hG := right_of h1
  have hlo := hG.lo
  obtain ⟨m, rfl⟩ := Int.eq_ofNat_of_zero_le (show 0 ≤ n by omega)
  have CC := Lib.hid (connected_ok m A c es hn h1)
  rw [Int.toNat_natCast] at h2
  rw [h2] at CC
  clear h1 hE hG h2
  rw [vertB_true] at h3
  have h4 : ¬ q < 0 := by omega
  have h5 : ¬ (m : Int) ≤ q := by omega
  clear h3
  go_enter Tryz.func206, Tryz.ntmps206
  go_wp2_with fail
  refine (CC.out _ ((h.alloc (Nat.le_refl _) _).more (by simp))).mono ?_
  rintro e w1 ⟨rfl, hb1⟩
  have hbel1 : Below w.heap.size w w1 := ((Below.refl _ _).alloc (Nat.le_refl _) _).trans (hb1.mono (by simp))
  have g1 := g0.next hb1
  have c0 := g1.cell 0
  go_wp2
  go_ret
  exact ⟨rfl, hbel1⟩
theorem scheck_any (n : Int) (A : Option Addr) (c : Nat) (es : List E3) (hn : es.length ≤ 1048576) (q : Int) (B : Option Addr) (d : Nat) (cs : List Int) (hm : cs.length ≤ 1048576) (w : World) (h : Reads w w.heap.size 3 A es.length (edgeCells es)) (h' : Reads w w.heap.size 1 B cs.length (ints cs)) :
  Calls Tryz.prog 157 #[.agg #[.int .i64 n, .slice A es.length c], .int .i64 q, .slice B cs.length d] w fun e w' => e = .returned (.int .i64 (confErr n es q cs)) ∧ Below w.heap.size w w' := by
 have GC := Lib.hid (rooted_any n A c es hn q)
 have DC := Lib.hid (dcheck_any B d cs hm n)
 have g0 := Blk.new w 24 #[.int .i64 n, .slice A es.length c]
 rcases conf_cases n es q cs with ⟨h1, hE⟩ | ⟨h1, h2, hE⟩ | ⟨h1, h2, hE⟩
 ·rw [hE]
  obtain ⟨r, hr⟩ : ∃ r, rootErr n es q = r := ⟨_, rfl⟩
  rw [hr] at GC h1 ⊢
  have hb : (r != 0) = true := by simpa using h1
  clear hr h1 hE
  go_enter Tryz.func157, Tryz.ntmps157
  go_wp2_with fail
  refine (GC.out _ ((h.alloc (Nat.le_refl _) _).more (by simp))).mono ?_
  rintro e w1 ⟨rfl, hb1⟩
  have hbel1 : Below w.heap.size w w1 := ((Below.refl _ _).alloc (Nat.le_refl _) _).trans (hb1.mono (by simp))
  go_wp2
  go_ret
  exact ⟨rfl, hbel1⟩
 ·rw [hE]
  rw [h1] at GC
  obtain ⟨r, hr⟩ : ∃ r, divErr cs n = r := ⟨_, rfl⟩
  rw [hr] at DC h2 ⊢
  have hb : (r != 0) = true := by simpa using h2
  clear hr h1 hE h2
  go_enter Tryz.func157, Tryz.ntmps157
  go_wp2_with fail
  refine (GC.out _ ((h.alloc (Nat.le_refl _) _).more (by simp))).mono ?_
  rintro e w1 ⟨rfl, hb1⟩
  have hbel1 : Below w.heap.size w w1 := ((Below.refl _ _).alloc (Nat.le_refl _) _).trans (hb1.mono (by simp))
  have g1 := g0.next hb1
  have c0 := g1.cell 0
  go_wp2_with fail
  refine (DC.out _ ((h'.below hbel1).more hbel1.size)).mono ?_
  rintro e w2 ⟨rfl, rfl⟩
  go_wp2
  go_ret
  exact ⟨rfl, hbel1⟩
 ·rw [hE]
  rw [h1] at GC
  rw [h2] at DC
  obtain ⟨r, hr⟩ : ∃ r, (if debtTo cs q cs.length then (2 : Int) else 0) = r := ⟨_, rfl⟩
  rw [hr]
  have HR := Lib.hid hr
  have hlen := (divErr_zero h2).2.1
  have hlen2 := (divErr_zero h2).2.2.1
  clear hr h1 hE h2
  go_enter Tryz.func157, Tryz.ntmps157
  go_wp2_with fail
  refine (GC.out _ ((h.alloc (Nat.le_refl _) _).more (by simp))).mono ?_
  rintro e w1 ⟨rfl, hb1⟩
  have hbel1 : Below w.heap.size w w1 := ((Below.refl _ _).alloc (Nat.le_refl _) _).trans (hb1.mono (by simp))
  have g1 := g0.next hb1
  have c0 := g1.cell 0
  have hr1 := (h'.below hbel1).more hbel1.size
  have HL := Lib.hid hlen2
  clear hlen2
  go_wp2_with fail
  refine (DC.out _ hr1).mono ?_
  rintro e w2 ⟨rfl, rfl⟩
  go_wp2
  go_loop [26] (fun i => ∃ k : Nat, k ≤ cs.length ∧ i = .int .i64 k ∧ Hid (debtTo cs q k = false)) (fun i => cs.length - (intOf i).toNat)
  case atStart => exact ⟨0, by omega, rfl, by simp [Hid, debtTo]⟩
  case round =>
   obtain ⟨k, hk, rfl, HS⟩ := hrel
   by_cases hlt : k < cs.length
   ·obtain ⟨x, hx⟩ := get_of_lt hlt
    obtain ⟨b, off, rfl, hb', hcell⟩ := hr1.at_ (ints_at hx)
    have hi : (k : Int) < (cs.length : Int) := by omega
    have hds := debtTo_succ cs q k
    rw [HS.out, getD_at hx] at hds
    have hkn : ∀ z, debtTo cs q (k + 1) = z → (z = true → r = 2) ∧ (z = false → Hid (debtTo cs q (k + 1) = false)) := fun z hz => ⟨fun e => by rw [← HR.out, if_pos (debtTo_mono (by omega) (hz.trans e))], fun e => hz.trans e⟩
    have HK := Lib.hid hkn
    clear hx h h' hkn
    by_cases h3 : (k : Int) = q
    ·have hb : ((k : Int) != q) = false := by simpa using h3
     have HN := (HK.out _ hds).2 (by simp [h3])
     clear hds HK h3
     go_wp2
     go_round
     case rel => exact ⟨k + 1, by omega, by go_num, HN⟩
     case measure => simp [intOf]; omega
    ·have hb : ((k : Int) != q) = true := by simpa using h3
     by_cases h4 : x < 0
     ·obtain rfl := (HK.out _ hds).1 (by simp [h3, h4])
      clear hds HK h3
      go_wp2
      go_ret
      exact ⟨rfl, hbel1⟩
     ·have HN := (HK.out _ hds).2 (by simp [h4])
      clear hds HK h3
      go_wp2
      go_round
      case rel => exact ⟨k + 1, by omega, by go_num, HN⟩
      case measure => simp [intOf]; omega
   ·obtain rfl : k = cs.length := by omega
    go_wp2
    go_ret
    exact ⟨ret_int (by rw [← HR.out, HS.out]; rfl), hbel1⟩
theorem bcheck_any (n : Int) (A : Option Addr) (c : Nat) (es : List E3) (hn : es.length ≤ 1048576) (q : Int) (B : Option Addr) (d : Nat) (cs : List Int) (hm : cs.length ≤ 1048576) (w : World) (h : Reads w w.heap.size 3 A es.length (edgeCells es)) (h' : Reads w w.heap.size 1 B cs.length (ints cs)) :
  Calls Tryz.prog 301 #[.agg #[.int .i64 n, .slice A es.length c], .int .i64 q, .slice B cs.length d] w fun e w' => e = .returned (.int .i64 (burnErr n es q cs)) ∧ Below w.heap.size w w' := by
 have GC := Lib.hid (scheck_any n A c es hn q B d cs hm)
 rcases burn_cases n es q cs with ⟨h1, hE⟩ | ⟨h1, h2, hE⟩ | ⟨h1, h2, hE⟩
 ·rw [hE]
  obtain ⟨r, hr⟩ : ∃ r, confErr n es q cs = r := ⟨_, rfl⟩
  rw [hr] at GC h1 ⊢
  have hb : (r != 0) = true := by simpa using h1
  clear hr h1 hE
  go_enter Tryz.func301, Tryz.ntmps301
  go_wp2_with fail
  refine (GC.out _ ((h.alloc (Nat.le_refl _) _).more (by simp)) ((h'.alloc (Nat.le_refl _) _).more (by simp))).mono ?_
  rintro e w1 ⟨rfl, hb1⟩
  have hbel1 : Below w.heap.size w w1 := ((Below.refl _ _).alloc (Nat.le_refl _) _).trans (hb1.mono (by simp))
  go_wp2
  go_ret
  exact ⟨rfl, hbel1⟩
 all_goals
  rw [hE]
  obtain ⟨_, _, hq0, hqn, hlen, _, _⟩ := conf_zero h1
  obtain ⟨v, rfl⟩ := Int.eq_ofNat_of_zero_le hq0
  rw [Int.toNat_natCast] at h2
  obtain ⟨x, hx⟩ := get_of_lt (xs := cs) (k := v) (by omega)
  rw [getD_at hx] at h2
  rw [h1] at GC
  have hi : (v : Int) < (cs.length : Int) := by omega
  have HX := Lib.hid hx
  clear h1 hE hx hlen
  go_enter Tryz.func301, Tryz.ntmps301
  go_wp2_with fail
  refine (GC.out _ ((h.alloc (Nat.le_refl _) _).more (by simp)) ((h'.alloc (Nat.le_refl _) _).more (by simp))).mono ?_
  rintro e w1 ⟨rfl, hb1⟩
  have hbel1 : Below w.heap.size w w1 := ((Below.refl _ _).alloc (Nat.le_refl _) _).trans (hb1.mono (by simp))
  obtain ⟨b, off, rfl, hb', hcell⟩ := (h'.below hbel1).at_ (ints_at HX.out)
  first
   | (have hb0 : (x != 0) = true := by simpa using h2
      clear h2
      go_wp2
      go_ret
      exact ⟨rfl, hbel1⟩)
   | (subst h2
      go_wp2
      go_ret
      exact ⟨rfl, hbel1⟩)
end Go.Proofs.YtnbikkcalcpedaaGreatDoor
