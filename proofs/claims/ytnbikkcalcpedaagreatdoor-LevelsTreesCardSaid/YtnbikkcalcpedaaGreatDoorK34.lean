/-
 Texts of this claim, put together: RAll, Sup3, RAct31, RTop, RMin, RListP, DualE, RMinimal.
-/
import Derived.Test.YtnbikkcalcpedaaGreatDoorK33
import Derived.Test.YtnbikkcalcpedaaGreatDoorK25
import Derived.Test.YtnbikkcalcpedaaGreatDoorK22
import Derived.Laws.EntriesVeiled
import Derived.Test.YtnbikkcalcpedaaGreatDoorK08
import Derived.Test.YtnbikkcalcpedaaGreatDoorK30
import Derived.Test.YtnbikkcalcpedaaGreatDoorK32
import Derived.Test.YtnbikkcalcpedaaGreatDoorK27
import Derived.Deep.RegionHeld3
import Derived.Deep.CutRange
import Derived.Test.YtnbikkcalcpedaaGreatDoorK07
import Derived.Test.YtnbikkcalcpedaaGreatDoorK29
import Derived.Test.YtnbikkcalcpedaaGreatDoorK21
import Derived.Test.YtnbikkcalcpedaaGreatDoorK12
set_option maxRecDepth 100000
set_option maxHeartbeats 8000000
namespace Go.Proofs.YtnbikkcalcpedaaGreatDoor
open Go.RowKit Go.Shelf
attribute [local go_sem] Oper.semAt_some
def recsL (n : Nat) (es : List E3) (q : Nat) : List (List Int) := enumR (recP n es q) (maxL n es q) n n (maxL n es q)
theorem maxL_length (n : Nat) (es : List E3) (q : Nat) : (maxL n es q).length = n := by simp [maxL, maxTo]
theorem maxL_get {n q v : Nat} {es : List E3} (hok : ∀ e ∈ es, okE n e) (hv : v < n) : (maxL n es q).getD v 0 = if v = q then 0 else valE es v - 1 := by
 unfold maxL maxTo
 rw [List.getD_eq_getElem?_getD]
 simp only [List.getElem?_map, List.getElem?_range hv, Option.map_some, Option.getD_some]
 by_cases h : v = q
 ·rw [if_neg (fun e => e.2 h), if_pos h]
 ·rw [if_pos ⟨hv, h⟩, if_neg h, valL_val hok]
theorem maxL_sink {n q : Nat} {es : List E3} : (maxL n es q).set q 0 = maxL n es q := by
 apply List.ext_getElem?
 intro i
 by_cases hi : q = i
 ·subst hi
  unfold maxL maxTo
  by_cases h : q < n
  ·rw [List.getElem?_set_self (by simpa using h)]; simp [h]
  ·rw [List.getElem?_eq_none (by simp; omega), List.getElem?_eq_none (by simp; omega)]
 ·rw [List.getElem?_set_ne hi]
theorem maxL_fix {n q : Nat} {es : List E3} (hlen : es.length ≤ 10000) (hx : rootErr n es q = 0) : RFix n q es (maxL n es q) := by
 obtain ⟨hz, hG, hC, hq⟩ := root_zero hx
 refine ⟨hlen, hz, hq, maxL_length n es q, fun x hm => ?_⟩
 obtain ⟨i, hi⟩ := List.getElem?_of_mem hm
 have hin : i < n := by have := (List.getElem?_eq_some_iff.1 hi).1; rw [maxL_length] at this; exact this
 have h1 := maxL_get (q := q) hG.ok hin
 rw [getD_at hi] at h1
 have h2 := valE_bd hG.ok i
 rw [h1]
 split
 ·omega
 ·rename_i h
  have := val_pos hG hC hin hq h
  omega
theorem rall_ok (n : Nat) (A : Option Addr) (cA : Nat) (es : List E3) (hlen : es.length ≤ 10000) (q : Nat) (hx : rootErr n es q = 0) (xss : List (List Int)) (hxs : recsL n es q = xss) (hxl : xss.length ≤ 16384) (w : World) (h : Reads w w.heap.size 3 A es.length (edgeCells es)) :
  Calls Tryz.prog 89 #[.agg #[.int .i64 n, .slice A es.length cA], .int .i64 q] w fun e w' => ∃ Ar cr vs, e = .returned (.tuple #[.slice Ar xss.length cr, .int .i64 0]) ∧ OwnDivs w' w.heap.size Ar cr vs xss ∧ Below w.heap.size w w' := by
 obtain ⟨hz, hG, hC, hq⟩ := root_zero hx
 have hn12 : n ≤ 12 := by have := hG.hi; omega
 have FI := Lib.hid (maximal_ok n A cA es hlen q hx)
 have HFX := Lib.hid (maxL_fix hlen hx)
 have HX := Lib.hid hxs
 obtain ⟨top, htop⟩ : ∃ top, maxL n es q = top := ⟨_, rfl⟩
 have hsk := maxL_sink (n := n) (q := q) (es := es)
 have hX2 : enumR (recP n es q) top n n top = xss := by rw [← htop]; exact hxs
 have HX := Lib.hid hX2
 rw [htop] at FI HFX hsk
 have HSK := Lib.hid hsk
 have htl : top.length = n := HFX.out.htl
 have HTL := Lib.hid htl
 have DC := Lib.hid (fun (A' : Option Addr) (c' : Nat) (W : World) (hr : Reads W W.heap.size 1 A' n (ints top)) => by have := dclone_any A' c' top (by omega) W (by rw [htl]; exact hr); rw [htl] at this; exact this)
 have hqi : (q : Int) < (n : Int) := by omega
 clear hxs hx hG hC htop hsk hX2 htl hz
 have g0 := Blk.new w 24 #[.int .i64 n, .slice A es.length cA]
 refine (callsIn_wide (n := 3)).1 ?_
 refine callsIn_of_wp_marks Tryz.func89 rfl trivial ?_
 simp only [Tryz.ntmps89, List.size_toArray, List.length_cons, List.length_nil, Nat.reduceAdd, Nat.reduceSub, Array.replicate_succ, Array.replicate_zero, List.push_toArray, List.append_toArray, List.nil_append, List.cons_append]
 gi_wp2_with fail
 obtain ⟨w0, hw0⟩ : ∃ w0, ((w.alloc (.cells #[.int .i64 n, .slice A es.length cA] 24)).alloc (.cells #[.slice none 0 0] 121)).alloc (.cells #[.int .i64 0] 29) = w0 := ⟨_, rfl⟩
 have hs0 : w0.heap.size = w.heap.size + 3 := by rw [← hw0]; simp
 have hB0 : Below w.heap.size w w0 := by rw [← hw0]; exact (((Below.refl _ _).alloc (Nat.le_refl _) _).alloc (by simp) _).alloc (by simp; omega) _
 have rg : Blk w0 w.heap.size 24 #[.int .i64 n, .slice A es.length cA] := by rw [← hw0]; exact (g0.alloc _).alloc _
 have r1 : Blk w0 (w.heap.size + 1) 121 #[.slice none 0 0] := by rw [← hw0]; exact (Blk.new_at (by simp)).alloc _
 have r2 : Blk w0 (w.heap.size + 2) 29 #[.int .i64 0] := by rw [← hw0]; exact Blk.new_at (by simp)
 rw [hw0]
 refine ⟨trivial, ?_⟩
 refine (inW (FI.out _ ((h.below hB0).more hB0.size))).mono ?_
 rintro e w1 ⟨Am, cm, rfl, hom, hb1⟩
 have hs1 := hb1.size
 have g1 := rg.next hb1
 have hB1 : Below w.heap.size w w1 := hB0.trans (hb1.mono hB0.size)
 have r1' := r1.next hb1
 have r2' := r2.next hb1
 have hmr := hom.reads
 rw [HTL.out] at hmr
 clear hw0 rg r1 r2 hb1 FI g0 hB0
 gi_wp2_with fail
 refine ⟨trivial, ?_⟩
 refine (inW (DC.out Am cm _ hmr)).mono ?_
 rintro e w2 ⟨AT, cT, rfl, hoT, hb2⟩
 have hs2 := hb2.size
 have g2 := g1.next hb2
 have hB2 := hB1.trans (hb2.mono hB1.size)
 have r1 := r1'.next hb2
 have r2 := r2'.next hb2
 obtain ⟨gT, hAT, hgT, hfr, hce⟩ := hoT.block (by rw [HTL.out]; omega)
 subst hAT
 obtain ⟨x0, hx0⟩ := get_of_lt (xs := top) (k := q) (by rw [HTL.out]; exact hq)
 have c0 := hce q x0 hx0
 have f0 := hfr q
 have O3 := hoT.put q 0
 rw [HSK.out] at O3
 have hgn : gT ≠ w.heap.size ∧ gT ≠ w.heap.size + 1 ∧ gT ≠ w.heap.size + 2 := by omega
 have g3 := g2.far (p := ⟨gT, q, none⟩) (fun e => hgn.1 e.symm) (.int .i64 0)
 have r13 := r1.far (p := ⟨gT, q, none⟩) (fun e => hgn.2.1 e.symm) (.int .i64 0)
 have r23 := r2.far (p := ⟨gT, q, none⟩) (fun e => hgn.2.2 e.symm) (.int .i64 0)
 have hB3 := hB2.setCell (p := ⟨gT, q, none⟩) (by show w.heap.size ≤ gT; omega) (.int .i64 0)
 obtain ⟨w3, hw3⟩ : ∃ w3, w2.setCell ⟨gT, q, none⟩ (.int .i64 0) = w3 := ⟨_, rfl⟩
 have hs3 : w3.heap.size = w2.heap.size := by rw [← hw3]; simp [World.setCell]
 rw [hw3] at g3 r13 r23 hB3 O3
 have hgs : gT < w3.heap.size := by have := (hoT.lt gT (blockOf_own.2 ⟨_, rfl, rfl⟩)).2; omega
 have c1 := (g3.alloc (.cells #[.slice none 0 0] 121)).cell 0
 have c2 := (g3.alloc (.cells #[.slice none 0 0] 121)).cell 1
 have c3 := g3.cell 0
 have c4 := g3.cell 1
 have O3 := Lib.hid O3
 clear g1 g2 r1' r2' r1 r2 hb2 hmr hom hce hfr hoT hx0
 gi_wp2_with fail
 refine ⟨trivial, ?_⟩
 obtain ⟨p, hp⟩ : ∃ p, w2.heap.size = p := ⟨_, rfl⟩
 rw [hp] at hs3 ⊢
 have hgn4 : (w3.alloc (.cells #[.slice none 0 0] 121)).heap.size = p + 1 := by simp [hs3]
 refine (inW (frecs_any n es.length cA A q (some ⟨gT, 0, none⟩) n cT 0 (some ⟨gT, 0, none⟩) n cT _)).mono ?_
 rintro e wF ⟨rfl, hwF⟩
 have hsF : wF.heap.size = p + 4 := by rw [← hwF]; simp [hs3]
 have hB12 : Below w3.heap.size w3 wF := by rw [← hwF]; exact ((((Below.refl _ _).alloc (Nat.le_refl _) _).alloc (by simp) _).alloc (by simp; omega) _).alloc (by simp; omega) _
 have q0 : Blk wF p 121 #[.slice none 0 0] := by rw [← hwF]; exact (((Blk.new_at hs3.symm).alloc _).alloc _).alloc _
 have hpz : w.heap.size + 3 ≤ p := by omega
 have hB2 : Below w.heap.size w wF := hB3.trans (hB12.mono hB3.size)
 have s1 := r13.next hB12
 have s2 := r23.next hB12
 have h2 := (h.below hB2).more hB2.size
 have RW : Hid (RecW wF n q 0 (p + 1) (p + 2) (p + 3) es A cA (some ⟨gT, 0, none⟩) cT (some ⟨gT, 0, none⟩) cT top top) := by
  have hr := (O3.out.next hB12).reads
  rw [HTL.out] at hr
  refine ⟨?_, ?_, ?_, h2, hr, hr⟩
  ·rw [← hwF]; exact ((Blk.new_at hgn4.symm).alloc _).alloc _
  ·rw [← hwF]; exact (Blk.new_at (by simp [hs3])).alloc _
  ·rw [← hwF]; exact Blk.new_at (by simp [hs3])
 have hps3 : w.heap.size + 3 ≤ p := hpz
 have hgT : gT < p := by omega
 rw [hgn4]
 clear hwF c0 c1 c2 c3 c4 f0 r13 r23 hB12 hB1 hB3 g3 hw3 hs0 hs1 hs2
 have hAlt : ∀ k, es.length ≠ 0 → blockOf A k → k < w.heap.size := fun k hne ⟨ad, hA, hk⟩ => by
  obtain ⟨b, off, e, hb, _⟩ := h.2 (by omega)
  rw [e] at hA; injection hA with hA; subst hA; subst hk; exact hb
 have hTb : ∀ k, blockOf (some (⟨gT, 0, none⟩ : Addr)) k → k = gT := fun k ⟨ad, hA, hk⟩ => by injection hA with hA; subst hA; exact hk.symm
 gi_wp2_with fail
 refine range_outer (n := 3) (gf := 208) (lb := #[.pointer (some ⟨p + 1, 0, none⟩), .pointer (some ⟨p + 2, 0, none⟩), .pointer (some ⟨p + 3, 0, none⟩)]) rfl (enters_of Tryz.func208 (by kernel_rfl) rfl)
  (K := KR (p + 1) (p + 2) (p + 3) es A (some ⟨gT, 0, none⟩) (some ⟨gT, 0, none⟩)) (xs := xss)
  (by rw [← HX.out]; exact recs_iter n q es top HFX.out n top HTL.out (fun x hx => by have := HFX.out.htb x hx; omega) 0 (by omega) (p + 1) (p + 2) (p + 3) A cA _ cT _ cT wF RW.out) ?hK (fun k => k = p) ?hC
  (fun pre C W => ∃ A c vs, Blk W p 121 #[.slice A pre.length c] ∧ OwnDivs W w.heap.size A c vs pre ∧ C p ∧ (∀ k, rowBlock A vs k → C k) ∧ Below w.heap.size w W ∧
   Blk W (w.heap.size + 1) 121 #[.slice none 0 0] ∧ Blk W (w.heap.size + 2) 29 #[.int .i64 0] ∧ (∀ k, C k → k = p ∨ p + 4 ≤ k))
  (fun _ _ _ _ => False) ?hI (fun _ _ _ _ _ h _ => h) ?h0 ?hps ?round ?done (fun _ _ _ _ _ h => h.elim)
 case hK =>
  rintro k (rfl | rfl | rfl | ⟨h1, h2⟩ | h1 | h1)
  ·omega
  ·omega
  ·omega
  ·have := hAlt k h1 h2; omega
  ·have := hTb k h1; omega
  ·have := hTb k h1; omega
 case hC =>
  rintro k rfl
  refine ⟨by omega, ?_⟩
  rintro (e | e | e | ⟨h1, h2⟩ | h1 | h1)
  ·omega
  ·omega
  ·omega
  ·have := hAlt k h1 h2; omega
  ·have := hTb k h1; omega
  ·have := hTb k h1; omega
 case hI =>
  rintro pre C a b ⟨A, c, vs, i1, i2, i3, i4, i5, i6, i7, i8⟩ hst
  refine ⟨A, c, vs, i1.stays hst (.inl i3), i2.kept fun k hk => hst.block k (i2.lt hk).2 (.inl (i4 k hk)), i3, i4, i5.trans (hst.below (fun k hk => .inr ⟨by omega, id⟩) i5.size), i6.stays hst (.inr ⟨by omega, id⟩), i7.stays hst (.inr ⟨by omega, id⟩), i8⟩
 case h0 => exact ⟨none, 0, [], q0, OwnDivs.nil_ _ _, rfl, (by rintro k (⟨a, h, _⟩ | ⟨v, h, _⟩) <;> cases h), hB2, s1, s2, fun k hk => .inl hk⟩
 case hps => rintro x' args O W' ⟨A', c', rfl, _⟩; rfl
 case round =>
  intro l pre x args C O W hpre hI hl hC hO harg hlW hnC hnO T hT
  obtain ⟨A, c, vs, i1, i2, i3, i4, i5, i6, i7, i8⟩ := hI
  obtain ⟨A8, c8, rfl, hown8, hO8⟩ := harg
  have hown8' : OwnI W w.heap.size A8 c8 x := own_rebase hown8 fun k hk => by have := (hO k (hO8 k hk)).2.2; omega
  have hpl : pre.length < 16384 := by
   obtain ⟨z, hz⟩ := hpre
   have := congrArg List.length hz
   simp at this
   omega
  have hpe : ((pre.length : Int) == 16384) = false := by simp; omega
  clear hown8
  gi_wp2
  refine hT _ _ (Only.refl _ _) ?_
  intro w5 h5 _
  have hl5 : ∀ k, C k → k ≠ l := fun k hk e => hnC (e ▸ hk)
  have j1 : Blk w5 p 121 #[.slice A pre.length c] := i1.only h5 (by omega)
  have j2 : OwnDivs w5 w.heap.size A c vs pre := i2.kept fun k hk => h5.block k (i2.lt hk).2 (hl5 k (i4 k hk))
  have j5 : Below w.heap.size w w5 := i5.trans (h5.below (fun k hk e => by omega) i5.size)
  have j6 := i6.only h5 (by omega)
  have j7 := i7.only h5 (by omega)
  have j8 : OwnI w5 w.heap.size A8 c8 x := own_kept hown8' fun k hk => h5.block k (own_lt hown8' hk).2 fun e => hnO (e ▸ hO8 k hk)
  have e1 := j1.cell 0
  have hC5 : ∀ k, C k → k < w5.heap.size := fun k hk => Nat.lt_of_lt_of_le (hC k hk) h5.size
  have hO5 : ∀ k, O k → p + 4 ≤ k ∧ k < w5.heap.size := fun k hk => ⟨by have := (hO k hk).2.2; omega, Nat.lt_of_lt_of_le (hO k hk).2.1 h5.size⟩
  clear i1 i2 i5 i6 i7 hown8' hC hO
  gi_wp2_with (gi_at_builtin; refine append_gi rfl (.tmp 34) (.tmp 36) _ rfl w.heap.size 53 Tryz.underlying121 info_divs rfl (by omega) A c pre.length vs rfl (World.ownsRow.alloc j2.1 _) _ [.slice A8 x.length c8] rfl (Reads.box _ _ _) (by simp [Value.oneCell']) (by omega) (by have := j5.size; simp; omega) ?_; intro A6 c6 w6 hown6 hg6 hb6 hw6; have k1 := (j1.alloc (.cells #[.slice A8 x.length c8] 53)).grown hg6 (own_blk_ne j2.1 j1 (by decide)); have e2 := k1.cell 0; have f2 := k1.frozen 0)
  have k2 : OwnDivs w6 w.heap.size A6 c6 (vs ++ [.slice A8 x.length c8]) (pre ++ [x]) := OwnDivs.push (j2.kept fun k hk => Below.heap_alloc _ _ _ (j2.lt hk).2) (OwnI.alloc j8 _) hown6 hg6
  have k3 : Only (fun k => C k ∨ O k) w5 w6 := ((Only.refl _ w5).alloc _).grown hg6 fun k hk => .inl (.inl (i4 k (.inl (blockOf_own.1 hk))))
  refine ⟨fun k => C k ∨ O k ∨ (w5.heap.size ≤ k ∧ k < w6.heap.size), k3.setCell (.inl (.inl i3)) _, fun k hk => ?_, A6, c6, vs ++ [.slice A8 x.length c8], ?_, ?_, .inl i3, ?_, ?_, ?_, ?_, ?_⟩
  ·simpa [World.setCell] using hk
  ·have := k1.set_ 0 (.slice A6 (pre.length + 1) c6)
   simpa using this
  ·exact k2.set_blk k1 (by decide) (by decide) _ _
  ·rintro k (hk | ⟨v, hv, hk⟩)
   ·rcases hw6 with e | e
    ·rw [blockOf_own.2 hk] at e
     exact .inl (i4 k (.inl (blockOf_own.1 e.symm)))
    ·rw [blockOf_own.2 hk] at e
     injection e with e
     have hlt := (own_lt hown6 hk).2
     exact .inr (.inr ⟨by rw [e]; simp, hlt⟩)
   ·rcases List.mem_append.1 hv with hv | hv
    ·exact .inl (i4 k (.inr ⟨v, hv, hk⟩))
    ·rw [List.mem_singleton.1 hv] at hk
     exact .inr (.inl (hO8 k (blockOf_own.1 hk)))
  ·exact (j5.trans (k3.below (fun k hk e => by
    rcases e with e | e
    ·have := i8 k e; omega
    ·have := (hO5 k e).1; omega) j5.size)).setCell (by show w.heap.size ≤ p; omega) _
  ·exact (j6.only k3 (fun e => by
    rcases e with e | e
    ·have := i8 _ e; omega
    ·have := (hO5 _ e).1; omega)).far (by show w.heap.size + 1 ≠ p; omega) _
  ·exact (j7.only k3 (fun e => by
    rcases e with e | e
    ·have := i8 _ e; omega
    ·have := (hO5 _ e).1; omega)).far (by show w.heap.size + 2 ≠ p; omega) _
  ·rintro k (hk | hk | hk)
   ·exact i8 k hk
   ·exact .inr (hO5 k hk).1
   ·exact .inr (by have := h5.size; omega)
 case done =>
  rintro C W ⟨A, c, vs, i1, i2, i3, i4, i5, i6, i7, i8⟩ hnD hD
  have e1 := i1.cell 0
  have e4 := i6.cell 0
  have e5 := i7.cell 0
  have f4 := i6.frozen 0
  have f5 := i7.frozen 0
  gi_wp2
  have g1 : Blk ((W.setCell ⟨w.heap.size + 1, 0, none⟩ (.slice A xss.length c)).setCell ⟨w.heap.size + 2, 0, none⟩ (.int .i64 0)) (w.heap.size + 1) 121 #[.slice A xss.length c] := by
   have := (i6.set_ 0 (.slice A xss.length c)).far (p := ⟨w.heap.size + 2, 0, none⟩) (by simp) (.int .i64 0)
   simpa using this
  have g2 : Blk ((W.setCell ⟨w.heap.size + 1, 0, none⟩ (.slice A xss.length c)).setCell ⟨w.heap.size + 2, 0, none⟩ (.int .i64 0)) (w.heap.size + 2) 29 #[.int .i64 0] := by
   have := (i7.far (p := ⟨w.heap.size + 1, 0, none⟩) (by simp) (.slice A xss.length c)).set_ 0 (.int .i64 0)
   simpa using this
  have g3 : OwnDivs ((W.setCell ⟨w.heap.size + 1, 0, none⟩ (.slice A xss.length c)).setCell ⟨w.heap.size + 2, 0, none⟩ (.int .i64 0)) w.heap.size A c vs xss :=
   (i2.set_blk i6 (by decide) (by decide) 0 _).set_blk (i7.far (p := ⟨w.heap.size + 1, 0, none⟩) (by simp) _) (by decide) (by decide) 0 _
  have g4 : Below w.heap.size w ((W.setCell ⟨w.heap.size + 1, 0, none⟩ (.slice A xss.length c)).setCell ⟨w.heap.size + 2, 0, none⟩ (.int .i64 0)) := (i5.setCell (by simp) _).setCell (by simp) _
  have g5 : ((W.setCell ⟨w.heap.size + 1, 0, none⟩ (.slice A xss.length c)).setCell ⟨w.heap.size + 2, 0, none⟩ (.int .i64 0)).heap[wF.heap.size]? = some (.deferred (some [])) :=
   (Below.heap_setCell _ _ _ _ (by simp; omega)).trans ((Below.heap_setCell _ _ _ _ (by simp; omega)).trans hD)
  have g6 : ∀ k, rowBlock A vs k → k ≠ wF.heap.size := fun k hk e => hnD (e ▸ i4 k hk)
  obtain ⟨Wf, hWf⟩ : ∃ Wf, (W.setCell ⟨w.heap.size + 1, 0, none⟩ (.slice A xss.length c)).setCell ⟨w.heap.size + 2, 0, none⟩ (.int .i64 0) = Wf := ⟨_, rfl⟩
  rw [hWf] at g1 g2 g3 g4 g5
  have p1 := Only.put_one Wf wF.heap.size (.deferred none)
  have p2 := (g1.only p1 (by omega)).cell 0
  have p3 := (g2.only p1 (by omega)).cell 0
  rw [show w.heap.size + 1 + 1 = w.heap.size + 2 from rfl, hWf]
  refine end_mark (v := .tuple #[.slice A xss.length c, .int .i64 0]) g5 (by simp [results, Tryz.results89, go_sem, p2, p3]) ⟨A, c, vs, rfl, g3.kept fun k hk => p1.block k (g3.lt hk).2 (g6 k hk), g4.trans (p1.below (fun k hk e => by omega) g4.size)⟩
end Go.Proofs.YtnbikkcalcpedaaGreatDoor
namespace Go.Proofs.YtnbikkcalcpedaaGreatDoor
open Go.RowKit Go.Shelf
attribute [local go_sem] Oper.semAt_some
def supL (n : Nat) (es : List E3) (q : Nat) : List (List Int) := enumF n q (calmB n es q) n (List.replicate n 0)
end Go.Proofs.YtnbikkcalcpedaaGreatDoor
namespace Go.Proofs.YtnbikkcalcpedaaGreatDoor
open Go.RowKit
theorem valE_at {n v : Nat} {es : List E3} (hok : ∀ e ∈ es, okE n e) (hv : v < n) : (valL n (endsL es))[v]? = some (valE es v) := by
 have hl := (valL_bd n (endsL es)).1
 obtain ⟨x, hx⟩ := get_of_lt (xs := valL n (endsL es)) (k := v) (by rw [hl]; exact hv)
 have := valL_val (n := n) hok (v := v)
 rw [getD_at hx] at this
 rw [hx, this]
theorem rtop_any (n : Nat) (A : Option Addr) (c : Nat) (es : List E3) (hlen : es.length ≤ 10000) (hG : RightG n es) (q : Nat) (w : World) (h : Reads w w.heap.size 3 A es.length (edgeCells es)) :
  Calls Tryz.prog 205 #[.agg #[.int .i64 n, .slice A es.length c], .int .i64 q] w fun e w' => ∃ Am cm, e = .returned (.slice Am n cm) ∧ OwnI w' w.heap.size Am cm (maxL n es q) ∧ Below w.heap.size w w' := by
 have hn : n ≤ 12 := by have := hG.hi; omega
 have g0 := Blk.new w 24 #[.int .i64 n, .slice A es.length c]
 have B0 : Below w.heap.size w (w.alloc (.cells #[.int .i64 n, .slice A es.length c] 24)) := (Below.refl _ _).alloc (Nat.le_refl _) _
 have c0 := g0.cell 0
 have hmd := make_div n (by omega)
 have VC := Lib.hid (fun (v : Nat) (W : World) (hB : Below w.heap.size w W) => val08_any n A c es hlen hG v W ((h.below hB).more hB.size))
 have HV := Lib.hid (fun (v : Nat) (hv : v < n) => valE_at hG.ok hv)
 have HVB := Lib.hid (fun v : Nat => valE_bd hG.ok v)
 have O1 := Blk.new (w.alloc (.cells #[.int .i64 n, .slice A es.length c] 24)) 3 (ints (List.replicate n 0)).toArray
 have hs1 : (w.alloc (.cells #[.int .i64 n, .slice A es.length c] 24)).heap.size = w.heap.size + 1 := by simp
 rw [hs1] at O1
 have g1 := g0.alloc (.cells (ints (List.replicate n 0)).toArray 3)
 have B1 := B0.alloc (by simp) (.cells (ints (List.replicate n 0)).toArray 3)
 have HM : Hid (maxTo n (valL n (endsL es)) q n = maxL n es q) := rfl
 obtain ⟨val, hval⟩ : ∃ val, valL n (endsL es) = val := ⟨_, rfl⟩
 rw [hval] at HV HM
 clear hG hval
 go_enter Tryz.func205, Tryz.ntmps205
 go_wp2_with fail
 go_loopw [6] (fun i wl => ∃ v : Nat, v ≤ n ∧ i = .int .i64 v ∧ Blk wl (w.heap.size + 1) 3 (intCells (maxTo n val q v)) ∧ Blk wl w.heap.size 24 #[.int .i64 n, .slice A es.length c] ∧ Below w.heap.size w wl) (fun i _ => n - (intOf i).toNat)
 case atStart => exact ⟨0, by omega, rfl, by rw [maxTo_zero]; exact O1, g1, B1⟩
 case round =>
  obtain ⟨v, hv, rfl, O7, G7, hB7⟩ := hrel
  clear O1 g1 B1 g0 B0 c0
  have hs7 := hB7.size
  have c0 := G7.cell 0
  have c1 := G7.cell 1
  by_cases hlv : v < n
  ·have hi : (v : Int) < (n : Int) := by omega
   by_cases hvq : v = q
   ·have hne2 : ((v : Int) != (q : Int)) = false := by simp [hvq]
    subst hvq
    have hms := Lib.hid (maxTo_sink n val v)
    go_wp2
    go_roundw
    case rel => exact ⟨v + 1, by omega, by go_num, by rw [hms.out]; exact O7, G7, hB7⟩
    case measure => simp [intOf]; omega
   ·have hne2 : ((v : Int) != (q : Int)) = true := by rw [bne_iff_ne]; omega
    have hms := Lib.hid (maxTo_succ n val q v hvq _ (HV.out v hlv))
    obtain ⟨y, hy⟩ := get_of_lt (xs := maxTo n val q v) (k := v) (by rw [maxTo_length]; exact hlv)
    have HY := Lib.hid hy
    have VC1 := Lib.hid (VC.out v wr hB7)
    have hvb := HVB.out v
    obtain ⟨x, hx⟩ : ∃ x, valE es v = x := ⟨_, rfl⟩
    rw [hx] at VC1 hms hvb
    clear hy hx
    go_wp2_with fail
    refine (VC1.out).mono ?_
    rintro e w5 ⟨rfl, hb5⟩
    have O5 := O7.next hb5
    have G5 := G7.next hb5
    have B5 := hB7.trans (hb5.mono hs7)
    have hs5 := B5.size
    have co := (O5.cell v).trans (intCells_get HY.out)
    have cf := O5.frozen v
    have O8 := O5.set_ v (.int .i64 (x - 1))
    rw [intCells_set, ← hms.out] at O8
    have G8 := G5.far (p := ⟨w.heap.size + 1, v, none⟩) (by simp) (.int .i64 (x - 1))
    have B8 := B5.setCell (p := ⟨w.heap.size + 1, v, none⟩) (by simp) (.int .i64 (x - 1))
    have HO8 := Lib.hid O8
    clear O8 O7 G7 hb5
    go_wp2
    go_roundw
    case rel => exact ⟨v + 1, by omega, by go_num, HO8.out, G8, B8⟩
    case measure => simp [intOf]; omega
  ·obtain rfl : v = n := by omega
   go_wp2
   go_ret
   refine ⟨_, _, rfl, ?_, hB7⟩
   have hl := maxTo_length v val q v
   have := OwnI.of_blk O7 (show w.heap.size ≤ w.heap.size + 1 by omega) (by rw [hl]; simp [maxLen]; omega)
   rw [hl] at this
   rw [← HM.out]
   exact this
theorem bel_mem {top : List Int} : ∀ v, ∀ p ∈ belL top v, p.length = v ∧ ∀ i, i < v → 0 ≤ p.getD i 0 ∧ p.getD i 0 ≤ top.getD i 0
 | 0, p, h => by simp [belL] at h; subst h; exact ⟨rfl, fun i hi => by omega⟩
 | v + 1, p, h => by
   rw [belL, List.mem_flatMap] at h
   obtain ⟨x, hx, h⟩ := h
   rw [List.mem_map] at h
   obtain ⟨k, hk, rfl⟩ := h
   have hk := List.mem_range.1 hk
   obtain ⟨h1, h2⟩ := bel_mem v x hx
   refine ⟨by simp [h1], fun i hi => ?_⟩
   by_cases hiv : i < v
   ·rw [List.getD_eq_getElem?_getD, List.getElem?_append_left (by omega), ← List.getD_eq_getElem?_getD]
    exact h2 i hiv
   ·obtain rfl : i = v := by omega
    have e : (x ++ [(k : Int)]).getD i 0 = k := by rw [List.getD_eq_getElem?_getD, List.getElem?_append_right (by omega), h1]; simp
    rw [e]
    omega
section
variable {n q : Nat} {es : List E3}
theorem maxL_stab (hG : RightG n es) {y : List Int} (h : ∀ i, i < n → y.getD i 0 ≤ (maxL n es q).getD i 0) : stabTo es y q n = true := by
 rw [stabTo_iff]
 intro v hv hvq
 have h1 := h v hv
 rw [maxL_get hG.ok hv, if_neg hvq] at h1
 omega
theorem recsL_bel (hG : RightG n es) (hq : q < n) : recsL n es q = (belL (maxL n es q) n).filter (recP n es q) := by
 unfold recsL
 refine enum_bel (fun x y _ h1 h2 hr => ?_) (maxL_length n es q)
 exact recB_mono hG hq h1 (maxL_stab hG h2) hr
theorem recsL_mem (hG : RightG n es) (hq : q < n) {xs : List Int} (h : xs ∈ recsL n es q) : xs.length = n ∧ recB n es xs q = true ∧ ∀ i, i < n → 0 ≤ xs.getD i 0 ∧ xs.getD i 0 ≤ (maxL n es q).getD i 0 := by
 rw [recsL_bel hG hq, List.mem_filter] at h
 obtain ⟨h1, h2⟩ := bel_mem n xs h.1
 exact ⟨h1, h.2, h2⟩
theorem recsL_bd (hx : rootErr n es q = 0) (hlen : es.length ≤ 10000) {xs : List Int} (h : xs ∈ recsL n es q) : xs.length = n ∧ ∀ x ∈ xs, -1048575 ≤ x ∧ x ≤ 1048577 := by
 obtain ⟨_, hG, _, hq⟩ := root_zero hx
 obtain ⟨h1, _, h2⟩ := recsL_mem hG hq h
 have hF := maxL_fix hlen hx
 refine ⟨h1, fun x hxm => ?_⟩
 obtain ⟨i, hi⟩ := List.getElem?_of_mem hxm
 have hin : i < n := by have := (List.getElem?_eq_some_iff.1 hi).1; omega
 have h3 := h2 i hin
 rw [getD_at hi] at h3
 obtain ⟨t, ht⟩ := get_of_lt (xs := maxL n es q) (k := i) (by rw [maxL_length]; exact hin)
 have h4 := hF.htb t (List.mem_of_getElem? ht)
 rw [getD_at ht] at h3
 omega
end
end Go.Proofs.YtnbikkcalcpedaaGreatDoor
namespace Go.Proofs.YtnbikkcalcpedaaGreatDoor
open Go.RowKit
def trnTo (n : Nat) (top cs : List Int) (k : Nat) : List Int := (List.range n).map fun v : Nat => if v < k then top.getD v 0 - cs.getD v 0 else top.getD v 0
theorem trnTo_length (n : Nat) (top cs : List Int) (k : Nat) : (trnTo n top cs k).length = n := by simp [trnTo]
theorem trnTo_zero {n : Nat} {top : List Int} (cs : List Int) (h : top.length = n) : trnTo n top cs 0 = top := by
 apply List.ext_getElem?
 intro i
 unfold trnTo
 by_cases hi : i < n
 ·simp [hi, h]
 ·simp [hi, h]
theorem trnTo_at {n v : Nat} {top cs : List Int} (hv : v < n) {x : Int} (hx : top[v]? = some x) : (trnTo n top cs v)[v]? = some x := by
 unfold trnTo
 simp [hv, hx]
theorem trnTo_succ {n k : Nat} {top cs : List Int} {x y : Int} (hx : top[k]? = some x) (hy : cs[k]? = some y) : trnTo n top cs (k + 1) = (trnTo n top cs k).set k (x - y) := by
 apply List.ext_getElem?
 intro i
 unfold trnTo
 by_cases hi : i < n
 ·by_cases h : i = k
  ·subst h
   rw [List.getElem?_set_self (by simpa using hi)]
   simp [hi, hx, hy]
  ·rw [List.getElem?_set_ne (fun e => h e.symm)]
   simp only [List.getElem?_map, List.getElem?_range hi, Option.map_some]
   by_cases h2 : i < k
   ·rw [if_pos h2, if_pos (by omega)]
   ·rw [if_neg h2, if_neg (by omega)]
 ·rw [List.getElem?_eq_none (by simp; omega), List.getElem?_eq_none (by simp; omega)]
theorem trn_dul {n q : Nat} {es : List E3} {cs : List Int} (hok : ∀ e ∈ es, okE n e) (h0 : cs.getD q 0 = 0) : trnTo n (maxL n es q) cs n = dulL n es cs q := by
 unfold trnTo dulL dulTo
 apply List.map_congr_left
 intro v hv
 have hv := List.mem_range.1 hv
 rw [if_pos hv, maxL_get hok hv]
 by_cases h : v = q
 ·rw [if_pos h, if_neg (fun e => e.2 h), h, h0]; rfl
 ·rw [if_neg h, if_pos ⟨hv, h⟩]
theorem maxL_bd {n q : Nat} {es : List E3} (hlen : es.length ≤ 10000) (hok : ∀ e ∈ es, okE n e) : ∀ x ∈ maxL n es q, -1 ≤ x ∧ x ≤ 1000000 := fun x hx => by
 obtain ⟨i, hi⟩ := List.getElem?_of_mem hx
 have hin : i < n := by have := (List.getElem?_eq_some_iff.1 hi).1; rw [maxL_length] at this; exact this
 have h1 := maxL_get (q := q) hok hin
 rw [getD_at hi] at h1
 have h2 := valE_bd hok i
 rw [h1]
 split <;> omega
end Go.Proofs.YtnbikkcalcpedaaGreatDoor
namespace Go.Proofs.YtnbikkcalcpedaaGreatDoor
open Go.RowKit Go.Shelf
def allE (n : Int) (es : List E3) (q : Int) : List (List Int) × Int := if rootErr n es q = 0 then (recsL n.toNat es q.toNat, 0) else ([], rootErr n es q)
theorem root_nat {n q : Int} {es : List E3} (hx : rootErr n es q = 0) : ∃ m p : Nat, n = m ∧ q = p := by
 rcases root_cases n es q with ⟨h1, h2⟩ | ⟨_, _, h2⟩ | ⟨_, _, _, h2⟩ | ⟨h1, h2, h3, _⟩
 ·rw [hx] at h2; exact absurd h2.symm h1
 ·rw [hx] at h2; cases h2
 ·rw [hx] at h2; cases h2
 ·have hG := right_of h1
  have hlo := hG.lo
  have := vertB_true.1 h3
  obtain ⟨m, rfl⟩ := Int.eq_ofNat_of_zero_le (show 0 ≤ n by omega)
  obtain ⟨p, rfl⟩ := Int.eq_ofNat_of_zero_le this.1
  exact ⟨m, p, rfl, rfl⟩
theorem RowsR.nil_ (w : World) (B : Nat) : RowsR w B none [] := ⟨[], Reads.nil_, fun i xs h => by cases h⟩
theorem rall_any (n : Int) (A : Option Addr) (cA : Nat) (es : List E3) (hlen : es.length ≤ 10000) (q : Int) (hxl : (allE n es q).1.length ≤ 16384) (w : World) (h : Reads w w.heap.size 3 A es.length (edgeCells es)) :
  Calls Tryz.prog 89 #[.agg #[.int .i64 n, .slice A es.length cA], .int .i64 q] w fun e w' => ∃ Ar cr, e = .returned (.tuple #[.slice Ar (allE n es q).1.length cr, .int .i64 (allE n es q).2]) ∧ RowsR w' w'.heap.size Ar (allE n es q).1 ∧ Below w.heap.size w w' := by
 by_cases hx : rootErr n es q = 0
 ·obtain ⟨m, p, rfl, rfl⟩ := root_nat hx
  have hE : allE m es p = (recsL m es p, 0) := by unfold allE; rw [if_pos hx]; simp
  rw [hE] at hxl ⊢
  refine (rall_ok m A cA es hlen p hx _ rfl hxl w h).mono ?_
  rintro e w' ⟨Ar, cr, vs, he, ho, hb⟩
  exact ⟨Ar, cr, he, ho.reads, hb⟩
 ·obtain ⟨z, hz⟩ : ∃ z, rootErr n es q = z := ⟨_, rfl⟩
  have hE : allE n es q = ([], z) := by unfold allE; rw [if_neg hx, hz]
  rw [hE]
  have hz0 : (z == 0) = false := by rw [← hz]; simpa using hx
  have hz1 : (z != 0) = true := by rw [← hz]; simpa using hx
  have MB := Lib.hid (maximal_bad n A cA es hlen q z hz hz0)
  clear hxl hE hx hz
  have g0 := Blk.new w 24 #[.int .i64 n, .slice A es.length cA]
  refine (callsIn_wide (n := 3)).1 ?_
  refine callsIn_of_wp_marks Tryz.func89 rfl trivial ?_
  simp only [Tryz.ntmps89, List.size_toArray, List.length_cons, List.length_nil, Nat.reduceAdd, Nat.reduceSub, Array.replicate_succ, Array.replicate_zero, List.push_toArray, List.append_toArray, List.nil_append, List.cons_append]
  gi_wp2_with fail
  obtain ⟨w0, hw0⟩ : ∃ w0, ((w.alloc (.cells #[.int .i64 n, .slice A es.length cA] 24)).alloc (.cells #[.slice none 0 0] 121)).alloc (.cells #[.int .i64 0] 29) = w0 := ⟨_, rfl⟩
  have hs0 : w0.heap.size = w.heap.size + 3 := by rw [← hw0]; simp
  have hB0 : Below w.heap.size w w0 := by rw [← hw0]; exact (((Below.refl _ _).alloc (Nat.le_refl _) _).alloc (by simp) _).alloc (by simp; omega) _
  have r1 : Blk w0 (w.heap.size + 1) 121 #[.slice none 0 0] := by rw [← hw0]; exact (Blk.new_at (by simp)).alloc _
  have r2 : Blk w0 (w.heap.size + 2) 29 #[.int .i64 0] := by rw [← hw0]; exact Blk.new_at (by simp)
  rw [hw0]
  refine ⟨trivial, ?_⟩
  refine (inW (MB.out _ ((h.below hB0).more hB0.size))).mono ?_
  rintro e w1 ⟨rfl, hb1⟩
  have hB1 : Below w.heap.size w w1 := hB0.trans (hb1.mono hB0.size)
  have i6 := r1.next hb1
  have i7 := r2.next hb1
  have e4 := i6.cell 0
  have e5 := i7.cell 0
  have f4 := i6.frozen 0
  have f5 := i7.frozen 0
  clear hw0 r1 r2 hb1 g0 hB0
  gi_wp2
  have g1 : Blk ((w1.setCell ⟨w.heap.size + 1, 0, none⟩ (.slice none 0 0)).setCell ⟨w.heap.size + 2, 0, none⟩ (.int .i64 z)) (w.heap.size + 1) 121 #[.slice none 0 0] := by
   have := (i6.set_ 0 (.slice none 0 0)).far (p := ⟨w.heap.size + 2, 0, none⟩) (by simp) (.int .i64 z)
   simpa using this
  have g2 : Blk ((w1.setCell ⟨w.heap.size + 1, 0, none⟩ (.slice none 0 0)).setCell ⟨w.heap.size + 2, 0, none⟩ (.int .i64 z)) (w.heap.size + 2) 29 #[.int .i64 z] := by
   have := (i7.far (p := ⟨w.heap.size + 1, 0, none⟩) (by simp) (.slice none 0 0)).set_ 0 (.int .i64 z)
   simpa using this
  have g4 : Below w.heap.size w ((w1.setCell ⟨w.heap.size + 1, 0, none⟩ (.slice none 0 0)).setCell ⟨w.heap.size + 2, 0, none⟩ (.int .i64 z)) := (hB1.setCell (by simp) _).setCell (by simp) _
  obtain ⟨Wf, hWf⟩ : ∃ Wf, (w1.setCell ⟨w.heap.size + 1, 0, none⟩ (.slice none 0 0)).setCell ⟨w.heap.size + 2, 0, none⟩ (.int .i64 z) = Wf := ⟨_, rfl⟩
  rw [hWf] at g1 g2 g4
  have p2 := g1.cell 0
  have p3 := g2.cell 0
  rw [show w.heap.size + 1 + 1 = w.heap.size + 2 from rfl, hWf]
  exact end_none (v := .tuple #[.slice none 0 0, .int .i64 z]) (by simp [results, Tryz.results89, go_sem, p2, p3]) ⟨none, 0, rfl, RowsR.nil_ _ _, g4⟩
end Go.Proofs.YtnbikkcalcpedaaGreatDoor
