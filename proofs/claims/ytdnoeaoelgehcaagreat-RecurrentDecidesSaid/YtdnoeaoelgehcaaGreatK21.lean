/-
  Texts of this claim, put together: RAll, RMin.
-/
import Derived.Test.YtdnoeaoelgehcaaGreatK15
import Derived.Test.YtdnoeaoelgehcaaGreatK18
import Derived.Test.YtdnoeaoelgehcaaGreatK20
import Derived.Laws.EntriesVeiled
import Derived.Deep.CutRange
import Derived.Deep.RegionHeld3
/-! Package recurrent: All. -/
namespace Go.Proofs.YtdnoeaoelgehcaaGreat
open Go.RowKit Go.Shelf
attribute [local go_sem] Oper.semAt_some

/-- All recurrent configurations. -/
def recsL (n : Nat) (es : List E3) (q : Nat) : List (List Int) := enumR (recP n es q) (maxL n es q) n n (maxL n es q)
theorem maxL_length (n : Nat) (es : List E3) (q : Nat) : (maxL n es q).length = n := by simp [maxL, maxTo]
theorem maxL_get {n q v : Nat} {es : List E3} (hok : ∀ e ∈ es, okE n e) (hv : v < n) : (maxL n es q).getD v 0 = if v = q then 0 else valE es v - 1 := by
  unfold maxL maxTo
  rw [List.getD_eq_getElem?_getD]
  simp only [List.getElem?_map, List.getElem?_range hv, Option.map_some, Option.getD_some]
  by_cases h : v = q
  · rw [if_neg (fun e => e.2 h), if_pos h]
  · rw [if_pos ⟨hv, h⟩, if_neg h, valL_val hok]
theorem maxL_sink {n q : Nat} {es : List E3} : (maxL n es q).set q 0 = maxL n es q := by
  apply List.ext_getElem?
  intro i
  by_cases hi : q = i
  · subst hi
    unfold maxL maxTo
    by_cases h : q < n
    · rw [List.getElem?_set_self (by simpa using h)]; simp [h]
    · rw [List.getElem?_eq_none (by simp; omega), List.getElem?_eq_none (by simp; omega)]
  · rw [List.getElem?_set_ne hi]
theorem maxL_fix {n q : Nat} {es : List E3} (hlen : es.length ≤ 10000) (hx : rootErr n es q = 0) : RFix n q es (maxL n es q) := by
  obtain ⟨hz, hG, hC, hq⟩ := root_zero hx
  refine ⟨hlen, hz, hq, maxL_length n es q, fun x hm => ?_⟩
  obtain ⟨i, hi⟩ := List.getElem?_of_mem hm
  have hin : i < n := by have := (List.getElem?_eq_some_iff.1 hi).1; rw [maxL_length] at this; exact this
  have h1 := maxL_get (q := q) hG.ok hin
  rw [getD_at hi] at h1
  have h2 := valE_bd hG.ok i
  rw [h1]
  split
  · omega
  · rename_i h
    have := val_pos hG hC hin hq h
    omega

set_option maxRecDepth 100000 in
set_option maxHeartbeats 8000000 in
theorem rall_ok (n : Nat) (A : Option Addr) (cA : Nat) (es : List E3) (hlen : es.length ≤ 10000) (q : Nat) (hx : rootErr n es q = 0) (xss : List (List Int)) (hxs : recsL n es q = xss) (hxl : xss.length ≤ 16384) (w : World) (h : Reads w w.heap.size 3 A es.length (edgeCells es)) :
    Calls Tryz.prog 30 #[.agg #[.int .i64 n, .slice A es.length cA], .int .i64 q] w fun e w' => ∃ Ar cr vs, e = .returned (.tuple #[.slice Ar xss.length cr, .int .i64 0]) ∧ OwnDivs w' w.heap.size Ar cr vs xss ∧ Below w.heap.size w w' := by
  obtain ⟨hz, hG, hC, hq⟩ := root_zero hx
  have hn12 : n ≤ 12 := by have := hG.hi; omega
  have FI := Lib.hid (maximal_ok n A cA es hlen q hx)
  have HFX := Lib.hid (maxL_fix hlen hx)
  have HX := Lib.hid hxs
  obtain ⟨top, htop⟩ : ∃ top, maxL n es q = top := ⟨_, rfl⟩
  have hsk := maxL_sink (n := n) (q := q) (es := es)
  have hX2 : enumR (recP n es q) top n n top = xss := by rw [← htop]; exact hxs
  have HX := Lib.hid hX2
  rw [htop] at FI HFX hsk
  have HSK := Lib.hid hsk
  have htl : top.length = n := HFX.out.htl
  have HTL := Lib.hid htl
  have DC := Lib.hid (fun (A' : Option Addr) (c' : Nat) (W : World) (hr : Reads W W.heap.size 1 A' n (ints top)) => by have := dclone_any A' c' top (by omega) W (by rw [htl]; exact hr); rw [htl] at this; exact this)
  have hqi : (q : Int) < (n : Int) := by omega
  clear hxs hx hG hC htop hsk hX2 htl hz
  have g0 := Blk.new w 24 #[.int .i64 n, .slice A es.length cA]
  refine (callsIn_wide (n := 3)).1 ?_
  refine callsIn_of_wp_marks Tryz.func30 rfl trivial ?_
  simp only [Tryz.ntmps30, List.size_toArray, List.length_cons, List.length_nil, Nat.reduceAdd, Nat.reduceSub, Array.replicate_succ, Array.replicate_zero, List.push_toArray, List.append_toArray, List.nil_append, List.cons_append]
  gi_wp2_with fail
  obtain ⟨w0, hw0⟩ : ∃ w0, ((w.alloc (.cells #[.int .i64 n, .slice A es.length cA] 24)).alloc (.cells #[.slice none 0 0] 61)).alloc (.cells #[.int .i64 0] 31) = w0 := ⟨_, rfl⟩
  have hs0 : w0.heap.size = w.heap.size + 3 := by rw [← hw0]; simp
  have hB0 : Below w.heap.size w w0 := by rw [← hw0]; exact (((Below.refl _ _).alloc (Nat.le_refl _) _).alloc (by simp) _).alloc (by simp; omega) _
  have rg : Blk w0 w.heap.size 24 #[.int .i64 n, .slice A es.length cA] := by rw [← hw0]; exact (g0.alloc _).alloc _
  have r1 : Blk w0 (w.heap.size + 1) 61 #[.slice none 0 0] := by rw [← hw0]; exact (Blk.new_at (by simp)).alloc _
  have r2 : Blk w0 (w.heap.size + 2) 31 #[.int .i64 0] := by rw [← hw0]; exact Blk.new_at (by simp)
  rw [hw0]
  refine ⟨trivial, ?_⟩
  refine (inW (FI.out _ ((h.below hB0).more hB0.size))).mono ?_
  rintro e w1 ⟨Am, cm, rfl, hom, hb1⟩
  have hs1 := hb1.size
  have g1 := rg.next hb1
  have hB1 : Below w.heap.size w w1 := hB0.trans (hb1.mono hB0.size)
  have r1' := r1.next hb1
  have r2' := r2.next hb1
  have hmr := hom.reads
  rw [HTL.out] at hmr
  clear hw0 rg r1 r2 hb1 FI g0 hB0
  gi_wp2_with fail
  refine ⟨trivial, ?_⟩
  refine (inW (DC.out Am cm _ hmr)).mono ?_
  rintro e w2 ⟨AT, cT, rfl, hoT, hb2⟩
  have hs2 := hb2.size
  have g2 := g1.next hb2
  have hB2 := hB1.trans (hb2.mono hB1.size)
  have r1 := r1'.next hb2
  have r2 := r2'.next hb2
  obtain ⟨gT, hAT, hgT, hfr, hce⟩ := hoT.block (by rw [HTL.out]; omega)
  subst hAT
  obtain ⟨x0, hx0⟩ := get_of_lt (xs := top) (k := q) (by rw [HTL.out]; exact hq)
  have c0 := hce q x0 hx0
  have f0 := hfr q
  have O3 := hoT.put q 0
  rw [HSK.out] at O3
  have hgn : gT ≠ w.heap.size ∧ gT ≠ w.heap.size + 1 ∧ gT ≠ w.heap.size + 2 := by omega
  have g3 := g2.far (p := ⟨gT, q, none⟩) (fun e => hgn.1 e.symm) (.int .i64 0)
  have r13 := r1.far (p := ⟨gT, q, none⟩) (fun e => hgn.2.1 e.symm) (.int .i64 0)
  have r23 := r2.far (p := ⟨gT, q, none⟩) (fun e => hgn.2.2 e.symm) (.int .i64 0)
  have hB3 := hB2.setCell (p := ⟨gT, q, none⟩) (by show w.heap.size ≤ gT; omega) (.int .i64 0)
  obtain ⟨w3, hw3⟩ : ∃ w3, w2.setCell ⟨gT, q, none⟩ (.int .i64 0) = w3 := ⟨_, rfl⟩
  have hs3 : w3.heap.size = w2.heap.size := by rw [← hw3]; simp [World.setCell]
  rw [hw3] at g3 r13 r23 hB3 O3
  have hgs : gT < w3.heap.size := by have := (hoT.lt gT (blockOf_own.2 ⟨_, rfl, rfl⟩)).2; omega
  have c1 := (g3.alloc (.cells #[.slice none 0 0] 61)).cell 0
  have c2 := (g3.alloc (.cells #[.slice none 0 0] 61)).cell 1
  have c3 := g3.cell 0
  have c4 := g3.cell 1
  have O3 := Lib.hid O3
  clear g1 g2 r1' r2' r1 r2 hb2 hmr hom hce hfr hoT hx0
  gi_wp2_with fail
  refine ⟨trivial, ?_⟩
  obtain ⟨p, hp⟩ : ∃ p, w2.heap.size = p := ⟨_, rfl⟩
  rw [hp] at hs3 ⊢
  have hgn4 : (w3.alloc (.cells #[.slice none 0 0] 61)).heap.size = p + 1 := by simp [hs3]
  refine (inW (frecs_any n es.length cA A q (some ⟨gT, 0, none⟩) n cT 0 (some ⟨gT, 0, none⟩) n cT _)).mono ?_
  rintro e wF ⟨rfl, hwF⟩
  have hsF : wF.heap.size = p + 4 := by rw [← hwF]; simp [hs3]
  have hB12 : Below w3.heap.size w3 wF := by rw [← hwF]; exact ((((Below.refl _ _).alloc (Nat.le_refl _) _).alloc (by simp) _).alloc (by simp; omega) _).alloc (by simp; omega) _
  have q0 : Blk wF p 61 #[.slice none 0 0] := by rw [← hwF]; exact (((Blk.new_at hs3.symm).alloc _).alloc _).alloc _
  have hpz : w.heap.size + 3 ≤ p := by omega
  have hB2 : Below w.heap.size w wF := hB3.trans (hB12.mono hB3.size)
  have s1 := r13.next hB12
  have s2 := r23.next hB12
  have h2 := (h.below hB2).more hB2.size
  have RW : Hid (RecW wF n q 0 (p + 1) (p + 2) (p + 3) es A cA (some ⟨gT, 0, none⟩) cT (some ⟨gT, 0, none⟩) cT top top) := by
    have hr := (O3.out.next hB12).reads
    rw [HTL.out] at hr
    refine ⟨?_, ?_, ?_, h2, hr, hr⟩
    · rw [← hwF]; exact ((Blk.new_at hgn4.symm).alloc _).alloc _
    · rw [← hwF]; exact (Blk.new_at (by simp [hs3])).alloc _
    · rw [← hwF]; exact Blk.new_at (by simp [hs3])
  have hps3 : w.heap.size + 3 ≤ p := hpz
  have hgT : gT < p := by omega
  rw [hgn4]
  clear hwF c0 c1 c2 c3 c4 f0 r13 r23 hB12 hB1 hB3 g3 hw3 hs0 hs1 hs2
  have hAlt : ∀ k, es.length ≠ 0 → blockOf A k → k < w.heap.size := fun k hne ⟨ad, hA, hk⟩ => by
    obtain ⟨b, off, e, hb, _⟩ := h.2 (by omega)
    rw [e] at hA; injection hA with hA; subst hA; subst hk; exact hb
  have hTb : ∀ k, blockOf (some (⟨gT, 0, none⟩ : Addr)) k → k = gT := fun k ⟨ad, hA, hk⟩ => by injection hA with hA; subst hA; exact hk.symm
  gi_wp2_with fail
  refine range_outer (n := 3) (gf := 116) (lb := #[.pointer (some ⟨p + 1, 0, none⟩), .pointer (some ⟨p + 2, 0, none⟩), .pointer (some ⟨p + 3, 0, none⟩)]) rfl (enters_of Tryz.func116 (by kernel_rfl) rfl)
    (K := KR (p + 1) (p + 2) (p + 3) es A (some ⟨gT, 0, none⟩) (some ⟨gT, 0, none⟩)) (xs := xss)
    (by rw [← HX.out]; exact recs_iter n q es top HFX.out n top HTL.out (fun x hx => by have := HFX.out.htb x hx; omega) 0 (by omega) (p + 1) (p + 2) (p + 3) A cA _ cT _ cT wF RW.out) ?hK (fun k => k = p) ?hC
    (fun pre C W => ∃ A c vs, Blk W p 61 #[.slice A pre.length c] ∧ OwnDivs W w.heap.size A c vs pre ∧ C p ∧ (∀ k, rowBlock A vs k → C k) ∧ Below w.heap.size w W ∧
      Blk W (w.heap.size + 1) 61 #[.slice none 0 0] ∧ Blk W (w.heap.size + 2) 31 #[.int .i64 0] ∧ (∀ k, C k → k = p ∨ p + 4 ≤ k))
    (fun _ _ _ _ => False) ?hI (fun _ _ _ _ _ h _ => h) ?h0 ?hps ?round ?done (fun _ _ _ _ _ h => h.elim)
  case hK =>
    rintro k (rfl | rfl | rfl | ⟨h1, h2⟩ | h1 | h1)
    · omega
    · omega
    · omega
    · have := hAlt k h1 h2; omega
    · have := hTb k h1; omega
    · have := hTb k h1; omega
  case hC =>
    rintro k rfl
    refine ⟨by omega, ?_⟩
    rintro (e | e | e | ⟨h1, h2⟩ | h1 | h1)
    · omega
    · omega
    · omega
    · have := hAlt k h1 h2; omega
    · have := hTb k h1; omega
    · have := hTb k h1; omega
  case hI =>
    rintro pre C a b ⟨A, c, vs, i1, i2, i3, i4, i5, i6, i7, i8⟩ hst
    refine ⟨A, c, vs, i1.stays hst (.inl i3), i2.kept fun k hk => hst.block k (i2.lt hk).2 (.inl (i4 k hk)), i3, i4, i5.trans (hst.below (fun k hk => .inr ⟨by omega, id⟩) i5.size), i6.stays hst (.inr ⟨by omega, id⟩), i7.stays hst (.inr ⟨by omega, id⟩), i8⟩
  case h0 => exact ⟨none, 0, [], q0, OwnDivs.nil_ _ _, rfl, (by rintro k (⟨a, h, _⟩ | ⟨v, h, _⟩) <;> cases h), hB2, s1, s2, fun k hk => .inl hk⟩
  case hps => rintro x' args O W' ⟨A', c', rfl, _⟩; rfl
  case round =>
    intro l pre x args C O W hpre hI hl hC hO harg hlW hnC hnO T hT
    obtain ⟨A, c, vs, i1, i2, i3, i4, i5, i6, i7, i8⟩ := hI
    obtain ⟨A8, c8, rfl, hown8, hO8⟩ := harg
    have hown8' : OwnI W w.heap.size A8 c8 x := own_rebase hown8 fun k hk => by have := (hO k (hO8 k hk)).2.2; omega
    have hpl : pre.length < 16384 := by
      obtain ⟨z, hz⟩ := hpre
      have := congrArg List.length hz
      simp at this
      omega
    have hpe : ((pre.length : Int) == 16384) = false := by simp; omega
    clear hown8
    gi_wp2
    refine hT _ _ (Only.refl _ _) ?_
    intro w5 h5 _
    have hl5 : ∀ k, C k → k ≠ l := fun k hk e => hnC (e ▸ hk)
    have j1 : Blk w5 p 61 #[.slice A pre.length c] := i1.only h5 (by omega)
    have j2 : OwnDivs w5 w.heap.size A c vs pre := i2.kept fun k hk => h5.block k (i2.lt hk).2 (hl5 k (i4 k hk))
    have j5 : Below w.heap.size w w5 := i5.trans (h5.below (fun k hk e => by omega) i5.size)
    have j6 := i6.only h5 (by omega)
    have j7 := i7.only h5 (by omega)
    have j8 : OwnI w5 w.heap.size A8 c8 x := own_kept hown8' fun k hk => h5.block k (own_lt hown8' hk).2 fun e => hnO (e ▸ hO8 k hk)
    have e1 := j1.cell 0
    have hC5 : ∀ k, C k → k < w5.heap.size := fun k hk => Nat.lt_of_lt_of_le (hC k hk) h5.size
    have hO5 : ∀ k, O k → p + 4 ≤ k ∧ k < w5.heap.size := fun k hk => ⟨by have := (hO k hk).2.2; omega, Nat.lt_of_lt_of_le (hO k hk).2.1 h5.size⟩
    clear i1 i2 i5 i6 i7 hown8' hC hO
    gi_wp2_with (gi_at_builtin; refine append_gi rfl (.tmp 34) (.tmp 36) _ rfl w.heap.size 26 Tryz.underlying61 info_divs rfl (by omega) A c pre.length vs rfl (World.ownsRow.alloc j2.1 _) _ [.slice A8 x.length c8] rfl (Reads.box _ _ _) (by simp [Value.oneCell']) (by omega) (by have := j5.size; simp; omega) ?_; intro A6 c6 w6 hown6 hg6 hb6 hw6; have k1 := (j1.alloc (.cells #[.slice A8 x.length c8] 26)).grown hg6 (own_blk_ne j2.1 j1 (by decide)); have e2 := k1.cell 0; have f2 := k1.frozen 0)
    have k2 : OwnDivs w6 w.heap.size A6 c6 (vs ++ [.slice A8 x.length c8]) (pre ++ [x]) := OwnDivs.push (j2.kept fun k hk => Below.heap_alloc _ _ _ (j2.lt hk).2) (OwnI.alloc j8 _) hown6 hg6
    have k3 : Only (fun k => C k ∨ O k) w5 w6 := ((Only.refl _ w5).alloc _).grown hg6 fun k hk => .inl (.inl (i4 k (.inl (blockOf_own.1 hk))))
    refine ⟨fun k => C k ∨ O k ∨ (w5.heap.size ≤ k ∧ k < w6.heap.size), k3.setCell (.inl (.inl i3)) _, fun k hk => ?_, A6, c6, vs ++ [.slice A8 x.length c8], ?_, ?_, .inl i3, ?_, ?_, ?_, ?_, ?_⟩
    · simpa [World.setCell] using hk
    · have := k1.set_ 0 (.slice A6 (pre.length + 1) c6)
      simpa using this
    · exact k2.set_blk k1 (by decide) (by decide) _ _
    · rintro k (hk | ⟨v, hv, hk⟩)
      · rcases hw6 with e | e
        · rw [blockOf_own.2 hk] at e
          exact .inl (i4 k (.inl (blockOf_own.1 e.symm)))
        · rw [blockOf_own.2 hk] at e
          injection e with e
          have hlt := (own_lt hown6 hk).2
          exact .inr (.inr ⟨by rw [e]; simp, hlt⟩)
      · rcases List.mem_append.1 hv with hv | hv
        · exact .inl (i4 k (.inr ⟨v, hv, hk⟩))
        · rw [List.mem_singleton.1 hv] at hk
          exact .inr (.inl (hO8 k (blockOf_own.1 hk)))
    · exact (j5.trans (k3.below (fun k hk e => by
        rcases e with e | e
        · have := i8 k e; omega
        · have := (hO5 k e).1; omega) j5.size)).setCell (by show w.heap.size ≤ p; omega) _
    · exact (j6.only k3 (fun e => by
        rcases e with e | e
        · have := i8 _ e; omega
        · have := (hO5 _ e).1; omega)).far (by show w.heap.size + 1 ≠ p; omega) _
    · exact (j7.only k3 (fun e => by
        rcases e with e | e
        · have := i8 _ e; omega
        · have := (hO5 _ e).1; omega)).far (by show w.heap.size + 2 ≠ p; omega) _
    · rintro k (hk | hk | hk)
      · exact i8 k hk
      · exact .inr (hO5 k hk).1
      · exact .inr (by have := h5.size; omega)
  case done =>
    rintro C W ⟨A, c, vs, i1, i2, i3, i4, i5, i6, i7, i8⟩ hnD hD
    have e1 := i1.cell 0
    have e4 := i6.cell 0
    have e5 := i7.cell 0
    have f4 := i6.frozen 0
    have f5 := i7.frozen 0
    gi_wp2
    have g1 : Blk ((W.setCell ⟨w.heap.size + 1, 0, none⟩ (.slice A xss.length c)).setCell ⟨w.heap.size + 2, 0, none⟩ (.int .i64 0)) (w.heap.size + 1) 61 #[.slice A xss.length c] := by
      have := (i6.set_ 0 (.slice A xss.length c)).far (p := ⟨w.heap.size + 2, 0, none⟩) (by simp) (.int .i64 0)
      simpa using this
    have g2 : Blk ((W.setCell ⟨w.heap.size + 1, 0, none⟩ (.slice A xss.length c)).setCell ⟨w.heap.size + 2, 0, none⟩ (.int .i64 0)) (w.heap.size + 2) 31 #[.int .i64 0] := by
      have := (i7.far (p := ⟨w.heap.size + 1, 0, none⟩) (by simp) (.slice A xss.length c)).set_ 0 (.int .i64 0)
      simpa using this
    have g3 : OwnDivs ((W.setCell ⟨w.heap.size + 1, 0, none⟩ (.slice A xss.length c)).setCell ⟨w.heap.size + 2, 0, none⟩ (.int .i64 0)) w.heap.size A c vs xss :=
      (i2.set_blk i6 (by decide) (by decide) 0 _).set_blk (i7.far (p := ⟨w.heap.size + 1, 0, none⟩) (by simp) _) (by decide) (by decide) 0 _
    have g4 : Below w.heap.size w ((W.setCell ⟨w.heap.size + 1, 0, none⟩ (.slice A xss.length c)).setCell ⟨w.heap.size + 2, 0, none⟩ (.int .i64 0)) := (i5.setCell (by simp) _).setCell (by simp) _
    have g5 : ((W.setCell ⟨w.heap.size + 1, 0, none⟩ (.slice A xss.length c)).setCell ⟨w.heap.size + 2, 0, none⟩ (.int .i64 0)).heap[wF.heap.size]? = some (.deferred (some [])) :=
      (Below.heap_setCell _ _ _ _ (by simp; omega)).trans ((Below.heap_setCell _ _ _ _ (by simp; omega)).trans hD)
    have g6 : ∀ k, rowBlock A vs k → k ≠ wF.heap.size := fun k hk e => hnD (e ▸ i4 k hk)
    obtain ⟨Wf, hWf⟩ : ∃ Wf, (W.setCell ⟨w.heap.size + 1, 0, none⟩ (.slice A xss.length c)).setCell ⟨w.heap.size + 2, 0, none⟩ (.int .i64 0) = Wf := ⟨_, rfl⟩
    rw [hWf] at g1 g2 g3 g4 g5
    have p1 := Only.put_one Wf wF.heap.size (.deferred none)
    have p2 := (g1.only p1 (by omega)).cell 0
    have p3 := (g2.only p1 (by omega)).cell 0
    rw [show w.heap.size + 1 + 1 = w.heap.size + 2 from rfl, hWf]
    refine end_mark (v := .tuple #[.slice A xss.length c, .int .i64 0]) g5 (by simp [results, Tryz.results30, go_sem, p2, p3]) ⟨A, c, vs, rfl, g3.kept fun k hk => p1.block k (g3.lt hk).2 (g6 k hk), g4.trans (p1.below (fun k hk e => by omega) g4.size)⟩
end Go.Proofs.YtdnoeaoelgehcaaGreat

/-! Package recurrent: Minimal. -/
namespace Go.Proofs.YtdnoeaoelgehcaaGreat
open Go.RowKit

/-- Is no recurrent configuration just below at the first k vertices? -/
def minTo (n : Nat) (es : List E3) (q : Nat) (cs : List Int) (k : Nat) : Bool := (List.range k).all fun v => decide (cs.getD v 0 = 0) || !recB n es (cs.set v (cs.getD v 0 - 1)) q
theorem minTo_succ (n : Nat) (es : List E3) (q : Nat) (cs : List Int) (k : Nat) : minTo n es q cs (k + 1) = (minTo n es q cs k && (decide (cs.getD k 0 = 0) || !recB n es (cs.set k (cs.getD k 0 - 1)) q)) := by simp [minTo, List.range_succ]
theorem minTo_false {n k m : Nat} {es : List E3} {q : Nat} {cs : List Int} (hk : k < m) (h0 : cs.getD k 0 ≠ 0) (h : recB n es (cs.set k (cs.getD k 0 - 1)) q = true) : minTo n es q cs m = false := by
  unfold minTo
  rw [List.all_eq_false]
  refine ⟨k, by simpa using hk, ?_⟩
  rw [decide_eq_false h0, h]
  simp
set_option maxRecDepth 100000 in
set_option maxHeartbeats 8000000 in
theorem min1_any (n : Nat) (A : Option Addr) (cA : Nat) (es : List E3) (q : Nat) (hq : q < n) (C : Option Addr) (cC : Nat) (cs : List Int) (hlen : es.length ≤ 10000) (hz : checkG n es = 0) (hcl : cs.length = n) (hcb : ∀ x ∈ cs, -1048575 ≤ x ∧ x ≤ 1048577) (bg bq : Nat) (w : World)
    (hg : Blk w bg 24 #[.int .i64 n, .slice A es.length cA]) (hbq : Blk w bq 3 #[.int .i64 q]) (h : Reads w w.heap.size 3 A es.length (edgeCells es)) (h' : Reads w w.heap.size 1 C n (ints cs)) :
    Calls Tryz.prog 83 #[.slice C n cC, .pointer (some ⟨bg, 0, none⟩), .pointer (some ⟨bq, 0, none⟩)] w fun e w' => e = .returned (.bool (minTo n es q cs n)) ∧ Below w.heap.size w w' := by
  have hn12 : n ≤ 12 := by have := (right_of hz).hi; omega
  have HRC := Lib.hid (fun (ds : List Int) (hl : ds.length = n) (hb : ∀ x ∈ ds, -1048576 ≤ x ∧ x ≤ 1048577) (B : Option Addr) (d : Nat) (W : World) (hB : Below w.heap.size w W) (hr : Reads W W.heap.size 1 B n (ints ds)) => recurs_any n A cA es q hq B d ds ⟨hlen, hz, hl, hb⟩ W ((h.below hB).more hB.size) hr)
  have DC := Lib.hid (fun (W : World) (hB : Below w.heap.size w W) => by have := dclone_any C cC cs (by omega) W (by rw [hcl]; exact (h'.below hB).more hB.size); rw [hcl] at this; exact this)
  have HCL := Lib.hid hcl
  have HCB := Lib.hid hcb
  clear hcl hcb hz
  go_enter Tryz.func83, Tryz.ntmps83
  go_wp2_with fail
  go_loopw [5, 6, 7, 10] (fun _ _ _ i wl => ∃ k : Nat, i = .int .i64 k ∧ k ≤ n ∧ Hid (minTo n es q cs k = true) ∧ Hid (Below w.heap.size w wl)) (fun _ _ _ i _ => n - (intOf i).toNat)
  case atStart => exact ⟨0, rfl, by omega, by simp [Hid, minTo], Below.refl _ _⟩
  case round =>
    obtain ⟨k, rfl, hk, HM, HB⟩ := hrel
    by_cases hlt : k < n
    · have hi : (k : Int) < (n : Int) := by omega
      obtain ⟨x, hx⟩ := get_of_lt (xs := cs) (k := k) (by rw [HCL.out]; exact hlt)
      obtain ⟨bB, oB, hA, hbB, hcell⟩ := (h'.below HB.out).at_ (ints_at hx)
      subst hA
      have hms := minTo_succ n es q cs k
      rw [HM.out, Bool.true_and, getD_at hx] at hms
      have hmf := fun h1 h2 => minTo_false (n := n) (es := es) (q := q) (cs := cs) hlt h1 h2
      rw [getD_at hx] at hmf
      have HMF := Lib.hid hmf
      have hxb := HCB.out x (List.mem_of_getElem? hx)
      have HX := Lib.hid hx
      clear hx hmf
      by_cases hx0 : x = 0
      · subst hx0
        rw [decide_eq_true rfl, Bool.true_or] at hms
        have HMS := Lib.hid hms
        clear hms
        go_wp2
        go_roundw
        case rel => exact ⟨k + 1, by go_num, by omega, HMS, HB⟩
        case measure => simp [intOf]; omega
      · have hne : (x == 0) = false := by simpa using hx0
        rw [decide_eq_false hx0, Bool.false_or] at hms
        have HMS := Lib.hid hms
        have g1 := hg.next HB.out
        have q1 := hbq.next HB.out
        have e0 := g1.cell 0
        have e1 := g1.cell 1
        have e2 := q1.cell 0
        have HBD : Hid (Below w.heap.size w wr.drew) := HB.out.drew
        have DC1 := Lib.hid (DC.out wr.drew HBD.out)
        have DC2 := Lib.hid (DC.out (wr.drew.alloc (.cells #[.int .i64 0, .slice none 0 0, .int .i64 0, .slice none 0 0] 86)) (HBD.out.alloc HBD.out.size _))
        clear hms
        go_upto_region 5 with fail
        have gZ : Hid (Blk (wr.drew.alloc (.cells #[.int .i64 0, .slice none 0 0, .int .i64 0, .slice none 0 0] 86)) wr.heap.size 86 #[.int .i64 0, .slice none 0 0, .int .i64 0, .slice none 0 0]) := Blk.new wr.drew 86 _
        have hle : Hid (wr.heap.size + 1 ≤ (wr.drew.alloc (.cells #[.int .i64 0, .slice none 0 0, .int .i64 0, .slice none 0 0] 86)).heap.size) := by unfold Hid; simp
        have hle0 : Hid (wr.heap.size ≤ (wr.drew.alloc (.cells #[.int .i64 0, .slice none 0 0, .int .i64 0, .slice none 0 0] 86)).heap.size) := by unfold Hid; simp
        have BZ : Hid (Below wr.heap.size wr (wr.drew.alloc (.cells #[.int .i64 0, .slice none 0 0, .int .i64 0, .slice none 0 0] 86))) := (Below.refl _ _).drew.alloc (Nat.le_refl _) _
        have BD : Hid (Below wr.heap.size wr wr.drew) := (Below.refl _ _).drew
        have hl1 : Hid (wr.heap.size < wr.heap.size + 1) := Nat.lt_succ_self _
        have hl2 : Hid (wr.heap.size ≤ wr.heap.size + 1) := Nat.le_succ _
        have hgl := g1.lt
        have hql := q1.lt
        have HGL := Lib.hid hgl
        have HQL := Lib.hid hql
        have hn1 : wr.heap.size ≠ bg := by omega
        have hn2 : wr.heap.size ≠ bq := by omega
        clear hgl hql
        go_cut [7] from 17 to 31 (fun p wx => ∃ (pb : Nat) (A1 : Option Addr) (c1 : Nat), p = .pointer (some ⟨pb, 0, none⟩) ∧ Blk wx pb 86 #[.int .i64 n, .slice A es.length cA, .int .i64 q, .slice A1 n c1] ∧ OwnI wx wr.heap.size A1 c1 cs ∧ wr.heap.size ≤ pb ∧ Below wr.heap.size wr wx)
        case first =>
          go_region_held3 (fun W => W.cell? ⟨bg, 0, none⟩ = some (.int .i64 n) ∧ W.cell? ⟨bg, 1, none⟩ = some (.slice A es.length cA) ∧ W.cell? ⟨bq, 0, none⟩ = some (.int .i64 q)) (go_keep)
            (first
              | (go_at_call 31; refine (DC1.out).mono ?_; rintro e w5 ⟨A1, c1, rfl, hown, hbel⟩
                 have HB2 := Lib.hid (BD.out.trans hbel)
                 have HO2 := Lib.hid hown
                 have k0 := (hbel.cell (p := ⟨bg, 0, none⟩) HGL.out).trans e0
                 have k1 := (hbel.cell (p := ⟨bg, 1, none⟩) HGL.out).trans e1
                 have k2 := (hbel.cell (p := ⟨bq, 0, none⟩) HQL.out).trans e2)
              | (go_at_call 31; refine (DC2.out).mono ?_; rintro e w5 ⟨A1, c1, rfl, hown, hbel⟩
                 have HB2 := Lib.hid (BZ.out.trans (hbel.mono hle0.out))
                 have HO2 := Lib.hid (hown.mono hle.out)
                 have g2 := gZ.out.next hbel
                 have z0 := g2.cell 0
                 have z1 := g2.cell 1
                 have z2 := g2.cell 2
                 have z3 := g2.cell 3
                 have f0 := g2.frozen 0
                 have f1 := g2.frozen 1
                 have f2 := g2.frozen 2
                 have f3 := g2.frozen 3
                 have k0 := (HB2.out.cell (p := ⟨bg, 0, none⟩) HGL.out).trans e0
                 have k1 := (HB2.out.cell (p := ⟨bg, 1, none⟩) HGL.out).trans e1
                 have k2 := (HB2.out.cell (p := ⟨bq, 0, none⟩) HQL.out).trans e2))
          all_goals
            go_wp2
            go_meet
            first
              | with_reducible exact leafA HO2.out HB2.out
              | with_reducible exact leafB hl1.out hl2.out g2 HO2.out HB2.out
        case rest =>
          obtain ⟨pb, A1, c1, rfl, P2, O2, hpb, B2⟩ := hcut
          obtain ⟨gA, hA1, hgA, hfr, hce⟩ := O2.block (by rw [HCL.out]; omega)
          subst hA1
          have c0 := hce k x HX.out
          have f0 := hfr k
          have p0 := P2.cell 0
          have p1 := P2.cell 1
          have p2 := P2.cell 2
          have p3 := P2.cell 3
          have hne2 : gA ≠ pb := own_blk O2 P2 (by decide) ⟨_, rfl, rfl⟩
          have hw1 : IntKind.i64.wrap (x - 1) = x - 1 := IntWalk.i64_in _ (by omega)
          have O3 := O2.put k (x - 1)
          have P3 := P2.far (p := ⟨gA, k, none⟩) (fun e => hne2 e.symm) (.int .i64 (x - 1))
          have B3 := HB.out.trans ((B2.setCell (p := ⟨gA, k, none⟩) hgA (.int .i64 (x - 1))).mono HB.out.size)
          have q0 := P3.cell 0
          have q1 := P3.cell 1
          have q2 := P3.cell 2
          have q3 := P3.cell 3
          have R3 := O3.reads
          have hsl : (cs.set k (x - 1)).length = n := by rw [List.length_set]; exact HCL.out
          rw [hsl] at R3
          have RC := HRC.out (cs.set k (x - 1)) hsl (fun y hy => by
            rcases List.mem_or_eq_of_mem_set hy with hy | rfl
            · have := HCB.out y hy; omega
            · omega) _ c1 _ B3 R3
          have HB3 := Lib.hid B3
          obtain ⟨bo, hbo⟩ : ∃ bo, recB n es (cs.set k (x - 1)) q = bo := ⟨_, rfl⟩
          rw [hbo] at RC HMS HMF
          have RC := Lib.hid RC
          simp only [pileV] at RC
          clear P2 O2 B2 O3 P3 B3 R3 hsl hce hfr hbo e0 e1 e2
          cases bo
          · have HM2 : Hid (minTo n es q cs (k + 1) = true) := HMS.out
            go_wp2_with fail
            refine (RC.out).mono ?_
            rintro e w6 ⟨rfl, b6⟩
            have HB6 := Lib.hid (HB3.out.trans (b6.mono HB3.out.size))
            go_wp2
            go_roundw
            case rel => exact ⟨k + 1, by go_num, by omega, HM2, HB6⟩
            case measure => simp [intOf]; omega
          · have HM2 : Hid (minTo n es q cs n = false) := HMF.out hx0 rfl
            go_wp2_with fail
            refine (RC.out).mono ?_
            rintro e w6 ⟨rfl, b6⟩
            have HB6 := Lib.hid (HB3.out.trans (b6.mono HB3.out.size))
            go_wp2
            go_ret
            exact ⟨by rw [HM2.out]; rfl, HB6.out⟩
    · obtain rfl : k = n := by omega
      have hB := HB.out
      go_wp2
      go_ret
      exact ⟨by rw [HM.out]; rfl, hB⟩

theorem filter_snoc {α : Type} {P : α → Bool} {xss : List α} {k : Nat} {x : α} (h : xss[k]? = some x) : (xss.take (k + 1)).filter P = (xss.take k).filter P ++ if P x then [x] else [] := by
  rw [List.take_add_one, h, List.filter_append]
  simp [List.filter_cons]
set_option maxRecDepth 100000 in
set_option maxHeartbeats 8000000 in
theorem filt_any (n : Nat) (A : Option Addr) (cA : Nat) (es : List E3) (q : Nat) (hq : q < n) (hlen : es.length ≤ 10000) (hz : checkG n es = 0) (bg bq : Nat) (A0 : Option Addr) (c0 : Nat) (xss : List (List Int)) (hxl : xss.length ≤ 1048000) (hxs : ∀ xs ∈ xss, xs.length = n ∧ ∀ x ∈ xs, -1048575 ≤ x ∧ x ≤ 1048577) (w : World)
    (hg : Blk w bg 24 #[.int .i64 n, .slice A es.length cA]) (hbq : Blk w bq 3 #[.int .i64 q]) (h : Reads w w.heap.size 3 A es.length (edgeCells es)) (hr : RowsR w w.heap.size A0 xss) :
    Calls Tryz.prog 82 #[.slice A0 xss.length c0, .func (.func 83) #[] #[.pointer (some ⟨bg, 0, none⟩), .pointer (some ⟨bq, 0, none⟩)]] w fun e w' => ∃ A' c', e = .returned (.slice A' (xss.filter fun xs => minTo n es q xs n).length c') ∧ RowsR w' w'.heap.size A' (xss.filter fun xs => minTo n es q xs n) ∧ Below w.heap.size w w' := by
  obtain ⟨vs, hv, hrow⟩ := hr
  have MC := Lib.hid (fun (xs : List Int) (hx : xs ∈ xss) (C : Option Addr) (cC : Nat) (W : World) (hB : Below w.heap.size w W) (hr : Reads W W.heap.size 1 C n (ints xs)) => min1_any n A cA es q hq C cC xs hlen hz (hxs xs hx).1 (hxs xs hx).2 bg bq W (hg.next hB) (hbq.next hB) ((h.below hB).more hB.size) hr)
  have HXS := Lib.hid hxs
  have HROW := Lib.hid hrow
  have HV := Lib.hid hv
  obtain ⟨P, hP⟩ : ∃ P : List Int → Bool, (fun xs => minTo n es q xs n) = P := ⟨_, rfl⟩
  have hPx : ∀ xs, minTo n es q xs n = P xs := fun xs => by rw [← hP]
  simp only [hPx] at MC ⊢
  clear hP hPx hxs hrow hv
  go_enter Tryz.func82, Tryz.ntmps82
  go_wp2_with fail
  go_loopw [5, 7, 10] (fun o _ i wl => ∃ (k : Nat) (A' : Option Addr) (c' : Nat) (vs' : List Value), i = .int .i64 k ∧ k ≤ xss.length ∧ o = .slice A' ((xss.take k).filter P).length c' ∧ Hid (((xss.take k).filter P).length ≤ k) ∧
    Hid (wl.ownsRow w.heap.size 26 1 (.slice A' ((xss.take k).filter P).length c') ((xss.take k).filter P).length vs') ∧ Hid (∀ (i : Nat) (xs : List Int), ((xss.take k).filter P)[i]? = some xs → ∃ A1 c1, vs'[i]? = some (.slice A1 xs.length c1) ∧ Reads w w.heap.size 1 A1 xs.length (ints xs)) ∧ Hid (Below w.heap.size w wl)) (fun _ _ i _ => xss.length - (intOf i).toNat)
  case atStart => exact ⟨0, none, 0, [], rfl, by omega, rfl, by simp [Hid], World.ownsRow_nil _ _ _ _, by simp [Hid], Below.refl _ _⟩
  case round =>
    obtain ⟨k, A', c', vs', rfl, hk, rfl, HLE, HO, HR, HB⟩ := hrel
    by_cases hlt : k < xss.length
    · have hi : (k : Int) < (xss.length : Int) := by omega
      obtain ⟨xs, hx⟩ := get_of_lt hlt
      obtain ⟨A1, c1, hvk, hr1⟩ := HROW.out k xs hx
      obtain ⟨b, off, hA0, hbb, hce⟩ := (HV.out.below HB.out).at_ hvk
      subst hA0
      have hfs := filter_snoc (P := P) hx
      have hxn := (HXS.out xs (List.mem_of_getElem? hx)).1
      have MC1 := MC.out xs (List.mem_of_getElem? hx) A1 c1 wr HB.out (by rw [← hxn]; exact (hr1.below HB.out).more HB.out.size)
      rw [← hxn] at MC1
      have MC1 := Lib.hid MC1
      have HR1 := Lib.hid hr1
      clear hx hvk hr1 hxn
      obtain ⟨bo, hbo⟩ : ∃ bo, P xs = bo := ⟨_, rfl⟩
      rw [hbo] at MC1 hfs
      have HFS := Lib.hid hfs
      clear hbo hfs
      go_wp2_with fail
      refine (MC1.out).mono ?_
      rintro e w5 ⟨rfl, b5⟩
      have B5 := HB.out.trans (b5.mono HB.out.size)
      have HB5 := Lib.hid B5
      have O5 : w5.ownsRow w.heap.size 26 1 (.slice A' ((xss.take k).filter P).length c') ((xss.take k).filter P).length vs' := own_kept HO.out fun kk hkk => b5.block kk (own_lt HO.out hkk).2
      have HO5 := Lib.hid O5
      clear B5 O5
      cases bo
      · have hf : (xss.take (k + 1)).filter P = (xss.take k).filter P := by rw [HFS.out]; simp
        have HF := Lib.hid hf
        clear hf
        go_wp2
        go_roundw
        case rel => exact ⟨k + 1, A', c', vs', by go_num, by omega, by rw [HF.out], by rw [HF.out]; have := HLE.out; show _ ≤ k + 1; omega, by rw [HF.out]; exact HO5, by rw [HF.out]; exact HR, HB5⟩
        case measure => simp [intOf]; omega
      · have hf : (xss.take (k + 1)).filter P = (xss.take k).filter P ++ [xs] := by rw [HFS.out]; simp
        have HF := Lib.hid hf
        clear hf
        have hl5 := HLE.out
        have hO5 := HO5.out
        have hsz5 := HB5.out.size
        go_wp2_with (at_builtin; refine append_go rfl (.tmp 17) (.tmp 19) _ rfl w.heap.size 26 Tryz.underlying61 info_divs rfl (by omega) A' c' ((xss.take k).filter P).length vs' rfl (World.ownsRow.alloc hO5 _) _ [.slice A1 xs.length c1] rfl (Reads.box _ _ _) (by simp [Value.oneCell']) (by omega) (by simp; omega) ?_; intro A6 c6 w6 hown6 hg6 hb6 hw6)
        have B6 := (HB5.out.alloc hsz5 (.cells #[.slice A1 xs.length c1] 26)).trans hb6
        have hln : ((xss.take (k + 1)).filter P).length = ((xss.take k).filter P).length + 1 := by rw [HF.out]; simp
        have hvl : vs'.length = ((xss.take k).filter P).length := by have := HO5.out.1; omega
        have HR6 : Hid (∀ (i : Nat) (ys : List Int), ((xss.take (k + 1)).filter P)[i]? = some ys → ∃ A1' c1', (vs' ++ [.slice A1 xs.length c1])[i]? = some (.slice A1' ys.length c1') ∧ Reads w w.heap.size 1 A1' ys.length (ints ys)) := by
          intro i ys hi
          rw [HF.out] at hi
          rcases Nat.lt_trichotomy i ((xss.take k).filter P).length with hc | hc | hc
          · rw [List.getElem?_append_left hc] at hi
            obtain ⟨a1, a2, a3, a4⟩ := HR.out i ys hi
            exact ⟨a1, a2, by rw [List.getElem?_append_left (by omega)]; exact a3, a4⟩
          · subst hc
            have : ys = xs := by simpa using hi.symm
            subst this
            exact ⟨A1, c1, by rw [← hvl]; simp, HR1.out⟩
          · rw [List.getElem?_eq_none (by simp; omega)] at hi; cases hi
        go_roundw
        case rel => exact ⟨k + 1, A6, c6, vs' ++ [.slice A1 xs.length c1], by go_num, by omega, by rw [hln], by show _ ≤ k + 1; omega, by rw [hln]; exact hown6, HR6, B6⟩
        case measure => simp [intOf]; omega
    · obtain rfl : k = xss.length := by omega
      have hB := HB.out
      have hO := HO.out
      have hR := HR.out
      rw [List.take_length] at hO hR
      have HR2 : Hid (RowsR wr wr.heap.size A' (xss.filter P)) := ⟨vs', Reads.of_own hO, fun i xs hi => by
        obtain ⟨a1, a2, a3, a4⟩ := hR i xs hi
        exact ⟨a1, a2, a3, (a4.below hB).more hB.size⟩⟩
      have hln : ((xss.take xss.length).filter P).length = (xss.filter P).length := by rw [List.take_length]
      have HLN := Lib.hid hln
      clear hO hR hln
      go_wp2
      go_ret
      exact ⟨A', c', by rw [← HLN.out]; rfl, HR2.out, hB⟩
end Go.Proofs.YtdnoeaoelgehcaaGreat

