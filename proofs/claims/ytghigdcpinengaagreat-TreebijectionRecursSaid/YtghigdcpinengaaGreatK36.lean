/-
  Texts of this claim, put together: TAll, Lights, BurnF, Stab.
-/
import Derived.Test.YtghigdcpinengaaGreatK33
import Derived.Test.YtghigdcpinengaaGreatK06
import Derived.Test.YtghigdcpinengaaGreatK34
import Derived.Deep.QuietTactic
import Derived.BigQuiet
import Derived.BigRegion
import Derived.Test.YtghigdcpinengaaGreatK35
import Derived.Test.YtghigdcpinengaaGreatK27
/-! Package tree: trees, All, Count. -/
namespace Go.Proofs.YtghigdcpinengaaGreat
open Go.RowKit Go.Shelf
attribute [local go_sem] Oper.semAt_some

set_option maxHeartbeats 1000000 in
theorem ftrees_any (n : Nat) (Ar : Option Addr) (m cr : Nat) (w : World) :
    Calls Tryz.prog 77 #[.int .i64 n, .slice Ar m cr] w fun e w' => e = .returned (.func (.func 106) #[] #[.pointer (some ⟨w.heap.size, 0, none⟩), .pointer (some ⟨w.heap.size + 1, 0, none⟩)]) ∧
      (w.alloc (.cells #[.int .i64 n] 3)).alloc (.cells #[.slice Ar m cr] 61) = w' := by
  have hmf : ∀ (fn : Fn) (first cap : Array Value) (w : World), (Instr.makeFunc fn first cap).run Tryz.prog w = .ok (.func fn first cap) w := fun _ _ _ _ => rfl
  go_enter Tryz.func77, Tryz.ntmps77
  go_wp2
  go_ret
  exact ⟨rfl, rfl⟩
/-- What All returns. -/
def tallE (n : Int) (es : List E3) : List (List Int) × Int := if joinErr n es ≠ 0 then ([], joinErr n es) else ((treesT n.toNat (endsL es)).map nI, 0)
theorem OwnQ.cap_ {w : World} {base : Nat} {A : Option Addr} {c : Nat} {ps : List (Nat × Nat)} (h : OwnQ w base A c ps) : ps.length ≤ c := by
  rcases h.2 with ⟨hv, h0⟩ | ⟨g, cap, cur, hv, _, _, h1, _⟩
  · omega
  · injection hv with _ _ e; omega

set_option maxRecDepth 100000 in
set_option maxHeartbeats 4000000 in
theorem tall_err (n : Int) (A : Option Addr) (c : Nat) (es : List E3) (hn : es.length ≤ 10000) (w : World) (h : Reads w w.heap.size 3 A es.length (edgeCells es)) (hj : joinErr n es ≠ 0) :
    Calls Tryz.prog 44 #[.agg #[.int .i64 n, .slice A es.length c]] w fun e w' => ∃ Ar cr vs, e = .returned (.tuple #[.slice Ar (tallE n es).1.length cr, .int .i64 (tallE n es).2]) ∧ OwnRows w' w.heap.size Ar cr vs (tallE n es).1 ∧ Below w.heap.size w w' := by
  have HE : Hid (tallE n es = ([], joinErr n es)) := if_pos hj
  rw [HE.out]
  have GC := Lib.hid (fun (W : World) (hB : Below w.heap.size w W) => tgiven_any n A c es hn W ((h.below hB).more hB.size))
  obtain ⟨z, hzz⟩ : ∃ z, joinErr n es = z := ⟨_, rfl⟩
  rw [hzz] at GC hj ⊢
  have hb : (z != 0) = true := by simpa using hj
  have HZ := Lib.hid hj
  have g0 := Blk.new w 24 #[.int .i64 n, .slice A es.length c]
  obtain ⟨w0, hw0⟩ : ∃ w0, ((w.alloc (.cells #[.int .i64 n, .slice A es.length c] 24)).alloc (.cells #[.slice none 0 0] 39)).alloc (.cells #[.int .i64 0] 29) = w0 := ⟨_, rfl⟩
  have hB0 : Below w.heap.size w w0 := by rw [← hw0]; exact (((Below.refl _ _).alloc (Nat.le_refl _) _).alloc (by simp) _).alloc (by simp; omega) _
  have rg : Blk w0 w.heap.size 24 #[.int .i64 n, .slice A es.length c] := by rw [← hw0]; exact (g0.alloc _).alloc _
  have r1 : Blk w0 (w.heap.size + 1) 39 #[.slice none 0 0] := by rw [← hw0]; exact (Blk.newAt (by simp)).alloc _
  have r2 : Blk w0 (w.heap.size + 2) 29 #[.int .i64 0] := by rw [← hw0]; exact Blk.newAt (by simp)
  have c0 := rg.cell 0
  have c1 := rg.cell 1
  clear hj hzz HE g0
  refine (callsIn_wide (n := 3)).1 ?_
  refine callsIn_of_wp_marks Tryz.func44 rfl trivial ?_
  simp only [Tryz.ntmps44, List.size_toArray, List.length_cons, List.length_nil, Nat.reduceAdd, Nat.reduceSub, Array.replicate_succ, Array.replicate_zero, List.push_toArray, List.append_toArray, List.nil_append, List.cons_append]
  gi_wp2_with fail
  refine ⟨trivial, ?_⟩
  refine (inW (GC.out _ hB0)).mono ?_
  rintro e w1 ⟨Ar, lr, cr, rfl, _, hg2, hb1⟩
  obtain ⟨rfl, rfl⟩ := hg2 HZ.out
  have s1 := r1.next hb1
  have s2 := r2.next hb1
  have e4 := s1.cell 0
  have e5 := s2.cell 0
  have f4 := s1.frozen 0
  have f5 := s2.frozen 0
  have BB := Lib.hid (hB0.trans (hb1.mono hB0.size))
  clear hw0 hB0 hb1 c0 c1 rg r1 r2
  gi_wp2
  have g1 : Blk ((w1.setCell ⟨w.heap.size + 1, 0, none⟩ (.slice none 0 0)).setCell ⟨w.heap.size + 2, 0, none⟩ (.int .i64 z)) (w.heap.size + 1) 39 #[.slice none 0 0] := by
    have := (s1.set_ 0 (.slice none 0 0)).far (p := ⟨w.heap.size + 2, 0, none⟩) (by simp) (.int .i64 z)
    simpa using this
  have g2 : Blk ((w1.setCell ⟨w.heap.size + 1, 0, none⟩ (.slice none 0 0)).setCell ⟨w.heap.size + 2, 0, none⟩ (.int .i64 z)) (w.heap.size + 2) 29 #[.int .i64 z] := by
    have := (s2.far (p := ⟨w.heap.size + 1, 0, none⟩) (by simp) (.slice none 0 0)).set_ 0 (.int .i64 z)
    simpa using this
  have p2 := g1.cell 0
  have p3 := g2.cell 0
  refine end_none (v := .tuple #[.slice none 0 0, .int .i64 z]) (by simp [results, Tryz.results44, go_sem, p2, p3]) ⟨none, 0, [], rfl, OwnRows.nil_ _ _, (BB.out.setCell (by show w.heap.size ≤ w.heap.size + 1; omega) _).setCell (by show w.heap.size ≤ w.heap.size + 2; omega) _⟩

set_option maxRecDepth 100000 in
set_option maxHeartbeats 8000000 in
theorem tall_ok (n : Nat) (A : Option Addr) (c : Nat) (es : List E3) (hlen : es.length ≤ 10000) (hj : joinErr n es = 0) (xss : List (List Nat)) (hxs : treesT n (endsL es) = xss) (hxl : xss.length ≤ 16384) (w : World) (h : Reads w w.heap.size 3 A es.length (edgeCells es)) :
    Calls Tryz.prog 44 #[.agg #[.int .i64 n, .slice A es.length c]] w fun e w' => ∃ Ar cr vs, e = .returned (.tuple #[.slice Ar xss.length cr, .int .i64 0]) ∧ OwnRows w' w.heap.size Ar cr vs (xss.map nI) ∧ Below w.heap.size w w' := by
  obtain ⟨hz, hG, _⟩ := join_zero hj
  have hn12 : n ≤ 12 := by have := hG.hi; omega
  have hn1 : 1 ≤ n := by have := hG.lo; omega
  have HX := Lib.hid hxs
  have HBD := Lib.hid (bd_ends hG)
  have HEL : Hid ((endsL es).length ≤ 1000000) := by have := endsL_length hG.ok; unfold Hid; omega
  have GC := Lib.hid (fun (W : World) (hB : Below w.heap.size w W) => tgiven_any n A c es hlen W ((h.below hB).more hB.size))
  rw [hj] at GC
  obtain ⟨E, hE⟩ : ∃ E, endsL es = E := ⟨_, rfl⟩
  rw [hE] at HX HBD HEL GC
  clear hxs hz hG hj hE h
  have g0 := Blk.new w 24 #[.int .i64 n, .slice A es.length c]
  obtain ⟨w0, hw0⟩ : ∃ w0, ((w.alloc (.cells #[.int .i64 n, .slice A es.length c] 24)).alloc (.cells #[.slice none 0 0] 39)).alloc (.cells #[.int .i64 0] 29) = w0 := ⟨_, rfl⟩
  have hs0 : w0.heap.size = w.heap.size + 3 := by rw [← hw0]; simp
  have hB0 : Below w.heap.size w w0 := by rw [← hw0]; exact (((Below.refl _ _).alloc (Nat.le_refl _) _).alloc (by simp) _).alloc (by simp; omega) _
  have rg : Blk w0 w.heap.size 24 #[.int .i64 n, .slice A es.length c] := by rw [← hw0]; exact (g0.alloc _).alloc _
  have r1 : Blk w0 (w.heap.size + 1) 39 #[.slice none 0 0] := by rw [← hw0]; exact (Blk.newAt (by simp)).alloc _
  have r2 : Blk w0 (w.heap.size + 2) 29 #[.int .i64 0] := by rw [← hw0]; exact Blk.newAt (by simp)
  have c0 := rg.cell 0
  have c1 := rg.cell 1
  refine (callsIn_wide (n := 3)).1 ?_
  refine callsIn_of_wp_marks Tryz.func44 rfl trivial ?_
  simp only [Tryz.ntmps44, List.size_toArray, List.length_cons, List.length_nil, Nat.reduceAdd, Nat.reduceSub, Array.replicate_succ, Array.replicate_zero, List.push_toArray, List.append_toArray, List.nil_append, List.cons_append]
  gi_wp2_with fail
  refine ⟨trivial, ?_⟩
  refine (inW (GC.out _ hB0)).mono ?_
  rintro e w1 ⟨Aq, lq, cq, rfl, hg1, _, hb1⟩
  obtain ⟨rfl, HQ⟩ := hg1 rfl
  have HQ := Lib.hid HQ
  have hs1 := hb1.size
  have g1 := rg.next hb1
  have hB1 : Below w.heap.size w w1 := hB0.trans (hb1.mono hB0.size)
  have r1' := r1.next hb1
  have r2' := r2.next hb1
  have q0' := Blk.new w1 39 #[.slice none 0 0]
  have c0' := (g1.alloc (.cells #[.slice none 0 0] 39)).cell 0
  obtain ⟨p, hp⟩ : ∃ p, w1.heap.size = p := ⟨_, rfl⟩
  have HPP := Lib.hid hp
  clear hw0 rg r1 r2 hb1 g0 hB0 GC c0 c1
  gi_wp2_with fail
  refine ⟨trivial, ?_⟩
  refine (inW (ftrees_any n Aq E.length cq _)).mono ?_
  rintro e wF ⟨rfl, hwF⟩
  have hgn4 : (w1.alloc (.cells #[.slice none 0 0] 39)).heap.size = p + 1 := by simp [hp]
  have hsF : wF.heap.size = p + 3 := by rw [← hwF]; simp [hp]
  have hB12 : Below w1.heap.size w1 wF := by rw [← hwF]; exact (((Below.refl _ _).alloc (Nat.le_refl _) _).alloc (by simp) _).alloc (by simp; omega) _
  have q0 : Blk wF p 39 #[.slice none 0 0] := by rw [← hwF, ← hp]; exact (q0'.alloc _).alloc _
  have hpz : w.heap.size + 3 ≤ p := by omega
  have hB2 : Below w.heap.size w wF := hB1.trans (hB12.mono hB1.size)
  have s1 := r1'.next hB12
  have s2 := r2'.next hB12
  have HQF : Hid (OwnQ wF w0.heap.size Aq cq E) := own_kept2 HQ.out fun j hj => hB12.block j (World.ownsRow.lt HQ.out j (blockOf_own.2 hj)).2
  have bN : Blk wF (p + 1) 3 #[.int .i64 n] := by rw [← hwF]; exact (Blk.newAt hgn4.symm).alloc _
  have bE : Blk wF (p + 2) 61 #[.slice Aq E.length cq] := by rw [← hwF]; exact Blk.newAt (by simp [hp])
  have HKA : Hid (∀ k, blockOf Aq k → k < p) := fun k hk => by have := (World.ownsRow.lt HQ.out k (blockOf_own.2 hk)).2; omega
  rw [hgn4, show p + 1 + 1 = p + 2 from rfl]
  try rw [hp]
  have HIT := Lib.hid (trees_iter n hn1 hn12 E HBD.out HEL.out Aq cq (p + 1) (p + 2) (OwnQ.cap_ HQF.out) wF bN bE (OwnQ.reads HQF.out) (fun k hk => by have := HKA.out k hk; omega))
  rw [HX.out] at HIT
  clear hwF r1' r2' hB12 hB1 hs0 hs1 g1 q0' c0' bN bE HQ HQF
  gi_wp2_with fail
  refine range_outer (n := 3) (gf := 106) (lb := #[.pointer (some ⟨p + 1, 0, none⟩), .pointer (some ⟨p + 2, 0, none⟩)]) rfl (enters_of Tryz.func106 (by kernel_rfl) rfl)
    (K := KT (p + 1) (p + 2) Aq) (xs := xss) HIT.out ?hK (fun k => k = p) ?hC
    (fun pre C W => ∃ A c vs, Blk W p 39 #[.slice A pre.length c] ∧ OwnRows W w.heap.size A c vs (pre.map nI) ∧ C p ∧ (∀ k, rowBlock A vs k → C k) ∧ Below w.heap.size w W ∧
      Blk W (w.heap.size + 1) 39 #[.slice none 0 0] ∧ Blk W (w.heap.size + 2) 29 #[.int .i64 0] ∧ (∀ k, C k → k = p ∨ p + 3 ≤ k))
    (fun _ _ _ _ => False) ?hI (fun _ _ _ _ _ h _ => h) ?h0 ?hps ?round ?done (fun _ _ _ _ _ h => h.elim)
  case hK =>
    rintro k (rfl | rfl | h1)
    · omega
    · omega
    · have := HKA.out k h1; omega
  case hC =>
    rintro k rfl
    refine ⟨by omega, ?_⟩
    rintro (e | e | h1)
    · omega
    · omega
    · have := HKA.out _ h1; omega
  case hI =>
    rintro pre C a b ⟨A, c, vs, i1, i2, i3, i4, i5, i6, i7, i8⟩ hst
    refine ⟨A, c, vs, i1.stays hst (.inl i3), i2.kept fun k hk => hst.block k (i2.lt hk).2 (.inl (i4 k hk)), i3, i4, i5.trans (hst.below (fun k hk => .inr ⟨by omega, id⟩) i5.size), i6.stays hst (.inr ⟨by omega, id⟩), i7.stays hst (.inr ⟨by omega, id⟩), i8⟩
  case h0 => exact ⟨none, 0, [], q0, OwnRows.nil_ _ _, rfl, (by rintro k (⟨a, h, _⟩ | ⟨v, h, _⟩) <;> cases h), hB2, s1, s2, fun k hk => .inl hk⟩
  case hps => rintro x' args O W' ⟨A', c', rfl, _⟩; rfl
  case round =>
    intro l pre x args C O W hpre hI hl hC hO harg hlW hnC hnO T hT
    obtain ⟨A, c, vs, i1, i2, i3, i4, i5, i6, i7, i8⟩ := hI
    obtain ⟨A8, c8, rfl, hown8, hO8⟩ := harg
    have hown8' : OwnI W w.heap.size A8 c8 (nI x) := own_rebase hown8 fun k hk => by have := (hO k (hO8 k hk)).2.2; omega
    have hpl : pre.length < 16384 := by
      obtain ⟨z, hz⟩ := hpre
      have := congrArg List.length hz
      simp at this
      omega
    have hpe : ((pre.length : Int) == 16384) = false := by simp; omega
    have hpm : (pre.map nI).length = pre.length := by simp
    have HPM := Lib.hid hpm
    clear hown8 hpm
    gi_wp2
    refine hT _ _ (Only.refl _ _) ?_
    intro w5 h5 _
    have hl5 : ∀ k, C k → k ≠ l := fun k hk e => hnC (e ▸ hk)
    have j1 : Blk w5 p 39 #[.slice A pre.length c] := i1.only h5 (by omega)
    have j2 : OwnRows w5 w.heap.size A c vs (pre.map nI) := i2.kept fun k hk => h5.block k (i2.lt hk).2 (hl5 k (i4 k hk))
    have j5 : Below w.heap.size w w5 := i5.trans (h5.below (fun k hk e => by omega) i5.size)
    have j6 := i6.only h5 (by omega)
    have j7 := i7.only h5 (by omega)
    have j8 : OwnI w5 w.heap.size A8 c8 (nI x) := own_kept hown8' fun k hk => h5.block k (own_lt hown8' hk).2 fun e => hnO (e ▸ hO8 k hk)
    have e1 := j1.cell 0
    have hC5 : ∀ k, C k → k < w5.heap.size := fun k hk => Nat.lt_of_lt_of_le (hC k hk) h5.size
    have hO5 : ∀ k, O k → p + 3 ≤ k ∧ k < w5.heap.size := fun k hk => ⟨by have := (hO k hk).2.2; omega, Nat.lt_of_lt_of_le (hO k hk).2.1 h5.size⟩
    have j21 : w5.ownsRow w.heap.size 25 1 (.slice A pre.length c) pre.length vs := by have := j2.1; rw [HPM.out] at this; exact this
    have hxl8 : (nI x).length = x.length := nI_length x
    have HXL := Lib.hid hxl8
    clear i1 i2 i5 i6 i7 hown8' hC hO hxl8
    gi_wp2_with (gi_at_builtin; refine append_gi rfl (.tmp 24) (.tmp 26) _ rfl w.heap.size 25 Tryz.underlying39 info_row rfl (by omega) A c pre.length vs rfl (World.ownsRow.alloc j21 _) _ [.slice A8 x.length c8] rfl (Reads.box _ _ _) (by simp [Value.oneCell']) (by omega) (by have := j5.size; simp; omega) ?_; intro A6 c6 w6 hown6 hg6 hb6 hw6; have k1 := (j1.alloc (.cells #[.slice A8 x.length c8] 25)).grown hg6 (own_blk_ne j21 j1 (by decide)); have e2 := k1.cell 0; have f2 := k1.frozen 0)
    have k2 : OwnRows w6 w.heap.size A6 c6 (vs ++ [.slice A8 x.length c8]) (pre.map nI ++ [nI x]) := by
      have := OwnRows.push (w := w5.alloc (.cells #[.slice A8 x.length c8] 25)) (w' := w6) (A' := A6) (c' := c6) (j2.kept fun k hk => Below.heap_alloc _ _ _ (j2.lt hk).2) (OwnI.alloc j8 _) (by rw [HXL.out, HPM.out]; exact hown6) (by rw [HPM.out]; exact hg6)
      rw [HXL.out] at this
      exact this
    have k3 : Only (fun k => C k ∨ O k) w5 w6 := ((Only.refl _ w5).alloc _).grown hg6 fun k hk => .inl (.inl (i4 k (.inl (blockOf_own.1 hk))))
    refine ⟨fun k => C k ∨ O k ∨ (w5.heap.size ≤ k ∧ k < w6.heap.size), k3.setCell (.inl (.inl i3)) _, fun k hk => ?_, A6, c6, vs ++ [.slice A8 x.length c8], ?_, ?_, .inl i3, ?_, ?_, ?_, ?_, ?_⟩
    · simpa [World.setCell] using hk
    · have := k1.set_ 0 (.slice A6 (pre.length + 1) c6)
      simpa using this
    · rw [List.map_append, List.map_singleton]; exact k2.set_blk k1 (by decide) (by decide) _ _
    · rintro k (hk | ⟨v, hv, hk⟩)
      · rcases hw6 with e | e
        · rw [blockOf_own.2 hk] at e
          exact .inl (i4 k (.inl (blockOf_own.1 e.symm)))
        · rw [blockOf_own.2 hk] at e
          injection e with e
          have hlt := (own_lt hown6 hk).2
          exact .inr (.inr ⟨by rw [e]; simp, hlt⟩)
      · rcases List.mem_append.1 hv with hv | hv
        · exact .inl (i4 k (.inr ⟨v, hv, hk⟩))
        · rw [List.mem_singleton.1 hv] at hk
          exact .inr (.inl (hO8 k (blockOf_own.1 hk)))
    · exact (j5.trans (k3.below (fun k hk e => by
        rcases e with e | e
        · have := i8 k e; omega
        · have := (hO5 k e).1; omega) j5.size)).setCell (by show w.heap.size ≤ p; omega) _
    · exact (j6.only k3 (fun e => by
        rcases e with e | e
        · have := i8 _ e; omega
        · have := (hO5 _ e).1; omega)).far (by show w.heap.size + 1 ≠ p; omega) _
    · exact (j7.only k3 (fun e => by
        rcases e with e | e
        · have := i8 _ e; omega
        · have := (hO5 _ e).1; omega)).far (by show w.heap.size + 2 ≠ p; omega) _
    · rintro k (hk | hk | hk)
      · exact i8 k hk
      · exact .inr (hO5 k hk).1
      · exact .inr (by have := h5.size; omega)
  case done =>
    rintro C W ⟨A, c, vs, i1, i2, i3, i4, i5, i6, i7, i8⟩ hnD hD
    have e1 := i1.cell 0
    have e4 := i6.cell 0
    have e5 := i7.cell 0
    have f4 := i6.frozen 0
    have f5 := i7.frozen 0
    gi_wp2
    have g1 : Blk ((W.setCell ⟨w.heap.size + 1, 0, none⟩ (.slice A xss.length c)).setCell ⟨w.heap.size + 2, 0, none⟩ (.int .i64 0)) (w.heap.size + 1) 39 #[.slice A xss.length c] := by
      have := (i6.set_ 0 (.slice A xss.length c)).far (p := ⟨w.heap.size + 2, 0, none⟩) (by simp) (.int .i64 0)
      simpa using this
    have g2 : Blk ((W.setCell ⟨w.heap.size + 1, 0, none⟩ (.slice A xss.length c)).setCell ⟨w.heap.size + 2, 0, none⟩ (.int .i64 0)) (w.heap.size + 2) 29 #[.int .i64 0] := by
      have := (i7.far (p := ⟨w.heap.size + 1, 0, none⟩) (by simp) (.slice A xss.length c)).set_ 0 (.int .i64 0)
      simpa using this
    have g3a : OwnRows (W.setCell ⟨w.heap.size + 1, 0, none⟩ (.slice A xss.length c)) w.heap.size A c vs (xss.map nI) := i2.kept fun k hk => Below.heap_setCell _ _ _ _ (fun e => by have := i8 k (i4 k hk); simp at e; omega)
    have g3 : OwnRows ((W.setCell ⟨w.heap.size + 1, 0, none⟩ (.slice A xss.length c)).setCell ⟨w.heap.size + 2, 0, none⟩ (.int .i64 0)) w.heap.size A c vs (xss.map nI) := g3a.kept fun k hk => Below.heap_setCell _ _ _ _ (fun e => by have := i8 k (i4 k hk); simp at e; omega)
    have g4 : Below w.heap.size w ((W.setCell ⟨w.heap.size + 1, 0, none⟩ (.slice A xss.length c)).setCell ⟨w.heap.size + 2, 0, none⟩ (.int .i64 0)) := (i5.setCell (by simp) _).setCell (by simp) _
    have g5 : ((W.setCell ⟨w.heap.size + 1, 0, none⟩ (.slice A xss.length c)).setCell ⟨w.heap.size + 2, 0, none⟩ (.int .i64 0)).heap[wF.heap.size]? = some (.deferred (some [])) :=
      (Below.heap_setCell _ _ _ _ (by simp; omega)).trans ((Below.heap_setCell _ _ _ _ (by simp; omega)).trans hD)
    have g6 : ∀ k, rowBlock A vs k → k ≠ wF.heap.size := fun k hk e => hnD (e ▸ i4 k hk)
    obtain ⟨Wf, hWf⟩ : ∃ Wf, (W.setCell ⟨w.heap.size + 1, 0, none⟩ (.slice A xss.length c)).setCell ⟨w.heap.size + 2, 0, none⟩ (.int .i64 0) = Wf := ⟨_, rfl⟩
    rw [hWf] at g1 g2 g3 g4 g5
    have p1 := Only.put_one Wf wF.heap.size (.deferred none)
    have p2 := (g1.only p1 (by omega)).cell 0
    have p3 := (g2.only p1 (by omega)).cell 0
    rw [show w.heap.size + 1 + 1 = w.heap.size + 2 from rfl, hWf]
    refine end_mark (v := .tuple #[.slice A xss.length c, .int .i64 0]) g5 (by simp [results, Tryz.results44, go_sem, p2, p3]) ⟨A, c, vs, rfl, g3.kept fun k hk => p1.block k (g3.lt hk).2 (g6 k hk), g4.trans (p1.below (fun k hk e => by omega) g4.size)⟩
end Go.Proofs.YtghigdcpinengaaGreat

/-! slices.Index and Contains on branches. -/
namespace Go.Proofs.YtghigdcpinengaaGreat
open Go.RowKit

set_option maxHeartbeats 1000000 in
theorem bindex_any (A : Option Addr) (c : Nat) (xs : List Int) (hn : xs.length ≤ 1048576) (v : Int) (w : World) (h : Reads w w.heap.size 1 A xs.length (ints xs)) :
    Calls Tryz.prog 143 #[.slice A xs.length c, .int .i64 v] w fun e w' => ∃ r : Int, e = .returned (.int .i64 r) ∧ Hid (0 ≤ r ↔ v ∈ xs) ∧ w = w' := by
  go_enter Tryz.func143, Tryz.ntmps143
  go_wp2
  go_loop [8] (fun i => ∃ k : Nat, k ≤ xs.length ∧ i = .int .i64 k ∧ Hid (v ∉ xs.take k)) (fun i => xs.length - (intOf i).toNat)
  case atStart => exact ⟨0, by omega, rfl, by simp [Hid]⟩
  case round =>
    obtain ⟨k, hk, rfl, HS⟩ := hrel
    by_cases hlt : k < xs.length
    · obtain ⟨x, hx⟩ := get_of_lt hlt
      obtain ⟨b, off, rfl, hb, hcell⟩ := h.at_ (ints_at hx)
      have hi : (k : Int) < (xs.length : Int) := by omega
      have htk := take_snoc hx
      by_cases hv : v = x
      · have e : (v == x) = true := by simpa using hv
        have HT : Hid (v ∈ xs) := by rw [hv]; exact List.mem_of_getElem? hx
        clear hx htk hv
        go_wp2
        go_ret
        exact ⟨k, rfl, ⟨fun _ => HT.out, fun _ => by omega⟩, rfl⟩
      · have e : (v == x) = false := by simpa using hv
        have HN : Hid (v ∉ xs.take (k + 1)) := by
          rw [htk, Hid, List.mem_append]
          rintro (hc | hc)
          · exact HS.out hc
          · exact hv (List.mem_singleton.1 hc)
        clear hx htk hv
        go_wp2
        go_round
        case rel => exact ⟨k + 1, by omega, by go_num, HN⟩
        case measure => simp [intOf]; omega
    · obtain rfl : k = xs.length := by omega
      rw [List.take_length] at HS
      go_wp2
      go_ret
      exact ⟨-1, rfl, ⟨fun h => absurd h (by decide), fun h => absurd h HS.out⟩, rfl⟩
set_option maxHeartbeats 1000000 in
theorem bcontains_any (A : Option Addr) (c : Nat) (xs : List Int) (hn : xs.length ≤ 1048576) (v : Int) (w : World) (h : Reads w w.heap.size 1 A xs.length (ints xs)) :
    Calls Tryz.prog 119 #[.slice A xs.length c, .int .i64 v] w fun e w' => e = .returned (.bool (decide (v ∈ xs))) ∧ w = w' := by
  have IC := Lib.hid (bindex_any A c xs hn v w h)
  go_enter Tryz.func119, Tryz.ntmps119
  go_wp2_with fail
  refine (IC.out).mono ?_
  rintro e w1 ⟨r, rfl, HR, rfl⟩
  go_wp2
  go_ret
  exact ⟨ret_bool (by rw [Bool.eq_iff_iff]; simp [HR.out]), rfl⟩


set_option maxHeartbeats 1000000 in
/-- A vertex burns by its chips. -/
theorem clights_any (B : Option Addr) (d n : Nat) (cs : List Int) (hl : cs.length = n) (v e : Nat) (t : Int) (hv : v < n) (w : World) (h : Reads w w.heap.size 1 B n (ints cs)) :
    Calls Tryz.prog 86 #[.slice B n d, .int .i64 (v : Int), .int .i64 (e : Int), .int .i64 t] w fun r w' => r = .returned (.bool (ltC cs v e t)) ∧ w = w' := by
  obtain ⟨x, hx⟩ := get_of_lt (xs := cs) (k := v) (by omega)
  obtain ⟨b, off, rfl, hb, hcell⟩ := h.at_ (ints_at hx)
  have hi : (v : Int) < (n : Int) := by omega
  have hlt : ltC cs v e t = decide (x ≤ t) := by unfold ltC; rw [List.getD_eq_getElem?_getD, hx]; rfl
  rw [hlt]
  clear hx hlt hl h
  by_cases hxt : x ≤ t
  · rw [decide_eq_true hxt]
    go_enter Tryz.func86, Tryz.ntmps86
    go_wp2
    go_ret
    exact ⟨ret_bool (by simp), rfl⟩
  · rw [decide_eq_false hxt]
    go_enter Tryz.func86, Tryz.ntmps86
    go_wp2
    go_ret
    exact ⟨ret_bool (by simp), rfl⟩
/-- .. by its single edge of a tree. -/
theorem blights_any (B : Option Addr) (d : Nat) (t : List Nat) (ht : t.length ≤ 1048576) (v e : Nat) (k : Int) (w : World) (h : Reads w w.heap.size 1 B t.length (ints (nI t))) :
    Calls Tryz.prog 90 #[.slice B t.length d, .int .i64 (v : Int), .int .i64 (e : Int), .int .i64 k] w fun r w' => r = .returned (.bool (ltB t v e k)) ∧ w = w' := by
  have HC : Hid (Calls Tryz.prog 119 #[.slice B t.length d, .int .i64 (e : Int)] w fun e_ w' => e_ = .returned (.bool (ltB t v e k)) ∧ w = w') := by
    have := bcontains_any B d (nI t) (by rw [nI_length]; exact ht) (e : Int) w (by rw [nI_length]; exact h)
    rw [nI_length] at this
    have e1 : decide ((e : Int) ∈ nI t) = ltB t v e k := by
      unfold ltB nI
      rw [Bool.eq_iff_iff, decide_eq_true_eq, decide_eq_true_eq, List.mem_map]
      exact ⟨fun ⟨a, ha, hae⟩ => by have : a = e := by omega
                                    exact this ▸ ha, fun h => ⟨e, h, rfl⟩⟩
    rw [e1] at this
    exact this
  obtain ⟨r, hr⟩ : ∃ r, ltB t v e k = r := ⟨_, rfl⟩
  rw [hr] at HC ⊢
  clear hr
  go_enter Tryz.func90, Tryz.ntmps90
  go_wp2_with fail
  refine (HC.out).mono ?_
  rintro e_ w1 ⟨rfl, rfl⟩
  go_wp2
  go_ret
  exact ⟨rfl, rfl⟩
end Go.Proofs.YtghigdcpinengaaGreat

/-! burning.Burn and Superstable with their errors. -/
namespace Go.Proofs.YtghigdcpinengaaGreat
open Go.RowKit Go.Shelf

/-- What Burn, Superstable return. -/
def burnE (n : Int) (es : List E3) (q : Int) (cs : List Int) : List Int × List Int × Int := if burnErr n es q cs = 0 then (natI (burntL es cs n.toNat q.toNat), natI (restL n.toNat (burntL es cs n.toNat q.toNat)), 0) else ([], [], burnErr n es q cs)
def superE (n : Int) (es : List E3) (q : Int) (cs : List Int) : Bool × Int := if burnErr n es q cs = 0 then (decide (restL n.toNat (burntL es cs n.toNat q.toNat) = []), 0) else (false, burnErr n es q cs)
set_option maxRecDepth 100000 in
set_option maxHeartbeats 4000000 in
theorem burn_any (n : Int) (A : Option Addr) (c : Nat) (es : List E3) (hn : es.length ≤ 1048576) (q : Int) (B : Option Addr) (d : Nat) (cs : List Int) (hm : cs.length ≤ 1048000) (w : World) (h : Reads w w.heap.size 3 A es.length (edgeCells es)) (h' : Reads w w.heap.size 1 B cs.length (ints cs)) :
    Calls Tryz.prog 117 #[.agg #[.int .i64 n, .slice A es.length c], .int .i64 q, .slice B cs.length d] w fun e w' => ∃ A1 c1 A2 c2, e = .returned (.tuple #[.slice A1 (burnE n es q cs).1.length c1, .slice A2 (burnE n es q cs).2.1.length c2, .int .i64 (burnE n es q cs).2.2]) ∧
      OwnI w' w.heap.size A1 c1 (burnE n es q cs).1 ∧ OwnI w' w.heap.size A2 c2 (burnE n es q cs).2.1 ∧ Below w.heap.size w w' := by
  by_cases hz : burnErr n es q cs = 0
  · obtain ⟨hG, _, hq0, hqn, _⟩ := conf_zero (burn_zero hz).1
    have hlo := hG.lo
    obtain ⟨m, rfl⟩ := Int.eq_ofNat_of_zero_le (show 0 ≤ n by omega)
    obtain ⟨p, rfl⟩ := Int.eq_ofNat_of_zero_le hq0
    have hE : burnE m es p cs = (natI (burntL es cs m p), natI (restL m (burntL es cs m p)), 0) := by unfold burnE; rw [if_pos hz]; simp
    rw [hE]
    refine (burn_ok m A c es hn p B d cs hm hz w h h').mono ?_
    rintro e w' ⟨A1, c1, A2, c2, he, o1, o2, hb⟩
    exact ⟨A1, c1, A2, c2, by dsimp only; rw [natI_length, natI_length]; exact he, o1, o2, hb⟩
  · have hE : burnE n es q cs = ([], [], burnErr n es q cs) := by unfold burnE; rw [if_neg hz]
    rw [hE]
    have hbc := bcheck_any n A c es hn q B d cs (by omega)
    obtain ⟨z, hzz⟩ : ∃ z, burnErr n es q cs = z := ⟨_, rfl⟩
    rw [hzz] at hbc hz ⊢
    have hb : (z == 0) = false := by simpa using hz
    have BC := Lib.hid hbc
    clear hz hE hbc hzz
    refine (callsIn_wide (n := 3)).1 ?_
    refine callsIn_of_wp_marks Tryz.func117 rfl trivial ?_
    simp only [Tryz.ntmps117, List.size_toArray, List.length_cons, List.length_nil, Nat.reduceAdd, Nat.reduceSub, Array.replicate_succ, Array.replicate_zero, List.push_toArray, List.append_toArray, List.nil_append, List.cons_append]
    gi_wp2_with fail
    refine ⟨trivial, ?_⟩
    refine (inW (BC.out _ ((h.alloc (Nat.le_refl _) _).more (by simp)) ((h'.alloc (Nat.le_refl _) _).more (by simp)))).mono ?_
    rintro e w1 ⟨rfl, hb1⟩
    have hbel1 : Below w.heap.size w w1 := ((Below.refl _ _).alloc (Nat.le_refl _) _).trans (hb1.mono (by simp))
    gi_wp2
    refine end_marks [] _ trivial fun w' ho => ⟨.tuple #[.slice none 0 0, .slice none 0 0, .int .i64 z], by simp [results, Tryz.results117, go_sem], none, 0, none, 0, rfl, OwnI.nil_ _ _, OwnI.nil_ _ _, ?_⟩
    exact hbel1.trans (ho.below (fun k hk e => by cases e) hbel1.size)

set_option maxRecDepth 100000 in
set_option maxHeartbeats 2000000 in
theorem super_any (n : Int) (A : Option Addr) (c : Nat) (es : List E3) (hn : es.length ≤ 1048576) (q : Int) (B : Option Addr) (d : Nat) (cs : List Int) (hm : cs.length ≤ 1048000) (w : World) (h : Reads w w.heap.size 3 A es.length (edgeCells es)) (h' : Reads w w.heap.size 1 B cs.length (ints cs)) :
    Calls Tryz.prog 84 #[.agg #[.int .i64 n, .slice A es.length c], .int .i64 q, .slice B cs.length d] w fun e w' => e = .returned (.tuple #[.bool (superE n es q cs).1, .int .i64 (superE n es q cs).2]) ∧ Below w.heap.size w w' := by
  have hE : superE n es q cs = (decide ((burnE n es q cs).2.2 = 0) && decide ((burnE n es q cs).2.1.length = 0), (burnE n es q cs).2.2) := by
    unfold superE burnE
    by_cases hz : burnErr n es q cs = 0
    · rw [if_pos hz, if_pos hz]
      simp [natI_length]
    · rw [if_neg hz, if_neg hz]
      simp [hz]
  have BC := Lib.hid (fun w h h' => burn_any n A c es hn q B d cs hm w h h')
  rw [hE]
  clear hE
  obtain ⟨⟨l, r, x⟩, hp⟩ : ∃ p, burnE n es q cs = p := ⟨_, rfl⟩
  rw [hp] at BC ⊢
  clear hp
  dsimp only at BC ⊢
  have g0 := Blk.new w 24 #[.int .i64 n, .slice A es.length c]
  by_cases hx : x = 0
  · subst hx
    obtain ⟨m, hm'⟩ : ∃ m, r.length = m := ⟨_, rfl⟩
    go_enter Tryz.func84, Tryz.ntmps84
    go_wp2_with fail
    refine (BC.out _ ((h.alloc (Nat.le_refl _) _).more (by simp)) ((h'.alloc (Nat.le_refl _) _).more (by simp))).mono ?_
    rintro e w1 ⟨A1, c1, A2, c2, rfl, _, _, hb1⟩
    have hbel1 : Below w.heap.size w w1 := ((Below.refl _ _).alloc (Nat.le_refl _) _).trans (hb1.mono (by simp))
    go_wp2
    go_ret2
    refine ⟨?_, hbel1⟩
    rw [hm', show ((m : Int) == 0) = decide (m = 0) from by rw [Bool.eq_iff_iff]; simp]
    simp
  · have hxb : (x == 0) = false := by simpa using hx
    rw [decide_eq_false hx, Bool.false_and]
    clear hx
    go_enter Tryz.func84, Tryz.ntmps84
    go_wp2_with fail
    refine (BC.out _ ((h.alloc (Nat.le_refl _) _).more (by simp)) ((h'.alloc (Nat.le_refl _) _).more (by simp))).mono ?_
    rintro e w1 ⟨A1, c1, A2, c2, rfl, _, _, hb1⟩
    have hbel1 : Below w.heap.size w w1 := ((Below.refl _ _).alloc (Nat.le_refl _) _).trans (hb1.mono (by simp))
    go_wp2
    go_ret2
    exact ⟨rfl, hbel1⟩
end Go.Proofs.YtghigdcpinengaaGreat

/-! Package stabilize: settled, given, Stabilize. -/
namespace Go.Proofs.YtghigdcpinengaaGreat
open Go.RowKit

theorem conf_sargs {n q : Nat} {es : List E3} {d : List Int} (hlen : es.length ≤ 10000) (hc : confErr n es q d = 0) : SArgs n q es d := by
  obtain ⟨hG, hC, _, hqn, hl, hb, hnn⟩ := conf_zero hc
  have hck : checkG n es = 0 := by
    rcases conf_cases n es q d with ⟨h1, hE⟩ | ⟨h1, h2, hE⟩ | ⟨h1, h2, hE⟩
    · exact absurd (hE ▸ hc) h1
    · exact absurd (hE ▸ hc) h2
    · exact (root_zero h1).1
  rw [Int.toNat_natCast] at hC
  refine ⟨hlen, hck, hC, by omega, by omega, fun v hv => ?_, fun v hv hq => hnn v (by omega) (by omega)⟩
  obtain ⟨x, hx⟩ := get_of_lt (xs := d) (k := v) (by omega)
  rw [getD_at hx]
  exact hb x (List.mem_of_getElem? hx)
set_option maxRecDepth 100000 in
set_option maxHeartbeats 4000000 in
theorem given_ok (n : Nat) (A : Option Addr) (c : Nat) (es : List E3) (hlen : es.length ≤ 10000) (q : Nat) (B : Option Addr) (cB : Nat) (d : List Int) (hc : confErr n es q d = 0) (w : World)
    (h : Reads w w.heap.size 3 A es.length (edgeCells es)) (h' : Reads w w.heap.size 1 B d.length (ints d)) :
    Calls Tryz.prog 120 #[.agg #[.int .i64 n, .slice A es.length c], .int .i64 q, .slice B d.length cB] w fun e w' => ∃ bp a, e = .returned (.tuple #[.pointer (some ⟨bp, 0, none⟩), .int .i64 0]) ∧
      PileW w' w.heap.size bp n a d q (rowsL n (endsL es)) (valL n (endsL es)) (List.replicate n 0) 0 (waitL n q d (valL n (endsL es))) ∧ Below w.heap.size w w' := by
  have hS := conf_sargs hlen hc
  have hG := right_of hS.hz
  have hn12 : n ≤ 12 := by have := hG.hi; omega
  have hq := hS.hq
  have hdl := hS.dl
  have SC := Lib.hid (scheck_any n A c es (by omega) q B cB d (by omega))
  rw [hc] at SC
  have PO := Lib.hid (fun (W : World) (hB : Below w.heap.size w W) => pileOf_any n hn12 (by omega) A c es hlen hS.hz hG.ok q B cB d hS.dl W ((h.below hB).more hB.size) ((h'.below hB).more hB.size))
  have g0 := Blk.new w 24 #[.int .i64 n, .slice A es.length c]
  clear hS hG hc hdl
  go_enter Tryz.func120, Tryz.ntmps120
  go_wp2_with fail
  refine (SC.out _ ((h.alloc (Nat.le_refl _) _).more (by simp)) ((h'.alloc (Nat.le_refl _) _).more (by simp))).mono ?_
  rintro e w1 ⟨rfl, hb1⟩
  have hB1 : Below w.heap.size w w1 := ((Below.refl _ _).alloc (Nat.le_refl _) _).trans (hb1.mono (by simp))
  have g1 := g0.next hb1
  have c0 := g1.cell 0
  have c1 := g1.cell 1
  clear g0 hb1
  go_wp2_with fail
  refine (PO.out _ hB1).mono ?_
  rintro e w2 ⟨bp, a, rfl, hP, hb2⟩
  go_wp2
  go_ret2
  exact ⟨bp, a, rfl, hP.mono hB1.size, hB1.trans (hb2.mono hB1.size)⟩
end Go.Proofs.YtghigdcpinengaaGreat

