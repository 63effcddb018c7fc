/-
  Texts of this claim, put together: TAll, RCkL, RClosed, DualT.
-/
import Derived.Test.YtnbikkcalcpedaaGreatDoorK28
import Derived.Test.YtnbikkcalcpedaaGreatDoorK27
import Derived.Test.YtnbikkcalcpedaaGreatDoorK11
import Derived.Test.YtnbikkcalcpedaaGreatDoorK20
/-! Package tree: trees, All, Count. -/
namespace Go.Proofs.YtnbikkcalcpedaaGreatDoor
open Go.RowKit Go.Shelf
attribute [local go_sem] Oper.semAt_some

set_option maxHeartbeats 1000000 in
theorem ftrees_any (n : Nat) (Ar : Option Addr) (m cr : Nat) (w : World) :
    Calls Tryz.prog 106 #[.int .i64 n, .slice Ar m cr] w fun e w' => e = .returned (.func (.func 159) #[] #[.pointer (some ⟨w.heap.size, 0, none⟩), .pointer (some ⟨w.heap.size + 1, 0, none⟩)]) ∧
      (w.alloc (.cells #[.int .i64 n] 3)).alloc (.cells #[.slice Ar m cr] 48) = w' := by
  have hmf : ∀ (fn : Fn) (first cap : Array Value) (w : World), (Instr.makeFunc fn first cap).run Tryz.prog w = .ok (.func fn first cap) w := fun _ _ _ _ => rfl
  go_enter Tryz.func106, Tryz.ntmps106
  go_wp2
  go_ret
  exact ⟨rfl, rfl⟩
/-- What All returns. -/
def tallE (n : Int) (es : List E3) : List (List Int) × Int := if joinErr n es ≠ 0 then ([], joinErr n es) else ((treesT n.toNat (endsL es)).map nI, 0)
theorem OwnQ.cap_ {w : World} {base : Nat} {A : Option Addr} {c : Nat} {ps : List (Nat × Nat)} (h : OwnQ w base A c ps) : ps.length ≤ c := by
  rcases h.2 with ⟨hv, h0⟩ | ⟨g, cap, cur, hv, _, _, h1, _⟩
  · omega
  · injection hv with _ _ e; omega

set_option maxRecDepth 100000 in
set_option maxHeartbeats 4000000 in
theorem tall_err (n : Int) (A : Option Addr) (c : Nat) (es : List E3) (hn : es.length ≤ 10000) (w : World) (h : Reads w w.heap.size 3 A es.length (edgeCells es)) (hj : joinErr n es ≠ 0) :
    Calls Tryz.prog 49 #[.agg #[.int .i64 n, .slice A es.length c]] w fun e w' => ∃ Ar cr vs, e = .returned (.tuple #[.slice Ar (tallE n es).1.length cr, .int .i64 (tallE n es).2]) ∧ OwnRows w' w.heap.size Ar cr vs (tallE n es).1 ∧ Below w.heap.size w w' := by
  have HE : Hid (tallE n es = ([], joinErr n es)) := if_pos hj
  rw [HE.out]
  have GC := Lib.hid (fun (W : World) (hB : Below w.heap.size w W) => tgiven_any n A c es hn W ((h.below hB).more hB.size))
  obtain ⟨z, hzz⟩ : ∃ z, joinErr n es = z := ⟨_, rfl⟩
  rw [hzz] at GC hj ⊢
  have hb : (z != 0) = true := by simpa using hj
  have HZ := Lib.hid hj
  have g0 := Blk.new w 24 #[.int .i64 n, .slice A es.length c]
  obtain ⟨w0, hw0⟩ : ∃ w0, ((w.alloc (.cells #[.int .i64 n, .slice A es.length c] 24)).alloc (.cells #[.slice none 0 0] 82)).alloc (.cells #[.int .i64 0] 29) = w0 := ⟨_, rfl⟩
  have hB0 : Below w.heap.size w w0 := by rw [← hw0]; exact (((Below.refl _ _).alloc (Nat.le_refl _) _).alloc (by simp) _).alloc (by simp; omega) _
  have rg : Blk w0 w.heap.size 24 #[.int .i64 n, .slice A es.length c] := by rw [← hw0]; exact (g0.alloc _).alloc _
  have r1 : Blk w0 (w.heap.size + 1) 82 #[.slice none 0 0] := by rw [← hw0]; exact (Blk.newAt (by simp)).alloc _
  have r2 : Blk w0 (w.heap.size + 2) 29 #[.int .i64 0] := by rw [← hw0]; exact Blk.newAt (by simp)
  have c0 := rg.cell 0
  have c1 := rg.cell 1
  clear hj hzz HE g0
  refine (callsIn_wide (n := 3)).1 ?_
  refine callsIn_of_wp_marks Tryz.func49 rfl trivial ?_
  simp only [Tryz.ntmps49, List.size_toArray, List.length_cons, List.length_nil, Nat.reduceAdd, Nat.reduceSub, Array.replicate_succ, Array.replicate_zero, List.push_toArray, List.append_toArray, List.nil_append, List.cons_append]
  gi_wp2_with fail
  refine ⟨trivial, ?_⟩
  refine (inW (GC.out _ hB0)).mono ?_
  rintro e w1 ⟨Ar, lr, cr, rfl, _, hg2, hb1⟩
  obtain ⟨rfl, rfl⟩ := hg2 HZ.out
  have s1 := r1.next hb1
  have s2 := r2.next hb1
  have e4 := s1.cell 0
  have e5 := s2.cell 0
  have f4 := s1.frozen 0
  have f5 := s2.frozen 0
  have BB := Lib.hid (hB0.trans (hb1.mono hB0.size))
  clear hw0 hB0 hb1 c0 c1 rg r1 r2
  gi_wp2
  have g1 : Blk ((w1.setCell ⟨w.heap.size + 1, 0, none⟩ (.slice none 0 0)).setCell ⟨w.heap.size + 2, 0, none⟩ (.int .i64 z)) (w.heap.size + 1) 82 #[.slice none 0 0] := by
    have := (s1.set_ 0 (.slice none 0 0)).far (p := ⟨w.heap.size + 2, 0, none⟩) (by simp) (.int .i64 z)
    simpa using this
  have g2 : Blk ((w1.setCell ⟨w.heap.size + 1, 0, none⟩ (.slice none 0 0)).setCell ⟨w.heap.size + 2, 0, none⟩ (.int .i64 z)) (w.heap.size + 2) 29 #[.int .i64 z] := by
    have := (s2.far (p := ⟨w.heap.size + 1, 0, none⟩) (by simp) (.slice none 0 0)).set_ 0 (.int .i64 z)
    simpa using this
  have p2 := g1.cell 0
  have p3 := g2.cell 0
  refine end_none (v := .tuple #[.slice none 0 0, .int .i64 z]) (by simp [results, Tryz.results49, go_sem, p2, p3]) ⟨none, 0, [], rfl, OwnRows.nil_ _ _, (BB.out.setCell (by show w.heap.size ≤ w.heap.size + 1; omega) _).setCell (by show w.heap.size ≤ w.heap.size + 2; omega) _⟩

set_option maxRecDepth 100000 in
set_option maxHeartbeats 8000000 in
theorem tall_ok (n : Nat) (A : Option Addr) (c : Nat) (es : List E3) (hlen : es.length ≤ 10000) (hj : joinErr n es = 0) (xss : List (List Nat)) (hxs : treesT n (endsL es) = xss) (hxl : xss.length ≤ 16384) (w : World) (h : Reads w w.heap.size 3 A es.length (edgeCells es)) :
    Calls Tryz.prog 49 #[.agg #[.int .i64 n, .slice A es.length c]] w fun e w' => ∃ Ar cr vs, e = .returned (.tuple #[.slice Ar xss.length cr, .int .i64 0]) ∧ OwnRows w' w.heap.size Ar cr vs (xss.map nI) ∧ Below w.heap.size w w' := by
  obtain ⟨hz, hG, _⟩ := join_zero hj
  have hn12 : n ≤ 12 := by have := hG.hi; omega
  have hn1 : 1 ≤ n := by have := hG.lo; omega
  have HX := Lib.hid hxs
  have HBD := Lib.hid (bd_ends hG)
  have HEL : Hid ((endsL es).length ≤ 1000000) := by have := endsL_length hG.ok; unfold Hid; omega
  have GC := Lib.hid (fun (W : World) (hB : Below w.heap.size w W) => tgiven_any n A c es hlen W ((h.below hB).more hB.size))
  rw [hj] at GC
  obtain ⟨E, hE⟩ : ∃ E, endsL es = E := ⟨_, rfl⟩
  rw [hE] at HX HBD HEL GC
  clear hxs hz hG hj hE h
  have g0 := Blk.new w 24 #[.int .i64 n, .slice A es.length c]
  obtain ⟨w0, hw0⟩ : ∃ w0, ((w.alloc (.cells #[.int .i64 n, .slice A es.length c] 24)).alloc (.cells #[.slice none 0 0] 82)).alloc (.cells #[.int .i64 0] 29) = w0 := ⟨_, rfl⟩
  have hs0 : w0.heap.size = w.heap.size + 3 := by rw [← hw0]; simp
  have hB0 : Below w.heap.size w w0 := by rw [← hw0]; exact (((Below.refl _ _).alloc (Nat.le_refl _) _).alloc (by simp) _).alloc (by simp; omega) _
  have rg : Blk w0 w.heap.size 24 #[.int .i64 n, .slice A es.length c] := by rw [← hw0]; exact (g0.alloc _).alloc _
  have r1 : Blk w0 (w.heap.size + 1) 82 #[.slice none 0 0] := by rw [← hw0]; exact (Blk.newAt (by simp)).alloc _
  have r2 : Blk w0 (w.heap.size + 2) 29 #[.int .i64 0] := by rw [← hw0]; exact Blk.newAt (by simp)
  have c0 := rg.cell 0
  have c1 := rg.cell 1
  refine (callsIn_wide (n := 3)).1 ?_
  refine callsIn_of_wp_marks Tryz.func49 rfl trivial ?_
  simp only [Tryz.ntmps49, List.size_toArray, List.length_cons, List.length_nil, Nat.reduceAdd, Nat.reduceSub, Array.replicate_succ, Array.replicate_zero, List.push_toArray, List.append_toArray, List.nil_append, List.cons_append]
  gi_wp2_with fail
  refine ⟨trivial, ?_⟩
  refine (inW (GC.out _ hB0)).mono ?_
  rintro e w1 ⟨Aq, lq, cq, rfl, hg1, _, hb1⟩
  obtain ⟨rfl, HQ⟩ := hg1 rfl
  have HQ := Lib.hid HQ
  have hs1 := hb1.size
  have g1 := rg.next hb1
  have hB1 : Below w.heap.size w w1 := hB0.trans (hb1.mono hB0.size)
  have r1' := r1.next hb1
  have r2' := r2.next hb1
  have q0' := Blk.new w1 82 #[.slice none 0 0]
  have c0' := (g1.alloc (.cells #[.slice none 0 0] 82)).cell 0
  obtain ⟨p, hp⟩ : ∃ p, w1.heap.size = p := ⟨_, rfl⟩
  have HPP := Lib.hid hp
  clear hw0 rg r1 r2 hb1 g0 hB0 GC c0 c1
  gi_wp2_with fail
  refine ⟨trivial, ?_⟩
  refine (inW (ftrees_any n Aq E.length cq _)).mono ?_
  rintro e wF ⟨rfl, hwF⟩
  have hgn4 : (w1.alloc (.cells #[.slice none 0 0] 82)).heap.size = p + 1 := by simp [hp]
  have hsF : wF.heap.size = p + 3 := by rw [← hwF]; simp [hp]
  have hB12 : Below w1.heap.size w1 wF := by rw [← hwF]; exact (((Below.refl _ _).alloc (Nat.le_refl _) _).alloc (by simp) _).alloc (by simp; omega) _
  have q0 : Blk wF p 82 #[.slice none 0 0] := by rw [← hwF, ← hp]; exact (q0'.alloc _).alloc _
  have hpz : w.heap.size + 3 ≤ p := by omega
  have hB2 : Below w.heap.size w wF := hB1.trans (hB12.mono hB1.size)
  have s1 := r1'.next hB12
  have s2 := r2'.next hB12
  have HQF : Hid (OwnQ wF w0.heap.size Aq cq E) := own_kept2 HQ.out fun j hj => hB12.block j (World.ownsRow.lt HQ.out j (blockOf_own.2 hj)).2
  have bN : Blk wF (p + 1) 3 #[.int .i64 n] := by rw [← hwF]; exact (Blk.newAt hgn4.symm).alloc _
  have bE : Blk wF (p + 2) 48 #[.slice Aq E.length cq] := by rw [← hwF]; exact Blk.newAt (by simp [hp])
  have HKA : Hid (∀ k, blockOf Aq k → k < p) := fun k hk => by have := (World.ownsRow.lt HQ.out k (blockOf_own.2 hk)).2; omega
  rw [hgn4, show p + 1 + 1 = p + 2 from rfl]
  try rw [hp]
  have HIT := Lib.hid (trees_iter n hn1 hn12 E HBD.out HEL.out Aq cq (p + 1) (p + 2) (OwnQ.cap_ HQF.out) wF bN bE (OwnQ.reads HQF.out) (fun k hk => by have := HKA.out k hk; omega))
  rw [HX.out] at HIT
  clear hwF r1' r2' hB12 hB1 hs0 hs1 g1 q0' c0' bN bE HQ HQF
  gi_wp2_with fail
  refine range_outer (n := 3) (gf := 159) (lb := #[.pointer (some ⟨p + 1, 0, none⟩), .pointer (some ⟨p + 2, 0, none⟩)]) rfl (enters_of Tryz.func159 (by kernel_rfl) rfl)
    (K := KT (p + 1) (p + 2) Aq) (xs := xss) HIT.out ?hK (fun k => k = p) ?hC
    (fun pre C W => ∃ A c vs, Blk W p 82 #[.slice A pre.length c] ∧ OwnRows W w.heap.size A c vs (pre.map nI) ∧ C p ∧ (∀ k, rowBlock A vs k → C k) ∧ Below w.heap.size w W ∧
      Blk W (w.heap.size + 1) 82 #[.slice none 0 0] ∧ Blk W (w.heap.size + 2) 29 #[.int .i64 0] ∧ (∀ k, C k → k = p ∨ p + 3 ≤ k))
    (fun _ _ _ _ => False) ?hI (fun _ _ _ _ _ h _ => h) ?h0 ?hps ?round ?done (fun _ _ _ _ _ h => h.elim)
  case hK =>
    rintro k (rfl | rfl | h1)
    · omega
    · omega
    · have := HKA.out k h1; omega
  case hC =>
    rintro k rfl
    refine ⟨by omega, ?_⟩
    rintro (e | e | h1)
    · omega
    · omega
    · have := HKA.out _ h1; omega
  case hI =>
    rintro pre C a b ⟨A, c, vs, i1, i2, i3, i4, i5, i6, i7, i8⟩ hst
    refine ⟨A, c, vs, i1.stays hst (.inl i3), i2.kept fun k hk => hst.block k (i2.lt hk).2 (.inl (i4 k hk)), i3, i4, i5.trans (hst.below (fun k hk => .inr ⟨by omega, id⟩) i5.size), i6.stays hst (.inr ⟨by omega, id⟩), i7.stays hst (.inr ⟨by omega, id⟩), i8⟩
  case h0 => exact ⟨none, 0, [], q0, OwnRows.nil_ _ _, rfl, (by rintro k (⟨a, h, _⟩ | ⟨v, h, _⟩) <;> cases h), hB2, s1, s2, fun k hk => .inl hk⟩
  case hps => rintro x' args O W' ⟨A', c', rfl, _⟩; rfl
  case round =>
    intro l pre x args C O W hpre hI hl hC hO harg hlW hnC hnO T hT
    obtain ⟨A, c, vs, i1, i2, i3, i4, i5, i6, i7, i8⟩ := hI
    obtain ⟨A8, c8, rfl, hown8, hO8⟩ := harg
    have hown8' : OwnI W w.heap.size A8 c8 (nI x) := own_rebase hown8 fun k hk => by have := (hO k (hO8 k hk)).2.2; omega
    have hpl : pre.length < 16384 := by
      obtain ⟨z, hz⟩ := hpre
      have := congrArg List.length hz
      simp at this
      omega
    have hpe : ((pre.length : Int) == 16384) = false := by simp; omega
    have hpm : (pre.map nI).length = pre.length := by simp
    have HPM := Lib.hid hpm
    clear hown8 hpm
    gi_wp2
    refine hT _ _ (Only.refl _ _) ?_
    intro w5 h5 _
    have hl5 : ∀ k, C k → k ≠ l := fun k hk e => hnC (e ▸ hk)
    have j1 : Blk w5 p 82 #[.slice A pre.length c] := i1.only h5 (by omega)
    have j2 : OwnRows w5 w.heap.size A c vs (pre.map nI) := i2.kept fun k hk => h5.block k (i2.lt hk).2 (hl5 k (i4 k hk))
    have j5 : Below w.heap.size w w5 := i5.trans (h5.below (fun k hk e => by omega) i5.size)
    have j6 := i6.only h5 (by omega)
    have j7 := i7.only h5 (by omega)
    have j8 : OwnI w5 w.heap.size A8 c8 (nI x) := own_kept hown8' fun k hk => h5.block k (own_lt hown8' hk).2 fun e => hnO (e ▸ hO8 k hk)
    have e1 := j1.cell 0
    have hC5 : ∀ k, C k → k < w5.heap.size := fun k hk => Nat.lt_of_lt_of_le (hC k hk) h5.size
    have hO5 : ∀ k, O k → p + 3 ≤ k ∧ k < w5.heap.size := fun k hk => ⟨by have := (hO k hk).2.2; omega, Nat.lt_of_lt_of_le (hO k hk).2.1 h5.size⟩
    have j21 : w5.ownsRow w.heap.size 25 1 (.slice A pre.length c) pre.length vs := by have := j2.1; rw [HPM.out] at this; exact this
    have hxl8 : (nI x).length = x.length := nI_length x
    have HXL := Lib.hid hxl8
    clear i1 i2 i5 i6 i7 hown8' hC hO hxl8
    gi_wp2_with (gi_at_builtin; refine append_gi rfl (.tmp 24) (.tmp 26) _ rfl w.heap.size 25 Tryz.underlying82 info_row rfl (by omega) A c pre.length vs rfl (World.ownsRow.alloc j21 _) _ [.slice A8 x.length c8] rfl (Reads.box _ _ _) (by simp [Value.oneCell']) (by omega) (by have := j5.size; simp; omega) ?_; intro A6 c6 w6 hown6 hg6 hb6 hw6; have k1 := (j1.alloc (.cells #[.slice A8 x.length c8] 25)).grown hg6 (own_blk_ne j21 j1 (by decide)); have e2 := k1.cell 0; have f2 := k1.frozen 0)
    have k2 : OwnRows w6 w.heap.size A6 c6 (vs ++ [.slice A8 x.length c8]) (pre.map nI ++ [nI x]) := by
      have := OwnRows.push (w := w5.alloc (.cells #[.slice A8 x.length c8] 25)) (w' := w6) (A' := A6) (c' := c6) (j2.kept fun k hk => Below.heap_alloc _ _ _ (j2.lt hk).2) (OwnI.alloc j8 _) (by rw [HXL.out, HPM.out]; exact hown6) (by rw [HPM.out]; exact hg6)
      rw [HXL.out] at this
      exact this
    have k3 : Only (fun k => C k ∨ O k) w5 w6 := ((Only.refl _ w5).alloc _).grown hg6 fun k hk => .inl (.inl (i4 k (.inl (blockOf_own.1 hk))))
    refine ⟨fun k => C k ∨ O k ∨ (w5.heap.size ≤ k ∧ k < w6.heap.size), k3.setCell (.inl (.inl i3)) _, fun k hk => ?_, A6, c6, vs ++ [.slice A8 x.length c8], ?_, ?_, .inl i3, ?_, ?_, ?_, ?_, ?_⟩
    · simpa [World.setCell] using hk
    · have := k1.set_ 0 (.slice A6 (pre.length + 1) c6)
      simpa using this
    · rw [List.map_append, List.map_singleton]; exact k2.set_blk k1 (by decide) (by decide) _ _
    · rintro k (hk | ⟨v, hv, hk⟩)
      · rcases hw6 with e | e
        · rw [blockOf_own.2 hk] at e
          exact .inl (i4 k (.inl (blockOf_own.1 e.symm)))
        · rw [blockOf_own.2 hk] at e
          injection e with e
          have hlt := (own_lt hown6 hk).2
          exact .inr (.inr ⟨by rw [e]; simp, hlt⟩)
      · rcases List.mem_append.1 hv with hv | hv
        · exact .inl (i4 k (.inr ⟨v, hv, hk⟩))
        · rw [List.mem_singleton.1 hv] at hk
          exact .inr (.inl (hO8 k (blockOf_own.1 hk)))
    · exact (j5.trans (k3.below (fun k hk e => by
        rcases e with e | e
        · have := i8 k e; omega
        · have := (hO5 k e).1; omega) j5.size)).setCell (by show w.heap.size ≤ p; omega) _
    · exact (j6.only k3 (fun e => by
        rcases e with e | e
        · have := i8 _ e; omega
        · have := (hO5 _ e).1; omega)).far (by show w.heap.size + 1 ≠ p; omega) _
    · exact (j7.only k3 (fun e => by
        rcases e with e | e
        · have := i8 _ e; omega
        · have := (hO5 _ e).1; omega)).far (by show w.heap.size + 2 ≠ p; omega) _
    · rintro k (hk | hk | hk)
      · exact i8 k hk
      · exact .inr (hO5 k hk).1
      · exact .inr (by have := h5.size; omega)
  case done =>
    rintro C W ⟨A, c, vs, i1, i2, i3, i4, i5, i6, i7, i8⟩ hnD hD
    have e1 := i1.cell 0
    have e4 := i6.cell 0
    have e5 := i7.cell 0
    have f4 := i6.frozen 0
    have f5 := i7.frozen 0
    gi_wp2
    have g1 : Blk ((W.setCell ⟨w.heap.size + 1, 0, none⟩ (.slice A xss.length c)).setCell ⟨w.heap.size + 2, 0, none⟩ (.int .i64 0)) (w.heap.size + 1) 82 #[.slice A xss.length c] := by
      have := (i6.set_ 0 (.slice A xss.length c)).far (p := ⟨w.heap.size + 2, 0, none⟩) (by simp) (.int .i64 0)
      simpa using this
    have g2 : Blk ((W.setCell ⟨w.heap.size + 1, 0, none⟩ (.slice A xss.length c)).setCell ⟨w.heap.size + 2, 0, none⟩ (.int .i64 0)) (w.heap.size + 2) 29 #[.int .i64 0] := by
      have := (i7.far (p := ⟨w.heap.size + 1, 0, none⟩) (by simp) (.slice A xss.length c)).set_ 0 (.int .i64 0)
      simpa using this
    have g3a : OwnRows (W.setCell ⟨w.heap.size + 1, 0, none⟩ (.slice A xss.length c)) w.heap.size A c vs (xss.map nI) := i2.kept fun k hk => Below.heap_setCell _ _ _ _ (fun e => by have := i8 k (i4 k hk); simp at e; omega)
    have g3 : OwnRows ((W.setCell ⟨w.heap.size + 1, 0, none⟩ (.slice A xss.length c)).setCell ⟨w.heap.size + 2, 0, none⟩ (.int .i64 0)) w.heap.size A c vs (xss.map nI) := g3a.kept fun k hk => Below.heap_setCell _ _ _ _ (fun e => by have := i8 k (i4 k hk); simp at e; omega)
    have g4 : Below w.heap.size w ((W.setCell ⟨w.heap.size + 1, 0, none⟩ (.slice A xss.length c)).setCell ⟨w.heap.size + 2, 0, none⟩ (.int .i64 0)) := (i5.setCell (by simp) _).setCell (by simp) _
    have g5 : ((W.setCell ⟨w.heap.size + 1, 0, none⟩ (.slice A xss.length c)).setCell ⟨w.heap.size + 2, 0, none⟩ (.int .i64 0)).heap[wF.heap.size]? = some (.deferred (some [])) :=
      (Below.heap_setCell _ _ _ _ (by simp; omega)).trans ((Below.heap_setCell _ _ _ _ (by simp; omega)).trans hD)
    have g6 : ∀ k, rowBlock A vs k → k ≠ wF.heap.size := fun k hk e => hnD (e ▸ i4 k hk)
    obtain ⟨Wf, hWf⟩ : ∃ Wf, (W.setCell ⟨w.heap.size + 1, 0, none⟩ (.slice A xss.length c)).setCell ⟨w.heap.size + 2, 0, none⟩ (.int .i64 0) = Wf := ⟨_, rfl⟩
    rw [hWf] at g1 g2 g3 g4 g5
    have p1 := Only.put_one Wf wF.heap.size (.deferred none)
    have p2 := (g1.only p1 (by omega)).cell 0
    have p3 := (g2.only p1 (by omega)).cell 0
    rw [show w.heap.size + 1 + 1 = w.heap.size + 2 from rfl, hWf]
    refine end_mark (v := .tuple #[.slice A xss.length c, .int .i64 0]) g5 (by simp [results, Tryz.results49, go_sem, p2, p3]) ⟨A, c, vs, rfl, g3.kept fun k hk => p1.block k (g3.lt hk).2 (g6 k hk), g4.trans (p1.below (fun k hk e => by omega) g4.size)⟩
end Go.Proofs.YtnbikkcalcpedaaGreatDoor

/-! ref10.Edges and ref13.Check at lists of any length. -/
namespace Go.Proofs.YtnbikkcalcpedaaGreatDoor
open Go.RowKit
set_option maxRecDepth 100000 in
set_option maxHeartbeats 4000000 in
theorem redgesL_any (n : Int) (A : Option Addr) (c : Nat) (es : List E3) (hn : es.length ≤ 40) (hok : ∀ e ∈ es, okE n e) (B : Option Addr) (d : Nat) (xs : List Int) (hm : xs.length ≤ 9223372036854775807) (w : World) (h : Reads w w.heap.size 3 A es.length (edgeCells es)) (h' : Reads w w.heap.size 1 B xs.length (ints xs)) :
    Calls Tryz.prog 68 #[.agg #[.int .i64 n, .slice A es.length c], .slice B xs.length d] w fun e w' => e = .returned (.int .i64 (edgErr (endsL es).length xs)) ∧ Below w.heap.size w w' := by
  have SC := Lib.hid (fun (W : World) (hB : Below w.heap.size w W) => rsize_any n A c es hn n hok W ((h.below hB).more hB.size))
  rw [size_ends] at SC
  have g0 := Blk.new w 24 #[.int .i64 n, .slice A es.length c]
  have hb0 : Below w.heap.size w (w.alloc (.cells #[.int .i64 n, .slice A es.length c] 24)) := (Below.refl _ _).alloc (Nat.le_refl _) _
  have c0 := g0.cell 0
  have c1 := g0.cell 1
  have hel := endsL_len40 hok hn
  obtain ⟨m, hmm⟩ : ∃ m, (endsL es).length = m := ⟨_, rfl⟩
  rw [hmm] at SC hel ⊢
  obtain ⟨z, hzz⟩ : ∃ z, edgErr m xs = z := ⟨_, rfl⟩
  rw [hzz]
  have HZ : Hid (edgFrom m (prevJ xs 0) (xs.drop 0) = z) := hzz
  clear hok hmm hzz
  go_enter Tryz.func68, Tryz.ntmps68
  go_wp2_with fail
  refine (SC.out _ hb0).mono ?_
  rintro e w1 ⟨rfl, hb1⟩
  have B1 := hb0.trans (hb1.mono hb0.size)
  clear g0 hb0 c0 c1 hb1
  go_wp2_with fail
  go_loopw [6] (fun i wr => ∃ k : Nat, k ≤ xs.length ∧ i = .int .i64 k ∧ Hid (edgFrom m (prevJ xs k) (xs.drop k) = z) ∧ Hid (Below w.heap.size w wr)) (fun i _ => xs.length - (intOf i).toNat)
  case atStart => exact ⟨0, by omega, rfl, HZ, B1⟩
  case round =>
    obtain ⟨k, hk, rfl, HE, HB⟩ := hrel
    clear HZ B1
    by_cases hlt : k < xs.length
    · have hi : (k : Int) < (xs.length : Int) := by omega
      obtain ⟨x, hx⟩ := get_of_lt hlt
      obtain ⟨bB, oB, hA, hbB, hcell⟩ := (h'.below HB.out).at_ (ints_at hx)
      subst hA
      have hat := edgFrom_at (m := m) hx
      rw [HE.out] at hat
      by_cases h1 : x < 0
      · rw [if_pos (.inl h1)] at hat
        have HA := Lib.hid hat
        have hd1 : decide (x < 0) = true := decide_eq_true h1
        clear hx hat
        go_wp2
        go_ret
        exact ⟨by rw [HA.out]; rfl, HB.out⟩
      · have hd1 : decide (x < 0) = false := decide_eq_false h1
        by_cases h2 : (m : Int) ≤ x
        · rw [if_pos (.inr h2)] at hat
          have HA := Lib.hid hat
          have hd2 : decide ((m : Int) ≤ x) = true := decide_eq_true h2
          clear hx hat
          go_wp2
          go_ret
          exact ⟨by rw [HA.out]; rfl, HB.out⟩
        · rw [if_neg (fun hc => hc.elim h1 h2)] at hat
          have hd2 : decide ((m : Int) ≤ x) = false := decide_eq_false h2
          have HBD := Lib.hid (HB.out.drew)
          by_cases hk0 : k = 0
          · have HA : Hid (z = edgFrom m (prevJ xs (k + 1)) (xs.drop (k + 1))) := hat.trans (if_neg (by simp [prevJ, hk0, leP]))
            have hkp : ¬ (0 : Int) < (k : Int) := by omega
            have hkd : decide ((0 : Int) < (k : Int)) = false := decide_eq_false hkp
            have hkn : ¬ 0 < k := by omega
            have hkm : decide (0 < k) = false := decide_eq_false hkn
            clear hx hat hk0
            go_wp2_with fail
            go_quiet (fail)
            go_wp2
            go_roundw
            case rel => exact ⟨k + 1, by omega, by go_num, HA.out.symm, below_drewN HB.out _⟩
            case measure => simp [intOf]; omega
          · obtain ⟨j, rfl⟩ : ∃ j, k = j + 1 := ⟨k - 1, by omega⟩
            obtain ⟨y, hy⟩ := get_of_lt (xs := xs) (k := j) (by omega)
            obtain ⟨bB', oB', hA', _, hcell2⟩ := (h'.below HB.out).at_ (ints_at hy)
            injection hA' with hA'
            injection hA' with e1 e2
            subst e1 e2
            have hprev : prevJ xs (j + 1) = some y := by rw [prevI_succ]; exact hy
            rw [hprev] at hat
            have hk1 : IntKind.i64.wrap (((j + 1 : Nat) : Int) - 1) = (j : Int) := by rw [IntWalk.i64_in _ (by omega)]; omega
            have hkp : (0 : Int) < ((j + 1 : Nat) : Int) := by omega
            have hkq : (0 : Int) < (j : Int) + 1 := by omega
            have hkd : decide ((0 : Int) < (j : Int) + 1) = true := decide_eq_true hkq
            have hjl : (j : Int) < (xs.length : Int) := by omega
            have hm1 : IntKind.i64.wrap ((j : Int) + 1 - 1) = (j : Int) := by rw [IntWalk.i64_in _ (by omega)]; omega
            by_cases h3 : x ≤ y
            · have HA : Hid (z = 9) := hat.trans (if_pos (by simpa [leP] using h3))
              have hd3 : decide (x ≤ y) = true := decide_eq_true h3
              clear hx hat hy hprev
              go_wp2_with fail
              go_quiet (fail)
              go_wp2
              go_ret
              exact ⟨by rw [HA.out]; rfl, below_drewN HB.out _⟩
            · have HA : Hid (z = edgFrom m (prevJ xs (j + 1 + 1)) (xs.drop (j + 1 + 1))) := hat.trans (if_neg (by simpa [leP] using h3))
              have hd3 : decide (x ≤ y) = false := decide_eq_false h3
              clear hx hat hy hprev
              go_wp2_with fail
              go_quiet (fail)
              go_wp2
              go_roundw
              case rel => exact ⟨j + 1 + 1, by omega, by go_num, HA.out.symm, below_drewN HB.out _⟩
              case measure => simp [intOf]; omega
    · obtain rfl : k = xs.length := by omega
      have hz0 : Hid (z = 0) := by rw [Hid, ← HE.out, List.drop_length]; rfl
      go_wp2
      go_ret
      exact ⟨by rw [hz0.out]; rfl, HB.out⟩

set_option maxRecDepth 100000 in
set_option maxHeartbeats 4000000 in
theorem rtcheckL_any (n : Int) (A : Option Addr) (c : Nat) (es : List E3) (hn : es.length ≤ 40) (B : Option Addr) (d : Nat) (xs : List Int) (hm : xs.length ≤ 9223372036854775807) (w : World) (h : Reads w w.heap.size 3 A es.length (edgeCells es)) (h' : Reads w w.heap.size 1 B xs.length (ints xs)) :
    Calls Tryz.prog 21 #[.agg #[.int .i64 n, .slice A es.length c], .slice B xs.length d] w fun e w' => e = .returned (.int .i64 (treeErr n es xs)) ∧ Below w.heap.size w w' := by
  have JC := Lib.hid (fun (W : World) (hB : Below w.heap.size w W) => rjoinedErr_any n A c es (by omega) W ((h.below hB).more hB.size))
  have g0 := Blk.new w 24 #[.int .i64 n, .slice A es.length c]
  have hb0 : Below w.heap.size w (w.alloc (.cells #[.int .i64 n, .slice A es.length c] 24)) := (Below.refl _ _).alloc (Nat.le_refl _) _
  have c0 := g0.cell 0
  have c1 := g0.cell 1
  by_cases hj : joinErr n es = 0
  · obtain ⟨hz, hG, _⟩ := join_zero hj
    have hlo := hG.lo
    have hhi := hG.hi
    obtain ⟨m, rfl⟩ := Int.eq_ofNat_of_zero_le (show 0 ≤ n by omega)
    rw [hj] at JC
    have EC := Lib.hid (fun (W : World) (hB : Below w.heap.size w W) => redgesL_any m A c es hn hG.ok B d xs hm W ((h.below hB).more hB.size) ((h'.below hB).more hB.size))
    have hbd := bd_ends hG
    by_cases he : edgErr (endsL es).length xs = 0
    · obtain ⟨t, rfl, hs⟩ := edg_set he
      rw [he] at EC
      have htt : (nI t).map Int.toNat = t := by
        unfold nI
        rw [List.map_map]
        conv => rhs; rw [← List.map_id t]
        exact List.map_congr_left fun x _ => by simp
      have hnl := nI_length t
      have HE : Hid (treeErr m es (nI t) = if (t.length : Int) + 1 ≠ (m : Int) then 8 else if spansB m (endsL es) t = true then 0 else 3) := by
        unfold Hid treeErr spansB
        rw [if_neg (fun hc => hc hj), if_neg (fun hc => hc he), htt, hnl]
        by_cases hl : (t.length : Int) + 1 = (m : Int)
        · rw [decide_eq_true (show t.length + 1 = m by omega), Bool.and_true]
        · rw [if_pos hl, if_pos hl]
      obtain ⟨z, hzz⟩ : ∃ z, treeErr m es (nI t) = z := ⟨_, rfl⟩
      rw [hzz] at HE ⊢
      have hwn : IntKind.i64.wrap ((m : Int) - 1) = (m : Int) - 1 := IntWalk.i64_in _ (by omega)
      by_cases hl : (t.length : Int) + 1 = (m : Int)
      · have SC := Lib.hid (fun (W : World) (hB : Below w.heap.size w W) => ris13_any m A c es hn hG B d t hs.2 (by omega) W ((h.below hB).more hB.size) (by rw [← hnl]; exact (h'.below hB).more hB.size))
        have hne : ((t.length : Int) != (m : Int) - 1) = false := by simp; omega
        have HE2 : Hid (z = if spansB m (endsL es) t = true then 0 else 3) := HE.out.trans (if_neg (fun hc => hc hl))
        obtain ⟨sb, hsb⟩ : ∃ sb, spansB m (endsL es) t = sb := ⟨_, rfl⟩
        rw [hsb] at SC HE2
        rw [hnl] at EC h' ⊢
        clear hz hG hj he htt hzz hs hbd hl hsb HE
        go_enter Tryz.func21, Tryz.ntmps21
        go_wp2_with fail
        refine (JC.out _ hb0).mono ?_
        rintro e w1 ⟨rfl, hb1⟩
        have B1 := hb0.trans (hb1.mono hb0.size)
        have g1 := g0.next hb1
        have c0 := g1.cell 0
        have c1 := g1.cell 1
        clear g0 hb0 hb1
        go_wp2_with fail
        refine (EC.out _ B1).mono ?_
        rintro e w2 ⟨rfl, hb2⟩
        have B2 := B1.trans (hb2.mono B1.size)
        have g2 := g1.next hb2
        have c0 := g2.cell 0
        have c1 := g2.cell 1
        clear g1 hb2 B1
        go_wp2_with fail
        refine (SC.out _ B2).mono ?_
        rintro e w3 ⟨rfl, hb3⟩
        have B3 := B2.trans (hb3.mono B2.size)
        cases sb
        · have HI : Hid (z = 3) := HE2.out
          go_wp2
          go_ret
          exact ⟨by rw [HI.out]; rfl, B3⟩
        · have HI : Hid (z = 0) := HE2.out
          go_wp2
          go_ret
          exact ⟨by rw [HI.out]; rfl, B3⟩
      · have hne : ((t.length : Int) != (m : Int) - 1) = true := by simp; omega
        have HI : Hid (z = 8) := HE.out.trans (if_pos hl)
        rw [hnl] at EC h' ⊢
        clear hz hG hj he htt hzz hs hbd hl HE
        go_enter Tryz.func21, Tryz.ntmps21
        go_wp2_with fail
        refine (JC.out _ hb0).mono ?_
        rintro e w1 ⟨rfl, hb1⟩
        have B1 := hb0.trans (hb1.mono hb0.size)
        have g1 := g0.next hb1
        have c0 := g1.cell 0
        have c1 := g1.cell 1
        clear g0 hb0 hb1
        go_wp2_with fail
        refine (EC.out _ B1).mono ?_
        rintro e w2 ⟨rfl, hb2⟩
        have B2 := B1.trans (hb2.mono B1.size)
        have g2 := g1.next hb2
        have c0 := g2.cell 0
        have c1 := g2.cell 1
        go_wp2
        go_ret
        exact ⟨by rw [HI.out]; rfl, B2⟩
    · have HE : Hid (treeErr m es xs = edgErr (endsL es).length xs) := by
        unfold Hid treeErr
        rw [if_neg (fun hc => hc hj), if_pos he]
      rw [HE.out]
      obtain ⟨z, hzz⟩ : ∃ z, edgErr (endsL es).length xs = z := ⟨_, rfl⟩
      rw [hzz] at EC he ⊢
      have hb : (z != 0) = true := by simpa using he
      clear hz hG hj he hzz hbd HE
      go_enter Tryz.func21, Tryz.ntmps21
      go_wp2_with fail
      refine (JC.out _ hb0).mono ?_
      rintro e w1 ⟨rfl, hb1⟩
      have B1 := hb0.trans (hb1.mono hb0.size)
      have g1 := g0.next hb1
      have c0 := g1.cell 0
      have c1 := g1.cell 1
      clear g0 hb0 hb1
      go_wp2_with fail
      refine (EC.out _ B1).mono ?_
      rintro e w2 ⟨rfl, hb2⟩
      go_wp2
      go_ret
      exact ⟨rfl, B1.trans (hb2.mono B1.size)⟩
  · have HE : Hid (treeErr n es xs = joinErr n es) := by
      unfold Hid treeErr
      rw [if_pos hj]
    rw [HE.out]
    obtain ⟨z, hzz⟩ : ∃ z, joinErr n es = z := ⟨_, rfl⟩
    rw [hzz] at JC hj ⊢
    have hb : (z != 0) = true := by simpa using hj
    clear hj hzz HE
    go_enter Tryz.func21, Tryz.ntmps21
    go_wp2_with fail
    refine (JC.out _ hb0).mono ?_
    rintro e w1 ⟨rfl, hb1⟩
    go_wp2
    go_ret
    exact ⟨rfl, hb0.trans (hb1.mono hb0.size)⟩

end Go.Proofs.YtnbikkcalcpedaaGreatDoor

/-! ref13.Closed, Cycle. -/
namespace Go.Proofs.YtnbikkcalcpedaaGreatDoor
open Go.RowKit

end Go.Proofs.YtnbikkcalcpedaaGreatDoor

/-! Plain laws of cycles, cutsets and swaps in a spanning tree, as the program returns them. -/
namespace Go.Proofs.YtnbikkcalcpedaaGreatDoor
open Go.RowKit

theorem mem_nI9 {v : Nat} {S : List Nat} : (v : Int) ∈ nI S ↔ v ∈ S := by
  unfold nI
  rw [List.mem_map]
  constructor
  · rintro ⟨u, hu, e⟩; have : u = v := by omega
    exact this ▸ hu
  · intro h; exact ⟨v, h, rfl⟩
theorem edgFrom_ok {m : Nat} : ∀ {t : List Nat} {p : Option Int}, t.Pairwise (· < ·) → (∀ e ∈ t, e < m) → (∀ y, p = some y → ∀ e ∈ t, y < (e : Int)) → edgFrom m p (nI t) = 0
  | [], _, _, _, _ => rfl
  | e :: t, p, h1, h2, h3 => by
    have he := h2 e (by simp)
    show (if (e : Int) < 0 ∨ (m : Int) ≤ (e : Int) then 2 else if leP p (e : Int) = true then 9 else edgFrom m (some (e : Int)) (nI t)) = 0
    rw [if_neg (by omega), if_neg]
    · rw [List.pairwise_cons] at h1
      refine edgFrom_ok h1.2 (fun x hx => h2 x (by simp [hx])) ?_
      rintro y hy x hx
      injection hy with hy
      have := h1.1 x hx
      omega
    · unfold leP
      cases p with
      | none => simp
      | some y =>
        have := h3 y rfl e (by simp)
        simp; omega
theorem edg_ok {m : Nat} {t : List Nat} (h : SetN m t) : edgErr m (nI t) = 0 := edgFrom_ok h.1 h.2 (fun y hy => by cases hy)
theorem tree_ok {m : Nat} {es : List E3} {t : List Nat} (hj : joinErr m es = 0) (h : IsTr m (endsL es) t) : treeErr m es (nI t) = 0 := by
  have hl := h.len
  have e2 : (nI t).map Int.toNat = t := toN_nI t
  unfold treeErr
  rw [if_neg (fun hc => hc hj), if_neg (fun hc => hc (edg_ok h.set)), if_neg (by rw [nI_length]; omega), e2, if_pos (foB_iff.2 h.fo)]
end Go.Proofs.YtnbikkcalcpedaaGreatDoor

