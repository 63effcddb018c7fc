/-
  Texts of this claim, put together: TAll, FireB, Burn, Settle, RForbP, RFire, DulP, WavesP, RClosed, DualT, RAll13, TCount, Lights, BurnF, Stab, RRecur, AgreesP, RCutset, ActP, DivP, LitF, RSettled, SupP.
-/
import Derived.Test.YtnbikkcalcpedaaGreatDoorK28
import Derived.Test.YtnbikkcalcpedaaGreatDoorK17
import Derived.Test.YtnbikkcalcpedaaGreatDoorK15
import Derived.Test.YtnbikkcalcpedaaGreatDoorK10
import Derived.Deep.RegionHeld3
import Derived.Test.YtnbikkcalcpedaaGreatDoorK12
import Derived.Test.YtnbikkcalcpedaaGreatDoorK27
import Derived.Test.YtnbikkcalcpedaaGreatDoorK19
import Derived.Test.YtnbikkcalcpedaaGreatDoorK09
import Derived.Deep.QuietTactic
import Derived.BigQuiet
import Derived.BigRegion
import Derived.Test.YtnbikkcalcpedaaGreatDoorK23
import Derived.Deep.RegionLaw
import Derived.Deep.CutRange
import Derived.Deep.DrawnRows
import Derived.Test.YtnbikkcalcpedaaGreatDoorK22
import Derived.Test.YtnbikkcalcpedaaGreatDoorK18
import Derived.Deep.CutBlock
/-! Package tree: trees, All, Count. -/
namespace Go.Proofs.YtnbikkcalcpedaaGreatDoor
open Go.RowKit Go.Shelf
attribute [local go_sem] Oper.semAt_some

set_option maxHeartbeats 1000000 in
theorem ftrees_any (n : Nat) (Ar : Option Addr) (m cr : Nat) (w : World) :
    Calls Tryz.prog 106 #[.int .i64 n, .slice Ar m cr] w fun e w' => e = .returned (.func (.func 159) #[] #[.pointer (some ⟨w.heap.size, 0, none⟩), .pointer (some ⟨w.heap.size + 1, 0, none⟩)]) ∧
      (w.alloc (.cells #[.int .i64 n] 3)).alloc (.cells #[.slice Ar m cr] 48) = w' := by
  have hmf : ∀ (fn : Fn) (first cap : Array Value) (w : World), (Instr.makeFunc fn first cap).run Tryz.prog w = .ok (.func fn first cap) w := fun _ _ _ _ => rfl
  go_enter Tryz.func106, Tryz.ntmps106
  go_wp2
  go_ret
  exact ⟨rfl, rfl⟩
/-- What All returns. -/
def tallE (n : Int) (es : List E3) : List (List Int) × Int := if joinErr n es ≠ 0 then ([], joinErr n es) else ((treesT n.toNat (endsL es)).map nI, 0)
theorem OwnQ.cap_ {w : World} {base : Nat} {A : Option Addr} {c : Nat} {ps : List (Nat × Nat)} (h : OwnQ w base A c ps) : ps.length ≤ c := by
  rcases h.2 with ⟨hv, h0⟩ | ⟨g, cap, cur, hv, _, _, h1, _⟩
  · omega
  · injection hv with _ _ e; omega

set_option maxRecDepth 100000 in
set_option maxHeartbeats 4000000 in
theorem tall_err (n : Int) (A : Option Addr) (c : Nat) (es : List E3) (hn : es.length ≤ 10000) (w : World) (h : Reads w w.heap.size 3 A es.length (edgeCells es)) (hj : joinErr n es ≠ 0) :
    Calls Tryz.prog 49 #[.agg #[.int .i64 n, .slice A es.length c]] w fun e w' => ∃ Ar cr vs, e = .returned (.tuple #[.slice Ar (tallE n es).1.length cr, .int .i64 (tallE n es).2]) ∧ OwnRows w' w.heap.size Ar cr vs (tallE n es).1 ∧ Below w.heap.size w w' := by
  have HE : Hid (tallE n es = ([], joinErr n es)) := if_pos hj
  rw [HE.out]
  have GC := Lib.hid (fun (W : World) (hB : Below w.heap.size w W) => tgiven_any n A c es hn W ((h.below hB).more hB.size))
  obtain ⟨z, hzz⟩ : ∃ z, joinErr n es = z := ⟨_, rfl⟩
  rw [hzz] at GC hj ⊢
  have hb : (z != 0) = true := by simpa using hj
  have HZ := Lib.hid hj
  have g0 := Blk.new w 24 #[.int .i64 n, .slice A es.length c]
  obtain ⟨w0, hw0⟩ : ∃ w0, ((w.alloc (.cells #[.int .i64 n, .slice A es.length c] 24)).alloc (.cells #[.slice none 0 0] 82)).alloc (.cells #[.int .i64 0] 29) = w0 := ⟨_, rfl⟩
  have hB0 : Below w.heap.size w w0 := by rw [← hw0]; exact (((Below.refl _ _).alloc (Nat.le_refl _) _).alloc (by simp) _).alloc (by simp; omega) _
  have rg : Blk w0 w.heap.size 24 #[.int .i64 n, .slice A es.length c] := by rw [← hw0]; exact (g0.alloc _).alloc _
  have r1 : Blk w0 (w.heap.size + 1) 82 #[.slice none 0 0] := by rw [← hw0]; exact (Blk.newAt (by simp)).alloc _
  have r2 : Blk w0 (w.heap.size + 2) 29 #[.int .i64 0] := by rw [← hw0]; exact Blk.newAt (by simp)
  have c0 := rg.cell 0
  have c1 := rg.cell 1
  clear hj hzz HE g0
  refine (callsIn_wide (n := 3)).1 ?_
  refine callsIn_of_wp_marks Tryz.func49 rfl trivial ?_
  simp only [Tryz.ntmps49, List.size_toArray, List.length_cons, List.length_nil, Nat.reduceAdd, Nat.reduceSub, Array.replicate_succ, Array.replicate_zero, List.push_toArray, List.append_toArray, List.nil_append, List.cons_append]
  gi_wp2_with fail
  refine ⟨trivial, ?_⟩
  refine (inW (GC.out _ hB0)).mono ?_
  rintro e w1 ⟨Ar, lr, cr, rfl, _, hg2, hb1⟩
  obtain ⟨rfl, rfl⟩ := hg2 HZ.out
  have s1 := r1.next hb1
  have s2 := r2.next hb1
  have e4 := s1.cell 0
  have e5 := s2.cell 0
  have f4 := s1.frozen 0
  have f5 := s2.frozen 0
  have BB := Lib.hid (hB0.trans (hb1.mono hB0.size))
  clear hw0 hB0 hb1 c0 c1 rg r1 r2
  gi_wp2
  have g1 : Blk ((w1.setCell ⟨w.heap.size + 1, 0, none⟩ (.slice none 0 0)).setCell ⟨w.heap.size + 2, 0, none⟩ (.int .i64 z)) (w.heap.size + 1) 82 #[.slice none 0 0] := by
    have := (s1.set_ 0 (.slice none 0 0)).far (p := ⟨w.heap.size + 2, 0, none⟩) (by simp) (.int .i64 z)
    simpa using this
  have g2 : Blk ((w1.setCell ⟨w.heap.size + 1, 0, none⟩ (.slice none 0 0)).setCell ⟨w.heap.size + 2, 0, none⟩ (.int .i64 z)) (w.heap.size + 2) 29 #[.int .i64 z] := by
    have := (s2.far (p := ⟨w.heap.size + 1, 0, none⟩) (by simp) (.slice none 0 0)).set_ 0 (.int .i64 z)
    simpa using this
  have p2 := g1.cell 0
  have p3 := g2.cell 0
  refine end_none (v := .tuple #[.slice none 0 0, .int .i64 z]) (by simp [results, Tryz.results49, go_sem, p2, p3]) ⟨none, 0, [], rfl, OwnRows.nil_ _ _, (BB.out.setCell (by show w.heap.size ≤ w.heap.size + 1; omega) _).setCell (by show w.heap.size ≤ w.heap.size + 2; omega) _⟩

set_option maxRecDepth 100000 in
set_option maxHeartbeats 8000000 in
theorem tall_ok (n : Nat) (A : Option Addr) (c : Nat) (es : List E3) (hlen : es.length ≤ 10000) (hj : joinErr n es = 0) (xss : List (List Nat)) (hxs : treesT n (endsL es) = xss) (hxl : xss.length ≤ 16384) (w : World) (h : Reads w w.heap.size 3 A es.length (edgeCells es)) :
    Calls Tryz.prog 49 #[.agg #[.int .i64 n, .slice A es.length c]] w fun e w' => ∃ Ar cr vs, e = .returned (.tuple #[.slice Ar xss.length cr, .int .i64 0]) ∧ OwnRows w' w.heap.size Ar cr vs (xss.map nI) ∧ Below w.heap.size w w' := by
  obtain ⟨hz, hG, _⟩ := join_zero hj
  have hn12 : n ≤ 12 := by have := hG.hi; omega
  have hn1 : 1 ≤ n := by have := hG.lo; omega
  have HX := Lib.hid hxs
  have HBD := Lib.hid (bd_ends hG)
  have HEL : Hid ((endsL es).length ≤ 1000000) := by have := endsL_length hG.ok; unfold Hid; omega
  have GC := Lib.hid (fun (W : World) (hB : Below w.heap.size w W) => tgiven_any n A c es hlen W ((h.below hB).more hB.size))
  rw [hj] at GC
  obtain ⟨E, hE⟩ : ∃ E, endsL es = E := ⟨_, rfl⟩
  rw [hE] at HX HBD HEL GC
  clear hxs hz hG hj hE h
  have g0 := Blk.new w 24 #[.int .i64 n, .slice A es.length c]
  obtain ⟨w0, hw0⟩ : ∃ w0, ((w.alloc (.cells #[.int .i64 n, .slice A es.length c] 24)).alloc (.cells #[.slice none 0 0] 82)).alloc (.cells #[.int .i64 0] 29) = w0 := ⟨_, rfl⟩
  have hs0 : w0.heap.size = w.heap.size + 3 := by rw [← hw0]; simp
  have hB0 : Below w.heap.size w w0 := by rw [← hw0]; exact (((Below.refl _ _).alloc (Nat.le_refl _) _).alloc (by simp) _).alloc (by simp; omega) _
  have rg : Blk w0 w.heap.size 24 #[.int .i64 n, .slice A es.length c] := by rw [← hw0]; exact (g0.alloc _).alloc _
  have r1 : Blk w0 (w.heap.size + 1) 82 #[.slice none 0 0] := by rw [← hw0]; exact (Blk.newAt (by simp)).alloc _
  have r2 : Blk w0 (w.heap.size + 2) 29 #[.int .i64 0] := by rw [← hw0]; exact Blk.newAt (by simp)
  have c0 := rg.cell 0
  have c1 := rg.cell 1
  refine (callsIn_wide (n := 3)).1 ?_
  refine callsIn_of_wp_marks Tryz.func49 rfl trivial ?_
  simp only [Tryz.ntmps49, List.size_toArray, List.length_cons, List.length_nil, Nat.reduceAdd, Nat.reduceSub, Array.replicate_succ, Array.replicate_zero, List.push_toArray, List.append_toArray, List.nil_append, List.cons_append]
  gi_wp2_with fail
  refine ⟨trivial, ?_⟩
  refine (inW (GC.out _ hB0)).mono ?_
  rintro e w1 ⟨Aq, lq, cq, rfl, hg1, _, hb1⟩
  obtain ⟨rfl, HQ⟩ := hg1 rfl
  have HQ := Lib.hid HQ
  have hs1 := hb1.size
  have g1 := rg.next hb1
  have hB1 : Below w.heap.size w w1 := hB0.trans (hb1.mono hB0.size)
  have r1' := r1.next hb1
  have r2' := r2.next hb1
  have q0' := Blk.new w1 82 #[.slice none 0 0]
  have c0' := (g1.alloc (.cells #[.slice none 0 0] 82)).cell 0
  obtain ⟨p, hp⟩ : ∃ p, w1.heap.size = p := ⟨_, rfl⟩
  have HPP := Lib.hid hp
  clear hw0 rg r1 r2 hb1 g0 hB0 GC c0 c1
  gi_wp2_with fail
  refine ⟨trivial, ?_⟩
  refine (inW (ftrees_any n Aq E.length cq _)).mono ?_
  rintro e wF ⟨rfl, hwF⟩
  have hgn4 : (w1.alloc (.cells #[.slice none 0 0] 82)).heap.size = p + 1 := by simp [hp]
  have hsF : wF.heap.size = p + 3 := by rw [← hwF]; simp [hp]
  have hB12 : Below w1.heap.size w1 wF := by rw [← hwF]; exact (((Below.refl _ _).alloc (Nat.le_refl _) _).alloc (by simp) _).alloc (by simp; omega) _
  have q0 : Blk wF p 82 #[.slice none 0 0] := by rw [← hwF, ← hp]; exact (q0'.alloc _).alloc _
  have hpz : w.heap.size + 3 ≤ p := by omega
  have hB2 : Below w.heap.size w wF := hB1.trans (hB12.mono hB1.size)
  have s1 := r1'.next hB12
  have s2 := r2'.next hB12
  have HQF : Hid (OwnQ wF w0.heap.size Aq cq E) := own_kept2 HQ.out fun j hj => hB12.block j (World.ownsRow.lt HQ.out j (blockOf_own.2 hj)).2
  have bN : Blk wF (p + 1) 3 #[.int .i64 n] := by rw [← hwF]; exact (Blk.newAt hgn4.symm).alloc _
  have bE : Blk wF (p + 2) 48 #[.slice Aq E.length cq] := by rw [← hwF]; exact Blk.newAt (by simp [hp])
  have HKA : Hid (∀ k, blockOf Aq k → k < p) := fun k hk => by have := (World.ownsRow.lt HQ.out k (blockOf_own.2 hk)).2; omega
  rw [hgn4, show p + 1 + 1 = p + 2 from rfl]
  try rw [hp]
  have HIT := Lib.hid (trees_iter n hn1 hn12 E HBD.out HEL.out Aq cq (p + 1) (p + 2) (OwnQ.cap_ HQF.out) wF bN bE (OwnQ.reads HQF.out) (fun k hk => by have := HKA.out k hk; omega))
  rw [HX.out] at HIT
  clear hwF r1' r2' hB12 hB1 hs0 hs1 g1 q0' c0' bN bE HQ HQF
  gi_wp2_with fail
  refine range_outer (n := 3) (gf := 159) (lb := #[.pointer (some ⟨p + 1, 0, none⟩), .pointer (some ⟨p + 2, 0, none⟩)]) rfl (enters_of Tryz.func159 (by kernel_rfl) rfl)
    (K := KT (p + 1) (p + 2) Aq) (xs := xss) HIT.out ?hK (fun k => k = p) ?hC
    (fun pre C W => ∃ A c vs, Blk W p 82 #[.slice A pre.length c] ∧ OwnRows W w.heap.size A c vs (pre.map nI) ∧ C p ∧ (∀ k, rowBlock A vs k → C k) ∧ Below w.heap.size w W ∧
      Blk W (w.heap.size + 1) 82 #[.slice none 0 0] ∧ Blk W (w.heap.size + 2) 29 #[.int .i64 0] ∧ (∀ k, C k → k = p ∨ p + 3 ≤ k))
    (fun _ _ _ _ => False) ?hI (fun _ _ _ _ _ h _ => h) ?h0 ?hps ?round ?done (fun _ _ _ _ _ h => h.elim)
  case hK =>
    rintro k (rfl | rfl | h1)
    · omega
    · omega
    · have := HKA.out k h1; omega
  case hC =>
    rintro k rfl
    refine ⟨by omega, ?_⟩
    rintro (e | e | h1)
    · omega
    · omega
    · have := HKA.out _ h1; omega
  case hI =>
    rintro pre C a b ⟨A, c, vs, i1, i2, i3, i4, i5, i6, i7, i8⟩ hst
    refine ⟨A, c, vs, i1.stays hst (.inl i3), i2.kept fun k hk => hst.block k (i2.lt hk).2 (.inl (i4 k hk)), i3, i4, i5.trans (hst.below (fun k hk => .inr ⟨by omega, id⟩) i5.size), i6.stays hst (.inr ⟨by omega, id⟩), i7.stays hst (.inr ⟨by omega, id⟩), i8⟩
  case h0 => exact ⟨none, 0, [], q0, OwnRows.nil_ _ _, rfl, (by rintro k (⟨a, h, _⟩ | ⟨v, h, _⟩) <;> cases h), hB2, s1, s2, fun k hk => .inl hk⟩
  case hps => rintro x' args O W' ⟨A', c', rfl, _⟩; rfl
  case round =>
    intro l pre x args C O W hpre hI hl hC hO harg hlW hnC hnO T hT
    obtain ⟨A, c, vs, i1, i2, i3, i4, i5, i6, i7, i8⟩ := hI
    obtain ⟨A8, c8, rfl, hown8, hO8⟩ := harg
    have hown8' : OwnI W w.heap.size A8 c8 (nI x) := own_rebase hown8 fun k hk => by have := (hO k (hO8 k hk)).2.2; omega
    have hpl : pre.length < 16384 := by
      obtain ⟨z, hz⟩ := hpre
      have := congrArg List.length hz
      simp at this
      omega
    have hpe : ((pre.length : Int) == 16384) = false := by simp; omega
    have hpm : (pre.map nI).length = pre.length := by simp
    have HPM := Lib.hid hpm
    clear hown8 hpm
    gi_wp2
    refine hT _ _ (Only.refl _ _) ?_
    intro w5 h5 _
    have hl5 : ∀ k, C k → k ≠ l := fun k hk e => hnC (e ▸ hk)
    have j1 : Blk w5 p 82 #[.slice A pre.length c] := i1.only h5 (by omega)
    have j2 : OwnRows w5 w.heap.size A c vs (pre.map nI) := i2.kept fun k hk => h5.block k (i2.lt hk).2 (hl5 k (i4 k hk))
    have j5 : Below w.heap.size w w5 := i5.trans (h5.below (fun k hk e => by omega) i5.size)
    have j6 := i6.only h5 (by omega)
    have j7 := i7.only h5 (by omega)
    have j8 : OwnI w5 w.heap.size A8 c8 (nI x) := own_kept hown8' fun k hk => h5.block k (own_lt hown8' hk).2 fun e => hnO (e ▸ hO8 k hk)
    have e1 := j1.cell 0
    have hC5 : ∀ k, C k → k < w5.heap.size := fun k hk => Nat.lt_of_lt_of_le (hC k hk) h5.size
    have hO5 : ∀ k, O k → p + 3 ≤ k ∧ k < w5.heap.size := fun k hk => ⟨by have := (hO k hk).2.2; omega, Nat.lt_of_lt_of_le (hO k hk).2.1 h5.size⟩
    have j21 : w5.ownsRow w.heap.size 25 1 (.slice A pre.length c) pre.length vs := by have := j2.1; rw [HPM.out] at this; exact this
    have hxl8 : (nI x).length = x.length := nI_length x
    have HXL := Lib.hid hxl8
    clear i1 i2 i5 i6 i7 hown8' hC hO hxl8
    gi_wp2_with (gi_at_builtin; refine append_gi rfl (.tmp 24) (.tmp 26) _ rfl w.heap.size 25 Tryz.underlying82 info_row rfl (by omega) A c pre.length vs rfl (World.ownsRow.alloc j21 _) _ [.slice A8 x.length c8] rfl (Reads.box _ _ _) (by simp [Value.oneCell']) (by omega) (by have := j5.size; simp; omega) ?_; intro A6 c6 w6 hown6 hg6 hb6 hw6; have k1 := (j1.alloc (.cells #[.slice A8 x.length c8] 25)).grown hg6 (own_blk_ne j21 j1 (by decide)); have e2 := k1.cell 0; have f2 := k1.frozen 0)
    have k2 : OwnRows w6 w.heap.size A6 c6 (vs ++ [.slice A8 x.length c8]) (pre.map nI ++ [nI x]) := by
      have := OwnRows.push (w := w5.alloc (.cells #[.slice A8 x.length c8] 25)) (w' := w6) (A' := A6) (c' := c6) (j2.kept fun k hk => Below.heap_alloc _ _ _ (j2.lt hk).2) (OwnI.alloc j8 _) (by rw [HXL.out, HPM.out]; exact hown6) (by rw [HPM.out]; exact hg6)
      rw [HXL.out] at this
      exact this
    have k3 : Only (fun k => C k ∨ O k) w5 w6 := ((Only.refl _ w5).alloc _).grown hg6 fun k hk => .inl (.inl (i4 k (.inl (blockOf_own.1 hk))))
    refine ⟨fun k => C k ∨ O k ∨ (w5.heap.size ≤ k ∧ k < w6.heap.size), k3.setCell (.inl (.inl i3)) _, fun k hk => ?_, A6, c6, vs ++ [.slice A8 x.length c8], ?_, ?_, .inl i3, ?_, ?_, ?_, ?_, ?_⟩
    · simpa [World.setCell] using hk
    · have := k1.set_ 0 (.slice A6 (pre.length + 1) c6)
      simpa using this
    · rw [List.map_append, List.map_singleton]; exact k2.set_blk k1 (by decide) (by decide) _ _
    · rintro k (hk | ⟨v, hv, hk⟩)
      · rcases hw6 with e | e
        · rw [blockOf_own.2 hk] at e
          exact .inl (i4 k (.inl (blockOf_own.1 e.symm)))
        · rw [blockOf_own.2 hk] at e
          injection e with e
          have hlt := (own_lt hown6 hk).2
          exact .inr (.inr ⟨by rw [e]; simp, hlt⟩)
      · rcases List.mem_append.1 hv with hv | hv
        · exact .inl (i4 k (.inr ⟨v, hv, hk⟩))
        · rw [List.mem_singleton.1 hv] at hk
          exact .inr (.inl (hO8 k (blockOf_own.1 hk)))
    · exact (j5.trans (k3.below (fun k hk e => by
        rcases e with e | e
        · have := i8 k e; omega
        · have := (hO5 k e).1; omega) j5.size)).setCell (by show w.heap.size ≤ p; omega) _
    · exact (j6.only k3 (fun e => by
        rcases e with e | e
        · have := i8 _ e; omega
        · have := (hO5 _ e).1; omega)).far (by show w.heap.size + 1 ≠ p; omega) _
    · exact (j7.only k3 (fun e => by
        rcases e with e | e
        · have := i8 _ e; omega
        · have := (hO5 _ e).1; omega)).far (by show w.heap.size + 2 ≠ p; omega) _
    · rintro k (hk | hk | hk)
      · exact i8 k hk
      · exact .inr (hO5 k hk).1
      · exact .inr (by have := h5.size; omega)
  case done =>
    rintro C W ⟨A, c, vs, i1, i2, i3, i4, i5, i6, i7, i8⟩ hnD hD
    have e1 := i1.cell 0
    have e4 := i6.cell 0
    have e5 := i7.cell 0
    have f4 := i6.frozen 0
    have f5 := i7.frozen 0
    gi_wp2
    have g1 : Blk ((W.setCell ⟨w.heap.size + 1, 0, none⟩ (.slice A xss.length c)).setCell ⟨w.heap.size + 2, 0, none⟩ (.int .i64 0)) (w.heap.size + 1) 82 #[.slice A xss.length c] := by
      have := (i6.set_ 0 (.slice A xss.length c)).far (p := ⟨w.heap.size + 2, 0, none⟩) (by simp) (.int .i64 0)
      simpa using this
    have g2 : Blk ((W.setCell ⟨w.heap.size + 1, 0, none⟩ (.slice A xss.length c)).setCell ⟨w.heap.size + 2, 0, none⟩ (.int .i64 0)) (w.heap.size + 2) 29 #[.int .i64 0] := by
      have := (i7.far (p := ⟨w.heap.size + 1, 0, none⟩) (by simp) (.slice A xss.length c)).set_ 0 (.int .i64 0)
      simpa using this
    have g3a : OwnRows (W.setCell ⟨w.heap.size + 1, 0, none⟩ (.slice A xss.length c)) w.heap.size A c vs (xss.map nI) := i2.kept fun k hk => Below.heap_setCell _ _ _ _ (fun e => by have := i8 k (i4 k hk); simp at e; omega)
    have g3 : OwnRows ((W.setCell ⟨w.heap.size + 1, 0, none⟩ (.slice A xss.length c)).setCell ⟨w.heap.size + 2, 0, none⟩ (.int .i64 0)) w.heap.size A c vs (xss.map nI) := g3a.kept fun k hk => Below.heap_setCell _ _ _ _ (fun e => by have := i8 k (i4 k hk); simp at e; omega)
    have g4 : Below w.heap.size w ((W.setCell ⟨w.heap.size + 1, 0, none⟩ (.slice A xss.length c)).setCell ⟨w.heap.size + 2, 0, none⟩ (.int .i64 0)) := (i5.setCell (by simp) _).setCell (by simp) _
    have g5 : ((W.setCell ⟨w.heap.size + 1, 0, none⟩ (.slice A xss.length c)).setCell ⟨w.heap.size + 2, 0, none⟩ (.int .i64 0)).heap[wF.heap.size]? = some (.deferred (some [])) :=
      (Below.heap_setCell _ _ _ _ (by simp; omega)).trans ((Below.heap_setCell _ _ _ _ (by simp; omega)).trans hD)
    have g6 : ∀ k, rowBlock A vs k → k ≠ wF.heap.size := fun k hk e => hnD (e ▸ i4 k hk)
    obtain ⟨Wf, hWf⟩ : ∃ Wf, (W.setCell ⟨w.heap.size + 1, 0, none⟩ (.slice A xss.length c)).setCell ⟨w.heap.size + 2, 0, none⟩ (.int .i64 0) = Wf := ⟨_, rfl⟩
    rw [hWf] at g1 g2 g3 g4 g5
    have p1 := Only.put_one Wf wF.heap.size (.deferred none)
    have p2 := (g1.only p1 (by omega)).cell 0
    have p3 := (g2.only p1 (by omega)).cell 0
    rw [show w.heap.size + 1 + 1 = w.heap.size + 2 from rfl, hWf]
    refine end_mark (v := .tuple #[.slice A xss.length c, .int .i64 0]) g5 (by simp [results, Tryz.results49, go_sem, p2, p3]) ⟨A, c, vs, rfl, g3.kept fun k hk => p1.block k (g3.lt hk).2 (g6 k hk), g4.trans (p1.below (fun k hk e => by omega) g4.size)⟩
end Go.Proofs.YtnbikkcalcpedaaGreatDoor

/-! (*fire).burn: the whole fire. -/
namespace Go.Proofs.YtnbikkcalcpedaaGreatDoor
open Go.RowKit

theorem FireW.sorted {w w' : World} {base b n : Nat} {E : List (Nat × Nat)} {lv : Value} {a : FireA} {s : FireS} {H : List Int} {T : List Nat} (h : FireW w base b E n lv a s H) (hs : base ≤ w.heap.size) (hT : T.length = s.tree.length) (hO : OwnI w' base a.AD a.cD (nI T)) (hW : Only (blockOf a.AD) w w') : FireW w' base b E n lv a { s with tree := T } H := by
  have keepI : ∀ {A : Option Addr} {c : Nat} {xs : List Int}, OwnI w base A c xs → Dj A a.AD → OwnI w' base A c xs := fun {A c xs} ho hd => own_kept ho fun k hk => hW.block k (own_ltI ho k hk) (hd k hk)
  have hnb : ¬ blockOf a.AD b := fun hk => own_neB h.tree h.blk (by decide) b hk rfl
  have hng : ¬ blockOf a.AD a.gB := fun hk => own_neB h.tree h.burnt (by decide) _ hk rfl
  have hbel : Below base w w' := hW.below (fun k hk hc => by have := own_geI h.tree k hc; omega) hs
  refine { h with blk := ?_, ends := h.ends.below hbel, burnt := (hW.block a.gB h.burnt.lt hng).trans h.burnt, times := keepI h.times h.tD, tlen := h.tlen, steps := keepI h.steps h.sD, order := keepI h.order h.oD, tree := hO, next := keepI h.next h.dH.symm }
  have e : fireC E n lv a { s with tree := T } H = fireC E n lv a s H := by simp [fireC, hT]
  rw [e]
  exact (hW.block b h.blk.lt hnb).trans h.blk
end Go.Proofs.YtnbikkcalcpedaaGreatDoor

/-! Package burning: Burn and Superstable. -/
namespace Go.Proofs.YtnbikkcalcpedaaGreatDoor
open Go.RowKit Go.Shelf
attribute [local go_sem] Oper.semAt_some

end Go.Proofs.YtnbikkcalcpedaaGreatDoor

/-! Package stabilize: settle, settled, given, Stabilize. -/
namespace Go.Proofs.YtnbikkcalcpedaaGreatDoor
open Go.RowKit

section
variable {n q : Nat} {es : List E3}
end
end Go.Proofs.YtnbikkcalcpedaaGreatDoor

/-! Plain: the greatest forbidden set is what the fire leaves; what is above a recurrent configuration is recurrent. -/
namespace Go.Proofs.YtnbikkcalcpedaaGreatDoor
open Go.RowKit

end Go.Proofs.YtnbikkcalcpedaaGreatDoor

/-! Package recurrent: fire, recurs. -/
namespace Go.Proofs.YtnbikkcalcpedaaGreatDoor
open Go.RowKit

end Go.Proofs.YtnbikkcalcpedaaGreatDoor

/-! Plain: the dual of a configuration. -/
namespace Go.Proofs.YtnbikkcalcpedaaGreatDoor
open Go.RowKit

end Go.Proofs.YtnbikkcalcpedaaGreatDoor

/-! Plain laws: the waves of a fire; a configuration is superstable exactly if no set blocks. No program is in sight. -/
namespace Go.Proofs.YtnbikkcalcpedaaGreatDoor

section
variable {es : List E3} {cs : List Int} {n : Nat}
end

end Go.Proofs.YtnbikkcalcpedaaGreatDoor

/-! ref13.Closed, Cycle. -/
namespace Go.Proofs.YtnbikkcalcpedaaGreatDoor
open Go.RowKit

end Go.Proofs.YtnbikkcalcpedaaGreatDoor

/-! Plain laws of cycles, cutsets and swaps in a spanning tree, as the program returns them. -/
namespace Go.Proofs.YtnbikkcalcpedaaGreatDoor
open Go.RowKit

theorem mem_nI9 {v : Nat} {S : List Nat} : (v : Int) ∈ nI S ↔ v ∈ S := by
  unfold nI
  rw [List.mem_map]
  constructor
  · rintro ⟨u, hu, e⟩; have : u = v := by omega
    exact this ▸ hu
  · intro h; exact ⟨v, h, rfl⟩
theorem edgFrom_ok {m : Nat} : ∀ {t : List Nat} {p : Option Int}, t.Pairwise (· < ·) → (∀ e ∈ t, e < m) → (∀ y, p = some y → ∀ e ∈ t, y < (e : Int)) → edgFrom m p (nI t) = 0
  | [], _, _, _, _ => rfl
  | e :: t, p, h1, h2, h3 => by
    have he := h2 e (by simp)
    show (if (e : Int) < 0 ∨ (m : Int) ≤ (e : Int) then 2 else if leP p (e : Int) = true then 9 else edgFrom m (some (e : Int)) (nI t)) = 0
    rw [if_neg (by omega), if_neg]
    · rw [List.pairwise_cons] at h1
      refine edgFrom_ok h1.2 (fun x hx => h2 x (by simp [hx])) ?_
      rintro y hy x hx
      injection hy with hy
      have := h1.1 x hx
      omega
    · unfold leP
      cases p with
      | none => simp
      | some y =>
        have := h3 y rfl e (by simp)
        simp; omega
theorem edg_ok {m : Nat} {t : List Nat} (h : SetN m t) : edgErr m (nI t) = 0 := edgFrom_ok h.1 h.2 (fun y hy => by cases hy)
theorem tree_ok {m : Nat} {es : List E3} {t : List Nat} (hj : joinErr m es = 0) (h : IsTr m (endsL es) t) : treeErr m es (nI t) = 0 := by
  have hl := h.len
  have e2 : (nI t).map Int.toNat = t := toN_nI t
  unfold treeErr
  rw [if_neg (fun hc => hc hj), if_neg (fun hc => hc (edg_ok h.set)), if_neg (by rw [nI_length]; omega), e2, if_pos (foB_iff.2 h.fo)]
end Go.Proofs.YtnbikkcalcpedaaGreatDoor

/-! ref13.All: the spanning trees among all sets, in order. -/
namespace Go.Proofs.YtnbikkcalcpedaaGreatDoor
open Go.RowKit

end Go.Proofs.YtnbikkcalcpedaaGreatDoor

/-! Package tree: All for all graphs; Count. -/
namespace Go.Proofs.YtnbikkcalcpedaaGreatDoor
open Go.RowKit

theorem tall_any (n : Int) (A : Option Addr) (c : Nat) (es : List E3) (hn : es.length ≤ 10000) (hl : (tallE n es).1.length ≤ 16384) (w : World) (h : Reads w w.heap.size 3 A es.length (edgeCells es)) :
    Calls Tryz.prog 49 #[.agg #[.int .i64 n, .slice A es.length c]] w fun e w' => ∃ Ar cr vs, e = .returned (.tuple #[.slice Ar (tallE n es).1.length cr, .int .i64 (tallE n es).2]) ∧ OwnRows w' w.heap.size Ar cr vs (tallE n es).1 ∧ Below w.heap.size w w' := by
  by_cases hj : joinErr n es = 0
  · obtain ⟨_, hG, _⟩ := join_zero hj
    obtain ⟨m, rfl⟩ := Int.eq_ofNat_of_zero_le (show 0 ≤ n by have := hG.lo; omega)
    have hE : tallE m es = ((treesT m (endsL es)).map nI, 0) := by unfold tallE; rw [if_neg (fun hc => hc hj), Int.toNat_natCast]
    rw [hE] at hl ⊢
    dsimp only at hl ⊢
    rw [List.length_map] at hl ⊢
    exact tall_ok m A c es hn hj _ rfl hl w h
  · exact tall_err n A c es hn w h hj

end Go.Proofs.YtnbikkcalcpedaaGreatDoor

/-! slices.Index and Contains on branches. -/
namespace Go.Proofs.YtnbikkcalcpedaaGreatDoor
open Go.RowKit

end Go.Proofs.YtnbikkcalcpedaaGreatDoor

/-! burning.Burn and Superstable with their errors. -/
namespace Go.Proofs.YtnbikkcalcpedaaGreatDoor
open Go.RowKit Go.Shelf

end Go.Proofs.YtnbikkcalcpedaaGreatDoor

/-! Package stabilize: settled, given, Stabilize. -/
namespace Go.Proofs.YtnbikkcalcpedaaGreatDoor
open Go.RowKit

end Go.Proofs.YtnbikkcalcpedaaGreatDoor

/-! Package recurrent: check, recurs, Recurrent. -/
namespace Go.Proofs.YtnbikkcalcpedaaGreatDoor
open Go.RowKit


end Go.Proofs.YtnbikkcalcpedaaGreatDoor

/-! Plain laws for BurningAgrees: the waves have the same vertices as the order of burning; both orders prove that all burns; otherwise the unburnt vertices block. No program is in sight. -/
namespace Go.Proofs.YtnbikkcalcpedaaGreatDoor

section
variable {es : List E3} {cs : List Int} {n : Nat}
end

end Go.Proofs.YtnbikkcalcpedaaGreatDoor

/-! ref08.Cut; ref13.Separated, Cutset. -/
namespace Go.Proofs.YtnbikkcalcpedaaGreatDoor
open Go.RowKit

end Go.Proofs.YtnbikkcalcpedaaGreatDoor

/-! Active single edges, by the first one of a cutset or a cycle, and by all of it. No program is in sight. -/
namespace Go.Proofs.YtnbikkcalcpedaaGreatDoor
section
variable {n : Nat} {E : List (Nat × Nat)} {t : List Nat} {e f : Nat}
theorem head_least {l : List Int} {x : Int} (hs : l.Pairwise (· ≤ ·)) (hx : x ∈ l) : l.head? = some x ↔ ∀ y ∈ l, x ≤ y := by
  cases l with
  | nil => cases hx
  | cons a l =>
    rw [List.head?_cons, List.pairwise_cons] at *
    constructor
    · intro h
      injection h with h
      subst h
      intro y hy
      rcases List.mem_cons.1 hy with rfl | hy
      · exact Int.le_refl _
      · exact hs.1 y hy
    · intro h
      have h1 := h a (by simp)
      rcases List.mem_cons.1 hx with rfl | hx
      · rfl
      · have h2 := hs.1 x hx
        congr 1; omega
theorem mem_cutL {i : Nat} : i ∈ cutL E t f ↔ i < E.length ∧ Sep E t (E.getD i (0, 0)).1 (E.getD i (0, 0)).2 f := by
  unfold cutL; rw [List.mem_filter, List.mem_range, decide_eq_true_eq]
theorem nI_asc {l : List Nat} (h : l.Pairwise (· < ·)) : (nI l).Pairwise (· ≤ ·) := by
  unfold nI
  rw [List.pairwise_map]
  exact h.imp fun h => by omega
theorem cutL_asc : (cutL E t f).Pairwise (· < ·) := List.pairwise_lt_range.sublist List.filter_sublist
/-- The list that a search tells is least at f: as the program and the reference ask. -/
theorem cut_least : (∀ y ∈ nI (cutL E t f), (f : Int) ≤ y) ↔ IAct E t f := by
  constructor
  · intro h i hi hs
    have := h (i : Int) (mem_nI9.2 (mem_cutL.2 ⟨hi, hs⟩))
    omega
  · intro h y hy
    obtain ⟨i, hi, rfl⟩ := List.mem_map.1 hy
    obtain ⟨h1, h2⟩ := mem_cutL.1 hi
    have := h i h1 h2
    omega
theorem cut_head (hT : FoE n E t) (hf : f ∈ t) : (nI (cutL E t f)).head? = some (f : Int) ↔ IAct E t f := by
  rw [head_least (nI_asc cutL_asc) (mem_nI9.2 (mem_cutL.2 ⟨hT.lt f hf, sep_self hT hf⟩)), cut_least]
theorem cyc_least (hT : FoE n E t) (hc : Cn (pk E t) (E.getD e (0, 0)).1 (E.getD e (0, 0)).2) {l : List Int} (hl : ∀ y, y ∈ l ↔ y = (e : Int) ∨ y ∈ nI (pathL E t (E.getD e (0, 0)).1 (E.getD e (0, 0)).2)) : (∀ y ∈ l, (e : Int) ≤ y) ↔ EAct E t e := by
  constructor
  · intro h f hf hs
    have := h (f : Int) ((hl _).2 (.inr (mem_nI9.2 ((path_mem hT hc f).2 ⟨hf, hs⟩))))
    omega
  · intro h y hy
    rcases (hl y).1 hy with rfl | hy
    · omega
    · obtain ⟨f, hf, rfl⟩ := List.mem_map.1 hy
      obtain ⟨h1, h2⟩ := (path_mem hT hc f).1 hf
      have := h f h1 h2
      omega
theorem cyc_head (hT : FoE n E t) (hc : Cn (pk E t) (E.getD e (0, 0)).1 (E.getD e (0, 0)).2) : (sortG ltI (nI (pathL E t (E.getD e (0, 0)).1 (E.getD e (0, 0)).2) ++ [(e : Int)])).head? = some (e : Int) ↔ EAct E t e := by
  have hp := sortG_perm (lt := ltI) (nI (pathL E t (E.getD e (0, 0)).1 (E.getD e (0, 0)).2) ++ [(e : Int)])
  rw [head_least ((sortG_sorted ltI_tr ltI_as _).imp fun {a b} h => by simp [ltI] at h; omega) (hp.mem_iff.2 (by simp))]
  refine cyc_least hT hc fun y => ?_
  rw [hp.mem_iff, List.mem_append, List.mem_singleton]
  exact Or.comm
end
end Go.Proofs.YtnbikkcalcpedaaGreatDoor

/-! Deletion of a single edge: the graph that is made without it, and its spanning trees. No program is in sight. -/
namespace Go.Proofs.YtnbikkcalcpedaaGreatDoor

theorem mem_endsE {es : List E3} {p : Nat × Nat} : p ∈ endsL es ↔ ∃ e ∈ es, 0 < e.2.2.toNat ∧ p = (e.1.toNat, e.2.1.toNat) := by
  unfold endsL
  rw [List.mem_flatMap]
  constructor
  · rintro ⟨e, he, hp⟩
    rw [List.mem_replicate] at hp
    exact ⟨e, he, by omega, hp.2⟩
  · rintro ⟨e, he, h1, h2⟩
    exact ⟨e, he, by rw [List.mem_replicate]; exact ⟨by omega, h2⟩⟩
theorem endsL_cons (e : E3) (es : List E3) : endsL (e :: es) = List.replicate e.2.2.toNat (e.1.toNat, e.2.1.toNat) ++ endsL es := by simp [endsL]
theorem count_ends {n : Int} : ∀ {es : List E3}, (∀ e ∈ es, okE n e) → es.Pairwise ltE → ∀ e ∈ es, (endsL es).count (e.1.toNat, e.2.1.toNat) = e.2.2.toNat
  | [], _, _, e, he => by cases he
  | x :: es, h1, h2, e, he => by
    rw [List.pairwise_cons] at h2
    rw [endsL_cons, List.count_append, List.count_replicate]
    have hne : ∀ y ∈ es, ((x.1.toNat, x.2.1.toNat) : Nat × Nat) ≠ (y.1.toNat, y.2.1.toNat) := by
      intro y hy hc
      have hl := h2.1 y hy
      have o1 := h1 x (by simp)
      have o2 := h1 y (by simp [hy])
      unfold ltE at hl
      unfold okE at o1 o2
      injection hc with c1 c2
      omega
    rcases List.mem_cons.1 he with rfl | he
    · rw [if_pos (by simp), List.count_eq_zero.2]
      · rfl
      · intro hm
        obtain ⟨y, hy, _, hc⟩ := mem_endsE.1 hm
        exact hne y hy hc
    · rw [if_neg (by simpa using hne e he), Nat.zero_add]
      exact count_ends (fun y hy => h1 y (by simp [hy])) h2.2 e he
section
variable {E : List (Nat × Nat)} {k : Nat}
end
end Go.Proofs.YtnbikkcalcpedaaGreatDoor

/-! treebijection.lit: the fire of a right graph, made and burnt. -/
namespace Go.Proofs.YtnbikkcalcpedaaGreatDoor
open Go.RowKit

end Go.Proofs.YtnbikkcalcpedaaGreatDoor

/-! Package recurrent: settled. -/
namespace Go.Proofs.YtnbikkcalcpedaaGreatDoor
open Go.RowKit

end Go.Proofs.YtnbikkcalcpedaaGreatDoor

/-! The superstable configurations, listed: what comes of the iterator; no vertex with 600 chips burns. -/
namespace Go.Proofs.YtnbikkcalcpedaaGreatDoor
open Go.RowKit

end Go.Proofs.YtnbikkcalcpedaaGreatDoor

