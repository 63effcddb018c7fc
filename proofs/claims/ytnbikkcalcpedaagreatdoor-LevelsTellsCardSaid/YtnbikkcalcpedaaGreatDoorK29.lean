/-
  Texts of this claim, put together: Burn, Settle, DulP, RFire, RForbP, WavesP, RPath, DualT, TCount, Lights, BurnF.
-/
import Derived.Test.YtnbikkcalcpedaaGreatDoorK27
import Derived.Test.YtnbikkcalcpedaaGreatDoorK10
import Derived.Deep.RegionHeld3
import Derived.Test.YtnbikkcalcpedaaGreatDoorK26
import Derived.Test.YtnbikkcalcpedaaGreatDoorK07
import Derived.Test.YtnbikkcalcpedaaGreatDoorK28
import Derived.Deep.QuietTactic
import Derived.BigQuiet
import Derived.BigRegion
namespace Go.Proofs.YtnbikkcalcpedaaGreatDoor
open Go.RowKit Go.Shelf
attribute [local go_sem] Oper.semAt_some
set_option maxRecDepth 100000 in
set_option maxHeartbeats 4000000 in
theorem burn_ok (n : Nat) (A : Option Addr) (c : Nat) (es : List E3) (hn : es.length ≤ 1048576) (q : Nat) (B : Option Addr) (d : Nat) (cs : List Int) (hm : cs.length ≤ 1048000) (hck : burnErr n es q cs = 0) (w : World) (h : Reads w w.heap.size 3 A es.length (edgeCells es)) (h' : Reads w w.heap.size 1 B cs.length (ints cs)) :
    Calls Tryz.prog 258 #[.agg #[.int .i64 n, .slice A es.length c], .int .i64 q, .slice B cs.length d] w fun e w' => ∃ A1 c1 A2 c2, e = .returned (.tuple #[.slice A1 (burntL es cs n q).length c1, .slice A2 (restL n (burntL es cs n q)).length c2, .int .i64 0]) ∧
      OwnI w' w.heap.size A1 c1 (natI (burntL es cs n q)) ∧ OwnI w' w.heap.size A2 c2 (natI (restL n (burntL es cs n q))) ∧ Below w.heap.size w w' := by
  obtain ⟨bl, hbl⟩ : ∃ bl, burntL es cs n q = bl := ⟨_, rfl⟩
  rw [hbl]
  have HBL := Lib.hid hbl
  clear hbl
  have hbc := bcheck_any n A c es hn q B d cs (by omega)
  rw [hck] at hbc
  have BC := Lib.hid hbc
  obtain ⟨hG, _, _, hqn, hlen, _, _⟩ := conf_zero (burn_zero hck).1
  have hhi := hG.hi
  have hq : q < n := by omega
  have hcl : cs.length = n := by omega
  have KC := Lib.hid (kindled_any n A c es hn hG q hq B d cs hm)
  have HG := Lib.hid hG
  have HCL := Lib.hid hcl
  have g0 := Blk.new w 24 #[.int .i64 n, .slice A es.length c]
  clear hbc hck hG hlen hcl
  refine (callsIn_wide (n := 3)).1 ?_
  refine callsIn_of_wp_marks Tryz.func258 rfl trivial ?_
  simp only [Tryz.ntmps258, List.size_toArray, List.length_cons, List.length_nil, Nat.reduceAdd, Nat.reduceSub, Array.replicate_succ, Array.replicate_zero, List.push_toArray, List.append_toArray, List.nil_append, List.cons_append]
  gi_wp2_with fail
  refine ⟨trivial, ?_⟩
  refine (inW (BC.out _ ((h.alloc (Nat.le_refl _) _).more (by simp)) ((h'.alloc (Nat.le_refl _) _).more (by simp)))).mono ?_
  rintro e w1 ⟨rfl, hb1⟩
  have g1 := g0.next hb1
  have c0 := g1.cell 0
  have c1 := g1.cell 1
  have hbel1 : Below w.heap.size w w1 := ((Below.refl _ _).alloc (Nat.le_refl _) _).trans (hb1.mono (by simp))
  have hs1 := g1.lt
  gi_wp2_with fail
  refine ⟨trivial, ?_⟩
  refine (inW (KC.out _ ((h.below hbel1).more hbel1.size) ((h'.below hbel1).more hbel1.size))).mono ?_
  rintro e w2 ⟨g, A', c', rfl, gw, ow, hgb, hb2⟩
  have hbel2 := hbel1.trans (hb2.mono hbel1.size)
  have hs2 := hbel2.size
  have hgw := Blk.lt gw
  clear g0 g1 c0 c1 hb1 hb2 h h'
  gi_wp2_with fail
  refine ⟨trivial, ?_⟩
  refine (inW (fire_any g _)).mono ?_
  rintro e w3 ⟨rfl, hw3⟩
  have r0 : Blk w3 w2.heap.size 3 (intCells (natI ([q] ++ []))) := by rw [← hw3]; exact ((Blk.new w2 3 #[.int .i64 q]).alloc _).alloc _
  have r1 : Blk w3 (w2.heap.size + 1) 25 #[.slice (some ⟨w2.heap.size, 0, none⟩) 1 1] := by
    rw [← hw3]
    have := (Blk.new (w2.alloc (.cells #[.int .i64 q] 3)) 25 #[.slice (some ⟨w2.heap.size, 0, none⟩) 1 1]).alloc (.cells #[.pointer (some ⟨g, 0, none⟩)] 336)
    rwa [show (w2.alloc (.cells #[.int .i64 q] 3)).heap.size = w2.heap.size + 1 from by simp] at this
  have r2 : Blk w3 (w2.heap.size + 1 + 1) 336 #[.pointer (some ⟨g, 0, none⟩)] := by
    rw [← hw3]
    have := Blk.new ((w2.alloc (.cells #[.int .i64 q] 3)).alloc (.cells #[.slice (some ⟨w2.heap.size, 0, none⟩) 1 1] 25)) 336 #[.pointer (some ⟨g, 0, none⟩)]
    rwa [show ((w2.alloc (.cells #[.int .i64 q] 3)).alloc (.cells #[.slice (some ⟨w2.heap.size, 0, none⟩) 1 1] 25)).heap.size = w2.heap.size + 1 + 1 from by simp] at this
  have hb3 : Below w2.heap.size w2 w3 := by rw [← hw3]; exact (((Below.refl _ _).alloc (Nat.le_refl _) _).alloc (by simp) _).alloc (by simp; omega) _
  have hs3 : w3.heap.size = w2.heap.size + 3 := by rw [← hw3]; simp
  have gw3 : Wood w3 g n es (.slice A' cs.length c') [q] := Blk.next gw hb3
  have ow3 := ow.next hb3
  have ox3 : OwnI w3 w2.heap.size (some ⟨w2.heap.size, 0, none⟩) 1 (natI ([q] ++ [])) := OwnI.of_blk r0 (Nat.le_refl _) (by simp [natI, maxLen])
  have hbel3 := hbel2.trans (hb3.mono hs2)
  have hAg : ∀ k, blockOf A' k → ¬ k = g := fun k hk => own_blk ow3 gw3 (by decide) hk
  have hAb : ∀ k, blockOf A' k → w1.heap.size ≤ k ∧ k < w2.heap.size := fun k hk => own_lt ow hk
  have hr3 : Reads w3 w3.heap.size 1 A' cs.length (ints cs) := ow3.reads
  clear hw3 hb3 gw ow hbel1 hbel2
  gi_wp2_with fail
  refine rangeF_outer (n := 3) (gf := 329) (lb := #[.pointer (some ⟨w2.heap.size + 1 + 1, 0, none⟩)]) (by rfl) (enters_of Tryz.func329 (by kernel_rfl) rfl)
    (fire_iter g n (by omega) (by omega) es n HG.out.ok A' c' cs HCL.out [q] ⟨by simp, by simpa using hq⟩ (w2.heap.size + 1 + 1) w3 r2 gw3 hr3 hAg) ?hF0 ?hK (fun k => k = w2.heap.size ∨ k = w2.heap.size + 1) ?hC
    (fun pre C W => ∃ Ar cr, Blk W (w2.heap.size + 1) 25 #[.slice Ar (natI ([q] ++ pre)).length cr] ∧ OwnI W w2.heap.size Ar cr (natI ([q] ++ pre)) ∧ C (w2.heap.size + 1) ∧ (∀ k, blockOf Ar k → C k) ∧ Below w.heap.size w W ∧ w3.heap.size ≤ W.heap.size ∧ (∀ k, C k → k = w2.heap.size + 1 ∨ k = w2.heap.size ∨ w3.heap.size ≤ k))
    (fun _ _ _ _ => False) ?hI (fun _ _ _ _ _ h _ => h) ?h0 ?hps ?round ?done (fun _ _ _ _ _ h => h.elim)
  case hF0 => intro a b hf ho; exact Blk.only hf ho (by omega)
  case hK =>
    rintro k (rfl | rfl | hk)
    · omega
    · omega
    · have := (hAb k hk).2; omega
  case hC =>
    rintro k (rfl | rfl)
    · refine ⟨by omega, ?_⟩
      rintro (e | e | e)
      · omega
      · omega
      · have := (hAb _ e).2; omega
    · refine ⟨by omega, ?_⟩
      rintro (e | e | e)
      · omega
      · omega
      · have := (hAb _ e).2; omega
  case hI =>
    rintro pre C a b ⟨Ar, cr, i1, i2, i3, i4, i5, i6, i7⟩ hst
    exact ⟨Ar, cr, i1.stays hst (.inl i3), own_kept i2 fun k hk => hst.block k (own_lt i2 hk).2 (.inl (i4 k hk)), i3, i4, i5.trans (hst.below (fun k hk => .inr ⟨by omega, by omega⟩) i5.size), Nat.le_trans i6 hst.size, i7⟩
  case h0 =>
    refine ⟨some ⟨w2.heap.size, 0, none⟩, 1, r1, ox3, .inr rfl, ?_, hbel3, Nat.le_refl _, ?_⟩
    · rintro k ⟨a, ha, hk⟩; injection ha with ha; subst ha; exact .inl hk.symm
    · rintro k (hk | hk)
      · exact .inr (.inl hk)
      · exact .inl hk
  case hps => intro x' args O W' (ha : args = _); subst ha; rfl
  case round =>
    intro l pre x args C O W hpre hI hl hC hO harg hlW hnC hnO T hT
    obtain ⟨Ar, cr, i1, i2, i3, i4, i5, i6, i7⟩ := hI
    obtain rfl : args = #[.int .i64 x] := harg
    have hpl : (natI ([q] ++ pre)).length ≤ 12 := by
      obtain ⟨z, hz⟩ := hpre
      have e := fireS_eq (es := es) (c := cs) (n := n) (l := [q])
      have := nodup_len (burnL_len (es := es) (c := cs) (n := n) (l := [q]) ⟨by simp, by simpa using hq⟩)
      rw [e, ← hz] at this
      rw [natI_length]
      simp at this ⊢
      omega
    obtain ⟨rr, hrr⟩ : ∃ r, natI ([q] ++ pre) = r := ⟨_, rfl⟩
    rw [hrr] at hpl i1 i2
    have HRR := Lib.hid hrr
    clear hrr hpre r0 r1 r2 ox3 hbel3 gw3 ow3 hr3
    gi_wp2
    refine hT _ _ (Only.refl _ _) ?_
    intro w5 h5 _
    have hl5 : ∀ k, C k → k ≠ l := fun k hk e => hnC (e ▸ hk)
    have j1 : Blk w5 (w2.heap.size + 1) 25 #[.slice Ar (rr).length cr] := i1.only h5 (hl5 _ i3)
    have j2 : OwnI w5 w2.heap.size Ar cr (rr) := own_kept i2 fun k hk => h5.block k (own_lt i2 hk).2 (hl5 k (i4 k hk))
    have j5 : Below w.heap.size w w5 := i5.trans (h5.below (fun k hk e => by omega) i5.size)
    have e1 := j1.cell 0
    have hC5 : ∀ k, C k → k < w5.heap.size := fun k hk => Nat.lt_of_lt_of_le (hC k hk) h5.size
    have hs5 := h5.size
    clear i1 i2 i5 hC
    gi_wp2_with (gi_at_builtin; refine append_gi rfl (.tmp 29) (.tmp 31) _ rfl w2.heap.size 3 Tryz.underlying25 info_int rfl (by omega) Ar cr (rr).length (ints (rr)) rfl (World.ownsRow.alloc j2 _) _ [.int .i64 x] rfl (Reads.box _ _ _) (by simp [Value.oneCell']) (by omega) (by simp; omega) ?_; intro A6 c6 w6 hown6 hg6 hb6 hw6; have k1 := (j1.alloc (.cells #[.int .i64 x] 3)).grown hg6 (own_blk_ne j2 j1 (by decide)); have e2 := k1.cell 0; have f2 := k1.frozen 0)
    have k2 : OwnI w6 w2.heap.size A6 c6 (natI ([q] ++ (pre ++ [x]))) := by
      rw [← List.append_assoc, natI_snoc, HRR.out]
      unfold OwnI
      rw [List.length_append, ints_snoc]
      exact hown6
    have k3 : Only (fun k => C k ∨ O k) w5 w6 := ((Only.refl _ w5).alloc _).grown hg6 fun k hk => .inl (.inl (i4 k (blockOf_own.1 hk)))
    refine ⟨fun k => C k ∨ (w5.heap.size ≤ k ∧ k < w6.heap.size), k3.setCell (.inl (.inl i3)) _, fun k hk => ?_, A6, c6, ?_, ?_, .inl i3, ?_, ?_, ?_, ?_⟩
    · rcases hk with hk | hk
      · exact .inl hk
      · exact .inr (.inr (by simpa [World.setCell] using hk))
    · have := k1.set_ 0 (.slice A6 ((rr).length + 1) c6)
      rw [← List.append_assoc, natI_snoc, HRR.out, List.length_append]
      simpa using this
    · exact k2.set_blk k1 (by decide) _ _
    · intro k hk
      rcases hw6 with e | e
      · rw [blockOf_own.2 hk] at e
        exact .inl (i4 k (blockOf_own.1 e.symm))
      · rw [blockOf_own.2 hk] at e
        injection e with e
        have hlt := (own_lt hown6 hk).2
        exact .inr ⟨by rw [e]; simp, hlt⟩
    · exact (j5.trans (k3.below (fun k hk e => by
        rcases e with e | e
        · have := i7 k e; omega
        · have := (hO k e).2.2; omega) j5.size)).setCell (by simp; omega) _
    · have := k3.size; simp [World.setCell]; omega
    · rintro k (hk | hk)
      · exact i7 k hk
      · exact .inr (.inr (by omega))
  case done =>
    rintro C W ⟨Ar, cr, i1, i2, i3, i4, i5, i6, i7⟩ hfin hnD hD
    have e1 := i1.cell 0
    have efn : burnL es cs n n [q] = bl := HBL.out
    have efs : [q] ++ fireS es cs n [q] = bl := (fireS_eq).symm.trans efn
    rw [efs] at i1 i2 e1
    rw [efn] at hfin
    clear efs efn r0 r1 r2 ox3 hbel3 gw3 ow3 hr3
    have UC := Lib.hid (unburnt_any g n (by omega) es (.slice A' cs.length c') bl W.drew (by exact hfin))
    gi_wp2
    refine wpIn_nopanic ?_
    gi_region_with (refine ⟨trivial, ?_⟩; gi_at_call 304; refine (inW (UC.out)).mono ?_; rintro e w7 ⟨A7, c7, rfl, o7, b7⟩; have e7 := (i1.drew.next b7).cell 0)
    all_goals (
      refine nopanic_normal ?_
      have i1' : Blk W.drew (w2.heap.size + 1) 25 #[.slice Ar (natI bl).length cr] := i1
      have b7' : Below W.heap.size W w7 := (Below.refl _ _).drew.trans b7
      have hszW : W.heap.size ≤ w7.heap.size := b7'.size
      rw [hs3] at hD hnD i6
      have hDl : w2.heap.size + 3 < W.heap.size := by
        rcases Nat.lt_or_ge (w2.heap.size + 3) W.heap.size with hlt | hge
        · exact hlt
        · rw [Array.getElem?_eq_none hge] at hD; cases hD
      have p1 := Only.put_one w7 (w2.heap.size + 3) (.deferred none)
      have o8 : OwnI w7 w2.heap.size Ar cr (natI bl) := i2.next b7'
      have hD7 : w7.heap[w2.heap.size + 3]? = some (.deferred (some [])) := (b7'.block (w2.heap.size + 3) (by omega)).trans hD
      have hb9 : Below w.heap.size w w7 := i5.trans (b7'.mono i5.size)
      have hi4 := Lib.hid i4
      have hn7 := Lib.hid hnD
      clear i1 i1' i2 e1 hfin UC e7 i4 hnD hD b7
      gi_wp2
      refine end_mark (v := .tuple #[.slice Ar (natI bl).length cr, .slice A7 (restL n bl).length c7, .int .i64 0]) hD7 (by simp [results, Tryz.results258, go_sem]) ⟨Ar, cr, A7, c7, by rw [natI_length], ?_, ?_, hb9.trans (p1.below (fun k hk e => by omega) hb9.size)⟩
      · have o9 : OwnI (w7.putObj (w2.heap.size + 3) (.deferred none)) w2.heap.size Ar cr (natI bl) := own_kept o8 fun k hk => p1.block k (own_lt o8 hk).2 fun e => hn7.out (by rw [← e]; exact hi4.out k hk)
        exact o9.mono (by omega)
      · have h2 : W.drew.heap.size = W.heap.size := rfl
        have o9 : OwnI (w7.putObj (w2.heap.size + 3) (.deferred none)) W.drew.heap.size A7 c7 (natI (restL n bl)) := own_kept o7 fun k hk => p1.block k (own_lt o7 hk).2 fun e => by have h1 := (own_lt o7 hk).1; omega
        have o10 := o9.mono (base' := w.heap.size) (by omega)
        exact o10)
end Go.Proofs.YtnbikkcalcpedaaGreatDoor
namespace Go.Proofs.YtnbikkcalcpedaaGreatDoor
open Go.RowKit
section
variable {n q : Nat} {es : List E3}
end
structure SArgs (n q : Nat) (es : List E3) (d : List Int) : Prop where
  hlen : es.length ≤ 10000
  hz : checkG n es = 0
  hC : AllConn n es
  hq : q < n
  dl : d.length = n
  db : ∀ v, v < n → -1048576 ≤ d.getD v 0 ∧ d.getD v 0 ≤ 1048576
  d0 : ∀ v, v < n → v ≠ q → 0 ≤ d.getD v 0
end Go.Proofs.YtnbikkcalcpedaaGreatDoor
namespace Go.Proofs.YtnbikkcalcpedaaGreatDoor
open Go.RowKit
def dulTo (n : Nat) (es : List E3) (cs : List Int) (q k : Nat) : List Int := (List.range n).map fun v : Nat => if v < k ∧ v ≠ q then valE es v - 1 - cs.getD v 0 else 0
def dulL (n : Nat) (es : List E3) (cs : List Int) (q : Nat) : List Int := dulTo n es cs q n
theorem dulTo_length (n : Nat) (es : List E3) (cs : List Int) (q k : Nat) : (dulTo n es cs q k).length = n := by simp [dulTo]
theorem dulL_length (n : Nat) (es : List E3) (cs : List Int) (q : Nat) : (dulL n es cs q).length = n := dulTo_length n es cs q n
theorem dulL_get {n v : Nat} (es : List E3) (cs : List Int) (q : Nat) (hv : v < n) : (dulL n es cs q).getD v 0 = if v = q then 0 else valE es v - 1 - cs.getD v 0 := by
  unfold dulL dulTo
  rw [List.getD_eq_getElem?_getD]
  simp only [List.getElem?_map, List.getElem?_range hv, Option.map_some, Option.getD_some]
  by_cases h : v = q
  · rw [if_neg (fun e => e.2 h), if_pos h]
  · rw [if_pos ⟨hv, h⟩, if_neg h]
end Go.Proofs.YtnbikkcalcpedaaGreatDoor
namespace Go.Proofs.YtnbikkcalcpedaaGreatDoor
open Go.RowKit
def lenV : Value → Nat
  | .slice _ n _ => n
  | _ => 0
theorem marks_nil (n : Nat) : marks n [] = List.replicate n false := by
  unfold marks
  apply List.ext_getElem?
  intro i
  by_cases hi : i < n <;> simp [hi]
structure RArgs (n : Nat) (es : List E3) (cs : List Int) : Prop where
  hn : es.length ≤ 10000
  hz : checkG n es = 0
  hcl : cs.length = n
  hcb : ∀ x ∈ cs, -1048576 ≤ x ∧ x ≤ 1048577
set_option maxRecDepth 100000 in
set_option maxHeartbeats 8000000 in
theorem rfire_any (n : Nat) (A : Option Addr) (c : Nat) (es : List E3) (q : Nat) (hq : q < n) (B : Option Addr) (d : Nat) (cs : List Int) (hR : RArgs n es cs) (w : World)
    (h : Reads w w.heap.size 3 A es.length (edgeCells es)) (h' : Reads w w.heap.size 1 B n (ints cs)) :
    Calls Tryz.prog 138 #[pileV n A es.length c q B n d] w fun e w' => ∃ A' c', e = .returned (.slice A' (recL n es cs q).length c') ∧ OwnI w' w.heap.size A' c' (natI (recL n es cs q)) ∧ Below w.heap.size w w' := by
  have hG := right_of hR.hz
  have hn12 : n ≤ 12 := by have := hG.hi; omega
  have HCT := Lib.hid (fun (v : Nat) (hv : v < n) (g : Nat) (l : List Nat) (W : World) (hB : Below w.heap.size w W) (hm : Blk W g 4 (bools (marks n l))) => rcatches_any n A c es hR.hn hR.hz q B d cs hR.hcl hR.hcb v hv g l W ((h.below hB).more hB.size) ((h'.below hB).more hB.size) hm)
  have HCD := Lib.hid (fun (l : List Nat) (hl : LOk n l) (v : Nat) (hv : v < n) => cat_dual hG cs hl hv)
  have g0 := Blk.new w 138 (pileC n A es.length c q B n d)
  have hB0 : Below w.heap.size w (w.alloc (.cells (pileC n A es.length c q B n d) 138)) := (Below.refl _ _).alloc (Nat.le_refl _) _
  have hmb := make_bools n (by omega)
  have hqi : (q : Int) < (n : Int) := by omega
  clear hG h h'
  simp only [pileV, pileC] at g0 hB0 HCT ⊢
  have c0 := g0.cell 0
  have c2 := g0.cell 2
  have M0 := Blk.new (w.alloc (.cells #[.int .i64 n, .slice A es.length c, .int .i64 q, .slice B n d] 138)) 4 (bools (List.replicate n false))
  have hs1 : (w.alloc (.cells #[.int .i64 n, .slice A es.length c, .int .i64 q, .slice B n d] 138)).heap.size = w.heap.size + 1 := by simp
  rw [hs1] at M0
  have mq := M0.cell q
  rw [bools_get (show (List.replicate n false)[q]? = some false by simp [hq])] at mq
  have mf := M0.frozen q
  have g1 := g0.alloc (.cells (bools (List.replicate n false)) 4)
  have d0 := g1.cell 0
  have d2 := g1.cell 2
  have M1 := Blk.new (w.alloc (.cells #[.int .i64 n, .slice A es.length c, .int .i64 q, .slice B n d] 138)) 4 ((bools (List.replicate n false)).setIfInBounds q (.bool true))
  have hmk : (bools (List.replicate n false)).setIfInBounds q (.bool true) = bools (marks n [q]) := by rw [bools_set, ← marks_nil, marks_set hq, List.nil_append]
  have g2 := g0.alloc (.cells ((bools (List.replicate n false)).setIfInBounds q (.bool true)) 4)
  have hB2 := hB0.alloc (by simp) (.cells ((bools (List.replicate n false)).setIfInBounds q (.bool true)) 4)
  have e2 := g2.cell 2
  have HMK := Lib.hid hmk
  clear hmk
  obtain ⟨D, hD⟩ : ∃ D, dualL n es cs = D := ⟨_, rfl⟩
  rw [hD] at HCD
  have HRL : Hid (burnL es D n n [q] = recL n es cs q) := by rw [← hD]; rfl
  obtain ⟨R, hRR⟩ : ∃ R, recL n es cs q = R := ⟨_, rfl⟩
  rw [hRR] at HRL ⊢
  go_enter Tryz.func138, Tryz.ntmps138
  go_wp2_with fail
  obtain ⟨W1, hW1⟩ : ∃ W1, (w.alloc (.cells #[.int .i64 n, .slice A es.length c, .int .i64 q, .slice B n d] 138)).alloc (.cells ((bools (List.replicate n false)).setIfInBounds q (.bool true)) 4) = W1 := ⟨_, rfl⟩
  have hsW : W1.heap.size = w.heap.size + 2 := by rw [← hW1]; simp
  rw [hW1] at M1 g2 hB2 e2 ⊢
  rw [HMK.out, hs1] at M1
  have O3 := OwnI.of_blk (base := w.heap.size) (Blk.new W1 3 (intCells [(q : Int)])) (by omega) (by simp [maxLen])
  have M3 := M1.alloc (.cells (intCells [(q : Int)]) 3)
  have G3 := g2.alloc (.cells (intCells [(q : Int)]) 3)
  have B3 := hB2.alloc hB2.size (.cells (intCells [(q : Int)]) 3)
  rw [show (#[.int .i64 (q : Int)] : Array Value) = intCells [(q : Int)] from rfl]
  clear hD hRR g0 hB0 c0 c2 M0 mq mf g1 d0 d2 M1 g2 hB2 e2 hW1 hs1 hmb
  rw [hsW] at O3
  go_loopw [4, 5, 6, 27] (fun o _ _ _ wl => ∃ (A' : Option Addr) (c' : Nat) (l : List Nat), o = .slice A' (natI l).length c' ∧ (natI l).length ≤ n ∧ Hid (LOk n l) ∧ Hid (burnL es D n n l = R) ∧ OwnI wl w.heap.size A' c' (natI l) ∧ Blk wl (w.heap.size + 1) 4 (bools (marks n l)) ∧
    Blk wl w.heap.size 138 #[.int .i64 n, .slice A es.length c, .int .i64 q, .slice B n d] ∧ Below w.heap.size w wl) (fun o _ _ _ _ => n - lenV o)
  case atStart => exact ⟨_, _, [q], by rfl, by simp [natI]; omega, lok_one hq, HRL.out, O3, M3, G3, B3⟩
  case round =>
    obtain ⟨A', c', l, rfl, hll, HLO, HBL, ol, ml, gl, bl⟩ := hrel
    clear O3 M3 G3 B3
    have c0 := gl.cell 0
    have hz1 := bl.size
    obtain ⟨wo, rfl⟩ : ∃ wo : World, wo = wr := ⟨_, rfl⟩
    have hln : Hid ((natI l).length = l.length) := natI_length l
    by_cases hlt : (natI l).length < n
    · have hi : ((natI l).length : Int) < (n : Int) := by omega
      go_wp2_with fail
      go_loopw [5, 6, 27] (fun nx _ i w2 => ∃ u : Nat, nx = .int .i64 (-1) ∧ i = .int .i64 u ∧ u ≤ n ∧ Hid (∀ x, x < u → catL es D l x = false) ∧ Below wo.heap.size wo w2) (fun _ _ i _ => n - (intOf i).toNat)
      case atStart => exact ⟨0, rfl, rfl, by omega, fun x hx => by omega, Below.refl _ _⟩
      case round =>
        obtain ⟨u, rfl, rfl, hu, HU, b2⟩ := hrel
        clear c0
        have m2 := ml.next b2
        have g2 := gl.next b2
        have o2 := ol.next b2
        have B2 := bl.trans (b2.mono hz1)
        have c0 := g2.cell 0
        have c1 := g2.cell 1
        have c2 := g2.cell 2
        have c3 := g2.cell 3
        by_cases hun : u < n
        · have hui : (u : Int) < (n : Int) := by omega
          have mu := (m2.cell u).trans (bools_get (marks_get hun l))
          have hcd := HCD.out l HLO.out u hun
          by_cases hm : u ∈ l
          · rw [decide_eq_true hm] at mu hcd
            rw [Bool.not_true, Bool.false_and] at hcd
            have HC := Lib.hid hcd
            clear hcd hm
            go_wp2
            go_roundw
            case rel => exact ⟨u + 1, rfl, by go_num, by omega, fun x hx => by
              by_cases he : x = u
              · subst he; exact HC.out
              · exact HU.out x (by omega), b2⟩
            case measure => simp [intOf]; omega
          · rw [decide_eq_false hm] at mu hcd
            rw [Bool.not_false, Bool.true_and] at hcd
            have CT := HCT.out u hun (w.heap.size + 1) l wr B2 m2
            have HM := Lib.hid hm
            cases hcb : catchB es cs l u
            · rw [hcb] at hcd CT
              have CT := Lib.hid CT
              have HC := Lib.hid hcd
              clear hcd hm hcb
              go_wp2_with (go_at_call 192; refine (CT.out).mono ?_; rintro e w5 ⟨rfl, b5⟩)
              go_roundw
              case rel => exact ⟨u + 1, rfl, by go_num, by omega, fun x hx => by
                by_cases he : x = u
                · subst he; exact HC.out
                · exact HU.out x (by omega), b2.trans (b5.mono b2.size)⟩
              case measure => simp [intOf]; omega
            · rw [hcb] at hcd CT
              have CT := Lib.hid CT
              have hhead := head_ready_of hun hcd HU.out
              have HB2 := Lib.hid ((burnL_next HLO.out hhead).symm.trans HBL.out)
              have HL2 := Lib.hid (HLO.out.snoc HM.out hun)
              clear hcd hm hcb hhead
              have hl1 : (natI l).length ≤ 1048000 := by omega
              have hwz : w.heap.size ≤ w.heap.size + 1 := by omega
              have hne1 : ((u : Int) < 0) = False := by simp
              have hne2 : decide ((u : Int) < 0) = false := by simp
              go_wp2_with (first
                | (go_at_call 192; refine (CT.out).mono ?_; rintro e w5 ⟨rfl, b5⟩; have m5 := m2.next b5; have f5 := m5.frozen u; have k5 := (m5.cell u).trans (bools_get (marks_get hun l)); have o5 := o2.next b5; have g5 := g2.next b5; have B5 := B2.trans (b5.mono B2.size); have m6 := m5.set_ u (.bool true); have g6 := g5.far (p := ⟨w.heap.size + 1, u, none⟩) (by simp) (.bool true); have o6 := o5.set_blk m5 (by decide) u (.bool true); have B6 := B5.setCell (p := ⟨w.heap.size + 1, u, none⟩) hwz (.bool true); have s6 := B6.size)
                | (at_builtin; go_loud (refine push_int rfl (.tmp 48) (.tmp 50) _ rfl Tryz.underlying25 w.heap.size A' c' (natI l) (u : Int) rfl o6 rfl (by simp [World.setCell]) hl1 s6 ?_); intro A7 c7 w7 o7 gr7 b7))
              have m7 := (m6.alloc (.cells #[.int .i64 u] 3)).grown gr7 (own_blk_ne o6 m6 (by decide))
              have g7 := (g6.alloc (.cells #[.int .i64 u] 3)).grown gr7 (own_blk_ne o6 g6 (by decide))
              rw [bools_set, marks_set hun] at m7
              go_roundw
              case rel =>
                refine ⟨A7, c7, l ++ [u], by rw [natI_snoc]; simp, by rw [natI_snoc]; simp; omega, HL2, HB2, by rw [natI_snoc]; exact o7, m7, g7, B6.trans b7⟩
              case measure => simp [lenV]; omega
        · obtain rfl : u = n := by omega
          have hnone := ready_none HU.out
          have hRl : R = l := by rw [← HBL.out, burnL_stop (by rw [hnone]; rfl)]
          have HRl := Lib.hid hRl
          clear hRl hnone
          go_wp2
          go_ret
          exact ⟨A', c', by rw [HRl.out, ← hln.out]; rfl, by rw [HRl.out]; exact o2, B2⟩
    · have hi : ¬ ((natI l).length : Int) < (n : Int) := by omega
      have hRl : R = l := by rw [← HBL.out]; exact burn_full HLO.out (by have := hln.out; omega)
      have HRl := Lib.hid hRl
      clear hRl
      go_wp2
      go_ret
      exact ⟨A', c', by rw [HRl.out, ← hln.out]; rfl, by rw [HRl.out]; exact ol, bl⟩
end Go.Proofs.YtnbikkcalcpedaaGreatDoor
namespace Go.Proofs.YtnbikkcalcpedaaGreatDoor
open Go.RowKit
def worstL (n : Nat) (es : List E3) (cs : List Int) (q : Nat) : List Nat := restL n (recL n es cs q)
theorem flm_rest {es : List E3} {n v : Nat} {l : List Nat} : ∀ k, k ≤ n → flmTo es l v k + flmTo es (restL n l) v k = flmTo es (List.range n) v k
  | 0, _ => rfl
  | k + 1, hk => by
    simp only [flmTo]
    have ih := flm_rest (es := es) (n := n) (v := v) (l := l) k (by omega)
    rw [if_pos (show k ∈ List.range n from List.mem_range.2 (by omega))]
    by_cases h : k ∈ l
    · rw [if_pos h, if_neg (fun hc => (mem_rest.1 hc).2 h)]; omega
    · rw [if_neg h, if_pos (mem_rest.2 ⟨by omega, h⟩)]; omega
theorem jn_rest {n : Nat} {es : List E3} (hG : RightG n es) (l : List Nat) (v : Nat) : jnE es l v + jnE es (restL n l) v = valE es v := by
  rw [valE_jn (n := n) hG.ok, jnE_flm hG, jnE_flm hG, jnE_flm hG, flm_rest n (Nat.le_refl _)]
theorem rest_catch {n : Nat} {es : List E3} (hG : RightG n es) (cs : List Int) (l : List Nat) (v : Nat) : decide (jnE es (restL n l) v ≤ cs.getD v 0) = catchB es cs l v := by
  unfold catchB
  rw [decide_eq_decide]
  have := jn_rest hG l v
  omega
theorem recL_sink {n q : Nat} {es : List E3} {cs : List Int} : q ∈ recL n es cs q := by
  have := burnL_pre (es := es) (c := dualL n es cs) (n := n) n [q]
  obtain ⟨z, hz⟩ := this
  unfold recL burntL
  rw [← hz]
  simp
theorem full_iff {n q : Nat} {es : List E3} {cs : List Int} (hq : q < n) : (recL n es cs q).length = n ↔ worstL n es cs q = [] := by
  have := rest_len (recL n es cs q) (recL_ok hq)
  unfold worstL
  rw [← List.length_eq_zero_iff]
  omega
theorem recB_mono {n q : Nat} {es : List E3} (hG : RightG n es) (hq : q < n) {x y : List Int} (h : ∀ i, i < n → x.getD i 0 ≤ y.getD i 0) (hy : stabTo es y q n = true) (hx : recB n es x q = true) : recB n es y q = true := by
  unfold recB at hx ⊢
  rw [Bool.and_eq_true] at hx ⊢
  refine ⟨hy, ?_⟩
  have h1 := of_decide_eq_true hx.2
  refine decide_eq_true ?_
  rw [full_iff hq] at h1 ⊢
  unfold worstL at h1 ⊢
  have hf := fewer_burn (n := n) (q := q) (es := es) (fun a b => (btw_bd hG.ok a b).1) hq (cs := dualL n es x) (ds := dualL n es y) (fun v hv => by rw [dualL_get es x hv, dualL_get es y hv]; have := h v hv; omega)
  apply List.eq_nil_iff_forall_not_mem.2
  intro u hu
  obtain ⟨h2, h3⟩ := mem_rest.1 hu
  apply h3
  refine hf u ?_
  apply Classical.byContradiction
  intro hn
  have := mem_rest.2 ⟨h2, hn⟩
  unfold recL at h1
  rw [h1] at this
  cases this
theorem stabTo_iff {n q : Nat} {es : List E3} {cs : List Int} : stabTo es cs q n = true ↔ ∀ v, v < n → v ≠ q → cs.getD v 0 < valE es v := by
  unfold stabTo
  rw [List.all_eq_true]
  constructor
  · intro h v hv hq
    have := h v (List.mem_range.2 hv)
    rw [decide_eq_false hq, Bool.false_or] at this
    exact of_decide_eq_true this
  · intro h v hv
    by_cases hq : v = q
    · simp [hq]
    · rw [decide_eq_true (h v (List.mem_range.1 hv) hq), Bool.or_true]
end Go.Proofs.YtnbikkcalcpedaaGreatDoor
namespace Go.Proofs.YtnbikkcalcpedaaGreatDoor
section
variable {es : List E3} {cs : List Int} {n : Nat}
end
end Go.Proofs.YtnbikkcalcpedaaGreatDoor
namespace Go.Proofs.YtnbikkcalcpedaaGreatDoor
open Go.RowKit
end Go.Proofs.YtnbikkcalcpedaaGreatDoor
namespace Go.Proofs.YtnbikkcalcpedaaGreatDoor
open Go.RowKit
theorem edgFrom_ok {m : Nat} : ∀ {t : List Nat} {p : Option Int}, t.Pairwise (· < ·) → (∀ e ∈ t, e < m) → (∀ y, p = some y → ∀ e ∈ t, y < (e : Int)) → edgFrom m p (nI t) = 0
  | [], _, _, _, _ => rfl
  | e :: t, p, h1, h2, h3 => by
    have he := h2 e (by simp)
    show (if (e : Int) < 0 ∨ (m : Int) ≤ (e : Int) then 2 else if leP p (e : Int) = true then 9 else edgFrom m (some (e : Int)) (nI t)) = 0
    rw [if_neg (by omega), if_neg]
    · rw [List.pairwise_cons] at h1
      refine edgFrom_ok h1.2 (fun x hx => h2 x (by simp [hx])) ?_
      rintro y hy x hx
      injection hy with hy
      have := h1.1 x hx
      omega
    · unfold leP
      cases p with
      | none => simp
      | some y =>
        have := h3 y rfl e (by simp)
        simp; omega
theorem edg_ok {m : Nat} {t : List Nat} (h : SetN m t) : edgErr m (nI t) = 0 := edgFrom_ok h.1 h.2 (fun y hy => by cases hy)
theorem tree_ok {m : Nat} {es : List E3} {t : List Nat} (hj : joinErr m es = 0) (h : IsTr m (endsL es) t) : treeErr m es (nI t) = 0 := by
  have hl := h.len
  have e2 : (nI t).map Int.toNat = t := toN_nI t
  unfold treeErr
  rw [if_neg (fun hc => hc hj), if_neg (fun hc => hc (edg_ok h.set)), if_neg (by rw [nI_length]; omega), e2, if_pos (foB_iff.2 h.fo)]
end Go.Proofs.YtnbikkcalcpedaaGreatDoor
namespace Go.Proofs.YtnbikkcalcpedaaGreatDoor
open Go.RowKit
end Go.Proofs.YtnbikkcalcpedaaGreatDoor
namespace Go.Proofs.YtnbikkcalcpedaaGreatDoor
open Go.RowKit
set_option maxHeartbeats 1000000 in
theorem bindex_any (A : Option Addr) (c : Nat) (xs : List Int) (hn : xs.length ≤ 1048576) (v : Int) (w : World) (h : Reads w w.heap.size 1 A xs.length (ints xs)) :
    Calls Tryz.prog 328 #[.slice A xs.length c, .int .i64 v] w fun e w' => ∃ r : Int, e = .returned (.int .i64 r) ∧ Hid (0 ≤ r ↔ v ∈ xs) ∧ w = w' := by
  go_enter Tryz.func328, Tryz.ntmps328
  go_wp2
  go_loop [8] (fun i => ∃ k : Nat, k ≤ xs.length ∧ i = .int .i64 k ∧ Hid (v ∉ xs.take k)) (fun i => xs.length - (intOf i).toNat)
  case atStart => exact ⟨0, by omega, rfl, by simp [Hid]⟩
  case round =>
    obtain ⟨k, hk, rfl, HS⟩ := hrel
    by_cases hlt : k < xs.length
    · obtain ⟨x, hx⟩ := get_of_lt hlt
      obtain ⟨b, off, rfl, hb, hcell⟩ := h.at_ (ints_at hx)
      have hi : (k : Int) < (xs.length : Int) := by omega
      have htk := take_snoc hx
      by_cases hv : v = x
      · have e : (v == x) = true := by simpa using hv
        have HT : Hid (v ∈ xs) := by rw [hv]; exact List.mem_of_getElem? hx
        clear hx htk hv
        go_wp2
        go_ret
        exact ⟨k, rfl, ⟨fun _ => HT.out, fun _ => by omega⟩, rfl⟩
      · have e : (v == x) = false := by simpa using hv
        have HN : Hid (v ∉ xs.take (k + 1)) := by
          rw [htk, Hid, List.mem_append]
          rintro (hc | hc)
          · exact HS.out hc
          · exact hv (List.mem_singleton.1 hc)
        clear hx htk hv
        go_wp2
        go_round
        case rel => exact ⟨k + 1, by omega, by go_num, HN⟩
        case measure => simp [intOf]; omega
    · obtain rfl : k = xs.length := by omega
      rw [List.take_length] at HS
      go_wp2
      go_ret
      exact ⟨-1, rfl, ⟨fun h => absurd h (by decide), fun h => absurd h HS.out⟩, rfl⟩
set_option maxHeartbeats 1000000 in
theorem bcontains_any (A : Option Addr) (c : Nat) (xs : List Int) (hn : xs.length ≤ 1048576) (v : Int) (w : World) (h : Reads w w.heap.size 1 A xs.length (ints xs)) :
    Calls Tryz.prog 300 #[.slice A xs.length c, .int .i64 v] w fun e w' => e = .returned (.bool (decide (v ∈ xs))) ∧ w = w' := by
  have IC := Lib.hid (bindex_any A c xs hn v w h)
  go_enter Tryz.func300, Tryz.ntmps300
  go_wp2_with fail
  refine (IC.out).mono ?_
  rintro e w1 ⟨r, rfl, HR, rfl⟩
  go_wp2
  go_ret
  exact ⟨ret_bool (by rw [Bool.eq_iff_iff]; simp [HR.out]), rfl⟩
theorem blights_any (B : Option Addr) (d : Nat) (t : List Nat) (ht : t.length ≤ 1048576) (v e : Nat) (k : Int) (w : World) (h : Reads w w.heap.size 1 B t.length (ints (nI t))) :
    Calls Tryz.prog 257 #[.slice B t.length d, .int .i64 (v : Int), .int .i64 (e : Int), .int .i64 k] w fun r w' => r = .returned (.bool (ltB t v e k)) ∧ w = w' := by
  have HC : Hid (Calls Tryz.prog 300 #[.slice B t.length d, .int .i64 (e : Int)] w fun e_ w' => e_ = .returned (.bool (ltB t v e k)) ∧ w = w') := by
    have := bcontains_any B d (nI t) (by rw [nI_length]; exact ht) (e : Int) w (by rw [nI_length]; exact h)
    rw [nI_length] at this
    have e1 : decide ((e : Int) ∈ nI t) = ltB t v e k := by
      unfold ltB nI
      rw [Bool.eq_iff_iff, decide_eq_true_eq, decide_eq_true_eq, List.mem_map]
      exact ⟨fun ⟨a, ha, hae⟩ => by have : a = e := by omega
                                    exact this ▸ ha, fun h => ⟨e, h, rfl⟩⟩
    rw [e1] at this
    exact this
  obtain ⟨r, hr⟩ : ∃ r, ltB t v e k = r := ⟨_, rfl⟩
  rw [hr] at HC ⊢
  clear hr
  go_enter Tryz.func257, Tryz.ntmps257
  go_wp2_with fail
  refine (HC.out).mono ?_
  rintro e_ w1 ⟨rfl, rfl⟩
  go_wp2
  go_ret
  exact ⟨rfl, rfl⟩
end Go.Proofs.YtnbikkcalcpedaaGreatDoor
namespace Go.Proofs.YtnbikkcalcpedaaGreatDoor
open Go.RowKit Go.Shelf
def burnE (n : Int) (es : List E3) (q : Int) (cs : List Int) : List Int × List Int × Int := if burnErr n es q cs = 0 then (natI (burntL es cs n.toNat q.toNat), natI (restL n.toNat (burntL es cs n.toNat q.toNat)), 0) else ([], [], burnErr n es q cs)
def superE (n : Int) (es : List E3) (q : Int) (cs : List Int) : Bool × Int := if burnErr n es q cs = 0 then (decide (restL n.toNat (burntL es cs n.toNat q.toNat) = []), 0) else (false, burnErr n es q cs)
set_option maxRecDepth 100000 in
set_option maxHeartbeats 4000000 in
theorem burn_any (n : Int) (A : Option Addr) (c : Nat) (es : List E3) (hn : es.length ≤ 1048576) (q : Int) (B : Option Addr) (d : Nat) (cs : List Int) (hm : cs.length ≤ 1048000) (w : World) (h : Reads w w.heap.size 3 A es.length (edgeCells es)) (h' : Reads w w.heap.size 1 B cs.length (ints cs)) :
    Calls Tryz.prog 258 #[.agg #[.int .i64 n, .slice A es.length c], .int .i64 q, .slice B cs.length d] w fun e w' => ∃ A1 c1 A2 c2, e = .returned (.tuple #[.slice A1 (burnE n es q cs).1.length c1, .slice A2 (burnE n es q cs).2.1.length c2, .int .i64 (burnE n es q cs).2.2]) ∧
      OwnI w' w.heap.size A1 c1 (burnE n es q cs).1 ∧ OwnI w' w.heap.size A2 c2 (burnE n es q cs).2.1 ∧ Below w.heap.size w w' := by
  by_cases hz : burnErr n es q cs = 0
  · obtain ⟨hG, _, hq0, hqn, _⟩ := conf_zero (burn_zero hz).1
    have hlo := hG.lo
    obtain ⟨m, rfl⟩ := Int.eq_ofNat_of_zero_le (show 0 ≤ n by omega)
    obtain ⟨p, rfl⟩ := Int.eq_ofNat_of_zero_le hq0
    have hE : burnE m es p cs = (natI (burntL es cs m p), natI (restL m (burntL es cs m p)), 0) := by unfold burnE; rw [if_pos hz]; simp
    rw [hE]
    refine (burn_ok m A c es hn p B d cs hm hz w h h').mono ?_
    rintro e w' ⟨A1, c1, A2, c2, he, o1, o2, hb⟩
    exact ⟨A1, c1, A2, c2, by dsimp only; rw [natI_length, natI_length]; exact he, o1, o2, hb⟩
  · have hE : burnE n es q cs = ([], [], burnErr n es q cs) := by unfold burnE; rw [if_neg hz]
    rw [hE]
    have hbc := bcheck_any n A c es hn q B d cs (by omega)
    obtain ⟨z, hzz⟩ : ∃ z, burnErr n es q cs = z := ⟨_, rfl⟩
    rw [hzz] at hbc hz ⊢
    have hb : (z == 0) = false := by simpa using hz
    have BC := Lib.hid hbc
    clear hz hE hbc hzz
    refine (callsIn_wide (n := 3)).1 ?_
    refine callsIn_of_wp_marks Tryz.func258 rfl trivial ?_
    simp only [Tryz.ntmps258, List.size_toArray, List.length_cons, List.length_nil, Nat.reduceAdd, Nat.reduceSub, Array.replicate_succ, Array.replicate_zero, List.push_toArray, List.append_toArray, List.nil_append, List.cons_append]
    gi_wp2_with fail
    refine ⟨trivial, ?_⟩
    refine (inW (BC.out _ ((h.alloc (Nat.le_refl _) _).more (by simp)) ((h'.alloc (Nat.le_refl _) _).more (by simp)))).mono ?_
    rintro e w1 ⟨rfl, hb1⟩
    have hbel1 : Below w.heap.size w w1 := ((Below.refl _ _).alloc (Nat.le_refl _) _).trans (hb1.mono (by simp))
    gi_wp2
    refine end_marks [] _ trivial fun w' ho => ⟨.tuple #[.slice none 0 0, .slice none 0 0, .int .i64 z], by simp [results, Tryz.results258, go_sem], none, 0, none, 0, rfl, OwnI.nil_ _ _, OwnI.nil_ _ _, ?_⟩
    exact hbel1.trans (ho.below (fun k hk e => by cases e) hbel1.size)
set_option maxRecDepth 100000 in
set_option maxHeartbeats 2000000 in
theorem super_any (n : Int) (A : Option Addr) (c : Nat) (es : List E3) (hn : es.length ≤ 1048576) (q : Int) (B : Option Addr) (d : Nat) (cs : List Int) (hm : cs.length ≤ 1048000) (w : World) (h : Reads w w.heap.size 3 A es.length (edgeCells es)) (h' : Reads w w.heap.size 1 B cs.length (ints cs)) :
    Calls Tryz.prog 200 #[.agg #[.int .i64 n, .slice A es.length c], .int .i64 q, .slice B cs.length d] w fun e w' => e = .returned (.tuple #[.bool (superE n es q cs).1, .int .i64 (superE n es q cs).2]) ∧ Below w.heap.size w w' := by
  have hE : superE n es q cs = (decide ((burnE n es q cs).2.2 = 0) && decide ((burnE n es q cs).2.1.length = 0), (burnE n es q cs).2.2) := by
    unfold superE burnE
    by_cases hz : burnErr n es q cs = 0
    · rw [if_pos hz, if_pos hz]
      simp [natI_length]
    · rw [if_neg hz, if_neg hz]
      simp [hz]
  have BC := Lib.hid (fun w h h' => burn_any n A c es hn q B d cs hm w h h')
  rw [hE]
  clear hE
  obtain ⟨⟨l, r, x⟩, hp⟩ : ∃ p, burnE n es q cs = p := ⟨_, rfl⟩
  rw [hp] at BC ⊢
  clear hp
  dsimp only at BC ⊢
  have g0 := Blk.new w 24 #[.int .i64 n, .slice A es.length c]
  by_cases hx : x = 0
  · subst hx
    obtain ⟨m, hm'⟩ : ∃ m, r.length = m := ⟨_, rfl⟩
    go_enter Tryz.func200, Tryz.ntmps200
    go_wp2_with fail
    refine (BC.out _ ((h.alloc (Nat.le_refl _) _).more (by simp)) ((h'.alloc (Nat.le_refl _) _).more (by simp))).mono ?_
    rintro e w1 ⟨A1, c1, A2, c2, rfl, _, _, hb1⟩
    have hbel1 : Below w.heap.size w w1 := ((Below.refl _ _).alloc (Nat.le_refl _) _).trans (hb1.mono (by simp))
    go_wp2
    go_ret2
    refine ⟨?_, hbel1⟩
    rw [hm', show ((m : Int) == 0) = decide (m = 0) from by rw [Bool.eq_iff_iff]; simp]
    simp
  · have hxb : (x == 0) = false := by simpa using hx
    rw [decide_eq_false hx, Bool.false_and]
    clear hx
    go_enter Tryz.func200, Tryz.ntmps200
    go_wp2_with fail
    refine (BC.out _ ((h.alloc (Nat.le_refl _) _).more (by simp)) ((h'.alloc (Nat.le_refl _) _).more (by simp))).mono ?_
    rintro e w1 ⟨A1, c1, A2, c2, rfl, _, _, hb1⟩
    have hbel1 : Below w.heap.size w w1 := ((Below.refl _ _).alloc (Nat.le_refl _) _).trans (hb1.mono (by simp))
    go_wp2
    go_ret2
    exact ⟨rfl, hbel1⟩
end Go.Proofs.YtnbikkcalcpedaaGreatDoor
