/-
 Texts of this claim, put together: LevP.
-/
import Derived.Test.YtnbikkcalcpedaaGreatDoorK38
import Derived.Test.YtnbikkcalcpedaaGreatDoorK43
set_option maxRecDepth 100000
set_option maxHeartbeats 16000000
namespace Go.Proofs.YtnbikkcalcpedaaGreatDoor
open Go.RowKit Go.Shelf
attribute [local go_sem] Oper.semAt_some
theorem append_stepL {F : Fence} {m0 : Nat} {P : Program} {ops : Array Oper} {o : Oper} {a : Act} {K : Act → World → Prop} {Q : Exit → Act → World → Prop} {E : Prop} {w w' : World} {sv xv v : Value} (hgd : o.guard = none) (s x : Operand) (t : TypeId)
  (ho : o.op = .call { callee := .builtin .append, args := #[s, x], argTypes := #[t, t] }) (hrun : (Builtin.append_ #[t, t] o.type #[sv, xv]).run P w = .ok v w') (hs : a.eval s = sv) (hx : a.eval x = xv) (hK : K (a.put o.dst v) w') :
  if Region.wanted o (yielded ops a.tmps) = true then Oper.wpIn F m0 P o a w K Q else E := by
 have hw : Region.wanted o (yielded ops a.tmps) = true := by simp [Region.wanted, hgd]
 rw [if_pos hw]
 unfold Oper.wpIn
 refine ⟨?_, ?_⟩
 ·simp [Oper.about, ho, resolve, Target.leads, Sem.run_pure]
 ·rw [Oper.semAt_plain F _ _ (by rw [ho]; intro c hc'; cases hc')]
  simp [execOp, ho, resolve, invoke, builtin, hs, hx, hrun, Result.andThen]
  exact hK
def polB (l : List (Nat × Int)) : List Tm := l.filterMap fun p => if p.2 = 0 then none else some ((0, p.1), p.2)
theorem polB_zero {l : List (Nat × Int)} {k : Nat} : polB (l ++ [(k, 0)]) = polB l := by simp [polB, List.filterMap_append]
theorem polB_snoc {l : List (Nat × Int)} {k : Nat} {v : Int} (h : v ≠ 0) : polB (l ++ [(k, v)]) = polB l ++ [((0, k), v)] := by simp [polB, List.filterMap_append, h]
theorem polB_len (l : List (Nat × Int)) : (polB l).length ≤ l.length := List.length_filterMap_le _ _
def lpolE (n : Int) (es : List E3) (q : Int) : List Tm × Int := if rootErr n es q = 0 then (polB (bwL (lcntE n es q).1), 0) else ([], rootErr n es q)
theorem lpoly_ok (n q : Nat) (A : Option Addr) (c : Nat) (es : List E3) (hlen : es.length ≤ 10000) (hx : rootErr n es q = 0) (hm : (endsL es).length ≤ 200) (hR : (recsL n es q).length ≤ 16384) (w : World) (ht : Tab10 w) (h : Reads w w.heap.size 3 A es.length (edgeCells es)) :
  Calls Tryz.prog 36 #[.agg #[.int .i64 n, .slice A es.length c], .int .i64 q] w fun e w' => ∃ A' c', e = .returned (.tuple #[.slice A' (lpolE n es q).1.length c', .int .i64 0]) ∧ OwnT w' w.heap.size A' c' (lpolE n es q).1 ∧ Below w.heap.size w w' := by
 have hE : lpolE n es q = (polB (bwL (lcntE n es q).1), 0) := by unfold lpolE; rw [if_pos hx]
 rw [hE]
 dsimp only
 have hL2 : (lcntE n es q).2 = 0 := by unfold lcntE; rw [if_pos hx]
 have CC := Lib.hid (fun (W : World) (hB : Below w.heap.size w W) => lcounts_any n A c es hlen q (fun _ => ⟨by omega, hR⟩) W ((h.below hB).more hB.size))
 rw [hL2] at CC
 have hnn : ∀ x ∈ (lcntE n es q).1, 0 ≤ x ∧ x ≤ 16384 := by
  unfold lcntE
  rw [if_pos hx]
  intro x hxm
  obtain ⟨k, _, rfl⟩ := List.mem_map.1 hxm
  have : ((recsL (n : Int).toNat es (q : Int).toNat).map (lvlC es (q : Int).toNat)).count (k : Int) ≤ ((recsL (n : Int).toNat es (q : Int).toNat).map (lvlC es (q : Int).toNat)).length := List.count_le_length
  rw [List.length_map] at this
  have h2 : (recsL (n : Int).toNat es (q : Int).toNat).length ≤ 16384 := hR
  omega
 have hll : (lcntE n es q).1.length ≤ 202 := by
  unfold lcntE
  rw [if_pos hx]
  dsimp only
  rw [cntI_length]
  obtain ⟨_, hG, _, _⟩ := root_zero hx
  have hse : (endsL (straightL es)).length ≤ (endsL es).length := by rw [ends_straight hG.ok]; exact List.length_filter_le _ _
  omega
 obtain ⟨L, hL⟩ : ∃ L, (lcntE n es q).1 = L := ⟨_, rfl⟩
 rw [hL] at CC hnn hll ⊢
 have HBW : Hid (∀ p ∈ bwL L, p.1 < L.length ∧ 0 ≤ p.2 ∧ p.2 ≤ 16384) := by
  intro p hp
  unfold bwL at hp
  rw [List.mem_reverse] at hp
  obtain ⟨k, hk, rfl⟩ := List.mem_map.1 hp
  have hkl := List.mem_range.1 hk
  refine ⟨hkl, ?_⟩
  obtain ⟨x, hxx⟩ := get_of_lt hkl
  show 0 ≤ L.getD k 0 ∧ L.getD k 0 ≤ 16384
  rw [getD_at hxx]
  exact hnn x (List.mem_of_getElem? hxx)
 have OF : Hid (∀ (v : Nat), v < 1000000000 → ∀ (W : World), Below w.heap.size w W → Calls Tryz.prog 19 #[.int .i64 v] W fun e w' => e = .returned (.string (intS v)) ∧ Below W.heap.size W w') := fun v hv W hB => intOfN_any v hv W (ht.below hB)
 have IT := Lib.hid (fun (tb lb : Nat) (A : Option Addr) (c : Nat) (W0 : World) (htb : tb ≤ W0.heap.size) h1 h3 => backward_iter tb lb A c L (by omega) W0 htb h1 h3)
 obtain ⟨K, hK⟩ : ∃ K, L.length = K := ⟨_, rfl⟩
 have HKK := Lib.hid hK
 rw [hK] at IT HBW CC hll
 have HBL : Hid ((bwL L).length = K) := by rw [Hid, bwL_length, hK]
 obtain ⟨M, hM⟩ : ∃ M, es.length = M := ⟨_, rfl⟩
 rw [hM] at CC ⊢
 obtain ⟨w3, hw3⟩ : ∃ w3, ((w.alloc (.cells #[.int .i64 n, .slice A M c] 24)).alloc (.cells #[.slice none 0 0] 33)).alloc (.cells #[.int .i64 0] 29) = w3 := ⟨_, rfl⟩
 have g : Blk w3 w.heap.size 24 #[.int .i64 n, .slice A M c] := by rw [← hw3]; exact ((Blk.new w _ _).alloc _).alloc _
 have ga : Blk w3 (w.heap.size + 1) 33 #[.slice none 0 0] := by rw [← hw3]; exact (blk_atC (by simp)).alloc _
 have gb : Blk w3 (w.heap.size + 2) 29 #[.int .i64 0] := by rw [← hw3]; exact blk_atC (by simp)
 have hB : Below w.heap.size w w3 := by rw [← hw3]; exact (((Below.refl _ _).alloc (Nat.le_refl _) _).alloc (by simp) _).alloc (by simp; omega) _
 have HW3 := Lib.hid hw3
 have k0 := g.cell 0
 have k1 := g.cell 1
 clear hx h hE hL hnn hK hM hw3 hR hm hlen ht hL2
 refine (callsIn_wide (n := 3)).1 ?_
 refine callsIn_of_wp_marks Tryz.func36 rfl trivial ?_
 simp only [Tryz.ntmps36, List.size_toArray, List.length_cons, List.length_nil, Nat.reduceAdd, Nat.reduceSub, Array.replicate_succ, Array.replicate_zero, List.push_toArray, List.append_toArray, List.nil_append, List.cons_append]
 gi_wp2_with fail
 rw [HW3.out]
 refine ⟨trivial, ?_⟩
 refine (inW (CC.out _ hB)).mono ?_
 rintro e w1 ⟨Ac, cc, rfl, oc, hb1⟩
 have ga := ga.next hb1
 have gb := gb.next hb1
 have hB1 := hB.trans (hb1.mono hB.size)
 have rc := oc.reads
 rw [HKK.out] at rc
 obtain ⟨tb, htb⟩ : ∃ tb, w1.heap.size = tb := ⟨_, rfl⟩
 have hgbt : w.heap.size + 2 < tb := by rw [← htb]; exact gb.lt
 clear g hB hb1 k0 k1 oc
 gi_wp2_with fail
 obtain ⟨w2, hw2⟩ : ∃ w2, w1.alloc (.cells #[.slice none 0 0] 33) = w2 := ⟨_, rfl⟩
 have hs2 : w2.heap.size = tb + 1 := by rw [← hw2, ← htb]; simp
 have b1 : Below tb w1 w2 := by rw [← hw2, ← htb]; exact (Below.refl _ _).alloc (Nat.le_refl _) _
 have ga := ga.next (by rw [htb]; exact b1)
 have gb := gb.next (by rw [htb]; exact b1)
 have t2 : Blk w2 tb 33 #[.slice none 0 0] := by rw [← hw2]; exact blk_atC htb
 have B2 : Below w.heap.size w w2 := hB1.trans (b1.mono (by omega))
 have rc2 : Reads w2 tb 1 Ac K (ints L) := by rw [htb] at rc; exact rc.below b1
 rw [hw2]
 refine ⟨trivial, ?_⟩
 refine (inW (backward_any Ac K cc w2)).mono ?_
 rintro e w3' ⟨rfl, hw3⟩
 have hs3 : w3'.heap.size = tb + 2 := by rw [← hw3]; simp [hs2]
 have b2 : Below w2.heap.size w2 w3' := by rw [← hw3]; exact (Below.refl _ _).alloc (Nat.le_refl _) _
 have q1 : Blk w3' (tb + 1) 25 #[.slice Ac K cc] := by rw [← hw3, ← hs2]; exact Blk.new w2 _ _
 have ga := ga.next b2
 have gb := gb.next b2
 have t3 := t2.next b2
 have B3 : Below w.heap.size w w3' := B2.trans (b2.mono B2.size)
 have R3 := rc2.below (b2.mono (by omega))
 rw [hs2]
 clear hw3 hw2 b1 b2 t2 hB1 rc rc2 B2 htb
 gi_wp2_with fail
 refine range_outer (n := 3) (gf := 153) (lb := #[.pointer (some ⟨tb + 1, 0, none⟩)]) (by rfl) (enters_of Tryz.func153 (by kernel_rfl) rfl)
  (IT.out tb (tb + 1) Ac cc w3' (by omega) q1 R3) ?hK (fun k => k = tb) ?hC
  (fun pre C W => ∃ A c, Blk W tb 33 #[.slice A (polB pre).length c] ∧ OwnT W w.heap.size A c (polB pre) ∧ C tb ∧ (∀ k, blockOf A k → C k) ∧ Below w.heap.size w W ∧ Blk W (w.heap.size + 1) 33 #[.slice none 0 0] ∧ Blk W (w.heap.size + 2) 29 #[.int .i64 0] ∧ (∀ k, C k → k = tb ∨ tb + 2 ≤ k) ∧ w3'.heap.size ≤ W.heap.size)
  (fun _ _ _ _ => False) ?hI (fun _ _ _ _ _ h _ => h) ?h0 ?hps ?round ?done (fun _ _ _ _ _ h => h.elim)
 case hK =>
  rintro k (hk | rfl) <;> omega
 case hC =>
  rintro k rfl
  exact ⟨by omega, by omega⟩
 case hI =>
  rintro pre C a b ⟨A, c, i1, i2, i3, i4, i5, i6, i7, i8, i9⟩ hst
  exact ⟨A, c, i1.stays hst (.inl i3), i2.kept (fun k hk => hst.block k (i2.lt k hk).2 (.inl (i4 k hk))), i3, i4, i5.trans (hst.below (fun k hk => .inr ⟨by omega, id⟩) i5.size), i6.stays hst (.inr ⟨by omega, id⟩), i7.stays hst (.inr ⟨by omega, id⟩), i8, Nat.le_trans i9 hst.size⟩
 case h0 => exact ⟨none, 0, t3, OwnT.nil_ _ _, rfl, (by rintro k ⟨a, h, _⟩; cases h), B3, ga, gb, fun k hk => .inl hk, Nat.le_refl _⟩
 case hps => intro x' args O W' (ha : args = _); subst ha; rfl
 case round =>
  rintro l pre ⟨k, v⟩ args C Ob W hpre hI hl hC hOb harg hlW hnC hnO T hT
  obtain ⟨A, c, i1, i2, i3, i4, i5, i6, i7, i8, i9⟩ := hI
  obtain rfl : args = #[.int .i64 (k : Nat), .int .i64 v] := harg
  have hmem : (k, v) ∈ bwL L := by
   obtain ⟨z, hz⟩ := hpre
   rw [← hz]; simp
  obtain ⟨hkK, hv0, hv1⟩ := HBW.out _ hmem
  dsimp only at hkK hv0 hv1
  have hpl : (polB pre).length < 1000 := by
   obtain ⟨z, hz⟩ := hpre
   have h1 := congrArg List.length hz
   rw [HBL.out] at h1
   have h2 := polB_len pre
   simp at h1
   omega
  clear hpre hmem q1 R3 t3 ga gb B3
  gi_wp2
  refine hT _ _ (Only.refl _ _) ?_
  intro w6 h5 _
  have hl5 : ∀ k, C k → k ≠ l := fun k hk e => hnC (e ▸ hk)
  have k1 : Blk w6 tb 33 #[.slice A (polB pre).length c] := i1.only h5 (fun e => hnC (e ▸ i3))
  have k2 : OwnT w6 w.heap.size A c (polB pre) := i2.kept fun k hk => h5.block k (i2.lt k hk).2 (hl5 k (i4 k hk))
  have k5 : Below w.heap.size w w6 := i5.trans (h5.below (fun k hk e => by omega) i5.size)
  have k6 := i6.only h5 (fun e => by omega)
  have k7 := i7.only h5 (fun e => by omega)
  have hs5 := h5.size
  have K2 := Lib.hid k2
  have J5 := Lib.hid k5
  have K6 := Lib.hid k6
  have K7 := Lib.hid k7
  clear i1 i2 i5 i6 i7
  by_cases hv : v = 0
  ·subst hv
   have K1 := Lib.hid k1
   clear k1 k2 k5 k6 k7
   gi_wp2
   refine ⟨C, Only.refl _ _, fun k hk => .inl hk, A, c, ?_, ?_, i3, i4, J5.out, K6.out, K7.out, i8, by omega⟩
   ·rw [polB_zero]; exact K1.out
   ·rw [polB_zero]; exact K2.out
  ·have hvb : (v == 0) = false := by simpa using hv
   have hk256 : ¬ (256 : Int) < (k : Int) := by omega
   have HSN : Hid (polB (pre ++ [(k, v)]) = polB pre ++ [((0, k), v)]) := polB_snoc hv
   obtain ⟨v, rfl⟩ := Int.eq_ofNat_of_zero_le hv0
   have OC := Lib.hid (OF.out v (by omega))
   obtain ⟨s, hs⟩ : ∃ s, intS (v : Nat) = s := ⟨_, rfl⟩
   rw [hs] at OC
   have HS := Lib.hid hs
   obtain ⟨fl, hfl⟩ : ∃ fl, (polB pre).length = fl := ⟨_, rfl⟩
   have HFL := Lib.hid hfl
   have hlen2 : Hid ((polB (pre ++ [(k, (v : Int))])).length = fl + 1) := by rw [Hid, HSN.out, List.length_append, hfl]; rfl
   rw [hfl] at k1 hpl
   have hcells : Hid (tmCells [((0, k), (v : Int))] = [.int .i64 0, .int .i64 k, .string s]) := by rw [Hid, ← hs]; rfl
   have HCL : Hid (∀ (w7 : World), Below w6.heap.size w6 w7 → ∃ A6 c6 w9, (Builtin.append_ #[33, 33] 33 #[.slice A fl c, .slice (some ⟨w7.heap.size, 0, none⟩) 1 1]).run Tryz.prog (w7.alloc (.cells #[.int .i64 0, .int .i64 k, .string s] 87)) = .ok (.slice A6 (fl + 1) c6) w9 ∧
     w9.ownsRow w.heap.size 87 3 (.slice A6 (fl + 1) c6) (fl + 1) (tmCells (polB pre) ++ [.int .i64 0, .int .i64 k, .string s]) ∧ Only (fun k => C k ∨ Ob k) w6 w9 ∧ Below w.heap.size w w9 ∧ Blk w9 tb 33 #[.slice A fl c] ∧ Blk w9 (w.heap.size + 1) 33 #[.slice none 0 0] ∧ Blk w9 (w.heap.size + 2) 29 #[.int .i64 0] ∧ (∀ k, blockOf A6 k → C k ∨ (w6.heap.size ≤ k ∧ k < w9.heap.size))) := by
    intro w7 hb7
    have l1 := k1.next hb7
    have l2 : OwnT w7 w.heap.size A c (polB pre) := K2.out.kept fun k hk => hb7.block k (K2.out.lt k hk).2
    have l6 := K6.out.next hb7
    have l7 := K7.out.next hb7
    have hs7 := hb7.size
    have l2' : w7.ownsRow w.heap.size 87 3 (.slice A fl c) fl (tmCells (polB pre)) := by have := l2; unfold OwnT at this; rw [HFL.out] at this; exact this
    obtain ⟨A6, c6, w9, hrun, hown, hgr, hbel, hor⟩ := run_append_reads (P := Tryz.prog) (w7.alloc (.cells #[.int .i64 0, .int .i64 k, .string s] 87)) w.heap.size 33 33 87 Tryz.underlying33 info_tm rfl (by omega) A c fl (tmCells (polB pre)) (World.ownsRow.alloc l2' _) _ (some ⟨w7.heap.size, 0, none⟩) 1 1 [.int .i64 0, .int .i64 k, .string s] (Reads.boxN w7 #[.int .i64 0, .int .i64 k, .string s] 87) (by simp [Value.oneCell']) (by omega) (by have := J5.out.size; simp; omega)
    have ho : Only (fun k => C k ∨ Ob k) w6 w9 := ((Only.of_new hb7).alloc _).grown hgr fun k hk => .inl (.inl (i4 k (blockOf_own.1 hk)))
    have hne : ∀ j, (j = w.heap.size + 1 ∨ j = w.heap.size + 2) → some j ≠ (Value.slice A fl c).ownBlock := fun j hj e => by
     have := i8 j (i4 j (blockOf_own.1 e.symm))
     omega
    refine ⟨A6, c6, w9, hrun, hown, ho, (J5.out.trans (hb7.mono J5.out.size)).trans (((Below.refl _ _).alloc (Nat.le_trans J5.out.size hs7) _).trans hbel), (l1.alloc _).grown hgr (own_blk_ne l2' l1 (by decide)), (l6.alloc _).grown hgr (hne _ (.inl rfl)), (l7.alloc _).grown hgr (hne _ (.inr rfl)), ?_⟩
    intro j hj
    rcases hor with e | e
    ·rw [blockOf_own.2 hj] at e
     exact .inl (i4 j (blockOf_own.1 e.symm))
    ·rw [blockOf_own.2 hj] at e
     injection e with e
     have hlt := (World.ownsRow.lt hown j (blockOf_own.2 hj)).2
     exact .inr ⟨by rw [e]; simp; omega, hlt⟩
   have FIN : Hid (∀ (A6 : Option Addr) (c6 : Nat) (w9 : World), w9.ownsRow w.heap.size 87 3 (.slice A6 (fl + 1) c6) (fl + 1) (tmCells (polB pre) ++ [.int .i64 0, .int .i64 k, .string s]) → Only (fun k => C k ∨ Ob k) w6 w9 → Below w.heap.size w w9 → Blk w9 tb 33 #[.slice A fl c] → Blk w9 (w.heap.size + 1) 33 #[.slice none 0 0] → Blk w9 (w.heap.size + 2) 29 #[.int .i64 0] → (∀ k, blockOf A6 k → C k ∨ (w6.heap.size ≤ k ∧ k < w9.heap.size)) →
     ∃ C', Only (fun k => C k ∨ Ob k) w6 (w9.setCell ⟨tb, 0, none⟩ (.slice A6 (fl + 1) c6)) ∧ Grows C Ob C' w6 (w9.setCell ⟨tb, 0, none⟩ (.slice A6 (fl + 1) c6)) ∧ ∃ A c, Blk (w9.setCell ⟨tb, 0, none⟩ (.slice A6 (fl + 1) c6)) tb 33 #[.slice A (polB (pre ++ [(k, (v : Int))])).length c] ∧ OwnT (w9.setCell ⟨tb, 0, none⟩ (.slice A6 (fl + 1) c6)) w.heap.size A c (polB (pre ++ [(k, (v : Int))])) ∧ C' tb ∧ (∀ k, blockOf A k → C' k) ∧ Below w.heap.size w (w9.setCell ⟨tb, 0, none⟩ (.slice A6 (fl + 1) c6)) ∧
       Blk (w9.setCell ⟨tb, 0, none⟩ (.slice A6 (fl + 1) c6)) (w.heap.size + 1) 33 #[.slice none 0 0] ∧ Blk (w9.setCell ⟨tb, 0, none⟩ (.slice A6 (fl + 1) c6)) (w.heap.size + 2) 29 #[.int .i64 0] ∧ (∀ k, C' k → k = tb ∨ tb + 2 ≤ k) ∧ w3'.heap.size ≤ (w9.setCell ⟨tb, 0, none⟩ (.slice A6 (fl + 1) c6)).heap.size) := by
    intro A6 c6 w9 hown ho9 hbel k9 ka9 kb9 hA6
    have hs9 := ho9.size
    rw [hlen2.out]
    have hO : OwnT w9 w.heap.size A6 c6 (polB (pre ++ [(k, (v : Int))])) := by
     unfold OwnT
     rw [hlen2.out, HSN.out, tmCells_append, hcells.out]
     exact hown
    refine ⟨fun j => C j ∨ Ob j ∨ (w6.heap.size ≤ j ∧ j < w9.heap.size), ho9.setCell (.inl (.inl i3)) _, fun j hj => ?_, A6, c6, ?_, ?_, .inl i3, fun j hj => ?_, ?_, ?_, ?_, ?_, ?_⟩
    ·simpa [World.setCell] using hj
    ·have := k9.set_ 0 (.slice A6 (fl + 1) c6)
     simpa using this
    ·refine hO.kept fun j hj => Below.heap_setCell _ _ _ _ ?_
     show j ≠ tb
     rintro rfl
     exact own_blk_ne hown k9 (by decide) (blockOf_own.2 hj).symm
    ·rcases hA6 j hj with h | h
     ·exact .inl h
     ·exact .inr (.inr h)
    ·exact hbel.setCell (by show w.heap.size ≤ tb; omega) _
    ·exact ka9.far (by show w.heap.size + 1 ≠ tb; omega) _
    ·exact kb9.far (by show w.heap.size + 2 ≠ tb; omega) _
    ·rintro j (hj | hj | hj)
     ·exact i8 j hj
     ·exact .inr (by have := (hOb j hj).2.2; omega)
     ·exact .inr (by omega)
    ·simp [World.setCell]; omega
   have e7 := k1.drew.cell 0
   clear hs hfl hv
   gi_wp2_with fail
   refine wpIn_nopanic ?_
   refine wpIn_region_any (by kernel_rfl) ?_
   change wpAnyIn _ _ _ _ _ _ _ _ _ (World.drew _)
   refine wpAnyIn_ready (rs := [0, 1, 2]) (by kernel_rfl) (by simp) ?_
   refine AllReadyIn.cons rfl (fun K hK => ?_) (AllReadyIn.cons rfl (fun K hK => ?_) (AllReadyIn.cons rfl (fun K hK => ?_) AllReadyIn.nil))
   ·go_simp
    refine hK _ _ ?_
    clear hK K
    refine wpAnyIn_ready (rs := [1, 2]) (by kernel_rfl) (by simp) ?_
    refine AllReadyIn.cons rfl (fun K hK => ?_) (AllReadyIn.cons rfl (fun K hK => ?_) AllReadyIn.nil)
    ·go_simp
     refine hK _ _ ?_
     clear hK K
     refine wpAnyIn_ready (rs := [2]) (by kernel_rfl) (by simp) ?_
     refine AllReadyIn.cons rfl (fun K hK => ?_) AllReadyIn.nil
     go_simp
     refine hK _ _ ?_
     clear hK K
     refine wpAnyIn_ready (rs := [3]) (by kernel_rfl) (by simp) ?_
     refine AllReadyIn.cons rfl (fun K hK => ?_) AllReadyIn.nil
     go_simp
     refine ⟨trivial, ?_⟩
     gi_at_call 19
     refine (inR (OC.out _ J5.out.drew)).mono ?_
     rintro e w7 ⟨rfl, hb7⟩
     have hb7' : Below w6.heap.size w6 w7 := (Below.refl _ _).drew.trans hb7
     obtain ⟨A6, c6, w9, hrun, hown, ho9, hbel, k9, ka9, kb9, hA6⟩ := HCL.out w7 hb7'
     have e8 := (k1.next (w' := w7) hb7').cell 0
     have e10 := ((k1.next (w' := w7) hb7').alloc (.cells #[.int .i64 0, .int .i64 k, .string s] 87)).cell 0
     have e9 := k9.cell 0
     have f9 := k9.frozen 0
     try go_simp
     refine hK _ _ ?_
     clear hK K
     refine wpAnyIn_ready (rs := [4]) (by kernel_rfl) (by simp) ?_
     refine AllReadyIn.cons rfl (fun K hK => ?_) AllReadyIn.nil
     go_simp
     refine hK _ _ ?_
     clear hK K
     refine wpAnyIn_ready (rs := [5]) (by kernel_rfl) (by simp) ?_
     refine AllReadyIn.cons rfl (fun K hK => ?_) AllReadyIn.nil
     go_simp
     refine hK _ _ ?_
     clear hK K
     refine wpAnyIn_ready (rs := [6]) (by kernel_rfl) (by simp) ?_
     refine AllReadyIn.cons rfl (fun K hK => ?_) AllReadyIn.nil
     refine append_stepL rfl (.tmp 30) (.tmp 35) _ rfl hrun rfl rfl ?_
     refine hK _ _ ?_
     clear hK K
     refine wpAnyIn_ready (rs := [7]) (by kernel_rfl) (by simp) ?_
     refine AllReadyIn.cons rfl (fun K hK => ?_) AllReadyIn.nil
     go_simp
     refine hK _ _ ?_
     clear hK K
     refine wpAnyIn_done (by kernel_rfl) ?_ _
     refine nopanic_normal ?_
     clear hrun e8 e9 e10 f9 e7
     gi_wp2
     exact FIN.out A6 c6 w9 hown ho9 hbel k9 ka9 kb9 hA6
    ·go_simp
     refine hK _ _ ?_
     clear hK K
     refine wpAnyIn_ready (rs := [1, 3]) (by kernel_rfl) (by simp) ?_
     refine AllReadyIn.cons rfl (fun K hK => ?_) (AllReadyIn.cons rfl (fun K hK => ?_) AllReadyIn.nil)
     ·go_simp
      refine hK _ _ ?_
      clear hK K
      refine wpAnyIn_ready (rs := [3]) (by kernel_rfl) (by simp) ?_
      refine AllReadyIn.cons rfl (fun K hK => ?_) AllReadyIn.nil
      go_simp
      refine ⟨trivial, ?_⟩
      gi_at_call 19
      refine (inR (OC.out _ J5.out.drew)).mono ?_
      rintro e w7 ⟨rfl, hb7⟩
      have hb7' : Below w6.heap.size w6 w7 := (Below.refl _ _).drew.trans hb7
      obtain ⟨A6, c6, w9, hrun, hown, ho9, hbel, k9, ka9, kb9, hA6⟩ := HCL.out w7 hb7'
      have e8 := (k1.next (w' := w7) hb7').cell 0
      have e10 := ((k1.next (w' := w7) hb7').alloc (.cells #[.int .i64 0, .int .i64 k, .string s] 87)).cell 0
      have e9 := k9.cell 0
      have f9 := k9.frozen 0
      try go_simp
      refine hK _ _ ?_
      clear hK K
      refine wpAnyIn_ready (rs := [4]) (by kernel_rfl) (by simp) ?_
      refine AllReadyIn.cons rfl (fun K hK => ?_) AllReadyIn.nil
      go_simp
      refine hK _ _ ?_
      clear hK K
      refine wpAnyIn_ready (rs := [5]) (by kernel_rfl) (by simp) ?_
      refine AllReadyIn.cons rfl (fun K hK => ?_) AllReadyIn.nil
      go_simp
      refine hK _ _ ?_
      clear hK K
      refine wpAnyIn_ready (rs := [6]) (by kernel_rfl) (by simp) ?_
      refine AllReadyIn.cons rfl (fun K hK => ?_) AllReadyIn.nil
      refine append_stepL rfl (.tmp 30) (.tmp 35) _ rfl hrun rfl rfl ?_
      refine hK _ _ ?_
      clear hK K
      refine wpAnyIn_ready (rs := [7]) (by kernel_rfl) (by simp) ?_
      refine AllReadyIn.cons rfl (fun K hK => ?_) AllReadyIn.nil
      go_simp
      refine hK _ _ ?_
      clear hK K
      refine wpAnyIn_done (by kernel_rfl) ?_ _
      refine nopanic_normal ?_
      clear hrun e8 e9 e10 f9 e7
      gi_wp2
      exact FIN.out A6 c6 w9 hown ho9 hbel k9 ka9 kb9 hA6
     ·go_simp
      refine ⟨trivial, ?_⟩
      gi_at_call 19
      refine (inR (OC.out _ J5.out.drew)).mono ?_
      rintro e w7 ⟨rfl, hb7⟩
      have hb7' : Below w6.heap.size w6 w7 := (Below.refl _ _).drew.trans hb7
      obtain ⟨A6, c6, w9, hrun, hown, ho9, hbel, k9, ka9, kb9, hA6⟩ := HCL.out w7 hb7'
      have e8 := (k1.next (w' := w7) hb7').cell 0
      have e10 := ((k1.next (w' := w7) hb7').alloc (.cells #[.int .i64 0, .int .i64 k, .string s] 87)).cell 0
      have e9 := k9.cell 0
      have f9 := k9.frozen 0
      try go_simp
      refine hK _ _ ?_
      clear hK K
      refine wpAnyIn_ready (rs := [1]) (by kernel_rfl) (by simp) ?_
      refine AllReadyIn.cons rfl (fun K hK => ?_) AllReadyIn.nil
      go_simp
      refine hK _ _ ?_
      clear hK K
      refine wpAnyIn_ready (rs := [4]) (by kernel_rfl) (by simp) ?_
      refine AllReadyIn.cons rfl (fun K hK => ?_) AllReadyIn.nil
      go_simp
      refine hK _ _ ?_
      clear hK K
      refine wpAnyIn_ready (rs := [5]) (by kernel_rfl) (by simp) ?_
      refine AllReadyIn.cons rfl (fun K hK => ?_) AllReadyIn.nil
      go_simp
      refine hK _ _ ?_
      clear hK K
      refine wpAnyIn_ready (rs := [6]) (by kernel_rfl) (by simp) ?_
      refine AllReadyIn.cons rfl (fun K hK => ?_) AllReadyIn.nil
      refine append_stepL rfl (.tmp 30) (.tmp 35) _ rfl hrun rfl rfl ?_
      refine hK _ _ ?_
      clear hK K
      refine wpAnyIn_ready (rs := [7]) (by kernel_rfl) (by simp) ?_
      refine AllReadyIn.cons rfl (fun K hK => ?_) AllReadyIn.nil
      go_simp
      refine hK _ _ ?_
      clear hK K
      refine wpAnyIn_done (by kernel_rfl) ?_ _
      refine nopanic_normal ?_
      clear hrun e8 e9 e10 f9 e7
      gi_wp2
      exact FIN.out A6 c6 w9 hown ho9 hbel k9 ka9 kb9 hA6
   ·go_simp
    refine hK _ _ ?_
    clear hK K
    refine wpAnyIn_ready (rs := [0, 2]) (by kernel_rfl) (by simp) ?_
    refine AllReadyIn.cons rfl (fun K hK => ?_) (AllReadyIn.cons rfl (fun K hK => ?_) AllReadyIn.nil)
    ·go_simp
     refine hK _ _ ?_
     clear hK K
     refine wpAnyIn_ready (rs := [2]) (by kernel_rfl) (by simp) ?_
     refine AllReadyIn.cons rfl (fun K hK => ?_) AllReadyIn.nil
     go_simp
     refine hK _ _ ?_
     clear hK K
     refine wpAnyIn_ready (rs := [3]) (by kernel_rfl) (by simp) ?_
     refine AllReadyIn.cons rfl (fun K hK => ?_) AllReadyIn.nil
     go_simp
     refine ⟨trivial, ?_⟩
     gi_at_call 19
     refine (inR (OC.out _ J5.out.drew)).mono ?_
     rintro e w7 ⟨rfl, hb7⟩
     have hb7' : Below w6.heap.size w6 w7 := (Below.refl _ _).drew.trans hb7
     obtain ⟨A6, c6, w9, hrun, hown, ho9, hbel, k9, ka9, kb9, hA6⟩ := HCL.out w7 hb7'
     have e8 := (k1.next (w' := w7) hb7').cell 0
     have e10 := ((k1.next (w' := w7) hb7').alloc (.cells #[.int .i64 0, .int .i64 k, .string s] 87)).cell 0
     have e9 := k9.cell 0
     have f9 := k9.frozen 0
     try go_simp
     refine hK _ _ ?_
     clear hK K
     refine wpAnyIn_ready (rs := [4]) (by kernel_rfl) (by simp) ?_
     refine AllReadyIn.cons rfl (fun K hK => ?_) AllReadyIn.nil
     go_simp
     refine hK _ _ ?_
     clear hK K
     refine wpAnyIn_ready (rs := [5]) (by kernel_rfl) (by simp) ?_
     refine AllReadyIn.cons rfl (fun K hK => ?_) AllReadyIn.nil
     go_simp
     refine hK _ _ ?_
     clear hK K
     refine wpAnyIn_ready (rs := [6]) (by kernel_rfl) (by simp) ?_
     refine AllReadyIn.cons rfl (fun K hK => ?_) AllReadyIn.nil
     refine append_stepL rfl (.tmp 30) (.tmp 35) _ rfl hrun rfl rfl ?_
     refine hK _ _ ?_
     clear hK K
     refine wpAnyIn_ready (rs := [7]) (by kernel_rfl) (by simp) ?_
     refine AllReadyIn.cons rfl (fun K hK => ?_) AllReadyIn.nil
     go_simp
     refine hK _ _ ?_
     clear hK K
     refine wpAnyIn_done (by kernel_rfl) ?_ _
     refine nopanic_normal ?_
     clear hrun e8 e9 e10 f9 e7
     gi_wp2
     exact FIN.out A6 c6 w9 hown ho9 hbel k9 ka9 kb9 hA6
    ·go_simp
     refine hK _ _ ?_
     clear hK K
     refine wpAnyIn_ready (rs := [0, 3]) (by kernel_rfl) (by simp) ?_
     refine AllReadyIn.cons rfl (fun K hK => ?_) (AllReadyIn.cons rfl (fun K hK => ?_) AllReadyIn.nil)
     ·go_simp
      refine hK _ _ ?_
      clear hK K
      refine wpAnyIn_ready (rs := [3]) (by kernel_rfl) (by simp) ?_
      refine AllReadyIn.cons rfl (fun K hK => ?_) AllReadyIn.nil
      go_simp
      refine ⟨trivial, ?_⟩
      gi_at_call 19
      refine (inR (OC.out _ J5.out.drew)).mono ?_
      rintro e w7 ⟨rfl, hb7⟩
      have hb7' : Below w6.heap.size w6 w7 := (Below.refl _ _).drew.trans hb7
      obtain ⟨A6, c6, w9, hrun, hown, ho9, hbel, k9, ka9, kb9, hA6⟩ := HCL.out w7 hb7'
      have e8 := (k1.next (w' := w7) hb7').cell 0
      have e10 := ((k1.next (w' := w7) hb7').alloc (.cells #[.int .i64 0, .int .i64 k, .string s] 87)).cell 0
      have e9 := k9.cell 0
      have f9 := k9.frozen 0
      try go_simp
      refine hK _ _ ?_
      clear hK K
      refine wpAnyIn_ready (rs := [4]) (by kernel_rfl) (by simp) ?_
      refine AllReadyIn.cons rfl (fun K hK => ?_) AllReadyIn.nil
      go_simp
      refine hK _ _ ?_
      clear hK K
      refine wpAnyIn_ready (rs := [5]) (by kernel_rfl) (by simp) ?_
      refine AllReadyIn.cons rfl (fun K hK => ?_) AllReadyIn.nil
      go_simp
      refine hK _ _ ?_
      clear hK K
      refine wpAnyIn_ready (rs := [6]) (by kernel_rfl) (by simp) ?_
      refine AllReadyIn.cons rfl (fun K hK => ?_) AllReadyIn.nil
      refine append_stepL rfl (.tmp 30) (.tmp 35) _ rfl hrun rfl rfl ?_
      refine hK _ _ ?_
      clear hK K
      refine wpAnyIn_ready (rs := [7]) (by kernel_rfl) (by simp) ?_
      refine AllReadyIn.cons rfl (fun K hK => ?_) AllReadyIn.nil
      go_simp
      refine hK _ _ ?_
      clear hK K
      refine wpAnyIn_done (by kernel_rfl) ?_ _
      refine nopanic_normal ?_
      clear hrun e8 e9 e10 f9 e7
      gi_wp2
      exact FIN.out A6 c6 w9 hown ho9 hbel k9 ka9 kb9 hA6
     ·go_simp
      refine ⟨trivial, ?_⟩
      gi_at_call 19
      refine (inR (OC.out _ J5.out.drew)).mono ?_
      rintro e w7 ⟨rfl, hb7⟩
      have hb7' : Below w6.heap.size w6 w7 := (Below.refl _ _).drew.trans hb7
      obtain ⟨A6, c6, w9, hrun, hown, ho9, hbel, k9, ka9, kb9, hA6⟩ := HCL.out w7 hb7'
      have e8 := (k1.next (w' := w7) hb7').cell 0
      have e10 := ((k1.next (w' := w7) hb7').alloc (.cells #[.int .i64 0, .int .i64 k, .string s] 87)).cell 0
      have e9 := k9.cell 0
      have f9 := k9.frozen 0
      try go_simp
      refine hK _ _ ?_
      clear hK K
      refine wpAnyIn_ready (rs := [0, 4]) (by kernel_rfl) (by simp) ?_
      refine AllReadyIn.cons rfl (fun K hK => ?_) (AllReadyIn.cons rfl (fun K hK => ?_) AllReadyIn.nil)
      ·go_simp
       refine hK _ _ ?_
       clear hK K
       refine wpAnyIn_ready (rs := [4]) (by kernel_rfl) (by simp) ?_
       refine AllReadyIn.cons rfl (fun K hK => ?_) AllReadyIn.nil
       go_simp
       refine hK _ _ ?_
       clear hK K
       refine wpAnyIn_ready (rs := [5]) (by kernel_rfl) (by simp) ?_
       refine AllReadyIn.cons rfl (fun K hK => ?_) AllReadyIn.nil
       go_simp
       refine hK _ _ ?_
       clear hK K
       refine wpAnyIn_ready (rs := [6]) (by kernel_rfl) (by simp) ?_
       refine AllReadyIn.cons rfl (fun K hK => ?_) AllReadyIn.nil
       refine append_stepL rfl (.tmp 30) (.tmp 35) _ rfl hrun rfl rfl ?_
       refine hK _ _ ?_
       clear hK K
       refine wpAnyIn_ready (rs := [7]) (by kernel_rfl) (by simp) ?_
       refine AllReadyIn.cons rfl (fun K hK => ?_) AllReadyIn.nil
       go_simp
       refine hK _ _ ?_
       clear hK K
       refine wpAnyIn_done (by kernel_rfl) ?_ _
       refine nopanic_normal ?_
       clear hrun e8 e9 e10 f9 e7
       gi_wp2
       exact FIN.out A6 c6 w9 hown ho9 hbel k9 ka9 kb9 hA6
      ·go_simp
       refine hK _ _ ?_
       clear hK K
       refine wpAnyIn_ready (rs := [0, 5]) (by kernel_rfl) (by simp) ?_
       refine AllReadyIn.cons rfl (fun K hK => ?_) (AllReadyIn.cons rfl (fun K hK => ?_) AllReadyIn.nil)
       ·go_simp
        refine hK _ _ ?_
        clear hK K
        refine wpAnyIn_ready (rs := [5]) (by kernel_rfl) (by simp) ?_
        refine AllReadyIn.cons rfl (fun K hK => ?_) AllReadyIn.nil
        go_simp
        refine hK _ _ ?_
        clear hK K
        refine wpAnyIn_ready (rs := [6]) (by kernel_rfl) (by simp) ?_
        refine AllReadyIn.cons rfl (fun K hK => ?_) AllReadyIn.nil
        refine append_stepL rfl (.tmp 30) (.tmp 35) _ rfl hrun rfl rfl ?_
        refine hK _ _ ?_
        clear hK K
        refine wpAnyIn_ready (rs := [7]) (by kernel_rfl) (by simp) ?_
        refine AllReadyIn.cons rfl (fun K hK => ?_) AllReadyIn.nil
        go_simp
        refine hK _ _ ?_
        clear hK K
        refine wpAnyIn_done (by kernel_rfl) ?_ _
        refine nopanic_normal ?_
        clear hrun e8 e9 e10 f9 e7
        gi_wp2
        exact FIN.out A6 c6 w9 hown ho9 hbel k9 ka9 kb9 hA6
       ·go_simp
        refine hK _ _ ?_
        clear hK K
        refine wpAnyIn_ready (rs := [0]) (by kernel_rfl) (by simp) ?_
        refine AllReadyIn.cons rfl (fun K hK => ?_) AllReadyIn.nil
        go_simp
        refine hK _ _ ?_
        clear hK K
        refine wpAnyIn_ready (rs := [6]) (by kernel_rfl) (by simp) ?_
        refine AllReadyIn.cons rfl (fun K hK => ?_) AllReadyIn.nil
        refine append_stepL rfl (.tmp 30) (.tmp 35) _ rfl hrun rfl rfl ?_
        refine hK _ _ ?_
        clear hK K
        refine wpAnyIn_ready (rs := [7]) (by kernel_rfl) (by simp) ?_
        refine AllReadyIn.cons rfl (fun K hK => ?_) AllReadyIn.nil
        go_simp
        refine hK _ _ ?_
        clear hK K
        refine wpAnyIn_done (by kernel_rfl) ?_ _
        refine nopanic_normal ?_
        clear hrun e8 e9 e10 f9 e7
        gi_wp2
        exact FIN.out A6 c6 w9 hown ho9 hbel k9 ka9 kb9 hA6
   ·go_simp
    refine hK _ _ ?_
    clear hK K
    refine wpAnyIn_ready (rs := [0, 1, 3]) (by kernel_rfl) (by simp) ?_
    refine AllReadyIn.cons rfl (fun K hK => ?_) (AllReadyIn.cons rfl (fun K hK => ?_) (AllReadyIn.cons rfl (fun K hK => ?_) AllReadyIn.nil))
    ·go_simp
     refine hK _ _ ?_
     clear hK K
     refine wpAnyIn_ready (rs := [1, 3]) (by kernel_rfl) (by simp) ?_
     refine AllReadyIn.cons rfl (fun K hK => ?_) (AllReadyIn.cons rfl (fun K hK => ?_) AllReadyIn.nil)
     ·go_simp
      refine hK _ _ ?_
      clear hK K
      refine wpAnyIn_ready (rs := [3]) (by kernel_rfl) (by simp) ?_
      refine AllReadyIn.cons rfl (fun K hK => ?_) AllReadyIn.nil
      go_simp
      refine ⟨trivial, ?_⟩
      gi_at_call 19
      refine (inR (OC.out _ J5.out.drew)).mono ?_
      rintro e w7 ⟨rfl, hb7⟩
      have hb7' : Below w6.heap.size w6 w7 := (Below.refl _ _).drew.trans hb7
      obtain ⟨A6, c6, w9, hrun, hown, ho9, hbel, k9, ka9, kb9, hA6⟩ := HCL.out w7 hb7'
      have e8 := (k1.next (w' := w7) hb7').cell 0
      have e10 := ((k1.next (w' := w7) hb7').alloc (.cells #[.int .i64 0, .int .i64 k, .string s] 87)).cell 0
      have e9 := k9.cell 0
      have f9 := k9.frozen 0
      try go_simp
      refine hK _ _ ?_
      clear hK K
      refine wpAnyIn_ready (rs := [4]) (by kernel_rfl) (by simp) ?_
      refine AllReadyIn.cons rfl (fun K hK => ?_) AllReadyIn.nil
      go_simp
      refine hK _ _ ?_
      clear hK K
      refine wpAnyIn_ready (rs := [5]) (by kernel_rfl) (by simp) ?_
      refine AllReadyIn.cons rfl (fun K hK => ?_) AllReadyIn.nil
      go_simp
      refine hK _ _ ?_
      clear hK K
      refine wpAnyIn_ready (rs := [6]) (by kernel_rfl) (by simp) ?_
      refine AllReadyIn.cons rfl (fun K hK => ?_) AllReadyIn.nil
      refine append_stepL rfl (.tmp 30) (.tmp 35) _ rfl hrun rfl rfl ?_
      refine hK _ _ ?_
      clear hK K
      refine wpAnyIn_ready (rs := [7]) (by kernel_rfl) (by simp) ?_
      refine AllReadyIn.cons rfl (fun K hK => ?_) AllReadyIn.nil
      go_simp
      refine hK _ _ ?_
      clear hK K
      refine wpAnyIn_done (by kernel_rfl) ?_ _
      refine nopanic_normal ?_
      clear hrun e8 e9 e10 f9 e7
      gi_wp2
      exact FIN.out A6 c6 w9 hown ho9 hbel k9 ka9 kb9 hA6
     ·go_simp
      refine ⟨trivial, ?_⟩
      gi_at_call 19
      refine (inR (OC.out _ J5.out.drew)).mono ?_
      rintro e w7 ⟨rfl, hb7⟩
      have hb7' : Below w6.heap.size w6 w7 := (Below.refl _ _).drew.trans hb7
      obtain ⟨A6, c6, w9, hrun, hown, ho9, hbel, k9, ka9, kb9, hA6⟩ := HCL.out w7 hb7'
      have e8 := (k1.next (w' := w7) hb7').cell 0
      have e10 := ((k1.next (w' := w7) hb7').alloc (.cells #[.int .i64 0, .int .i64 k, .string s] 87)).cell 0
      have e9 := k9.cell 0
      have f9 := k9.frozen 0
      try go_simp
      refine hK _ _ ?_
      clear hK K
      refine wpAnyIn_ready (rs := [1]) (by kernel_rfl) (by simp) ?_
      refine AllReadyIn.cons rfl (fun K hK => ?_) AllReadyIn.nil
      go_simp
      refine hK _ _ ?_
      clear hK K
      refine wpAnyIn_ready (rs := [4]) (by kernel_rfl) (by simp) ?_
      refine AllReadyIn.cons rfl (fun K hK => ?_) AllReadyIn.nil
      go_simp
      refine hK _ _ ?_
      clear hK K
      refine wpAnyIn_ready (rs := [5]) (by kernel_rfl) (by simp) ?_
      refine AllReadyIn.cons rfl (fun K hK => ?_) AllReadyIn.nil
      go_simp
      refine hK _ _ ?_
      clear hK K
      refine wpAnyIn_ready (rs := [6]) (by kernel_rfl) (by simp) ?_
      refine AllReadyIn.cons rfl (fun K hK => ?_) AllReadyIn.nil
      refine append_stepL rfl (.tmp 30) (.tmp 35) _ rfl hrun rfl rfl ?_
      refine hK _ _ ?_
      clear hK K
      refine wpAnyIn_ready (rs := [7]) (by kernel_rfl) (by simp) ?_
      refine AllReadyIn.cons rfl (fun K hK => ?_) AllReadyIn.nil
      go_simp
      refine hK _ _ ?_
      clear hK K
      refine wpAnyIn_done (by kernel_rfl) ?_ _
      refine nopanic_normal ?_
      clear hrun e8 e9 e10 f9 e7
      gi_wp2
      exact FIN.out A6 c6 w9 hown ho9 hbel k9 ka9 kb9 hA6
    ·go_simp
     refine hK _ _ ?_
     clear hK K
     refine wpAnyIn_ready (rs := [0, 3]) (by kernel_rfl) (by simp) ?_
     refine AllReadyIn.cons rfl (fun K hK => ?_) (AllReadyIn.cons rfl (fun K hK => ?_) AllReadyIn.nil)
     ·go_simp
      refine hK _ _ ?_
      clear hK K
      refine wpAnyIn_ready (rs := [3]) (by kernel_rfl) (by simp) ?_
      refine AllReadyIn.cons rfl (fun K hK => ?_) AllReadyIn.nil
      go_simp
      refine ⟨trivial, ?_⟩
      gi_at_call 19
      refine (inR (OC.out _ J5.out.drew)).mono ?_
      rintro e w7 ⟨rfl, hb7⟩
      have hb7' : Below w6.heap.size w6 w7 := (Below.refl _ _).drew.trans hb7
      obtain ⟨A6, c6, w9, hrun, hown, ho9, hbel, k9, ka9, kb9, hA6⟩ := HCL.out w7 hb7'
      have e8 := (k1.next (w' := w7) hb7').cell 0
      have e10 := ((k1.next (w' := w7) hb7').alloc (.cells #[.int .i64 0, .int .i64 k, .string s] 87)).cell 0
      have e9 := k9.cell 0
      have f9 := k9.frozen 0
      try go_simp
      refine hK _ _ ?_
      clear hK K
      refine wpAnyIn_ready (rs := [4]) (by kernel_rfl) (by simp) ?_
      refine AllReadyIn.cons rfl (fun K hK => ?_) AllReadyIn.nil
      go_simp
      refine hK _ _ ?_
      clear hK K
      refine wpAnyIn_ready (rs := [5]) (by kernel_rfl) (by simp) ?_
      refine AllReadyIn.cons rfl (fun K hK => ?_) AllReadyIn.nil
      go_simp
      refine hK _ _ ?_
      clear hK K
      refine wpAnyIn_ready (rs := [6]) (by kernel_rfl) (by simp) ?_
      refine AllReadyIn.cons rfl (fun K hK => ?_) AllReadyIn.nil
      refine append_stepL rfl (.tmp 30) (.tmp 35) _ rfl hrun rfl rfl ?_
      refine hK _ _ ?_
      clear hK K
      refine wpAnyIn_ready (rs := [7]) (by kernel_rfl) (by simp) ?_
      refine AllReadyIn.cons rfl (fun K hK => ?_) AllReadyIn.nil
      go_simp
      refine hK _ _ ?_
      clear hK K
      refine wpAnyIn_done (by kernel_rfl) ?_ _
      refine nopanic_normal ?_
      clear hrun e8 e9 e10 f9 e7
      gi_wp2
      exact FIN.out A6 c6 w9 hown ho9 hbel k9 ka9 kb9 hA6
     ·go_simp
      refine ⟨trivial, ?_⟩
      gi_at_call 19
      refine (inR (OC.out _ J5.out.drew)).mono ?_
      rintro e w7 ⟨rfl, hb7⟩
      have hb7' : Below w6.heap.size w6 w7 := (Below.refl _ _).drew.trans hb7
      obtain ⟨A6, c6, w9, hrun, hown, ho9, hbel, k9, ka9, kb9, hA6⟩ := HCL.out w7 hb7'
      have e8 := (k1.next (w' := w7) hb7').cell 0
      have e10 := ((k1.next (w' := w7) hb7').alloc (.cells #[.int .i64 0, .int .i64 k, .string s] 87)).cell 0
      have e9 := k9.cell 0
      have f9 := k9.frozen 0
      try go_simp
      refine hK _ _ ?_
      clear hK K
      refine wpAnyIn_ready (rs := [0, 4]) (by kernel_rfl) (by simp) ?_
      refine AllReadyIn.cons rfl (fun K hK => ?_) (AllReadyIn.cons rfl (fun K hK => ?_) AllReadyIn.nil)
      ·go_simp
       refine hK _ _ ?_
       clear hK K
       refine wpAnyIn_ready (rs := [4]) (by kernel_rfl) (by simp) ?_
       refine AllReadyIn.cons rfl (fun K hK => ?_) AllReadyIn.nil
       go_simp
       refine hK _ _ ?_
       clear hK K
       refine wpAnyIn_ready (rs := [5]) (by kernel_rfl) (by simp) ?_
       refine AllReadyIn.cons rfl (fun K hK => ?_) AllReadyIn.nil
       go_simp
       refine hK _ _ ?_
       clear hK K
       refine wpAnyIn_ready (rs := [6]) (by kernel_rfl) (by simp) ?_
       refine AllReadyIn.cons rfl (fun K hK => ?_) AllReadyIn.nil
       refine append_stepL rfl (.tmp 30) (.tmp 35) _ rfl hrun rfl rfl ?_
       refine hK _ _ ?_
       clear hK K
       refine wpAnyIn_ready (rs := [7]) (by kernel_rfl) (by simp) ?_
       refine AllReadyIn.cons rfl (fun K hK => ?_) AllReadyIn.nil
       go_simp
       refine hK _ _ ?_
       clear hK K
       refine wpAnyIn_done (by kernel_rfl) ?_ _
       refine nopanic_normal ?_
       clear hrun e8 e9 e10 f9 e7
       gi_wp2
       exact FIN.out A6 c6 w9 hown ho9 hbel k9 ka9 kb9 hA6
      ·go_simp
       refine hK _ _ ?_
       clear hK K
       refine wpAnyIn_ready (rs := [0, 5]) (by kernel_rfl) (by simp) ?_
       refine AllReadyIn.cons rfl (fun K hK => ?_) (AllReadyIn.cons rfl (fun K hK => ?_) AllReadyIn.nil)
       ·go_simp
        refine hK _ _ ?_
        clear hK K
        refine wpAnyIn_ready (rs := [5]) (by kernel_rfl) (by simp) ?_
        refine AllReadyIn.cons rfl (fun K hK => ?_) AllReadyIn.nil
        go_simp
        refine hK _ _ ?_
        clear hK K
        refine wpAnyIn_ready (rs := [6]) (by kernel_rfl) (by simp) ?_
        refine AllReadyIn.cons rfl (fun K hK => ?_) AllReadyIn.nil
        refine append_stepL rfl (.tmp 30) (.tmp 35) _ rfl hrun rfl rfl ?_
        refine hK _ _ ?_
        clear hK K
        refine wpAnyIn_ready (rs := [7]) (by kernel_rfl) (by simp) ?_
        refine AllReadyIn.cons rfl (fun K hK => ?_) AllReadyIn.nil
        go_simp
        refine hK _ _ ?_
        clear hK K
        refine wpAnyIn_done (by kernel_rfl) ?_ _
        refine nopanic_normal ?_
        clear hrun e8 e9 e10 f9 e7
        gi_wp2
        exact FIN.out A6 c6 w9 hown ho9 hbel k9 ka9 kb9 hA6
       ·go_simp
        refine hK _ _ ?_
        clear hK K
        refine wpAnyIn_ready (rs := [0]) (by kernel_rfl) (by simp) ?_
        refine AllReadyIn.cons rfl (fun K hK => ?_) AllReadyIn.nil
        go_simp
        refine hK _ _ ?_
        clear hK K
        refine wpAnyIn_ready (rs := [6]) (by kernel_rfl) (by simp) ?_
        refine AllReadyIn.cons rfl (fun K hK => ?_) AllReadyIn.nil
        refine append_stepL rfl (.tmp 30) (.tmp 35) _ rfl hrun rfl rfl ?_
        refine hK _ _ ?_
        clear hK K
        refine wpAnyIn_ready (rs := [7]) (by kernel_rfl) (by simp) ?_
        refine AllReadyIn.cons rfl (fun K hK => ?_) AllReadyIn.nil
        go_simp
        refine hK _ _ ?_
        clear hK K
        refine wpAnyIn_done (by kernel_rfl) ?_ _
        refine nopanic_normal ?_
        clear hrun e8 e9 e10 f9 e7
        gi_wp2
        exact FIN.out A6 c6 w9 hown ho9 hbel k9 ka9 kb9 hA6
    ·go_simp
     refine ⟨trivial, ?_⟩
     gi_at_call 19
     refine (inR (OC.out _ J5.out.drew)).mono ?_
     rintro e w7 ⟨rfl, hb7⟩
     have hb7' : Below w6.heap.size w6 w7 := (Below.refl _ _).drew.trans hb7
     obtain ⟨A6, c6, w9, hrun, hown, ho9, hbel, k9, ka9, kb9, hA6⟩ := HCL.out w7 hb7'
     have e8 := (k1.next (w' := w7) hb7').cell 0
     have e10 := ((k1.next (w' := w7) hb7').alloc (.cells #[.int .i64 0, .int .i64 k, .string s] 87)).cell 0
     have e9 := k9.cell 0
     have f9 := k9.frozen 0
     try go_simp
     refine hK _ _ ?_
     clear hK K
     refine wpAnyIn_ready (rs := [0, 1]) (by kernel_rfl) (by simp) ?_
     refine AllReadyIn.cons rfl (fun K hK => ?_) (AllReadyIn.cons rfl (fun K hK => ?_) AllReadyIn.nil)
     ·go_simp
      refine hK _ _ ?_
      clear hK K
      refine wpAnyIn_ready (rs := [1]) (by kernel_rfl) (by simp) ?_
      refine AllReadyIn.cons rfl (fun K hK => ?_) AllReadyIn.nil
      go_simp
      refine hK _ _ ?_
      clear hK K
      refine wpAnyIn_ready (rs := [4]) (by kernel_rfl) (by simp) ?_
      refine AllReadyIn.cons rfl (fun K hK => ?_) AllReadyIn.nil
      go_simp
      refine hK _ _ ?_
      clear hK K
      refine wpAnyIn_ready (rs := [5]) (by kernel_rfl) (by simp) ?_
      refine AllReadyIn.cons rfl (fun K hK => ?_) AllReadyIn.nil
      go_simp
      refine hK _ _ ?_
      clear hK K
      refine wpAnyIn_ready (rs := [6]) (by kernel_rfl) (by simp) ?_
      refine AllReadyIn.cons rfl (fun K hK => ?_) AllReadyIn.nil
      refine append_stepL rfl (.tmp 30) (.tmp 35) _ rfl hrun rfl rfl ?_
      refine hK _ _ ?_
      clear hK K
      refine wpAnyIn_ready (rs := [7]) (by kernel_rfl) (by simp) ?_
      refine AllReadyIn.cons rfl (fun K hK => ?_) AllReadyIn.nil
      go_simp
      refine hK _ _ ?_
      clear hK K
      refine wpAnyIn_done (by kernel_rfl) ?_ _
      refine nopanic_normal ?_
      clear hrun e8 e9 e10 f9 e7
      gi_wp2
      exact FIN.out A6 c6 w9 hown ho9 hbel k9 ka9 kb9 hA6
     ·go_simp
      refine hK _ _ ?_
      clear hK K
      refine wpAnyIn_ready (rs := [0, 4]) (by kernel_rfl) (by simp) ?_
      refine AllReadyIn.cons rfl (fun K hK => ?_) (AllReadyIn.cons rfl (fun K hK => ?_) AllReadyIn.nil)
      ·go_simp
       refine hK _ _ ?_
       clear hK K
       refine wpAnyIn_ready (rs := [4]) (by kernel_rfl) (by simp) ?_
       refine AllReadyIn.cons rfl (fun K hK => ?_) AllReadyIn.nil
       go_simp
       refine hK _ _ ?_
       clear hK K
       refine wpAnyIn_ready (rs := [5]) (by kernel_rfl) (by simp) ?_
       refine AllReadyIn.cons rfl (fun K hK => ?_) AllReadyIn.nil
       go_simp
       refine hK _ _ ?_
       clear hK K
       refine wpAnyIn_ready (rs := [6]) (by kernel_rfl) (by simp) ?_
       refine AllReadyIn.cons rfl (fun K hK => ?_) AllReadyIn.nil
       refine append_stepL rfl (.tmp 30) (.tmp 35) _ rfl hrun rfl rfl ?_
       refine hK _ _ ?_
       clear hK K
       refine wpAnyIn_ready (rs := [7]) (by kernel_rfl) (by simp) ?_
       refine AllReadyIn.cons rfl (fun K hK => ?_) AllReadyIn.nil
       go_simp
       refine hK _ _ ?_
       clear hK K
       refine wpAnyIn_done (by kernel_rfl) ?_ _
       refine nopanic_normal ?_
       clear hrun e8 e9 e10 f9 e7
       gi_wp2
       exact FIN.out A6 c6 w9 hown ho9 hbel k9 ka9 kb9 hA6
      ·go_simp
       refine hK _ _ ?_
       clear hK K
       refine wpAnyIn_ready (rs := [0, 5]) (by kernel_rfl) (by simp) ?_
       refine AllReadyIn.cons rfl (fun K hK => ?_) (AllReadyIn.cons rfl (fun K hK => ?_) AllReadyIn.nil)
       ·go_simp
        refine hK _ _ ?_
        clear hK K
        refine wpAnyIn_ready (rs := [5]) (by kernel_rfl) (by simp) ?_
        refine AllReadyIn.cons rfl (fun K hK => ?_) AllReadyIn.nil
        go_simp
        refine hK _ _ ?_
        clear hK K
        refine wpAnyIn_ready (rs := [6]) (by kernel_rfl) (by simp) ?_
        refine AllReadyIn.cons rfl (fun K hK => ?_) AllReadyIn.nil
        refine append_stepL rfl (.tmp 30) (.tmp 35) _ rfl hrun rfl rfl ?_
        refine hK _ _ ?_
        clear hK K
        refine wpAnyIn_ready (rs := [7]) (by kernel_rfl) (by simp) ?_
        refine AllReadyIn.cons rfl (fun K hK => ?_) AllReadyIn.nil
        go_simp
        refine hK _ _ ?_
        clear hK K
        refine wpAnyIn_done (by kernel_rfl) ?_ _
        refine nopanic_normal ?_
        clear hrun e8 e9 e10 f9 e7
        gi_wp2
        exact FIN.out A6 c6 w9 hown ho9 hbel k9 ka9 kb9 hA6
       ·go_simp
        refine hK _ _ ?_
        clear hK K
        refine wpAnyIn_ready (rs := [0]) (by kernel_rfl) (by simp) ?_
        refine AllReadyIn.cons rfl (fun K hK => ?_) AllReadyIn.nil
        go_simp
        refine hK _ _ ?_
        clear hK K
        refine wpAnyIn_ready (rs := [6]) (by kernel_rfl) (by simp) ?_
        refine AllReadyIn.cons rfl (fun K hK => ?_) AllReadyIn.nil
        refine append_stepL rfl (.tmp 30) (.tmp 35) _ rfl hrun rfl rfl ?_
        refine hK _ _ ?_
        clear hK K
        refine wpAnyIn_ready (rs := [7]) (by kernel_rfl) (by simp) ?_
        refine AllReadyIn.cons rfl (fun K hK => ?_) AllReadyIn.nil
        go_simp
        refine hK _ _ ?_
        clear hK K
        refine wpAnyIn_done (by kernel_rfl) ?_ _
        refine nopanic_normal ?_
        clear hrun e8 e9 e10 f9 e7
        gi_wp2
        exact FIN.out A6 c6 w9 hown ho9 hbel k9 ka9 kb9 hA6
 case done =>
  rintro C W ⟨A, c, i1, i2, i3, i4, i5, i6, i7, i8, i9⟩ hnD hD
  have c8 := i1.cell 0
  have c4 := i6.cell 0
  have c5 := i7.cell 0
  have f4 := i6.frozen 0
  have f5 := i7.frozen 0
  obtain ⟨P, hP⟩ : ∃ P, polB (bwL L) = P := ⟨_, rfl⟩
  rw [hP] at i1 i2 c8
  have HPP := Lib.hid hP
  obtain ⟨pl, hpl⟩ : ∃ pl, P.length = pl := ⟨_, rfl⟩
  rw [hpl] at i1 c8
  have I2 := Lib.hid i2
  have HPL := Lib.hid hpl
  have g1 : Blk ((W.setCell ⟨w.heap.size + 1, 0, none⟩ (.slice A pl c)).setCell ⟨w.heap.size + 2, 0, none⟩ (.int .i64 0)) (w.heap.size + 1) 33 #[.slice A pl c] := by
   have := (i6.set_ 0 (.slice A pl c)).far (p := ⟨w.heap.size + 2, 0, none⟩) (by simp) (.int .i64 0)
   simpa using this
  have g2 : Blk ((W.setCell ⟨w.heap.size + 1, 0, none⟩ (.slice A pl c)).setCell ⟨w.heap.size + 2, 0, none⟩ (.int .i64 0)) (w.heap.size + 2) 29 #[.int .i64 0] := by
   have := (i7.far (p := ⟨w.heap.size + 1, 0, none⟩) (by simp) (.slice A pl c)).set_ 0 (.int .i64 0)
   simpa using this
  have hDx : ((W.setCell ⟨w.heap.size + 1, 0, none⟩ (.slice A pl c)).setCell ⟨w.heap.size + 2, 0, none⟩ (.int .i64 0)).heap[w3'.heap.size]? = some (.deferred (some [])) :=
   (Below.heap_setCell _ _ _ _ (by show w3'.heap.size ≠ w.heap.size + 2; omega)).trans ((Below.heap_setCell _ _ _ _ (by show w3'.heap.size ≠ w.heap.size + 1; omega)).trans hD)
  have OX := ((((Only.refl (fun k => k = w.heap.size + 1 ∨ k = w.heap.size + 2 ∨ k = w3'.heap.size) W).setCell (p := ⟨w.heap.size + 1, 0, none⟩) (.inl (.inl rfl)) (.slice A pl c)).setCell (p := ⟨w.heap.size + 2, 0, none⟩) (.inl (.inr (.inl rfl))) (.int .i64 0))).putObj (r := w3'.heap.size) (.inl (.inr (.inr rfl))) (.deferred none)
  have p1 := Only.put_one ((W.setCell ⟨w.heap.size + 1, 0, none⟩ (.slice A pl c)).setCell ⟨w.heap.size + 2, 0, none⟩ (.int .i64 0)) w3'.heap.size (.deferred none)
  have G1 := g1.only p1 (by omega)
  have G2 := g2.only p1 (by omega)
  have p2 := G1.cell 0
  have p3 := G2.cell 0
  have RES : Hid (OwnT (((W.setCell ⟨w.heap.size + 1, 0, none⟩ (.slice A pl c)).setCell ⟨w.heap.size + 2, 0, none⟩ (.int .i64 0)).putObj w3'.heap.size (.deferred none)) w.heap.size A c P) := I2.out.kept fun k hk => OX.block k (I2.out.lt k hk).2 (fun e => by
   have h1 := i8 k (i4 k hk)
   rcases e with e | e | e
   ·omega
   ·omega
   ·exact hnD (by rw [← e]; exact i4 k hk))
  have RB : Hid (Below w.heap.size w (((W.setCell ⟨w.heap.size + 1, 0, none⟩ (.slice A pl c)).setCell ⟨w.heap.size + 2, 0, none⟩ (.int .i64 0)).putObj w3'.heap.size (.deferred none))) := i5.trans (OX.below (fun k hk e => by omega) i5.size)
  have HDX := Lib.hid hDx
  have P2 := Lib.hid p2
  have P3 := Lib.hid p3
  clear g1 g2 hDx OX p1 G1 G2 p2 p3 q1 R3 t3 ga gb B3 i1 i2 i6 i7 hD hP hpl i5 i4 i8
  gi_wp2
  have p2 := P2.out
  have p3 := P3.out
  refine end_mark (v := .tuple #[.slice A pl c, .int .i64 0]) HDX.out (by simp [results, Tryz.results36, go_sem, p2, p3]) ?_
  rw [HPP.out]
  exact ⟨A, c, by rw [HPL.out], RES.out, RB.out⟩
theorem lpoly_any (n : Int) (A : Option Addr) (c : Nat) (es : List E3) (hlen : es.length ≤ 10000) (q : Int) (h0 : rootErr n es q = 0 → (endsL es).length ≤ 200 ∧ (recsL n.toNat es q.toNat).length ≤ 16384) (w : World) (ht : Tab10 w) (h : Reads w w.heap.size 3 A es.length (edgeCells es)) :
  Calls Tryz.prog 36 #[.agg #[.int .i64 n, .slice A es.length c], .int .i64 q] w fun e w' => ∃ A' c', e = .returned (.tuple #[.slice A' (lpolE n es q).1.length c', .int .i64 (lpolE n es q).2]) ∧ OwnT w' w.heap.size A' c' (lpolE n es q).1 ∧ Below w.heap.size w w' := by
 by_cases hx : rootErr n es q = 0
 ·obtain ⟨m, p, rfl, rfl⟩ := root_nat hx
  have hE : (lpolE m es p).2 = 0 := by unfold lpolE; rw [if_pos hx]
  rw [hE]
  exact lpoly_ok m p A c es hlen hx (h0 hx).1 (h0 hx).2 w ht h
 ·obtain ⟨z, hzz⟩ : ∃ z, rootErr n es q = z := ⟨_, rfl⟩
  have CC := Lib.hid (fun (W : World) (hB : Below w.heap.size w W) => lcounts_any n A c es hlen q (fun h => absurd h hx) W ((h.below hB).more hB.size))
  have hA : lcntE n es q = ([], z) := by unfold lcntE; rw [if_neg hx, hzz]
  have hE : lpolE n es q = ([], z) := by unfold lpolE; rw [if_neg hx, hzz]
  rw [hA] at CC
  rw [hE]
  rw [hzz] at hx
  have hzb : (z != 0) = true := by simpa using hx
  obtain ⟨M, hM⟩ : ∃ M, es.length = M := ⟨_, rfl⟩
  rw [hM] at CC ⊢
  dsimp only [List.length_nil] at CC ⊢
  obtain ⟨w3, hw3⟩ : ∃ w3, ((w.alloc (.cells #[.int .i64 n, .slice A M c] 24)).alloc (.cells #[.slice none 0 0] 33)).alloc (.cells #[.int .i64 0] 29) = w3 := ⟨_, rfl⟩
  have g : Blk w3 w.heap.size 24 #[.int .i64 n, .slice A M c] := by rw [← hw3]; exact ((Blk.new w _ _).alloc _).alloc _
  have ga : Blk w3 (w.heap.size + 1) 33 #[.slice none 0 0] := by rw [← hw3]; exact (blk_atC (by simp)).alloc _
  have gb : Blk w3 (w.heap.size + 2) 29 #[.int .i64 0] := by rw [← hw3]; exact blk_atC (by simp)
  have hB : Below w.heap.size w w3 := by rw [← hw3]; exact (((Below.refl _ _).alloc (Nat.le_refl _) _).alloc (by simp) _).alloc (by simp; omega) _
  have HW3 := Lib.hid hw3
  have k0 := g.cell 0
  have k1 := g.cell 1
  clear h h0 hx hzz hA hE hM hlen hw3 ht
  refine (callsIn_wide (n := 3)).1 ?_
  refine callsIn_of_wp_marks Tryz.func36 rfl trivial ?_
  simp only [Tryz.ntmps36, List.size_toArray, List.length_cons, List.length_nil, Nat.reduceAdd, Nat.reduceSub, Array.replicate_succ, Array.replicate_zero, List.push_toArray, List.append_toArray, List.nil_append, List.cons_append]
  gi_wp2_with fail
  rw [HW3.out]
  refine ⟨trivial, ?_⟩
  refine (inW (CC.out _ hB)).mono ?_
  rintro e w1 ⟨Ac, cc, rfl, _, hb1⟩
  have ga := ga.next hb1
  have gb := gb.next hb1
  have hB1 := hB.trans (hb1.mono hB.size)
  have e4 := ga.cell 0
  have e5 := gb.cell 0
  have f4 := ga.frozen 0
  have f5 := gb.frozen 0
  have g1 : Blk ((w1.setCell ⟨w.heap.size + 1, 0, none⟩ (.slice none 0 0)).setCell ⟨w.heap.size + 2, 0, none⟩ (.int .i64 z)) (w.heap.size + 1) 33 #[.slice none 0 0] := by
   have := (ga.set_ 0 (.slice none 0 0)).far (p := ⟨w.heap.size + 2, 0, none⟩) (by simp) (.int .i64 z)
   simpa using this
  have g2 : Blk ((w1.setCell ⟨w.heap.size + 1, 0, none⟩ (.slice none 0 0)).setCell ⟨w.heap.size + 2, 0, none⟩ (.int .i64 z)) (w.heap.size + 2) 29 #[.int .i64 z] := by
   have := (gb.far (p := ⟨w.heap.size + 1, 0, none⟩) (by simp) (.slice none 0 0)).set_ 0 (.int .i64 z)
   simpa using this
  have P2 := Lib.hid (g1.cell 0)
  have P3 := Lib.hid (g2.cell 0)
  have BB := Lib.hid ((hB1.setCell (p := ⟨w.heap.size + 1, 0, none⟩) (by show w.heap.size ≤ w.heap.size + 1; omega) (.slice none 0 0)).setCell (p := ⟨w.heap.size + 2, 0, none⟩) (by show w.heap.size ≤ w.heap.size + 2; omega) (.int .i64 z))
  clear g g1 g2 ga gb hB hb1 hB1 k0 k1
  gi_wp2
  have p2 := P2.out
  have p3 := P3.out
  refine end_none (v := .tuple #[.slice none 0 0, .int .i64 z]) (by simp [results, Tryz.results36, go_sem, p2, p3]) ⟨none, 0, rfl, OwnT.nil_ _ _, BB.out⟩
end Go.Proofs.YtnbikkcalcpedaaGreatDoor
