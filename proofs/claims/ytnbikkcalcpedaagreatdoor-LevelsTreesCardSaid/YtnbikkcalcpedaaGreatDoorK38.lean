/-
 Texts of this claim, put together: LevC, RLev33, LevB, RLevT.
-/
import Derived.Test.YtnbikkcalcpedaaGreatDoorK37
import Derived.Test.YtnbikkcalcpedaaGreatDoorK34
import Derived.Test.YtnbikkcalcpedaaGreatDoorK08
import Derived.Test.YtnbikkcalcpedaaGreatDoorK36
import Derived.Test.YtnbikkcalcpedaaGreatDoorK30
import Derived.Test.YtnbikkcalcpedaaGreatDoorK32
import Derived.Test.YtnbikkcalcpedaaGreatDoorK21
import Derived.Test.YtnbikkcalcpedaaGreatDoorK04
import Derived.Deep.RegionHeld3
set_option maxRecDepth 100000
set_option maxHeartbeats 8000000
namespace Go.Proofs.YtnbikkcalcpedaaGreatDoor
open Go.RowKit Go.Shelf
attribute [local go_sem] Oper.semAt_some
theorem blk_atC {w : World} {g : Nat} {t : TypeId} {cs : Array Value} (h : w.heap.size = g) : Blk (w.alloc (.cells cs t)) g t cs := by subst h; exact Blk.new w t cs
def cntI (m : Nat) (l : List Int) : List Int := (List.range m).map fun k : Nat => ((l.count (k : Int) : Nat) : Int)
theorem cntI_length {m : Nat} {l : List Int} : (cntI m l).length = m := by simp [cntI]
theorem cntI_at {m k : Nat} {l : List Int} (h : k < m) : (cntI m l)[k]? = some ((l.count (k : Int) : Nat) : Int) := by simp [cntI, h]
theorem cntI_nil {m : Nat} : cntI m [] = List.replicate m 0 := by
 refine List.ext_getElem? fun k => ?_
 by_cases hk : k < m
 ·rw [cntI_at hk]; simp [hk]
 ·rw [List.getElem?_eq_none (by rw [cntI_length]; omega), List.getElem?_eq_none (by simp; omega)]
theorem cntI_snoc {m k : Nat} {l : List Int} : cntI m (l ++ [(k : Int)]) = (cntI m l).set k (((l.count (k : Int) : Nat) : Int) + 1) := by
 refine List.ext_getElem? fun v => ?_
 by_cases hv : v < m
 ·by_cases hvk : v = k
  ·subst hvk
   rw [List.getElem?_set_self (by rw [cntI_length]; exact hv), cntI_at hv, List.count_append]
   simp
  ·rw [List.getElem?_set_ne (Ne.symm hvk), cntI_at hv, cntI_at hv, List.count_append, List.count_singleton]
   have : ((k : Int) == (v : Int)) = false := by simp; omega
   rw [this]
   simp
 ·rw [List.getElem?_eq_none (by rw [cntI_length]; omega), List.getElem?_eq_none (by rw [List.length_set, cntI_length]; omega)]
theorem lev_range {n q : Nat} {es : List E3} (hj : joinErr n es = 0) (hq : q < n) (hm : (endsL es).length ≤ 500) (hlen : es.length ≤ 10000) : n ≤ (endsL (straightL es)).length + 1 ∧ ∀ x ∈ (recsL n es q).map (lvlC es q), ∃ k : Nat, x = k ∧ k < (endsL (straightL es)).length + 2 - n := by
 obtain ⟨_, hG, _⟩ := join_zero hj
 have hj' := join_straight hj
 have hG' := right_straight hG
 have hb := bd_ends hG'
 obtain ⟨_, _, hpt⟩ := join_zero hj'
 rw [Int.toNat_natCast, connB_parts hG', decide_eq_true_eq] at hpt
 obtain ⟨t0, ht0⟩ := tree_ex hb hpt
 have h1 := ht0.len
 have h2 := ht0.set
 have h3 : t0.length ≤ (endsL (straightL es)).length := by
  have := nodup_sub_le (h2.1.imp fun h => Nat.ne_of_lt h) (m := List.range (endsL (straightL es)).length) (fun x hx => List.mem_range.2 (h2.2 x hx))
  rw [List.length_range] at this
  exact this
 refine ⟨by omega, fun x hx => ?_⟩
 have h4 := (lev_unused hj hq hm hlen).mem_iff.1 hx
 obtain ⟨t, ht, rfl⟩ := List.mem_map.1 h4
 have hT := ((treesT_spec hb (by omega)).1 t).1 ht
 obtain ⟨c1, c2, c3, c4⟩ := conf_facts (t := t) hb hq
 have h5 := (unused_facts hb hq hT).1
 have h6 : 0 ≤ (confN (endsL (straightL es)) n q t).sum := by
  exact (getD_sum c2 0).1
 exact ⟨_, rfl, by omega⟩
def lcntE (n : Int) (es : List E3) (q : Int) : List Int × Int := if rootErr n es q = 0 then (cntI ((endsL (straightL es)).length + 2 - n.toNat) ((recsL n.toNat es q.toNat).map (lvlC es q.toNat)), 0) else ([], rootErr n es q)
theorem recs_chips {n q : Nat} {es : List E3} (hx : rootErr n es q = 0) (hlen : es.length ≤ 10000) : ∀ xs ∈ recsL n es q, xs.length = n ∧ ∀ x ∈ xs, -1048576 ≤ x ∧ x ≤ 1048576 := by
 obtain ⟨_, hG, _, hq⟩ := root_zero hx
 intro xs hxs
 obtain ⟨h1, h2, h3⟩ := recsL_mem hG hq hxs
 refine ⟨h1, fun x hxm => ?_⟩
 obtain ⟨i, hi⟩ := List.getElem?_of_mem hxm
 have hin : i < n := by have := (List.getElem?_eq_some_iff.1 hi).1; omega
 have h4 := h3 i hin
 rw [getD_at hi] at h4
 obtain ⟨t, ht⟩ := get_of_lt (xs := maxL n es q) (k := i) (by rw [maxL_length]; exact hin)
 have h5 := (maxL_fix hlen hx).htb t (List.mem_of_getElem? ht)
 rw [getD_at ht] at h4
 omega
theorem reads_pre {w : World} {g m k : Nat} {l : List Int} {t : TypeId} (h : Blk w g t (intCells (cntI m l))) (hk : k ≤ m) : Reads w w.heap.size 1 (some ⟨g, 0, none⟩) k (ints (cntI k l)) :=
 ⟨by simp [cntI, ints], fun _ => ⟨g, 0, rfl, h.lt, fun j v hv => by
  have hj : j < k := by have := (List.getElem?_eq_some_iff.1 hv).1; simpa [cntI, ints] using this
  rw [Nat.zero_add, h.cell j]
  have h1 := ints_at (cntI_at (l := l) hj)
  rw [hv] at h1
  rw [h1]
  have h2 := ints_at (cntI_at (l := l) (show j < m by omega))
  simpa [intCells] using h2⟩⟩
theorem lcounts_ok (n q : Nat) (A : Option Addr) (c : Nat) (es : List E3) (hlen : es.length ≤ 10000) (hx : rootErr n es q = 0) (hm : (endsL es).length ≤ 500) (hR : (recsL n es q).length ≤ 16384) (w : World) (h : Reads w w.heap.size 3 A es.length (edgeCells es)) :
  Calls Tryz.prog 34 #[.agg #[.int .i64 n, .slice A es.length c], .int .i64 q] w fun e w' => ∃ A' c', e = .returned (.tuple #[.slice A' ((endsL (straightL es)).length + 2 - n) c', .int .i64 0]) ∧ OwnI w' w.heap.size A' c' (cntI ((endsL (straightL es)).length + 2 - n) ((recsL n es q).map (lvlC es q))) ∧ Below w.heap.size w w' := by
 obtain ⟨hz, hG, _, hq⟩ := root_zero hx
 have hj : joinErr n es = 0 := by obtain ⟨m, p, h1, _, _, _, _, _, hj⟩ := root_natF hx; exact hj
 obtain ⟨hge, hrg⟩ := lev_range hj hq hm hlen
 have hse : (endsL (straightL es)).length ≤ (endsL es).length := by rw [ends_straight hG.ok]; exact List.length_filter_le _ _
 have hn12 := hG.hi
 have hn1 := hG.lo
 have AC := Lib.hid (fun (W : World) (hB : Below w.heap.size w W) => rall_any n A c es hlen q (by unfold allE; rw [if_pos hx]; exact hR) W ((h.below hB).more hB.size))
 have hE : allE n es q = (recsL n es q, 0) := by unfold allE; rw [if_pos hx]; rfl
 rw [hE] at AC
 have hchips := recs_chips hx hlen
 have SC := Lib.hid (fun (W : World) (hB : Below w.heap.size w W) => straight_any n (by omega) (by omega) A c es hlen hG.ok W ((h.below hB).more hB.size))
 obtain ⟨xss, hxs⟩ : ∃ xss, recsL n es q = xss := ⟨_, rfl⟩
 rw [hxs] at AC hchips hrg hR ⊢
 have IT := Lib.hid (fun (tb gb qb lb : Nat) (Ar : Option Addr) (cr : Nat) (W0 : World) (htb : tb ≤ W0.heap.size) h1 h2 h3 h4 h5 => levAll_iter n q hq A c es hlen hz xss hchips (by omega) tb gb qb lb Ar cr W0 htb h1 h2 h3 h4 h5)
 obtain ⟨lv, hlv⟩ : ∃ lv, xss.map (lvlC es q) = lv := ⟨_, rfl⟩
 have hlvl : lv.length = xss.length := by rw [← hlv, List.length_map]
 rw [hlv] at hrg IT ⊢
 obtain ⟨S, hS⟩ : ∃ S, (endsL (straightL es)).length = S := ⟨_, rfl⟩
 rw [hS] at hge hrg hse SC ⊢
 obtain ⟨K, hK⟩ : ∃ K, S + 2 - n = K := ⟨_, rfl⟩
 rw [hK] at hrg ⊢
 have hK1 : 1 ≤ K := by omega
 have hK2 : K ≤ 7200 := by omega
 have hKi : (S : Int) - n + 1 + 1 = (K : Int) := by omega
 have hKw : IntKind.i64.wrap ((S : Int) - n + 1 + 1) = (K : Int) := by rw [hKi]; exact IntWalk.i64_in _ (by omega)
 obtain ⟨gen, hgen⟩ : ∃ gen : Int, (S : Int) - n + 1 = gen := ⟨_, rfl⟩
 rw [hgen] at SC hKi hKw
 have CL := Lib.hid (fun (tb : Nat) (W : World) (hW : Blk W tb 124 (intCells (cntI 7200 lv))) => clone_any (some ⟨tb, 0, none⟩) 7200 (cntI K lv) (by rw [cntI_length]; omega) W (by rw [cntI_length]; exact reads_pre hW hK2))
 rw [cntI_length] at CL
 obtain ⟨m, hmm⟩ : ∃ m, xss.length = m := ⟨_, rfl⟩
 obtain ⟨M, hM⟩ : ∃ M, es.length = M := ⟨_, rfl⟩
 have HMM := Lib.hid hmm
 rw [hmm] at AC IT hlvl hR
 rw [hM] at AC IT SC h ⊢
 have HR := Lib.hid h
 have g := Blk.new w 24 #[.int .i64 n, .slice A M c]
 have hB : Below w.heap.size w (w.alloc (.cells #[.int .i64 n, .slice A M c] 24)) := (Below.refl _ _).alloc (Nat.le_refl _) _
 have k0 := g.cell 0
 have k1 := g.cell 1
 have HRG := Lib.hid hrg
 have HLV := Lib.hid hlvl
 have hz124 := Lib.hid z124
 clear hx hz hG hj hge hrg hse hE hchips hxs hlv hlvl hS hK hgen h hM hmm hm hlen
 refine (callsIn_wide (n := 3)).1 ?_
 refine callsIn_of_wp_marks Tryz.func34 rfl trivial ?_
 simp only [Tryz.ntmps34, List.size_toArray, List.length_cons, List.length_nil, Nat.reduceAdd, Nat.reduceSub, Array.replicate_succ, Array.replicate_zero, List.push_toArray, List.append_toArray, List.nil_append, List.cons_append]
 gi_wp2_with fail
 refine ⟨trivial, ?_⟩
 refine (inW (AC.out _ hB)).mono ?_
 rintro e w1 ⟨Ar, cr, rfl, rr, hb1⟩
 have g := g.next hb1
 have hB1 := hB.trans (hb1.mono hB.size)
 have k0 := (g.alloc (.cells Tryz.zeroCells124 124)).cell 0
 have k1 := (g.alloc (.cells Tryz.zeroCells124 124)).cell 1
 gi_wp2_with fail
 obtain ⟨tb, htb⟩ : ∃ tb, w1.heap.size = tb := ⟨_, rfl⟩
 have HTB := Lib.hid htb
 obtain ⟨w2, hw2⟩ : ∃ w2, w1.alloc (.cells Tryz.zeroCells124 124) = w2 := ⟨_, rfl⟩
 have hs2 : w2.heap.size = tb + 1 := by rw [← hw2, ← htb]; simp
 have b1 : Below tb w1 w2 := by rw [← hw2, ← htb]; exact (Below.refl _ _).alloc (Nat.le_refl _) _
 have g2 : Blk w2 w.heap.size 24 #[.int .i64 n, .slice A M c] := by rw [← hw2]; exact g.alloc _
 have t2 : Blk w2 tb 124 (intCells (cntI 7200 [])) := by
  rw [← hw2, cntI_nil]
  unfold intCells
  rw [← hz124.out]
  exact blk_atC htb
 have hwt : w.heap.size < tb := by rw [← htb]; exact g.lt
 have hwb : Below w.heap.size w w1 := hB1
 have B2 : Below w.heap.size w w2 := hwb.trans (b1.mono (by omega))
 have R2 : Reads w2 tb 3 A M (edgeCells es) := (HR.out.below B2).more (by omega)
 have RR2 : RowsR w2 tb Ar xss := by have := RowsR.below rr (by rw [htb]; exact b1); rw [htb] at this; exact this
 rw [hw2]
 refine ⟨trivial, ?_⟩
 refine (inW (levAll_any n A M c q Ar m cr w2)).mono ?_
 rintro e w3 ⟨rfl, hw3⟩
 have hs3 : w3.heap.size = tb + 4 := by rw [← hw3]; simp [hs2]
 have b2 : Below w2.heap.size w2 w3 := by rw [← hw3]; exact (((Below.refl _ _).alloc (Nat.le_refl _) _).alloc (by simp) _).alloc (by simp; omega) _
 have q1 : Blk w3 (tb + 1) 24 #[.int .i64 n, .slice A M c] := by rw [← hw3, ← hs2]; exact ((Blk.new w2 _ _).alloc _).alloc _
 have q2 : Blk w3 (tb + 2) 3 #[.int .i64 q] := by rw [← hw3]; exact (blk_atC (by simp [hs2])).alloc _
 have q3 : Blk w3 (tb + 3) 121 #[.slice Ar m cr] := by rw [← hw3]; exact blk_atC (by simp [hs2])
 have g3 := g2.next b2
 have t3 := t2.next b2
 have B3 : Below w.heap.size w w3 := B2.trans (b2.mono B2.size)
 have R3 := R2.below (b2.mono (by omega))
 have RR3 := RowsR.below RR2 (b2.mono (by omega))
 rw [hs2]
 clear hw3 hw2 b1 b2 g g2 t2 k0 k1 hB hb1 hB1 rr R2 RR2 hwb hz124 B2
 gi_wp2_with fail
 refine range_outer (n := 3) (gf := 150) (lb := #[.pointer (some ⟨tb + 3, 0, none⟩), .pointer (some ⟨tb + 1, 0, none⟩), .pointer (some ⟨tb + 2, 0, none⟩)]) (by rfl) (enters_of Tryz.func150 (by kernel_rfl) rfl)
  (IT.out tb (tb + 1) (tb + 2) (tb + 3) Ar cr w3 (by omega) q1 q2 q3 R3 RR3) ?hK (fun k => k = tb) ?hC
  (fun pre C W => Blk W tb 124 (intCells (cntI 7200 pre)) ∧ C tb ∧ (∀ k, C k → k = tb) ∧ Blk W w.heap.size 24 #[.int .i64 n, .slice A M c] ∧ Below w.heap.size w W ∧ w3.heap.size ≤ W.heap.size)
  (fun _ _ _ _ => False) ?hI (fun _ _ _ _ _ h _ => h) ?h0 ?hps ?round ?done (fun _ _ _ _ _ h => h.elim)
 case hK =>
  rintro k (hk | rfl | rfl | rfl) <;> omega
 case hC =>
  rintro k rfl
  exact ⟨by omega, by omega⟩
 case hI =>
  rintro pre C a b ⟨i1, i2, i3, i4, i5, i6⟩ hst
  exact ⟨i1.stays hst (.inl i2), i2, i3, i4.stays hst (.inr ⟨by omega, fun h => h⟩), i5.trans (hst.below (fun k hk => .inr ⟨by omega, fun h => h⟩) i5.size), Nat.le_trans i6 hst.size⟩
 case h0 => exact ⟨t3, rfl, fun k hk => hk, g3, B3, Nat.le_refl _⟩
 case hps => intro x' args O W' (ha : args = _); subst ha; rfl
 case round =>
  rintro l pre x args C Ob W hpre hI hl hC hOb harg hlW hnC hnO T hT
  obtain ⟨i1, i2, i3, i4, i5, i6⟩ := hI
  obtain rfl : args = #[.int .i64 x] := harg
  have hmem : x ∈ lv := by
   obtain ⟨z, hz⟩ := hpre
   rw [← hz]; simp
  obtain ⟨k, rfl, hkK⟩ := HRG.out x hmem
  have hpl : pre.length < m := by
   obtain ⟨z, hz⟩ := hpre
   have := congrArg List.length hz
   rw [HLV.out] at this
   simp at this
   omega
  obtain ⟨v, hv⟩ : ∃ v, ((pre.count (k : Int) : Nat) : Int) = v := ⟨_, rfl⟩
  have hvb : 0 ≤ v ∧ v ≤ 16384 := by
   have : pre.count (k : Int) ≤ pre.length := List.count_le_length
   omega
  have hcx := cntI_at (m := 7200) (l := pre) (show k < 7200 by omega)
  rw [hv] at hcx
  have hw1 : IntKind.i64.wrap (v + 1) = v + 1 := IntWalk.i64_in _ (by omega)
  have hhi : (k : Int) < 7200 := by omega
  have HSN : Hid (cntI 7200 (pre ++ [(k : Int)]) = (cntI 7200 pre).set k (v + 1)) := by rw [Hid, cntI_snoc, hv]
  have HCX := Lib.hid hcx
  clear hpre hmem hv hcx q1 q2 q3 R3 RR3 g3 t3 B3
  gi_wp2
  refine hT _ _ (Only.refl _ _) ?_
  intro w5 h5 _
  have j1 : Blk w5 tb 124 (intCells (cntI 7200 pre)) := i1.only h5 (fun e => hnC (e ▸ i2))
  have j4 : Blk w5 w.heap.size 24 #[.int .i64 n, .slice A M c] := i4.only h5 (fun e => by omega)
  have j5 : Below w.heap.size w w5 := i5.trans (h5.below (fun k hk e => by omega) i5.size)
  have hcell : (intCells (cntI 7200 pre))[k]? = some (.int .i64 v) := by have := ints_at HCX.out; simpa [intCells] using this
  have e2 := (j1.cell k).trans hcell
  have e3 := j1.frozen k
  have hs5 := h5.size
  have J1 := Lib.hid j1
  clear i1 i4 i5 hcell j1
  gi_wp2
  refine ⟨C, (Only.refl _ w5).setCell (.inl (.inl i2)) _, fun k hk => .inl hk, ?_, i2, i3, j4.far (by show w.heap.size ≠ tb; omega) _, j5.setCell (by show w.heap.size ≤ tb; omega) _, by simp [World.setCell]; omega⟩
  rw [HSN.out, ← intCells_set]
  exact J1.out.set_ k _
 case done =>
  rintro C W ⟨i1, i2, i3, i4, i5, i6⟩ hnD hD
  have k0 := i4.cell 0
  have k1 := i4.cell 1
  have C2 := Lib.hid (CL.out tb)
  clear q1 q2 q3 R3 RR3 g3 t3 B3 CL
  gi_wp2_with fail
  refine ⟨trivial, ?_⟩
  refine (inW (SC.out _ i5)).mono ?_
  rintro e w5 ⟨rfl, hb5⟩
  have I1 := i1.next hb5
  have I5 := i5.trans (hb5.mono i5.size)
  have hb5s := hb5.size
  have hb5b := hb5.block
  have CC := Lib.hid (C2.out w5 I1)
  have hal : Tryz.prog.arrayLen 124 = 7200 := by simp [Program.arrayLen, Tryz.underlying124]
  have hsl : ∀ W, (Instr.sliceAt 124 (.pointer (some ⟨tb, 0, none⟩)) none (some (.int .i64 (K : Int))) none).run Tryz.prog W = .ok (.slice (some ⟨tb, 0, none⟩) K 7200) W := fun W => by
   have := run_sliceAt_array_h (P := Tryz.prog) W 124 ⟨tb, 0, none⟩ (by simp [Program.arrayLen, Program.elem, Tryz.underlying124]) .i64 (K : Int) (by omega) (by rw [hal]; omega)
   rw [this, hal]
   have he : Tryz.prog.elem 124 = 3 := by simp [Program.elem, Tryz.underlying124]
   rw [he, Tryz.sizeOf3]
   simp only [Result.andThen_ok, slicedAt, Int.toNat_natCast]
   rw [if_neg (by omega)]
   simp [Addr.add]
  clear i1 i4 i5 hb5 C2 hal
  gi_wp2_with fail
  refine ⟨trivial, ?_⟩
  refine (inW (CC.out)).mono ?_
  rintro e w6 ⟨A6, c6, rfl, o6, hb6⟩
  have hD6 : w6.heap[tb + 4]? = some (.deferred (some [])) := by
   rw [hs3] at hD
   have h1 : tb + 4 < W.heap.size := (Array.getElem?_eq_some_iff.1 hD).1
   exact (hb6.block _ (Nat.lt_of_lt_of_le h1 hb5s)).trans ((hb5b _ h1).trans hD)
  have p1 := Only.put_one w6 (tb + 4) (.deferred none)
  have o7 : OwnI (w6.putObj (tb + 4) (.deferred none)) w.heap.size A6 c6 (cntI K lv) := OwnI.mono (own_kept2 o6 fun k hk => p1.block k (own_lt o6 hk).2 (fun e => by
   have h1 := (own_lt o6 hk).1
   have h2 : tb + 4 < w5.heap.size := by
    rw [hs3] at hD
    exact Nat.lt_of_lt_of_le (Array.getElem?_eq_some_iff.1 hD).1 hb5s
   omega)) I5.size
  have b7 : Below w.heap.size w (w6.putObj (tb + 4) (.deferred none)) := (I5.trans (hb6.mono I5.size)).trans (p1.below (fun k hk e => by omega) (I5.trans (hb6.mono I5.size)).size)
  have O7 := Lib.hid o7
  have B7 := Lib.hid b7
  have D6 := Lib.hid hD6
  clear o7 b7 p1 hD6 hb6 o6 I5 I1 hb5b hb5s
  gi_wp2
  exact end_mark D6.out (by simp [results, Tryz.results34, go_sem]) ⟨_, _, rfl, O7.out, B7.out⟩
theorem lcounts_any (n : Int) (A : Option Addr) (c : Nat) (es : List E3) (hlen : es.length ≤ 10000) (q : Int) (h0 : rootErr n es q = 0 → (endsL es).length ≤ 500 ∧ (recsL n.toNat es q.toNat).length ≤ 16384) (w : World) (h : Reads w w.heap.size 3 A es.length (edgeCells es)) :
  Calls Tryz.prog 34 #[.agg #[.int .i64 n, .slice A es.length c], .int .i64 q] w fun e w' => ∃ A' c', e = .returned (.tuple #[.slice A' (lcntE n es q).1.length c', .int .i64 (lcntE n es q).2]) ∧ OwnI w' w.heap.size A' c' (lcntE n es q).1 ∧ Below w.heap.size w w' := by
 by_cases hx : rootErr n es q = 0
 ·obtain ⟨m, p, rfl, rfl⟩ := root_nat hx
  have hE : lcntE m es p = (cntI ((endsL (straightL es)).length + 2 - m) ((recsL m es p).map (lvlC es p)), 0) := by unfold lcntE; rw [if_pos hx]; rfl
  rw [hE]
  dsimp only
  rw [cntI_length]
  exact lcounts_ok m p A c es hlen hx (h0 hx).1 (h0 hx).2 w h
 ·obtain ⟨z, hzz⟩ : ∃ z, rootErr n es q = z := ⟨_, rfl⟩
  have AC := Lib.hid (fun (W : World) (hB : Below w.heap.size w W) => rall_any n A c es hlen q (by unfold allE; rw [if_neg hx]; simp) W ((h.below hB).more hB.size))
  have hA : allE n es q = ([], z) := by unfold allE; rw [if_neg hx, hzz]
  have hE : lcntE n es q = ([], z) := by unfold lcntE; rw [if_neg hx, hzz]
  rw [hA] at AC
  rw [hE]
  rw [hzz] at hx
  have hzb : (z != 0) = true := by simpa using hx
  obtain ⟨M, hM⟩ : ∃ M, es.length = M := ⟨_, rfl⟩
  rw [hM] at AC ⊢
  have hB : Below w.heap.size w (w.alloc (.cells #[.int .i64 n, .slice A M c] 24)) := (Below.refl _ _).alloc (Nat.le_refl _) _
  have g := Blk.new w 24 #[.int .i64 n, .slice A M c]
  have k0 := g.cell 0
  have k1 := g.cell 1
  dsimp only [List.length_nil] at AC ⊢
  clear h h0 hx hzz hA hE hM hlen
  refine (callsIn_wide (n := 3)).1 ?_
  refine callsIn_of_wp_marks Tryz.func34 rfl trivial ?_
  simp only [Tryz.ntmps34, List.size_toArray, List.length_cons, List.length_nil, Nat.reduceAdd, Nat.reduceSub, Array.replicate_succ, Array.replicate_zero, List.push_toArray, List.append_toArray, List.nil_append, List.cons_append]
  gi_wp2_with fail
  refine ⟨trivial, ?_⟩
  refine (inW (AC.out _ hB)).mono ?_
  rintro e w1 ⟨Ar, cr, rfl, _, hb1⟩
  have B1 := Lib.hid (hB.trans (hb1.mono hB.size))
  clear k0 k1
  gi_wp2
  exact end_none (by simp [results, Tryz.results34, go_sem]) ⟨none, 0, rfl, OwnI.nil_ _ _, B1.out⟩
end Go.Proofs.YtnbikkcalcpedaaGreatDoor
namespace Go.Proofs.YtnbikkcalcpedaaGreatDoor
open Go.RowKit
theorem total33_any (A : Option Addr) (c : Nat) (xs : List Int) (hn : xs.length ≤ 12) (hb : ∀ x ∈ xs, -1048576 ≤ x ∧ x ≤ 1048576) (w : World) (h : Reads w w.heap.size 1 A xs.length (ints xs)) :
  Calls Tryz.prog 46 #[.slice A xs.length c] w fun e w' => e = .returned (.int .i64 xs.sum) ∧ w = w' := by
 have HB := Lib.hid hb
 have HS : Hid (∀ k, -1000000000 ≤ (xs.take k).sum ∧ (xs.take k).sum ≤ 1000000000) := fun k => by
  have := sum_bdB (xs := xs.take k) fun x hx => hb x (List.mem_of_mem_take hx)
  have h2 : (xs.take k).length ≤ 12 := by rw [List.length_take]; omega
  have h3 : (xs.take k).length ≤ xs.length := by rw [List.length_take]; omega
  omega
 have HFULL : Hid ((xs.take xs.length).sum = xs.sum) := by rw [Hid, List.take_length]
 have H0 : Hid ((xs.take 0).sum = 0) := by simp [Hid]
 have HSUC : Hid (∀ k x, xs[k]? = some x → (xs.take (k + 1)).sum = (xs.take k).sum + x) := fun k x hx => sumTake hx
 obtain ⟨F, hF⟩ : ∃ F : Nat → Int, (fun k => (xs.take k).sum) = F := ⟨_, rfl⟩
 have hF' : ∀ k, (xs.take k).sum = F k := fun k => congrFun hF k
 simp only [hF'] at HS HFULL H0 HSUC
 rw [← HFULL.out]
 clear hb hF hF'
 go_enter Tryz.func46, Tryz.ntmps46
 go_wp2_with fail
 go_loop [3, 4] (fun s i => ∃ k : Nat, k ≤ xs.length ∧ i = .int .i64 k ∧ s = .int .i64 (F k)) (fun _ i => xs.length - (intOf i).toNat)
 case atStart => exact ⟨0, by omega, rfl, by rw [H0.out]⟩
 case round =>
  obtain ⟨k, hk, rfl, rfl⟩ := hrel
  by_cases hlt : k < xs.length
  ·obtain ⟨x, hx⟩ := get_of_lt hlt
   obtain ⟨b, off, rfl, hbb, hcell⟩ := h.at_ (ints_at hx)
   have hi : (k : Int) < (xs.length : Int) := by omega
   have hs := HSUC.out k x hx
   have h1 := HS.out k
   have h2 := HS.out (k + 1)
   have hw1 : IntKind.i64.wrap (F k + x) = F k + x := IntWalk.i64_in _ (by omega)
   have HS1 := Lib.hid hs
   have HX := Lib.hid h2
   clear hx hs h1 h2
   go_wp2
   go_round
   case rel => exact ⟨k + 1, by omega, by go_num, by rw [HS1.out]⟩
   case measure => simp [intOf]; omega
  ·obtain rfl : k = xs.length := by omega
   go_wp2
   go_ret
   exact ⟨rfl, rfl⟩
theorem reads_kept33 {w w' : World} {B s n : Nat} {A : Option Addr} {xs : List Value} (h : Reads w B s A n xs) (hk : 0 < n → ∀ k, blockOf A k → w'.heap[k]? = w.heap[k]?) : Reads w' B s A n xs :=
 ⟨h.1, fun hn => by
  obtain ⟨b, off, rfl, hb, hc⟩ := h.2 hn
  exact ⟨b, off, rfl, hb, fun j u hu => (World.cell?_of_block (w := w) (hk hn b ⟨_, rfl, rfl⟩)).trans (hc j u hu)⟩⟩
theorem plain33_any (n : Nat) (A : Option Addr) (c : Nat) (es : List E3) (hlen : es.length ≤ 10000) (hok : ∀ e ∈ es, okE n e) (w : World) (h : Reads w w.heap.size 3 A es.length (edgeCells es)) :
  Calls Tryz.prog 45 #[.agg #[.int .i64 n, .slice A es.length c]] w fun e w' => ∃ A' c', e = .returned (.agg #[.int .i64 n, .slice A' (straightL es).length c']) ∧ Reads w' w'.heap.size 3 A' (straightL es).length (edgeCells (straightL es)) ∧ Below w.heap.size w w' := by
 have LC := Lib.hid (fun (W : World) (hB : Below w.heap.size w W) => limited_any n A c es hlen hok W ((h.below hB).more hB.size))
 obtain ⟨M, hM⟩ : ∃ M, es.length = M := ⟨_, rfl⟩
 obtain ⟨S, hS⟩ : ∃ S, (straightL es).length = S := ⟨_, rfl⟩
 have HS := Lib.hid hS
 rw [hM, hS] at LC
 rw [hM, hS]
 obtain ⟨w2, hw2⟩ : ∃ w2, (w.alloc (.cells #[.int .i64 n, .slice A M c] 24)).alloc (.cells #[.int .i64 0, .slice none 0 0] 24) = w2 := ⟨_, rfl⟩
 have g : Blk w2 w.heap.size 24 #[.int .i64 n, .slice A M c] := by rw [← hw2]; exact (Blk.new w _ _).alloc _
 have gr : Blk w2 (w.heap.size + 1) 24 #[.int .i64 0, .slice none 0 0] := by rw [← hw2]; exact Blk.new_at (by simp)
 have hB : Below w.heap.size w w2 := by rw [← hw2]; exact ((Below.refl _ _).alloc (Nat.le_refl _) _).alloc (by simp) _
 have HW := Lib.hid hw2
 have k0 := g.cell 0
 have k1 := g.cell 1
 clear h hM hS hw2 hlen hok
 go_enter Tryz.func45, Tryz.ntmps45
 go_wp2_with fail
 rw [HW.out]
 refine (LC.out _ hB).mono ?_
 rintro e w3 ⟨A3, c3, rfl, o3, hb⟩
 have gr := gr.next hb
 have hB := hB.trans (hb.mono hB.size)
 have c0 := gr.cell 0
 have c1 := gr.cell 1
 have f0 := gr.frozen 0
 have f1 := gr.frozen 1
 have hlt := gr.lt
 have O := ((Only.refl (fun k => k = w.heap.size + 1) w3).setCell (p := ⟨w.heap.size + 1, 0, none⟩) (.inl rfl) (.int .i64 n)).setCell (p := ⟨w.heap.size + 1, 1, none⟩) (.inl rfl) (.slice A3 S c3)
 have hlo : ∀ k, blockOf A3 k → w2.heap.size ≤ k := fun k hk => (OwnE.lt o3 k hk).1
 have hg2 : w.heap.size + 1 < w2.heap.size := by rw [← HW.out]; simp
 have r3 : Hid (Reads ((w3.setCell ⟨w.heap.size + 1, 0, none⟩ (.int .i64 n)).setCell ⟨w.heap.size + 1, 1, none⟩ (.slice A3 S c3)) ((w3.setCell ⟨w.heap.size + 1, 0, none⟩ (.int .i64 n)).setCell ⟨w.heap.size + 1, 1, none⟩ (.slice A3 S c3)).heap.size 3 A3 S (edgeCells (straightL es))) := by
  have h1 := OwnE.reads o3
  rw [HS.out] at h1
  exact (reads_kept33 h1 (fun _ k hk => O.block k (OwnE.lt o3 k hk).2 (fun e => by have := hlo k hk; omega))).more O.size
 have BB := Lib.hid (hB.trans (O.below (fun k hk e => by omega) hB.size))
 clear O hlo o3
 go_wp2
 refine bodyPost_ret (results_g rfl rfl ((gr.set_ 0 _).set_ 1 _) rfl) rfl ?_
 exact ⟨A3, c3, rfl, r3.out, BB.out⟩
theorem rof33_any (n q : Nat) (A : Option Addr) (c : Nat) (es : List E3) (hlen : es.length ≤ 40) (hG : RightG n es) (B : Option Addr) (d : Nat) (cs : List Int) (hc : cs.length = n) (hb : ∀ x ∈ cs, -1048576 ≤ x ∧ x ≤ 1048576) (w : World) (h : Reads w w.heap.size 3 A es.length (edgeCells es)) (h' : Reads w w.heap.size 1 B cs.length (ints cs)) :
  Calls Tryz.prog 86 #[.agg #[.int .i64 n, .slice A es.length c], .int .i64 q, .slice B cs.length d] w fun e w' => e = .returned (.int .i64 (lvlC es q cs)) ∧ Below w.heap.size w w' := by
 have hhi := hG.hi
 have hv := valE_bd hG.ok q
 have hsb := sum_bdB hb
 have hsl : (straightL es).length ≤ es.length := List.length_filter_le _ _
 have hok' : ∀ e ∈ straightL es, okE n e := fun e he => hG.ok e (List.mem_filter.1 he).1
 have hsz := sizeE_bd hok'
 have TC := Lib.hid (fun (W : World) (hB : Below w.heap.size w W) => total33_any B d cs (by omega) hb W ((h'.below hB).more hB.size))
 have VC := Lib.hid (fun (W : World) (hB : Below w.heap.size w W) => val08_any n A c es (by omega) hG q W ((h.below hB).more hB.size))
 have PC := Lib.hid (fun (W : World) (hB : Below w.heap.size w W) => plain33_any n A c es (by omega) hG.ok W ((h.below hB).more hB.size))
 have SC := Lib.hid (fun (A2 : Option Addr) (c2 : Nat) (W : World) (hR : Reads W W.heap.size 3 A2 (straightL es).length (edgeCells (straightL es))) => rsize_any n A2 c2 (straightL es) (by omega) n hok' W hR)
 unfold lvlC
 rw [size_ends] at SC hsz
 obtain ⟨S, hS⟩ : ∃ S, (endsL (straightL es)).length = S := ⟨_, rfl⟩
 obtain ⟨s, hs⟩ : ∃ s, cs.sum = s := ⟨_, rfl⟩
 obtain ⟨v, hvv⟩ : ∃ v, valE es q = v := ⟨_, rfl⟩
 obtain ⟨M, hM⟩ : ∃ M, es.length = M := ⟨_, rfl⟩
 obtain ⟨N, hN⟩ : ∃ N, cs.length = N := ⟨_, rfl⟩
 rw [hS] at SC hsz ⊢
 rw [hs] at hsb TC ⊢
 rw [hvv] at hv VC ⊢
 rw [hM] at VC PC ⊢
 rw [hN] at TC ⊢
 have hw1 : IntKind.i64.wrap (s + v) = s + v := IntWalk.i64_in _ (by omega)
 have hw2 : IntKind.i64.wrap (s + v - (S : Int)) = s + v - (S : Int) := IntWalk.i64_in _ (by omega)
 have g := (Blk.new w 24 #[.int .i64 n, .slice A M c]).drew
 have hB : Below w.heap.size w (w.alloc (.cells #[.int .i64 n, .slice A M c] 24)).drew := ((Below.refl _ _).alloc (Nat.le_refl _) _).drew
 have k0 := g.cell 0
 have k1 := g.cell 1
 clear h h' hM hN hS hs hvv hG hb hsb hv hc hhi hsl hok' hsz
 go_enter Tryz.func86, Tryz.ntmps86
 go_wp2_with fail
 go_region_held3 (fun W => W.cell? ⟨w.heap.size, 0, none⟩ = some (.int .i64 n) ∧ W.cell? ⟨w.heap.size, 1, none⟩ = some (.slice A M c)) (go_keep) (first
  | (go_at_call 46; refine (TC.out _ hB).mono ?_; rintro e w5 ⟨rfl, rfl⟩)
  | (go_at_call 48; refine (VC.out _ hB).mono ?_; rintro e w5 ⟨rfl, hb5⟩; have g := g.next hb5; have hB := hB.trans (hb5.mono hB.size); have k0 := g.cell 0; have k1 := g.cell 1)
  | (go_at_call 45; refine (PC.out _ hB).mono ?_; rintro e w6 ⟨A6, c6, rfl, r6, hb5⟩; have g := g.next hb5; have hB := hB.trans (hb5.mono hB.size); have k0 := g.cell 0; have k1 := g.cell 1)
  | (go_at_call 20; refine (SC.out _ _ _ r6).mono ?_; rintro e w7 ⟨rfl, hb5⟩; have g := g.next hb5; have hB := hB.trans (hb5.mono hB.size); have k0 := g.cell 0; have k1 := g.cell 1))
 all_goals (
  have BB := Lib.hid hB
  go_wp2
  go_ret
  exact ⟨rfl, BB.out⟩)
end Go.Proofs.YtnbikkcalcpedaaGreatDoor
namespace Go.Proofs.YtnbikkcalcpedaaGreatDoor
open Go.RowKit Go.Shelf
attribute [local go_sem] Oper.semAt_some
def bwL (l : List Int) : List (Nat × Int) := ((List.range l.length).map fun k => (k, l.getD k 0)).reverse
theorem bwL_length (l : List Int) : (bwL l).length = l.length := by simp [bwL]
theorem bwL_at {l : List Int} {u k : Nat} (h : u + k + 1 = l.length) : (bwL l)[u]? = some (k, l.getD k 0) := by
 unfold bwL
 rw [List.getElem?_reverse (by simp; omega)]
 rw [List.length_map, List.length_range, show l.length - 1 - u = k by omega, List.getElem?_map, List.getElem?_range (by omega)]
 rfl
def ArgB (x : Nat × Int) (args : Array Value) (_ : Nat → Prop) (_ : World) : Prop := args = #[.int .i64 (x.1 : Nat), .int .i64 x.2]
theorem backward_any (A : Option Addr) (n c : Nat) (w : World) :
  Calls Tryz.prog 95 #[.slice A n c] w fun e w' => e = .returned (.func (.func 153) #[] #[.pointer (some ⟨w.heap.size, 0, none⟩)]) ∧ w.alloc (.cells #[.slice A n c] 25) = w' := by
 have hmf : ∀ (fn : Fn) (first cap : Array Value) (w : World), (Instr.makeFunc fn first cap).run Tryz.prog w = .ok (.func fn first cap) w := fun _ _ _ _ => rfl
 go_enter Tryz.func95, Tryz.ntmps95
 go_wp2
 go_ret
 exact ⟨rfl, rfl⟩
theorem backward_iter (tb lb : Nat) (A : Option Addr) (c : Nat) (xs : List Int) (hn : xs.length ≤ 1000000) (W0 : World) (htb : tb ≤ W0.heap.size) (h1 : Blk W0 lb 25 #[.slice A xs.length c]) (h3 : Reads W0 tb 1 A xs.length (ints xs)) :
  Iter Tryz.prog 153 #[.pointer (some ⟨lb, 0, none⟩)] ArgB (fun k => k < tb ∨ k = lb) (fun _ => False) (bwL xs) W0 := by
 intro l J Jx C W hL hC hJ hJx hY h0
 have hBL : Below tb W0 W := ⟨hL.os, hL.tape, hL.output, hL.size, fun k hk => hL.block k (by omega) (.inl hk)⟩
 have k1 := (hL.block lb h1.lt (.inr rfl)).trans h1
 have k3 := h3.below hBL
 have htW : tb ≤ W.heap.size := Nat.le_trans htb hL.size
 obtain ⟨m, hm⟩ : ∃ m, xs.length = m := ⟨_, rfl⟩
 have HMM := Lib.hid hm
 rw [hm] at k1 k3 hn
 have HC := Lib.hid hC
 have HY := Lib.hid hY
 have HJ := Lib.hid hJ
 have H0 := Lib.hid h0
 have K1 := Lib.hid (show Blk W lb 25 #[.slice A m c] from k1)
 have K3 := Lib.hid k3
 have HTW := Lib.hid htW
 have c0 := (show Blk W lb 25 #[.slice A m c] from k1).cell 0
 have hw0 : IntKind.i64.wrap ((m : Int) - 1) = (m : Int) - 1 := IntWalk.i64_in _ (by omega)
 clear h1 h3 hL hC hY hJ hJx h0 hm hBL k1 k3 htW htb
 refine (callsIn_wide (n := 3)).1 ?_
 refine callsIn_of_wp_marks Tryz.func153 rfl trivial ?_
 simp only [Tryz.ntmps153, List.size_toArray, List.length_cons, List.length_nil, Nat.reduceAdd, Nat.reduceSub, Array.replicate_succ, Array.replicate_zero, List.push_toArray, List.append_toArray, List.nil_append, List.cons_append]
 gi_wp2_with fail
 gi_loopw [3] (fun v wl => ∃ (u k : Nat) (C' : Nat → Prop), v = .int .i64 ((k : Int) - 1) ∧ u + k = m ∧ Hid (W.heap.size ≤ wl.heap.size) ∧ Hid (Below tb W wl) ∧ Hid (Blk wl lb 25 #[.slice A m c]) ∧
  Hid (J ((bwL xs).take u) C' wl) ∧ Hid (∀ k, C' k → k < wl.heap.size ∧ ¬ (k < tb ∨ k = lb))) (fun v _ => (intOf v + 1).toNat)
 case atStart => exact ⟨0, m, C, rfl, by omega, Nat.le_refl _, Below.refl _ _, K1.out, H0.out, HC.out⟩
 case round =>
  obtain ⟨u, k, C', rfl, hu, hsz, iB, iG, IJ, IC⟩ := hrel
  obtain ⟨wo, hwo⟩ : ∃ wo : World, wo = wr := ⟨wr, rfl⟩
  subst hwo
  rcases k with _ | k
  ·have hi : ¬ (0 : Int) ≤ ((0 : Nat) : Int) - 1 := by omega
   have hfin : (bwL xs).take u = bwL xs := List.take_of_length_le (by rw [bwL_length, HMM.out]; omega)
   rw [hfin] at IJ
   clear hfin c0
   gi_wp2
   exact ⟨_, results_none rfl _ _ _, ⟨⟨_, rfl⟩, C', .inl IJ.out⟩⟩
  ·rw [show (((k + 1 : Nat) : Int) - 1) = (k : Int) by omega]
   have hi : (0 : Int) ≤ (k : Int) := by omega
   have hx2 := bwL_at (l := xs) (u := u) (k := k) (by rw [HMM.out]; omega)
   obtain ⟨x, hx⟩ := get_of_lt (xs := xs) (k := k) (by rw [HMM.out]; omega)
   rw [getD_at hx] at hx2
   obtain ⟨b, off, hA, hbb, hcell⟩ := (K3.out.below iB.out).at_ (ints_at hx)
   have HTK := Lib.hid (take_snoc hx2)
   have hpx : Hid ((bwL xs).take u ++ [(k, x)] <+: bwL xs) := by rw [Hid, ← HTK.out]; exact List.take_prefix _ _
   have g0 := iG.out.cell 0
   have hkm : (k : Int) < (m : Int) := by omega
   subst hA
   obtain ⟨fn, tmps, assign, body, hyy, hR⟩ := HY.out ((bwL xs).take u) (k, x) C' wo #[.int .i64 (k : Int), .int .i64 x] (fun _ => False) hpx.out IJ.out hsz.out (fun k hk => (IC.out k hk).1) (fun k hk => hk.elim) rfl
   clear hx hx2 c0
   gi_wp2_with fail
   refine (roundIn_wide hR).mono ?_
   rintro e w6 ⟨C2, b2, ho2, hg2, rfl, hj2, hx2⟩
   cases b2
   ·have HX2 := Lib.hid (hx2 rfl)
    rw [← HTK.out] at HX2
    clear hj2 hx2 hR hyy
    gi_wp2
    exact ⟨_, results_none rfl _ _ _, ⟨⟨_, rfl⟩, C2, .inr ⟨(bwL xs).take (u + 1), List.take_prefix _ _, HX2.out⟩⟩⟩
   ·have HJ2 := Lib.hid (hj2 rfl)
    rw [← HTK.out] at HJ2
    have hno : ∀ k, (k < tb ∨ k = lb) → ¬ (C' k ∨ False) := fun k hk hc => hc.elim (fun hc => (IC.out k hc).2 hk) id
    have N1 := Lib.hid (Nat.le_trans hsz.out ho2.size)
    have N2 : Hid (Below tb W w6) := iB.out.trans (ho2.below (fun k hk => hno k (.inl hk)) (Nat.le_trans HTW.out hsz.out))
    have N3 := Lib.hid (iG.out.only ho2 (hno lb (.inr rfl)))
    have N5 : Hid (∀ k, C2 k → k < w6.heap.size ∧ ¬ (k < tb ∨ k = lb)) := by
     intro k hk
     rcases hg2 k hk with h | h | h
     ·have := IC.out k h; exact ⟨Nat.lt_of_lt_of_le this.1 ho2.size, this.2⟩
     ·exact h.elim
     ·have hh1 := iG.out.lt
      have hh3 := Nat.le_trans HTW.out hsz.out
      exact ⟨h.2, by omega⟩
    have hw1 : IntKind.i64.wrap ((k : Int) - 1) = (k : Int) - 1 := IntWalk.i64_in _ (by omega)
    clear hj2 hx2 hR hyy ho2 hg2 hno g0 hcell
    gi_wp2
    go_roundw
    case rel => exact ⟨u + 1, k, C2, by go_num, by omega, N1.out, N2.out, N3.out, HJ2.out, N5.out⟩
    case measure => simp [intOf]
end Go.Proofs.YtnbikkcalcpedaaGreatDoor
namespace Go.Proofs.YtnbikkcalcpedaaGreatDoor
open Go.RowKit
theorem rtree33_any (n : Int) (A : Option Addr) (c : Nat) (es : List E3) (hlen : es.length ≤ 40) (hm0 : checkG n es = 0 → (endsL es).length ≤ 60) (q : Int) (B : Option Addr) (d : Nat) (xs : List Int) (hm : xs.length ≤ 1000) (w : World) (h : Reads w w.heap.size 3 A es.length (edgeCells es)) (h' : Reads w w.heap.size 1 B xs.length (ints xs)) :
  Calls Tryz.prog 33 #[.agg #[.int .i64 n, .slice A es.length c], .int .i64 q, .slice B xs.length d] w fun e w' => e = .returned (.tuple #[.int .i64 (lvtE n es q xs).1, .int .i64 (lvtE n es q xs).2]) ∧ Below w.heap.size w w' := by
 have RC := Lib.hid (fun (W : World) (hB : Below w.heap.size w W) => rrecur30_any n q A c es hlen hm0 B d xs hm W ((h.below hB).more hB.size) ((h'.below hB).more hB.size))
 obtain ⟨M, hM⟩ : ∃ M, es.length = M := ⟨_, rfl⟩
 obtain ⟨N, hN⟩ : ∃ N, xs.length = N := ⟨_, rfl⟩
 have g := Blk.new w 24 #[.int .i64 n, .slice A M c]
 have hB : Below w.heap.size w (w.alloc (.cells #[.int .i64 n, .slice A M c] 24)) := (Below.refl _ _).alloc (Nat.le_refl _) _
 have k0 := g.cell 0
 have k1 := g.cell 1
 by_cases hz : grownErr n es q xs = 0
 ·have hck0 : checkG n es = 0 := by
   obtain ⟨m, p, t, rfl, _, _, _, _, hR, _⟩ := grown_nat hz
   exact check_right hR.hG
  have hE : lvtE n es q xs = (lvlC es q.toNat (recFE n es q xs).1, 0) := by unfold lvtE; rw [if_pos hz]
  obtain ⟨m, p, rfl, rfl, hp, hG, hck, hl, hb, hr2⟩ := rec_bd (by omega) (hm0 hck0) hz
  rw [Int.toNat_natCast] at hE
  rw [hE]
  obtain ⟨cs, hcs⟩ : ∃ cs, (recFE m es p xs).1 = cs := ⟨_, rfl⟩
  rw [hcs] at hl hb RC ⊢
  rw [hr2] at RC
  have OC := Lib.hid (fun (W : World) (hB : Below w.heap.size w W) (A1 : Option Addr) (c1 : Nat) (hR : Reads W W.heap.size 1 A1 cs.length (ints cs)) => rof33_any m p A c es hlen hG A1 c1 cs hl hb W ((h.below hB).more hB.size) hR)
  obtain ⟨v, hvv⟩ : ∃ v, lvlC es p cs = v := ⟨_, rfl⟩
  rw [hvv] at OC ⊢
  obtain ⟨K, hK⟩ : ∃ K, cs.length = K := ⟨_, rfl⟩
  have HK := Lib.hid hK
  rw [hM] at RC OC ⊢
  rw [hN] at RC ⊢
  rw [hK] at RC OC
  dsimp only at RC ⊢
  clear h h' hM hN hz hG hck hl hb hE hvv hK hr2 hck0 hcs
  go_enter Tryz.func33, Tryz.ntmps33
  go_wp2_with fail
  refine (RC.out _ hB).mono ?_
  rintro e w1 ⟨A1, c1, rfl, o1, hb⟩
  have g := g.next hb
  have hB := hB.trans (hb.mono hB.size)
  have k0 := g.cell 0
  have k1 := g.cell 1
  have r1 := o1.reads
  rw [HK.out] at r1
  clear hb o1
  go_wp2_with fail
  refine (OC.out _ hB _ _ r1).mono ?_
  rintro e w2 ⟨rfl, hb⟩
  have hB := hB.trans (hb.mono hB.size)
  go_wp2
  go_ret2
  exact ⟨rfl, hB⟩
 ·obtain ⟨z, hzz⟩ : ∃ z, grownErr n es q xs = z := ⟨_, rfl⟩
  have hE : lvtE n es q xs = (0, z) := by unfold lvtE; rw [if_neg hz, hzz]
  have hR : recFE n es q xs = ([], z) := by unfold recFE; rw [if_neg hz, hzz]
  rw [hzz] at hz
  have hzb : (z != 0) = true := by simpa using hz
  rw [hE]
  rw [hR] at RC
  dsimp only at RC ⊢
  rw [hM, hN] at RC ⊢
  clear h h' hM hN hz hE hR hzz
  go_enter Tryz.func33, Tryz.ntmps33
  go_wp2_with fail
  refine (RC.out _ hB).mono ?_
  rintro e w1 ⟨A1, c1, rfl, _, hb⟩
  have hB := hB.trans (hb.mono hB.size)
  clear hb
  go_wp2
  go_ret2
  exact ⟨rfl, hB⟩
end Go.Proofs.YtnbikkcalcpedaaGreatDoor
