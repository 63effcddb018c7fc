/-
  Texts of this claim, put together: TCycM, TSwap, TAll.
-/
import Derived.Test.YtplgbapbgcipdaaGreatDoorK31
import Derived.Test.YtplgbapbgcipdaaGreatDoorK15
import Derived.Deep.RegionLaw
import Derived.Deep.DeepMust
import Derived.Test.YtplgbapbgcipdaaGreatDoorK03
import Derived.Test.YtplgbapbgcipdaaGreatDoorK32
/-! Package tree: Cycle, the way and the sorted cycle; Cycle for all arguments. -/
namespace Go.Proofs.YtplgbapbgcipdaaGreatDoor
open Go.RowKit

theorem own_len {w : World} {base : Nat} {A : Option Addr} {c : Nat} {xs : List Int} {n : Nat} (h : OwnI w base A c xs) (hn : xs.length = n) : w.ownsRow base 3 1 (.slice A n c) n (ints xs) := by subst hn; exact h
set_option maxRecDepth 100000 in
set_option maxHeartbeats 8000000 in
theorem tcycle_main (m : Nat) (A : Option Addr) (c : Nat) (es : List E3) (hn : es.length ≤ 10000) (B : Option Addr) (d : Nat) (t : List Nat) (hR : TreeR m es t) (ht : t.length ≤ 11) (x : Nat) (w : World) (h : Reads w w.heap.size 3 A es.length (edgeCells es)) (h' : Reads w w.heap.size 1 B (nI t).length (ints (nI t))) (hj : treeErr m es (nI t) = 0) (hx : x < (endsL es).length) (hi : (x : Int) ∉ nI t) :
    Calls Tryz.prog 48 #[.agg #[.int .i64 m, .slice A es.length c], .slice B (nI t).length d, .int .i64 x] w fun e w' => ∃ A' c', e = .returned (.tuple #[.slice A' (cycleE m es (nI t) x).1.length c', .int .i64 (cycleE m es (nI t) x).2]) ∧ OwnI w' w.heap.size A' c' (cycleE m es (nI t) x).1 ∧ Below w.heap.size w w' := by
  have hnl := nI_length t
  have hm : (nI t).length ≤ 1048576 := by omega
  have GC := Lib.hid (fun (W : World) (hB : Below w.heap.size w W) => checked_any m A c es hn B d (nI t) hm W ((h.below hB).more hB.size) ((h'.below hB).more hB.size))
  have g0 := Blk.new w 24 #[.int .i64 m, .slice A es.length c]
  have hb0 : Below w.heap.size w (w.alloc (.cells #[.int .i64 m, .slice A es.length c] 24)) := (Below.refl _ _).alloc (Nat.le_refl _) _
  have c0 := g0.cell 0
  have c1 := g0.cell 1
  rw [hj] at GC
  obtain ⟨ab, hab⟩ := get_of_lt hx
  obtain ⟨p, q⟩ := ab
  have hpq := bd_ends hR.hG _ (List.mem_of_getElem? hab)
  have HE : Hid (cycleE m es (nI t) x = (sortG ltI (nI (pathL (endsL es) t p q) ++ [(x : Int)]), 0)) := by
    unfold Hid cycleE
    rw [if_neg (fun hc => hc hj), if_neg (by omega), if_neg hi, toN_nI, Int.toNat_natCast, hab]
  rw [HE.out]
  have CC := Lib.hid (fun (W : World) (hB : Below w.heap.size w W) => contains_any B d (nI t) hm (x : Int) W ((h'.below hB).more hB.size))
  rw [decide_eq_false hi] at CC
  have WC := Lib.hid (fun (Ar : Option Addr) (cr : Nat) (W : World) (hB : Below w.heap.size w W) (hr : Reads W W.heap.size 2 Ar (endsL es).length (pair2 (endsL es))) => way_any m hR.hi p q hpq.1 (endsL es) t hR.hT hR.len (hR.cn hpq.1 hpq.2) Ar cr B d W hr (by rw [← hnl]; exact (h'.below hB).more hB.size))
  have hPl := path_len hR.hT (hR.cn hpq.1 hpq.2)
  obtain ⟨R, hRR⟩ : ∃ R, pathL (endsL es) t p q = R := ⟨_, rfl⟩
  rw [hRR] at WC hPl ⊢
  have hd0 : ¬ (x : Int) < 0 := by omega
  clear hi
  obtain ⟨E, hE⟩ : ∃ E, endsL es = E := ⟨_, rfl⟩
  rw [hE] at GC WC hx hab
  have hRl : (nI R).length = R.length := nI_length R
  have SC : Hid (∀ (A' : Option Addr) (c' : Nat) (W : World), OwnI W w.heap.size A' c' (nI R ++ [(x : Int)]) → Calls Tryz.prog 91 #[.slice A' (R.length + 1) c'] W fun e w' => e = .returned (.tuple #[]) ∧ OwnI w' w.heap.size A' c' (sortG ltI (nI R ++ [(x : Int)])) ∧ Below w.heap.size W w') := by
    intro A' c' W hO
    have h1 : (nI R ++ [(x : Int)]).length = R.length + 1 := by simp [nI_length]
    have := sortx_any A' c' (nI R ++ [(x : Int)]) (by omega) (by omega) W w.heap.size hO
    rw [h1] at this
    exact this
  have hSl : Hid ((sortG ltI (nI R ++ [(x : Int)])).length = R.length + 1) := by
    unfold Hid
    rw [(sortG_perm _).length_eq]; simp [nI_length]
  obtain ⟨Z, hZ⟩ : ∃ Z, sortG ltI (nI R ++ [(x : Int)]) = Z := ⟨_, rfl⟩
  rw [hZ] at SC hSl ⊢
  have HRl := Lib.hid hRl
  have HX := Lib.hid hab
  have HPl := Lib.hid hPl
  have Hxl := Lib.hid hx
  rw [hnl] at GC CC h' ⊢
  clear hj hR hE HE hZ hRR hpq hRl hab hPl hx hnl hm h h'
  go_enter Tryz.func48, Tryz.ntmps48
  go_wp2_with fail
  refine (GC.out _ hb0).mono ?_
  rintro e w1 ⟨Ar, lr, cr, rfl, hg1, _, hb1⟩
  obtain ⟨rfl, HQ⟩ := hg1 rfl
  have HQ : Hid (OwnQ w1 w.heap.size Ar cr E) := own_rebase2 HQ hb0.size
  have hd : ¬ (E.length : Int) ≤ (x : Int) := by have := Hxl.out; omega
  have B1 := Lib.hid (hb0.trans (hb1.mono hb0.size))
  clear hb1 hb0 g0 c0 c1 GC
  go_wp2_with fail
  refine (CC.out _ B1.out).mono ?_
  rintro e w2 ⟨rfl, rfl⟩
  obtain ⟨bA, oA, hA, hbA, q0, q1⟩ := (HQ.out.reads).pairAt HX.out
  subst hA
  have hx0 : (0 : Int) ≤ (x : Int) := by omega
  have hx1 : (x : Int) < (E.length : Int) := by have := Hxl.out; omega
  have hx2 : x < E.length := Hxl.out
  have WC1 := Lib.hid (WC.out (some ⟨bA, oA, none⟩) cr w1.drew (by exact below_drewN B1.out 1) (by exact OwnQ.reads HQ.out))
  have HR2 : Hid (∀ o, Reads (w1.alloc o) (w1.alloc o).heap.size 2 (some ⟨bA, oA, none⟩) E.length (pair2 E)) := fun o => (OwnQ.reads (HQ.out)).next ((Below.refl _ _).alloc (Nat.le_refl _) o)
  have WC2 := Lib.hid (fun o => WC.out (some ⟨bA, oA, none⟩) cr (w1.alloc o).drew (by exact below_drewN (B1.out.alloc B1.out.size o) 1) (by exact HR2.out o))
  have q0a : ∀ o, (w1.alloc o).cell? ⟨bA, oA + x * 2, none⟩ = some (.int .i64 (p : Int)) := fun o => (World.cell?_alloc_lt w1 o _ hbA).trans q0
  have q1a : ∀ o, (w1.alloc o).cell? ⟨bA, oA + x * 2 + 1, none⟩ = some (.int .i64 (q : Int)) := fun o => (World.cell?_alloc_lt w1 o _ hbA).trans q1
  clear WC CC
  go_wp2_with fail
  have hRi := ints_one (xs := nI R)
  have hx9 : ∀ u ∈ [Value.int .i64 (x : Int)], u.oneCell' = true := by simp [Value.oneCell']
  have hR11 : R.length + 1 ≤ 1048576 := by have := HPl.out; omega
  have hbs := B1.out.size
  have B00 : Hid (Below w.heap.size w (w1.alloc (.cells #[.int .i64 (x : Int)] 3)).drew) := below_drewN (B1.out.alloc hbs (.cells #[.int .i64 (x : Int)] 3)) 1
  have RB0 : Hid (∀ W, Below (w1.alloc (.cells #[.int .i64 (x : Int)] 3)).drew.heap.size (w1.alloc (.cells #[.int .i64 (x : Int)] 3)).drew W → Reads W (w1.alloc (.cells #[.int .i64 (x : Int)] 3)).drew.heap.size 1 (some ⟨w1.heap.size, 0, none⟩) 1 [.int .i64 (x : Int)]) := by
    intro W hW
    refine Reads.below ?_ hW
    exact ((Reads.box w1 (.int .i64 (x : Int)) 3).more (by show w1.heap.size + 1 ≤ (w1.alloc (.cells #[.int .i64 (x : Int)] 3)).heap.size; simp))
  go_region_law (first
    | (go_simp; go_at_call 90; (with_reducible refine (WC1.out).mono ?_); rintro e w4 ⟨A4, c4, rfl, o4, hb4⟩
       have o5 := (o4.mono hbs).alloc (.cells #[.int .i64 (x : Int)] 3)
       have o5 := own_len o5 HRl.out
       have B4 := (below_drewN B1.out 1).trans (hb4.mono hbs)
       have B5 := (below_drewN B1.out 1).trans ((hb4.mono hbs).trans ((Below.refl _ _).alloc (Nat.le_refl _) (.cells #[.int .i64 (x : Int)] 3) |>.mono B4.size))
       have rb := Reads.box w4 (.int .i64 (x : Int)) 3
       have hz := B5.size)
    | (go_simp; go_at_call 90; (with_reducible refine (WC2.out _).mono ?_); rintro e w4 ⟨A4, c4, rfl, o4, hb4⟩
       have B0 := B00.out
       have o5 := o4.mono B0.size
       have o5 := own_len o5 HRl.out
       have B5 := B0.trans (hb4.mono B0.size)
       have rb := RB0.out _ hb4
       have hz := B5.size)
    | (refine append_step2 rfl (.tmp 46) (.tmp 48) _ _ rfl w.heap.size 3 3 Tryz.underlying25 Tryz.underlying25 info_int rfl (by omega) A4 c4 R.length (ints (nI R)) rfl o5 _ [.int .i64 (x : Int)] rfl rb hx9 hR11 hz ?_
       intro A6 c6 w6 own6 _ b6 _
       have B6 := B5.trans b6))
  all_goals (
    have O6 : Hid (OwnI w6 w.heap.size A6 c6 (nI R ++ [(x : Int)])) := by
      unfold Hid OwnI
      rw [List.length_append, HRl.out, ints_snoc]
      exact own6
    have S6 := Lib.hid (SC.out A6 c6 w6 O6.out)
    have B6 := Lib.hid B6
    clear own6 O6 rb o5 hz hb4 o4 B5
    go_wp2_with fail
    refine (S6.out).mono ?_
    rintro e w7 ⟨rfl, o7, b7⟩
    go_wp2
    go_ret2
    exact ⟨A6, c6, by rw [hSl.out]; rfl, o7, B6.out.trans b7⟩)

theorem tcycle_any (n : Int) (A : Option Addr) (c : Nat) (es : List E3) (hn : es.length ≤ 10000) (B : Option Addr) (d : Nat) (xs : List Int) (hm : xs.length ≤ 11) (x : Int) (w : World) (h : Reads w w.heap.size 3 A es.length (edgeCells es)) (h' : Reads w w.heap.size 1 B xs.length (ints xs)) :
    Calls Tryz.prog 48 #[.agg #[.int .i64 n, .slice A es.length c], .slice B xs.length d, .int .i64 x] w fun e w' => ∃ A' c', e = .returned (.tuple #[.slice A' (cycleE n es xs x).1.length c', .int .i64 (cycleE n es xs x).2]) ∧ OwnI w' w.heap.size A' c' (cycleE n es xs x).1 ∧ Below w.heap.size w w' := by
  have hm' : xs.length ≤ 1048576 := by omega
  by_cases hj : treeErr n es xs = 0
  · by_cases h0 : x < 0
    · exact tcycle_neg n A c es hn B d xs hm' x w h h' hj h0
    · by_cases h1 : ((endsL es).length : Int) ≤ x
      · exact tcycle_big n A c es hn B d xs hm' x w h h' hj (by omega) h1
      · by_cases hi : x ∈ xs
        · exact tcycle_in n A c es hn B d xs hm' x w h h' hj (by omega) (by omega) hi
        · obtain ⟨m, t, rfl, rfl, hR⟩ := treeR_of hj
          obtain ⟨k, rfl⟩ := Int.eq_ofNat_of_zero_le (show 0 ≤ x by omega)
          exact tcycle_main m A c es hn B d t hR (by rw [nI_length] at hm; exact hm) k w h h' hj (by omega) hi
  · exact tcycle_err n A c es hn B d xs hm' x w h h' hj
end Go.Proofs.YtplgbapbgcipdaaGreatDoor

/-! Package tree: Swap. -/
namespace Go.Proofs.YtplgbapbgcipdaaGreatDoor
open Go.RowKit

end Go.Proofs.YtplgbapbgcipdaaGreatDoor

/-! Package tree: trees, All, Count. -/
namespace Go.Proofs.YtplgbapbgcipdaaGreatDoor
open Go.RowKit Go.Shelf
attribute [local go_sem] Oper.semAt_some

set_option maxHeartbeats 1000000 in
theorem ftrees_any (n : Nat) (Ar : Option Addr) (m cr : Nat) (w : World) :
    Calls Tryz.prog 65 #[.int .i64 n, .slice Ar m cr] w fun e w' => e = .returned (.func (.func 107) #[] #[.pointer (some ⟨w.heap.size, 0, none⟩), .pointer (some ⟨w.heap.size + 1, 0, none⟩)]) ∧
      (w.alloc (.cells #[.int .i64 n] 3)).alloc (.cells #[.slice Ar m cr] 65) = w' := by
  have hmf : ∀ (fn : Fn) (first cap : Array Value) (w : World), (Instr.makeFunc fn first cap).run Tryz.prog w = .ok (.func fn first cap) w := fun _ _ _ _ => rfl
  go_enter Tryz.func65, Tryz.ntmps65
  go_wp2
  go_ret
  exact ⟨rfl, rfl⟩
/-- What All returns. -/
def tallE (n : Int) (es : List E3) : List (List Int) × Int := if joinErr n es ≠ 0 then ([], joinErr n es) else ((treesT n.toNat (endsL es)).map nI, 0)
theorem OwnQ.cap_ {w : World} {base : Nat} {A : Option Addr} {c : Nat} {ps : List (Nat × Nat)} (h : OwnQ w base A c ps) : ps.length ≤ c := by
  rcases h.2 with ⟨hv, h0⟩ | ⟨g, cap, cur, hv, _, _, h1, _⟩
  · omega
  · injection hv with _ _ e; omega

set_option maxRecDepth 100000 in
set_option maxHeartbeats 4000000 in
theorem tall_err (n : Int) (A : Option Addr) (c : Nat) (es : List E3) (hn : es.length ≤ 10000) (w : World) (h : Reads w w.heap.size 3 A es.length (edgeCells es)) (hj : joinErr n es ≠ 0) :
    Calls Tryz.prog 29 #[.agg #[.int .i64 n, .slice A es.length c]] w fun e w' => ∃ Ar cr vs, e = .returned (.tuple #[.slice Ar (tallE n es).1.length cr, .int .i64 (tallE n es).2]) ∧ OwnRows w' w.heap.size Ar cr vs (tallE n es).1 ∧ Below w.heap.size w w' := by
  have HE : Hid (tallE n es = ([], joinErr n es)) := if_pos hj
  rw [HE.out]
  have GC := Lib.hid (fun (W : World) (hB : Below w.heap.size w W) => tgiven_any n A c es hn W ((h.below hB).more hB.size))
  obtain ⟨z, hzz⟩ : ∃ z, joinErr n es = z := ⟨_, rfl⟩
  rw [hzz] at GC hj ⊢
  have hb : (z != 0) = true := by simpa using hj
  have HZ := Lib.hid hj
  have g0 := Blk.new w 24 #[.int .i64 n, .slice A es.length c]
  obtain ⟨w0, hw0⟩ : ∃ w0, ((w.alloc (.cells #[.int .i64 n, .slice A es.length c] 24)).alloc (.cells #[.slice none 0 0] 50)).alloc (.cells #[.int .i64 0] 28) = w0 := ⟨_, rfl⟩
  have hB0 : Below w.heap.size w w0 := by rw [← hw0]; exact (((Below.refl _ _).alloc (Nat.le_refl _) _).alloc (by simp) _).alloc (by simp; omega) _
  have rg : Blk w0 w.heap.size 24 #[.int .i64 n, .slice A es.length c] := by rw [← hw0]; exact (g0.alloc _).alloc _
  have r1 : Blk w0 (w.heap.size + 1) 50 #[.slice none 0 0] := by rw [← hw0]; exact (Blk.newAt (by simp)).alloc _
  have r2 : Blk w0 (w.heap.size + 2) 28 #[.int .i64 0] := by rw [← hw0]; exact Blk.newAt (by simp)
  have c0 := rg.cell 0
  have c1 := rg.cell 1
  clear hj hzz HE g0
  refine (callsIn_wide (n := 3)).1 ?_
  refine callsIn_of_wp_marks Tryz.func29 rfl trivial ?_
  simp only [Tryz.ntmps29, List.size_toArray, List.length_cons, List.length_nil, Nat.reduceAdd, Nat.reduceSub, Array.replicate_succ, Array.replicate_zero, List.push_toArray, List.append_toArray, List.nil_append, List.cons_append]
  gi_wp2_with fail
  refine ⟨trivial, ?_⟩
  refine (inW (GC.out _ hB0)).mono ?_
  rintro e w1 ⟨Ar, lr, cr, rfl, _, hg2, hb1⟩
  obtain ⟨rfl, rfl⟩ := hg2 HZ.out
  have s1 := r1.next hb1
  have s2 := r2.next hb1
  have e4 := s1.cell 0
  have e5 := s2.cell 0
  have f4 := s1.frozen 0
  have f5 := s2.frozen 0
  have BB := Lib.hid (hB0.trans (hb1.mono hB0.size))
  clear hw0 hB0 hb1 c0 c1 rg r1 r2
  gi_wp2
  have g1 : Blk ((w1.setCell ⟨w.heap.size + 1, 0, none⟩ (.slice none 0 0)).setCell ⟨w.heap.size + 2, 0, none⟩ (.int .i64 z)) (w.heap.size + 1) 50 #[.slice none 0 0] := by
    have := (s1.set_ 0 (.slice none 0 0)).far (p := ⟨w.heap.size + 2, 0, none⟩) (by simp) (.int .i64 z)
    simpa using this
  have g2 : Blk ((w1.setCell ⟨w.heap.size + 1, 0, none⟩ (.slice none 0 0)).setCell ⟨w.heap.size + 2, 0, none⟩ (.int .i64 z)) (w.heap.size + 2) 28 #[.int .i64 z] := by
    have := (s2.far (p := ⟨w.heap.size + 1, 0, none⟩) (by simp) (.slice none 0 0)).set_ 0 (.int .i64 z)
    simpa using this
  have p2 := g1.cell 0
  have p3 := g2.cell 0
  refine end_none (v := .tuple #[.slice none 0 0, .int .i64 z]) (by simp [results, Tryz.results29, go_sem, p2, p3]) ⟨none, 0, [], rfl, OwnRows.nil_ _ _, (BB.out.setCell (by show w.heap.size ≤ w.heap.size + 1; omega) _).setCell (by show w.heap.size ≤ w.heap.size + 2; omega) _⟩

set_option maxRecDepth 100000 in
set_option maxHeartbeats 8000000 in
theorem tall_ok (n : Nat) (A : Option Addr) (c : Nat) (es : List E3) (hlen : es.length ≤ 10000) (hj : joinErr n es = 0) (xss : List (List Nat)) (hxs : treesT n (endsL es) = xss) (hxl : xss.length ≤ 16384) (w : World) (h : Reads w w.heap.size 3 A es.length (edgeCells es)) :
    Calls Tryz.prog 29 #[.agg #[.int .i64 n, .slice A es.length c]] w fun e w' => ∃ Ar cr vs, e = .returned (.tuple #[.slice Ar xss.length cr, .int .i64 0]) ∧ OwnRows w' w.heap.size Ar cr vs (xss.map nI) ∧ Below w.heap.size w w' := by
  obtain ⟨hz, hG, _⟩ := join_zero hj
  have hn12 : n ≤ 12 := by have := hG.hi; omega
  have hn1 : 1 ≤ n := by have := hG.lo; omega
  have HX := Lib.hid hxs
  have HBD := Lib.hid (bd_ends hG)
  have HEL : Hid ((endsL es).length ≤ 1000000) := by have := endsL_length hG.ok; unfold Hid; omega
  have GC := Lib.hid (fun (W : World) (hB : Below w.heap.size w W) => tgiven_any n A c es hlen W ((h.below hB).more hB.size))
  rw [hj] at GC
  obtain ⟨E, hE⟩ : ∃ E, endsL es = E := ⟨_, rfl⟩
  rw [hE] at HX HBD HEL GC
  clear hxs hz hG hj hE h
  have g0 := Blk.new w 24 #[.int .i64 n, .slice A es.length c]
  obtain ⟨w0, hw0⟩ : ∃ w0, ((w.alloc (.cells #[.int .i64 n, .slice A es.length c] 24)).alloc (.cells #[.slice none 0 0] 50)).alloc (.cells #[.int .i64 0] 28) = w0 := ⟨_, rfl⟩
  have hs0 : w0.heap.size = w.heap.size + 3 := by rw [← hw0]; simp
  have hB0 : Below w.heap.size w w0 := by rw [← hw0]; exact (((Below.refl _ _).alloc (Nat.le_refl _) _).alloc (by simp) _).alloc (by simp; omega) _
  have rg : Blk w0 w.heap.size 24 #[.int .i64 n, .slice A es.length c] := by rw [← hw0]; exact (g0.alloc _).alloc _
  have r1 : Blk w0 (w.heap.size + 1) 50 #[.slice none 0 0] := by rw [← hw0]; exact (Blk.newAt (by simp)).alloc _
  have r2 : Blk w0 (w.heap.size + 2) 28 #[.int .i64 0] := by rw [← hw0]; exact Blk.newAt (by simp)
  have c0 := rg.cell 0
  have c1 := rg.cell 1
  refine (callsIn_wide (n := 3)).1 ?_
  refine callsIn_of_wp_marks Tryz.func29 rfl trivial ?_
  simp only [Tryz.ntmps29, List.size_toArray, List.length_cons, List.length_nil, Nat.reduceAdd, Nat.reduceSub, Array.replicate_succ, Array.replicate_zero, List.push_toArray, List.append_toArray, List.nil_append, List.cons_append]
  gi_wp2_with fail
  refine ⟨trivial, ?_⟩
  refine (inW (GC.out _ hB0)).mono ?_
  rintro e w1 ⟨Aq, lq, cq, rfl, hg1, _, hb1⟩
  obtain ⟨rfl, HQ⟩ := hg1 rfl
  have HQ := Lib.hid HQ
  have hs1 := hb1.size
  have g1 := rg.next hb1
  have hB1 : Below w.heap.size w w1 := hB0.trans (hb1.mono hB0.size)
  have r1' := r1.next hb1
  have r2' := r2.next hb1
  have q0' := Blk.new w1 50 #[.slice none 0 0]
  have c0' := (g1.alloc (.cells #[.slice none 0 0] 50)).cell 0
  obtain ⟨p, hp⟩ : ∃ p, w1.heap.size = p := ⟨_, rfl⟩
  have HPP := Lib.hid hp
  clear hw0 rg r1 r2 hb1 g0 hB0 GC c0 c1
  gi_wp2_with fail
  refine ⟨trivial, ?_⟩
  refine (inW (ftrees_any n Aq E.length cq _)).mono ?_
  rintro e wF ⟨rfl, hwF⟩
  have hgn4 : (w1.alloc (.cells #[.slice none 0 0] 50)).heap.size = p + 1 := by simp [hp]
  have hsF : wF.heap.size = p + 3 := by rw [← hwF]; simp [hp]
  have hB12 : Below w1.heap.size w1 wF := by rw [← hwF]; exact (((Below.refl _ _).alloc (Nat.le_refl _) _).alloc (by simp) _).alloc (by simp; omega) _
  have q0 : Blk wF p 50 #[.slice none 0 0] := by rw [← hwF, ← hp]; exact (q0'.alloc _).alloc _
  have hpz : w.heap.size + 3 ≤ p := by omega
  have hB2 : Below w.heap.size w wF := hB1.trans (hB12.mono hB1.size)
  have s1 := r1'.next hB12
  have s2 := r2'.next hB12
  have HQF : Hid (OwnQ wF w0.heap.size Aq cq E) := own_kept2 HQ.out fun j hj => hB12.block j (World.ownsRow.lt HQ.out j (blockOf_own.2 hj)).2
  have bN : Blk wF (p + 1) 3 #[.int .i64 n] := by rw [← hwF]; exact (Blk.newAt hgn4.symm).alloc _
  have bE : Blk wF (p + 2) 65 #[.slice Aq E.length cq] := by rw [← hwF]; exact Blk.newAt (by simp [hp])
  have HKA : Hid (∀ k, blockOf Aq k → k < p) := fun k hk => by have := (World.ownsRow.lt HQ.out k (blockOf_own.2 hk)).2; omega
  rw [hgn4, show p + 1 + 1 = p + 2 from rfl]
  try rw [hp]
  have HIT := Lib.hid (trees_iter n hn1 hn12 E HBD.out HEL.out Aq cq (p + 1) (p + 2) (OwnQ.cap_ HQF.out) wF bN bE (OwnQ.reads HQF.out) (fun k hk => by have := HKA.out k hk; omega))
  rw [HX.out] at HIT
  clear hwF r1' r2' hB12 hB1 hs0 hs1 g1 q0' c0' bN bE HQ HQF
  gi_wp2_with fail
  refine range_outer (n := 3) (gf := 107) (lb := #[.pointer (some ⟨p + 1, 0, none⟩), .pointer (some ⟨p + 2, 0, none⟩)]) rfl (enters_of Tryz.func107 (by kernel_rfl) rfl)
    (K := KT (p + 1) (p + 2) Aq) (xs := xss) HIT.out ?hK (fun k => k = p) ?hC
    (fun pre C W => ∃ A c vs, Blk W p 50 #[.slice A pre.length c] ∧ OwnRows W w.heap.size A c vs (pre.map nI) ∧ C p ∧ (∀ k, rowBlock A vs k → C k) ∧ Below w.heap.size w W ∧
      Blk W (w.heap.size + 1) 50 #[.slice none 0 0] ∧ Blk W (w.heap.size + 2) 28 #[.int .i64 0] ∧ (∀ k, C k → k = p ∨ p + 3 ≤ k))
    (fun _ _ _ _ => False) ?hI (fun _ _ _ _ _ h _ => h) ?h0 ?hps ?round ?done (fun _ _ _ _ _ h => h.elim)
  case hK =>
    rintro k (rfl | rfl | h1)
    · omega
    · omega
    · have := HKA.out k h1; omega
  case hC =>
    rintro k rfl
    refine ⟨by omega, ?_⟩
    rintro (e | e | h1)
    · omega
    · omega
    · have := HKA.out _ h1; omega
  case hI =>
    rintro pre C a b ⟨A, c, vs, i1, i2, i3, i4, i5, i6, i7, i8⟩ hst
    refine ⟨A, c, vs, i1.stays hst (.inl i3), i2.kept fun k hk => hst.block k (i2.lt hk).2 (.inl (i4 k hk)), i3, i4, i5.trans (hst.below (fun k hk => .inr ⟨by omega, id⟩) i5.size), i6.stays hst (.inr ⟨by omega, id⟩), i7.stays hst (.inr ⟨by omega, id⟩), i8⟩
  case h0 => exact ⟨none, 0, [], q0, OwnRows.nil_ _ _, rfl, (by rintro k (⟨a, h, _⟩ | ⟨v, h, _⟩) <;> cases h), hB2, s1, s2, fun k hk => .inl hk⟩
  case hps => rintro x' args O W' ⟨A', c', rfl, _⟩; rfl
  case round =>
    intro l pre x args C O W hpre hI hl hC hO harg hlW hnC hnO T hT
    obtain ⟨A, c, vs, i1, i2, i3, i4, i5, i6, i7, i8⟩ := hI
    obtain ⟨A8, c8, rfl, hown8, hO8⟩ := harg
    have hown8' : OwnI W w.heap.size A8 c8 (nI x) := own_rebase hown8 fun k hk => by have := (hO k (hO8 k hk)).2.2; omega
    have hpl : pre.length < 16384 := by
      obtain ⟨z, hz⟩ := hpre
      have := congrArg List.length hz
      simp at this
      omega
    have hpe : ((pre.length : Int) == 16384) = false := by simp; omega
    have hpm : (pre.map nI).length = pre.length := by simp
    have HPM := Lib.hid hpm
    clear hown8 hpm
    gi_wp2
    refine hT _ _ (Only.refl _ _) ?_
    intro w5 h5 _
    have hl5 : ∀ k, C k → k ≠ l := fun k hk e => hnC (e ▸ hk)
    have j1 : Blk w5 p 50 #[.slice A pre.length c] := i1.only h5 (by omega)
    have j2 : OwnRows w5 w.heap.size A c vs (pre.map nI) := i2.kept fun k hk => h5.block k (i2.lt hk).2 (hl5 k (i4 k hk))
    have j5 : Below w.heap.size w w5 := i5.trans (h5.below (fun k hk e => by omega) i5.size)
    have j6 := i6.only h5 (by omega)
    have j7 := i7.only h5 (by omega)
    have j8 : OwnI w5 w.heap.size A8 c8 (nI x) := own_kept hown8' fun k hk => h5.block k (own_lt hown8' hk).2 fun e => hnO (e ▸ hO8 k hk)
    have e1 := j1.cell 0
    have hC5 : ∀ k, C k → k < w5.heap.size := fun k hk => Nat.lt_of_lt_of_le (hC k hk) h5.size
    have hO5 : ∀ k, O k → p + 3 ≤ k ∧ k < w5.heap.size := fun k hk => ⟨by have := (hO k hk).2.2; omega, Nat.lt_of_lt_of_le (hO k hk).2.1 h5.size⟩
    have j21 : w5.ownsRow w.heap.size 25 1 (.slice A pre.length c) pre.length vs := by have := j2.1; rw [HPM.out] at this; exact this
    have hxl8 : (nI x).length = x.length := nI_length x
    have HXL := Lib.hid hxl8
    clear i1 i2 i5 i6 i7 hown8' hC hO hxl8
    gi_wp2_with (gi_at_builtin; refine append_gi rfl (.tmp 24) (.tmp 26) _ rfl w.heap.size 25 Tryz.underlying50 info_row rfl (by omega) A c pre.length vs rfl (World.ownsRow.alloc j21 _) _ [.slice A8 x.length c8] rfl (Reads.box _ _ _) (by simp [Value.oneCell']) (by omega) (by have := j5.size; simp; omega) ?_; intro A6 c6 w6 hown6 hg6 hb6 hw6; have k1 := (j1.alloc (.cells #[.slice A8 x.length c8] 25)).grown hg6 (own_blk_ne j21 j1 (by decide)); have e2 := k1.cell 0; have f2 := k1.frozen 0)
    have k2 : OwnRows w6 w.heap.size A6 c6 (vs ++ [.slice A8 x.length c8]) (pre.map nI ++ [nI x]) := by
      have := OwnRows.push (w := w5.alloc (.cells #[.slice A8 x.length c8] 25)) (w' := w6) (A' := A6) (c' := c6) (j2.kept fun k hk => Below.heap_alloc _ _ _ (j2.lt hk).2) (OwnI.alloc j8 _) (by rw [HXL.out, HPM.out]; exact hown6) (by rw [HPM.out]; exact hg6)
      rw [HXL.out] at this
      exact this
    have k3 : Only (fun k => C k ∨ O k) w5 w6 := ((Only.refl _ w5).alloc _).grown hg6 fun k hk => .inl (.inl (i4 k (.inl (blockOf_own.1 hk))))
    refine ⟨fun k => C k ∨ O k ∨ (w5.heap.size ≤ k ∧ k < w6.heap.size), k3.setCell (.inl (.inl i3)) _, fun k hk => ?_, A6, c6, vs ++ [.slice A8 x.length c8], ?_, ?_, .inl i3, ?_, ?_, ?_, ?_, ?_⟩
    · simpa [World.setCell] using hk
    · have := k1.set_ 0 (.slice A6 (pre.length + 1) c6)
      simpa using this
    · rw [List.map_append, List.map_singleton]; exact k2.set_blk k1 (by decide) (by decide) _ _
    · rintro k (hk | ⟨v, hv, hk⟩)
      · rcases hw6 with e | e
        · rw [blockOf_own.2 hk] at e
          exact .inl (i4 k (.inl (blockOf_own.1 e.symm)))
        · rw [blockOf_own.2 hk] at e
          injection e with e
          have hlt := (own_lt hown6 hk).2
          exact .inr (.inr ⟨by rw [e]; simp, hlt⟩)
      · rcases List.mem_append.1 hv with hv | hv
        · exact .inl (i4 k (.inr ⟨v, hv, hk⟩))
        · rw [List.mem_singleton.1 hv] at hk
          exact .inr (.inl (hO8 k (blockOf_own.1 hk)))
    · exact (j5.trans (k3.below (fun k hk e => by
        rcases e with e | e
        · have := i8 k e; omega
        · have := (hO5 k e).1; omega) j5.size)).setCell (by show w.heap.size ≤ p; omega) _
    · exact (j6.only k3 (fun e => by
        rcases e with e | e
        · have := i8 _ e; omega
        · have := (hO5 _ e).1; omega)).far (by show w.heap.size + 1 ≠ p; omega) _
    · exact (j7.only k3 (fun e => by
        rcases e with e | e
        · have := i8 _ e; omega
        · have := (hO5 _ e).1; omega)).far (by show w.heap.size + 2 ≠ p; omega) _
    · rintro k (hk | hk | hk)
      · exact i8 k hk
      · exact .inr (hO5 k hk).1
      · exact .inr (by have := h5.size; omega)
  case done =>
    rintro C W ⟨A, c, vs, i1, i2, i3, i4, i5, i6, i7, i8⟩ hnD hD
    have e1 := i1.cell 0
    have e4 := i6.cell 0
    have e5 := i7.cell 0
    have f4 := i6.frozen 0
    have f5 := i7.frozen 0
    gi_wp2
    have g1 : Blk ((W.setCell ⟨w.heap.size + 1, 0, none⟩ (.slice A xss.length c)).setCell ⟨w.heap.size + 2, 0, none⟩ (.int .i64 0)) (w.heap.size + 1) 50 #[.slice A xss.length c] := by
      have := (i6.set_ 0 (.slice A xss.length c)).far (p := ⟨w.heap.size + 2, 0, none⟩) (by simp) (.int .i64 0)
      simpa using this
    have g2 : Blk ((W.setCell ⟨w.heap.size + 1, 0, none⟩ (.slice A xss.length c)).setCell ⟨w.heap.size + 2, 0, none⟩ (.int .i64 0)) (w.heap.size + 2) 28 #[.int .i64 0] := by
      have := (i7.far (p := ⟨w.heap.size + 1, 0, none⟩) (by simp) (.slice A xss.length c)).set_ 0 (.int .i64 0)
      simpa using this
    have g3a : OwnRows (W.setCell ⟨w.heap.size + 1, 0, none⟩ (.slice A xss.length c)) w.heap.size A c vs (xss.map nI) := i2.kept fun k hk => Below.heap_setCell _ _ _ _ (fun e => by have := i8 k (i4 k hk); simp at e; omega)
    have g3 : OwnRows ((W.setCell ⟨w.heap.size + 1, 0, none⟩ (.slice A xss.length c)).setCell ⟨w.heap.size + 2, 0, none⟩ (.int .i64 0)) w.heap.size A c vs (xss.map nI) := g3a.kept fun k hk => Below.heap_setCell _ _ _ _ (fun e => by have := i8 k (i4 k hk); simp at e; omega)
    have g4 : Below w.heap.size w ((W.setCell ⟨w.heap.size + 1, 0, none⟩ (.slice A xss.length c)).setCell ⟨w.heap.size + 2, 0, none⟩ (.int .i64 0)) := (i5.setCell (by simp) _).setCell (by simp) _
    have g5 : ((W.setCell ⟨w.heap.size + 1, 0, none⟩ (.slice A xss.length c)).setCell ⟨w.heap.size + 2, 0, none⟩ (.int .i64 0)).heap[wF.heap.size]? = some (.deferred (some [])) :=
      (Below.heap_setCell _ _ _ _ (by simp; omega)).trans ((Below.heap_setCell _ _ _ _ (by simp; omega)).trans hD)
    have g6 : ∀ k, rowBlock A vs k → k ≠ wF.heap.size := fun k hk e => hnD (e ▸ i4 k hk)
    obtain ⟨Wf, hWf⟩ : ∃ Wf, (W.setCell ⟨w.heap.size + 1, 0, none⟩ (.slice A xss.length c)).setCell ⟨w.heap.size + 2, 0, none⟩ (.int .i64 0) = Wf := ⟨_, rfl⟩
    rw [hWf] at g1 g2 g3 g4 g5
    have p1 := Only.put_one Wf wF.heap.size (.deferred none)
    have p2 := (g1.only p1 (by omega)).cell 0
    have p3 := (g2.only p1 (by omega)).cell 0
    rw [show w.heap.size + 1 + 1 = w.heap.size + 2 from rfl, hWf]
    refine end_mark (v := .tuple #[.slice A xss.length c, .int .i64 0]) g5 (by simp [results, Tryz.results29, go_sem, p2, p3]) ⟨A, c, vs, rfl, g3.kept fun k hk => p1.block k (g3.lt hk).2 (g6 k hk), g4.trans (p1.below (fun k hk e => by omega) g4.size)⟩
end Go.Proofs.YtplgbapbgcipdaaGreatDoor

