/-
  Texts of this claim, put together: RecF, Pairs, TreeX.
-/
import Derived.Test.YtghigdcpinengaaGreatK25
import Derived.Test.YtghigdcpinengaaGreatK30
import Derived.Test.YtghigdcpinengaaGreatK36
import Derived.Test.YtghigdcpinengaaGreatK38
import Derived.Test.YtghigdcpinengaaGreatK13
/-! treebijection.Recurrent; superstable.All with its errors. -/
namespace Go.Proofs.YtghigdcpinengaaGreat
open Go.RowKit

def recFE (n : Int) (es : List E3) (q : Int) (xs : List Int) : List Int × Int := if grownErr n es q xs = 0 then (dulL n.toNat es (confN (endsL es) n.toNat q.toNat (xs.map Int.toNat)) q.toNat, 0) else ([], grownErr n es q xs)

set_option maxRecDepth 100000 in
set_option maxHeartbeats 4000000 in
theorem recur30_any (n q : Int) (A : Option Addr) (c : Nat) (es : List E3) (hlen : es.length ≤ 10000) (hm0 : checkG n es = 0 → (endsL es).length ≤ 60) (B : Option Addr) (d : Nat) (xs : List Int) (hl : xs.length ≤ 1048576) (w : World) (h : Reads w w.heap.size 3 A es.length (edgeCells es)) (h' : Reads w w.heap.size 1 B xs.length (ints xs)) :
    Calls Tryz.prog 22 #[.agg #[.int .i64 n, .slice A es.length c], .int .i64 q, .slice B xs.length d] w fun e w' => ∃ A' c', e = .returned (.tuple #[.slice A' (recFE n es q xs).1.length c', .int .i64 (recFE n es q xs).2]) ∧ OwnI w' w.heap.size A' c' (recFE n es q xs).1 ∧ Below w.heap.size w w' := by
  have g0 := Blk.new w 24 #[.int .i64 n, .slice A es.length c]
  have hB0 : Below w.heap.size w (w.alloc (.cells #[.int .i64 n, .slice A es.length c] 24)) := (Below.refl _ _).alloc (Nat.le_refl _) _
  have c0 := g0.cell 0
  have c1 := g0.cell 1
  have CO := Lib.hid (fun (W : World) (hB : Below w.heap.size w W) => config30_any n q A c es hlen hm0 B d xs hl W ((h.below hB).more hB.size) ((h'.below hB).more hB.size))
  by_cases hz : grownErr n es q xs = 0
  · have hCE : confFE n es q xs = (confN (endsL es) n.toNat q.toNat (xs.map Int.toNat), 0) := by unfold confFE; rw [if_pos hz]
    rw [hCE] at CO
    have hE : recFE n es q xs = (dulL n.toNat es (confN (endsL es) n.toNat q.toNat (xs.map Int.toNat)) q.toNat, 0) := by unfold recFE; rw [if_pos hz]
    rw [hE]
    dsimp only at CO ⊢
    obtain ⟨m, p, t, rfl, rfl, rfl, hp, hm12, hR, hte⟩ := grown_nat hz
    rw [nI_toNat] at CO ⊢
    simp only [Int.toNat_natCast] at CO ⊢
    have hm := hm0 (join_zero (tree_join hte)).1
    obtain ⟨hcz, hst⟩ := conf_cfg (tree_join hte) hR hp (by omega)
    have hb := (cfg_zero hcz).1
    have hcl : (confN (endsL es) m p t).length = m := (conf_facts hR.hT.bd hp t).1
    obtain ⟨C, hC⟩ : ∃ C, confN (endsL es) m p t = C := ⟨_, rfl⟩
    rw [hC] at CO hb hst hcl ⊢
    have DU := Lib.hid (fun (B : Option Addr) (d : Nat) (W : World) (hB : Below w.heap.size w W) (h2 : Reads W W.heap.size 1 B C.length (ints C)) => sdual_ok m A c es hlen p B d C hb hst W ((h.below hB).more hB.size) h2)
    rw [dulL_length]
    clear hE hCE hz h h' hm hR hte hl hcz hb hst hC hcl
    go_enter Tryz.func22, Tryz.ntmps22
    go_wp2_with fail
    refine (CO.out _ hB0).mono ?_
    rintro e w1 ⟨A1, c1', rfl, o1, hb1⟩
    have hB1 := hB0.trans (hb1.mono hB0.size)
    have g1 := g0.next hb1
    have k0 := g1.cell 0
    have k1 := g1.cell 1
    clear c0 c1
    go_wp2_with fail
    refine (DU.out _ _ _ hB1 o1.reads).mono ?_
    rintro e w2 ⟨A2, c2, rfl, o2, hb2⟩
    have hB2 := hB1.trans (hb2.mono hB1.size)
    have o2 := o2.mono hB1.size
    go_wp2
    go_ret2
    exact ⟨_, _, rfl, o2, hB2⟩
  · have hCE : confFE n es q xs = ([], grownErr n es q xs) := by unfold confFE; rw [if_neg hz]
    have hE : recFE n es q xs = ([], grownErr n es q xs) := by unfold recFE; rw [if_neg hz]
    rw [hCE] at CO
    rw [hE]
    dsimp only at CO ⊢
    obtain ⟨z, hzz⟩ : ∃ z, grownErr n es q xs = z := ⟨_, rfl⟩
    rw [hzz] at CO hz ⊢
    have hzb : (z != 0) = true := by simpa using hz
    clear hE hCE hzz hz h h' hm0
    go_enter Tryz.func22, Tryz.ntmps22
    go_wp2_with fail
    refine (CO.out _ hB0).mono ?_
    rintro e w1 ⟨A1, c1', rfl, o1, hb1⟩
    have hB1 := hB0.trans (hb1.mono hB0.size)
    go_wp2
    go_ret2
    exact ⟨_, _, rfl, OwnI.nil_ _ _, hB1⟩

/-- What superstable.All returns. -/
def allSE (n : Int) (es : List E3) (q : Int) : List (List Int) × Int := if rootErr n es q = 0 then (supL n.toNat es q.toNat, 0) else ([], rootErr n es q)
theorem root_natF {n : Int} {es : List E3} {q : Int} (h : rootErr n es q = 0) : ∃ m p : Nat, n = m ∧ q = p ∧ p < m ∧ RightG m es ∧ AllConn m es ∧ checkG n es = 0 ∧ joinErr n es = 0 := by
  rcases root_cases n es q with ⟨a, b⟩ | ⟨_, _, b⟩ | ⟨_, _, _, b⟩ | ⟨a, b, c, _⟩
  · exact absurd (b ▸ h) a
  · rw [h] at b; cases b
  · rw [h] at b; cases b
  · have hG := right_of a
    have hlo := hG.lo
    unfold vertB at c
    simp at c
    obtain ⟨m, rfl⟩ := Int.eq_ofNat_of_zero_le (show 0 ≤ n by omega)
    obtain ⟨p, rfl⟩ := Int.eq_ofNat_of_zero_le (show 0 ≤ q by omega)
    refine ⟨m, p, rfl, rfl, by omega, hG, (connB_iff hG).1 (by simpa using b), a, ?_⟩
    unfold joinErr
    rw [if_neg (fun h => h a)]
    rw [Int.toNat_natCast] at b ⊢
    rw [b]; rfl
set_option maxRecDepth 100000 in
set_option maxHeartbeats 4000000 in
theorem sall_any (n q : Int) (A : Option Addr) (cA : Nat) (es : List E3) (hlen : es.length ≤ 10000) (hxl : (allSE n es q).1.length ≤ 16384) (w : World) (h : Reads w w.heap.size 3 A es.length (edgeCells es)) :
    Calls Tryz.prog 45 #[.agg #[.int .i64 n, .slice A es.length cA], .int .i64 q] w fun e w' => ∃ Ar cr, e = .returned (.tuple #[.slice Ar (allSE n es q).1.length cr, .int .i64 (allSE n es q).2]) ∧ RowsR w' w'.heap.size Ar (allSE n es q).1 ∧ Below w.heap.size w w' := by
  by_cases hx : rootErr n es q = 0
  · obtain ⟨m, p, rfl, rfl, _⟩ := root_natF hx
    have hE : allSE m es p = (supL m es p, 0) := by unfold allSE; rw [if_pos hx]; rfl
    rw [hE] at hxl ⊢
    refine (sall_ok m A cA es hlen p hx _ rfl hxl w h).mono ?_
    rintro e w' ⟨Ar, cr, vs, rfl, o, hb⟩
    exact ⟨Ar, cr, rfl, o.reads, hb⟩
  · obtain ⟨z, hz⟩ : ∃ z, rootErr n es q = z := ⟨_, rfl⟩
    have hE : allSE n es q = ([], z) := by unfold allSE; rw [if_neg hx, hz]
    rw [hE]
    have hz0 : (z == 0) = false := by rw [← hz]; simpa using hx
    have hz1 : (z != 0) = true := by rw [← hz]; simpa using hx
    have MB := Lib.hid (sfirst_bad n A cA es hlen q z hz hz0)
    clear hxl hE hx hz
    have g0 := Blk.new w 24 #[.int .i64 n, .slice A es.length cA]
    refine (callsIn_wide (n := 3)).1 ?_
    refine callsIn_of_wp_marks Tryz.func45 rfl trivial ?_
    simp only [Tryz.ntmps45, List.size_toArray, List.length_cons, List.length_nil, Nat.reduceAdd, Nat.reduceSub, Array.replicate_succ, Array.replicate_zero, List.push_toArray, List.append_toArray, List.nil_append, List.cons_append]
    gi_wp2_with fail
    obtain ⟨w0, hw0⟩ : ∃ w0, ((w.alloc (.cells #[.int .i64 n, .slice A es.length cA] 24)).alloc (.cells #[.slice none 0 0] 74)).alloc (.cells #[.int .i64 0] 29) = w0 := ⟨_, rfl⟩
    have hs0 : w0.heap.size = w.heap.size + 3 := by rw [← hw0]; simp
    have hB0 : Below w.heap.size w w0 := by rw [← hw0]; exact (((Below.refl _ _).alloc (Nat.le_refl _) _).alloc (by simp) _).alloc (by simp; omega) _
    have r1 : Blk w0 (w.heap.size + 1) 74 #[.slice none 0 0] := by rw [← hw0]; exact (Blk.new_at (by simp)).alloc _
    have r2 : Blk w0 (w.heap.size + 2) 29 #[.int .i64 0] := by rw [← hw0]; exact Blk.new_at (by simp)
    rw [hw0]
    refine ⟨trivial, ?_⟩
    refine (inW (MB.out _ ((h.below hB0).more hB0.size))).mono ?_
    rintro e w1 ⟨rfl, hb1⟩
    have hB1 : Below w.heap.size w w1 := hB0.trans (hb1.mono hB0.size)
    have i6 := r1.next hb1
    have i7 := r2.next hb1
    have e4 := i6.cell 0
    have e5 := i7.cell 0
    have f4 := i6.frozen 0
    have f5 := i7.frozen 0
    clear hw0 r1 r2 hb1 g0 hB0
    gi_wp2
    have g1 : Blk ((w1.setCell ⟨w.heap.size + 1, 0, none⟩ (.slice none 0 0)).setCell ⟨w.heap.size + 2, 0, none⟩ (.int .i64 z)) (w.heap.size + 1) 74 #[.slice none 0 0] := by
      have := (i6.set_ 0 (.slice none 0 0)).far (p := ⟨w.heap.size + 2, 0, none⟩) (by simp) (.int .i64 z)
      simpa using this
    have g2 : Blk ((w1.setCell ⟨w.heap.size + 1, 0, none⟩ (.slice none 0 0)).setCell ⟨w.heap.size + 2, 0, none⟩ (.int .i64 z)) (w.heap.size + 2) 29 #[.int .i64 z] := by
      have := (i7.far (p := ⟨w.heap.size + 1, 0, none⟩) (by simp) (.slice none 0 0)).set_ 0 (.int .i64 z)
      simpa using this
    have g4 : Below w.heap.size w ((w1.setCell ⟨w.heap.size + 1, 0, none⟩ (.slice none 0 0)).setCell ⟨w.heap.size + 2, 0, none⟩ (.int .i64 z)) := (hB1.setCell (by simp) _).setCell (by simp) _
    obtain ⟨Wf, hWf⟩ : ∃ Wf, (w1.setCell ⟨w.heap.size + 1, 0, none⟩ (.slice none 0 0)).setCell ⟨w.heap.size + 2, 0, none⟩ (.int .i64 z) = Wf := ⟨_, rfl⟩
    rw [hWf] at g1 g2 g4
    have p2 := g1.cell 0
    have p3 := g2.cell 0
    rw [show w.heap.size + 1 + 1 = w.heap.size + 2 from rfl, hWf]
    exact end_none (v := .tuple #[.slice none 0 0, .int .i64 z]) (by simp [results, Tryz.results45, go_sem, p2, p3]) ⟨none, 0, rfl, RowsR.nil_ _ _, g4⟩

end Go.Proofs.YtghigdcpinengaaGreat

/-! Slices of pairs of two lists of ints: as the call's own, and as they read. -/
namespace Go.Proofs.YtghigdcpinengaaGreat
open Go.RowKit

theorem own_typeG {w : World} {base n size k : Nat} {e : TypeId} {v : Value} {xs : List Value} (h : w.ownsRow base e size v n xs) (hk : v.ownBlock = some k) : ∃ cs, Blk w k e cs := by
  rcases h.2 with ⟨rfl, _⟩ | ⟨g, cap, cur, rfl, _, hh, _⟩
  · simp [Value.ownBlock] at hk
  · have : g = k := by simpa [Value.ownBlock] using hk
    subst this
    exact ⟨_, hh⟩
/-- A slice of pairs that reads as the lists. -/
def PrsR (w : World) (B : Nat) (A : Option Addr) (ps : List (List Int × List Int)) : Prop :=
  ∃ vs, Reads w B 2 A ps.length vs ∧ ∀ (i : Nat) (p : List Int × List Int), ps[i]? = some p → ∃ A1 c1 A2 c2, vs[2 * i]? = some (.slice A1 p.1.length c1) ∧ vs[2 * i + 1]? = some (.slice A2 p.2.length c2) ∧ Reads w B 1 A1 p.1.length (ints p.1) ∧ Reads w B 1 A2 p.2.length (ints p.2)
/-- .. of the call's own. -/
structure PrsW (T : TypeId) (w : World) (base : Nat) (A : Option Addr) (c : Nat) (vs : List Value) (ps : List (List Int × List Int)) : Prop where
  own : w.ownsRow base T 2 (.slice A ps.length c) ps.length vs
  one : ∀ u ∈ vs, u.oneCell' = true
  rows : ∀ (i : Nat) (p : List Int × List Int), ps[i]? = some p → ∃ A1 c1 A2 c2, vs[2 * i]? = some (.slice A1 p.1.length c1) ∧ vs[2 * i + 1]? = some (.slice A2 p.2.length c2) ∧ Reads w base 1 A1 p.1.length (ints p.1) ∧ OwnI w base A2 c2 p.2
section
variable {T : TypeId} {w w' : World} {base B : Nat} {A A' A1 A2 : Option Addr} {c c' c1 c2 : Nat} {vs : List Value} {ps : List (List Int × List Int)} {x y : List Int}
theorem PrsR.below (h : PrsR w B A ps) (hb : Below B w w') : PrsR w' B A ps := by
  obtain ⟨vs, hr, hi⟩ := h
  refine ⟨vs, hr.below hb, fun i p hp => ?_⟩
  obtain ⟨A1, c1, A2, c2, h1, h2, h3, h4⟩ := hi i p hp
  exact ⟨A1, c1, A2, c2, h1, h2, h3.below hb, h4.below hb⟩
theorem PrsR.more {B' : Nat} (h : PrsR w B A ps) (hB : B ≤ B') : PrsR w B' A ps := by
  obtain ⟨vs, hr, hi⟩ := h
  refine ⟨vs, hr.more hB, fun i p hp => ?_⟩
  obtain ⟨A1, c1, A2, c2, h1, h2, h3, h4⟩ := hi i p hp
  exact ⟨A1, c1, A2, c2, h1, h2, h3.more hB, h4.more hB⟩
theorem PrsR.next (h : PrsR w w.heap.size A ps) (hb : Below w.heap.size w w') : PrsR w' w'.heap.size A ps := (h.below hb).more hb.size
theorem PrsR.nil_ (w : World) (B : Nat) : PrsR w B none [] := ⟨[], Reads.nil_, fun i p h => by cases h⟩
theorem PrsR.at_ (h : PrsR w B A ps) {k : Nat} {p : List Int × List Int} (hp : ps[k]? = some p) :
    ∃ b off A1 c1 A2 c2, A = some ⟨b, off, none⟩ ∧ b < B ∧ w.cell? ⟨b, off + k * 2, none⟩ = some (.slice A1 p.1.length c1) ∧ w.cell? ⟨b, off + k * 2 + 1, none⟩ = some (.slice A2 p.2.length c2) ∧ Reads w B 1 A1 p.1.length (ints p.1) ∧ Reads w B 1 A2 p.2.length (ints p.2) := by
  obtain ⟨vs, hr, hi⟩ := h
  obtain ⟨A1, c1, A2, c2, h1, h2, h3, h4⟩ := hi k p hp
  have hk : k < ps.length := (List.getElem?_eq_some_iff.1 hp).1
  obtain ⟨b, off, hA, hb, hc⟩ := hr.2 (by omega)
  refine ⟨b, off, A1, c1, A2, c2, hA, hb, ?_, ?_, h3, h4⟩
  · have := hc _ _ h1; rwa [Nat.mul_comm] at this
  · have := hc _ _ h2; rwa [show off + (2 * k + 1) = off + k * 2 + 1 from by omega] at this
theorem PrsW.nil_ (T : TypeId) (w : World) (base : Nat) : PrsW T w base none 0 [] [] := ⟨World.ownsRow_nil _ _ _ _, by simp, by simp⟩
theorem PrsW.len (h : PrsW T w base A c vs ps) : vs.length = ps.length * 2 := h.own.1
theorem PrsW.next (h : PrsW T w base A c vs ps) (hs : base ≤ w.heap.size) (hb : Below w.heap.size w w') : PrsW T w' base A c vs ps := by
  refine ⟨?_, h.one, fun i p hp => ?_⟩
  · obtain ⟨h1, h2⟩ := h.own
    refine ⟨h1, ?_⟩
    rcases h2 with h2 | ⟨g, cap, cur, hv, hg, hh, r⟩
    · exact .inl h2
    · exact .inr ⟨g, cap, cur, hv, hg, (hb.block g (World.ownsRow.lt h.own g (by rw [hv]; rfl)).2).trans hh, r⟩
  · obtain ⟨A1, c1, A2, c2, h1, h2, h3, h4⟩ := h.rows i p hp
    exact ⟨A1, c1, A2, c2, h1, h2, h3.below (hb.mono hs), h4.next hb⟩
theorem PrsW.drewN (h : PrsW T w base A c vs ps) (k : Nat) : PrsW T (w.drewN k) base A c vs ps := ⟨h.own, h.one, h.rows⟩
/-- One pair more. -/
theorem PrsW.push (hT : 3 ≠ T) (h : PrsW T w base A c vs ps) (h1 : Reads w base 1 A1 x.length (ints x)) (h2 : OwnI w base A2 c2 y) {o : Obj}
    (hown : w'.ownsRow base T 2 (.slice A' (ps.length + 1) c') (ps.length + 1) (vs ++ [.slice A1 x.length c1, .slice A2 y.length c2])) (hg : (w.alloc o).grownBy w' (Value.slice A ps.length c).ownBlock) (hb : Below base w w') :
    PrsW T w' base A' c' (vs ++ [.slice A1 x.length c1, .slice A2 y.length c2]) (ps ++ [(x, y)]) := by
  have keep : ∀ {A1 : Option Addr} {c1 : Nat} {z : List Int}, OwnI w base A1 c1 z → OwnI w' base A1 c1 z := fun {A1 c1 z} ho => own_kept ho fun k hk => by
    have hlt := (own_lt ho hk).2
    refine (hg.block k (by simp; omega) fun e => ?_).trans (Below.heap_alloc w o k hlt)
    obtain ⟨cs, hcs⟩ := own_typeG h.own e.symm
    exact own_blk ho hcs hT hk rfl
  refine ⟨by rw [List.length_append]; exact hown, ?_, fun i p hi => ?_⟩
  · intro u hu
    rcases List.mem_append.1 hu with hu | hu
    · exact h.one u hu
    · simp at hu; rcases hu with rfl | rfl <;> rfl
  · have hl := h.len
    rcases Nat.lt_trichotomy i ps.length with hlt | rfl | hgt
    · rw [List.getElem?_append_left hlt] at hi
      obtain ⟨A3, c3, A4, c4, v1, v2, r1, r2⟩ := h.rows i p hi
      exact ⟨A3, c3, A4, c4, by rw [List.getElem?_append_left (by omega)]; exact v1, by rw [List.getElem?_append_left (by omega)]; exact v2, r1.below hb, keep r2⟩
    · have : p = (x, y) := by simpa using hi.symm
      subst this
      refine ⟨A1, c1, A2, c2, ?_, ?_, h1.below hb, keep h2⟩
      · rw [List.getElem?_append_right (by omega), hl, Nat.mul_comm, Nat.sub_self]; rfl
      · rw [List.getElem?_append_right (by omega), hl, show 2 * ps.length + 1 - ps.length * 2 = 1 from by omega]; rfl
    · rw [List.getElem?_eq_none (by simp; omega)] at hi; cases hi
theorem PrsW.reads (h : PrsW T w base A c vs ps) (hs : base ≤ w.heap.size) : PrsR w w.heap.size A ps :=
  ⟨vs, Reads.of_own h.own, fun i p hp => by
    obtain ⟨A1, c1, A2, c2, h1, h2, h3, h4⟩ := h.rows i p hp
    exact ⟨A1, c1, A2, c2, h1, h2, h3.more hs, h4.reads⟩⟩
end
theorem info_tpair : (Tryz.prog.info? 78).map (fun i => (i.zero, i.size, i.bytes)) = some (some (.agg #[.slice none 0 0, .slice none 0 0]), 2, 48) := by kernel_rfl
theorem info_rpair : (Tryz.prog.info? 105).map (fun i => (i.zero, i.size, i.bytes)) = some (some (.agg #[.slice none 0 0, .slice none 0 0]), 2, 48) := by kernel_rfl

/-- What Pairs returns. -/
def pairsE (n : Int) (es : List E3) (q : Int) : List (List Int × List Int) × Int := if rootErr n es q = 0 then ((supL n.toNat es q.toNat).map fun c => (c, nI (treeN (endsL es) n.toNat q.toNat c)), 0) else ([], rootErr n es q)
end Go.Proofs.YtghigdcpinengaaGreat

/-! A connected graph has a spanning tree. No program is in sight. -/
namespace Go.Proofs.YtghigdcpinengaaGreat
/-- A connected graph has a spanning tree. -/
theorem tree_ex {n : Nat} {E : List (Nat × Nat)} (hb : BdP n E) (hc : partsP n E = 1) : ∃ t, IsTr n E t := by
  have key : ∀ k, k ≤ E.length → ∃ t : List Nat, t.Pairwise (· < ·) ∧ (∀ e ∈ t, e < k) ∧ Fo (pk E t) ∧ ∀ a b, Cn (pk E t) a b ↔ Cn (E.take k) a b := by
    intro k
    induction k with
    | zero => exact fun _ => ⟨[], .nil, by simp, trivial, fun a b => Iff.rfl⟩
    | succ k ih =>
      intro hk
      obtain ⟨t, h1, h2, h3, h4⟩ := ih (by omega)
      have hE := getD_some (E := E) (e := k) (by omega)
      have htk : E.take (k + 1) = E.take k ++ [E.getD k (0, 0)] := by rw [List.take_add_one, hE]; rfl
      have hsn : ∀ (ps : List (Nat × Nat)) (p : Nat × Nat) (a b : Nat), Cn (ps ++ [p]) a b ↔ Cn (p :: ps) a b := fun ps p a b => cn_same fun q => by simp [or_comm]
      by_cases hc : Cn (pk E t) (E.getD k (0, 0)).1 (E.getD k (0, 0)).2
      · refine ⟨t, h1, fun e he => by have := h2 e he; omega, h3, fun a b => ?_⟩
        rw [htk, hsn, cn_cons_of ((h4 _ _).1 hc), h4]
      · have hpk : pk E (t ++ [k]) = pk E t ++ [E.getD k (0, 0)] := by simp [pk]
        refine ⟨t ++ [k], ?_, ?_, ?_, fun a b => ?_⟩
        · rw [List.pairwise_append]
          exact ⟨h1, List.pairwise_singleton _ _, fun a ha b hb => by rw [List.mem_singleton] at hb; subst hb; exact h2 a ha⟩
        · intro e he
          rcases List.mem_append.1 he with he | he
          · have := h2 e he; omega
          · rw [List.mem_singleton] at he; omega
        · rw [hpk]
          refine (fo_append_snoc (n := n) ?_).2 ⟨h3, hc⟩
          rw [← hpk]
          exact bd_pk hb fun e he => by
            rcases List.mem_append.1 he with he | he
            · have := h2 e he; omega
            · rw [List.mem_singleton] at he; omega
        · rw [hpk, htk, hsn, hsn, cn_cons, cn_cons, h4, h4, h4, h4, h4]
  obtain ⟨t, h1, h2, h3, h4⟩ := key E.length (Nat.le_refl _)
  rw [List.take_length] at h4
  have hp : partsP n (pk E t) = 1 := by rw [partsP_congr h4]; exact hc
  have hl := (tree_of_fo (bd_pk hb h2) h3).1 hp
  rw [pk_length] at hl
  exact ⟨t, ⟨h1, h2⟩, hl, h3⟩
end Go.Proofs.YtghigdcpinengaaGreat

