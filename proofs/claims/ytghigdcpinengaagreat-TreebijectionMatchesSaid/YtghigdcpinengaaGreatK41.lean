/-
  Texts of this claim, put together: RecF, RMin24, Pairs, FewS, PairsW.
-/
import Derived.Test.YtghigdcpinengaaGreatK38
import Derived.Test.YtghigdcpinengaaGreatK36
import Derived.Test.YtghigdcpinengaaGreatK40
import Derived.Test.YtghigdcpinengaaGreatK39
import Derived.Test.YtghigdcpinengaaGreatK22
import Derived.Test.YtghigdcpinengaaGreatK27
/-! treebijection.Recurrent; superstable.All with its errors. -/
namespace Go.Proofs.YtghigdcpinengaaGreat
open Go.RowKit

def recFE (n : Int) (es : List E3) (q : Int) (xs : List Int) : List Int × Int := if grownErr n es q xs = 0 then (dulL n.toNat es (confN (endsL es) n.toNat q.toNat (xs.map Int.toNat)) q.toNat, 0) else ([], grownErr n es q xs)

set_option maxRecDepth 100000 in
set_option maxHeartbeats 4000000 in
theorem recur30_any (n q : Int) (A : Option Addr) (c : Nat) (es : List E3) (hlen : es.length ≤ 10000) (hm0 : checkG n es = 0 → (endsL es).length ≤ 60) (B : Option Addr) (d : Nat) (xs : List Int) (hl : xs.length ≤ 1048576) (w : World) (h : Reads w w.heap.size 3 A es.length (edgeCells es)) (h' : Reads w w.heap.size 1 B xs.length (ints xs)) :
    Calls Tryz.prog 22 #[.agg #[.int .i64 n, .slice A es.length c], .int .i64 q, .slice B xs.length d] w fun e w' => ∃ A' c', e = .returned (.tuple #[.slice A' (recFE n es q xs).1.length c', .int .i64 (recFE n es q xs).2]) ∧ OwnI w' w.heap.size A' c' (recFE n es q xs).1 ∧ Below w.heap.size w w' := by
  have g0 := Blk.new w 24 #[.int .i64 n, .slice A es.length c]
  have hB0 : Below w.heap.size w (w.alloc (.cells #[.int .i64 n, .slice A es.length c] 24)) := (Below.refl _ _).alloc (Nat.le_refl _) _
  have c0 := g0.cell 0
  have c1 := g0.cell 1
  have CO := Lib.hid (fun (W : World) (hB : Below w.heap.size w W) => config30_any n q A c es hlen hm0 B d xs hl W ((h.below hB).more hB.size) ((h'.below hB).more hB.size))
  by_cases hz : grownErr n es q xs = 0
  · have hCE : confFE n es q xs = (confN (endsL es) n.toNat q.toNat (xs.map Int.toNat), 0) := by unfold confFE; rw [if_pos hz]
    rw [hCE] at CO
    have hE : recFE n es q xs = (dulL n.toNat es (confN (endsL es) n.toNat q.toNat (xs.map Int.toNat)) q.toNat, 0) := by unfold recFE; rw [if_pos hz]
    rw [hE]
    dsimp only at CO ⊢
    obtain ⟨m, p, t, rfl, rfl, rfl, hp, hm12, hR, hte⟩ := grown_nat hz
    rw [nI_toNat] at CO ⊢
    simp only [Int.toNat_natCast] at CO ⊢
    have hm := hm0 (join_zero (tree_join hte)).1
    obtain ⟨hcz, hst⟩ := conf_cfg (tree_join hte) hR hp (by omega)
    have hb := (cfg_zero hcz).1
    have hcl : (confN (endsL es) m p t).length = m := (conf_facts hR.hT.bd hp t).1
    obtain ⟨C, hC⟩ : ∃ C, confN (endsL es) m p t = C := ⟨_, rfl⟩
    rw [hC] at CO hb hst hcl ⊢
    have DU := Lib.hid (fun (B : Option Addr) (d : Nat) (W : World) (hB : Below w.heap.size w W) (h2 : Reads W W.heap.size 1 B C.length (ints C)) => sdual_ok m A c es hlen p B d C hb hst W ((h.below hB).more hB.size) h2)
    rw [dulL_length]
    clear hE hCE hz h h' hm hR hte hl hcz hb hst hC hcl
    go_enter Tryz.func22, Tryz.ntmps22
    go_wp2_with fail
    refine (CO.out _ hB0).mono ?_
    rintro e w1 ⟨A1, c1', rfl, o1, hb1⟩
    have hB1 := hB0.trans (hb1.mono hB0.size)
    have g1 := g0.next hb1
    have k0 := g1.cell 0
    have k1 := g1.cell 1
    clear c0 c1
    go_wp2_with fail
    refine (DU.out _ _ _ hB1 o1.reads).mono ?_
    rintro e w2 ⟨A2, c2, rfl, o2, hb2⟩
    have hB2 := hB1.trans (hb2.mono hB1.size)
    have o2 := o2.mono hB1.size
    go_wp2
    go_ret2
    exact ⟨_, _, rfl, o2, hB2⟩
  · have hCE : confFE n es q xs = ([], grownErr n es q xs) := by unfold confFE; rw [if_neg hz]
    have hE : recFE n es q xs = ([], grownErr n es q xs) := by unfold recFE; rw [if_neg hz]
    rw [hCE] at CO
    rw [hE]
    dsimp only at CO ⊢
    obtain ⟨z, hzz⟩ : ∃ z, grownErr n es q xs = z := ⟨_, rfl⟩
    rw [hzz] at CO hz ⊢
    have hzb : (z != 0) = true := by simpa using hz
    clear hE hCE hzz hz h h' hm0
    go_enter Tryz.func22, Tryz.ntmps22
    go_wp2_with fail
    refine (CO.out _ hB0).mono ?_
    rintro e w1 ⟨A1, c1', rfl, o1, hb1⟩
    have hB1 := hB0.trans (hb1.mono hB0.size)
    go_wp2
    go_ret2
    exact ⟨_, _, rfl, OwnI.nil_ _ _, hB1⟩

/-- What superstable.All returns. -/
def allSE (n : Int) (es : List E3) (q : Int) : List (List Int) × Int := if rootErr n es q = 0 then (supL n.toNat es q.toNat, 0) else ([], rootErr n es q)
theorem root_natF {n : Int} {es : List E3} {q : Int} (h : rootErr n es q = 0) : ∃ m p : Nat, n = m ∧ q = p ∧ p < m ∧ RightG m es ∧ AllConn m es ∧ checkG n es = 0 ∧ joinErr n es = 0 := by
  rcases root_cases n es q with ⟨a, b⟩ | ⟨_, _, b⟩ | ⟨_, _, _, b⟩ | ⟨a, b, c, _⟩
  · exact absurd (b ▸ h) a
  · rw [h] at b; cases b
  · rw [h] at b; cases b
  · have hG := right_of a
    have hlo := hG.lo
    unfold vertB at c
    simp at c
    obtain ⟨m, rfl⟩ := Int.eq_ofNat_of_zero_le (show 0 ≤ n by omega)
    obtain ⟨p, rfl⟩ := Int.eq_ofNat_of_zero_le (show 0 ≤ q by omega)
    refine ⟨m, p, rfl, rfl, by omega, hG, (connB_iff hG).1 (by simpa using b), a, ?_⟩
    unfold joinErr
    rw [if_neg (fun h => h a)]
    rw [Int.toNat_natCast] at b ⊢
    rw [b]; rfl
set_option maxRecDepth 100000 in
set_option maxHeartbeats 4000000 in
theorem sall_any (n q : Int) (A : Option Addr) (cA : Nat) (es : List E3) (hlen : es.length ≤ 10000) (hxl : (allSE n es q).1.length ≤ 16384) (w : World) (h : Reads w w.heap.size 3 A es.length (edgeCells es)) :
    Calls Tryz.prog 45 #[.agg #[.int .i64 n, .slice A es.length cA], .int .i64 q] w fun e w' => ∃ Ar cr, e = .returned (.tuple #[.slice Ar (allSE n es q).1.length cr, .int .i64 (allSE n es q).2]) ∧ RowsR w' w'.heap.size Ar (allSE n es q).1 ∧ Below w.heap.size w w' := by
  by_cases hx : rootErr n es q = 0
  · obtain ⟨m, p, rfl, rfl, _⟩ := root_natF hx
    have hE : allSE m es p = (supL m es p, 0) := by unfold allSE; rw [if_pos hx]; rfl
    rw [hE] at hxl ⊢
    refine (sall_ok m A cA es hlen p hx _ rfl hxl w h).mono ?_
    rintro e w' ⟨Ar, cr, vs, rfl, o, hb⟩
    exact ⟨Ar, cr, rfl, o.reads, hb⟩
  · obtain ⟨z, hz⟩ : ∃ z, rootErr n es q = z := ⟨_, rfl⟩
    have hE : allSE n es q = ([], z) := by unfold allSE; rw [if_neg hx, hz]
    rw [hE]
    have hz0 : (z == 0) = false := by rw [← hz]; simpa using hx
    have hz1 : (z != 0) = true := by rw [← hz]; simpa using hx
    have MB := Lib.hid (sfirst_bad n A cA es hlen q z hz hz0)
    clear hxl hE hx hz
    have g0 := Blk.new w 24 #[.int .i64 n, .slice A es.length cA]
    refine (callsIn_wide (n := 3)).1 ?_
    refine callsIn_of_wp_marks Tryz.func45 rfl trivial ?_
    simp only [Tryz.ntmps45, List.size_toArray, List.length_cons, List.length_nil, Nat.reduceAdd, Nat.reduceSub, Array.replicate_succ, Array.replicate_zero, List.push_toArray, List.append_toArray, List.nil_append, List.cons_append]
    gi_wp2_with fail
    obtain ⟨w0, hw0⟩ : ∃ w0, ((w.alloc (.cells #[.int .i64 n, .slice A es.length cA] 24)).alloc (.cells #[.slice none 0 0] 74)).alloc (.cells #[.int .i64 0] 29) = w0 := ⟨_, rfl⟩
    have hs0 : w0.heap.size = w.heap.size + 3 := by rw [← hw0]; simp
    have hB0 : Below w.heap.size w w0 := by rw [← hw0]; exact (((Below.refl _ _).alloc (Nat.le_refl _) _).alloc (by simp) _).alloc (by simp; omega) _
    have r1 : Blk w0 (w.heap.size + 1) 74 #[.slice none 0 0] := by rw [← hw0]; exact (Blk.new_at (by simp)).alloc _
    have r2 : Blk w0 (w.heap.size + 2) 29 #[.int .i64 0] := by rw [← hw0]; exact Blk.new_at (by simp)
    rw [hw0]
    refine ⟨trivial, ?_⟩
    refine (inW (MB.out _ ((h.below hB0).more hB0.size))).mono ?_
    rintro e w1 ⟨rfl, hb1⟩
    have hB1 : Below w.heap.size w w1 := hB0.trans (hb1.mono hB0.size)
    have i6 := r1.next hb1
    have i7 := r2.next hb1
    have e4 := i6.cell 0
    have e5 := i7.cell 0
    have f4 := i6.frozen 0
    have f5 := i7.frozen 0
    clear hw0 r1 r2 hb1 g0 hB0
    gi_wp2
    have g1 : Blk ((w1.setCell ⟨w.heap.size + 1, 0, none⟩ (.slice none 0 0)).setCell ⟨w.heap.size + 2, 0, none⟩ (.int .i64 z)) (w.heap.size + 1) 74 #[.slice none 0 0] := by
      have := (i6.set_ 0 (.slice none 0 0)).far (p := ⟨w.heap.size + 2, 0, none⟩) (by simp) (.int .i64 z)
      simpa using this
    have g2 : Blk ((w1.setCell ⟨w.heap.size + 1, 0, none⟩ (.slice none 0 0)).setCell ⟨w.heap.size + 2, 0, none⟩ (.int .i64 z)) (w.heap.size + 2) 29 #[.int .i64 z] := by
      have := (i7.far (p := ⟨w.heap.size + 1, 0, none⟩) (by simp) (.slice none 0 0)).set_ 0 (.int .i64 z)
      simpa using this
    have g4 : Below w.heap.size w ((w1.setCell ⟨w.heap.size + 1, 0, none⟩ (.slice none 0 0)).setCell ⟨w.heap.size + 2, 0, none⟩ (.int .i64 z)) := (hB1.setCell (by simp) _).setCell (by simp) _
    obtain ⟨Wf, hWf⟩ : ∃ Wf, (w1.setCell ⟨w.heap.size + 1, 0, none⟩ (.slice none 0 0)).setCell ⟨w.heap.size + 2, 0, none⟩ (.int .i64 z) = Wf := ⟨_, rfl⟩
    rw [hWf] at g1 g2 g4
    have p2 := g1.cell 0
    have p3 := g2.cell 0
    rw [show w.heap.size + 1 + 1 = w.heap.size + 2 from rfl, hWf]
    exact end_none (v := .tuple #[.slice none 0 0, .int .i64 z]) (by simp [results, Tryz.results45, go_sem, p2, p3]) ⟨none, 0, rfl, RowsR.nil_ _ _, g4⟩

end Go.Proofs.YtghigdcpinengaaGreat

/-! ref24.All, Least, Minimal. -/
namespace Go.Proofs.YtghigdcpinengaaGreat
open Go.RowKit

theorem valE_size {n : Int} {es : List E3} (h : ∀ e ∈ es, okE n e) (v : Int) : valE es v ≤ (sizeE es : Int) := by
  induction es with
  | nil => simp [valE, sizeE]
  | cons e es ih =>
    have h1 := ih fun x hx => h x (by simp [hx])
    have h2 := h e (by simp)
    have h3 : valT v e ≤ e.2.2 := by unfold okE at h2; unfold valT; split <;> omega
    have e1 : valE (e :: es) v = valT v e + valE es v := by simp [valE]
    have e2 : sizeE (e :: es) = e.2.2.toNat + sizeE es := by simp [sizeE]
    have e3 : e.2.2.toNat = e.2.2 := by unfold okE at h2; omega
    rw [e1, e2]
    omega
end Go.Proofs.YtghigdcpinengaaGreat

/-! Slices of pairs of two lists of ints: as the call's own, and as they read. -/
namespace Go.Proofs.YtghigdcpinengaaGreat
open Go.RowKit

theorem own_typeG {w : World} {base n size k : Nat} {e : TypeId} {v : Value} {xs : List Value} (h : w.ownsRow base e size v n xs) (hk : v.ownBlock = some k) : ∃ cs, Blk w k e cs := by
  rcases h.2 with ⟨rfl, _⟩ | ⟨g, cap, cur, rfl, _, hh, _⟩
  · simp [Value.ownBlock] at hk
  · have : g = k := by simpa [Value.ownBlock] using hk
    subst this
    exact ⟨_, hh⟩
/-- A slice of pairs that reads as the lists. -/
def PrsR (w : World) (B : Nat) (A : Option Addr) (ps : List (List Int × List Int)) : Prop :=
  ∃ vs, Reads w B 2 A ps.length vs ∧ ∀ (i : Nat) (p : List Int × List Int), ps[i]? = some p → ∃ A1 c1 A2 c2, vs[2 * i]? = some (.slice A1 p.1.length c1) ∧ vs[2 * i + 1]? = some (.slice A2 p.2.length c2) ∧ Reads w B 1 A1 p.1.length (ints p.1) ∧ Reads w B 1 A2 p.2.length (ints p.2)
/-- .. of the call's own. -/
structure PrsW (T : TypeId) (w : World) (base : Nat) (A : Option Addr) (c : Nat) (vs : List Value) (ps : List (List Int × List Int)) : Prop where
  own : w.ownsRow base T 2 (.slice A ps.length c) ps.length vs
  one : ∀ u ∈ vs, u.oneCell' = true
  rows : ∀ (i : Nat) (p : List Int × List Int), ps[i]? = some p → ∃ A1 c1 A2 c2, vs[2 * i]? = some (.slice A1 p.1.length c1) ∧ vs[2 * i + 1]? = some (.slice A2 p.2.length c2) ∧ Reads w base 1 A1 p.1.length (ints p.1) ∧ OwnI w base A2 c2 p.2
section
variable {T : TypeId} {w w' : World} {base B : Nat} {A A' A1 A2 : Option Addr} {c c' c1 c2 : Nat} {vs : List Value} {ps : List (List Int × List Int)} {x y : List Int}
theorem PrsR.below (h : PrsR w B A ps) (hb : Below B w w') : PrsR w' B A ps := by
  obtain ⟨vs, hr, hi⟩ := h
  refine ⟨vs, hr.below hb, fun i p hp => ?_⟩
  obtain ⟨A1, c1, A2, c2, h1, h2, h3, h4⟩ := hi i p hp
  exact ⟨A1, c1, A2, c2, h1, h2, h3.below hb, h4.below hb⟩
theorem PrsR.more {B' : Nat} (h : PrsR w B A ps) (hB : B ≤ B') : PrsR w B' A ps := by
  obtain ⟨vs, hr, hi⟩ := h
  refine ⟨vs, hr.more hB, fun i p hp => ?_⟩
  obtain ⟨A1, c1, A2, c2, h1, h2, h3, h4⟩ := hi i p hp
  exact ⟨A1, c1, A2, c2, h1, h2, h3.more hB, h4.more hB⟩
theorem PrsR.next (h : PrsR w w.heap.size A ps) (hb : Below w.heap.size w w') : PrsR w' w'.heap.size A ps := (h.below hb).more hb.size
theorem PrsR.nil_ (w : World) (B : Nat) : PrsR w B none [] := ⟨[], Reads.nil_, fun i p h => by cases h⟩
theorem PrsR.at_ (h : PrsR w B A ps) {k : Nat} {p : List Int × List Int} (hp : ps[k]? = some p) :
    ∃ b off A1 c1 A2 c2, A = some ⟨b, off, none⟩ ∧ b < B ∧ w.cell? ⟨b, off + k * 2, none⟩ = some (.slice A1 p.1.length c1) ∧ w.cell? ⟨b, off + k * 2 + 1, none⟩ = some (.slice A2 p.2.length c2) ∧ Reads w B 1 A1 p.1.length (ints p.1) ∧ Reads w B 1 A2 p.2.length (ints p.2) := by
  obtain ⟨vs, hr, hi⟩ := h
  obtain ⟨A1, c1, A2, c2, h1, h2, h3, h4⟩ := hi k p hp
  have hk : k < ps.length := (List.getElem?_eq_some_iff.1 hp).1
  obtain ⟨b, off, hA, hb, hc⟩ := hr.2 (by omega)
  refine ⟨b, off, A1, c1, A2, c2, hA, hb, ?_, ?_, h3, h4⟩
  · have := hc _ _ h1; rwa [Nat.mul_comm] at this
  · have := hc _ _ h2; rwa [show off + (2 * k + 1) = off + k * 2 + 1 from by omega] at this
theorem PrsW.nil_ (T : TypeId) (w : World) (base : Nat) : PrsW T w base none 0 [] [] := ⟨World.ownsRow_nil _ _ _ _, by simp, by simp⟩
theorem PrsW.len (h : PrsW T w base A c vs ps) : vs.length = ps.length * 2 := h.own.1
theorem PrsW.next (h : PrsW T w base A c vs ps) (hs : base ≤ w.heap.size) (hb : Below w.heap.size w w') : PrsW T w' base A c vs ps := by
  refine ⟨?_, h.one, fun i p hp => ?_⟩
  · obtain ⟨h1, h2⟩ := h.own
    refine ⟨h1, ?_⟩
    rcases h2 with h2 | ⟨g, cap, cur, hv, hg, hh, r⟩
    · exact .inl h2
    · exact .inr ⟨g, cap, cur, hv, hg, (hb.block g (World.ownsRow.lt h.own g (by rw [hv]; rfl)).2).trans hh, r⟩
  · obtain ⟨A1, c1, A2, c2, h1, h2, h3, h4⟩ := h.rows i p hp
    exact ⟨A1, c1, A2, c2, h1, h2, h3.below (hb.mono hs), h4.next hb⟩
theorem PrsW.drewN (h : PrsW T w base A c vs ps) (k : Nat) : PrsW T (w.drewN k) base A c vs ps := ⟨h.own, h.one, h.rows⟩
/-- One pair more. -/
theorem PrsW.push (hT : 3 ≠ T) (h : PrsW T w base A c vs ps) (h1 : Reads w base 1 A1 x.length (ints x)) (h2 : OwnI w base A2 c2 y) {o : Obj}
    (hown : w'.ownsRow base T 2 (.slice A' (ps.length + 1) c') (ps.length + 1) (vs ++ [.slice A1 x.length c1, .slice A2 y.length c2])) (hg : (w.alloc o).grownBy w' (Value.slice A ps.length c).ownBlock) (hb : Below base w w') :
    PrsW T w' base A' c' (vs ++ [.slice A1 x.length c1, .slice A2 y.length c2]) (ps ++ [(x, y)]) := by
  have keep : ∀ {A1 : Option Addr} {c1 : Nat} {z : List Int}, OwnI w base A1 c1 z → OwnI w' base A1 c1 z := fun {A1 c1 z} ho => own_kept ho fun k hk => by
    have hlt := (own_lt ho hk).2
    refine (hg.block k (by simp; omega) fun e => ?_).trans (Below.heap_alloc w o k hlt)
    obtain ⟨cs, hcs⟩ := own_typeG h.own e.symm
    exact own_blk ho hcs hT hk rfl
  refine ⟨by rw [List.length_append]; exact hown, ?_, fun i p hi => ?_⟩
  · intro u hu
    rcases List.mem_append.1 hu with hu | hu
    · exact h.one u hu
    · simp at hu; rcases hu with rfl | rfl <;> rfl
  · have hl := h.len
    rcases Nat.lt_trichotomy i ps.length with hlt | rfl | hgt
    · rw [List.getElem?_append_left hlt] at hi
      obtain ⟨A3, c3, A4, c4, v1, v2, r1, r2⟩ := h.rows i p hi
      exact ⟨A3, c3, A4, c4, by rw [List.getElem?_append_left (by omega)]; exact v1, by rw [List.getElem?_append_left (by omega)]; exact v2, r1.below hb, keep r2⟩
    · have : p = (x, y) := by simpa using hi.symm
      subst this
      refine ⟨A1, c1, A2, c2, ?_, ?_, h1.below hb, keep h2⟩
      · rw [List.getElem?_append_right (by omega), hl, Nat.mul_comm, Nat.sub_self]; rfl
      · rw [List.getElem?_append_right (by omega), hl, show 2 * ps.length + 1 - ps.length * 2 = 1 from by omega]; rfl
    · rw [List.getElem?_eq_none (by simp; omega)] at hi; cases hi
theorem PrsW.reads (h : PrsW T w base A c vs ps) (hs : base ≤ w.heap.size) : PrsR w w.heap.size A ps :=
  ⟨vs, Reads.of_own h.own, fun i p hp => by
    obtain ⟨A1, c1, A2, c2, h1, h2, h3, h4⟩ := h.rows i p hp
    exact ⟨A1, c1, A2, c2, h1, h2, h3.more hs, h4.reads⟩⟩
end
theorem info_tpair : (Tryz.prog.info? 78).map (fun i => (i.zero, i.size, i.bytes)) = some (some (.agg #[.slice none 0 0, .slice none 0 0]), 2, 48) := by kernel_rfl
/-- What Pairs returns. -/
def pairsE (n : Int) (es : List E3) (q : Int) : List (List Int × List Int) × Int := if rootErr n es q = 0 then ((supL n.toNat es q.toNat).map fun c => (c, nI (treeN (endsL es) n.toNat q.toNat c)), 0) else ([], rootErr n es q)
end Go.Proofs.YtghigdcpinengaaGreat

/-! A small graph has few superstable configurations. No program is in sight. -/
namespace Go.Proofs.YtghigdcpinengaaGreat
/-- All superstable configurations of a small graph are few. -/
theorem few_sup {n q : Nat} {es : List E3} (hx : rootErr n es q = 0) (hj : joinErr n es = 0) (hn : n ≤ 5) (hs : (endsL es).length ≤ 8) : (∀ v, v ≤ n → (belL (maxL n es q) v).length ≤ 1000000) ∧ (supL n es q).length ≤ 16384 := by
  obtain ⟨_, hG, _, hq⟩ := root_zero hx
  have hv : ∀ v : Nat, valE es v ≤ (8 : Nat) := fun v => by have := valE_size hG.ok (v : Int); rw [size_ends] at this; omega
  have hp : ∀ v, v ≤ 5 → 8 ^ v ≤ 8 ^ 5 := fun v h => Nat.pow_le_pow_right (by omega) h
  have hb := bel_few (top := maxL n es q) (q := q) (K := 8) (fun v hvq => by
    by_cases hvn : v < n
    · rw [maxL_get hG.ok hvn, if_neg hvq]
      have := hv v
      omega
    · rw [List.getD_eq_getElem?_getD, List.getElem?_eq_none (by rw [maxL_length]; omega)]
      simp) (by rw [maxL_get hG.ok hq, if_pos rfl])
  have h85 : 8 ^ 5 = 32768 := by decide
  refine ⟨fun v hvn => ?_, ?_⟩
  · have h1 := hb v
    have h2 := hp v (by omega)
    have h3 : (belL (maxL n es q) v).length ≤ (belL (maxL n es q) v).length * (if q < v then 8 else 1) := Nat.le_mul_of_pos_right _ (by split <;> omega)
    omega
  · have h1 := hb n
    have h2 := hp n hn
    rw [if_pos hq] at h1
    have h4 : (supL n es q).length ≤ (belL (maxL n es q) n).length := by
      rw [supL_bel hx hj hG hq (by omega)]
      exact List.length_filter_le _ _
    omega
end Go.Proofs.YtghigdcpinengaaGreat

/-! treebijection.Pairs. -/
namespace Go.Proofs.YtghigdcpinengaaGreat
open Go.RowKit

theorem cfg_len {n q : Nat} {es : List E3} {c : List Int} (h : cfgErr n es q c = 0) : c.length = n := (cfg_facts h).2.2.2.1
theorem treeN_len {n q : Nat} {es : List E3} {c : List Int} : (treeN (endsL es) n q c).length ≤ (endsL es).length := by
  have := nodup_sub_le (asc_set (endsL es).length (fireC_ (endsL es) n q c).tree).nodup (m := List.range (endsL es).length) (fun x hx => List.mem_range.2 ((asc_set _ _).2 x hx))
  rw [List.length_range] at this
  exact this
def pairOf (E : List (Nat × Nat)) (n q : Nat) (c : List Int) : List Int × List Int := (c, nI (treeN E n q c))

set_option maxRecDepth 100000 in
set_option maxHeartbeats 8000000 in
theorem pairs30_any (n q : Int) (A : Option Addr) (cA : Nat) (es : List E3) (hlen : es.length ≤ 10000) (hm0 : checkG n es = 0 → (endsL es).length ≤ 60) (hxl : (allSE n es q).1.length ≤ 16384) (w : World) (h : Reads w w.heap.size 3 A es.length (edgeCells es)) :
    Calls Tryz.prog 39 #[.agg #[.int .i64 n, .slice A es.length cA], .int .i64 q] w fun e w' => ∃ Ar cr, e = .returned (.tuple #[.slice Ar (pairsE n es q).1.length cr, .int .i64 (pairsE n es q).2]) ∧ PrsR w' w'.heap.size Ar (pairsE n es q).1 ∧ Below w.heap.size w w' := by
  have AC := Lib.hid (fun (W : World) (hB : Below w.heap.size w W) => sall_any n q A cA es hlen hxl W ((h.below hB).more hB.size))
  have g0 := Blk.new w 24 #[.int .i64 n, .slice A es.length cA]
  have hB0 : Below w.heap.size w (w.alloc (.cells #[.int .i64 n, .slice A es.length cA] 24)) := (Below.refl _ _).alloc (Nat.le_refl _) _
  have c0 := g0.cell 0
  have c1 := g0.cell 1
  by_cases hz : rootErr n es q = 0
  · obtain ⟨m, p, rfl, rfl, hp, hG, _, hck, hj⟩ := root_natF hz
    have hm := hm0 hck
    have hS := supL_mem hz hj hG hp (by omega)
    have hE : allSE m es p = (supL m es p, 0) := by unfold allSE; rw [if_pos hz]; rfl
    have hP : pairsE m es p = ((supL m es p).map (pairOf (endsL es) m p), 0) := by unfold pairsE; rw [if_pos hz]; rfl
    rw [hE] at AC hxl
    rw [hP]
    dsimp only at AC hxl ⊢
    have TC : Hid (∀ (c : List Int), c ∈ supL m es p → ∀ (B : Option Addr) (d : Nat) (W : World), Below w.heap.size w W → Reads W W.heap.size 1 B c.length (ints c) → Calls Tryz.prog 14 #[.agg #[.int .i64 m, .slice A es.length cA], .int .i64 p, .slice B c.length d] W fun e w' => ∃ A1 c1 A2 k2 c2, e = .returned (.tuple #[.slice A1 (pairOf (endsL es) m p c).2.length c1, .slice A2 k2 c2, .int .i64 0]) ∧ OwnI w' W.heap.size A1 c1 (pairOf (endsL es) m p c).2 ∧ Below W.heap.size W w') := by
      intro c hc B d W hB hr
      have hcz := (hS.2 c).1 hc
      have hcl := cfg_len hcz
      have hE2 : treeFE m es p c = (nI (treeN (endsL es) m p c), nI (fireC_ (endsL es) m p c).order, 0) := by unfold treeFE; rw [if_pos hcz]; rfl
      have := ttree30_any m p A cA es hlen (fun _ => hm) B d c (by have := hG.hi; omega) W ((h.below hB).more hB.size) hr
      rw [hE2] at this
      refine this.mono ?_
      rintro e w' ⟨A1, c1, A2, c2, rfl, o1, _, hb⟩
      exact ⟨A1, c1, A2, _, c2, rfl, o1, hb⟩
    have HPL : Hid (∀ c, (pairOf (endsL es) m p c).1 = c) := fun c => rfl
    have HTL : Hid (∀ c, (pairOf (endsL es) m p c).2.length ≤ 60) := fun c => by
      show (nI (treeN (endsL es) m p c)).length ≤ 60
      rw [nI_length]
      exact Nat.le_trans treeN_len hm
    obtain ⟨F, hF⟩ : ∃ F, pairOf (endsL es) m p = F := ⟨_, rfl⟩
    rw [hF] at TC HPL HTL ⊢
    obtain ⟨X, hX⟩ : ∃ X, supL m es p = X := ⟨_, rfl⟩
    rw [hX] at AC TC hxl ⊢
    rw [List.length_map]
    obtain ⟨N, hN⟩ : ∃ N, X.length = N := ⟨_, rfl⟩
    rw [hN] at AC hxl ⊢
    have HN := Lib.hid hN
    clear hE hP hF hX hN hS hz hG hck hj hm h
    go_enter Tryz.func39, Tryz.ntmps39
    go_wp2_with fail
    refine (AC.out _ hB0).mono ?_
    rintro e w1 ⟨Ar, cr, rfl, r1, hb1⟩
    have hB1 := hB0.trans (hb1.mono hB0.size)
    have g1 := g0.next hb1
    have R1 := Lib.hid r1
    have HB1 := Lib.hid hB1
    have hs1 := hB1.size
    clear c0 c1 g0 r1 hB0 hb1 hB1
    go_wp2_with fail
    go_loopw [8, 25] (fun o i wr => ∃ (k : Nat) (A : Option Addr) (c : Nat) (vs : List Value) (ps : List (List Int × List Int)), k ≤ N ∧ i = .int .i64 k ∧ o = .slice A ps.length c ∧ Hid ((X.take k).map F = ps) ∧ ps.length ≤ k ∧ Hid (PrsW 78 wr w1.heap.size A c vs ps) ∧ Hid (Below w1.heap.size w1 wr)) (fun _ i _ => N - (intOf i).toNat)
    case atStart => exact ⟨0, none, 0, [], [], by omega, rfl, rfl, rfl, by simp, PrsW.nil_ _ _ _, Below.refl _ _⟩
    case round =>
      obtain ⟨k, Ao, co, vs, ps, hk, rfl, rfl, HR, hrl, HO, HB⟩ := hrel
      have hsz := HB.out.size
      by_cases hlt : k < N
      · have hi : (k : Int) < (N : Int) := by omega
        obtain ⟨x, hx⟩ := get_of_lt (xs := X) (k := k) (by rw [HN.out]; exact hlt)
        obtain ⟨bX, oX, A3, c3, hA, hbX, kx, rx⟩ := (R1.out.below HB.out).at_ hx
        subst hA
        have g2 := g1.next HB.out
        have k0 := g2.cell 0
        have k1 := g2.cell 1
        have HB2 : Hid (Below w.heap.size w wr) := HB1.out.trans (HB.out.mono hs1)
        have TX := Lib.hid (TC.out x (List.mem_of_getElem? hx) A3 c3 wr HB2.out (rx.more hsz))
        have hts : Hid ((X.take (k + 1)).map F = ps ++ [F x]) := by
          rw [Hid, take_snoc hx, List.map_append, HR.out]; rfl
        have HTX := Lib.hid (HTL.out x)
        have HPX := Lib.hid (HPL.out x)
        have RX := Lib.hid rx
        obtain ⟨L, hL⟩ : ∃ L, x.length = L := ⟨_, rfl⟩
        rw [hL] at kx TX
        have HLx := Lib.hid hL
        clear hx rx hL HR
        go_wp2_with fail
        refine (TX.out).mono ?_
        rintro e w3 ⟨A1, c1, A2, k2, c2, rfl, o3, hb3⟩
        have own3 := Lib.hid (HO.out.next hsz hb3)
        have hs3 : w1.heap.size ≤ w3.heap.size := Nat.le_trans hsz hb3.size
        have ow : w3.ownsRow w1.heap.size 78 2 (.slice Ao ps.length co) ps.length vs := own3.out.own
        have HO3 := Lib.hid (o3.mono hsz)
        have HB13 := Lib.hid (hb3.mono hsz)
        have HB3 : Hid (Below w1.heap.size w1 w3) := HB.out.trans (hb3.mono hsz)
        obtain ⟨T, hT⟩ : ∃ T, (F x).2.length = T := ⟨_, rfl⟩
        rw [hT]
        have HT := Lib.hid hT
        have hbx := Reads.boxN w3 #[.slice A3 L c3, .slice A1 T c1] 78
        clear o3 hb3 hT
        go_wp2_with (at_builtin; refine append_go rfl (.tmp 40) (.tmp 44) _ rfl w1.heap.size 78 Tryz.underlying64 info_tpair rfl (by omega) Ao co ps.length vs rfl (World.ownsRow.alloc ow _) (w3.heap.size + 1) [.slice A3 L c3, .slice A1 T c1] rfl hbx (by simp [Value.oneCell']) (by omega) (by simp; omega) ?_; intro A7 c7 w7 hown7 hg7 hb7 hd7)
        have HB7 : Hid (Below w1.heap.size w3 w7) := ((Below.refl _ _).alloc hs3 _).trans hb7
        have HP7 : Hid (PrsW 78 w7 w1.heap.size A7 c7 (vs ++ [.slice A3 x.length c3, .slice A1 (F x).2.length c1]) (ps ++ [(x, (F x).2)])) :=
          PrsW.push (by decide) own3.out (RX.out.below HB13.out) HO3.out (by rw [HLx.out, HT.out]; exact hown7) hg7 HB7.out
        have HFX : Hid (ps ++ [(x, (F x).2)] = ps ++ [F x]) := by rw [Hid]; congr 2; exact Prod.ext HPX.out.symm rfl
        rw [HFX.out] at HP7
        clear hown7 hg7 hb7 hd7 hbx ow
        go_wp2
        go_roundw
        case rel => exact ⟨k + 1, A7, c7, _, ps ++ [F x], by omega, by go_num, by rw [List.length_append]; rfl, hts.out, by simp; omega, HP7.out, HB3.out.trans HB7.out⟩
        case measure => simp [intOf]; omega
      · obtain rfl : k = N := by omega
        have hfull : X.map F = ps := by rw [← HR.out, List.take_of_length_le (by rw [HN.out]; exact Nat.le_refl _)]
        have hpl : ps.length = k := by rw [← hfull, List.length_map]; exact HN.out
        have HF := Lib.hid hfull
        have HPL2 := Lib.hid hpl
        have HR2 := Lib.hid (HO.out.reads hsz)
        have hB := HB1.out.trans (HB.out.mono hs1)
        clear hfull hpl
        go_wp2
        go_ret2
        rw [HF.out]
        refine ⟨Ao, co, ?_, HR2.out, hB⟩
        show Ending.returned (.tuple #[.slice Ao ps.length co, .int .i64 0]) = _
        rw [HPL2.out]
  · have hE : allSE n es q = ([], rootErr n es q) := by unfold allSE; rw [if_neg hz]
    have hP : pairsE n es q = ([], rootErr n es q) := by unfold pairsE; rw [if_neg hz]
    rw [hE] at AC
    rw [hP]
    dsimp only at AC ⊢
    obtain ⟨z, hzz⟩ : ∃ z, rootErr n es q = z := ⟨_, rfl⟩
    rw [hzz] at AC hz ⊢
    have hzb : (z != 0) = true := by simpa using hz
    clear hE hP hzz hz hm0 h hxl
    go_enter Tryz.func39, Tryz.ntmps39
    go_wp2_with fail
    refine (AC.out _ hB0).mono ?_
    rintro e w1 ⟨Ar, cr, rfl, r1, hb1⟩
    have hB1 := hB0.trans (hb1.mono hB0.size)
    go_wp2
    go_ret2
    exact ⟨_, _, rfl, PrsR.nil_ _ _, hB1⟩
end Go.Proofs.YtghigdcpinengaaGreat

