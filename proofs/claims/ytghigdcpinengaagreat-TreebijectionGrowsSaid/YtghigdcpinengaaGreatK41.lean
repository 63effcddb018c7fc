/-
  Texts of this claim, put together: Pairs, TreeX, SupQ, PairsW, TCyc, TCycM, Without, TCut, TSwap, TPar, EarP.
-/
import Derived.Test.YtghigdcpinengaaGreatK40
import Derived.Test.YtghigdcpinengaaGreatK15
import Derived.Test.YtghigdcpinengaaGreatK37
import Derived.Test.YtghigdcpinengaaGreatK31
import Derived.Test.YtghigdcpinengaaGreatK29
import Derived.Test.YtghigdcpinengaaGreatK03
import Derived.Test.YtghigdcpinengaaGreatK17
import Derived.Deep.RegionLaw
import Derived.Deep.DeepMust
import Derived.Test.YtghigdcpinengaaGreatK05
import Derived.Test.YtghigdcpinengaaGreatK13
/-! Slices of pairs of two lists of ints: as the call's own, and as they read. -/
namespace Go.Proofs.YtghigdcpinengaaGreat
open Go.RowKit

theorem own_typeG {w : World} {base n size k : Nat} {e : TypeId} {v : Value} {xs : List Value} (h : w.ownsRow base e size v n xs) (hk : v.ownBlock = some k) : ∃ cs, Blk w k e cs := by
  rcases h.2 with ⟨rfl, _⟩ | ⟨g, cap, cur, rfl, _, hh, _⟩
  · simp [Value.ownBlock] at hk
  · have : g = k := by simpa [Value.ownBlock] using hk
    subst this
    exact ⟨_, hh⟩
/-- A slice of pairs that reads as the lists. -/
def PrsR (w : World) (B : Nat) (A : Option Addr) (ps : List (List Int × List Int)) : Prop :=
  ∃ vs, Reads w B 2 A ps.length vs ∧ ∀ (i : Nat) (p : List Int × List Int), ps[i]? = some p → ∃ A1 c1 A2 c2, vs[2 * i]? = some (.slice A1 p.1.length c1) ∧ vs[2 * i + 1]? = some (.slice A2 p.2.length c2) ∧ Reads w B 1 A1 p.1.length (ints p.1) ∧ Reads w B 1 A2 p.2.length (ints p.2)
/-- .. of the call's own. -/
structure PrsW (T : TypeId) (w : World) (base : Nat) (A : Option Addr) (c : Nat) (vs : List Value) (ps : List (List Int × List Int)) : Prop where
  own : w.ownsRow base T 2 (.slice A ps.length c) ps.length vs
  one : ∀ u ∈ vs, u.oneCell' = true
  rows : ∀ (i : Nat) (p : List Int × List Int), ps[i]? = some p → ∃ A1 c1 A2 c2, vs[2 * i]? = some (.slice A1 p.1.length c1) ∧ vs[2 * i + 1]? = some (.slice A2 p.2.length c2) ∧ Reads w base 1 A1 p.1.length (ints p.1) ∧ OwnI w base A2 c2 p.2
section
variable {T : TypeId} {w w' : World} {base B : Nat} {A A' A1 A2 : Option Addr} {c c' c1 c2 : Nat} {vs : List Value} {ps : List (List Int × List Int)} {x y : List Int}
theorem PrsR.below (h : PrsR w B A ps) (hb : Below B w w') : PrsR w' B A ps := by
  obtain ⟨vs, hr, hi⟩ := h
  refine ⟨vs, hr.below hb, fun i p hp => ?_⟩
  obtain ⟨A1, c1, A2, c2, h1, h2, h3, h4⟩ := hi i p hp
  exact ⟨A1, c1, A2, c2, h1, h2, h3.below hb, h4.below hb⟩
theorem PrsR.more {B' : Nat} (h : PrsR w B A ps) (hB : B ≤ B') : PrsR w B' A ps := by
  obtain ⟨vs, hr, hi⟩ := h
  refine ⟨vs, hr.more hB, fun i p hp => ?_⟩
  obtain ⟨A1, c1, A2, c2, h1, h2, h3, h4⟩ := hi i p hp
  exact ⟨A1, c1, A2, c2, h1, h2, h3.more hB, h4.more hB⟩
theorem PrsR.nil_ (w : World) (B : Nat) : PrsR w B none [] := ⟨[], Reads.nil_, fun i p h => by cases h⟩
theorem PrsR.at_ (h : PrsR w B A ps) {k : Nat} {p : List Int × List Int} (hp : ps[k]? = some p) :
    ∃ b off A1 c1 A2 c2, A = some ⟨b, off, none⟩ ∧ b < B ∧ w.cell? ⟨b, off + k * 2, none⟩ = some (.slice A1 p.1.length c1) ∧ w.cell? ⟨b, off + k * 2 + 1, none⟩ = some (.slice A2 p.2.length c2) ∧ Reads w B 1 A1 p.1.length (ints p.1) ∧ Reads w B 1 A2 p.2.length (ints p.2) := by
  obtain ⟨vs, hr, hi⟩ := h
  obtain ⟨A1, c1, A2, c2, h1, h2, h3, h4⟩ := hi k p hp
  have hk : k < ps.length := (List.getElem?_eq_some_iff.1 hp).1
  obtain ⟨b, off, hA, hb, hc⟩ := hr.2 (by omega)
  refine ⟨b, off, A1, c1, A2, c2, hA, hb, ?_, ?_, h3, h4⟩
  · have := hc _ _ h1; rwa [Nat.mul_comm] at this
  · have := hc _ _ h2; rwa [show off + (2 * k + 1) = off + k * 2 + 1 from by omega] at this
theorem PrsW.nil_ (T : TypeId) (w : World) (base : Nat) : PrsW T w base none 0 [] [] := ⟨World.ownsRow_nil _ _ _ _, by simp, by simp⟩
theorem PrsW.len (h : PrsW T w base A c vs ps) : vs.length = ps.length * 2 := h.own.1
theorem PrsW.next (h : PrsW T w base A c vs ps) (hs : base ≤ w.heap.size) (hb : Below w.heap.size w w') : PrsW T w' base A c vs ps := by
  refine ⟨?_, h.one, fun i p hp => ?_⟩
  · obtain ⟨h1, h2⟩ := h.own
    refine ⟨h1, ?_⟩
    rcases h2 with h2 | ⟨g, cap, cur, hv, hg, hh, r⟩
    · exact .inl h2
    · exact .inr ⟨g, cap, cur, hv, hg, (hb.block g (World.ownsRow.lt h.own g (by rw [hv]; rfl)).2).trans hh, r⟩
  · obtain ⟨A1, c1, A2, c2, h1, h2, h3, h4⟩ := h.rows i p hp
    exact ⟨A1, c1, A2, c2, h1, h2, h3.below (hb.mono hs), h4.next hb⟩
theorem PrsW.drewN (h : PrsW T w base A c vs ps) (k : Nat) : PrsW T (w.drewN k) base A c vs ps := ⟨h.own, h.one, h.rows⟩
/-- One pair more. -/
theorem PrsW.push (hT : 3 ≠ T) (h : PrsW T w base A c vs ps) (h1 : Reads w base 1 A1 x.length (ints x)) (h2 : OwnI w base A2 c2 y) {o : Obj}
    (hown : w'.ownsRow base T 2 (.slice A' (ps.length + 1) c') (ps.length + 1) (vs ++ [.slice A1 x.length c1, .slice A2 y.length c2])) (hg : (w.alloc o).grownBy w' (Value.slice A ps.length c).ownBlock) (hb : Below base w w') :
    PrsW T w' base A' c' (vs ++ [.slice A1 x.length c1, .slice A2 y.length c2]) (ps ++ [(x, y)]) := by
  have keep : ∀ {A1 : Option Addr} {c1 : Nat} {z : List Int}, OwnI w base A1 c1 z → OwnI w' base A1 c1 z := fun {A1 c1 z} ho => own_kept ho fun k hk => by
    have hlt := (own_lt ho hk).2
    refine (hg.block k (by simp; omega) fun e => ?_).trans (Below.heap_alloc w o k hlt)
    obtain ⟨cs, hcs⟩ := own_typeG h.own e.symm
    exact own_blk ho hcs hT hk rfl
  refine ⟨by rw [List.length_append]; exact hown, ?_, fun i p hi => ?_⟩
  · intro u hu
    rcases List.mem_append.1 hu with hu | hu
    · exact h.one u hu
    · simp at hu; rcases hu with rfl | rfl <;> rfl
  · have hl := h.len
    rcases Nat.lt_trichotomy i ps.length with hlt | rfl | hgt
    · rw [List.getElem?_append_left hlt] at hi
      obtain ⟨A3, c3, A4, c4, v1, v2, r1, r2⟩ := h.rows i p hi
      exact ⟨A3, c3, A4, c4, by rw [List.getElem?_append_left (by omega)]; exact v1, by rw [List.getElem?_append_left (by omega)]; exact v2, r1.below hb, keep r2⟩
    · have : p = (x, y) := by simpa using hi.symm
      subst this
      refine ⟨A1, c1, A2, c2, ?_, ?_, h1.below hb, keep h2⟩
      · rw [List.getElem?_append_right (by omega), hl, Nat.mul_comm, Nat.sub_self]; rfl
      · rw [List.getElem?_append_right (by omega), hl, show 2 * ps.length + 1 - ps.length * 2 = 1 from by omega]; rfl
    · rw [List.getElem?_eq_none (by simp; omega)] at hi; cases hi
theorem PrsW.reads (h : PrsW T w base A c vs ps) (hs : base ≤ w.heap.size) : PrsR w w.heap.size A ps :=
  ⟨vs, Reads.of_own h.own, fun i p hp => by
    obtain ⟨A1, c1, A2, c2, h1, h2, h3, h4⟩ := h.rows i p hp
    exact ⟨A1, c1, A2, c2, h1, h2, h3.more hs, h4.reads⟩⟩
end
end Go.Proofs.YtghigdcpinengaaGreat

/-! A connected graph has a spanning tree. No program is in sight. -/
namespace Go.Proofs.YtghigdcpinengaaGreat
end Go.Proofs.YtghigdcpinengaaGreat

/-! The superstable configurations listed: those below the maximal stable one that are superstable, in order. -/
namespace Go.Proofs.YtghigdcpinengaaGreat
open Go.RowKit

section
variable {top c x y : List Int} {n q f v k : Nat} {P : List Int → Bool}
end
theorem cfg_facts {n q : Nat} {es : List E3} {c : List Int} (h : cfgErr n es q c = 0) : rootErr n es q = 0 ∧ RightG n es ∧ q < n ∧ c.length = n ∧ (∀ v, v < n → 0 ≤ c.getD v 0) ∧ c.getD q 0 = 0 ∧ BurnsAll (endsL es) n q c ∧ (∀ v, v < n → c.getD v 0 ≤ (maxL n es q).getD v 0) := by
  obtain ⟨h1, h2⟩ := cfg_iff.1 h
  obtain ⟨hc, h0⟩ := burn_zero h1
  rw [Int.toNat_natCast] at h0
  obtain ⟨hG, _, hq0, hqn, hcl, _, hnn⟩ := conf_zero hc
  have hq : q < n := by omega
  have hr : rootErr n es q = 0 := by
    rcases conf_cases n es q c with ⟨h1, h2⟩ | ⟨h1, _⟩ | ⟨h1, _⟩
    · exact absurd (h2 ▸ hc) h1
    · exact h1
    · exact h1
  have hnn' : ∀ v, v < n → 0 ≤ c.getD v 0 := fun v hv => by
    by_cases hvq : v = q
    · subst hvq; omega
    · exact hnn v (by omega) (by omega)
  refine ⟨hr, hG, hq, by omega, hnn', h0, h2, fun v hv => ?_⟩
  rw [maxL_get hG.ok hv]
  split
  · rename_i e; subst e; omega
  · rename_i e
    have := stabTo_iff.1 (burns_stab hG hq h2) v hv e
    omega
end Go.Proofs.YtghigdcpinengaaGreat

/-! treebijection.Pairs. -/
namespace Go.Proofs.YtghigdcpinengaaGreat
open Go.RowKit

theorem treeN_len {n q : Nat} {es : List E3} {c : List Int} : (treeN (endsL es) n q c).length ≤ (endsL es).length := by
  have := nodup_sub_le (asc_set (endsL es).length (fireC_ (endsL es) n q c).tree).nodup (m := List.range (endsL es).length) (fun x hx => List.mem_range.2 ((asc_set _ _).2 x hx))
  rw [List.length_range] at this
  exact this
end Go.Proofs.YtghigdcpinengaaGreat

/-! Package tree: Cycle (what it returns; the refusals). -/
namespace Go.Proofs.YtghigdcpinengaaGreat
open Go.RowKit

end Go.Proofs.YtghigdcpinengaaGreat

/-! Package tree: Cycle, the way and the sorted cycle; Cycle for all arguments. -/
namespace Go.Proofs.YtghigdcpinengaaGreat
open Go.RowKit

end Go.Proofs.YtghigdcpinengaaGreat

/-! Package tree: without. -/
namespace Go.Proofs.YtghigdcpinengaaGreat
open Go.RowKit

end Go.Proofs.YtghigdcpinengaaGreat

/-! Package tree: Cutset. -/
namespace Go.Proofs.YtghigdcpinengaaGreat
open Go.RowKit

end Go.Proofs.YtghigdcpinengaaGreat

/-! Package tree: Swap. -/
namespace Go.Proofs.YtghigdcpinengaaGreat
open Go.RowKit

end Go.Proofs.YtghigdcpinengaaGreat

/-! Package tree: Parents. -/
namespace Go.Proofs.YtghigdcpinengaaGreat
open Go.RowKit

set_option maxRecDepth 100000 in
set_option maxHeartbeats 4000000 in
theorem tparents_any (n : Int) (A : Option Addr) (c : Nat) (es : List E3) (hn : es.length ≤ 10000) (B : Option Addr) (d : Nat) (xs : List Int) (hm : xs.length ≤ 1048576) (r : Int) (w : World) (h : Reads w w.heap.size 3 A es.length (edgeCells es)) (h' : Reads w w.heap.size 1 B xs.length (ints xs)) :
    Calls Tryz.prog 37 #[.agg #[.int .i64 n, .slice A es.length c], .slice B xs.length d, .int .i64 r] w fun e w' => ∃ A' c', e = .returned (.tuple #[.slice A' (parentsE n es xs r).1.length c', .int .i64 (parentsE n es xs r).2]) ∧ OwnI w' w.heap.size A' c' (parentsE n es xs r).1 ∧ Below w.heap.size w w' := by
  have GC := Lib.hid (fun (W : World) (hB : Below w.heap.size w W) => checked_any n A c es hn B d xs hm W ((h.below hB).more hB.size) ((h'.below hB).more hB.size))
  have g0 := Blk.new w 24 #[.int .i64 n, .slice A es.length c]
  have hb0 : Below w.heap.size w (w.alloc (.cells #[.int .i64 n, .slice A es.length c] 24)) := (Below.refl _ _).alloc (Nat.le_refl _) _
  have c0 := g0.cell 0
  have c1 := g0.cell 1
  have VA := Lib.hid (fun W => tvertex_any n r A es.length c W)
  by_cases hj : treeErr n es xs = 0
  · obtain ⟨m, t, rfl, rfl, hR⟩ := treeR_of hj
    rw [hj] at GC
    have HE : Hid (parentsE m es (nI t) r = if vertB m r then (parentsL m (endsL es) t r.toNat, 0) else ([], 2)) := by
      unfold Hid parentsE
      rw [if_neg (fun hc => hc hj), toN_nI, Int.toNat_natCast]
    rw [HE.out]
    have hnl := nI_length t
    by_cases hva : vertB m r = true
    · have h1 := (vertB_true.1 hva)
      obtain ⟨p, rfl⟩ := Int.eq_ofNat_of_zero_le h1.1
      have hpm : p < m := by omega
      have hhi := hR.hi
      rw [hva] at VA
      have WC := Lib.hid (fun (v : Nat) (hv : v < m) (Ar : Option Addr) (cr : Nat) (W : World) (hB : Below w.heap.size w W) (hr : Reads W W.heap.size 2 Ar (endsL es).length (pair2 (endsL es))) => way_any m hR.hi v p hv (endsL es) t hR.hT hR.len (hR.cn hv hpm) Ar cr B d W hr (by rw [← hnl]; exact (h'.below hB).more hB.size))
      have HF : Hid (∀ v, v < m → v ≠ p → ∃ e : Nat, ∃ l, pathL (endsL es) t v p = e :: l ∧ parV (endsL es) t p v = e) := by
        intro v hv hne
        obtain ⟨e, k1, k2, k3, k4⟩ := parE_some hR.hT (hR.cn hv hpm) hne
        exact ⟨e, _, pathL_step hR.hT (hR.cn hv hpm) k2 k3 k4, by unfold parV; rw [if_neg hne, k1]⟩
      have HPR : Hid (parV (endsL es) t p p = -1) := by unfold Hid parV; rw [if_pos rfl]
      rw [hva, if_pos rfl]
      simp only [Int.toNat_natCast]
      obtain ⟨E, hE⟩ : ∃ E, endsL es = E := ⟨_, rfl⟩
      rw [hE] at GC WC HF HPR ⊢
      have HDe : Hid (parTo m E t p m = parentsL m E t p) := parTo_all m E t p
      have hDl := Lib.hid (parentsL_length (n := m) (E := E) (t := t) (r := p))
      rw [hnl] at GC h' ⊢
      have hmk := make_ints m (by omega)
      clear hj hR hva h1 hE HE
      go_enter Tryz.func37, Tryz.ntmps37
      go_wp2_with fail
      refine (GC.out _ hb0).mono ?_
      rintro e w1 ⟨Ar, lr, cr, rfl, hg1, _, hb1⟩
      obtain ⟨rfl, HQ⟩ := hg1 rfl
      have HQ : Hid (OwnQ w1 w.heap.size Ar cr E) := own_rebase2 HQ hb0.size
      have B1 := hb0.trans (hb1.mono hb0.size)
      have g1 := g0.next hb1
      have c0 := g1.cell 0
      have c1 := g1.cell 1
      clear g0 hb0 hb1
      go_wp2_with fail
      refine (VA.out _).mono ?_
      rintro e w2 ⟨rfl, hb2⟩
      have g2 := g1.next hb2
      have c0 := g2.cell 0
      have B2 := B1.trans (hb2.mono B1.size)
      have HQ2 : Hid (OwnQ w2 w.heap.size Ar cr E) := own_kept2 HQ.out fun j hj => hb2.block j (World.ownsRow.lt HQ.out j (blockOf_own.2 hj)).2
      have O4 := Blk.new w2 3 (ints (List.replicate m 0)).toArray
      have B4 : Below w2.heap.size w2 (w2.alloc (.cells (ints (List.replicate m 0)).toArray 3)) := (Below.refl _ _).alloc (Nat.le_refl _) _
      have hs2 := B2.size
      clear g1 hb2 B1
      go_wp2_with fail
      go_loopw [11, 30] (fun _ i wl => ∃ v : Nat, i = .int .i64 v ∧ v ≤ m ∧ Hid (Blk wl w2.heap.size 3 (intCells (parTo m E t p v))) ∧ Hid (Below w2.heap.size w2 wl)) (fun _ i _ => m - (intOf i).toNat)
      case atStart => exact ⟨0, rfl, by omega, by rw [Hid, parTo_zero]; exact O4, B4⟩
      case round =>
        obtain ⟨v, rfl, hv, HO, HB⟩ := hrel
        clear O4 B4 hmk
        by_cases hlt : v < m
        · have hi : (v : Int) < (m : Int) := by omega
          have hms := parTo_succ (E := E) (t := t) (r := p) hlt
          obtain ⟨y, hy⟩ := get_of_lt (xs := parTo m E t p v) (k := v) (by rw [parTo_length]; exact hlt)
          have co := (HO.out.cell v).trans (intCells_get hy)
          have cf := HO.out.frozen v
          have O5 := HO.out.set_ v (.int .i64 (-1))
          rw [intCells_set] at O5
          have B5 := HB.out.setCell (p := ⟨w2.heap.size, v, none⟩) (Nat.le_refl _) (.int .i64 (-1))
          by_cases hvp : v = p
          · have hne : ((v : Int) != (p : Int)) = false := by simp [hvp]
            have HO5 : Hid (Blk (wr.setCell ⟨w2.heap.size, v, none⟩ (.int .i64 (-1))) w2.heap.size 3 (intCells (parTo m E t p (v + 1)))) := by
              have e1 : parV E t p v = -1 := by rw [hvp]; exact HPR.out
              rw [Hid, hms, e1]; exact O5
            have HB5 := Lib.hid B5
            clear hms hy O5 B5 hvp
            go_wp2
            go_roundw
            case rel => exact ⟨v + 1, by go_num, by omega, HO5, HB5⟩
            case measure => simp [intOf]; omega
          · have hne : ((v : Int) != (p : Int)) = true := by rw [bne_iff_ne]; omega
            obtain ⟨e, l, hpl, hpv⟩ := HF.out v hlt hvp
            rw [hpv] at hms
            have HQ5 : Hid (OwnQ (wr.setCell ⟨w2.heap.size, v, none⟩ (.int .i64 (-1))) w.heap.size Ar cr E) := own_kept2 HQ2.out fun j hj => B5.block j (World.ownsRow.lt HQ2.out j (blockOf_own.2 hj)).2
            have WC1 := WC.out v hlt Ar cr (wr.setCell ⟨w2.heap.size, v, none⟩ (.int .i64 (-1))) (B2.trans (B5.mono hs2)) (OwnQ.reads HQ5.out)
            rw [hpl] at WC1
            obtain ⟨R, hRR⟩ : ∃ R, e :: l = R := ⟨_, rfl⟩
            have hR0 : Hid (R[0]? = some e) := by rw [Hid, ← hRR]; rfl
            have hRl : 0 < R.length := by rw [← hRR]; simp
            rw [hRR] at WC1
            have WC1 := Lib.hid WC1
            have HMS := Lib.hid hms
            have HO5 := Lib.hid O5
            have HB5 := Lib.hid B5
            have hR1 : (0 : Int) < (R.length : Int) := by omega
            clear hms hy O5 B5 hvp hpl hpv hRR
            go_wp2_with fail
            refine (WC1.out).mono ?_
            rintro e' w6 ⟨A6, c6, rfl, o6, hb6⟩
            obtain ⟨b6, off6, rfl, hb6l, q6⟩ := o6.reads.at_ (ints_at (nI_at hR0.out))
            rw [Nat.add_zero] at q6
            have O6 := HO5.out.next hb6
            have cf6 := O6.frozen v
            obtain ⟨y6, hy6⟩ := get_of_lt (xs := (parTo m E t p v).set v (-1)) (k := v) (by rw [List.length_set, parTo_length]; exact hlt)
            have co6 := (O6.cell v).trans (intCells_get hy6)
            have O7 := O6.set_ v (.int .i64 (e : Int))
            rw [intCells_set, List.set_set, ← HMS.out] at O7
            have HO7 := Lib.hid O7
            have HB7 := Lib.hid ((HB5.out.trans (hb6.mono HB5.out.size)).setCell (p := ⟨w2.heap.size, v, none⟩) (Nat.le_refl _) (.int .i64 (e : Int)))
            clear hy6 O6 O7 o6 hb6
            go_wp2
            go_roundw
            case rel => exact ⟨v + 1, by go_num, by omega, HO7, HB7⟩
            case measure => simp [intOf]; omega
        · obtain rfl : v = m := by omega
          have hO := HO.out
          rw [HDe.out] at hO
          have HB9 := Lib.hid (B2.trans (HB.out.mono hs2))
          go_wp2
          go_ret2
          refine ⟨some ⟨w2.heap.size, 0, none⟩, v, ?_, ?_, HB9.out⟩
          · rw [hDl.out]; rfl
          · have := OwnI.of_blk hO hs2 (by rw [hDl.out]; simp [maxLen]; omega)
            rw [hDl.out] at this
            exact this
    · have hva' : vertB m r = false := by simpa using hva
      rw [hva'] at VA
      rw [hva', if_neg (by simp)]
      obtain ⟨E, hE⟩ : ∃ E, endsL es = E := ⟨_, rfl⟩
      rw [hE] at GC
      rw [hnl] at GC h' ⊢
      clear hj hR hva hva' hE HE
      go_enter Tryz.func37, Tryz.ntmps37
      go_wp2_with fail
      refine (GC.out _ hb0).mono ?_
      rintro e w1 ⟨Ar, lr, cr, rfl, hg1, _, hb1⟩
      obtain ⟨rfl, HQ⟩ := hg1 rfl
      have B1 := hb0.trans (hb1.mono hb0.size)
      have g1 := g0.next hb1
      have c0 := g1.cell 0
      have c1 := g1.cell 1
      clear g0 hb0 hb1 HQ
      go_wp2_with fail
      refine (VA.out _).mono ?_
      rintro e w2 ⟨rfl, hb2⟩
      go_wp2
      go_ret2
      exact ⟨none, 0, rfl, OwnI.nil_ _ _, B1.trans (hb2.mono B1.size)⟩
  · have HE : Hid (parentsE n es xs r = ([], treeErr n es xs)) := by unfold Hid parentsE; rw [if_pos hj]
    rw [HE.out]
    obtain ⟨z, hzz⟩ : ∃ z, treeErr n es xs = z := ⟨_, rfl⟩
    rw [hzz] at GC hj ⊢
    have hb : (z != 0) = true := by simpa using hj
    have HZ := Lib.hid hj
    clear hj hzz HE
    go_enter Tryz.func37, Tryz.ntmps37
    go_wp2_with fail
    refine (GC.out _ hb0).mono ?_
    rintro e w1 ⟨Ar, lr, cr, rfl, _, hg2, hb1⟩
    obtain ⟨rfl, rfl⟩ := hg2 HZ.out
    go_wp2
    go_ret2
    exact ⟨none, 0, rfl, OwnI.nil_ _ _, hb0.trans (hb1.mono hb0.size)⟩
end Go.Proofs.YtghigdcpinengaaGreat

/-! The example of chapter 13, reckoned. -/
namespace Go.Proofs.YtghigdcpinengaaGreat

/-- The graph of the chapter. -/
def ear : List E3 := [(0, 1, 2), (0, 2, 1), (1, 2, 1)]
set_option maxRecDepth 100000
end Go.Proofs.YtghigdcpinengaaGreat

