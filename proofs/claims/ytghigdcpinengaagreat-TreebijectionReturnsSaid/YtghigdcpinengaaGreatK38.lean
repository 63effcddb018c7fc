/-
  Texts of this claim, put together: Pairs, TreeX, SupQ, PairsW, TCyc, TCycM, Without, TCut, TSwap, TPar, EarP, SameL, Ear30.
-/
import Derived.Test.YtghigdcpinengaaGreatK37
import Derived.Test.YtghigdcpinengaaGreatK14
import Derived.Test.YtghigdcpinengaaGreatK34
import Derived.Test.YtghigdcpinengaaGreatK28
import Derived.Test.YtghigdcpinengaaGreatK27
import Derived.Test.YtghigdcpinengaaGreatK03
import Derived.Test.YtghigdcpinengaaGreatK16
import Derived.Deep.RegionLaw
import Derived.Deep.DeepMust
import Derived.Test.YtghigdcpinengaaGreatK05
import Derived.Test.YtghigdcpinengaaGreatK12
import Derived.Test.YtghigdcpinengaaGreatK01
import Derived.Test.YtghigdcpinengaaGreatK02
import Derived.Test.YtghigdcpinengaaGreatK10
import Derived.Deep.QuietTactic
import Derived.BigQuiet
import Derived.Test.YtghigdcpinengaaGreatK20
/-! Slices of pairs of two lists of ints: as the call's own, and as they read. -/
namespace Go.Proofs.YtghigdcpinengaaGreat
open Go.RowKit

theorem own_typeG {w : World} {base n size k : Nat} {e : TypeId} {v : Value} {xs : List Value} (h : w.ownsRow base e size v n xs) (hk : v.ownBlock = some k) : ∃ cs, Blk w k e cs := by
  rcases h.2 with ⟨rfl, _⟩ | ⟨g, cap, cur, rfl, _, hh, _⟩
  · simp [Value.ownBlock] at hk
  · have : g = k := by simpa [Value.ownBlock] using hk
    subst this
    exact ⟨_, hh⟩
/-- A slice of pairs that reads as the lists. -/
def PrsR (w : World) (B : Nat) (A : Option Addr) (ps : List (List Int × List Int)) : Prop :=
  ∃ vs, Reads w B 2 A ps.length vs ∧ ∀ (i : Nat) (p : List Int × List Int), ps[i]? = some p → ∃ A1 c1 A2 c2, vs[2 * i]? = some (.slice A1 p.1.length c1) ∧ vs[2 * i + 1]? = some (.slice A2 p.2.length c2) ∧ Reads w B 1 A1 p.1.length (ints p.1) ∧ Reads w B 1 A2 p.2.length (ints p.2)
/-- .. of the call's own. -/
structure PrsW (T : TypeId) (w : World) (base : Nat) (A : Option Addr) (c : Nat) (vs : List Value) (ps : List (List Int × List Int)) : Prop where
  own : w.ownsRow base T 2 (.slice A ps.length c) ps.length vs
  one : ∀ u ∈ vs, u.oneCell' = true
  rows : ∀ (i : Nat) (p : List Int × List Int), ps[i]? = some p → ∃ A1 c1 A2 c2, vs[2 * i]? = some (.slice A1 p.1.length c1) ∧ vs[2 * i + 1]? = some (.slice A2 p.2.length c2) ∧ Reads w base 1 A1 p.1.length (ints p.1) ∧ OwnI w base A2 c2 p.2
section
variable {T : TypeId} {w w' : World} {base B : Nat} {A A' A1 A2 : Option Addr} {c c' c1 c2 : Nat} {vs : List Value} {ps : List (List Int × List Int)} {x y : List Int}
theorem PrsR.below (h : PrsR w B A ps) (hb : Below B w w') : PrsR w' B A ps := by
  obtain ⟨vs, hr, hi⟩ := h
  refine ⟨vs, hr.below hb, fun i p hp => ?_⟩
  obtain ⟨A1, c1, A2, c2, h1, h2, h3, h4⟩ := hi i p hp
  exact ⟨A1, c1, A2, c2, h1, h2, h3.below hb, h4.below hb⟩
theorem PrsR.more {B' : Nat} (h : PrsR w B A ps) (hB : B ≤ B') : PrsR w B' A ps := by
  obtain ⟨vs, hr, hi⟩ := h
  refine ⟨vs, hr.more hB, fun i p hp => ?_⟩
  obtain ⟨A1, c1, A2, c2, h1, h2, h3, h4⟩ := hi i p hp
  exact ⟨A1, c1, A2, c2, h1, h2, h3.more hB, h4.more hB⟩
theorem PrsR.nil_ (w : World) (B : Nat) : PrsR w B none [] := ⟨[], Reads.nil_, fun i p h => by cases h⟩
theorem PrsR.at_ (h : PrsR w B A ps) {k : Nat} {p : List Int × List Int} (hp : ps[k]? = some p) :
    ∃ b off A1 c1 A2 c2, A = some ⟨b, off, none⟩ ∧ b < B ∧ w.cell? ⟨b, off + k * 2, none⟩ = some (.slice A1 p.1.length c1) ∧ w.cell? ⟨b, off + k * 2 + 1, none⟩ = some (.slice A2 p.2.length c2) ∧ Reads w B 1 A1 p.1.length (ints p.1) ∧ Reads w B 1 A2 p.2.length (ints p.2) := by
  obtain ⟨vs, hr, hi⟩ := h
  obtain ⟨A1, c1, A2, c2, h1, h2, h3, h4⟩ := hi k p hp
  have hk : k < ps.length := (List.getElem?_eq_some_iff.1 hp).1
  obtain ⟨b, off, hA, hb, hc⟩ := hr.2 (by omega)
  refine ⟨b, off, A1, c1, A2, c2, hA, hb, ?_, ?_, h3, h4⟩
  · have := hc _ _ h1; rwa [Nat.mul_comm] at this
  · have := hc _ _ h2; rwa [show off + (2 * k + 1) = off + k * 2 + 1 from by omega] at this
theorem PrsW.nil_ (T : TypeId) (w : World) (base : Nat) : PrsW T w base none 0 [] [] := ⟨World.ownsRow_nil _ _ _ _, by simp, by simp⟩
theorem PrsW.len (h : PrsW T w base A c vs ps) : vs.length = ps.length * 2 := h.own.1
theorem PrsW.next (h : PrsW T w base A c vs ps) (hs : base ≤ w.heap.size) (hb : Below w.heap.size w w') : PrsW T w' base A c vs ps := by
  refine ⟨?_, h.one, fun i p hp => ?_⟩
  · obtain ⟨h1, h2⟩ := h.own
    refine ⟨h1, ?_⟩
    rcases h2 with h2 | ⟨g, cap, cur, hv, hg, hh, r⟩
    · exact .inl h2
    · exact .inr ⟨g, cap, cur, hv, hg, (hb.block g (World.ownsRow.lt h.own g (by rw [hv]; rfl)).2).trans hh, r⟩
  · obtain ⟨A1, c1, A2, c2, h1, h2, h3, h4⟩ := h.rows i p hp
    exact ⟨A1, c1, A2, c2, h1, h2, h3.below (hb.mono hs), h4.next hb⟩
theorem PrsW.drewN (h : PrsW T w base A c vs ps) (k : Nat) : PrsW T (w.drewN k) base A c vs ps := ⟨h.own, h.one, h.rows⟩
/-- One pair more. -/
theorem PrsW.push (hT : 3 ≠ T) (h : PrsW T w base A c vs ps) (h1 : Reads w base 1 A1 x.length (ints x)) (h2 : OwnI w base A2 c2 y) {o : Obj}
    (hown : w'.ownsRow base T 2 (.slice A' (ps.length + 1) c') (ps.length + 1) (vs ++ [.slice A1 x.length c1, .slice A2 y.length c2])) (hg : (w.alloc o).grownBy w' (Value.slice A ps.length c).ownBlock) (hb : Below base w w') :
    PrsW T w' base A' c' (vs ++ [.slice A1 x.length c1, .slice A2 y.length c2]) (ps ++ [(x, y)]) := by
  have keep : ∀ {A1 : Option Addr} {c1 : Nat} {z : List Int}, OwnI w base A1 c1 z → OwnI w' base A1 c1 z := fun {A1 c1 z} ho => own_kept ho fun k hk => by
    have hlt := (own_lt ho hk).2
    refine (hg.block k (by simp; omega) fun e => ?_).trans (Below.heap_alloc w o k hlt)
    obtain ⟨cs, hcs⟩ := own_typeG h.own e.symm
    exact own_blk ho hcs hT hk rfl
  refine ⟨by rw [List.length_append]; exact hown, ?_, fun i p hi => ?_⟩
  · intro u hu
    rcases List.mem_append.1 hu with hu | hu
    · exact h.one u hu
    · simp at hu; rcases hu with rfl | rfl <;> rfl
  · have hl := h.len
    rcases Nat.lt_trichotomy i ps.length with hlt | rfl | hgt
    · rw [List.getElem?_append_left hlt] at hi
      obtain ⟨A3, c3, A4, c4, v1, v2, r1, r2⟩ := h.rows i p hi
      exact ⟨A3, c3, A4, c4, by rw [List.getElem?_append_left (by omega)]; exact v1, by rw [List.getElem?_append_left (by omega)]; exact v2, r1.below hb, keep r2⟩
    · have : p = (x, y) := by simpa using hi.symm
      subst this
      refine ⟨A1, c1, A2, c2, ?_, ?_, h1.below hb, keep h2⟩
      · rw [List.getElem?_append_right (by omega), hl, Nat.mul_comm, Nat.sub_self]; rfl
      · rw [List.getElem?_append_right (by omega), hl, show 2 * ps.length + 1 - ps.length * 2 = 1 from by omega]; rfl
    · rw [List.getElem?_eq_none (by simp; omega)] at hi; cases hi
theorem PrsW.reads (h : PrsW T w base A c vs ps) (hs : base ≤ w.heap.size) : PrsR w w.heap.size A ps :=
  ⟨vs, Reads.of_own h.own, fun i p hp => by
    obtain ⟨A1, c1, A2, c2, h1, h2, h3, h4⟩ := h.rows i p hp
    exact ⟨A1, c1, A2, c2, h1, h2, h3.more hs, h4.reads⟩⟩
end
end Go.Proofs.YtghigdcpinengaaGreat

/-! A connected graph has a spanning tree. No program is in sight. -/
namespace Go.Proofs.YtghigdcpinengaaGreat
end Go.Proofs.YtghigdcpinengaaGreat

/-! The superstable configurations listed: those below the maximal stable one that are superstable, in order. -/
namespace Go.Proofs.YtghigdcpinengaaGreat
open Go.RowKit

section
variable {top c x y : List Int} {n q f v k : Nat} {P : List Int → Bool}
end
theorem cfg_facts {n q : Nat} {es : List E3} {c : List Int} (h : cfgErr n es q c = 0) : rootErr n es q = 0 ∧ RightG n es ∧ q < n ∧ c.length = n ∧ (∀ v, v < n → 0 ≤ c.getD v 0) ∧ c.getD q 0 = 0 ∧ BurnsAll (endsL es) n q c ∧ (∀ v, v < n → c.getD v 0 ≤ (maxL n es q).getD v 0) := by
  obtain ⟨h1, h2⟩ := cfg_iff.1 h
  obtain ⟨hc, h0⟩ := burn_zero h1
  rw [Int.toNat_natCast] at h0
  obtain ⟨hG, _, hq0, hqn, hcl, _, hnn⟩ := conf_zero hc
  have hq : q < n := by omega
  have hr : rootErr n es q = 0 := by
    rcases conf_cases n es q c with ⟨h1, h2⟩ | ⟨h1, _⟩ | ⟨h1, _⟩
    · exact absurd (h2 ▸ hc) h1
    · exact h1
    · exact h1
  have hnn' : ∀ v, v < n → 0 ≤ c.getD v 0 := fun v hv => by
    by_cases hvq : v = q
    · subst hvq; omega
    · exact hnn v (by omega) (by omega)
  refine ⟨hr, hG, hq, by omega, hnn', h0, h2, fun v hv => ?_⟩
  rw [maxL_get hG.ok hv]
  split
  · rename_i e; subst e; omega
  · rename_i e
    have := stabTo_iff.1 (burns_stab hG hq h2) v hv e
    omega
end Go.Proofs.YtghigdcpinengaaGreat

/-! treebijection.Pairs. -/
namespace Go.Proofs.YtghigdcpinengaaGreat
open Go.RowKit

theorem treeN_len {n q : Nat} {es : List E3} {c : List Int} : (treeN (endsL es) n q c).length ≤ (endsL es).length := by
  have := nodup_sub_le (asc_set (endsL es).length (fireC_ (endsL es) n q c).tree).nodup (m := List.range (endsL es).length) (fun x hx => List.mem_range.2 ((asc_set _ _).2 x hx))
  rw [List.length_range] at this
  exact this
end Go.Proofs.YtghigdcpinengaaGreat

/-! Package tree: Cycle (what it returns; the refusals). -/
namespace Go.Proofs.YtghigdcpinengaaGreat
open Go.RowKit

end Go.Proofs.YtghigdcpinengaaGreat

/-! Package tree: Cycle, the way and the sorted cycle; Cycle for all arguments. -/
namespace Go.Proofs.YtghigdcpinengaaGreat
open Go.RowKit

end Go.Proofs.YtghigdcpinengaaGreat

/-! Package tree: without. -/
namespace Go.Proofs.YtghigdcpinengaaGreat
open Go.RowKit

end Go.Proofs.YtghigdcpinengaaGreat

/-! Package tree: Cutset. -/
namespace Go.Proofs.YtghigdcpinengaaGreat
open Go.RowKit

end Go.Proofs.YtghigdcpinengaaGreat

/-! Package tree: Swap. -/
namespace Go.Proofs.YtghigdcpinengaaGreat
open Go.RowKit

end Go.Proofs.YtghigdcpinengaaGreat

/-! Package tree: Parents. -/
namespace Go.Proofs.YtghigdcpinengaaGreat
open Go.RowKit

end Go.Proofs.YtghigdcpinengaaGreat

/-! The example of chapter 13, reckoned. -/
namespace Go.Proofs.YtghigdcpinengaaGreat

/-- The graph of the chapter. -/
def ear : List E3 := [(0, 1, 2), (0, 2, 1), (1, 2, 1)]
set_option maxRecDepth 100000
end Go.Proofs.YtghigdcpinengaaGreat

/-! ref08.SameInts and ref10.SameLists: whether lists, and lists of lists, are the same. -/
namespace Go.Proofs.YtghigdcpinengaaGreat
open Go.RowKit

set_option maxHeartbeats 800000 in
theorem rsameints_any (A : Option Addr) (c : Nat) (xs : List Int) (B : Option Addr) (d : Nat) (ys : List Int) (hn : xs.length ≤ 1048576) (w : World) (h : Reads w w.heap.size 1 A xs.length (ints xs)) (h' : Reads w w.heap.size 1 B ys.length (ints ys)) :
    Calls Tryz.prog 53 #[.slice A xs.length c, .slice B ys.length d] w fun e w' => e = .returned (.bool (decide (xs = ys))) ∧ Below w.heap.size w w' := by
  by_cases hl : xs.length = ys.length
  · have HL := Lib.hid hl
    have hb : ((xs.length : Int) != (ys.length : Int)) = false := by simp; omega
    clear hl
    go_enter Tryz.func53, Tryz.ntmps53
    go_wp2
    clear hb
    go_loopw [5] (fun i wr => ∃ k : Nat, k ≤ xs.length ∧ i = .int .i64 k ∧ Below w.heap.size w wr ∧ Hid (xs.take k = ys.take k)) (fun i _ => xs.length - (intOf i).toNat)
    case atStart => exact ⟨0, by omega, rfl, Below.refl _ _, by simp [Hid]⟩
    case round =>
      obtain ⟨k, hk, rfl, hbel, HS⟩ := hrel
      by_cases hlt : k < xs.length
      · obtain ⟨x, hx⟩ := get_of_lt hlt
        obtain ⟨y, hy⟩ := get_of_lt (xs := ys) (k := k) (by have := HL.out; omega)
        have HX := Lib.hid hx
        have HY := Lib.hid hy
        obtain ⟨b, off, rfl, hb, hcell⟩ := (h.below hbel).at_ (ints_at hx)
        obtain ⟨b', off', rfl, hb', hcell'⟩ := (h'.below hbel).at_ (ints_at hy)
        have hi : (k : Int) < (xs.length : Int) := by omega
        have hi' : (k : Int) < (ys.length : Int) := by have := HL.out; omega
        clear hx hy h h'
        by_cases hxy : x = y
        · subst hxy
          go_wp2
          go_quiet (fail)
          go_wp2
          go_roundw
          case rel => exact ⟨k + 1, by omega, by go_num, below_drewN hbel _, by rw [Hid, take_snoc HX.out, take_snoc HY.out, HS.out]⟩
          case measure => simp [intOf]; omega
        · have hbx : (x != y) = true := by simpa using hxy
          go_wp2
          go_quiet (fail)
          go_wp2
          go_ret
          refine ⟨ret_bool ?_, below_drewN hbel _⟩
          have : ¬ xs = ys := fun e => hxy (by have h1 := HX.out; rw [e, HY.out] at h1; injection h1 with h1; exact h1.symm)
          simp [this]
      · go_wp2
        go_ret
        refine ⟨ret_bool ?_, hbel⟩
        have e : xs = ys := by have h1 := HS.out; rw [show k = xs.length from by omega, List.take_length, HL.out, List.take_length] at h1; exact h1
        simp [e]
  · have hb : ((xs.length : Int) != (ys.length : Int)) = true := by simp; omega
    go_enter Tryz.func53, Tryz.ntmps53
    go_wp2
    go_ret
    have : ¬ xs = ys := fun e => hl (by rw [e])
    exact ⟨ret_bool (by simp [this]), Below.refl _ _⟩
set_option maxRecDepth 100000 in
set_option maxHeartbeats 4000000 in
theorem samelists_any (A : Option Addr) (c : Nat) (xss : List (List Int)) (B : Option Addr) (d : Nat) (yss : List (List Int)) (hn : ∀ xs ∈ xss, xs.length ≤ 1048576) (hn2 : xss.length ≤ 1048576) (w : World) (h : RowsR w w.heap.size A xss) (h' : RowsR w w.heap.size B yss) :
    Calls Tryz.prog 16 #[.slice A xss.length c, .slice B yss.length d] w fun e w' => e = .returned (.bool (decide (xss = yss))) ∧ Below w.heap.size w w' := by
  by_cases hl : xss.length = yss.length
  · have hb : ((xss.length : Int) != (yss.length : Int)) = false := by simp; omega
    obtain ⟨vs, hv, hrow⟩ := h
    obtain ⟨us, hu, hrow'⟩ := h'
    have HV := Lib.hid hv
    have HU := Lib.hid hu
    have HR := Lib.hid hrow
    have HR' := Lib.hid hrow'
    have HN := Lib.hid hn
    have HL := Lib.hid hl
    rw [← hl]
    clear hv hu hrow hrow' hn hl
    go_enter Tryz.func16, Tryz.ntmps16
    go_wp2_with fail
    go_loopw [5] (fun i wl => ∃ k : Nat, i = .int .i64 k ∧ k ≤ xss.length ∧ Hid (∀ j, j < k → xss[j]? = yss[j]?) ∧ Hid (Below w.heap.size w wl)) (fun i _ => xss.length - (intOf i).toNat)
    case atStart => exact ⟨0, rfl, by omega, fun j hj => by omega, Below.refl _ _⟩
    case round =>
      obtain ⟨k, rfl, hk, HE, HW⟩ := hrel
      have hwz := HW.out.size
      by_cases hlt : k < xss.length
      · have hi : (k : Int) < (xss.length : Int) := by omega
        obtain ⟨xs, hx⟩ := get_of_lt hlt
        obtain ⟨ys, hy⟩ := get_of_lt (xs := yss) (k := k) (by have := HL.out; omega)
        obtain ⟨A1, c1, hvk, hr1⟩ := HR.out k xs hx
        obtain ⟨A2, c2, huk, hr2⟩ := HR'.out k ys hy
        obtain ⟨b1, o1, hA, _, e1⟩ := (HV.out.below HW.out).at_ hvk
        subst hA
        obtain ⟨b2, o2, hB, _, e2⟩ := (HU.out.below HW.out).at_ huk
        subst hB
        have DS := Lib.hid (rsameints_any A1 c1 xs A2 c2 ys (HN.out xs (List.mem_of_getElem? hx)) wr.drew (by exact (hr1.below HW.out).more hwz) (by exact (hr2.below HW.out).more hwz))
        have HX := Lib.hid hx
        have HY := Lib.hid hy
        have hi2 : (k : Int) < (yss.length : Int) := by have := HL.out; omega
        clear hx hy hvk huk hr1 hr2
        by_cases he : xs = ys
        · rw [decide_eq_true he] at DS
          have HS : Hid (xss[k]? = yss[k]?) := by rw [Hid, HX.out, HY.out, he]
          clear he
          go_wp2_with fail
          refine region_tail 8 (by kernel_rfl) (by kernel_rfl) ?_
          simp only [List.take_succ_cons, List.take_zero, List.drop_succ_cons, List.drop_zero]
          repeat still_step
          refine wpStill_nil ?_
          go_wp2_with fail
          refine (DS.out).mono ?_
          rintro e w5 ⟨rfl, hw5⟩
          have HW5 : Hid (Below w.heap.size w w5) := (below_drewN HW.out 1).trans (hw5.mono hwz)
          clear hw5
          go_wp2
          go_roundw
          case rel => exact ⟨k + 1, by go_num, by omega, fun j hj => by
            by_cases hjk : j = k
            · rw [hjk]; exact HS.out
            · exact HE.out j (by omega), HW5.out⟩
          case measure => simp [intOf]; omega
        · rw [decide_eq_false he] at DS
          have HF : Hid (decide (xss = yss) = false) := by
            rw [Hid, decide_eq_false_iff_not]
            intro hh
            rw [hh, HY.out] at HX
            have := HX.out
            injection this with this
            exact he this.symm
          clear he
          go_wp2_with fail
          refine region_tail 8 (by kernel_rfl) (by kernel_rfl) ?_
          simp only [List.take_succ_cons, List.take_zero, List.drop_succ_cons, List.drop_zero]
          repeat still_step
          refine wpStill_nil ?_
          go_wp2_with fail
          refine (DS.out).mono ?_
          rintro e w5 ⟨rfl, hw5⟩
          have HW5 : Hid (Below w.heap.size w w5) := (below_drewN HW.out 1).trans (hw5.mono hwz)
          clear hw5
          go_wp2
          go_ret
          exact ⟨by rw [HF.out]; rfl, HW5.out⟩
      · have hkl : k = xss.length := by omega
        subst hkl
        have HF : Hid (decide (xss = yss) = true) := by
          rw [Hid, decide_eq_true_iff]
          apply List.ext_getElem?
          intro i
          by_cases hi : i < xss.length
          · exact HE.out i hi
          · have := HL.out
            rw [List.getElem?_eq_none (by omega), List.getElem?_eq_none (by omega)]
        go_wp2
        go_ret
        exact ⟨by rw [HF.out]; rfl, HW.out⟩
  · have hb : ((xss.length : Int) != (yss.length : Int)) = true := by simp; omega
    have HF : Hid (decide (xss = yss) = false) := by
      rw [Hid, decide_eq_false_iff_not]
      exact fun hh => hl (by rw [hh])
    go_enter Tryz.func16, Tryz.ntmps16
    go_wp2
    go_ret
    exact ⟨by rw [HF.out]; rfl, Below.refl _ _⟩
end Go.Proofs.YtghigdcpinengaaGreat

/-! The examples of chapter 30, each by itself. -/
namespace Go.Proofs.YtghigdcpinengaaGreat
open Go.RowKit

theorem Blk.newA {w : World} {g : Nat} {t : TypeId} {cs : Array Value} (hg : g = w.heap.size) : Blk (w.alloc (.cells cs t)) g t cs := by subst hg; exact Blk.new w t cs
set_option maxHeartbeats 1000000 in
theorem ear30_any (w : World) : Calls Tryz.prog 49 #[] w fun e w' => ∃ A c, e = .returned (.agg #[.int .i64 3, .slice A 3 c]) ∧ Reads w' w'.heap.size 3 A ear.length (edgeCells ear) ∧ Below w.heap.size w w' := by
  go_enter Tryz.func49, Tryz.ntmps49
  go_wp2
  refine bodyPost_ret (results_g rfl rfl ((Blk.new w 24 #[.int .i64 3, .slice (some ⟨w.heap.size + 1, 0, none⟩) 3 3]).alloc _) rfl) rfl ?_
  have hB := Blk.new (w.alloc (.cells #[.int .i64 3, .slice (some ⟨w.heap.size + 1, 0, none⟩) 3 3] 24)) 104 (edgeCells ear).toArray
  rw [show (w.alloc (.cells #[.int .i64 3, .slice (some ⟨w.heap.size + 1, 0, none⟩) 3 3] 24)).heap.size = w.heap.size + 1 from by simp] at hB
  refine ⟨some ⟨w.heap.size + 1, 0, none⟩, 3, rfl, ⟨by simp [edgeCells_length], fun _ => ⟨w.heap.size + 1, 0, rfl, by simp, fun j u hu => ?_⟩⟩, ((Below.refl _ _).alloc (Nat.le_refl _) _).alloc (by simp) _⟩
  rw [Nat.zero_add]
  refine (hB.cell j).trans ?_
  rw [← hu, List.getElem?_toArray]
theorem rows_litA {W : World} {g : Nat} {t : TypeId} {vs : List Value} {xss : List (List Int)} (h : Blk W g t vs.toArray) (hl : vs.length = xss.length) (hr : ∀ (i : Nat) (xs : List Int), xss[i]? = some xs → ∃ A' c', vs[i]? = some (.slice A' xs.length c') ∧ Reads W W.heap.size 1 A' xs.length (ints xs)) : RowsR W W.heap.size (some ⟨g, 0, none⟩) xss :=
  ⟨vs, ⟨by rw [hl]; simp, fun _ => ⟨g, 0, rfl, h.lt, fun j u hu => by rw [Nat.zero_add, h.cell j]; simpa using hu⟩⟩, hr⟩
theorem row_litA {W : World} {g : Nat} {xs : List Int} (h : Blk W g 3 (ints xs).toArray) : Reads W W.heap.size 1 (some ⟨g, 0, none⟩) xs.length (ints xs) :=
  ⟨by simp [ints], fun _ => ⟨g, 0, rfl, h.lt, fun j u hu => by rw [Nat.zero_add, h.cell j]; simpa using hu⟩⟩
theorem a30_tr1 : treeFE 3 ear 0 [0, 1, 0] = ([1, 2], [0, 1, 2], 0) := by decide +kernel
theorem a30_tr2 : treeFE 3 ear 0 [0, 0, 1] = ([0, 3], [0, 1, 2], 0) := by decide +kernel
theorem a30_st : stepsE 3 ear 0 [0, 0, 1] = ([0, 2, 3], 0) := by decide +kernel
theorem a30_un1 : unusedFE 3 ear 0 [1, 2] = ([3], 0) := by decide +kernel
theorem a30_cf : confFE 3 ear 0 [0, 2] = ([0, 0, 0], 0) := by decide +kernel
theorem a30_un2 : unusedFE 3 ear 0 [0, 2] = ([1, 3], 0) := by decide +kernel
theorem a30_rc : recFE 3 ear 0 [0, 2] = ([0, 2, 1], 0) := by decide +kernel
theorem c30_tr1 (A : Option Addr) (c : Nat) (B : Option Addr) (d : Nat) (w : World) (h : Reads w w.heap.size 3 A ear.length (edgeCells ear)) (h' : Reads w w.heap.size 1 B 3 (ints [0, 1, 0])) : Calls Tryz.prog 14 #[.agg #[.int .i64 3, .slice A 3 c], .int .i64 0, .slice B 3 d] w fun e w' => ∃ A1 c1 A2 c2, e = .returned (.tuple #[.slice A1 2 c1, .slice A2 3 c2, .int .i64 0]) ∧ Reads w' w'.heap.size 1 A1 2 (ints [1, 2]) ∧ Reads w' w'.heap.size 1 A2 3 (ints [0, 1, 2]) ∧ Below w.heap.size w w' := by
  have hb := ttree30_any 3 0 A c ear (by decide) (by decide) B d [0, 1, 0] (by decide) w h h'
  rw [a30_tr1] at hb
  refine hb.mono ?_
  rintro e w' ⟨A1, c1, A2, c2, he, o1, o2, hb⟩
  exact ⟨A1, c1, A2, c2, he, o1.reads, o2.reads, hb⟩
theorem c30_tr2 (A : Option Addr) (c : Nat) (B : Option Addr) (d : Nat) (w : World) (h : Reads w w.heap.size 3 A ear.length (edgeCells ear)) (h' : Reads w w.heap.size 1 B 3 (ints [0, 0, 1])) : Calls Tryz.prog 14 #[.agg #[.int .i64 3, .slice A 3 c], .int .i64 0, .slice B 3 d] w fun e w' => ∃ A1 c1 A2 c2, e = .returned (.tuple #[.slice A1 2 c1, .slice A2 3 c2, .int .i64 0]) ∧ Reads w' w'.heap.size 1 A1 2 (ints [0, 3]) ∧ Reads w' w'.heap.size 1 A2 3 (ints [0, 1, 2]) ∧ Below w.heap.size w w' := by
  have hb := ttree30_any 3 0 A c ear (by decide) (by decide) B d [0, 0, 1] (by decide) w h h'
  rw [a30_tr2] at hb
  refine hb.mono ?_
  rintro e w' ⟨A1, c1, A2, c2, he, o1, o2, hb⟩
  exact ⟨A1, c1, A2, c2, he, o1.reads, o2.reads, hb⟩
theorem c30_st (A : Option Addr) (c : Nat) (B : Option Addr) (d : Nat) (w : World) (h : Reads w w.heap.size 3 A ear.length (edgeCells ear)) (h' : Reads w w.heap.size 1 B 3 (ints [0, 0, 1])) : Calls Tryz.prog 13 #[.agg #[.int .i64 3, .slice A 3 c], .int .i64 0, .slice B 3 d] w fun e w' => ∃ A1 c1, e = .returned (.tuple #[.slice A1 3 c1, .int .i64 0]) ∧ Reads w' w'.heap.size 1 A1 3 (ints [0, 2, 3]) ∧ Below w.heap.size w w' := by
  have hb := steps30_any 3 0 A c ear (by decide) (by decide) B d [0, 0, 1] (by decide) w h h'
  rw [a30_st] at hb
  refine hb.mono ?_
  rintro e w' ⟨A1, c1, he, o1, hb⟩
  exact ⟨A1, c1, he, o1.reads, hb⟩
theorem c30_un1 (A : Option Addr) (c : Nat) (B : Option Addr) (d : Nat) (w : World) (h : Reads w w.heap.size 3 A ear.length (edgeCells ear)) (h' : Reads w w.heap.size 1 B 2 (ints [1, 2])) : Calls Tryz.prog 20 #[.agg #[.int .i64 3, .slice A 3 c], .int .i64 0, .slice B 2 d] w fun e w' => ∃ A1 c1, e = .returned (.tuple #[.slice A1 1 c1, .int .i64 0]) ∧ Reads w' w'.heap.size 1 A1 1 (ints [3]) ∧ Below w.heap.size w w' := by
  have hb := unused30_any 3 0 A c ear (by decide) (by decide) B d [1, 2] (by decide) w h h'
  rw [a30_un1] at hb
  refine hb.mono ?_
  rintro e w' ⟨A1, c1, he, o1, hb⟩
  exact ⟨A1, c1, he, o1.reads, hb⟩
theorem c30_cf (A : Option Addr) (c : Nat) (B : Option Addr) (d : Nat) (w : World) (h : Reads w w.heap.size 3 A ear.length (edgeCells ear)) (h' : Reads w w.heap.size 1 B 2 (ints [0, 2])) : Calls Tryz.prog 18 #[.agg #[.int .i64 3, .slice A 3 c], .int .i64 0, .slice B 2 d] w fun e w' => ∃ A1 c1, e = .returned (.tuple #[.slice A1 3 c1, .int .i64 0]) ∧ Reads w' w'.heap.size 1 A1 3 (ints [0, 0, 0]) ∧ Below w.heap.size w w' := by
  have hb := config30_any 3 0 A c ear (by decide) (by decide) B d [0, 2] (by decide) w h h'
  rw [a30_cf] at hb
  refine hb.mono ?_
  rintro e w' ⟨A1, c1, he, o1, hb⟩
  exact ⟨A1, c1, he, o1.reads, hb⟩
theorem c30_un2 (A : Option Addr) (c : Nat) (B : Option Addr) (d : Nat) (w : World) (h : Reads w w.heap.size 3 A ear.length (edgeCells ear)) (h' : Reads w w.heap.size 1 B 2 (ints [0, 2])) : Calls Tryz.prog 20 #[.agg #[.int .i64 3, .slice A 3 c], .int .i64 0, .slice B 2 d] w fun e w' => ∃ A1 c1, e = .returned (.tuple #[.slice A1 2 c1, .int .i64 0]) ∧ Reads w' w'.heap.size 1 A1 2 (ints [1, 3]) ∧ Below w.heap.size w w' := by
  have hb := unused30_any 3 0 A c ear (by decide) (by decide) B d [0, 2] (by decide) w h h'
  rw [a30_un2] at hb
  refine hb.mono ?_
  rintro e w' ⟨A1, c1, he, o1, hb⟩
  exact ⟨A1, c1, he, o1.reads, hb⟩
theorem c30_rc (A : Option Addr) (c : Nat) (B : Option Addr) (d : Nat) (w : World) (h : Reads w w.heap.size 3 A ear.length (edgeCells ear)) (h' : Reads w w.heap.size 1 B 2 (ints [0, 2])) : Calls Tryz.prog 22 #[.agg #[.int .i64 3, .slice A 3 c], .int .i64 0, .slice B 2 d] w fun e w' => ∃ A1 c1, e = .returned (.tuple #[.slice A1 3 c1, .int .i64 0]) ∧ Reads w' w'.heap.size 1 A1 3 (ints [0, 2, 1]) ∧ Below w.heap.size w w' := by
  have hb := recur30_any 3 0 A c ear (by decide) (by decide) B d [0, 2] (by decide) w h h'
  rw [a30_rc] at hb
  refine hb.mono ?_
  rintro e w' ⟨A1, c1, he, o1, hb⟩
  exact ⟨A1, c1, he, o1.reads, hb⟩

end Go.Proofs.YtghigdcpinengaaGreat

