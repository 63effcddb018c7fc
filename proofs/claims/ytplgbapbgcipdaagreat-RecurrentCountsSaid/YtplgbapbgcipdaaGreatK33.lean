/-
  Texts of this claim, put together: RRecs, RRVer, RBan, DivP, RForb, CfgF, Sup.
-/
import Derived.Test.YtplgbapbgcipdaaGreatK32
import Derived.Test.YtplgbapbgcipdaaGreatK30
import Derived.Test.YtplgbapbgcipdaaGreatK10
import Derived.Test.YtplgbapbgcipdaaGreatK12
import Derived.Test.YtplgbapbgcipdaaGreatK11
import Derived.Stop.RegionWithIn
import Derived.Sort.CutIn
import Derived.Test.YtplgbapbgcipdaaGreatK24
import Derived.Test.YtplgbapbgcipdaaGreatK21
import Derived.Deep.RegionHeld3
import Derived.Test.YtplgbapbgcipdaaGreatK31
import Derived.Test.YtplgbapbgcipdaaGreatK23
import Derived.Test.YtplgbapbgcipdaaGreatK27
/-! Package recurrent: the iterator recurrents, which ranges over itself. -/
namespace Go.Proofs.YtplgbapbgcipdaaGreat
open Go.RowKit Go.Shelf
attribute [local go_sem] Oper.semAt_some

/-- What holds between two rounds; K: what is leant on. -/
structure RF (K : Nat → Prop) (l : Nat) (J : List (List Int) → (Nat → Prop) → World → Prop) (W : World) (pre : List (List Int)) (C : Nat → Prop) (ds : List Deferred) (B : Nat) (w : World) : Prop where
  sz : W.heap.size < B
  szw : B ≤ w.heap.size
  kp : ∀ k, K k → k < W.heap.size ∧ w.heap[k]? = W.heap[k]?
  yb : Blk w W.heap.size 51 #[.func (.yield l) #[] #[]]
  j : J pre C w
  cl : ∀ k, C k → k < w.heap.size ∧ ¬ K k ∧ k ≠ W.heap.size
  mks : MarksAt ds w
  md : ∀ D, ({ target := .collected D, args := #[] } : Deferred) ∈ ds → W.heap.size < D ∧ D < B ∧ ¬ C D

section
variable {K : Nat → Prop} {l : Nat} {J : List (List Int) → (Nat → Prop) → World → Prop} {W : World} {pre pre' : List (List Int)} {C O C' : Nat → Prop} {ds : List Deferred} {B B' : Nat} {w w' : World}
theorem RF.stays (h : RF K l J W pre C ds B w) (hJ : Bears W.heap.size (fun _ => False) J) (hB : B ≤ B') (hst : Stays B' (fun _ => False) C w w') : RF K l J W pre C ds B w' := by
  have hsz := h.sz
  have hszw := h.szw
  refine ⟨h.sz, Nat.le_trans h.szw hst.size, fun k hk => ?_, h.yb.stays hst (.inr ⟨by omega, id⟩), ?_, ?_, ?_, h.md⟩
  · obtain ⟨h1, h2⟩ := h.kp k hk
    exact ⟨h1, (hst.block k (by omega) (.inr ⟨by omega, id⟩)).trans h2⟩
  · exact hJ _ _ _ _ h.j (hst.mono fun k _ hk => hk.imp id fun hk => ⟨by omega, hk.2⟩)
  · intro k hk
    obtain ⟨h1, h2⟩ := h.cl k hk
    exact ⟨Nat.lt_of_lt_of_le h1 hst.size, h2⟩
  · refine h.mks.keep fun D hD => ?_
    have := h.md D hD
    exact hst.block D (by omega) (.inr ⟨by omega, id⟩)
theorem RF.raise (h : RF K l J W pre C ds B w) (hB : B ≤ B') (hw : B' ≤ w.heap.size) : RF K l J W pre C ds B' w :=
  { h with sz := Nat.lt_of_lt_of_le h.sz hB, szw := hw, md := fun D hD => ⟨(h.md D hD).1, Nat.lt_of_lt_of_le (h.md D hD).2.1 hB, (h.md D hD).2.2⟩ }
theorem RF.round (h : RF K l J W pre C ds B w) (ho : Only (fun k => C k ∨ O k) w w') (hg : Grows C O C' w w') (hO : ∀ k, O k → B ≤ k ∧ k < w.heap.size) (hj : J pre' C' w') : RF K l J W pre' C' ds B w' := by
  have hsz := h.sz
  have hszw := h.szw
  have hnot : ∀ k, k < B → ¬ C k → ¬ (C k ∨ O k) := fun k hk hn hco => hco.elim hn fun hok => by have := (hO k hok).1; omega
  refine ⟨h.sz, Nat.le_trans h.szw ho.size, fun k hk => ?_, h.yb.only ho (hnot _ (by omega) fun hc => (h.cl W.heap.size hc).2.2 rfl), hj, ?_, ?_, ?_⟩
  · obtain ⟨h1, h2⟩ := h.kp k hk
    exact ⟨h1, (ho.block k (by omega) (hnot k (by omega) fun hc => (h.cl k hc).2.1 hk)).trans h2⟩
  · intro k hk
    rcases hg k hk with hc | hc | hc
    · obtain ⟨q1, q2⟩ := h.cl k hc
      exact ⟨Nat.lt_of_lt_of_le q1 ho.size, q2⟩
    · have := hO k hc
      exact ⟨Nat.lt_of_lt_of_le this.2 ho.size, (fun e => by have := (h.kp k e).1; omega), by omega⟩
    · exact ⟨hc.2, (fun e => by have := (h.kp k e).1; omega), by omega⟩
  · refine h.mks.keep fun D hD => ?_
    have := h.md D hD
    exact ho.block D (by omega) (hnot D (by omega) this.2.2)
  · intro D hD
    have := h.md D hD
    refine ⟨this.1, this.2.1, fun hc => ?_⟩
    rcases hg D hc with q | q | q
    · exact this.2.2 q
    · have := (hO D q).1; omega
    · omega
end

/-- What the iterator leans on. -/
def KR (bp bv bt : Nat) (es : List E3) (A C T : Option Addr) (k : Nat) : Prop := k = bp ∨ k = bv ∨ k = bt ∨ (es.length ≠ 0 ∧ blockOf A k) ∨ blockOf C k ∨ blockOf T k
structure RecW (w : World) (n q v bp bv bt : Nat) (es : List E3) (A : Option Addr) (cA : Nat) (C : Option Addr) (cC : Nat) (T : Option Addr) (cT : Nat) (cs top : List Int) : Prop where
  p : Blk w bp 80 #[.int .i64 n, .slice A es.length cA, .int .i64 q, .slice C n cC]
  v : Blk w bv 3 #[.int .i64 v]
  t : Blk w bt 26 #[.slice T n cT]
  e : Reads w w.heap.size 3 A es.length (edgeCells es)
  c : Reads w w.heap.size 1 C n (ints cs)
  r : Reads w w.heap.size 1 T n (ints top)
section
variable {w w' : World} {n q v bp bv bt : Nat} {es : List E3} {A C T : Option Addr} {cA cC cT : Nat} {cs top : List Int}
theorem RecW.kept (h : RecW w n q v bp bv bt es A cA C cC T cT cs top) (hs : w.heap.size ≤ w'.heap.size) (hk : ∀ k, KR bp bv bt es A C T k → w'.heap[k]? = w.heap[k]?) : RecW w' n q v bp bv bt es A cA C cC T cT cs top := by
  refine ⟨(hk _ (.inl rfl)).trans h.p, (hk _ (.inr (.inl rfl))).trans h.v, (hk _ (.inr (.inr (.inl rfl)))).trans h.t, ⟨h.e.1, fun hn => ?_⟩, ⟨h.c.1, fun hn => ?_⟩, ⟨h.r.1, fun hn => ?_⟩⟩
  · obtain ⟨b, off, hA, hb, hc⟩ := h.e.2 hn
    exact ⟨b, off, hA, by omega, fun j u hu => (World.cell?_of_block (w := w) (hk b (.inr (.inr (.inr (.inl ⟨by omega, _, hA, rfl⟩)))))).trans (hc j u hu)⟩
  · obtain ⟨b, off, hA, hb, hc⟩ := h.c.2 hn
    exact ⟨b, off, hA, by omega, fun j u hu => (World.cell?_of_block (w := w) (hk b (.inr (.inr (.inr (.inr (.inl ⟨_, hA, rfl⟩))))))).trans (hc j u hu)⟩
  · obtain ⟨b, off, hA, hb, hc⟩ := h.r.2 hn
    exact ⟨b, off, hA, by omega, fun j u hu => (World.cell?_of_block (w := w) (hk b (.inr (.inr (.inr (.inr (.inr ⟨_, hA, rfl⟩))))))).trans (hc j u hu)⟩
theorem RecW.lt (h : RecW w n q v bp bv bt es A cA C cC T cT cs top) (hn : 0 < n) {k : Nat} (hk : KR bp bv bt es A C T k) : k < w.heap.size := by
  rcases hk with rfl | rfl | rfl | ⟨he, ad, hA, hk⟩ | ⟨ad, hA, hk⟩ | ⟨ad, hA, hk⟩
  · exact h.p.lt
  · exact h.v.lt
  · exact h.t.lt
  · obtain ⟨b, off, e, hb, _⟩ := h.e.2 (by omega)
    rw [e] at hA; injection hA with hA; subst hA; subst hk; exact hb
  · obtain ⟨b, off, e, hb, _⟩ := h.c.2 hn
    rw [e] at hA; injection hA with hA; subst hA; subst hk; exact hb
  · obtain ⟨b, off, e, hb, _⟩ := h.r.2 hn
    rw [e] at hA; injection hA with hA; subst hA; subst hk; exact hb
theorem RecW.next (h : RecW w n q v bp bv bt es A cA C cC T cT cs top) (hn : 0 < n) (hb : Below w.heap.size w w') : RecW w' n q v bp bv bt es A cA C cC T cT cs top := h.kept hb.size fun k hk => hb.block k (h.lt hn hk)
end

set_option maxHeartbeats 1000000 in
theorem frecs_any (n m c : Nat) (A : Option Addr) (q : Int) (B : Option Addr) (k d : Nat) (v : Int) (T : Option Addr) (kT cT : Nat) (w : World) :
    Calls Tryz.prog 48 #[.agg #[.int .i64 n, .slice A m c, .int .i64 q, .slice B k d], .int .i64 v, .slice T kT cT] w fun e w' => e = .returned (.func (.func 80) #[] #[.pointer (some ⟨w.heap.size, 0, none⟩), .pointer (some ⟨w.heap.size + 1, 0, none⟩), .pointer (some ⟨w.heap.size + 1 + 1, 0, none⟩)]) ∧
      ((w.alloc (.cells #[.int .i64 n, .slice A m c, .int .i64 q, .slice B k d] 80)).alloc (.cells #[.int .i64 v] 3)).alloc (.cells #[.slice T kT cT] 26) = w' := by
  have hmf : ∀ (fn : Fn) (first cap : Array Value) (w : World), (Instr.makeFunc fn first cap).run Tryz.prog w = .ok (.func fn first cap) w := fun _ _ _ _ => rfl
  go_enter Tryz.func48, Tryz.ntmps48
  go_wp2
  go_ret
  exact ⟨rfl, rfl⟩
end Go.Proofs.YtplgbapbgcipdaaGreat

/-! recurrent.Verify. -/
namespace Go.Proofs.YtplgbapbgcipdaaGreat
open Go.RowKit

/-- Does each vertex of a list catch fire when the earlier ones burn? -/
def prvFrom (es : List E3) (cs : List Int) : List Nat → List Nat → Bool
  | _, [] => true
  | s, x :: r => catchB es cs s x && prvFrom es cs (s ++ [x]) r
def prvL (es : List E3) (cs : List Int) (l : List Nat) : Bool := prvFrom es cs (l.take 1) (l.drop 1)
/-- What Verify returns. -/
def rverB (n : Int) (es : List E3) (q : Int) (cs xs : List Int) : Bool := if verErr n es q cs xs = 0 then decide (xs.getD 0 0 = q) && stabTo es cs q.toNat n.toNat && prvL es cs (xs.map Int.toNat) else false

end Go.Proofs.YtplgbapbgcipdaaGreat

/-! ref24.Banned: is a set forbidden? -/
namespace Go.Proofs.YtplgbapbgcipdaaGreat
open Go.RowKit

end Go.Proofs.YtplgbapbgcipdaaGreat

/-! Deletion of a single edge: the graph that is made without it, and its spanning trees. No program is in sight. -/
namespace Go.Proofs.YtplgbapbgcipdaaGreat

section
variable {E : List (Nat × Nat)} {k : Nat}
end
end Go.Proofs.YtplgbapbgcipdaaGreat

/-! Package recurrent: Forbidden. -/
namespace Go.Proofs.YtplgbapbgcipdaaGreat
open Go.RowKit

/-- What Forbidden returns. -/
def forbE (n : Int) (es : List E3) (q : Int) (cs : List Int) : List Int × Int := if burnErr n es q cs = 0 then (natI (worstL n.toNat es cs q.toNat), 0) else ([], burnErr n es q cs)
/-- How many cells hold true. -/
def leftM (g : Nat) (w : World) : Nat := match w.heap[g]? with
  | some (.cells cs _ _) => (cs.toList.filter fun v => match v with | .bool b => b | _ => false).length
  | _ => 0
theorem leftM_of {w : World} {g : Nat} {s : List Bool} (h : Blk w g 4 (bools s)) : leftM g w = (s.filter id).length := by
  unfold leftM
  rw [show w.heap[g]? = _ from h]
  simp only [bools]
  rw [List.filter_map, List.length_map]
  rfl
def flagV : Value → Nat
  | .bool true => 1
  | _ => 0
theorem marks_count {n : Nat} {l : List Nat} : ((marks n l).filter id).length = ((List.range n).filter fun u => decide (u ∈ l)).length := by
  unfold marks
  rw [List.filter_map, List.length_map]
  rfl
theorem rest_count {n : Nat} {l : List Nat} (hl : LOk n l) : ((marks n (restL n l)).filter id).length + l.length = n := by
  rw [marks_count]
  have h1 : ((List.range n).filter fun u => decide (u ∈ restL n l)) = restL n l := by
    unfold restL
    apply List.filter_congr
    intro u hu
    rw [Bool.eq_iff_iff]
    simp [List.mem_range.1 hu]
  rw [h1]
  exact rest_len l hl

set_option maxRecDepth 100000 in
set_option maxHeartbeats 8000000 in
theorem forb_ok (n : Nat) (A : Option Addr) (c : Nat) (es : List E3) (hlen : es.length ≤ 10000) (q : Nat) (B : Option Addr) (d : Nat) (cs : List Int) (hz : burnErr n es q cs = 0) (w : World)
    (h : Reads w w.heap.size 3 A es.length (edgeCells es)) (h' : Reads w w.heap.size 1 B cs.length (ints cs)) :
    Calls Tryz.prog 33 #[.agg #[.int .i64 n, .slice A es.length c], .int .i64 q, .slice B cs.length d] w fun e w' => ∃ A' c', e = .returned (.tuple #[.slice A' (natI (worstL n es cs q)).length c', .int .i64 0]) ∧ OwnI w' w.heap.size A' c' (natI (worstL n es cs q)) ∧ Below w.heap.size w w' := by
  obtain ⟨hR, hq, hcl⟩ := burn_rargs hlen hz
  have hG := right_of hR.hz
  have hn12 : n ≤ 12 := by have := hG.hi; omega
  have BC := Lib.hid (reccheck_any n A c es (by omega) q B d cs (by omega))
  rw [hz] at BC
  rw [hcl] at h' BC ⊢
  have HJ := Lib.hid (fun (v : Nat) (g : Nat) (l : List Nat) (W : World) (hB : Below w.heap.size w W) (hm : Blk W g 4 (bools (marks n l))) => rjoins_any n A c es hlen hG.ok q B n d v g l W ((h.below hB).more hB.size) hm)
  have RP := Lib.hid (repeat_any n (by omega) hn12)
  have g0 := Blk.new w 24 #[.int .i64 n, .slice A es.length c]
  have HQ := Lib.hid hq
  have HGG := Lib.hid hG
  have HCL := Lib.hid hcl
  obtain ⟨R, hRR⟩ : ∃ R, natI (worstL n es cs q) = R := ⟨_, rfl⟩
  rw [hRR]
  have HRR := Lib.hid hRR
  simp only [pileV] at HJ
  have hqi : (q : Int) < (n : Int) := by omega
  clear hR hz hcl hRR hG
  go_enter Tryz.func33, Tryz.ntmps33
  go_wp2_with fail
  refine (BC.out _ ((h.alloc (Nat.le_refl _) _).more (by simp)) ((h'.alloc (Nat.le_refl _) _).more (by simp))).mono ?_
  rintro e w1 ⟨rfl, hb1⟩
  have hB1 : Below w.heap.size w w1 := ((Below.refl _ _).alloc (Nat.le_refl _) _).trans (hb1.mono (by simp))
  have g1 := g0.next hb1
  have c0 := g1.cell 0
  have c1 := g1.cell 1
  have c0' := (g1.alloc (.cells #[.int .i64 n, .slice A es.length c, .int .i64 q, .slice B n d] 80)).cell 0
  have c1' := (g1.alloc (.cells #[.int .i64 n, .slice A es.length c, .int .i64 q, .slice B n d] 80)).cell 1
  have c0'' := ((g1.alloc (.cells #[.int .i64 n, .slice A es.length c, .int .i64 q, .slice B n d] 80)).alloc (.cells #[.bool true] 4)).cell 0
  clear g0 hb1
  have P2 := (Blk.new w1 80 #[.int .i64 n, .slice A es.length c, .int .i64 q, .slice B n d]).alloc (.cells #[.bool true] 4)
  have B2 := (hB1.alloc hB1.size (.cells #[.int .i64 n, .slice A es.length c, .int .i64 q, .slice B n d] 80))
  have B3 := B2.alloc B2.size (.cells #[.bool true] 4)
  have T3 := Blk.new (w1.alloc (.cells #[.int .i64 n, .slice A es.length c, .int .i64 q, .slice B n d] 80)) 4 #[.bool true]
  have hs1 : (w1.alloc (.cells #[.int .i64 n, .slice A es.length c, .int .i64 q, .slice B n d] 80)).heap.size = w1.heap.size + 1 := by simp
  rw [hs1] at T3
  go_wp2_with fail
  obtain ⟨W3, hW3⟩ : ∃ W3, (w1.alloc (.cells #[.int .i64 n, .slice A es.length c, .int .i64 q, .slice B n d] 80)).alloc (.cells #[.bool true] 4) = W3 := ⟨_, rfl⟩
  rw [hW3] at B3 T3 P2 ⊢
  clear c0 c1 c0' c1' c0'' g1 B2 hW3 hs1
  refine (RP.out _ _ T3).mono ?_
  rintro e w4 ⟨rfl, M4, b4⟩
  have B4 := B3.trans (b4.mono B3.size)
  have P4 := P2.next b4
  rw [marks_all] at M4
  obtain ⟨g, hg⟩ : ∃ g, W3.heap.size = g := ⟨_, rfl⟩
  have hgw : w.heap.size ≤ g := by have := B3.size; omega
  rw [hg] at M4 ⊢
  obtain ⟨p, hp⟩ : ∃ p, w1.heap.size = p := ⟨_, rfl⟩
  have hpw : w.heap.size ≤ p := by have := hB1.size; omega
  rw [hp] at P4 ⊢
  have hgp : g ≠ p := M4.ne_ P4 (by decide)
  have mq := (M4.cell q).trans (bools_get (marks_get hq _))
  have mf := M4.frozen q
  have M5 := M4.set_ q (.bool false)
  rw [bools_set, marks_rest_set hq, List.nil_append] at M5
  have P5 := P4.far (p := ⟨g, q, none⟩) hgp.symm (.bool false)
  have B5 := B4.setCell (p := ⟨g, q, none⟩) hgw (.bool false)
  have HM5 := Lib.hid M5
  clear M4 P2 T3 B3 b4 M5
  go_wp2_with fail
  obtain ⟨w5, hw5⟩ : ∃ w5, w4.setCell ⟨g, q, none⟩ (.bool false) = w5 := ⟨_, rfl⟩
  rw [hw5] at HM5 P5 B5 ⊢
  clear hw5 mq mf P4 B4
  go_loopw [11, 12, 37] (fun ag _ _ wl => ∃ (fl : Bool) (l : List Nat), ag = .bool fl ∧ Hid (LOk n l) ∧ q ∈ l ∧ Hid (∀ u ∈ l, u ∈ recL n es cs q) ∧ Hid (fl = false → ∀ v, v < n → catL es (dualL n es cs) l v = false) ∧
    Hid (Blk wl g 4 (bools (marks n (restL n l)))) ∧ Blk wl p 80 #[.int .i64 n, .slice A es.length c, .int .i64 q, .slice B n d] ∧ Below w.heap.size w wl) (fun ag _ _ wl => 2 * leftM g wl + flagV ag)
  case atStart => exact ⟨true, [q], rfl, lok_one hq, by simp, fun u hu => by rw [List.mem_singleton.1 hu]; exact recL_sink, (fun e => by cases e), HM5, P5, B5⟩
  case round =>
    obtain ⟨fl, l, rfl, HLO, hql, HS, HC, HMl, Pl, Bl⟩ := hrel
    clear P5 B5
    have HQL := Lib.hid hql
    clear hql
    cases fl
    · have hend := forb_end HGG.out HQ.out HLO.out HQL.out HS.out (HC.out rfl)
      have HEN := Lib.hid hend
      clear hend
      go_wp2_with fail
      go_loopw [13, 14, 15, 61] (fun o _ _ i wl => ∃ (k : Nat) (A' : Option Addr) (c' : Nat), i = .int .i64 k ∧ k ≤ n ∧ o = .slice A' (natI (restL k l)).length c' ∧ Hid (OwnI wl w.heap.size A' c' (natI (restL k l))) ∧ Hid (Blk wl g 4 (bools (marks n (restL n l)))) ∧ Hid (Below w.heap.size w wl)) (fun _ _ _ i _ => n - (intOf i).toNat)
      case atStart => exact ⟨0, none, 0, rfl, by omega, rfl, OwnI.nil_ _ _, HMl, Bl⟩
      case round =>
        obtain ⟨k, A', c', rfl, hk, rfl, HO, HM, HBl⟩ := hrel
        by_cases hlt : k < n
        · have hi : (k : Int) < (n : Int) := by omega
          have mk := (HM.out.cell k).trans (bools_get (marks_get hlt _))
          by_cases hm : k ∈ l
          · rw [decide_eq_false (fun hc => (mem_rest.1 hc).2 hm)] at mk
            have hr : natI (restL (k + 1) l) = natI (restL k l) := by unfold restL; rw [List.range_succ]; simp [hm]
            have HR := Lib.hid hr
            clear hr hm
            go_wp2
            go_roundw
            case rel => exact ⟨k + 1, A', c', by go_num, by omega, by rw [HR.out], by rw [HR.out]; exact HO, HM, HBl⟩
            case measure => simp [intOf]; omega
          · rw [decide_eq_true (mem_rest.2 ⟨hlt, hm⟩)] at mk
            have hr : natI (restL (k + 1) l) = natI (restL k l) ++ [(k : Int)] := by unfold restL; rw [List.range_succ]; simp [hm, natI]
            have HR := Lib.hid hr
            have hl2 : (natI (restL k l)).length ≤ 1048000 := by
              rw [natI_length]
              have : (restL k l).length ≤ k := by unfold restL; exact Nat.le_trans (List.length_filter_le _ _) (by simp)
              omega
            have ho := HO.out
            have hsz := HBl.out.size
            have bl := HBl.out
            clear hr hm
            go_wp2_with (at_builtin; refine push_int rfl (.tmp 67) (.tmp 69) _ rfl Tryz.underlying25 w.heap.size A' c' (natI (restL k l)) (k : Int) rfl ho rfl rfl hl2 hsz ?_; intro A2 c2 w2 ho2 hgr hb2)
            have m2 := (HM.out.alloc (.cells #[.int .i64 k] 3)).grown hgr (own_blk_ne ho HM.out (by decide))
            go_roundw
            case rel => exact ⟨k + 1, A2, c2, by go_num, by omega, by rw [HR.out]; simp, by rw [HR.out]; exact ho2, m2, bl.trans hb2⟩
            case measure => simp [intOf]; omega
        · obtain rfl : k = n := by omega
          have hRR : R = natI (restL k l) := by rw [HEN.out, HRR.out]
          have HE2 := Lib.hid hRR
          clear hRR
          go_wp2
          go_ret2
          exact ⟨A', c', by rw [HE2.out]; rfl, by rw [HE2.out]; exact HO, HBl⟩
    · have hcount := rest_count HLO.out
      have hleft := leftM_of HMl.out
      have HCO := Lib.hid hcount
      have HLE := Lib.hid hleft
      clear hcount hleft
      go_wp2_with fail
      obtain ⟨wo, rfl⟩ : ∃ wo : World, wo = wr := ⟨_, rfl⟩
      go_loopw [11, 12, 37] (fun ag _ i wl => ∃ (fl : Bool) (l' : List Nat) (k : Nat), ag = .bool fl ∧ i = .int .i64 k ∧ k ≤ n ∧ Hid (LOk n l') ∧ Hid (q ∈ l') ∧ Hid (∀ u ∈ l', u ∈ recL n es cs q) ∧ Hid (fl = false → l' = l ∧ ∀ v, v < k → catL es (dualL n es cs) l v = false) ∧ Hid (fl = true → l.length < l'.length) ∧
        Hid (Blk wl g 4 (bools (marks n (restL n l')))) ∧ Blk wl p 80 #[.int .i64 n, .slice A es.length c, .int .i64 q, .slice B n d] ∧ Below w.heap.size w wl) (fun _ _ i _ => n - (intOf i).toNat)
      case atStart => exact ⟨false, l, 0, rfl, rfl, by omega, HLO, HQL, HS, fun _ => ⟨rfl, fun v hv => by omega⟩, (fun e => by cases e), HMl, Pl, Bl⟩
      case round =>
        obtain ⟨fl, l', k, rfl, rfl, hk, HLO', HQL', HS', HF', HT', HM', Pl', Bl'⟩ := hrel
        clear Pl Bl
        by_cases hlt : k < n
        · have hi : (k : Int) < (n : Int) := by omega
          have mk := (HM'.out.cell k).trans (bools_get (marks_get hlt _))
          by_cases hm : k ∈ l'
          · rw [decide_eq_false (fun hc => (mem_rest.1 hc).2 hm)] at mk
            have hcf : catL es (dualL n es cs) l' k = false := by unfold catL; simp [hm]
            have HCF := Lib.hid hcf
            clear hcf hm
            go_wp2_with fail
            go_quiet (fail)
            all_goals
              go_wp2
              go_roundw
              case rel => exact ⟨fl, l', k + 1, rfl, by go_num, by omega, HLO', HQL', HS', (fun e => ⟨(HF'.out e).1, fun v hv => by
                by_cases hvk : v = k
                · rw [hvk, ← (HF'.out e).1]; exact HCF.out
                · exact (HF'.out e).2 v (by omega)⟩), HT', HM', Pl', ⟨Bl'.os, Bl'.tape, Bl'.output, Bl'.size, Bl'.block⟩⟩
              case measure => simp [intOf]; omega
          · rw [decide_eq_true (mem_rest.2 ⟨hlt, hm⟩)] at mk
            obtain ⟨x, hx⟩ := get_of_lt (xs := cs) (k := k) (by rw [HCL.out]; exact hlt)
            obtain ⟨bB, oB, hA, hbB, hcell⟩ := (h'.below Bl').at_ (ints_at hx)
            subst hA
            have hrc := rest_catch HGG.out cs l' k
            have hcd := cat_dual HGG.out cs HLO'.out hlt
            rw [← hrc, getD_at hx, decide_eq_false hm, Bool.not_false, Bool.true_and] at hcd
            obtain ⟨J, hJJ⟩ : ∃ J, jnE es (restL n l') k = J := ⟨_, rfl⟩
            have JC := HJ.out k g (restL n l') wr.drew Bl'.drew HM'.out
            rw [hJJ] at hcd JC
            have JC := Lib.hid JC
            have HCD := Lib.hid hcd
            have p0 := Pl'.cell 0
            have p1 := Pl'.cell 1
            have p2 := Pl'.cell 2
            have p3 := Pl'.cell 3
            have hgl := HM'.out.lt
            have hpl := Pl'.lt
            have hbl : bB < wr.heap.size := by have := Bl'.size; omega
            have HM := Lib.hid hm
            clear hcd hrc hJJ hx hm
            go_wp2_with fail
            by_cases hge : J ≤ x
            · go_region_held3 (fun W => W.cell? ⟨g, k, none⟩ = some (.bool true) ∧ W.cell? ⟨p, 0, none⟩ = some (.int .i64 n) ∧ W.cell? ⟨p, 1, none⟩ = some (.slice A es.length c) ∧ W.cell? ⟨p, 2, none⟩ = some (.int .i64 q) ∧ W.cell? ⟨p, 3, none⟩ = some (.slice (some ⟨bB, oB, none⟩) n d) ∧ W.cell? ⟨bB, oB + k, none⟩ = some (.int .i64 x)) (go_keep)
                (first | (go_at_call 67; refine (JC.out).mono ?_; rintro e w5 ⟨rfl, b5⟩
                          have k0 := (b5.cell (p := ⟨g, k, none⟩) hgl).trans mk
                          have k1 := (b5.cell (p := ⟨p, 0, none⟩) hpl).trans p0
                          have k2 := (b5.cell (p := ⟨p, 1, none⟩) hpl).trans p1
                          have k3 := (b5.cell (p := ⟨p, 2, none⟩) hpl).trans p2
                          have k4 := (b5.cell (p := ⟨p, 3, none⟩) hpl).trans p3
                          have k5 := (b5.cell (p := ⟨bB, oB + k, none⟩) hbl).trans hcell))
              all_goals
                have M5 : Blk w5 g 4 (bools (marks n (restL n l'))) := Blk.next (w := wr.drew) HM'.out b5
                have P5 : Blk w5 p 80 #[.int .i64 n, .slice A es.length c, .int .i64 q, .slice (some ⟨bB, oB, none⟩) n d] := Blk.next (w := wr.drew) Pl' b5
                have B5 := Bl'.drew.trans (b5.mono Bl'.drew.size)
                have f5 := M5.frozen k
                have M6 := M5.set_ k (.bool false)
                rw [bools_set, marks_rest_set hlt] at M6
                have P6 := P5.far (p := ⟨g, k, none⟩) hgp.symm (.bool false)
                have B6 := B5.setCell (p := ⟨g, k, none⟩) hgw (.bool false)
                have HM6 := Lib.hid M6
                have hct : catL es (dualL n es cs) l' k = true := by rw [HCD.out, decide_eq_true hge]
                have HS6 := Lib.hid (forb_step HGG.out HQ.out HLO'.out HS'.out hlt hct)
                have HL6 := Lib.hid (HLO'.out.snoc HM.out hlt)
                clear M6 hct
                go_wp2
                go_roundw
                case rel => exact ⟨true, l' ++ [k], k + 1, rfl, by go_num, by omega, HL6, List.mem_append_left _ HQL'.out, HS6.out, (fun e => by cases e), (fun _ => by
                    cases hfl : fl
                    · rw [(HF'.out hfl).1]; simp
                    · have := HT'.out hfl; simp; omega), HM6, P6, B6⟩
                case measure => simp [intOf]; omega
            · go_region_held3 (fun W => W.cell? ⟨g, k, none⟩ = some (.bool true) ∧ W.cell? ⟨p, 0, none⟩ = some (.int .i64 n) ∧ W.cell? ⟨p, 1, none⟩ = some (.slice A es.length c) ∧ W.cell? ⟨p, 2, none⟩ = some (.int .i64 q) ∧ W.cell? ⟨p, 3, none⟩ = some (.slice (some ⟨bB, oB, none⟩) n d) ∧ W.cell? ⟨bB, oB + k, none⟩ = some (.int .i64 x)) (go_keep)
                (first | (go_at_call 67; refine (JC.out).mono ?_; rintro e w5 ⟨rfl, b5⟩
                          have k0 := (b5.cell (p := ⟨g, k, none⟩) hgl).trans mk
                          have k1 := (b5.cell (p := ⟨p, 0, none⟩) hpl).trans p0
                          have k2 := (b5.cell (p := ⟨p, 1, none⟩) hpl).trans p1
                          have k3 := (b5.cell (p := ⟨p, 2, none⟩) hpl).trans p2
                          have k4 := (b5.cell (p := ⟨p, 3, none⟩) hpl).trans p3
                          have k5 := (b5.cell (p := ⟨bB, oB + k, none⟩) hbl).trans hcell))
              all_goals
                have M5 : Blk w5 g 4 (bools (marks n (restL n l'))) := Blk.next (w := wr.drew) HM'.out b5
                have P5 : Blk w5 p 80 #[.int .i64 n, .slice A es.length c, .int .i64 q, .slice (some ⟨bB, oB, none⟩) n d] := Blk.next (w := wr.drew) Pl' b5
                have B5 := Bl'.drew.trans (b5.mono Bl'.drew.size)
                have HM6 := Lib.hid M5
                have hct : catL es (dualL n es cs) l' k = false := by rw [HCD.out, decide_eq_false (by omega)]
                have HCF := Lib.hid hct
                clear M5 hct
                go_wp2
                go_roundw
                case rel => exact ⟨fl, l', k + 1, rfl, by go_num, by omega, HLO', HQL', HS', (fun e => ⟨(HF'.out e).1, fun v hv => by
                    by_cases hvk : v = k
                    · rw [hvk, ← (HF'.out e).1]; exact HCF.out
                    · exact (HF'.out e).2 v (by omega)⟩), HT', HM6, P5, B5⟩
                case measure => simp [intOf]; omega
        · obtain rfl : k = n := by omega
          go_wp2
          go_roundw
          case rel =>
            refine ⟨fl, l', rfl, HLO', HQL'.out, HS', fun e => ?_, HM', Pl', Bl'⟩
            obtain ⟨rfl, hf⟩ := HF'.out e
            exact hf
          case measure =>
            have h1 := rest_count HLO'.out
            have h2 := leftM_of HM'.out
            have h3 := HCO.out
            have h4 := HLE.out
            cases fl
            · obtain ⟨e, _⟩ := HF'.out rfl
              rw [e] at h1 h2
              simp only [flagV]
              omega
            · have h5 := HT'.out rfl
              simp only [flagV]
              omega

set_option maxHeartbeats 2000000 in
theorem forb_any (n : Int) (A : Option Addr) (c : Nat) (es : List E3) (hlen : es.length ≤ 10000) (q : Int) (B : Option Addr) (d : Nat) (cs : List Int) (hm : cs.length ≤ 1048000) (w : World)
    (h : Reads w w.heap.size 3 A es.length (edgeCells es)) (h' : Reads w w.heap.size 1 B cs.length (ints cs)) :
    Calls Tryz.prog 33 #[.agg #[.int .i64 n, .slice A es.length c], .int .i64 q, .slice B cs.length d] w fun e w' => ∃ A' c', e = .returned (.tuple #[.slice A' (forbE n es q cs).1.length c', .int .i64 (forbE n es q cs).2]) ∧ OwnI w' w.heap.size A' c' (forbE n es q cs).1 ∧ Below w.heap.size w w' := by
  by_cases hz : burnErr n es q cs = 0
  · obtain ⟨hG, _, hq0, hqn, _⟩ := conf_zero (burn_zero hz).1
    have hlo := hG.lo
    obtain ⟨m, rfl⟩ := Int.eq_ofNat_of_zero_le (show 0 ≤ n by omega)
    obtain ⟨p, rfl⟩ := Int.eq_ofNat_of_zero_le hq0
    have hE : forbE m es p cs = (natI (worstL m es cs p), 0) := by unfold forbE; rw [if_pos hz]; simp
    rw [hE]
    exact forb_ok m A c es hlen p B d cs hz w h h'
  · have hE : forbE n es q cs = ([], burnErr n es q cs) := by unfold forbE; rw [if_neg hz]
    rw [hE]
    have hbc := reccheck_any n A c es (by omega) q B d cs (by omega)
    obtain ⟨z, hzz⟩ : ∃ z, burnErr n es q cs = z := ⟨_, rfl⟩
    rw [hzz] at hbc hz ⊢
    have hb2 : (z != 0) = true := by simpa using hz
    have BC := Lib.hid hbc
    clear hz hE hbc hzz
    go_enter Tryz.func33, Tryz.ntmps33
    go_wp2_with fail
    refine (BC.out _ ((h.alloc (Nat.le_refl _) _).more (by simp)) ((h'.alloc (Nat.le_refl _) _).more (by simp))).mono ?_
    rintro e w1 ⟨rfl, hb1⟩
    have hB1 : Below w.heap.size w w1 := ((Below.refl _ _).alloc (Nat.le_refl _) _).trans (hb1.mono (by simp))
    go_wp2
    go_ret2
    exact ⟨none, 0, rfl, OwnI.nil_ _ _, hB1⟩
end Go.Proofs.YtplgbapbgcipdaaGreat

/-! treebijection: the fire of a superstable configuration, of a spanning tree; Steps, Tree, Config. -/
namespace Go.Proofs.YtplgbapbgcipdaaGreat
open Go.RowKit

/-- The error of a superstable configuration. -/
def cfgErr (n : Int) (es : List E3) (q : Int) (cs : List Int) : Int := if (superE n es q cs).2 ≠ 0 then (superE n es q cs).2 else if (superE n es q cs).1 = true then 0 else 15
theorem cfg_zero {n : Int} {es : List E3} {q : Int} {cs : List Int} (h : cfgErr n es q cs = 0) : burnErr n es q cs = 0 ∧ restL n.toNat (burntL es cs n.toNat q.toNat) = [] ∧ (superE n es q cs) = (true, 0) := by
  unfold cfgErr superE at h
  unfold superE
  by_cases h1 : burnErr n es q cs = 0
  · rw [if_pos h1] at h ⊢
    dsimp only at h
    rw [if_neg (by simp)] at h
    by_cases h2 : restL n.toNat (burntL es cs n.toNat q.toNat) = []
    · exact ⟨h1, h2, by rw [decide_eq_true h2]⟩
    · rw [decide_eq_false h2] at h; simp at h
  · rw [if_neg h1] at h
    dsimp only at h
    rw [if_pos h1] at h
    exact absurd h h1
end Go.Proofs.YtplgbapbgcipdaaGreat

/-! Package superstable: calm, first, configurations. -/
namespace Go.Proofs.YtplgbapbgcipdaaGreat
open Go.RowKit Go.Shelf

end Go.Proofs.YtplgbapbgcipdaaGreat

