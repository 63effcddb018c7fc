/-
 Texts of this claim, put together: RecurP, Pairs, LevQ, RGrownF, PairsW, Limit, RRecurF, Ear30, Awake30, Right30, Genus30.
-/
import Derived.Test.YtnbikkcalcpedaaGreatDoorK35
import Derived.Test.YtnbikkcalcpedaaGreatDoorK32
import Derived.Test.YtnbikkcalcpedaaGreatDoorK34
import Derived.Test.YtnbikkcalcpedaaGreatDoorK21
import Derived.Test.YtnbikkcalcpedaaGreatDoorK22
import Derived.Test.YtnbikkcalcpedaaGreatDoorK31
import Derived.Test.YtnbikkcalcpedaaGreatDoorK33
import Derived.Test.YtnbikkcalcpedaaGreatDoorK27
import Derived.Test.YtnbikkcalcpedaaGreatDoorK13
import Derived.Test.YtnbikkcalcpedaaGreatDoorK16
import Derived.Test.YtnbikkcalcpedaaGreatDoorK19
import Derived.Test.YtnbikkcalcpedaaGreatDoorK08
import Derived.Test.YtnbikkcalcpedaaGreatDoorK04
import Derived.Test.YtnbikkcalcpedaaGreatDoorK30
import Derived.Test.YtnbikkcalcpedaaGreatDoorK15
import Derived.Test.YtnbikkcalcpedaaGreatDoorK23
import Derived.Deep.RegionHeld3
set_option maxRecDepth 100000
set_option maxHeartbeats 4000000
namespace Go.Proofs.YtnbikkcalcpedaaGreatDoor
section
variable {n q : Nat} {es : List E3}
theorem recsL_nodup (hG : RightG n es) (hq : q < n) : (recsL n es q).Nodup := by
 rw [recsL_bel hG hq]
 exact (bel_nodup n).sublist List.filter_sublist
theorem dul_rec (hlen : es.length ≤ 10000) {c : List Int} (hc : cfgErr n es q c = 0) : dulL n es c q ∈ recsL n es q := by
 obtain ⟨hr, hG, hq, hl, hnn, h0, _, hmx⟩ := cfg_facts hc
 obtain ⟨hb, hrest, _⟩ := cfg_zero hc
 rw [Int.toNat_natCast, Int.toNat_natCast] at hrest
 have hs : stabTo es c q n = true := maxL_stab hG hmx
 obtain ⟨d1, d2, d3, _⟩ := dual_plain hlen hb hs
 obtain ⟨_, _, _, e4, _⟩ := dual_plain hlen d1 d2
 rw [d3, hrest] at e4
 rw [recsL_bel hG hq, List.mem_filter]
 refine ⟨mem_bel n _ (dulL_length n es c q) fun i hi => ?_, ?_⟩
 ·rw [dulL_get es c q hi, maxL_get hG.ok hi]
  by_cases hiq : i = q
  ·rw [if_pos hiq, if_pos hiq]; omega
  ·rw [if_neg hiq, if_neg hiq]
   have h1 := hnn i hi
   have h2 := hmx i hi
   rw [maxL_get hG.ok hi, if_neg hiq] at h2
   omega
 ·show recB n es (dulL n es c q) q = true
  rw [← e4]; simp
theorem rec_dul (hr : rootErr n es q = 0) (hG : RightG n es) (hq : q < n) (hlen : es.length ≤ 10000) {d : List Int} (hd : d ∈ recsL n es q) : cfgErr n es q (dulL n es d q) = 0 ∧ dulL n es (dulL n es d q) q = d := by
 obtain ⟨h1, h2, h3⟩ := recsL_mem hG hq hd
 have h4 := (recsL_bd hr hlen hd).2
 have hb : burnErr n es q d = 0 := by
  refine burn_right hr h1 (fun v hv => (h3 v hv).1) (fun v hv => ?_) ?_
  ·have h5 := (h3 v hv).2
   have hv2 := valE_bd hG.ok v
   rw [maxL_get hG.ok hv] at h5
   split at h5
   ·omega
   ·omega
  ·have h5 := h3 q hq
   rw [maxL_get hG.ok hq, if_pos rfl] at h5
   omega
 have hs : stabTo es d q n = true := maxL_stab hG fun i hi => (h3 i hi).2
 obtain ⟨d1, d2, d3, d4, _⟩ := dual_plain hlen hb hs
 rw [h2, decide_eq_true_eq] at d4
 refine ⟨?_, d3⟩
 unfold cfgErr superE
 rw [if_pos d1]
 simp only [Int.toNat_natCast]
 simp [d4]
theorem rec_mem (hr : rootErr n es q = 0) (hj : joinErr n es = 0) (hG : RightG n es) (hq : q < n) (hm : (endsL es).length ≤ 500) (hlen : es.length ≤ 10000) (d : List Int) : d ∈ (supL n es q).map (fun c => dulL n es c q) ↔ d ∈ recsL n es q := by
 obtain ⟨_, hS⟩ := supL_mem hr hj hG hq hm
 rw [List.mem_map]
 constructor
 ·rintro ⟨c, hc, rfl⟩
  exact dul_rec hlen ((hS c).1 hc)
 ·intro hd
  obtain ⟨h1, h2⟩ := rec_dul hr hG hq hlen hd
  exact ⟨_, (hS _).2 h1, h2⟩
theorem rec_perm (hr : rootErr n es q = 0) (hj : joinErr n es = 0) (hG : RightG n es) (hq : q < n) (hm : (endsL es).length ≤ 500) (hlen : es.length ≤ 10000) : ((supL n es q).map (fun c => dulL n es c q)).Perm (recsL n es q) := by
 obtain ⟨hN, hS⟩ := supL_mem hr hj hG hq hm
 refine perm_of_mem (nodup_map_of (fun a ha b hb hab => ?_) hN) (recsL_nodup hG hq) (rec_mem hr hj hG hq hm hlen)
 have ha := (hS a).1 ha
 have hb := (hS b).1 hb
 rw [← dul_dul (cfg_zero ha).1, ← dul_dul (cfg_zero hb).1, hab]
theorem recur_perm (hr : rootErr n es q = 0) (hj : joinErr n es = 0) (hG : RightG n es) (hq : q < n) (hm : (endsL es).length ≤ 500) (hlen : es.length ≤ 10000) : ((treesT n (endsL es)).map fun t => dulL n es (confN (endsL es) n q t) q).Perm (recsL n es q) := by
 obtain ⟨_, hS⟩ := supL_mem hr hj hG hq hm
 refine List.Perm.trans ?_ (rec_perm hr hj hG hq hm hlen)
 have h1 := ((match_perm hr hj hG hq hm).map fun t => dulL n es (confN (endsL es) n q t) q).symm
 rw [List.map_map] at h1
 have h2 : (supL n es q).map ((fun t => dulL n es (confN (endsL es) n q t) q) ∘ treeN (endsL es) n q) = (supL n es q).map (fun c => dulL n es c q) := by
  refine List.map_congr_left fun c hc => ?_
  obtain ⟨_, _, _, hl1, hn1, h01, hb1, _⟩ := cfg_facts ((hS c).1 hc)
  show dulL n es (confN (endsL es) n q (treeN (endsL es) n q c)) q = _
  rw [conf_tree (bd_ends hG) hq hl1 h01 hn1 hb1]
 rw [h2] at h1
 exact h1
end
end Go.Proofs.YtnbikkcalcpedaaGreatDoor
namespace Go.Proofs.YtnbikkcalcpedaaGreatDoor
open Go.RowKit
theorem own_typeG {w : World} {base n size k : Nat} {e : TypeId} {v : Value} {xs : List Value} (h : w.ownsRow base e size v n xs) (hk : v.ownBlock = some k) : ∃ cs, Blk w k e cs := by
 rcases h.2 with ⟨rfl, _⟩ | ⟨g, cap, cur, rfl, _, hh, _⟩
 ·simp [Value.ownBlock] at hk
 ·have : g = k := by simpa [Value.ownBlock] using hk
  subst this
  exact ⟨_, hh⟩
def PrsR (w : World) (B : Nat) (A : Option Addr) (ps : List (List Int × List Int)) : Prop :=
 ∃ vs, Reads w B 2 A ps.length vs ∧ ∀ (i : Nat) (p : List Int × List Int), ps[i]? = some p → ∃ A1 c1 A2 c2, vs[2 * i]? = some (.slice A1 p.1.length c1) ∧ vs[2 * i + 1]? = some (.slice A2 p.2.length c2) ∧ Reads w B 1 A1 p.1.length (ints p.1) ∧ Reads w B 1 A2 p.2.length (ints p.2)
structure PrsW (T : TypeId) (w : World) (base : Nat) (A : Option Addr) (c : Nat) (vs : List Value) (ps : List (List Int × List Int)) : Prop where
 own : w.ownsRow base T 2 (.slice A ps.length c) ps.length vs
 one : ∀ u ∈ vs, u.oneCell' = true
 rows : ∀ (i : Nat) (p : List Int × List Int), ps[i]? = some p → ∃ A1 c1 A2 c2, vs[2 * i]? = some (.slice A1 p.1.length c1) ∧ vs[2 * i + 1]? = some (.slice A2 p.2.length c2) ∧ Reads w base 1 A1 p.1.length (ints p.1) ∧ OwnI w base A2 c2 p.2
section
variable {T : TypeId} {w w' : World} {base B : Nat} {A A' A1 A2 : Option Addr} {c c' c1 c2 : Nat} {vs : List Value} {ps : List (List Int × List Int)} {x y : List Int}
theorem PrsR.below (h : PrsR w B A ps) (hb : Below B w w') : PrsR w' B A ps := by
 obtain ⟨vs, hr, hi⟩ := h
 refine ⟨vs, hr.below hb, fun i p hp => ?_⟩
 obtain ⟨A1, c1, A2, c2, h1, h2, h3, h4⟩ := hi i p hp
 exact ⟨A1, c1, A2, c2, h1, h2, h3.below hb, h4.below hb⟩
theorem PrsR.more {B' : Nat} (h : PrsR w B A ps) (hB : B ≤ B') : PrsR w B' A ps := by
 obtain ⟨vs, hr, hi⟩ := h
 refine ⟨vs, hr.more hB, fun i p hp => ?_⟩
 obtain ⟨A1, c1, A2, c2, h1, h2, h3, h4⟩ := hi i p hp
 exact ⟨A1, c1, A2, c2, h1, h2, h3.more hB, h4.more hB⟩
theorem PrsR.next (h : PrsR w w.heap.size A ps) (hb : Below w.heap.size w w') : PrsR w' w'.heap.size A ps := (h.below hb).more hb.size
theorem PrsR.nil_ (w : World) (B : Nat) : PrsR w B none [] := ⟨[], Reads.nil_, fun i p h => by cases h⟩
theorem PrsR.at_ (h : PrsR w B A ps) {k : Nat} {p : List Int × List Int} (hp : ps[k]? = some p) :
  ∃ b off A1 c1 A2 c2, A = some ⟨b, off, none⟩ ∧ b < B ∧ w.cell? ⟨b, off + k * 2, none⟩ = some (.slice A1 p.1.length c1) ∧ w.cell? ⟨b, off + k * 2 + 1, none⟩ = some (.slice A2 p.2.length c2) ∧ Reads w B 1 A1 p.1.length (ints p.1) ∧ Reads w B 1 A2 p.2.length (ints p.2) := by
 obtain ⟨vs, hr, hi⟩ := h
 obtain ⟨A1, c1, A2, c2, h1, h2, h3, h4⟩ := hi k p hp
 have hk : k < ps.length := (List.getElem?_eq_some_iff.1 hp).1
 obtain ⟨b, off, hA, hb, hc⟩ := hr.2 (by omega)
 refine ⟨b, off, A1, c1, A2, c2, hA, hb, ?_, ?_, h3, h4⟩
 ·have := hc _ _ h1; rwa [Nat.mul_comm] at this
 ·have := hc _ _ h2; rwa [show off + (2 * k + 1) = off + k * 2 + 1 from by omega] at this
theorem PrsW.nil_ (T : TypeId) (w : World) (base : Nat) : PrsW T w base none 0 [] [] := ⟨World.ownsRow_nil _ _ _ _, by simp, by simp⟩
theorem PrsW.len (h : PrsW T w base A c vs ps) : vs.length = ps.length * 2 := h.own.1
theorem PrsW.next (h : PrsW T w base A c vs ps) (hs : base ≤ w.heap.size) (hb : Below w.heap.size w w') : PrsW T w' base A c vs ps := by
 refine ⟨?_, h.one, fun i p hp => ?_⟩
 ·obtain ⟨h1, h2⟩ := h.own
  refine ⟨h1, ?_⟩
  rcases h2 with h2 | ⟨g, cap, cur, hv, hg, hh, r⟩
  ·exact .inl h2
  ·exact .inr ⟨g, cap, cur, hv, hg, (hb.block g (World.ownsRow.lt h.own g (by rw [hv]; rfl)).2).trans hh, r⟩
 ·obtain ⟨A1, c1, A2, c2, h1, h2, h3, h4⟩ := h.rows i p hp
  exact ⟨A1, c1, A2, c2, h1, h2, h3.below (hb.mono hs), h4.next hb⟩
theorem PrsW.drewN (h : PrsW T w base A c vs ps) (k : Nat) : PrsW T (w.drewN k) base A c vs ps := ⟨h.own, h.one, h.rows⟩
theorem PrsW.push (hT : 3 ≠ T) (h : PrsW T w base A c vs ps) (h1 : Reads w base 1 A1 x.length (ints x)) (h2 : OwnI w base A2 c2 y) {o : Obj}
  (hown : w'.ownsRow base T 2 (.slice A' (ps.length + 1) c') (ps.length + 1) (vs ++ [.slice A1 x.length c1, .slice A2 y.length c2])) (hg : (w.alloc o).grownBy w' (Value.slice A ps.length c).ownBlock) (hb : Below base w w') :
  PrsW T w' base A' c' (vs ++ [.slice A1 x.length c1, .slice A2 y.length c2]) (ps ++ [(x, y)]) := by
 have keep : ∀ {A1 : Option Addr} {c1 : Nat} {z : List Int}, OwnI w base A1 c1 z → OwnI w' base A1 c1 z := fun {A1 c1 z} ho => own_kept ho fun k hk => by
  have hlt := (own_lt ho hk).2
  refine (hg.block k (by simp; omega) fun e => ?_).trans (Below.heap_alloc w o k hlt)
  obtain ⟨cs, hcs⟩ := own_typeG h.own e.symm
  exact own_blk ho hcs hT hk rfl
 refine ⟨by rw [List.length_append]; exact hown, ?_, fun i p hi => ?_⟩
 ·intro u hu
  rcases List.mem_append.1 hu with hu | hu
  ·exact h.one u hu
  ·simp at hu; rcases hu with rfl | rfl <;> rfl
 ·have hl := h.len
  rcases Nat.lt_trichotomy i ps.length with hlt | rfl | hgt
  ·rw [List.getElem?_append_left hlt] at hi
   obtain ⟨A3, c3, A4, c4, v1, v2, r1, r2⟩ := h.rows i p hi
   exact ⟨A3, c3, A4, c4, by rw [List.getElem?_append_left (by omega)]; exact v1, by rw [List.getElem?_append_left (by omega)]; exact v2, r1.below hb, keep r2⟩
  ·have : p = (x, y) := by simpa using hi.symm
   subst this
   refine ⟨A1, c1, A2, c2, ?_, ?_, h1.below hb, keep h2⟩
   ·rw [List.getElem?_append_right (by omega), hl, Nat.mul_comm, Nat.sub_self]; rfl
   ·rw [List.getElem?_append_right (by omega), hl, show 2 * ps.length + 1 - ps.length * 2 = 1 from by omega]; rfl
  ·rw [List.getElem?_eq_none (by simp; omega)] at hi; cases hi
theorem PrsW.reads (h : PrsW T w base A c vs ps) (hs : base ≤ w.heap.size) : PrsR w w.heap.size A ps :=
 ⟨vs, Reads.of_own h.own, fun i p hp => by
  obtain ⟨A1, c1, A2, c2, h1, h2, h3, h4⟩ := h.rows i p hp
  exact ⟨A1, c1, A2, c2, h1, h2, h3.more hs, h4.reads⟩⟩
end
end Go.Proofs.YtnbikkcalcpedaaGreatDoor
namespace Go.Proofs.YtnbikkcalcpedaaGreatDoor
section
variable {n q : Nat} {es : List E3}
def straightL (es : List E3) : List E3 := es.filter fun e => decide (e.1 ≠ e.2.1)
theorem straight_cons (e : E3) (es : List E3) : straightL (e :: es) = if e.1 ≠ e.2.1 then e :: straightL es else straightL es := by
 unfold straightL
 by_cases h : e.1 ≠ e.2.1
 ·rw [List.filter_cons_of_pos (by simpa using h), if_pos h]
 ·rw [List.filter_cons_of_neg (by simpa using h), if_neg h]
theorem val_straight (v : Int) : ∀ es : List E3, valE (straightL es) v = valE es v
 | [] => rfl
 | e :: es => by
   rw [straight_cons]
   by_cases h : e.1 ≠ e.2.1
   ·rw [if_pos h]
    show valT v e + valE (straightL es) v = valT v e + valE es v
    rw [val_straight v es]
   ·rw [if_neg h, val_straight v es]
    show _ = valT v e + valE es v
    unfold valT
    rw [if_neg (fun hc => h hc.1), Int.zero_add]
theorem btw_straight {a b : Int} (h : a ≠ b) : ∀ es : List E3, btw (straightL es) a b = btw es a b
 | [] => rfl
 | e :: es => by
   rw [straight_cons, btw_cons]
   by_cases h1 : e.1 ≠ e.2.1
   ·rw [if_pos h1, btw_cons, btw_straight h es]
   ·rw [if_neg h1, btw_straight h es, if_neg (by omega)]
theorem joins_straight {v : Nat} : ∀ {l : List Nat}, v ∉ l → joinsN (straightL es) v l = joinsN es v l := by
 intro l h
 unfold joinsN
 congr 1
 refine List.map_congr_left fun u hu => btw_straight (fun hc => h ?_) es
 have : v = u := by omega
 exact this ▸ hu
theorem cat_straight (c : List Int) (l : List Nat) (v : Nat) : catL (straightL es) c l v = catL es c l v := by
 unfold catL
 by_cases h : v ∈ l
 ·simp [h]
 ·rw [joins_straight h]
theorem burn_straight (c : List Int) : ∀ (k : Nat) (l : List Nat), burnL (straightL es) c n k l = burnL es c n k l
 | 0, _ => rfl
 | k + 1, l => by
   have h : readyL (straightL es) c n l = readyL es c n l := by
    unfold readyL
    exact congrArg (fun f => (List.range n).filter f) (funext fun v => cat_straight c l v)
   unfold burnL
   rw [h]
   split
   ·rfl
   ·exact burn_straight c k _
theorem recB_straight (c : List Int) : recB n (straightL es) c q = recB n es c q := by
 have h1 : stabTo (straightL es) c q n = stabTo es c q n := by
  unfold stabTo
  exact congrArg (fun f => (List.range n).all f) (funext fun v => by rw [val_straight])
 have h2 : dualL n (straightL es) c = dualL n es c := by
  unfold dualL
  exact List.map_congr_left fun v _ => by rw [val_straight]
 unfold recB recL burntL
 rw [h1, h2, burn_straight]
theorem max_straight (hok : ∀ e ∈ es, okE n e) : maxL n (straightL es) q = maxL n es q := by
 have hok' : ∀ e ∈ straightL es, okE n e := fun e he => hok e (List.mem_filter.1 he).1
 apply List.ext_getElem?
 intro i
 by_cases h : i < n
 ·have h1 := maxL_get (q := q) hok' h
  have h2 := maxL_get (q := q) hok h
  rw [val_straight, ← h2] at h1
  rw [List.getD_eq_getElem?_getD, List.getD_eq_getElem?_getD] at h1
  rw [List.getElem?_eq_getElem (by rw [maxL_length]; exact h), List.getElem?_eq_getElem (by rw [maxL_length]; exact h)] at h1 ⊢
  exact congrArg some h1
 ·rw [List.getElem?_eq_none (by rw [maxL_length]; omega), List.getElem?_eq_none (by rw [maxL_length]; omega)]
theorem recsL_straight (hok : ∀ e ∈ es, okE n e) : recsL n (straightL es) q = recsL n es q := by
 have h : recP n (straightL es) q = recP n es q := funext fun c => recB_straight c
 unfold recsL
 rw [h, max_straight hok]
theorem dul_straight (c : List Int) : dulL n (straightL es) c q = dulL n es c q := by
 unfold dulL dulTo
 exact List.map_congr_left fun v _ => by rw [val_straight]
theorem right_straight {N : Int} (hG : RightG N es) : RightG N (straightL es) := ⟨hG.lo, hG.hi, fun e he => hG.ok e (List.mem_filter.1 he).1, hG.sorted.sublist List.filter_sublist⟩
theorem ends_straight (hok : ∀ e ∈ es, okE n e) : endsL (straightL es) = (endsL es).filter fun p => decide (p.1 ≠ p.2) := by
 induction es with
 | nil => rfl
 | cons e es ih =>
   have ho := hok e (by simp)
   unfold okE at ho
   rw [endsL_cons, List.filter_append, ← ih fun x hx => hok x (by simp [hx]), straight_cons]
   by_cases h : e.1 ≠ e.2.1
   ·rw [if_pos h, endsL_cons]
    congr 1
    refine (List.filter_eq_self.2 fun p hp => ?_).symm
    rw [List.eq_of_mem_replicate hp]
    simp only [decide_eq_true_eq]; omega
   ·rw [if_neg h]
    have : (List.replicate e.2.2.toNat (e.1.toNat, e.2.1.toNat)).filter (fun p => decide (p.1 ≠ p.2)) = [] := by
     refine List.filter_eq_nil_iff.2 fun p hp => ?_
     rw [List.eq_of_mem_replicate hp]
     simp only [decide_eq_true_eq]; omega
    rw [this, List.nil_append]
theorem cn_straight {ps : List (Nat × Nat)} {a b : Nat} : Cn (ps.filter fun p => decide (p.1 ≠ p.2)) a b ↔ Cn ps a b := by
 constructor
 ·exact fun h => h.mono fun p hp => (List.mem_filter.1 hp).1
 ·intro h
  induction h with
  | refl => exact .refl
  | @step x y _ hs ih =>
    by_cases hxy : x = y
    ·exact hxy ▸ ih
    ·refine ih.step ?_
     rcases hs with hs | hs
     ·exact .inl (List.mem_filter.2 ⟨hs, by simpa using hxy⟩)
     ·exact .inr (List.mem_filter.2 ⟨hs, by simpa using Ne.symm hxy⟩)
theorem parts_straight (hok : ∀ e ∈ es, okE n e) : partsP n (endsL (straightL es)) = partsP n (endsL es) := by
 rw [ends_straight hok]; exact partsP_congr fun _ _ => cn_straight
def lvlC (es : List E3) (q : Nat) (c : List Int) : Int := c.sum + valE es q - (endsL (straightL es)).length
theorem sum_getD : ∀ {k : Nat} {c : List Int}, c.length = k → c.sum = sumTo (fun i => c.getD i 0) k
 | 0, c, h => by rw [List.length_eq_zero_iff.1 h]; rfl
 | k + 1, c, h => by
   obtain ⟨a, c', rfl⟩ : ∃ a c', c = c' ++ [a] := ⟨c.getLast (fun hc => by rw [hc] at h; cases h), c.dropLast, (List.dropLast_concat_getLast _).symm⟩
   have hl : c'.length = k := by simpa using h
   rw [List.sum_append, sum_getD hl]
   show _ = sumTo (fun i => (c' ++ [a]).getD i 0) k + (c' ++ [a]).getD k 0
   rw [sumTo_congr (f := fun i => (c' ++ [a]).getD i 0) (g := fun i => c'.getD i 0) fun i hi => by
    show (c' ++ [a]).getD i 0 = c'.getD i 0
    rw [List.getD_eq_getElem?_getD, List.getElem?_append_left (by omega), ← List.getD_eq_getElem?_getD]]
   rw [List.getD_eq_getElem?_getD, List.getElem?_append_right (by omega), hl]
   simp
theorem val_total : ∀ {es : List E3}, (∀ e ∈ es, okE n e) → sumTo (fun v => valE es v) n = 2 * (endsL (straightL es)).length
 | [], _ => by
   show sumTo (fun _ => 0) n = _
   rw [sumTo_zero fun _ _ => rfl]; rfl
 | e :: es, h => by
   have ho := h e (by simp)
   unfold okE at ho
   have h1 : sumTo (fun v : Nat => valE (e :: es) v) n = sumTo (fun v : Nat => valT v e) n + sumTo (fun v : Nat => valE es v) n := by
    rw [← sumTo_add]; rfl
   rw [h1, val_total fun x hx => h x (by simp [hx]), straight_cons]
   by_cases hl : e.1 ≠ e.2.1
   ·rw [if_pos hl, endsL_cons, List.length_append, List.length_replicate]
    have h2 : sumTo (fun v : Nat => valT v e) n = sumTo (fun v : Nat => (if v = e.1.toNat then e.2.2 else 0) + if v = e.2.1.toNat then e.2.2 else 0) n := sumTo_congr fun v _ => by
     unfold valT
     by_cases h3 : v = e.1.toNat
     ·rw [if_pos (show e.1 ≠ e.2.1 ∧ (e.1 = v ∨ e.2.1 = v) from ⟨hl, by omega⟩), if_pos h3, if_neg (show ¬ v = e.2.1.toNat by omega), Int.add_zero]
     ·rw [if_neg h3]
      by_cases h4 : v = e.2.1.toNat
      ·rw [if_pos (show e.1 ≠ e.2.1 ∧ (e.1 = v ∨ e.2.1 = v) from ⟨hl, by omega⟩), if_pos h4, Int.zero_add]
      ·rw [if_neg (show ¬ (e.1 ≠ e.2.1 ∧ (e.1 = v ∨ e.2.1 = v)) from fun hc => by omega), if_neg h4]; rfl
    rw [h2, sumTo_add, sumTo_at (fun _ => e.2.2), sumTo_at (fun _ => e.2.2), if_pos (by omega), if_pos (by omega)]
    push_cast; omega
   ·rw [if_neg hl]
    rw [sumTo_zero (f := fun v : Nat => valT v e) fun v _ => by unfold valT; rw [if_neg (fun hc => hl hc.1)]]
    omega
theorem lvl_dul (hok : ∀ e ∈ es, okE n e) (hq : q < n) {s : List Int} (hs : s.length = n) (h0 : s.getD q 0 = 0) : lvlC es q (dulL n es s q) = (endsL (straightL es)).length - n + 1 - s.sum := by
 unfold lvlC
 rw [sum_getD (dulL_length n es s q), sum_getD hs]
 have h1 : sumTo (fun v => (dulL n es s q).getD v 0) n = sumTo (fun v : Nat => (valE es v + (-1)) + (- s.getD v 0 + if v = q then 1 - valE es v else 0)) n := sumTo_congr fun v hv => by
  unfold dulL dulTo
  rw [List.getD_eq_getElem?_getD, List.getElem?_map, List.getElem?_range hv]
  simp only [Option.map_some, Option.getD_some]
  by_cases hvq : v = q
  ·subst hvq; rw [if_neg (by omega), if_pos rfl, h0]; omega
  ·rw [if_pos ⟨hv, hvq⟩, if_neg hvq]; omega
 rw [h1, sumTo_add, sumTo_add, sumTo_add, val_total hok, sumTo_const, sumTo_neg, sumTo_at (fun v : Nat => 1 - valE es v), if_pos hq]
 omega
theorem edges_right {N : Int} : ∀ {es : List E3} {p : Option E3}, (∀ e ∈ es, okE N e) → es.Pairwise ltE → (∀ y, p = some y → ∀ x ∈ es, ltE y x) → edgesErr N p es = 0
 | [], _, _, _, _ => rfl
 | e :: es, p, h1, h2, h3 => by
   have ho := h1 e (by simp)
   obtain ⟨h4, h5⟩ := List.pairwise_cons.1 h2
   have h6 : edgeErr N p e = 0 := by
    unfold okE at ho
    unfold edgeErr
    rw [if_neg (by omega), if_neg (by omega)]
    cases p with
    | none => rfl
    | some y =>
      have := h3 y rfl e (by simp)
      unfold ltE at this
      dsimp only
      rw [if_neg (by omega)]
   unfold edgesErr
   rw [if_pos h6]
   exact edges_right (fun x hx => h1 x (by simp [hx])) h5 (fun y hy x hx => by cases hy; exact h4 x hx)
theorem check_right {N : Int} (hG : RightG N es) : checkG N es = 0 := by
 have := hG.lo
 have := hG.hi
 unfold checkG
 rw [if_neg (by omega)]
 exact edges_right hG.ok hG.sorted (fun y hy => by cases hy)
theorem join_straight (hj : joinErr n es = 0) : joinErr n (straightL es) = 0 := by
 obtain ⟨_, hG, hc⟩ := join_zero hj
 have hG' := right_straight hG
 unfold joinErr
 rw [if_neg (fun h => h (check_right hG')), Int.toNat_natCast]
 rw [Int.toNat_natCast, connB_parts hG] at hc
 rw [connB_parts hG', parts_straight hG.ok, hc]; rfl
theorem lev_unused (hj : joinErr n es = 0) (hq : q < n) (hm : (endsL es).length ≤ 500) (hlen : es.length ≤ 10000) : ((recsL n es q).map (lvlC es q)).Perm ((treesT n (endsL (straightL es))).map fun t => ((unusedN (endsL (straightL es)) n q t).length : Int)) := by
 obtain ⟨_, hG, _⟩ := join_zero hj
 have hj' := join_straight hj
 have hG' := right_straight hG
 have hlen' : (straightL es).length ≤ 10000 := Nat.le_trans (List.length_filter_le _ _) hlen
 have hm' : (endsL (straightL es)).length ≤ 500 := by
  rw [ends_straight hG.ok]; exact Nat.le_trans (List.length_filter_le _ _) hm
 have h1 := (recur_perm (root_of hj' hq) hj' hG' hq hm' hlen').symm.map (lvlC es q)
 rw [recsL_straight hG.ok, List.map_map] at h1
 refine h1.trans (List.Perm.of_eq (List.map_congr_left fun t ht => ?_))
 have hb := bd_ends hG'
 have hT := ((treesT_spec hb (by omega)).1 t).1 ht
 obtain ⟨c1, c2, c3, c4⟩ := conf_facts (t := t) hb hq
 have h2 := (unused_facts hb hq hT).1
 show lvlC es q (dulL n (straightL es) (confN (endsL (straightL es)) n q t) q) = _
 rw [dul_straight, lvl_dul hG.ok hq c1 c3, h2]
end
end Go.Proofs.YtnbikkcalcpedaaGreatDoor
namespace Go.Proofs.YtnbikkcalcpedaaGreatDoor
open Go.RowKit
theorem mem_le_sumG {xs : List Int} (h : ∀ x ∈ xs, 0 ≤ x) : (∀ x ∈ xs, x ≤ xs.sum) ∧ 0 ≤ xs.sum := by
 induction xs with
 | nil => exact ⟨fun x hx => by (cases hx), by simp⟩
 | cons a l ih =>
   obtain ⟨i1, i2⟩ := ih fun x hx => h x (List.mem_cons_of_mem _ hx)
   have h1 := h a List.mem_cons_self
   refine ⟨fun x hx => ?_, by rw [List.sum_cons]; omega⟩
   rw [List.sum_cons]
   rcases List.mem_cons.1 hx with rfl | hx
   ·omega
   ·have := i1 x hx
    omega
theorem grownB {n : Int} {es : List E3} {q : Int} {xs : List Int} (h : treeErr n es xs = 0) : grownErr n es q xs = if vertB n q then 0 else 2 := by
 unfold grownErr vertB
 rw [if_neg (fun hc => hc h)]
 by_cases h1 : q < 0 ∨ n ≤ q
 ·rw [if_pos h1, if_neg (by simp; omega)]
 ·rw [if_neg h1, if_pos (by simp; omega)]
theorem rgiven30_any (n q : Int) (A : Option Addr) (c : Nat) (es : List E3) (hlen : es.length ≤ 40) (B : Option Addr) (d : Nat) (xs : List Int) (hl : xs.length ≤ 1000) (w : World) (h : Reads w w.heap.size 3 A es.length (edgeCells es)) (h' : Reads w w.heap.size 1 B xs.length (ints xs)) :
  Calls Tryz.prog 203 #[.agg #[.int .i64 n, .slice A es.length c], .int .i64 q, .slice B xs.length d] w fun e w' => e = .returned (.int .i64 (grownErr n es q xs)) ∧ Below w.heap.size w w' := by
 have TC := Lib.hid (fun w h h' => rtcheck_any n A c es hlen B d xs (by omega) w h h')
 have VC := Lib.hid (fun w => rvertex_any n q A es.length c w)
 have g := Blk.new w 24 #[.int .i64 n, .slice A es.length c]
 have hB : Below w.heap.size w (w.alloc (.cells #[.int .i64 n, .slice A es.length c] 24)) := (Below.refl _ _).alloc (Nat.le_refl _) _
 have k0 := g.cell 0
 have k1 := g.cell 1
 by_cases ht : treeErr n es xs = 0
 ·rw [grownB ht]
  rw [ht] at TC
  obtain ⟨r, hr⟩ : ∃ r, vertB n q = r := ⟨_, rfl⟩
  rw [hr] at VC ⊢
  clear ht hr
  cases r
  ·go_enter Tryz.func203, Tryz.ntmps203
   go_wp2_with fail
   refine (TC.out _ ((h.below hB).more hB.size) ((h'.below hB).more hB.size)).mono ?_
   rintro e wn ⟨rfl, hb⟩
   have g := g.next hb
   have hB := hB.trans (hb.mono hB.size)
   have k0 := g.cell 0
   have k1 := g.cell 1
   clear hb
   go_wp2_with fail
   refine (VC.out _).mono ?_
   rintro e wn ⟨rfl, rfl⟩
   go_wp2
   go_ret
   exact ⟨rfl, hB.alloc hB.size _⟩
  ·go_enter Tryz.func203, Tryz.ntmps203
   go_wp2_with fail
   refine (TC.out _ ((h.below hB).more hB.size) ((h'.below hB).more hB.size)).mono ?_
   rintro e wn ⟨rfl, hb⟩
   have g := g.next hb
   have hB := hB.trans (hb.mono hB.size)
   have k0 := g.cell 0
   have k1 := g.cell 1
   clear hb
   go_wp2_with fail
   refine (VC.out _).mono ?_
   rintro e wn ⟨rfl, rfl⟩
   go_wp2
   go_ret
   exact ⟨rfl, hB.alloc hB.size _⟩
 ·have hE : grownErr n es q xs = treeErr n es xs := by unfold grownErr; rw [if_pos ht]
  rw [hE]
  obtain ⟨z, hz⟩ : ∃ z, treeErr n es xs = z := ⟨_, rfl⟩
  rw [hz] at TC ht ⊢
  have hzb : (z != 0) = true := by simpa using ht
  clear ht hz hE
  go_enter Tryz.func203, Tryz.ntmps203
  go_wp2_with fail
  refine (TC.out _ ((h.below hB).more hB.size) ((h'.below hB).more hB.size)).mono ?_
  rintro e wn ⟨rfl, hb⟩
  have g := g.next hb
  have hB := hB.trans (hb.mono hB.size)
  have k0 := g.cell 0
  have k1 := g.cell 1
  clear hb
  go_wp2
  go_ret
  exact ⟨rfl, hB⟩
theorem burntT_any (m p : Nat) (A : Option Addr) (c : Nat) (es : List E3) (hlen : es.length ≤ 40) {t : List Nat} (hR : TreeR m es t) (hp : p < m) (B : Option Addr) (d : Nat) (t' : List Nat) (ht : t.length ≤ 1000) (_ : t' = t) :
  Hid (∀ (w : World) (_ : Reads w w.heap.size 3 A es.length (edgeCells es)) (_ : Reads w w.heap.size 1 B t.length (ints (nI t))), Calls Tryz.prog 204 #[.agg #[.int .i64 m, .slice A es.length c], .int .i64 p, .slice none 0 0, .slice B t.length d, .bool true] w fun e w' => ∃ a1 c1 a2 l2 c2 a3 l3 c3 gT, e = .returned (.agg #[.slice a1 (fireB (endsL es) m p t).steps.length c1, .slice a2 l2 c2, .slice a3 l3 c3, .slice (some ⟨gT, 0, none⟩) m m]) ∧ Reads w' w'.heap.size 1 a1 (fireB (endsL es) m p t).steps.length (ints (nI (fireB (endsL es) m p t).steps)) ∧ OwnI w' w.heap.size (some ⟨gT, 0, none⟩) m (confN (endsL es) m p t) ∧ Below w.heap.size w w') := by
 intro w h h'
 refine (burntB_any m p A c es hlen hR.hG hp B d t (by omega) w h h').mono ?_
 rintro e w' ⟨a, X, rfl, hX, o1, _, _, o4, hb⟩
 have e1 : X.steps = (fireB (endsL es) m p t).steps := by rw [hX.out]; rfl
 have e2 : X.times = confN (endsL es) m p t := by rw [hX.out]; rfl
 have hrd := o1.reads
 rw [e1, nI_length] at hrd
 rw [e2] at o4
 refine ⟨a.AS, a.cS, a.AO, X.order.length, a.cO, a.AD, X.tree.length, a.cD, a.gT, ?_, hrd, o4, hb⟩
 unfold btC
 rw [e1]
theorem rconfig30_any (n q : Int) (A : Option Addr) (c : Nat) (es : List E3) (hlen : es.length ≤ 40) (hm0 : checkG n es = 0 → (endsL es).length ≤ 60) (B : Option Addr) (d : Nat) (xs : List Int) (hl : xs.length ≤ 1000) (w : World) (h : Reads w w.heap.size 3 A es.length (edgeCells es)) (h' : Reads w w.heap.size 1 B xs.length (ints xs)) :
  Calls Tryz.prog 146 #[.agg #[.int .i64 n, .slice A es.length c], .int .i64 q, .slice B xs.length d] w fun e w' => ∃ A' c', e = .returned (.tuple #[.slice A' (confFE n es q xs).1.length c', .int .i64 (confFE n es q xs).2]) ∧ OwnI w' w.heap.size A' c' (confFE n es q xs).1 ∧ Below w.heap.size w w' := by
 have g := Blk.new w 24 #[.int .i64 n, .slice A es.length c]
 have hB : Below w.heap.size w (w.alloc (.cells #[.int .i64 n, .slice A es.length c] 24)) := (Below.refl _ _).alloc (Nat.le_refl _) _
 have k0 := g.cell 0
 have k1 := g.cell 1
 have GC := Lib.hid (fun w h h' => rgiven30_any n q A c es hlen B d xs hl w h h')
 by_cases hz : grownErr n es q xs = 0
 ·rw [hz] at GC
  obtain ⟨m, p, t, rfl, rfl, rfl, hp, hm12, hR, hte⟩ := grown_nat hz
  have hm := hm0 (join_zero (tree_join hte)).1
  rw [nI_length] at h' hl GC ⊢
  have BC := burntT_any m p A c es hlen hR hp B d t (by omega) rfl
  have hE : confFE m es p (nI t) = (confN (endsL es) m p t, 0) := by unfold confFE; rw [if_pos hz, nI_toNat]; rfl
  rw [hE]
  have hcl : (confN (endsL es) m p t).length = m := (conf_facts hR.hT.bd hp t).1
  dsimp only
  rw [hcl]
  obtain ⟨C, hC⟩ : ∃ C, confN (endsL es) m p t = C := ⟨_, rfl⟩
  obtain ⟨S, hS⟩ : ∃ S, fireB (endsL es) m p t = S := ⟨_, rfl⟩
  rw [hC] at BC ⊢
  rw [hS] at BC
  clear hE hcl hC hS hz hR hte hl hm hm0
  go_enter Tryz.func146, Tryz.ntmps146
  go_wp2_with fail
  refine (GC.out _ ((h.below hB).more hB.size) ((h'.below hB).more hB.size)).mono ?_
  rintro e wn ⟨rfl, hb⟩
  have g := g.next hb
  have hB := hB.trans (hb.mono hB.size)
  have k0 := g.cell 0
  have k1 := g.cell 1
  clear hb
  go_wp2_with fail
  refine (BC.out _ ((h.below hB).more hB.size) ((h'.below hB).more hB.size)).mono ?_
  rintro e wn ⟨a1, c1, a2, l2, c2, a3, l3, c3, gT, rfl, q1, q4, hb⟩
  have hz0 := hB.size
  have hB := hB.trans (hb.mono hB.size)
  have hfd : ∀ w : World, (Instr.field 246 (.agg #[.slice a1 S.steps.length c1, .slice a2 l2 c2, .slice a3 l3 c3, .slice (some ⟨gT, 0, none⟩) m m]) 3).run Tryz.prog w = .ok (.slice (some ⟨gT, 0, none⟩) m m) w := fun _ => by kernel_rfl
  go_wp2
  go_ret2
  exact ⟨_, _, rfl, q4.mono (by omega), hB⟩
 ·have hE : confFE n es q xs = ([], grownErr n es q xs) := by unfold confFE; rw [if_neg hz]
  rw [hE]
  dsimp only
  obtain ⟨z, hzz⟩ : ∃ z, grownErr n es q xs = z := ⟨_, rfl⟩
  rw [hzz] at GC hz ⊢
  have hzb : (z != 0) = true := by simpa using hz
  clear hE hzz hz hm0
  go_enter Tryz.func146, Tryz.ntmps146
  go_wp2_with fail
  refine (GC.out _ ((h.below hB).more hB.size) ((h'.below hB).more hB.size)).mono ?_
  rintro e wn ⟨rfl, hb⟩
  have g := g.next hb
  have hB := hB.trans (hb.mono hB.size)
  have k0 := g.cell 0
  have k1 := g.cell 1
  clear hb
  go_wp2
  go_ret2
  exact ⟨_, _, rfl, OwnI.nil_ _ _, hB⟩
theorem straight_snoc {es : List E3} {e : E3} : straightL (es ++ [e]) = if e.1 ≠ e.2.1 then straightL es ++ [e] else straightL es := by
 unfold straightL
 rw [List.filter_append]
 by_cases h : e.1 = e.2.1 <;> simp [h]
theorem limited_any (n : Nat) (A : Option Addr) (c : Nat) (es : List E3) (hlen : es.length ≤ 10000) (hok : ∀ e ∈ es, okE n e) (w : World) (h : Reads w w.heap.size 3 A es.length (edgeCells es)) :
  Calls Tryz.prog 103 #[.agg #[.int .i64 n, .slice A es.length c], .int .i64 50] w fun e w' => ∃ A' c', e = .returned (.agg #[.int .i64 n, .slice A' (straightL es).length c']) ∧ OwnE w' w.heap.size A' c' (straightL es) ∧ Below w.heap.size w w' := by
 obtain ⟨w0, hw0⟩ : ∃ w0, ((w.alloc (.cells #[.int .i64 n, .slice A es.length c] 24)).alloc (.cells #[.int .i64 0, .slice none 0 0] 24)) = w0 := ⟨_, rfl⟩
 have hs0 : w0.heap.size = w.heap.size + 2 := by rw [← hw0]; simp
 have hB0 : Below w.heap.size w w0 := by rw [← hw0]; exact ((Below.refl _ _).alloc (Nat.le_refl _) _).alloc (by simp) _
 have rg : Blk w0 w.heap.size 24 #[.int .i64 n, .slice A es.length c] := by rw [← hw0]; exact (Blk.new w _ _).alloc _
 have rr : Blk w0 (w.heap.size + 1) 24 #[.int .i64 0, .slice none 0 0] := by rw [← hw0]; exact Blk.new_at (by simp)
 have c0 := rg.cell 0
 have c1 := rg.cell 1
 have HOK := Lib.hid hok
 have h0 := (h.below hB0).more hB0.size
 go_enter Tryz.func103, Tryz.ntmps103
 go_wp2_with fail
 go_loopw [6] (fun i wr => ∃ (k : Nat) (A' : Option Addr) (c' : Nat), k ≤ es.length ∧ i = .int .i64 k ∧ Hid (Blk wr (w.heap.size + 2) 24 #[.int .i64 n, .slice A' (straightL (es.take k)).length c']) ∧ Hid (OwnE wr w0.heap.size A' c' (straightL (es.take k))) ∧ Hid (Below w0.heap.size w0 wr)) (fun i _ => es.length - (intOf i).toNat)
 case atStart => exact ⟨0, none, 0, by omega, rfl, Blk.new_at hs0.symm, OwnE.nil_ _ _, (Below.refl _ _).alloc (Nat.le_refl _) _⟩
 case round =>
  obtain ⟨k, A', c', hk, rfl, HG, HO, HB⟩ := hrel
  obtain ⟨wo, hwo⟩ : ∃ wo : World, wo = wr := ⟨wr, rfl⟩
  subst hwo
  have gi := rg.next HB.out
  have c0 := gi.cell 0
  have c1 := gi.cell 1
  have hsz := HB.out.size
  have i3 := (h0.next HB.out)
  by_cases hlt : k < es.length
  ·obtain ⟨⟨x, y, m⟩, hx⟩ := get_of_lt hlt
   have hok := HOK.out _ (List.mem_of_getElem? hx)
   unfold okE at hok
   dsimp only at hok
   have hi : (k : Int) < (es.length : Int) := by omega
   obtain ⟨bb, off, rfl, hbb, q1, q2, q3⟩ := i3.edge hx
   dsimp only at q1 q2 q3
   have e3 := Blk.new wo 107 #[.int .i64 x, .int .i64 y, .int .i64 m]
   have P0 := e3.cell 0
   have P1 := e3.cell 1
   have P2 := e3.cell 2
   have g1 := HG.out.alloc (.cells #[.int .i64 x, .int .i64 y, .int .i64 m] 107)
   have hst := straight_snoc (es := es.take k) (e := (x, y, m))
   rw [← take_snoc hx] at hst
   dsimp only at hst
   have hl : (straightL (es.take k)).length ≤ 10000 := Nat.le_trans (List.length_filter_le _ _) (Nat.le_trans (List.length_take_le _ _) (by omega))
   obtain ⟨fs, hfs⟩ : ∃ fs, straightL (es.take k) = fs := ⟨_, rfl⟩
   rw [hfs] at HG HO hst hl g1
   have HFS := Lib.hid hfs
   have p0 := g1.cell 0
   have p1 := g1.cell 1
   clear hfs hx c0
   by_cases hxy : x = y
   ·rw [if_neg (fun hc => hc hxy)] at hst
    have HST := Lib.hid hst
    subst hxy
    clear hst
    have B1 := HB.out.alloc hsz (.cells #[.int .i64 x, .int .i64 x, .int .i64 m] 107)
    go_wp2
    go_roundw
    case rel => exact ⟨k + 1, A', c', by omega, by go_num, by rw [HST.out]; exact g1, by rw [HST.out]; exact HO.out.alloc _, B1⟩
    case measure => simp [intOf]; omega
   ·rw [if_pos hxy] at hst
    have HST := Lib.hid hst
    have hb : (x != y) = true := by simpa using hxy
    have hml : ¬ 50 < m := by omega
    clear hst
    have B1 := HB.out.alloc hsz (.cells #[.int .i64 x, .int .i64 y, .int .i64 m] 107)
    have O1 := Lib.hid (HO.out.alloc (.cells #[.int .i64 x, .int .i64 y, .int .i64 m] 107))
    have hs1 : (wo.alloc (.cells #[.int .i64 x, .int .i64 y, .int .i64 m] 107)).heap.size = wo.heap.size + 1 := by simp
    go_wp2_with (at_builtin; refine push_edge rfl (.tmp 29) (.tmp 39) _ rfl Tryz.underlying22 w0.heap.size A' c' fs x y m rfl O1.out rfl (by simp) (by omega) (by simp; omega) ?_; intro A3 c3 w3 hown3 hg3 hb3; have g3 := (g1.alloc _).grown hg3 (own_blk_ne O1.out g1 (by decide)); have p3 := g3.cell 1; have f3 := g3.frozen 1)
    go_roundw
    case rel =>
     refine ⟨k + 1, A3, c3, by omega, by go_num, ?_, ?_, ?_⟩
     ·rw [HST.out, List.length_append]; exact g3.set_ 1 _
     ·rw [HST.out]; exact hown3.set_blk g3 (by decide) 1 _
     ·exact (B1.trans hb3).setCell (by show w0.heap.size ≤ w.heap.size + 2; omega) _
    case measure => simp [intOf]; omega
  ·obtain rfl : k = es.length := by omega
   rw [List.take_length] at HG HO
   obtain ⟨fs, hfs⟩ : ∃ fs, straightL es = fs := ⟨_, rfl⟩
   rw [hfs] at HG HO
   have p0 := HG.out.cell 0
   have p1 := HG.out.cell 1
   have g2 := rr.next HB.out
   have r0 := g2.cell 0
   have r1 := g2.cell 1
   have f2 := g2.frozen
   have HFS := Lib.hid hfs
   clear hfs
   go_wp2
   try simp only [Exit.inBlock, Exit.then]
   try simp only [Exit.inBlock, Exit.then]
   refine bodyPost_ret (results_g rfl rfl ((g2.set_ 0 _).set_ 1 _) rfl) rfl ?_
   refine ⟨A', c', ?_, ?_, ?_⟩
   ·rw [HFS.out]; rfl
   ·rw [HFS.out]; exact ((HO.out.set_blk g2 (by decide) _ _).set_blk (g2.set_ 0 _) (by decide) _ _).mono (by omega)
   ·exact ((hB0.trans (HB.out.mono (by omega))).setCell (by show w.heap.size ≤ w.heap.size + 1; omega) _).setCell (by show w.heap.size ≤ w.heap.size + 1; omega) _
theorem rrecur30_any (n q : Int) (A : Option Addr) (c : Nat) (es : List E3) (hlen : es.length ≤ 40) (hm0 : checkG n es = 0 → (endsL es).length ≤ 60) (B : Option Addr) (d : Nat) (xs : List Int) (hl : xs.length ≤ 1000) (w : World) (h : Reads w w.heap.size 3 A es.length (edgeCells es)) (h' : Reads w w.heap.size 1 B xs.length (ints xs)) :
  Calls Tryz.prog 88 #[.agg #[.int .i64 n, .slice A es.length c], .int .i64 q, .slice B xs.length d] w fun e w' => ∃ A' c', e = .returned (.tuple #[.slice A' (recFE n es q xs).1.length c', .int .i64 (recFE n es q xs).2]) ∧ OwnI w' w.heap.size A' c' (recFE n es q xs).1 ∧ Below w.heap.size w w' := by
 have g := Blk.new w 24 #[.int .i64 n, .slice A es.length c]
 have hB : Below w.heap.size w (w.alloc (.cells #[.int .i64 n, .slice A es.length c] 24)) := (Below.refl _ _).alloc (Nat.le_refl _) _
 have k0 := g.cell 0
 have k1 := g.cell 1
 have CO := Lib.hid (fun w h h' => rconfig30_any n q A c es hlen hm0 B d xs hl w h h')
 by_cases hz : grownErr n es q xs = 0
 ·have hCE : confFE n es q xs = (confN (endsL es) n.toNat q.toNat (xs.map Int.toNat), 0) := by unfold confFE; rw [if_pos hz]
  rw [hCE] at CO
  have hE : recFE n es q xs = (dulL n.toNat es (confN (endsL es) n.toNat q.toNat (xs.map Int.toNat)) q.toNat, 0) := by unfold recFE; rw [if_pos hz]
  rw [hE]
  dsimp only at CO ⊢
  obtain ⟨m, p, t, rfl, rfl, rfl, hp, hm12, hR, hte⟩ := grown_nat hz
  rw [nI_toNat] at CO ⊢
  simp only [Int.toNat_natCast] at CO ⊢
  have hm := hm0 (join_zero (tree_join hte)).1
  obtain ⟨hcl, hcn, hcq, hcs⟩ := conf_facts hR.hT.bd hp t
  obtain ⟨hcz, hst⟩ := conf_cfg (tree_join hte) hR hp (by omega)
  obtain ⟨C, hC⟩ : ∃ C, confN (endsL es) m p t = C := ⟨_, rfl⟩
  rw [hC] at CO hcl hcn hcs hcz hst ⊢
  have hcb : ∀ x ∈ C, -1048576 ≤ x ∧ x ≤ 1048576 := by
   have h0 : ∀ x ∈ C, 0 ≤ x := by
    intro x hx
    obtain ⟨i, hi⟩ := List.mem_iff_getElem?.1 hx
    have := hcn i
    rw [List.getD_eq_getElem?_getD, hi] at this
    exact this
   intro x hx
   have := (mem_le_sumG h0).1 x hx
   have := h0 x hx
   omega
  have DU : Hid (∀ (B : Option Addr) (d : Nat) (W : World) (_ : Reads W W.heap.size 3 A es.length (edgeCells es)) (_ : Reads W W.heap.size 1 B m (ints C)), Calls Tryz.prog 147 #[.agg #[.int .i64 m, .slice A es.length c], .int .i64 p, .slice B m d] W fun e w' => ∃ A' c', e = .returned (.slice A' m c') ∧ OwnI w' W.heap.size A' c' (dulL m es C p) ∧ Below W.heap.size W w') := fun B d W h1 h2 => turned28_any m A c es (by omega) hR.hG p B d C hcl hcb W h1 h2
  rw [dulL_length]
  rw [nI_length] at CO
  have HCL := Lib.hid hcl
  rw [nI_length] at h' hl ⊢
  rw [hcl] at CO
  clear hE hCE hz hm hR hte hl hcz hst hC hcl hcn hcq hcs hcb
  go_enter Tryz.func88, Tryz.ntmps88
  go_wp2_with fail
  refine (CO.out _ ((h.below hB).more hB.size) ((h'.below hB).more hB.size)).mono ?_
  rintro e wn ⟨A1, c1', rfl, o1, hb⟩
  have g := g.next hb
  have hB2 := hB.trans (hb.mono hB.size)
  have k0 := g.cell 0
  have k1 := g.cell 1
  have R1 := o1.reads
  rw [HCL.out] at R1
  go_wp2_with fail
  refine (DU.out _ _ _ ((h.below hB2).more hB2.size) R1).mono ?_
  rintro e w2 ⟨A2, c2, rfl, o2, hb2⟩
  have hz0 := hB2.size
  have hB2 := hB2.trans (hb2.mono hB2.size)
  go_wp2
  go_ret2
  exact ⟨_, _, rfl, o2.mono (by omega), hB2⟩
 ·have hE : recFE n es q xs = ([], grownErr n es q xs) := by unfold recFE; rw [if_neg hz]
  have hCE : confFE n es q xs = ([], grownErr n es q xs) := by unfold confFE; rw [if_neg hz]
  rw [hE]
  rw [hCE] at CO
  dsimp only at CO
  dsimp only
  obtain ⟨z, hzz⟩ : ∃ z, grownErr n es q xs = z := ⟨_, rfl⟩
  rw [hzz] at CO hz ⊢
  have hzb : (z != 0) = true := by simpa using hz
  clear hE hCE hzz hz hm0
  go_enter Tryz.func88, Tryz.ntmps88
  go_wp2_with fail
  refine (CO.out _ ((h.below hB).more hB.size) ((h'.below hB).more hB.size)).mono ?_
  rintro e wn ⟨Az, cz, rfl, _, hb⟩
  have g := g.next hb
  have hB := hB.trans (hb.mono hB.size)
  have k0 := g.cell 0
  have k1 := g.cell 1
  clear hb
  go_wp2
  go_ret2
  exact ⟨_, _, rfl, OwnI.nil_ _ _, hB⟩
theorem sumTake {xs : List Int} {k : Nat} {x : Int} (h : xs[k]? = some x) : (xs.take (k + 1)).sum = (xs.take k).sum + x := by
 rw [take_snoc h, List.sum_append]; simp
end Go.Proofs.YtnbikkcalcpedaaGreatDoor
