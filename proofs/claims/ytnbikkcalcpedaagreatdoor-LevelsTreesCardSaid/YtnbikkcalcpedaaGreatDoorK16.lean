/-
 Texts of this claim, put together: Make, PushE, RankP, REnds.
-/
import Derived.Test.YtnbikkcalcpedaaGreatDoorK13
import Derived.Test.YtnbikkcalcpedaaGreatDoorK10
import Derived.Test.YtnbikkcalcpedaaGreatDoorK07
import Derived.Test.YtnbikkcalcpedaaGreatDoorK12
import Derived.Deep.RegionLaw
set_option maxRecDepth 100000
set_option maxHeartbeats 4000000
namespace Go.Proofs.YtnbikkcalcpedaaGreatDoor
open Go.RowKit
def pairCells : List (Nat × Nat) → List Value
 | [] => []
 | e :: es => .int .i64 (e.1 : Int) :: .int .i64 (e.2 : Int) :: pairCells es
theorem pairCells_length (es : List (Nat × Nat)) : (pairCells es).length = es.length * 2 := by
 induction es with
 | nil => rfl
 | cons e es ih => simp [pairCells, ih]; omega
theorem pairCells_at {es : List (Nat × Nat)} {k : Nat} {e : Nat × Nat} (h : es[k]? = some e) :
  (pairCells es)[k * 2]? = some (.int .i64 (e.1 : Int)) ∧ (pairCells es)[k * 2 + 1]? = some (.int .i64 (e.2 : Int)) := by
 induction es generalizing k with
 | nil => simp at h
 | cons f es ih =>
   rcases k with _ | k
   ·simp at h; subst h; simp [pairCells]
   ·have := ih (k := k) (by simpa using h)
    rw [show (k + 1) * 2 = k * 2 + 1 + 1 from by omega, show k * 2 + 1 + 1 + 1 = (k * 2 + 1) + 1 + 1 from by omega]
    simpa [pairCells] using this
theorem Reads.pair {w : World} {B n : Nat} {A : Option Addr} {es : List (Nat × Nat)} {k : Nat} {e : Nat × Nat} (h : Reads w B 2 A n (pairCells es)) (he : es[k]? = some e) :
  ∃ b off, A = some ⟨b, off, none⟩ ∧ b < B ∧ w.cell? ⟨b, off + k * 2, none⟩ = some (.int .i64 (e.1 : Int)) ∧ w.cell? ⟨b, off + k * 2 + 1, none⟩ = some (.int .i64 (e.2 : Int)) := by
 have hk : k < es.length := (List.getElem?_eq_some_iff.1 he).1
 have hl := h.1
 rw [pairCells_length] at hl
 obtain ⟨b, off, hA, hb, hc⟩ := h.2 (by omega)
 obtain ⟨h1, h2⟩ := pairCells_at he
 exact ⟨b, off, hA, hb, hc _ _ h1, by have := hc _ _ h2; rwa [show off + (k * 2 + 1) = off + k * 2 + 1 from by omega] at this⟩
def cnt (es : List (Nat × Nat)) (a b : Nat) : Nat := (es.filter fun e => decide (min e.1 e.2 = a) && decide (max e.1 e.2 = b)).length
def tabRow (n : Nat) (es : List (Nat × Nat)) (a : Nat) : List Int := (List.range n).map fun b => (cnt es a b : Int)
def tab (n : Nat) (es : List (Nat × Nat)) : List (List Int) := (List.range n).map (tabRow n es)
theorem tab_length (n : Nat) (es : List (Nat × Nat)) : (tab n es).length = n := by simp [tab]
theorem tabRow_length (n : Nat) (es : List (Nat × Nat)) (a : Nat) : (tabRow n es a).length = n := by simp [tabRow]
theorem tab_row {n a : Nat} (es : List (Nat × Nat)) (h : a < n) : (tab n es)[a]? = some (tabRow n es a) := by simp [tab, h]
theorem tabRow_at {n b : Nat} (es : List (Nat × Nat)) (a : Nat) (h : b < n) : (tabRow n es a)[b]? = some (cnt es a b : Int) := by simp [tabRow, h]
theorem tab_mem {n : Nat} {es : List (Nat × Nat)} : ∀ r ∈ tab n es, r.length = n := by
 intro r hr
 obtain ⟨a, _, rfl⟩ := List.mem_map.1 hr
 exact tabRow_length _ _ _
theorem entry_tab {n a b : Nat} (es : List (Nat × Nat)) (ha : a < n) (hb : b < n) : entry (tab n es) a b = cnt es a b := entry_of (tab_row es ha) (tabRow_at es a hb)
theorem tab_nil (n : Nat) : tab n [] = List.replicate n (List.replicate n 0) := by
 apply List.ext_getElem?
 intro i
 by_cases h : i < n
 ·rw [tab_row _ h, List.getElem?_replicate_of_lt h]
  congr 1
  apply List.ext_getElem?
  intro j
  by_cases h' : j < n
  ·rw [tabRow_at _ _ h', List.getElem?_replicate_of_lt h']; rfl
  ·rw [List.getElem?_eq_none (by rw [tabRow_length]; omega), List.getElem?_eq_none (by simp; omega)]
 ·rw [List.getElem?_eq_none (by rw [tab_length]; omega), List.getElem?_eq_none (by simp; omega)]
theorem cnt_snoc (es : List (Nat × Nat)) (e : Nat × Nat) (a b : Nat) : cnt (es ++ [e]) a b = cnt es a b + if min e.1 e.2 = a ∧ max e.1 e.2 = b then 1 else 0 := by
 unfold cnt
 rw [List.filter_append, List.length_append]
 congr 1
 by_cases h1 : min e.1 e.2 = a <;> by_cases h2 : max e.1 e.2 = b <;> simp [h1, h2]
theorem tab_snoc {n : Nat} {es : List (Nat × Nat)} {e : Nat × Nat} {a b : Nat} (ha : min e.1 e.2 = a) (hb : max e.1 e.2 = b) (h1 : a < n) (h2 : b < n) :
  (tab n es).set a ((tabRow n es a).set b ((cnt es a b : Int) + 1)) = tab n (es ++ [e]) := by
 apply List.ext_getElem?
 intro i
 by_cases h : i < n
 ·rw [tab_row _ h]
  by_cases hi : i = a
  ·subst hi
   rw [List.getElem?_set_self (by rw [tab_length]; exact h)]
   congr 1
   apply List.ext_getElem?
   intro j
   by_cases h' : j < n
   ·rw [tabRow_at _ _ h']
    by_cases hj : j = b
    ·subst hj
     rw [List.getElem?_set_self (by rw [tabRow_length]; exact h'), cnt_snoc, if_pos ⟨ha, hb⟩]
     rfl
    ·rw [List.getElem?_set_ne (fun e => hj e.symm), tabRow_at _ _ h', cnt_snoc, if_neg (fun e => hj (e.2.symm.trans hb))]
     rfl
   ·rw [List.getElem?_eq_none (by rw [List.length_set, tabRow_length]; omega), List.getElem?_eq_none (by rw [tabRow_length]; omega)]
  ·rw [List.getElem?_set_ne (fun e => hi e.symm), tab_row _ h]
   congr 1
   apply List.ext_getElem?
   intro j
   by_cases h' : j < n
   ·rw [tabRow_at _ _ h', tabRow_at _ _ h', cnt_snoc, if_neg (fun e => hi (e.1.symm.trans ha))]
    rfl
   ·rw [List.getElem?_eq_none (by rw [tabRow_length]; omega), List.getElem?_eq_none (by rw [tabRow_length]; omega)]
 ·rw [List.getElem?_eq_none (by rw [List.length_set, tab_length]; omega), List.getElem?_eq_none (by rw [tab_length]; omega)]
def madeS (n : Nat) (es : List (Nat × Nat)) : List E3 := joined (fun a b => (cnt es a b : Int)) n
theorem joinRow_congr {f g : Nat → Nat → Int} {n a : Nat} (h : ∀ b, b < n → f a b = g a b) : joinRow f a n = joinRow g a n := by
 unfold joinRow
 have : ∀ l : List Nat, (∀ j ∈ l, j < n) → l.filterMap (fun j : Nat => if 0 < f a j then some ((a : Int), (j : Int), f a j) else none) = l.filterMap (fun j : Nat => if 0 < g a j then some ((a : Int), (j : Int), g a j) else none) := by
  intro l
  induction l with
  | nil => intro _; rfl
  | cons j l ih =>
    intro hl
    rw [List.filterMap_cons, List.filterMap_cons, h j (hl j (by simp)), ih fun i hi => hl i (by simp [hi])]
 exact this _ fun j hj => by simp [List.mem_range'_1] at hj; omega
theorem joined_congr {f g : Nat → Nat → Int} {n : Nat} (h : ∀ a b, a < n → b < n → f a b = g a b) : joined f n = joined g n := by
 unfold joined joinTo
 have : ∀ k, k ≤ n → (List.range k).flatMap (fun i => joinRow f i n) = (List.range k).flatMap (fun i => joinRow g i n) := by
  intro k
  induction k with
  | zero => simp
  | succ k ih =>
    intro hk
    rw [List.range_succ, List.flatMap_append, List.flatMap_append, ih (by omega)]
    simp only [List.flatMap_cons, List.flatMap_nil, List.append_nil]
    rw [joinRow_congr fun b hb => h k b (by omega) hb]
 exact this n (Nat.le_refl _)
theorem joined_tab (n : Nat) (es : List (Nat × Nat)) : joined (entry (tab n es)) n = madeS n es := joined_congr fun _ _ ha hb => entry_tab es ha hb
theorem rmake_any (n : Nat) (h1 : 1 ≤ n) (hn : n ≤ 12) (A : Option Addr) (c : Nat) (es : List (Nat × Nat)) (hl : es.length ≤ 4096) (hin : ∀ e ∈ es, e.1 < n ∧ e.2 < n) (hm : ∀ a b, a < n → b < n → cnt es a b ≤ 50) (w : World) (h : Reads w w.heap.size 2 A es.length (pairCells es)) :
  Calls Tryz.prog 136 #[.int .i64 n, .slice A es.length c] w fun e w' =>
   ∃ A1 c1, e = .returned (.tuple #[.agg #[.int .i64 n, .slice A1 (madeS n es).length c1], .int .i64 0]) ∧ OwnE w' w.heap.size A1 c1 (madeS n es) ∧ Below w.heap.size w w' := by
 have HIN := Lib.hid hin
 have HM := Lib.hid hm
 clear hin hm
 have t1 : ((n : Int) < 1) = False := by simp; omega
 have t2 : ((12 : Int) < (n : Int)) = False := by simp; omega
 have t3 : ((4096 : Int) < (es.length : Int)) = False := by simp; omega
 go_enter Tryz.func136, Tryz.ntmps136
 go_wp2_with (go_at_call 190; refine (table_any n (by omega) _).mono ?_; rintro e w1 ⟨A1, c1, gs, rfl, HG, hgrid, hb1⟩)
 clear t1 t2 t3
 have hB1 : Below w.heap.size w w1 := ((Below.refl _ _).alloc (Nat.le_refl _) _).trans (hb1.mono (by simp))
 have g0 : Blk w1 w.heap.size 24 #[.int .i64 0, .slice none 0 0] := (Blk.new w 24 #[.int .i64 0, .slice none 0 0]).below hb1 (by simp)
 go_loopw [7] (fun i wr => ∃ (k : Nat), k ≤ es.length ∧ i = .int .i64 k ∧ Blk wr w.heap.size 24 #[.int .i64 0, .slice none 0 0] ∧ Grid wr w.heap.size A1 c1 n gs (tab n (es.take k)) ∧ Below w.heap.size w wr) (fun i _ => es.length - (intOf i).toNat)
 case atStart => exact ⟨0, by omega, rfl, g0, by rw [List.take_zero, tab_nil]; exact hgrid.mono (by simp), hB1⟩
 case round =>
  clear hgrid hb1 hB1 g0
  obtain ⟨k, hk, rfl, g0, hgrid, hbel⟩ := hrel
  by_cases hlt : k < es.length
  ·have hi : (k : Int) < (es.length : Int) := by omega
   obtain ⟨⟨x, y⟩, hx⟩ := get_of_lt hlt
   have hxy := HIN.out _ (List.mem_of_getElem? hx)
   obtain ⟨b, off, rfl, hb, q1, q2⟩ := (h.below hbel).pair hx
   dsimp only at q1 q2 hxy
   obtain ⟨hxn, hyn⟩ := hxy
   have HX := Lib.hid hx
   clear hx h
   have u1 : ((x : Int) < 0) = False := by simp
   have u2 : ((y : Int) < 0) = False := by simp
   have u3 : ((n : Int) ≤ (x : Int)) = False := by simp; omega
   have u4 : ((n : Int) ≤ (y : Int)) = False := by simp; omega
   go_wp2
   go_quiet (fail)
   have x_n := hxn
   have y_n := hyn
   rcases Nat.lt_trichotomy x y with hlt2 | rfl | hlt2
   ·have v1 : ((x : Int) < (y : Int)) = True := by simp; omega
    have v2 : ((y : Int) < (x : Int)) = False := by simp; omega
    have v3 : (x : Int) < (n : Int) := by omega
    have v4 : (y : Int) < (n : Int) := by omega
    have hcnt : cnt (es.take k) x y ≤ 4096 := by
     have : cnt (es.take k) x y ≤ (es.take k).length := List.length_filter_le _ _
     rw [List.length_take] at this; omega
    obtain ⟨g, hg⟩ := get_of_lt (xs := gs) (k := x) (by have := HG.out; omega)
    obtain ⟨hgb, _, _⟩ := hgrid.row x g _ hg (tab_row _ x_n)
    obtain ⟨b3, off3, rfl, hc3⟩ := hgrid.cell hg
    have hc4 := hgb.cell y
    rw [intCells_get (tabRow_at _ _ y_n)] at hc4
    have hf4 := hgb.frozen y
    have hset := (hgrid.drewN nq).set (j := y) hg (tab_row _ x_n) ((cnt (es.take k) x y : Int) + 1)
    rw [tab_snoc (e := (x, y)) (by simp <;> omega) (by simp <;> omega) x_n y_n, ← take_snoc HX.out] at hset
    have g0' := (g0.drewN nq).far (p := ⟨g, y, none⟩) (by intro e; exact hgb.ne_ g0 (by decide) e.symm) (.int .i64 ((cnt (es.take k) x y : Int) + 1))
    obtain ⟨cn, hcn⟩ : ∃ cn, cnt (es.take k) x y = cn := ⟨_, rfl⟩
    rw [hcn] at hc4 hset hcnt g0'
    have HS := Lib.hid hset
    have HB := Lib.hid (hgrid.blk (List.mem_of_getElem? hg))
    clear hset hgb hgrid hcn hg
    go_wp2
    go_roundw
    case rel =>
     refine ⟨k + 1, by omega, by go_num, g0', HS.out, ?_⟩
     obtain ⟨_, _, hgz⟩ := HB.out
     exact (below_drewN hbel nq).setCell hgz _
    case measure => simp [intOf]; omega
   ·have v3 : (x : Int) < (n : Int) := by omega
    have hcnt : cnt (es.take k) x x ≤ 4096 := by
     have : cnt (es.take k) x x ≤ (es.take k).length := List.length_filter_le _ _
     rw [List.length_take] at this; omega
    obtain ⟨g, hg⟩ := get_of_lt (xs := gs) (k := x) (by have := HG.out; omega)
    obtain ⟨hgb, _, _⟩ := hgrid.row x g _ hg (tab_row _ x_n)
    obtain ⟨b3, off3, rfl, hc3⟩ := hgrid.cell hg
    have hc4 := hgb.cell x
    rw [intCells_get (tabRow_at _ _ x_n)] at hc4
    have hf4 := hgb.frozen x
    have hset := (hgrid.drewN nq).set (j := x) hg (tab_row _ x_n) ((cnt (es.take k) x x : Int) + 1)
    rw [tab_snoc (e := (x, x)) (by simp <;> omega) (by simp <;> omega) x_n x_n, ← take_snoc HX.out] at hset
    have g0' := (g0.drewN nq).far (p := ⟨g, x, none⟩) (by intro e; exact hgb.ne_ g0 (by decide) e.symm) (.int .i64 ((cnt (es.take k) x x : Int) + 1))
    obtain ⟨cn, hcn⟩ : ∃ cn, cnt (es.take k) x x = cn := ⟨_, rfl⟩
    rw [hcn] at hc4 hset hcnt g0'
    have HS := Lib.hid hset
    have HB := Lib.hid (hgrid.blk (List.mem_of_getElem? hg))
    clear hset hgb hgrid hcn hg
    go_wp2
    go_roundw
    case rel =>
     refine ⟨k + 1, by omega, by go_num, g0', HS.out, ?_⟩
     obtain ⟨_, _, hgz⟩ := HB.out
     exact (below_drewN hbel nq).setCell hgz _
    case measure => simp [intOf]; omega
   ·have v1 : ((x : Int) < (y : Int)) = False := by simp; omega
    have v2 : ((y : Int) < (x : Int)) = True := by simp; omega
    have v3 : (x : Int) < (n : Int) := by omega
    have v4 : (y : Int) < (n : Int) := by omega
    have hcnt : cnt (es.take k) y x ≤ 4096 := by
     have : cnt (es.take k) y x ≤ (es.take k).length := List.length_filter_le _ _
     rw [List.length_take] at this; omega
    obtain ⟨g, hg⟩ := get_of_lt (xs := gs) (k := y) (by have := HG.out; omega)
    obtain ⟨hgb, _, _⟩ := hgrid.row y g _ hg (tab_row _ y_n)
    obtain ⟨b3, off3, rfl, hc3⟩ := hgrid.cell hg
    have hc4 := hgb.cell x
    rw [intCells_get (tabRow_at _ _ x_n)] at hc4
    have hf4 := hgb.frozen x
    have hset := (hgrid.drewN nq).set (j := x) hg (tab_row _ y_n) ((cnt (es.take k) y x : Int) + 1)
    rw [tab_snoc (e := (x, y)) (by simp <;> omega) (by simp <;> omega) y_n x_n, ← take_snoc HX.out] at hset
    have g0' := (g0.drewN nq).far (p := ⟨g, x, none⟩) (by intro e; exact hgb.ne_ g0 (by decide) e.symm) (.int .i64 ((cnt (es.take k) y x : Int) + 1))
    obtain ⟨cn, hcn⟩ : ∃ cn, cnt (es.take k) y x = cn := ⟨_, rfl⟩
    rw [hcn] at hc4 hset hcnt g0'
    have HS := Lib.hid hset
    have HB := Lib.hid (hgrid.blk (List.mem_of_getElem? hg))
    clear hset hgb hgrid hcn hg
    go_wp2
    go_roundw
    case rel =>
     refine ⟨k + 1, by omega, by go_num, g0', HS.out, ?_⟩
     obtain ⟨_, _, hgz⟩ := HB.out
     exact (below_drewN hbel nq).setCell hgz _
    case measure => simp [intOf]; omega
  ·have hi : ¬ (k : Int) < (es.length : Int) := by omega
   obtain rfl : k = es.length := by omega
   rw [List.take_length] at hgrid
   have HJ := fun w h => rjoined_any n (by omega) A1 c1 (tab n es) (tab_length n es) tab_mem w h
   simp only [tab_length, joined_tab] at HJ
   have HJ := Lib.hid HJ
   go_wp2
   go_loop [10] (fun i => ∃ a : Nat, a ≤ n ∧ i = .int .i64 a) (fun i => n - (intOf i).toNat)
   case atStart => exact ⟨0, by omega, rfl⟩
   case round =>
    obtain ⟨a, ha, rfl⟩ := hrel
    by_cases hlt2 : a < n
    ·have hi2 : (a : Int) < (n : Int) := by omega
     obtain ⟨g, hg⟩ := get_of_lt (xs := gs) (k := a) (by have := HG.out; omega)
     obtain ⟨hgb, _, _⟩ := hgrid.row a g _ hg (tab_row _ hlt2)
     obtain ⟨b3, off3, rfl, hc3⟩ := hgrid.cell hg
     go_wp2
     go_loop [11] (fun i => ∃ b : Nat, b ≤ n ∧ i = .int .i64 b) (fun i => n - (intOf i).toNat)
     case atStart => exact ⟨0, by omega, rfl⟩
     case round =>
      obtain ⟨b, hb, rfl⟩ := hrel
      by_cases hlt3 : b < n
      ·have hi3 : (b : Int) < (n : Int) := by omega
       have hc4 := hgb.cell b
       rw [intCells_get (tabRow_at _ _ hlt3)] at hc4
       have h50 : ((50 : Int) < (cnt es a b : Int)) = False := by have := HM.out a b hlt2 hlt3; simp; omega
       go_wp2
       go_round
       case rel => exact ⟨b + 1, by omega, by go_num⟩
       case measure => simp [intOf]; omega
      ·have hi3 : ¬ (b : Int) < (n : Int) := by omega
       go_wp2
       go_round
       case rel => exact ⟨a + 1, by omega, by go_num⟩
       case measure => simp [intOf]; omega
    ·have hi2 : ¬ (a : Int) < (n : Int) := by omega
     have hz := hbel.size
     go_wp2_with (go_at_call 191; refine (HJ.out _ hgrid.reads).mono ?_; rintro e w2 ⟨A2, c2, rfl, hown2, hb2⟩; have g2 := g0.next hb2; have f2 := g2.frozen; have p2 := g2.cell 0; have p3 := g2.cell 1)
     try simp only [Exit.inBlock, Exit.then]
     refine bodyPost_ret (results_g1 rfl rfl ((g2.set_ 0 _).set_ 1 _) rfl) rfl ?_
     refine ⟨A2, c2, rfl, ?_, ?_⟩
     ·exact ((hown2.mono hz).set_blk g2 (by decide) _ _).set_blk (g2.set_ 0 _) (by decide) _ _
     ·exact ((hbel.trans (hb2.mono hz)).setCell (Nat.le_refl _) _).setCell (Nat.le_refl _) _
def PState (es : List E3) (n q : Nat) (r : Option (List Int × List Int)) (cs ss : List Int) (m : Nat) : Prop :=
 cs.length = n ∧ ss.length = n ∧ ((m ≤ 1048576 ∧ PushR es n q cs ss m r ∧ Bd (1048576 + 14400 * m) cs ∧ Bd m ss) ∨ (1048576 < m ∧ r = none))
theorem PState.next {es : List E3} {n q : Nat} {r : Option (List Int × List Int)} {cs ss : List Int} {m : Nat} (h : PState es n q r cs ss m) (hn : n ≤ 12) {N : Int} (hok : ∀ e ∈ es, okE N e) (hm : m ≤ 1048576) (hne : leftC es n q cs ≠ []) :
  PState es n q r (stepC es n q cs) (bumpL ss (leftC es n q cs)) (m + (leftC es n q cs).length) := by
 obtain ⟨h1, h2, h3⟩ := h
 refine ⟨by rw [stepC_length]; exact h1, by rw [bumpL_length]; exact h2, ?_⟩
 rcases h3 with ⟨_, h4, h5, h6⟩ | ⟨h4, _⟩
 ·have hp := List.length_pos_iff.2 hne
  by_cases hov : m + (leftC es n q cs).length ≤ 1048576
  ·exact .inl ⟨hov, h4.step_inv hne hov, (stepC_bd hok hn (by omega) h5).mono (by push_cast; omega), (bumpL_bd (by omega) h6 _).mono (by push_cast; omega)⟩
  ·exact .inr ⟨by omega, h4.over_inv hne (by omega)⟩
 ·omega
def PushE (n : Int) (es : List E3) (q : Int) (cs ds ss : List Int) (e : Int) : Prop :=
 (burnErr n es q cs ≠ 0 ∧ ds = [] ∧ ss = [] ∧ e = burnErr n es q cs) ∨
 (burnErr n es q cs = 0 ∧ ∃ r, PushR es n.toNat q.toNat cs (List.replicate n.toNat 0) 0 r ∧ ((r = some (ds, ss) ∧ e = 0) ∨ (r = none ∧ ds = [] ∧ ss = [] ∧ e = 12)))
end Go.Proofs.YtnbikkcalcpedaaGreatDoor
namespace Go.Proofs.YtnbikkcalcpedaaGreatDoor
theorem burn_zero_of {n : Int} {es : List E3} {q : Int} {a cs : List Int} (h : burnErr n es q a = 0) (hl : (cs.length : Int) = n) (hb : ∀ x ∈ cs, -1048576 ≤ x ∧ x ≤ 1048576) (h0 : ∀ x, 0 ≤ cs.getD x 0) (hq : cs.getD q.toNat 0 = 0) : burnErr n es q cs = 0 := by
 have hc := (burn_zero h).1
 have hr : rootErr n es q = 0 := by
  rcases conf_cases n es q a with ⟨h1, h2⟩ | ⟨h1, _⟩ | ⟨h1, _⟩
  ·exact absurd (h2 ▸ hc) h1
  ·exact h1
  ·exact h1
 obtain ⟨hG, _⟩ := conf_zero hc
 have hd : divErr cs n = 0 := by
  unfold divErr
  have hlo := hG.lo
  have hhi := hG.hi
  rw [if_neg (by omega), if_neg (by omega), if_pos (List.all_eq_true.2 fun x hx => chipB_true.2 (hb x hx))]
 have hdebt : debtTo cs q cs.length = false := by
  unfold debtTo
  rw [List.any_eq_false]
  intro v _
  have := h0 v
  rw [Bool.and_eq_true, decide_eq_true_eq, decide_eq_true_eq]
  omega
 have hcf : confErr n es q cs = 0 := by
  unfold confErr
  rw [if_neg (by omega), if_neg (by omega), hdebt]; rfl
 unfold burnErr
 rw [if_neg (by omega), if_neg (by omega)]
end Go.Proofs.YtnbikkcalcpedaaGreatDoor
namespace Go.Proofs.YtnbikkcalcpedaaGreatDoor
section
variable {n : Nat} {E : List (Nat × Nat)} {t S : List Nat} {e f : Nat}
end
end Go.Proofs.YtnbikkcalcpedaaGreatDoor
namespace Go.Proofs.YtnbikkcalcpedaaGreatDoor
open Go.RowKit
def sizeE (es : List E3) : Nat := (es.map fun e => e.2.2.toNat).sum
theorem sizeE_take {es : List E3} {k : Nat} {e : E3} (h : es[k]? = some e) : sizeE (es.take (k + 1)) = sizeE (es.take k) + e.2.2.toNat := by
 rw [take_snoc h]; simp [sizeE]
theorem sizeE_bd {N : Int} {es : List E3} (h : ∀ e ∈ es, okE N e) : sizeE es ≤ 50 * es.length := by
 induction es with
 | nil => simp [sizeE]
 | cons e es ih =>
   have h1 := h e (by simp)
   have h2 := ih fun x hx => h x (by simp [hx])
   unfold okE at h1
   unfold sizeE at *
   simp at *
   omega
theorem info_pair2 : (Tryz.prog.info? 50).map (fun i => (i.zero, i.size, i.bytes)) = some (some (.agg #[.int .i64 0, .int .i64 0]), 2, 16) := by kernel_rfl
theorem rends_any (n : Int) (A : Option Addr) (c : Nat) (es : List E3) (hn : es.length ≤ 40) (N : Int) (hok : ∀ e ∈ es, okE N e) (w : World) (h : Reads w w.heap.size 3 A es.length (edgeCells es)) :
  Calls Tryz.prog 24 #[.agg #[.int .i64 n, .slice A es.length c]] w fun e w' => ∃ A' c', e = .returned (.slice A' (sizeE es) c') ∧ Below w.heap.size w w' := by
 have HO := Lib.hid hok
 have HSZ : Hid (∀ k, sizeE (es.take k) ≤ 2000) := fun k => Nat.le_trans (sizeE_bd (N := N) fun e he => hok e (List.mem_of_mem_take he)) (by rw [List.length_take]; omega)
 have g0 := Blk.new w 24 #[.int .i64 n, .slice A es.length c]
 clear hok
 go_enter Tryz.func24, Tryz.ntmps24
 go_wp2
 go_loopw [3, 4] (fun s i wr => ∃ (k : Nat) (A' : Option Addr) (c' : Nat) (m : Nat) (vs : List Value), k ≤ es.length ∧ i = .int .i64 k ∧ s = .slice A' m c' ∧ Hid (sizeE (es.take k) = m) ∧ wr.ownsRow w.heap.size 50 2 (.slice A' m c') m vs ∧ Below w.heap.size w wr ∧ Blk wr w.heap.size 24 #[.int .i64 n, .slice A es.length c]) (fun _ i _ => es.length - (intOf i).toNat)
 case atStart => exact ⟨0, none, 0, 0, [], by omega, rfl, rfl, rfl, World.ownsRow_nil _ _ _ _, (Below.refl _ _).alloc (Nat.le_refl _) _, g0⟩
 case round =>
  obtain ⟨k, A', c', m, vs, hk, rfl, rfl, HM, hown, hbel, g1⟩ := hrel
  clear g0
  have c1 := g1.cell 1
  by_cases hlt : k < es.length
  ·obtain ⟨⟨x, y, z⟩, hx⟩ := get_of_lt hlt
   have hokx := HO.out _ (List.mem_of_getElem? hx)
   unfold okE at hokx
   dsimp only at hokx
   obtain ⟨zn, rfl⟩ := Int.eq_ofNat_of_zero_le (show 0 ≤ z by omega)
   have hst := sizeE_take hx
   rw [HM.out] at hst
   dsimp only at hst
   rw [Int.toNat_natCast] at hst
   have hmax := HSZ.out (k + 1)
   rw [hst] at hmax
   have HST := Lib.hid hst
   have HX := Lib.hid hx
   have hi : (k : Int) < (es.length : Int) := by omega
   clear hst hx hokx
   go_wp2
   obtain ⟨wo, rfl⟩ : ∃ wo : World, wo = wr := ⟨_, rfl⟩
   go_loopw [3, 5] (fun s i wr => ∃ (j : Nat) (A' : Option Addr) (c' : Nat) (vs : List Value), j ≤ zn ∧ i = .int .i64 j ∧ s = .slice A' (m + j) c' ∧ wr.ownsRow w.heap.size 50 2 (.slice A' (m + j) c') (m + j) vs ∧ Below w.heap.size w wr ∧ Blk wr w.heap.size 24 #[.int .i64 n, .slice A es.length c]) (fun _ i _ => zn - (intOf i).toNat)
   case atStart => exact ⟨0, A', c', vs, by omega, rfl, rfl, hown, hbel, g1⟩
   case round =>
    clear hown hbel g1 c1
    obtain ⟨j, A', c', vs, hj, rfl, rfl, hown, hbel, g1⟩ := hrel
    have hsz := hbel.size
    have c1 := g1.cell 1
    obtain ⟨bb, off, rfl, hbb, q1, q2, q3⟩ := (h.below hbel).edge HX.out
    dsimp only at q1 q2 q3
    by_cases hlt2 : j < zn
    ·have hi2 : (j : Int) < (zn : Int) := by omega
     have hownA : (wr.drew.alloc (.cells #[.int .i64 x, .int .i64 y] 50)).ownsRow w.heap.size 50 2 (.slice A' (m + j) c') (m + j) vs := World.ownsRow.alloc (World.ownsRow.drew hown) _
     have hz : w.heap.size ≤ (wr.drew.alloc (.cells #[.int .i64 x, .int .i64 y] 50)).heap.size := by show _ ≤ (wr.alloc _).heap.size; simp; omega
     go_wp2
     go_region_law (refine append_step2 rfl (.tmp 23) (.tmp 37) _ _ rfl w.heap.size 50 50 Tryz.underlying48 Tryz.underlying48 info_pair2 rfl (by omega) A' c' (m + j) vs rfl (by exact hownA) _ [.int .i64 x, .int .i64 y] rfl (by exact Reads.boxN wr.drew #[.int .i64 x, .int .i64 y] 50) (by simp [Value.oneCell']) (by omega) (by exact hz) ?_; intro A3 c3 W3 hown3 hgr3 hb3 _)
     all_goals (
      have g2 : Blk W3 w.heap.size 24 #[.int .i64 n, .slice (some ⟨bb, off, none⟩) es.length c] := Blk.grown (h := (g1.drew.alloc (.cells #[.int .i64 x, .int .i64 y] 50))) hgr3 (own_blk_ne hownA (g1.drew.alloc _) (by decide))
      have hb4 : Below w.heap.size w W3 := (hbel.drew.alloc hsz (.cells #[.int .i64 x, .int .i64 y] 50)).trans hb3
      go_wp2
      go_roundw
      case rel => exact ⟨j + 1, A3, c3, _, by omega, by go_num, rfl, hown3, hb4, g2⟩
      case measure => simp [intOf]; omega)
    ·obtain rfl : j = zn := by omega
     go_wp2
     go_roundw
     case rel => exact ⟨k + 1, A', c', m + j, vs, by omega, by go_num, rfl, HST.out, hown, hbel, g1⟩
     case measure => simp [intOf]; omega
  ·obtain rfl : k = es.length := by omega
   rw [List.take_length] at HM
   go_wp2
   go_ret
   exact ⟨A', c', by rw [HM.out]; rfl, hbel⟩
theorem rsize_any (n : Int) (A : Option Addr) (c : Nat) (es : List E3) (hn : es.length ≤ 40) (N : Int) (hok : ∀ e ∈ es, okE N e) (w : World) (h : Reads w w.heap.size 3 A es.length (edgeCells es)) :
  Calls Tryz.prog 20 #[.agg #[.int .i64 n, .slice A es.length c]] w fun e w' => e = .returned (.int .i64 (sizeE es : Nat)) ∧ Below w.heap.size w w' := by
 have EC := Lib.hid (rends_any n A c es hn N hok)
 go_enter Tryz.func20, Tryz.ntmps20
 go_wp2_with fail
 refine (EC.out _ ((h.alloc (Nat.le_refl _) _).more (by simp))).mono ?_
 rintro e w1 ⟨A1, c1, rfl, hb1⟩
 have hbel1 : Below w.heap.size w w1 := ((Below.refl _ _).alloc (Nat.le_refl _) _).trans (hb1.mono (by simp))
 go_wp2
 go_ret
 exact ⟨rfl, hbel1⟩
def smallB (n : Int) (es : List E3) (a b : Int) : Bool := if 40 < es.length then false else if checkG n es ≠ 0 then true else decide (n ≤ a) && decide ((sizeE es : Int) ≤ b)
theorem rsmall_any (n : Int) (A : Option Addr) (c : Nat) (es : List E3) (a b : Int) (w : World) (h : Reads w w.heap.size 3 A es.length (edgeCells es)) :
  Calls Tryz.prog 80 #[.agg #[.int .i64 n, .slice A es.length c], .int .i64 a, .int .i64 b] w fun e w' => e = .returned (.bool (smallB n es a b)) ∧ Below w.heap.size w w' := by
 have g0 := Blk.new w 24 #[.int .i64 n, .slice A es.length c]
 by_cases h1 : 40 < es.length
 ·have hd : smallB n es a b = false := by unfold smallB; rw [if_pos h1]
  rw [hd]
  have hi : (40 : Int) < (es.length : Int) := by omega
  go_enter Tryz.func80, Tryz.ntmps80
  go_wp2
  go_ret
  exact ⟨rfl, (Below.refl _ _).alloc (Nat.le_refl _) _⟩
 have hi : ¬ (40 : Int) < (es.length : Int) := by omega
 have GC := rgcheck_any n A c es (by omega)
 by_cases h2 : checkG n es = 0
 ·have hd : smallB n es a b = (decide (n ≤ a) && decide ((sizeE es : Int) ≤ b)) := by unfold smallB; rw [if_neg h1, if_neg (fun hc => hc h2)]
  rw [hd]
  rw [h2] at GC
  have hG := right_of h2
  have SC := Lib.hid (rsize_any n A c es (by omega) n hG.ok)
  have GC := Lib.hid GC
  clear h2 hd hG
  by_cases h3 : n ≤ a
  ·have hd3 : decide (n ≤ a) = true := decide_eq_true h3
   go_enter Tryz.func80, Tryz.ntmps80
   go_wp2_with fail
   refine (GC.out _ ((h.alloc (Nat.le_refl _) _).more (by simp))).mono ?_
   rintro e w1 ⟨rfl, hb1⟩
   have hbel1 : Below w.heap.size w w1 := ((Below.refl _ _).alloc (Nat.le_refl _) _).trans (hb1.mono (by simp))
   have g1 := g0.next hb1
   have c0 := g1.cell 0
   have c1 := g1.cell 1
   go_wp2_with fail
   refine (SC.out _ ((h.below hbel1).more hbel1.size)).mono ?_
   rintro e w2 ⟨rfl, hb2⟩
   go_wp2
   go_ret
   exact ⟨ret_bool (by simp [h3]), hbel1.trans (hb2.mono hbel1.size)⟩
  ·have hd3 : decide (n ≤ a) = false := decide_eq_false h3
   go_enter Tryz.func80, Tryz.ntmps80
   go_wp2_with fail
   refine (GC.out _ ((h.alloc (Nat.le_refl _) _).more (by simp))).mono ?_
   rintro e w1 ⟨rfl, hb1⟩
   have hbel1 : Below w.heap.size w w1 := ((Below.refl _ _).alloc (Nat.le_refl _) _).trans (hb1.mono (by simp))
   have g1 := g0.next hb1
   have c0 := g1.cell 0
   have c1 := g1.cell 1
   go_wp2
   go_ret
   exact ⟨ret_bool (by rw [hd3]; rfl), hbel1⟩
 ·have hd : smallB n es a b = true := by unfold smallB; rw [if_neg h1, if_pos h2]
  rw [hd]
  obtain ⟨q, hq⟩ : ∃ q, checkG n es = q := ⟨_, rfl⟩
  rw [hq] at GC h2
  have hb : (q != 0) = true := by simpa using h2
  have GC := Lib.hid GC
  clear h2 hd hq
  go_enter Tryz.func80, Tryz.ntmps80
  go_wp2_with fail
  refine (GC.out _ ((h.alloc (Nat.le_refl _) _).more (by simp))).mono ?_
  rintro e w1 ⟨rfl, hb1⟩
  have hbel1 : Below w.heap.size w w1 := ((Below.refl _ _).alloc (Nat.le_refl _) _).trans (hb1.mono (by simp))
  go_wp2
  go_ret
  exact ⟨rfl, hbel1⟩
end Go.Proofs.YtnbikkcalcpedaaGreatDoor
