/-
 Texts of this claim, put together: Wood, PileOf, PileL, TreeX.
-/
import Derived.Test.YtnbikkcalcpedaaGreatDoorK20
import Derived.Test.YtnbikkcalcpedaaGreatDoorK04
import Derived.Test.YtnbikkcalcpedaaGreatDoorK05
import Derived.Test.YtnbikkcalcpedaaGreatDoorK21
import Derived.Deep.CutBlock
import Derived.Deep.RegionLaw
import Derived.Test.YtnbikkcalcpedaaGreatDoorK06
import Derived.Test.YtnbikkcalcpedaaGreatDoorK08
set_option maxRecDepth 100000
set_option maxHeartbeats 8000000
namespace Go.Proofs.YtnbikkcalcpedaaGreatDoor
open Go.RowKit
def wtail (ch : Value) (l : List Nat) : List Value := ch :: (List.range 12).map fun u => Value.bool (decide (u ∈ l))
def wtab (t : Nat → Nat → Int) : List Value := (List.range 144).map fun i => Value.int .i64 (t (i / 12) (i % 12))
def wcells (n : Nat) (t : Nat → Nat → Int) (ch : Value) (l : List Nat) : Array Value := (.int .i64 n :: (wtab t ++ wtail ch l)).toArray
section
variable {n : Nat} {t : Nat → Nat → Int} {ch : Value} {l : List Nat}
theorem wtab_length : (wtab t).length = 144 := by simp [wtab]
theorem wcells_n : (wcells n t ch l)[0]? = some (.int .i64 n) := by simp [wcells]
theorem wcells_tab {u v : Nat} (hu : u < 12) (hv : v < 12) : (wcells n t ch l)[1 + u * 12 + v]? = some (.int .i64 (t u v)) := by
 unfold wcells
 rw [List.getElem?_toArray, show 1 + u * 12 + v = (u * 12 + v) + 1 from by omega, List.getElem?_cons_succ, List.getElem?_append_left (by rw [wtab_length]; omega)]
 unfold wtab
 rw [List.getElem?_map, List.getElem?_range (by omega)]
 simp only [Option.map_some]
 rw [show (u * 12 + v) / 12 = u from by omega, show (u * 12 + v) % 12 = v from by omega]
theorem wcells_ch : (wcells n t ch l)[145]? = some ch := by
 unfold wcells
 rw [List.getElem?_toArray, List.getElem?_cons_succ, List.getElem?_append_right (by rw [wtab_length]; omega), wtab_length]
 rfl
theorem wcells_burnt {u : Nat} (hu : u < 12) : (wcells n t ch l)[146 + u]? = some (.bool (decide (u ∈ l))) := by
 unfold wcells
 rw [List.getElem?_toArray, show 146 + u = (145 + u) + 1 from by omega, List.getElem?_cons_succ, List.getElem?_append_right (by rw [wtab_length]; omega), wtab_length, show 145 + u - 144 = u + 1 from by omega, wtail, List.getElem?_cons_succ, List.getElem?_map, List.getElem?_range hu]
 rfl
theorem wcells_set_burnt {u : Nat} (hu : u < 12) : (wcells n t ch l).setIfInBounds (146 + u) (.bool true) = wcells n t ch (l ++ [u]) := by
 unfold wcells
 rw [List.setIfInBounds_toArray, show 146 + u = (145 + u) + 1 from by omega, List.set_cons_succ, List.set_append_right _ _ (by rw [wtab_length]; omega), wtab_length, show 145 + u - 144 = u + 1 from by omega]
 congr 3
 unfold wtail
 rw [List.set_cons_succ]
 congr 1
 apply List.ext_getElem?
 intro i
 rw [List.getElem?_set]
 by_cases hi : i < 12
 ·by_cases he : u = i
  ·subst he; simp [hu]
  ·rw [if_neg he, List.getElem?_map, List.getElem?_map, List.getElem?_range hi]
   have : (i ∈ l ++ [u]) ↔ i ∈ l := by simp [Ne.symm he]
   simp only [Option.map_some, this]
 ·rw [if_neg (by omega)]
  rw [List.getElem?_eq_none (by simp; omega), List.getElem?_eq_none (by simp; omega)]
theorem wcells_set_tab {u v : Nat} (hu : u < 12) (hv : v < 12) (x : Int) : (wcells n t ch l).setIfInBounds (1 + u * 12 + v) (.int .i64 x) = wcells n (fun a b => if a = u ∧ b = v then x else t a b) ch l := by
 unfold wcells
 rw [List.setIfInBounds_toArray, show 1 + u * 12 + v = (u * 12 + v) + 1 from by omega, List.set_cons_succ, List.set_append_left _ _ (by rw [wtab_length]; omega)]
 congr 3
 unfold wtab
 apply List.ext_getElem?
 intro i
 rw [List.getElem?_set]
 by_cases hi : i < 144
 ·by_cases he : u * 12 + v = i
  ·subst he
   simp only [if_true]
   rw [if_pos (by simp; omega), List.getElem?_map, List.getElem?_range hi]
   have h1 : (u * 12 + v) / 12 = u := by omega
   have h2 : (u * 12 + v) % 12 = v := by omega
   simp [h1, h2]
  ·rw [if_neg he, List.getElem?_map, List.getElem?_map, List.getElem?_range hi]
   have hne : ¬ (i / 12 = u ∧ i % 12 = v) := by omega
   simp only [Option.map_some, if_neg hne]
 ·rw [if_neg (by omega)]
  rw [List.getElem?_eq_none (by simp; omega), List.getElem?_eq_none (by simp; omega)]
theorem wcells_ext {t' : Nat → Nat → Int} (h : ∀ u v, u < 12 → v < 12 → t u v = t' u v) : wcells n t ch l = wcells n t' ch l := by
 unfold wcells
 congr 3
 unfold wtab
 apply List.map_congr_left
 intro i hi
 rw [List.mem_range] at hi
 rw [h _ _ (by omega) (by omega)]
end
def Wood (w : World) (g n : Nat) (es : List E3) (ch : Value) (l : List Nat) : Prop := Blk w g 359 (wcells n (tt es) ch l)
section
variable {w w' : World} {g n : Nat} {es : List E3} {ch : Value} {l : List Nat}
theorem Wood.n_ (h : Wood w g n es ch l) : w.cell? ⟨g, 0, none⟩ = some (.int .i64 n) := (Blk.cell h 0).trans wcells_n
theorem Wood.tab_ (h : Wood w g n es ch l) {u v : Nat} (hu : u < 12) (hv : v < 12) : w.cell? ⟨g, 1 + u * 12 + v, none⟩ = some (.int .i64 (tt es u v)) := (Blk.cell h _).trans (wcells_tab hu hv)
theorem Wood.ch_ (h : Wood w g n es ch l) : w.cell? ⟨g, 145, none⟩ = some ch := (Blk.cell h _).trans wcells_ch
theorem Wood.burnt_ (h : Wood w g n es ch l) {u : Nat} (hu : u < 12) : w.cell? ⟨g, 146 + u, none⟩ = some (.bool (decide (u ∈ l))) := (Blk.cell h _).trans (wcells_burnt hu)
theorem Wood.burn (h : Wood w g n es ch l) {u : Nat} (hu : u < 12) : Wood (w.setCell ⟨g, 146 + u, none⟩ (.bool true)) g n es ch (l ++ [u]) := by
 have := Blk.set_ h (146 + u) (.bool true)
 rwa [wcells_set_burnt hu] at this
end
theorem flames_any (g n : Nat) (hn : n ≤ 12) (es : List E3) (N : Int) (hok : ∀ e ∈ es, okE N e) (ch : Value) (l : List Nat) (v : Nat) (hv : v < 12) (w : World) (h : Wood w g n es ch l) :
  Calls Tryz.prog 350 #[.pointer (some ⟨g, 0, none⟩), .int .i64 v] w fun e w' => e = .returned (.int .i64 (flmTo es l v n)) ∧ w = w' := by
 have c0 := h.n_
 have HO := Lib.hid hok
 have hvi : (v : Int) < 12 := by omega
 clear hok
 go_enter Tryz.func350, Tryz.ntmps350
 go_wp2
 go_loop [5, 11] (fun s i => ∃ k : Nat, k ≤ n ∧ i = .int .i64 k ∧ s = .int .i64 (flmTo es l v k)) (fun _ i => n - (intOf i).toNat)
 case atStart => exact ⟨0, by omega, rfl, rfl⟩
 case round =>
  obtain ⟨k, hk, rfl, rfl⟩ := hrel
  by_cases hlt : k < n
  ·have hi : (k : Int) < (n : Int) := by omega
   have hi2 : (k : Int) < 12 := by omega
   have cb := h.burnt_ (u := k) (by omega)
   have ct := h.tab_ (u := v) (v := k) hv (by omega)
   have hf := flmTo_bd HO.out l v k
   have ht := tt_bd HO.out v k
   have hs : flmTo es l v (k + 1) = flmTo es l v k + if k ∈ l then tt es v k else 0 := rfl
   by_cases hm : k ∈ l
   ·rw [if_pos hm] at hs
    rw [decide_eq_true hm] at cb
    have HS := Lib.hid hs
    obtain ⟨x, hx⟩ : ∃ x, flmTo es l v k = x := ⟨_, rfl⟩
    obtain ⟨y, hy⟩ : ∃ y, tt es v k = y := ⟨_, rfl⟩
    rw [hx] at hf HS ⊢
    rw [hy] at ht ct HS
    clear hs hm hx hy
    go_wp2
    go_round
    case rel => exact ⟨k + 1, by omega, by go_num, by rw [HS.out]⟩
    case measure => simp [intOf]; omega
   ·rw [if_neg hm] at hs
    rw [decide_eq_false hm] at cb
    have HS := Lib.hid hs
    clear hs hm
    go_wp2
    go_round
    case rel => exact ⟨k + 1, by omega, by go_num, by rw [HS.out]; simp⟩
    case measure => simp [intOf]; omega
  ·obtain rfl : k = n := by omega
   go_wp2
   go_ret
   exact ⟨rfl, rfl⟩
theorem catches_any (g n : Nat) (hn : n ≤ 12) (es : List E3) (N : Int) (hok : ∀ e ∈ es, okE N e) (A : Option Addr) (c : Nat) (cs : List Int) (hcl : cs.length = n) (l : List Nat) (hl : LOk n l) (v : Nat) (hv : v < n) (w : World) (h : Wood w g n es (.slice A cs.length c) l) (hr : Reads w w.heap.size 1 A cs.length (ints cs)) :
  Calls Tryz.prog 330 #[.pointer (some ⟨g, 0, none⟩), .int .i64 v] w fun e w' => e = .returned (.bool (catL es cs l v)) ∧ ∃ m, w' = w.drewN m := by
 have cb := h.burnt_ (u := v) (by omega)
 have hvi : (v : Int) < 12 := by omega
 have hcat : catL es cs l v = (!decide (v ∈ l) && decide (cs.getD v 0 < joinsN es v l)) := rfl
 by_cases hm : v ∈ l
 ·rw [decide_eq_true hm] at cb hcat
  have HC := Lib.hid hcat
  clear hcat hm
  go_enter Tryz.func330, Tryz.ntmps330
  go_wp2
  go_quiet (fail)
  go_wp2
  go_ret
  exact ⟨ret_bool (by rw [HC.out]; rfl), ⟨_, rfl⟩⟩
 ·have hf := flm_joins l hl hm (es := es)
  have FC := Lib.hid (fun w h => flames_any g n hn es N hok (.slice A cs.length c) l v (by omega) w h)
  rw [decide_eq_false hm] at cb hcat
  rw [hf] at FC
  obtain ⟨x, hx⟩ := get_of_lt (xs := cs) (k := v) (by omega)
  rw [getD_at hx] at hcat
  obtain ⟨b, off, rfl, hb', hcell⟩ := hr.at_ (ints_at hx)
  obtain ⟨q, hq⟩ : ∃ q, joinsN es v l = q := ⟨_, rfl⟩
  rw [hq] at hcat FC
  have HC := Lib.hid hcat
  have cc := h.ch_
  have hvl : (v : Int) < (cs.length : Int) := by omega
  have H := Lib.hid h
  clear hcat hm hf hq hx hl hok hcl h
  go_enter Tryz.func330, Tryz.ntmps330
  go_wp2
  go_quiet ((go_at_call 350; exact Calls.quiet_of_same ((FC.out _ (by exact H.out)).mono fun _ _ h => ⟨h.1, h.2.symm⟩)))
  go_wp2
  go_ret
  exact ⟨ret_bool (by rw [HC.out]; simp), ⟨_, rfl⟩⟩
end Go.Proofs.YtnbikkcalcpedaaGreatDoor
namespace Go.Proofs.YtnbikkcalcpedaaGreatDoor
open Go.RowKit
theorem own_some {w : World} {base : Nat} {A : Option Addr} {c : Nat} {xs : List Int} (h : OwnI w base A c xs) (hx : 0 < xs.length) : ∃ g, A = some ⟨g, 0, none⟩ ∧ base ≤ g ∧ ∃ sl : List Value, Blk w g 3 (ints xs ++ sl).toArray := by
 obtain ⟨h1, h2⟩ := h
 rcases h2 with h2 | ⟨g, cap, cur, hv, hg, hh, r⟩
 ·simp at h2; rw [h2.2] at hx; simp at hx
 ·injection hv with hv1 hv2 hv3
  refine ⟨g, hv1, hg, ?_⟩
  refine ⟨cur.toList.drop (xs.length * 1), ?_⟩
  rw [← r.2.2.2, List.take_append_drop, Array.toArray_toList]
  exact hh
theorem Reads.two {w : World} {B n : Nat} {A : Option Addr} {ps : List (Nat × Nat)} {k : Nat} {e : Nat × Nat} (h : Reads w B 2 A n (pair2 ps)) (he : ps[k]? = some e) :
  ∃ b off, A = some ⟨b, off, none⟩ ∧ b < B ∧ w.cell? ⟨b, off + k * 2, none⟩ = some (.int .i64 (e.1 : Int)) ∧ w.cell? ⟨b, off + k * 2 + 1, none⟩ = some (.int .i64 (e.2 : Int)) := by
 have at_ : ∀ (ps : List (Nat × Nat)) (k : Nat), ps[k]? = some e → (pair2 ps)[k * 2]? = some (.int .i64 (e.1 : Int)) ∧ (pair2 ps)[k * 2 + 1]? = some (.int .i64 (e.2 : Int)) := by
  intro ps
  induction ps with
  | nil => intro k hk; simp at hk
  | cons p ps ih =>
    intro k hk
    rcases k with _ | k
    ·have e1 : p = e := by simpa using hk
     subst e1
     exact ⟨rfl, rfl⟩
    ·obtain ⟨i1, i2⟩ := ih k (by simpa using hk)
     have e1 : pair2 (p :: ps) = .int .i64 p.1 :: .int .i64 p.2 :: pair2 ps := rfl
     rw [e1, show (k + 1) * 2 = k * 2 + 1 + 1 by omega]
     exact ⟨by simpa using i1, by simpa using i2⟩
 have hk : k < ps.length := (List.getElem?_eq_some_iff.1 he).1
 have hl := h.1
 rw [pair2_length] at hl
 obtain ⟨b, off, hA, hb, hc⟩ := h.2 (by omega)
 obtain ⟨h1, h2⟩ := at_ ps k he
 exact ⟨b, off, hA, hb, hc _ _ h1, by have := hc _ _ h2; rwa [show off + (k * 2 + 1) = off + k * 2 + 1 from by omega] at this⟩
theorem Blk.new_at {w : World} {g : Nat} {t : TypeId} {cs : Array Value} (hg : g = w.heap.size) : Blk (w.alloc (.cells cs t)) g t cs := hg ▸ Blk.new w t cs
theorem pile_leaf {w w1 wx : World} {n b1 bp bv bf : Nat} {A A1 : Option Addr} {c m c1 : Nat} {d : List Int} {q : Int} (o1 : OwnI w1 b1 A1 c1 d) (hd : d.length = n) (hn0 : 1 ≤ n) (hk : Below w1.heap.size w1 wx)
  (hp : Blk wx bp 255 #[.slice A1 d.length c1, .int .i64 q, .slice none 0 0, .slice (some ⟨bv, 0, none⟩) n n, .slice (some ⟨bf, 0, none⟩) n n, .int .i64 0, .bool false, .bool false, .bool false, .bool false, .bool false, .bool false, .bool false, .bool false, .bool false, .bool false, .bool false, .bool false])
  (hv : Blk wx bv 3 (ints (List.replicate n 0)).toArray) (hf : Blk wx bf 3 (ints (List.replicate n 0)).toArray)
  (hg : Blk wx w.heap.size 24 #[.int .i64 n, .slice A m c]) (hB : Below w.heap.size w wx) (hne : bv ≠ bf) (hlo : w.heap.size ≤ b1 ∧ w.heap.size ≤ bp ∧ w.heap.size ≤ bv ∧ w.heap.size ≤ bf)
  (hvd : bv < b1 ∨ w1.heap.size ≤ bv) (hfd : bf < b1 ∨ w1.heap.size ≤ bf) :
  ∃ a, Value.pointer (some ⟨bp, 0, none⟩) = Value.pointer (some ⟨bp, 0, none⟩) ∧ PileW wx w.heap.size bp n a d q [] (List.replicate n 0) (List.replicate n 0) 0 (List.replicate 12 false) ∧ Blk wx w.heap.size 24 #[.int .i64 n, .slice A m c] ∧ Below w.heap.size w wx ∧ a.gs = [] ∧ a.A = none := by
 obtain ⟨g, rfl, hg1, sl, hs⟩ := own_some o1 (by omega)
 have hlt := hs.lt
 subst hd
 refine ⟨⟨g, c1, bv, bf, none, 0, []⟩, rfl, ⟨hp, ⟨sl, hs.below hk hlt⟩, rfl, hv, by simp, hf, by simp, Grid.nil_ _ _ _, by simp, ⟨hlo.2.1, by dsimp only; omega, hlo.2.2.1, hlo.2.2.2⟩, ⟨?_, ?_, hne⟩, by simp⟩, hg, hB, rfl, rfl⟩
 ·dsimp only; omega
 ·dsimp only; omega
theorem pileOf_any (n : Nat) (hn : n ≤ 12) (hn0 : 1 ≤ n) (A : Option Addr) (c : Nat) (es : List E3) (hlen : es.length ≤ 10000) (hz : checkG n es = 0) (hok : ∀ e ∈ es, okE n e) (q : Int) (B : Option Addr) (cB : Nat) (d : List Int) (hd : d.length = n) (w : World)
  (h : Reads w w.heap.size 3 A es.length (edgeCells es)) (h' : Reads w w.heap.size 1 B d.length (ints d)) :
  Calls Tryz.prog 207 #[.agg #[.int .i64 n, .slice A es.length c], .int .i64 q, .slice B d.length cB] w fun e w' => ∃ bp a, e = .returned (.tuple #[.pointer (some ⟨bp, 0, none⟩), .int .i64 0]) ∧
   PileW w' w.heap.size bp n a d q (rowsL n (endsL es)) (valL n (endsL es)) (List.replicate n 0) 0 (waitL n q d (valL n (endsL es))) ∧ Below w.heap.size w w' := by
 have hmk := make_ints n (by omega)
 have g0 := Blk.new w 24 #[.int .i64 n, .slice A es.length c]
 have c0 := g0.cell 0
 have CC := Lib.hid (fun (W : World) (hb : Below w.heap.size w W) => clone_any B cB d (by omega) W ((h'.below hb).more hb.size))
 have EN := Lib.hid (fun (W : World) (hB : Below w.heap.size w W) => ends_ok n A c es hlen hz n hok W ((h.below hB).more hB.size))
 have HPS := Lib.hid (endsL_ok hok)
 have hel := endsL_length hok
 have HD := Lib.hid hd
 clear h h' hd hz hok
 go_enter Tryz.func207, Tryz.ntmps207
 go_upto_region 1 with fail
 go_cut [8] from 16 to 26 (fun p wx => ∃ bp a, p = .pointer (some ⟨bp, 0, none⟩) ∧ PileW wx w.heap.size bp n a d q [] (List.replicate n 0) (List.replicate n 0) 0 (List.replicate 12 false) ∧ Blk wx w.heap.size 24 #[.int .i64 n, .slice A es.length c] ∧ Below w.heap.size w wx ∧ a.gs = [] ∧ a.A = none)
 case first =>
  go_region_held3 (fun W => W.cell? ⟨w.heap.size, 0, none⟩ = some (.int .i64 n)) (go_keep) (first
   | (go_at_call 92; refine (CC.out _ (by exact (Below.alloc (Below.refl _ _) (Nat.le_refl _) _).drew)).mono ?_; rintro e w1 ⟨A1, c1, rfl, o1, hb1⟩; have g1 := g0.drew.next hb1; have k0 := g1.cell 0)
   | (go_at_call 92; refine (CC.out _ (by exact ((Below.alloc (Below.refl _ _) (Nat.le_refl _) _).drew).alloc (by simp [World.drew]) _)).mono ?_; rintro e w1 ⟨A1, c1, rfl, o1, hb1⟩; have g1 := (g0.drew.alloc _).next hb1; have k0 := g1.cell 0)
   | (go_at_call 92; refine (CC.out _ (by exact (((Below.alloc (Below.refl _ _) (Nat.le_refl _) _).drew).alloc (by simp [World.drew]) _).alloc (by simp [World.drew]; omega) _)).mono ?_; rintro e w1 ⟨A1, c1, rfl, o1, hb1⟩; have g1 := ((g0.drew.alloc _).alloc _).next hb1; have k0 := g1.cell 0))
  all_goals
   go_wp2
   go_meet
   have hs1 := hb1.size
   simp [World.drew] at hs1
   refine ⟨_, pile_leaf o1 HD.out hn0 ?_ (Blk.new_at (by first | rfl | simp)) ?_ ?_ ?_ ?_ ?_ ?_ ?_ ?_⟩
   ·repeat (first | exact Below.refl _ _ | refine Below.alloc ?_ ?_ _)
    all_goals (first | omega | (simp <;> omega))
   ·first
     | (refine (Blk.new_at ?_).alloc _; simp; done)
     | (refine ((Blk.new_at ?_).alloc _).alloc _; simp; done)
     | (refine ((Blk.drew (Blk.new_at ?_)).next hb1).alloc _; simp; done)
     | (refine (((Blk.drew (Blk.new_at ?_)).next hb1).alloc _).alloc _; simp; done)
     | (refine (((Blk.drew ((Blk.new_at ?_).alloc _)).next hb1).alloc _); simp; done)
   ·first
     | (refine (Blk.new_at ?_).alloc _; simp; done)
     | (refine ((Blk.new_at ?_).alloc _).alloc _; simp; done)
     | (refine ((Blk.drew (Blk.new_at ?_)).next hb1).alloc _; simp; done)
     | (refine (((Blk.drew (Blk.new_at ?_)).next hb1).alloc _).alloc _; simp; done)
     | (refine (((Blk.drew ((Blk.new_at ?_).alloc _)).next hb1).alloc _); simp; done)
   ·first
     | exact ((g1.alloc _).alloc _).alloc _
     | exact (g1.alloc _).alloc _
     | exact g1.alloc _
   ·repeat (first | exact Below.refl _ _ | refine Below.alloc ?_ ?_ _ | refine Below.drew ?_ | refine Below.trans ?_ (hb1.mono ?_))
    all_goals (first | omega | (simp [World.drew] <;> omega))
   ·omega
   ·first | omega | (simp [World.drew] <;> omega)
   ·first | omega | (simp [World.drew] <;> omega)
   ·first | omega | (simp [World.drew] <;> omega)
 case rest =>
  obtain ⟨bp, ⟨bd, cd, bv, bf, A0, cr0, gs0⟩, rfl, P1, g1, hB1, ha, hb⟩ := hcut
  dsimp only at ha hb
  subst ha hb
  have c1 := g1.cell 0
  clear g0 c0 CC
  go_wp2
  go_loopw [29] (fun i wl => ∃ (k : Nat) (Ar : Option Addr) (cr : Nat) (gs : List Nat), k ≤ n ∧ i = .int .i64 k ∧ Hid (gs.length = k) ∧ PileW wl w.heap.size bp n ⟨bd, cd, bv, bf, Ar, cr, gs⟩ d q (List.replicate k (List.replicate n 0)) (List.replicate n 0) (List.replicate n 0) 0 (List.replicate 12 false) ∧
   Blk wl w.heap.size 24 #[.int .i64 n, .slice A es.length c] ∧ Below w.heap.size w wl) (fun i _ => n - (intOf i).toNat)
  case atStart => exact ⟨0, none, cr0, [], by omega, rfl, rfl, P1, g1, hB1⟩
  case round =>
   obtain ⟨k, Ar, cr, gs, hk, rfl, HL, P2, g2, hB2⟩ := hrel
   clear P1 g1 c1 hB1
   have hz := hB2.size
   by_cases hlt : k < n
   ·have hi : (k : Int) < (n : Int) := by omega
    have c1 := g2.cell 0
    have p2 := P2.c2
    have P3 := (P2.alloc (.cells (ints (List.replicate n 0)).toArray 3)).alloc (.cells #[.slice (some ⟨wr.heap.size, 0, none⟩) n n] 25)
    have p2b := (P2.alloc (.cells (ints (List.replicate n 0)).toArray 3)).c2
    have p2c := P3.c2
    have hown2 := P3.grid.outer
    have hbox : Reads ((wr.alloc (.cells (ints (List.replicate n 0)).toArray 3)).alloc (.cells #[.slice (some ⟨wr.heap.size, 0, none⟩) n n] 25)) (wr.heap.size + 1 + 1) 1 (some ⟨wr.heap.size + 1, 0, none⟩) 1 [.slice (some ⟨wr.heap.size, 0, none⟩) n n] := by
     have := Reads.box (wr.alloc (.cells (ints (List.replicate n 0)).toArray 3)) (.slice (some ⟨wr.heap.size, 0, none⟩) n n) 25
     simpa using this
    have hnb := (Blk.new wr 3 (ints (List.replicate n 0)).toArray).alloc (.cells #[.slice (some ⟨wr.heap.size, 0, none⟩) n n] 25)
    have hbx : w.heap.size ≤ ((wr.alloc (.cells (ints (List.replicate n 0)).toArray 3)).alloc (.cells #[.slice (some ⟨wr.heap.size, 0, none⟩) n n] 25)).heap.size := by simp; omega
    have hgl : gs.length + 1 ≤ 1048576 := by rw [HL.out]; omega
    have HP3 := Lib.hid P3
    have HP2 := Lib.hid P2
    have HB2 := Lib.hid hB2
    dsimp only at p2 p2b p2c hown2
    clear P3 P2
    go_wp2
    go_region_law (refine append_step2 rfl (.tmp 35) (.tmp 39) _ _ rfl w.heap.size 25 25 Tryz.underlying82 Tryz.underlying82 info_row rfl (by omega) Ar cr gs.length (gs.map fun g => .slice (some ⟨g, 0, none⟩) n n) rfl (by exact hown2) (wr.heap.size + 1 + 1) [.slice (some ⟨wr.heap.size, 0, none⟩) n n] rfl (by exact hbox) (by simp [Value.oneCell']) hgl hbx ?_; intro A3 c3 w3 hown3 hg3 hb3 _; have K := Blk.grown (h := by exact HP3.out.blk) hg3 (own_blk_ne hown2 HP3.out.blk (by decide)); have kc := (K.cell 2).trans (show _ = some (.slice Ar gs.length cr) by simp [pileCells]); have kf := K.frozen 2)
    all_goals
     have K2 := PileW.push HP3.out.drew hnb.drew (by simp) hz (fun k' hk' => Nat.ne_of_lt (HP2.out.lt hk').2) hown3 hg3
     have B3 : Below w.heap.size w w3 := HB2.out.trans (Below.trans ((((Below.refl _ _).alloc hz _).alloc (by simp; omega) _)) ⟨hb3.os, hb3.tape, hb3.output, hb3.size, hb3.block⟩)
     have g3 := (((g2.alloc (.cells (ints (List.replicate n 0)).toArray 3)).alloc (.cells #[.slice (some ⟨wr.heap.size, 0, none⟩) n n] 25)).drew).grown hg3 (own_blk_ne hown2 ((g2.alloc _).alloc _) (by decide))
     go_wp2
     go_roundw
     case rel => exact ⟨k + 1, A3, c3, gs ++ [wr.heap.size], by omega, by go_num, by simp [Hid, HL.out], by rw [List.replicate_succ']; exact K2, g3.far (by show w.heap.size ≠ bp; intro e; rw [← e] at HP2; exact HP2.out.blk.ne_ g2 (by decide) rfl) _, B3.setCell HP2.out.lo.1 _⟩
     case measure => simp [intOf]; omega
   ·have hi : ¬ (k : Int) < (n : Int) := by omega
    obtain rfl : k = n := by omega
    have HP2 := Lib.hid P2
    have c1 := g2.cell 0
    have c1' := g2.cell 1
    clear P2
    go_wp2_with fail
    refine (EN.out _ hB2).mono ?_
    rintro e w4 ⟨Ae, ce, rfl, oE, hb4⟩
    have hB4 : Below w.heap.size w w4 := hB2.trans (hb4.mono hz)
    have P4 := HP2.out.next hb4
    have HLT := Lib.hid (fun k' hk' => (HP2.out.lt (k := k') hk').2)
    obtain ⟨wo, hwo⟩ : ∃ wo, wr.heap.size = wo := ⟨_, rfl⟩
    rw [hwo] at oE HLT hb4
    clear HP2 g2 c1 c1' hB2 EN hwo hz hb4
    obtain ⟨ps, hps⟩ : ∃ ps, endsL es = ps := ⟨_, rfl⟩
    rw [hps] at oE HPS hel ⊢
    have HEQ := Lib.hid hps
    clear hps
    obtain ⟨g0, hg0⟩ := get_of_lt (xs := gs) (k := 0) (by rw [HL.out]; omega)
    obtain ⟨bo, oo, hA, _⟩ := P4.grid.cell hg0
    dsimp only at hA
    subst hA
    clear hg0
    go_wp2_with fail
    go_loopw [54] (fun i wl => ∃ j : Nat, j ≤ ps.length ∧ i = .int .i64 j ∧ PileW wl w.heap.size bp k ⟨bd, cd, bv, bf, some ⟨bo, oo, none⟩, cr, gs⟩ d q (rowsL k (ps.take j)) (valL k (ps.take j)) (List.replicate k 0) 0 (List.replicate 12 false) ∧ OwnQ wl wo Ae ce ps ∧ Below w.heap.size w wl) (fun i _ => ps.length - (intOf i).toNat)
    case atStart => exact ⟨0, by omega, rfl, P4, oE, hB4⟩
    case round =>
     obtain ⟨j, hj, rfl, P5, o5, hB5⟩ := hrel
     clear P4 oE hB4
     by_cases hlt : j < ps.length
     ·obtain ⟨⟨x, y⟩, hx⟩ := get_of_lt hlt
      have hi : (j : Int) < (ps.length : Int) := by omega
      obtain ⟨b, off, rfl, hbb, q1, q2⟩ := (Reads.of_own o5).two hx
      dsimp only at q1 q2
      obtain ⟨hxn, hyn⟩ := HPS.out _ (List.mem_of_getElem? hx)
      dsimp only at hxn hyn
      have X1 := Blk.new wr 50 #[.int .i64 x, .int .i64 y]
      have x0 := X1.cell 0
      have x1 := X1.cell 1
      have hsr := rowsL_snoc k hx
      have hsv := valL_snoc k hx
      have hbR := rowsL_bd k (ps.take j) (fun p hp => HPS.out p (List.mem_of_mem_take hp))
      have hbV := valL_bd k (ps.take j)
      rw [List.length_take, Nat.min_eq_left hj] at hbR hbV
      have P6 := P5.alloc (.cells #[.int .i64 x, .int .i64 y] 50)
      have o6 : OwnQ (wr.alloc (.cells #[.int .i64 x, .int .i64 y] 50)) wo (some ⟨b, off, none⟩) ce ps := World.ownsRow.alloc o5 _
      have hB6 := hB5.alloc hB5.size (.cells #[.int .i64 x, .int .i64 y] 50)
      obtain ⟨rows, hrows⟩ : ∃ rows, rowsL k (ps.take j) = rows := ⟨_, rfl⟩
      obtain ⟨val, hval⟩ : ∃ val, valL k (ps.take j) = val := ⟨_, rfl⟩
      rw [hrows] at hsr hbR P6
      rw [hval] at hsv hbV P6
      have HP6 := Lib.hid P6
      have HO6 := Lib.hid o6
      have HX := Lib.hid hx
      unfold edgeR at hsr
      unfold edgeV at hsv
      dsimp only at hsr hsv
      clear P5 o5 hB5 P6 o6 hx hrows hval
      by_cases hxy : x = y
      ·have hne : ((x : Int) != (y : Int)) = false := by simp [hxy]
       rw [if_pos hxy] at hsr hsv
       have HSR := Lib.hid hsr
       have HSV := Lib.hid hsv
       clear hsr hsv hbR hbV
       subst hxy
       go_wp2
       go_quiet (fail)
       go_wp2
       go_roundw
       case rel => exact ⟨j + 1, by omega, by go_num, by rw [HSR.out, HSV.out]; exact HP6.out.drewN _, own_kept2 HO6.out (fun _ _ => rfl), below_drewN hB6 _⟩
       case measure => simp [intOf]; omega
      ·have hne : ((x : Int) != (y : Int)) = true := by rw [bne_iff_ne]; omega
       rw [if_neg hxy] at hsr hsv
       have HSR := Lib.hid hsr
       have HSV := Lib.hid hsv
       have HBR := Lib.hid hbR
       have HBV := Lib.hid hbV
       clear hsr hsv hbR hbV
       go_wp2
       go_quiet (fail)
       have P7 := HP6.out.drewN nq
       have o7 := HO6.out
       have hB7 := below_drewN hB6 nq
       obtain ⟨W0, hW0⟩ : ∃ W0, (wr.alloc (.cells #[.int .i64 x, .int .i64 y] 50)).drewN nq = W0 := ⟨_, rfl⟩
       replace o7 : OwnQ W0 wo (some ⟨b, off, none⟩) ce ps := by rw [← hW0]; exact own_kept2 o7 (fun _ _ => rfl)
       rw [hW0] at P7 hB7 ⊢
       clear hW0 hB6 x0 x1 X1 q1 q2 hbb
       have hbR := HBR.out
       have hbV := HBV.out
       obtain ⟨gx, hgx⟩ := get_of_lt (xs := gs) (k := x) (by rw [HL.out]; exact hxn)
       obtain ⟨gy, hgy⟩ := get_of_lt (xs := gs) (k := y) (by rw [HL.out]; exact hyn)
       obtain ⟨r1, hr1⟩ := get_of_lt (xs := rows) (k := x) (by rw [hbR.1]; exact hxn)
       obtain ⟨hr1l, hr1b⟩ := hbR.2 r1 (List.mem_of_getElem? hr1)
       obtain ⟨u1, hu1⟩ := get_of_lt (xs := r1) (k := y) (by omega)
       have hu1b := hr1b u1 (List.mem_of_getElem? hu1)
       have e1 : incR rows x y = rows.set x (r1.set y (u1 + 1)) := by unfold incR incE; rw [List.getD_eq_getElem?_getD, hr1, Option.getD_some, getD_at hu1]
       have hbR2 := hbR.inc (by omega) hxn y
       rw [e1] at hbR2
       obtain ⟨r2, hr2⟩ := get_of_lt (xs := rows.set x (r1.set y (u1 + 1))) (k := y) (by rw [hbR2.1]; exact hyn)
       obtain ⟨hr2l, hr2b⟩ := hbR2.2 r2 (List.mem_of_getElem? hr2)
       obtain ⟨u2, hu2⟩ := get_of_lt (xs := r2) (k := x) (by omega)
       have hu2b := hr2b u2 (List.mem_of_getElem? hu2)
       have e2 : incR (incR rows x y) y x = (rows.set x (r1.set y (u1 + 1))).set y (r2.set x (u2 + 1)) := by rw [e1]; unfold incR incE; rw [List.getD_eq_getElem?_getD, hr2, Option.getD_some, getD_at hu2]
       obtain ⟨v1, hv1⟩ := get_of_lt (xs := val) (k := x) (by rw [hbV.1]; exact hxn)
       have hv1b := hbV.2 v1 (List.mem_of_getElem? hv1)
       have e3 : incE val x = val.set x (v1 + 1) := by unfold incE; rw [getD_at hv1]
       have hbV2 := hbV.inc (by omega) x
       rw [e3] at hbV2
       obtain ⟨v2, hv2⟩ := get_of_lt (xs := val.set x (v1 + 1)) (k := y) (by rw [hbV2.1]; exact hyn)
       have hv2b := hbV2.2 v2 (List.mem_of_getElem? hv2)
       have e4 : incE (incE val x) y = (val.set x (v1 + 1)).set y (v2 + 1) := by rw [e3]; unfold incE; rw [getD_at hv2]
       have Q1 := P7.setR (j := y) hgx hr1 (u1 + 1)
       have Q2 := Q1.setR (j := x) hgy hr2 (u2 + 1)
       have Q3 := Q2.setV x (v1 + 1)
       have Q4 := Q3.setV y (v2 + 1)
       have b1 := hB7.setCell (p := ⟨gx, y, none⟩) (P7.grid.blk (List.mem_of_getElem? hgx)).choose_spec.2 (.int .i64 (u1 + 1))
       have b2 := b1.setCell (p := ⟨gy, x, none⟩) (P7.grid.blk (List.mem_of_getElem? hgy)).choose_spec.2 (.int .i64 (u2 + 1))
       have b3 := (b2.setCell (p := ⟨bv, x, none⟩) P7.lo.2.2.1 (.int .i64 (v1 + 1))).setCell (p := ⟨bv, y, none⟩) P7.lo.2.2.1 (.int .i64 (v2 + 1))
       have l1 := HLT.out gx (.inr (.inr (.inr (.inr (.inr (List.mem_of_getElem? hgx))))))
       have l2 := HLT.out gy (.inr (.inr (.inr (.inr (.inr (List.mem_of_getElem? hgy))))))
       have l3 := HLT.out bv (.inr (.inr (.inl rfl)))
       have ofar : ∀ {W : World} {g : Nat} (o : Nat) (u : Value), OwnQ W wo (some ⟨b, off, none⟩) ce ps → g < wo → OwnQ (W.setCell ⟨g, o, none⟩ u) wo (some ⟨b, off, none⟩) ce ps := fun {W} {g} o u hO hg => own_kept2 hO fun k' hk' => Below.heap_setCell _ _ _ _ (fun e => by
        have e' : k' = g := e
        have := (World.ownsRow.lt hO k' (blockOf_own.2 hk')).1
        omega)
       have O4 := ofar y (.int .i64 (v2 + 1)) (ofar x (.int .i64 (v1 + 1)) (ofar x (.int .i64 (u2 + 1)) (ofar y (.int .i64 (u1 + 1)) o7 l1) l2) l3) l3
       have p02 := P7.c2
       have po := P7.co hgx
       obtain ⟨pr, pf⟩ := P7.crow hgx hr1 hu1
       have p12 := Q1.c2
       have qo := Q1.co hgy
       obtain ⟨qr, qf⟩ := Q1.crow hgy hr2 hu2
       have p23 := Q2.c3
       have pv := Q2.cv hv1
       have pvf := Q2.vv.frozen x
       have p33 := Q3.c3
       have qv := Q3.cv hv2
       have qvf := Q3.vv.frozen y
       have ix : (x : Int) < (gs.length : Int) := by rw [HL.out]; omega
       have iy : (y : Int) < (gs.length : Int) := by rw [HL.out]; omega
       have ix2 : (x : Int) < (k : Int) := by omega
       have iy2 : (y : Int) < (k : Int) := by omega
       dsimp only at p02 po pr pf p12 qo qr qf p23 pv pvf p33 qv qvf
       have HQ4 := Lib.hid Q4
       have HB3 := Lib.hid b3
       have HO4 := Lib.hid O4
       have E2 := Lib.hid (HSR.out.trans e2)
       have E4 := Lib.hid (HSV.out.trans e4)
       clear Q4 Q3 Q2 Q1 P7 o7 hB7 b1 b2 b3 O4 e1 e2 e3 e4 hbR hbR2 hbV hbV2 hr1 hr2 hu1 hu2 hv1 hv2 hgx hgy hr1b hr2b hr1l hr2l ofar HP6 HO6 HSR HSV HBR HBV
       go_wp2
       go_roundw
       case rel => exact ⟨j + 1, by omega, by go_num, by rw [E2.out, E4.out]; exact HQ4.out, HO4.out, HB3.out⟩
       case measure => simp [intOf]; omega
     ·obtain rfl : j = ps.length := by omega
      rw [List.take_length] at P5
      have p0 := P5.c0
      have HP5 := Lib.hid P5
      dsimp only at p0
      clear P5 o5
      go_wp2_with fail
      go_loopw [15, 113] (fun _ i wl => ∃ v : Nat, v ≤ k ∧ i = .int .i64 v ∧ PileW wl w.heap.size bp k ⟨bd, cd, bv, bf, some ⟨bo, oo, none⟩, cr, gs⟩ d q (rowsL k ps) (valL k ps) (List.replicate k 0) 0 (waitL v q d (valL k ps)) ∧ Below w.heap.size w wl) (fun _ i _ => k - (intOf i).toNat)
      case atStart => exact ⟨0, by omega, rfl, by rw [waitL_zero]; exact HP5.out, hB5⟩
      case round =>
       obtain ⟨v, hv, rfl, P6, hB6⟩ := hrel
       clear hB5
       by_cases hlv : v < k
       ·have hi : (v : Int) < (k : Int) := by omega
        have WT := Lib.hid (wait_any w.heap.size bp k hn _ d q _ (valL k ps) _ 0 _ v hlv wr P6)
        have hlo := P6.lo.1
        go_wp2_with (go_at_call 263; refine (WT.out).mono ?_; rintro e w7 ⟨⟨ev, rfl⟩, P7, ho7⟩)
        rw [waitL_succ v (by omega)] at P7
        go_roundw
        case rel => exact ⟨v + 1, by omega, by go_num, P7, hB6.trans (ho7.below (fun k' hk' e => by omega) hB6.size)⟩
        case measure => simp [intOf]; omega
       ·obtain rfl : v = k := by omega
        go_wp2
        go_ret2
        rw [HEQ.out]
        exact ⟨bp, _, rfl, P6, hB6⟩
theorem incE_get (xs : List Int) (i v : Nat) : (incE xs i).getD v 0 = xs.getD v 0 + if v = i ∧ i < xs.length then 1 else 0 := by
 unfold incE
 simp only [List.getD_eq_getElem?_getD, List.getElem?_set]
 by_cases h : i = v
 ·subst h
  by_cases h2 : i < xs.length
  ·simp [h2]
  ·simp [h2]
 ·rw [if_neg h, if_neg (fun e => h e.1.symm), Int.add_zero]
def indV (v : Nat) (p : Nat × Nat) : Int := if p.1 ≠ p.2 ∧ (p.1 = v ∨ p.2 = v) then 1 else 0
theorem valL_at {n v : Nat} (ps : List (Nat × Nat)) : (∀ p ∈ ps, p.1 < n ∧ p.2 < n) → (valL n ps).getD v 0 = (ps.map (indV v)).sum := by
 induction ps using snocRec with
 | h0 =>
   intro _
   unfold valL
   rw [List.foldl_nil, List.getD_eq_getElem?_getD, List.getElem?_replicate]
   split <;> simp
 | h1 ps p ih =>
   intro h
   obtain ⟨h1, h2⟩ := h p (by simp)
   have hl := (valL_bd n ps).1
   have e : valL n (ps ++ [p]) = edgeV (valL n ps) p := by simp [valL, List.foldl_append]
   rw [e, List.map_append, List.sum_append, ← ih fun x hx => h x (by simp [hx])]
   unfold edgeV indV
   simp only [List.map_cons, List.map_nil, List.sum_cons, List.sum_nil, Int.add_zero]
   by_cases hp : p.1 = p.2
   ·rw [if_pos hp, if_neg (fun e => e.1 hp)]; omega
   ·rw [if_neg hp, incE_get, incE_get, incE_length]
    split <;> split <;> split <;> omega
theorem sum_rep (m : Nat) (x : Int) : (List.replicate m x).sum = m * x := by
 induction m with
 | zero => simp
 | succ m ih => rw [List.replicate_succ, List.sum_cons, ih, Int.natCast_add, Int.add_mul]; omega
theorem ends_sum {n : Nat} {es : List E3} (hok : ∀ e ∈ es, okE n e) (g : Nat × Nat → Int) : ((endsL es).map g).sum = (es.map fun e => e.2.2 * g (e.1.toNat, e.2.1.toNat)).sum := by
 induction es with
 | nil => rfl
 | cons e es ih =>
   have h := hok e (by simp)
   unfold okE at h
   have e1 : endsL (e :: es) = List.replicate e.2.2.toNat (e.1.toNat, e.2.1.toNat) ++ endsL es := by simp [endsL]
   rw [e1, List.map_append, List.sum_append, ih fun x hx => hok x (by simp [hx]), List.map_replicate, sum_rep, List.map_cons, List.sum_cons, Int.toNat_of_nonneg (by omega)]
theorem valL_val {n v : Nat} {es : List E3} (hok : ∀ e ∈ es, okE n e) : (valL n (endsL es)).getD v 0 = valE es v := by
 rw [valL_at _ (endsL_ok hok), ends_sum hok]
 unfold valE
 congr 1
 apply List.map_congr_left
 intro e he
 have h := hok e he
 unfold okE at h
 unfold indV valT
 dsimp only
 by_cases hc : e.1 ≠ e.2.1 ∧ (e.1 = v ∨ e.2.1 = v)
 ·rw [if_pos hc, if_pos (by omega)]; omega
 ·rw [if_neg hc, if_neg (by omega)]; omega
theorem valE_valS {n v : Nat} {es : List E3} (hG : RightG n es) : valE es v = valS es n v := by
 rw [valE_jn (n := n) hG.ok, jnE_flm hG]
 unfold valS
 have : ∀ k, k ≤ n → flmTo es (List.range n) v k = sumTo (fun w => tt es v w) k := by
  intro k hk
  induction k with
  | zero => rfl
  | succ k ih => simp only [flmTo, sumTo]; rw [ih (by omega), if_pos (List.mem_range.2 (by omega))]
 exact this n (Nat.le_refl _)
theorem conn_edge {v : Nat} {es : List E3} {c : Nat} (h : Conn es v c) : c = v ∨ ∃ e ∈ es, e.1 ≠ e.2.1 ∧ (e.1 = v ∨ e.2.1 = v) := by
 induction h with
 | refl => exact .inl rfl
 | @step b c _ hbc ih =>
   rcases ih with rfl | ih
   ·obtain ⟨e, he, h⟩ := hbc
    by_cases hcb : c = b
    ·exact .inl hcb
    ·exact .inr ⟨e, he, by omega, by omega⟩
   ·exact .inr ih
theorem valE_mem {n : Int} {es : List E3} (hok : ∀ e ∈ es, okE n e) {v : Int} {e : E3} (he : e ∈ es) (hne : e.1 ≠ e.2.1) (hv : e.1 = v ∨ e.2.1 = v) : 1 ≤ valE es v := by
 induction es with
 | nil => cases he
 | cons x es ih =>
   have h1 := valE_bd (fun y hy => hok y (List.mem_cons_of_mem _ hy)) v
   have h2 := valT_bd (hok x (by simp)) v
   have e1 : valE (x :: es) v = valT v x + valE es v := by simp [valE]
   rw [e1]
   rcases List.mem_cons.1 he with rfl | he
   ·have h3 := hok e (by simp)
    unfold okE at h3
    unfold valT
    rw [if_pos ⟨hne, hv⟩]
    omega
   ·have := ih (fun y hy => hok y (List.mem_cons_of_mem _ hy)) he
    omega
theorem val_pos {n v q : Nat} {es : List E3} (hG : RightG n es) (hC : AllConn n es) (hv : v < n) (hq : q < n) (hvq : v ≠ q) : 1 ≤ valE es v := by
 rcases conn_edge ((hC v hv).symm.trans (hC q hq)) with h | ⟨e, he, h1, h2⟩
 ·exact absurd h.symm hvq
 ·exact valE_mem hG.ok he h1 h2
theorem root_zero {n q : Nat} {es : List E3} (hx : rootErr n es q = 0) : checkG n es = 0 ∧ RightG n es ∧ AllConn n es ∧ q < n := by
 rcases root_cases n es q with ⟨h1, h2⟩ | ⟨_, _, h2⟩ | ⟨_, _, _, h2⟩ | ⟨h1, h2, h3, _⟩
 ·rw [hx] at h2; exact absurd h2.symm h1
 ·rw [hx] at h2; cases h2
 ·rw [hx] at h2; cases h2
 ·have hG := right_of h1
  rw [Int.toNat_natCast] at h2
  have := vertB_true.1 h3
  exact ⟨h1, hG, (connB_iff hG).1 h2, by omega⟩
end Go.Proofs.YtnbikkcalcpedaaGreatDoor
namespace Go.Proofs.YtnbikkcalcpedaaGreatDoor
theorem tree_ex {n : Nat} {E : List (Nat × Nat)} (hb : BdP n E) (hc : partsP n E = 1) : ∃ t, IsTr n E t := by
 have key : ∀ k, k ≤ E.length → ∃ t : List Nat, t.Pairwise (· < ·) ∧ (∀ e ∈ t, e < k) ∧ Fo (pk E t) ∧ ∀ a b, Cn (pk E t) a b ↔ Cn (E.take k) a b := by
  intro k
  induction k with
  | zero => exact fun _ => ⟨[], .nil, by simp, trivial, fun a b => Iff.rfl⟩
  | succ k ih =>
    intro hk
    obtain ⟨t, h1, h2, h3, h4⟩ := ih (by omega)
    have hE := getD_some (E := E) (e := k) (by omega)
    have htk : E.take (k + 1) = E.take k ++ [E.getD k (0, 0)] := by rw [List.take_add_one, hE]; rfl
    have hsn : ∀ (ps : List (Nat × Nat)) (p : Nat × Nat) (a b : Nat), Cn (ps ++ [p]) a b ↔ Cn (p :: ps) a b := fun ps p a b => cn_same fun q => by simp [or_comm]
    by_cases hc : Cn (pk E t) (E.getD k (0, 0)).1 (E.getD k (0, 0)).2
    ·refine ⟨t, h1, fun e he => by have := h2 e he; omega, h3, fun a b => ?_⟩
     rw [htk, hsn, cn_cons_of ((h4 _ _).1 hc), h4]
    ·have hpk : pk E (t ++ [k]) = pk E t ++ [E.getD k (0, 0)] := by simp [pk]
     refine ⟨t ++ [k], ?_, ?_, ?_, fun a b => ?_⟩
     ·rw [List.pairwise_append]
      exact ⟨h1, List.pairwise_singleton _ _, fun a ha b hb => by rw [List.mem_singleton] at hb; subst hb; exact h2 a ha⟩
     ·intro e he
      rcases List.mem_append.1 he with he | he
      ·have := h2 e he; omega
      ·rw [List.mem_singleton] at he; omega
     ·rw [hpk]
      refine (fo_append_snoc (n := n) ?_).2 ⟨h3, hc⟩
      rw [← hpk]
      exact bd_pk hb fun e he => by
       rcases List.mem_append.1 he with he | he
       ·have := h2 e he; omega
       ·rw [List.mem_singleton] at he; omega
     ·rw [hpk, htk, hsn, hsn, cn_cons, cn_cons, h4, h4, h4, h4, h4]
 obtain ⟨t, h1, h2, h3, h4⟩ := key E.length (Nat.le_refl _)
 rw [List.take_length] at h4
 have hp : partsP n (pk E t) = 1 := by rw [partsP_congr h4]; exact hc
 have hl := (tree_of_fo (bd_pk hb h2) h3).1 hp
 rw [pk_length] at hl
 exact ⟨t, ⟨h1, h2⟩, hl, h3⟩
end Go.Proofs.YtnbikkcalcpedaaGreatDoor
