/-
 Texts of this claim, put together: Graph, Without, SrtI, CrapoP, PushF, HeapX.
-/
import Derived.Test.YtnbikkcalcpedaaGreatDoorK08
import Derived.Test.YtnbikkcalcpedaaGreatDoorK01
import Derived.Deep.RegionWith
import Derived.StillTailTactics
import Derived.Outline
import Derived.Test.YtnbikkcalcpedaaGreatDoorK05
import Derived.Test.YtnbikkcalcpedaaGreatDoorK02
import Derived.Test.YtnbikkcalcpedaaGreatDoorK09
import Derived.Deep.DeepAppendRoom
import Derived.Test.YtnbikkcalcpedaaGreatDoorK10
set_option maxRecDepth 100000
set_option maxHeartbeats 4000000
namespace Go.Proofs.YtnbikkcalcpedaaGreatDoor
open Go.RowKit
theorem region_tail {P : Program} {id : Nat} {Q : Exit → Act → World → Prop} {a : Act} {w : World} {l : List Oper} (n : Nat) (hm : P.follows .mixedOrders = true) (hB : Region.lexTailB .any l.toArray n = true)
  (h : wpStill P l.toArray w.drew (fun a' => wpList P l.toArray Q (l.drop n) a' w.drew) (l.take n) a) : (Code.region id l.toArray true).wp P Q a w := wp_region_still_tail n hm hB h
def vertB (n v : Int) : Bool := decide (0 ≤ v) && decide (v < n)
theorem vertB_true {n v : Int} : vertB n v = true ↔ 0 ≤ v ∧ v < n := by simp [vertB]
theorem vertB_false {n v : Int} : vertB n v = false ↔ ¬ (0 ≤ v ∧ v < n) := by rw [← vertB_true]; simp
theorem vertex_any (n v : Int) (w : World) :
  Calls Tryz.prog 55 #[.int .i64 n, .int .i64 v] w fun e w' => e = .returned (.bool (vertB n v)) ∧ w = w' := by
 go_enter Tryz.func55, Tryz.ntmps55
 go_wp2
 all_goals (go_ret; exact ⟨by simp only [vertB]; simp [*]; try omega, rfl⟩)
def cmpI (x y : Int) : Int := if x < y then -1 else if y < x then 1 else 0
def orI (x y : Int) : Int := if x = 0 then y else x
def lexI (a b c d : Int) : Int := orI (cmpI a c) (cmpI b d)
theorem cmpI_zero {x y : Int} : cmpI x y = 0 ↔ x = y := by unfold cmpI; split <;> (try split) <;> omega
theorem cmpI_neg {x y : Int} : cmpI x y < 0 ↔ x < y := by unfold cmpI; split <;> (try split) <;> omega
theorem lexI_neg {a b c d : Int} : lexI a b c d < 0 ↔ a < c ∨ (a = c ∧ b < d) := by
 unfold lexI orI
 have h1 := cmpI_zero (x := a) (y := c)
 have h2 := cmpI_neg (x := a) (y := c)
 have h3 := cmpI_neg (x := b) (y := d)
 split <;> omega
theorem compare_any (x y : Int) (w : World) :
  Calls Tryz.prog 62 #[.int .i64 x, .int .i64 y] w fun e w' => e = .returned (.int .i64 (cmpI x y)) ∧ w = w' := by
 have e1 : (x != x) = false := by simp
 have e2 : (y != y) = false := by simp
 rcases Int.lt_trichotomy x y with h | h | h
 ·have hd : cmpI x y = -1 := by unfold cmpI; rw [if_pos h]
  rw [hd]
  go_enter Tryz.func62, Tryz.ntmps62
  go_wp2
  all_goals (go_ret; exact ⟨rfl, rfl⟩)
 ·subst h
  have hd : cmpI x x = 0 := by unfold cmpI; simp
  rw [hd]
  go_enter Tryz.func62, Tryz.ntmps62
  go_wp2
  all_goals (go_ret; exact ⟨rfl, rfl⟩)
 ·have h2 : ¬ x < y := by omega
  have hd : cmpI x y = 1 := by unfold cmpI; rw [if_neg h2, if_pos h]
  rw [hd]
  go_enter Tryz.func62, Tryz.ntmps62
  go_wp2
  all_goals (go_ret; exact ⟨rfl, rfl⟩)
theorem or_any (g c : Nat) (x y : Int) (w : World) (c0 : w.cell? ⟨g, 0, none⟩ = some (.int .i64 x)) (c1 : w.cell? ⟨g, 1, none⟩ = some (.int .i64 y)) :
  Calls Tryz.prog 61 #[.slice (some ⟨g, 0, none⟩) 2 c] w fun e w' => e = .returned (.int .i64 (orI x y)) ∧ w = w' := by
 obtain ⟨r, hr⟩ : ∃ r, orI x y = r := ⟨_, rfl⟩
 rw [hr]
 unfold orI at hr
 have HR := Lib.hid hr
 clear hr
 go_enter Tryz.func61, Tryz.ntmps61
 go_wp2
 go_loop [8] (fun i => ∃ k : Nat, k ≤ 2 ∧ i = .int .i64 k ∧ (1 ≤ k → Hid (x = 0)) ∧ (2 ≤ k → Hid (y = 0))) (fun i => 2 - (intOf i).toNat)
 case atStart => exact ⟨0, by omega, rfl, fun h => by omega, fun h => by omega⟩
 case round =>
  obtain ⟨k, hk, rfl, H1, H2⟩ := hrel
  rcases (show k = 0 ∨ k = 1 ∨ k = 2 by omega) with rfl | rfl | rfl
  ·by_cases hx : x = 0
   ·subst hx
    go_wp2
    go_round
    case rel => exact ⟨1, by omega, by go_num, fun _ => by simp [Hid], fun h => by omega⟩
    case measure => simp [intOf]
   ·have hb : (x != 0) = true := by simpa using hx
    rw [if_neg hx] at HR
    obtain rfl := HR.out
    clear hx HR
    go_wp2
    go_ret
    exact ⟨rfl, rfl⟩
  ·obtain rfl := (H1 (by omega)).out
   have HR' : y = r := by have := HR.out; rwa [if_pos rfl] at this
   subst HR'
   clear HR H1 H2
   by_cases hx : y = 0
   ·subst hx
    go_wp2
    go_round
    case rel => exact ⟨2, by omega, by go_num, fun _ => by simp [Hid], fun _ => by simp [Hid]⟩
    case measure => simp [intOf]
   ·have hb : (y != 0) = true := by simpa using hx
    clear hx
    go_wp2
    go_ret
    exact ⟨rfl, rfl⟩
  ·obtain rfl := (H1 (by omega)).out
   obtain rfl := (H2 (by omega)).out
   have HR' : 0 = r := by have := HR.out; simpa using this
   subst HR'
   clear HR H1 H2
   go_wp2
   go_ret
   exact ⟨rfl, rfl⟩
theorem pcompare_any (a b c d : Int) (w : World) :
  Calls Tryz.prog 113 #[.agg #[.int .i64 a, .int .i64 b], .agg #[.int .i64 c, .int .i64 d]] w fun e w' => e = .returned (.int .i64 (lexI a b c d)) ∧ Below w.heap.size w w' := by
 have HD : Hid (lexI a b c d = orI (cmpI a c) (cmpI b d)) := rfl
 have G := Blk.new ((w.alloc (.cells #[.int .i64 a, .int .i64 b] 152)).alloc (.cells #[.int .i64 c, .int .i64 d] 152)) 3 #[.int .i64 (cmpI a c), .int .i64 (cmpI b d)]
 rw [show ((w.alloc (.cells #[.int .i64 a, .int .i64 b] 152)).alloc (.cells #[.int .i64 c, .int .i64 d] 152)).heap.size = w.heap.size + 1 + 1 from by simp] at G
 have HC := Lib.hid (or_any (w.heap.size + 1 + 1) 2 (cmpI a c) (cmpI b d) _ (G.drew.cell 0) (G.drew.cell 1))
 clear G
 go_enter Tryz.func113, Tryz.ntmps113
 go_wp2
 refine region_tail 10 (by kernel_rfl) (by kernel_rfl) ?_
 simp only [List.take_succ_cons, List.take_zero, List.drop_succ_cons, List.drop_zero]
 repeat still_step
 still_call ((compare_any _ _ _).mono fun _ _ h => ⟨h.1, h.2.symm⟩)
 repeat still_step
 still_call ((compare_any _ _ _).mono fun _ _ h => ⟨h.1, h.2.symm⟩)
 refine wpStill_nil ?_
 go_wp2_with (go_at_call 61; refine (HC.out).mono ?_; rintro e w' ⟨rfl, rfl⟩)
 go_ret
 exact ⟨by rw [HD.out]; rfl, ((((Below.refl _ _).alloc (Nat.le_refl _) _).alloc (by simp) _).alloc (by simp; omega) _).drew⟩
theorem edge_cases (n : Int) (p : Option E3) (e : E3) (la lb : Int) (hl : ∀ y, p = some y → la = y.1 ∧ lb = y.2.1) (hn : p = none → la = -1 ∧ lb = -1) :
  (vertB n e.1 = false ∧ edgeErr n p e = 2) ∨ (vertB n e.1 = true ∧ vertB n e.2.1 = false ∧ edgeErr n p e = 2) ∨
  (vertB n e.1 = true ∧ vertB n e.2.1 = true ∧ e.2.2 < 1 ∧ edgeErr n p e = 2) ∨ (vertB n e.1 = true ∧ vertB n e.2.1 = true ∧ 50 < e.2.2 ∧ ¬ e.2.2 < 1 ∧ edgeErr n p e = 2) ∨
  (vertB n e.1 = true ∧ vertB n e.2.1 = true ∧ ¬ e.2.2 < 1 ∧ ¬ 50 < e.2.2 ∧ e.2.1 < e.1 ∧ edgeErr n p e = 9) ∨
  (vertB n e.1 = true ∧ vertB n e.2.1 = true ∧ ¬ e.2.2 < 1 ∧ ¬ 50 < e.2.2 ∧ ¬ e.2.1 < e.1 ∧ 0 ≤ lexI la lb e.1 e.2.1 ∧ edgeErr n p e = 9) ∨
  (vertB n e.1 = true ∧ vertB n e.2.1 = true ∧ ¬ e.2.2 < 1 ∧ ¬ 50 < e.2.2 ∧ ¬ e.2.1 < e.1 ∧ lexI la lb e.1 e.2.1 < 0 ∧ edgeErr n p e = 0) := by
 have h3 := lexI_neg (a := la) (b := lb) (c := e.1) (d := e.2.1)
 have v1 := vertB_true (n := n) (v := e.1)
 have v2 := vertB_true (n := n) (v := e.2.1)
 cases g1 : vertB n e.1
 ·refine .inl ⟨rfl, ?_⟩
  rw [vertB_false] at g1
  unfold edgeErr; rw [if_pos (by omega)]
 rw [g1] at v1
 have v1 := v1.1 rfl
 cases g2 : vertB n e.2.1
 ·refine .inr (.inl ⟨rfl, rfl, ?_⟩)
  rw [vertB_false] at g2
  unfold edgeErr; rw [if_pos (by omega)]
 rw [g2] at v2
 have v2 := v2.1 rfl
 by_cases h1 : e.2.2 < 1
 ·refine .inr (.inr (.inl ⟨rfl, rfl, h1, ?_⟩))
  unfold edgeErr; rw [if_pos (by omega)]
 by_cases h2 : 50 < e.2.2
 ·refine .inr (.inr (.inr (.inl ⟨rfl, rfl, h2, h1, ?_⟩)))
  unfold edgeErr; rw [if_pos (by omega)]
 by_cases h4 : e.2.1 < e.1
 ·refine .inr (.inr (.inr (.inr (.inl ⟨rfl, rfl, h1, h2, h4, ?_⟩))))
  unfold edgeErr; rw [if_neg (by omega), if_pos h4]
 have hE : edgeErr n p e = if lexI la lb e.1 e.2.1 < 0 then 0 else 9 := by
  unfold edgeErr
  rw [if_neg (by omega), if_neg h4]
  rcases p with _ | y
  ·obtain ⟨ha, hb⟩ := hn rfl
   rw [if_pos (by omega)]
  ·obtain ⟨ha, hb⟩ := hl y rfl
   simp only
   split
   ·rw [if_neg (by omega)]
   ·rw [if_pos (by omega)]
 by_cases h5 : lexI la lb e.1 e.2.1 < 0
 ·rw [if_pos h5] at hE
  exact .inr (.inr (.inr (.inr (.inr (.inr ⟨rfl, rfl, h1, h2, h4, h5, hE⟩)))))
 ·rw [if_neg h5] at hE
  exact .inr (.inr (.inr (.inr (.inr (.inl ⟨rfl, rfl, h1, h2, h4, by omega, hE⟩)))))
theorem edgesErr_stop {n : Int} {es : List E3} {k : Nat} {e : E3} {r : Int} (h : es[k]? = some e) (hr : edgeErr n (prevOf es k) e = r) (hne : r ≠ 0) (hs : edgesErr n none es = edgesErr n (prevOf es k) (es.drop k)) : edgesErr n none es = r := by
 rw [hs, edgesErr_drop h, if_neg (by omega), hr]
theorem edgesErr_go {n : Int} {es : List E3} {k : Nat} {e : E3} (h : es[k]? = some e) (hr : edgeErr n (prevOf es k) e = 0) (hs : edgesErr n none es = edgesErr n (prevOf es k) (es.drop k)) : edgesErr n none es = edgesErr n (prevOf es (k + 1)) (es.drop (k + 1)) := by
 rw [hs, edgesErr_drop h, if_pos hr]
theorem gcheck_any (n : Int) (A : Option Addr) (c : Nat) (es : List E3) (hn : es.length ≤ 1048576) (w : World) (h : Reads w w.heap.size 3 A es.length (edgeCells es)) :
  Calls Tryz.prog 54 #[.agg #[.int .i64 n, .slice A es.length c]] w fun e w' => e = .returned (.int .i64 (checkG n es)) ∧ Below w.heap.size w w' := by
 by_cases h1 : n < 1
 ·have hd : checkG n es = 2 := by unfold checkG; rw [if_pos (.inl h1)]
  rw [hd]
  go_enter Tryz.func54, Tryz.ntmps54
  go_wp2
  go_ret
  exact ⟨rfl, (Below.refl _ _).alloc (Nat.le_refl _) _⟩
 by_cases h2 : 12 < n
 ·have hd : checkG n es = 2 := by unfold checkG; rw [if_pos (.inr h2)]
  rw [hd]
  go_enter Tryz.func54, Tryz.ntmps54
  go_wp2
  go_ret
  exact ⟨rfl, (Below.refl _ _).alloc (Nat.le_refl _) _⟩
 have hd : checkG n es = edgesErr n none es := by unfold checkG; rw [if_neg (by omega)]
 rw [hd]
 obtain ⟨r, hr⟩ : ∃ r, edgesErr n none es = r := ⟨_, rfl⟩
 rw [hr]
 have HR := Lib.hid hr
 clear hr hd
 go_enter Tryz.func54, Tryz.ntmps54
 go_wp2
 go_loopw [19] (fun i wr => ∃ k : Nat, k ≤ es.length ∧ i = .int .i64 k ∧ Below w.heap.size w wr ∧ Blk wr w.heap.size 24 #[.int .i64 n, .slice A es.length c] ∧
  (∃ la lb : Int, Blk wr (w.heap.size + 1) 152 #[.int .i64 la, .int .i64 lb] ∧ Hid ((∀ y, prevOf es k = some y → la = y.1 ∧ lb = y.2.1) ∧ (prevOf es k = none → la = -1 ∧ lb = -1))) ∧ Hid (edgesErr n none es = edgesErr n (prevOf es k) (es.drop k))) (fun i _ => es.length - (intOf i).toNat)
 case atStart =>
  refine ⟨0, by omega, rfl, ((Below.refl _ _).alloc (Nat.le_refl _) _).alloc (by simp) _, (Blk.new _ _ _).alloc _, ⟨-1, -1, ?_, ⟨fun y hy => by simp [prevOf] at hy, fun _ => ⟨rfl, rfl⟩⟩⟩, by simp [Hid, prevOf]⟩
  have := Blk.new (w.alloc (.cells #[.int .i64 n, .slice A es.length c] 24)) 152 #[.int .i64 (-1), .int .i64 (-1)]
  simpa using this
 case round =>
  obtain ⟨k, hk, rfl, hbel, g1, ⟨la, lb, g2, HL⟩, HS⟩ := hrel
  have c0 := g1.cell 0
  have c1 := g1.cell 1
  have d0 := g2.cell 0
  have d1 := g2.cell 1
  have f0 := g2.frozen 0
  have f1 := g2.frozen 1
  have hsz := hbel.size
  by_cases hlt : k < es.length
  ·obtain ⟨⟨a, b, m⟩, hx⟩ := get_of_lt hlt
   have hcs := edge_cases n (prevOf es k) (a, b, m) la lb HL.out.1 HL.out.2
   obtain ⟨bb, off, rfl, hb, q1, q2, q3⟩ := (h.below hbel).edge hx
   have hi : (k : Int) < (es.length : Int) := by omega
   have HX := Lib.hid hx
   have HB := Lib.hid hbel
   dsimp only at hcs q1 q2 q3
   clear hx h hbel HL
   have G1 := (g1.alloc (.cells #[.int .i64 a, .int .i64 b, .int .i64 m] 107)).alloc (.cells #[.int .i64 a, .int .i64 b] 152)
   have G2 := (g2.alloc (.cells #[.int .i64 a, .int .i64 b, .int .i64 m] 107)).alloc (.cells #[.int .i64 a, .int .i64 b] 152)
   have G3 := Blk.new (wr.alloc (.cells #[.int .i64 a, .int .i64 b, .int .i64 m] 107)) 152 #[.int .i64 a, .int .i64 b]
   rw [show (wr.alloc (.cells #[.int .i64 a, .int .i64 b, .int .i64 m] 107)).heap.size = wr.heap.size + 1 from by simp] at G3
   have hs1 : w.heap.size < wr.heap.size := g1.lt
   have hs2 : w.heap.size + 1 < wr.heap.size := by have := g2.lt; omega
   have C0 := G1.cell 0
   have D0 := G2.cell 0
   have D1 := G2.cell 1
   have F0 := G2.frozen 0
   have F1 := G2.frozen 1
   rcases hcs with ⟨v1, hE⟩ | ⟨v1, v2, hE⟩ | ⟨v1, v2, h3, hE⟩ | ⟨v1, v2, h3, h4, hE⟩ | ⟨v1, v2, h3, h4, h5, hE⟩ | ⟨v1, v2, h3, h4, h5, h6, hE⟩ | ⟨v1, v2, h3, h4, h5, h6, hE⟩
   ·have HE := Lib.hid (edgesErr_stop HX.out hE (by omega) HS.out); clear hE
    go_wp2_with (go_at_call 55; refine (vertex_any _ _ _).mono ?_; rintro e w' ⟨rfl, rfl⟩)
    go_ret
    exact ⟨ret_int (by rw [← HR.out, HE.out]), (HB.out.alloc (Nat.le_trans (by omega) hsz) _).alloc (by simp; omega) _⟩
   ·have HE := Lib.hid (edgesErr_stop HX.out hE (by omega) HS.out); clear hE
    go_wp2_with (go_at_call 55; refine (vertex_any _ _ _).mono ?_; rintro e w' ⟨rfl, rfl⟩)
    go_ret
    exact ⟨ret_int (by rw [← HR.out, HE.out]), (HB.out.alloc (Nat.le_trans (by omega) hsz) _).alloc (by simp; omega) _⟩
   ·have HE := Lib.hid (edgesErr_stop HX.out hE (by omega) HS.out); clear hE
    go_wp2_with (go_at_call 55; refine (vertex_any _ _ _).mono ?_; rintro e w' ⟨rfl, rfl⟩)
    go_ret
    exact ⟨ret_int (by rw [← HR.out, HE.out]), (HB.out.alloc (Nat.le_trans (by omega) hsz) _).alloc (by simp; omega) _⟩
   ·have HE := Lib.hid (edgesErr_stop HX.out hE (by omega) HS.out); clear hE
    go_wp2_with (go_at_call 55; refine (vertex_any _ _ _).mono ?_; rintro e w' ⟨rfl, rfl⟩)
    go_ret
    exact ⟨ret_int (by rw [← HR.out, HE.out]), (HB.out.alloc (Nat.le_trans (by omega) hsz) _).alloc (by simp; omega) _⟩
   ·have HE := Lib.hid (edgesErr_stop HX.out hE (by omega) HS.out); clear hE
    go_wp2_with (go_at_call 55; refine (vertex_any _ _ _).mono ?_; rintro e w' ⟨rfl, rfl⟩)
    go_ret
    exact ⟨ret_int (by rw [← HR.out, HE.out]), (HB.out.alloc (Nat.le_trans (by omega) hsz) _).alloc (by simp; omega) _⟩
   ·have HE := Lib.hid (edgesErr_stop HX.out hE (by omega) HS.out); clear hE
    obtain ⟨q, hq⟩ : ∃ q, lexI la lb a b = q := ⟨_, rfl⟩
    rw [hq] at h6
    have HQ := Lib.hid hq
    clear hq
    go_wp2_with first
     | (go_at_call 55; refine (vertex_any _ _ _).mono ?_; rintro e w' ⟨rfl, rfl⟩)
     | (go_at_call 113; refine (pcompare_any _ _ _ _ _).mono ?_; rintro e w' ⟨rfl, hb'⟩; rw [HQ.out])
    go_ret
    exact ⟨ret_int (by rw [← HR.out, HE.out]), ((HB.out.alloc (Nat.le_trans (by omega) hsz) _).alloc (by simp; omega) _).trans (hb'.mono (by simp; omega))⟩
   ·have HE := Lib.hid (edgesErr_go HX.out hE HS.out); clear hE
    obtain ⟨q, hq⟩ : ∃ q, lexI la lb a b = q := ⟨_, rfl⟩
    rw [hq] at h6
    have h7 : ¬ 0 ≤ q := by omega
    have HQ := Lib.hid hq
    clear hq h6
    go_wp2_with first
     | (go_at_call 55; refine (vertex_any _ _ _).mono ?_; rintro e w' ⟨rfl, rfl⟩)
     | (go_at_call 113; refine (pcompare_any _ _ _ _ _).mono ?_; rintro e w' ⟨rfl, hb'⟩; rw [HQ.out]; have K1 := G1.next hb'; have K2 := G2.next hb'; have K3 := G3.next hb'; have k20 := K2.cell 0; have k21 := K2.cell 1; have k30 := K3.cell 0; have k31 := K3.cell 1; have l20 := K2.frozen 0; have l21 := K2.frozen 1; clear G1 G2 G3)
    have hbig : Below w.heap.size w w' := ((HB.out.alloc (Nat.le_trans (by omega) hsz) _).alloc (by simp; omega) _).trans (hb'.mono (by simp; omega))
    go_roundw
    case rel =>
     refine ⟨k + 1, by omega, by go_num, (hbig.setCell (by simp) _).setCell (by simp) _, (K1.far (by simp) _).far (by simp) _, ⟨a, b, by have := (K2.set_ 0 (.int .i64 a)).set_ 1 (.int .i64 b); simpa using this, ?_⟩, HE.out⟩
     rw [prevOf_succ, HX.out]
     exact ⟨fun y hy => by injection hy with hy; subst hy; exact ⟨rfl, rfl⟩, fun hy => by cases hy⟩
    case measure => simp [intOf]; omega
  ·go_wp2
   go_ret
   refine ⟨ret_int ?_, hbel⟩
   have e : edgesErr n none es = 0 := by rw [HS.out, List.drop_eq_nil_of_le (by omega)]; rfl
   rw [← HR.out, e]
def chipB (k : Int) : Bool := decide (-1048576 ≤ k) && decide (k ≤ 1048576)
theorem chipB_true {k : Int} : chipB k = true ↔ -1048576 ≤ k ∧ k ≤ 1048576 := by simp [chipB]
def divErr (c : List Int) (n : Int) : Int := if n < 1 ∨ 12 < n then 2 else if (c.length : Int) ≠ n then 8 else if c.all chipB then 0 else 2
theorem divErr_at {cs : List Int} {n : Int} {k : Nat} {x : Int} (hn : ¬ (n < 1 ∨ 12 < n)) (hl : (cs.length : Int) = n) (hx : cs[k]? = some x) (hb : chipB x = false) : divErr cs n = 2 := by
 have : cs.all chipB = false := by
  rw [Bool.eq_false_iff]; intro h; rw [List.all_eq_true] at h; rw [h x (List.mem_of_getElem? hx)] at hb; cases hb
 unfold divErr; rw [if_neg hn, if_neg (by omega), this]; rfl
theorem divErr_end {cs : List Int} {n : Int} (hn : ¬ (n < 1 ∨ 12 < n)) (hl : (cs.length : Int) = n) (h : (cs.take cs.length).all chipB = true) : divErr cs n = 0 := by
 rw [List.take_length] at h
 unfold divErr; rw [if_neg hn, if_neg (by omega), h]; rfl
theorem all_snoc {cs : List Int} {k : Nat} {x : Int} (hx : cs[k]? = some x) (h : (cs.take k).all chipB = true) (hb : chipB x = true) : (cs.take (k + 1)).all chipB = true := by
 rw [take_snoc hx, List.all_append, h]; simp [hb]
def rootErr (n : Int) (es : List E3) (q : Int) : Int := if checkG n es ≠ 0 then checkG n es else if connB n.toNat es = false then 13 else if vertB n q = false then 2 else 0
theorem root_cases (n : Int) (es : List E3) (q : Int) :
  (checkG n es ≠ 0 ∧ rootErr n es q = checkG n es) ∨ (checkG n es = 0 ∧ connB n.toNat es = false ∧ rootErr n es q = 13) ∨
  (checkG n es = 0 ∧ connB n.toNat es = true ∧ vertB n q = false ∧ rootErr n es q = 2) ∨ (checkG n es = 0 ∧ connB n.toNat es = true ∧ vertB n q = true ∧ rootErr n es q = 0) := by
 unfold rootErr
 by_cases h : checkG n es = 0
 ·cases h2 : connB n.toNat es
  ·simp [h]
  ·cases h3 : vertB n q <;> simp [h]
 ·simp [h]
def debtTo (cs : List Int) (q : Int) (k : Nat) : Bool := (List.range k).any fun v => decide ((v : Int) ≠ q) && decide (cs.getD v 0 < 0)
theorem debtTo_succ (cs : List Int) (q : Int) (k : Nat) : debtTo cs q (k + 1) = (debtTo cs q k || (decide ((k : Int) ≠ q) && decide (cs.getD k 0 < 0))) := by
 simp [debtTo, List.range_succ]
theorem debtTo_false {cs : List Int} {q : Int} {k : Nat} (h : debtTo cs q k = false) : ∀ v, v < k → (v : Int) ≠ q → 0 ≤ cs.getD v 0 := by
 intro v hv hq
 unfold debtTo at h
 rw [List.any_eq_false] at h
 have := h v (by simpa using hv)
 simp [hq] at this
 exact this
theorem debtTo_mono {cs : List Int} {q : Int} {j k : Nat} (h : j ≤ k) (hj : debtTo cs q j = true) : debtTo cs q k = true := by
 induction h with
 | refl => exact hj
 | step _ ih => rw [debtTo_succ, ih]; rfl
def confErr (n : Int) (es : List E3) (q : Int) (cs : List Int) : Int := if rootErr n es q ≠ 0 then rootErr n es q else if divErr cs n ≠ 0 then divErr cs n else if debtTo cs q cs.length then 2 else 0
def burnErr (n : Int) (es : List E3) (q : Int) (cs : List Int) : Int := if confErr n es q cs ≠ 0 then confErr n es q cs else if cs.getD q.toNat 0 ≠ 0 then 3 else 0
theorem conf_cases (n : Int) (es : List E3) (q : Int) (cs : List Int) :
  (rootErr n es q ≠ 0 ∧ confErr n es q cs = rootErr n es q) ∨ (rootErr n es q = 0 ∧ divErr cs n ≠ 0 ∧ confErr n es q cs = divErr cs n) ∨
  (rootErr n es q = 0 ∧ divErr cs n = 0 ∧ confErr n es q cs = if debtTo cs q cs.length then 2 else 0) := by
 unfold confErr
 by_cases h : rootErr n es q = 0
 ·by_cases h2 : divErr cs n = 0
  ·simp [h, h2]
  ·simp [h, h2]
 ·simp [h]
theorem divErr_zero {cs : List Int} {n : Int} (h : divErr cs n = 0) : 1 ≤ n ∧ n ≤ 12 ∧ (cs.length : Int) = n ∧ ∀ x ∈ cs, -1048576 ≤ x ∧ x ≤ 1048576 := by
 unfold divErr at h
 split at h
 ·omega
 ·split at h
  ·omega
  ·split at h
   ·rename_i h1 h2 h3
    refine ⟨by omega, by omega, by omega, fun x hx => ?_⟩
    rw [List.all_eq_true] at h3
    exact chipB_true.1 (h3 x hx)
   ·omega
theorem getD_at {cs : List Int} {k : Nat} {x : Int} (h : cs[k]? = some x) : cs.getD k 0 = x := by simp [List.getD_eq_getElem?_getD, h]
theorem burn_cases (n : Int) (es : List E3) (q : Int) (cs : List Int) :
  (confErr n es q cs ≠ 0 ∧ burnErr n es q cs = confErr n es q cs) ∨ (confErr n es q cs = 0 ∧ cs.getD q.toNat 0 ≠ 0 ∧ burnErr n es q cs = 3) ∨ (confErr n es q cs = 0 ∧ cs.getD q.toNat 0 = 0 ∧ burnErr n es q cs = 0) := by
 unfold burnErr
 by_cases h : confErr n es q cs = 0
 ·by_cases h2 : cs.getD q.toNat 0 = 0
  ·exact .inr (.inr ⟨h, h2, by rw [if_neg (fun hc => hc h), if_neg (fun hc => hc h2)]⟩)
  ·exact .inr (.inl ⟨h, h2, by rw [if_neg (fun hc => hc h), if_pos h2]⟩)
 ·exact .inl ⟨h, by rw [if_pos h]⟩
theorem conf_zero {n : Int} {es : List E3} {q : Int} {cs : List Int} (h : confErr n es q cs = 0) :
  RightG n es ∧ AllConn n.toNat es ∧ 0 ≤ q ∧ q < n ∧ (cs.length : Int) = n ∧ (∀ x ∈ cs, -1048576 ≤ x ∧ x ≤ 1048576) ∧ ∀ v : Nat, (v : Int) < n → (v : Int) ≠ q → 0 ≤ cs.getD v 0 := by
 rcases conf_cases n es q cs with ⟨h1, hE⟩ | ⟨h1, h2, hE⟩ | ⟨h1, h2, hE⟩
 ·exact absurd (hE ▸ h) h1
 ·exact absurd (hE ▸ h) h2
 ·obtain ⟨d1, d2, d3, d4⟩ := divErr_zero h2
  rcases root_cases n es q with ⟨k1, kE⟩ | ⟨k1, k2, kE⟩ | ⟨k1, k2, k3, kE⟩ | ⟨k1, k2, k3, kE⟩
  ·omega
  ·omega
  ·omega
  ·have hG := right_of k1
   have hq := vertB_true.1 k3
   obtain ⟨m, rfl⟩ := Int.eq_ofNat_of_zero_le (show 0 ≤ n by omega)
   refine ⟨hG, (connB_iff hG).1 k2, hq.1, hq.2, d3, d4, fun v hv hvq => ?_⟩
   cases hd : debtTo cs q cs.length
   ·exact debtTo_false hd v (by omega) hvq
   ·rw [hE, hd] at h; simp at h
theorem burn_zero {n : Int} {es : List E3} {q : Int} {cs : List Int} (h : burnErr n es q cs = 0) : confErr n es q cs = 0 ∧ cs.getD q.toNat 0 = 0 := by
 rcases burn_cases n es q cs with ⟨h1, hE⟩ | ⟨h1, h2, hE⟩ | ⟨h1, h2, hE⟩
 ·exact absurd (hE ▸ h) h1
 ·omega
 ·exact ⟨h1, h2⟩
theorem srt_eq {ys xs : List Int} (hp : ys.Perm xs) (hs : Srt ys (ys.length - 1) ys.length) : ys = sortG ltI xs := by
 refine (sortI_eq hp.symm ?_).symm
 rw [List.pairwise_iff_getElem]
 intro i j hi hj hij
 exact hs i j hij (by omega) (by omega) _ _ (List.getElem?_eq_getElem hi) (List.getElem?_eq_getElem hj)
end Go.Proofs.YtnbikkcalcpedaaGreatDoor
namespace Go.Proofs.YtnbikkcalcpedaaGreatDoor
section
variable {n : Nat} {E : List (Nat × Nat)} {t u S : List Nat} {e f : Nat}
def IAct (E : List (Nat × Nat)) (t : List Nat) (f : Nat) : Prop := ∀ i, i < E.length → Sep E t (E.getD i (0, 0)).1 (E.getD i (0, 0)).2 f → f ≤ i
def EAct (E : List (Nat × Nat)) (t : List Nat) (e : Nat) : Prop := ∀ f ∈ t, Sep E t (E.getD e (0, 0)).1 (E.getD e (0, 0)).2 f → e ≤ f
def InIv (E : List (Nat × Nat)) (S t : List Nat) : Prop := (∀ f ∈ t, f ∉ S → IAct E t f) ∧ ∀ e, e < E.length → e ∈ S → e ∉ t → EAct E t e
instance : Decidable (IAct E t f) := decidable_of_iff (∀ i ∈ List.range E.length, Sep E t (E.getD i (0, 0)).1 (E.getD i (0, 0)).2 f → f ≤ i) ⟨fun h i hi => h i (List.mem_range.2 hi), fun h i hi => h i (List.mem_range.1 hi)⟩
instance : Decidable (EAct E t e) := by unfold EAct; infer_instance
instance : Decidable (InIv E S t) := decidable_of_iff ((∀ f ∈ t, f ∉ S → IAct E t f) ∧ ∀ e ∈ List.range E.length, e ∈ S → e ∉ t → EAct E t e) ⟨fun h => ⟨h.1, fun e he => h.2 e (List.mem_range.2 he)⟩, fun h => ⟨h.1, fun e he => h.2 e (List.mem_range.1 he)⟩⟩
def ways (c : Nat → Bool → Bool) (e : Nat) : Nat := (if c e true = true then 1 else 0) + if c e false = true then 1 else 0
end
end Go.Proofs.YtnbikkcalcpedaaGreatDoor
namespace Go.Proofs.YtnbikkcalcpedaaGreatDoor
open Go.RowKit
theorem own_lenH {w : World} {base : Nat} {A : Option Addr} {c : Nat} {xs : List Int} {n : Nat} (h : OwnI w base A c xs) (hn : xs.length = n) : w.ownsRow base 3 1 (.slice A n c) n (ints xs) := by subst hn; exact h
theorem UpI.push {H : List Int} {x : Int} {n : Nat} (hl : H.length = n) (h : HeapN H n) : UpI (H ++ [x]) (n + 1) n := by subst hl; exact UpI.start h
theorem assert_int (x : Int) (w : World) : (Instr.typeAssert (.iface 3 (.int .i64 x)) 20 3 false).run Tryz.prog w = .ok (.int .i64 x) w := by kernel_rfl
theorem qpush_any (b o base : Nat) (T : TypeId) (hT : 3 ≠ T) (cs : Array Value) (A : Option Addr) (c : Nat) (H : List Int) (n : Nat) (hn : H.length = n) (hn1 : n ≤ 1000) (x : Int) (w : World) (hO : OwnI w base A c H) (hbase : base ≤ w.heap.size) (hblk : Blk w b T cs) (hcs : cs[o]? = some (.slice A n c)) :
  Calls Tryz.prog 380 #[.pointer (some ⟨b, o, none⟩), .iface 3 (.int .i64 x)] w fun e w' => e = .returned (.tuple #[]) ∧ ∃ A' c', OwnI w' base A' c' (H ++ [x]) ∧ Blk w' b T (cs.setIfInBounds o (.slice A' (n + 1) c')) ∧ Only (fun k => ofA A k ∨ k = b) w w' ∧ (∀ k, ofA A' k → ofA A k ∨ w.heap.size ≤ k) := by
 have kc := (hblk.cell o).trans hcs
 have hfz := hblk.frozen o
 have hown := own_lenH hO hn
 have hblt := hblk.lt
 have hnb : ∀ k, blockOf A k → k ≠ b := fun k hk => own_blk hown hblk hT hk
 go_enter Tryz.func380, Tryz.ntmps380
 go_wp2_with fail
 have hta := fun w => assert_int x w
 have hol := hown.alloc (.cells #[.int .i64 x] 3)
 have kc1 : (w.alloc (.cells #[.int .i64 x] 3)).cell? ⟨b, o, none⟩ = some (.slice A n c) := ((hblk.alloc _).cell o).trans hcs
 go_region_law (refine append_step2 rfl (.tmp 7) (.tmp 10) _ _ rfl base 3 3 Tryz.underlying240 Tryz.underlying240 info_int rfl (by omega) A c n (ints H) rfl ?_ (w.heap.size + 1) [.int .i64 x] rfl ?_ (by simp [Value.oneCell']) (by omega) ?_ ?_
                ·exact hol
                ·exact Reads.box w _ _
                ·exact Nat.le_trans hbase (by simp)
                intro A5 c5 w5 hown5 hg5 hb5 hd5
                have b5 : Blk w5 b T cs := (hg5.block b (by simp; omega) (fun e => hnb b (blockOf_own.1 e.symm) rfl)).trans (hblk.alloc _)
                have kc5 := (b5.cell o).trans hcs
                have fz5 := b5.frozen o)
 all_goals (
  have O5 : Hid (OwnI (w5.setCell ⟨b, o, none⟩ (.slice A5 (n + 1) c5)) base A5 c5 (H ++ [x])) := by
   have h6 : OwnI w5 base A5 c5 (H ++ [x]) := by unfold OwnI; rw [List.length_append, hn, ints_snoc]; exact hown5
   exact own_kept h6 fun k hk => Below.heap_setCell w5 ⟨b, o, none⟩ _ k (own_blk h6 b5 hT hk)
  have D5 : Hid (∀ k, ofA A5 k → ofA A k ∨ w.heap.size ≤ k) := by
   intro k hk
   have hk2 : (Value.slice A5 (n + 1) c5).ownBlock = some k := blockOf_own.2 hk
   rcases hd5 with hd5 | hd5
   ·rw [hd5] at hk2; exact .inl (blockOf_own.1 hk2)
   ·rw [hd5] at hk2; injection hk2 with hk2; subst hk2; exact .inr (by simp)
  have W5 : Hid (Only (fun k => ofA A k ∨ k = b) w (w5.setCell ⟨b, o, none⟩ (.slice A5 (n + 1) c5))) := by
   have hz : w.heap.size + 1 ≤ w5.heap.size := Nat.le_trans (by simp) hg5.size
   refine ⟨hg5.os, hg5.tape, hg5.output, ?_, fun k hk hC => ?_⟩
   ·show w.heap.size ≤ (w5.setCell ⟨b, o, none⟩ (.slice A5 (n + 1) c5)).heap.size
    simp only [World.setCell, Array.size_modify]; omega
   ·refine (Below.heap_setCell w5 ⟨b, o, none⟩ _ k (fun e => hC (.inr e))).trans ((hg5.block k (by simp; omega) (fun e => hC (.inl (blockOf_own.1 e.symm)))).trans ?_)
    exact Below.heap_alloc w _ k hk
  go_wp2
  exact bodyPost_end (results_none rfl _ _ _) rfl ⟨rfl, A5, c5, O5.out, b5.set_ o _, W5.out, D5.out⟩)
theorem Only.trans2 {C D : Nat → Prop} {w w1 w2 : World} (h1 : Only C w w1) (h2 : Only D w1 w2) (hD : ∀ k, k < w.heap.size → D k → C k) : Only C w w2 :=
 ⟨h2.os.trans h1.os, h2.tape.trans h1.tape, h2.output.trans h1.output, Nat.le_trans h1.size h2.size, fun k hk hC => (h2.block k (Nat.lt_of_lt_of_le hk h1.size) (fun hd => hC (hD k hk hd))).trans (h1.block k hk hC)⟩
theorem qlen_any (A : Option Addr) (n c : Nat) (w : World) : Calls Tryz.prog 326 #[.slice A n c] w fun e w' => e = .returned (.int .i64 n) ∧ w = w' := by
 go_enter Tryz.func326, Tryz.ntmps326
 go_wp2
 go_ret
 exact ⟨rfl, rfl⟩
theorem hpush_any (b o base : Nat) (T : TypeId) (hT : 3 ≠ T) (cs : Array Value) (hos : o < cs.size) (A : Option Addr) (c : Nat) (H : List Int) (n : Nat) (hn : H.length = n) (hn1 : n ≤ 900) (hH : HeapN H n) (x : Int) (w : World) (hO : OwnI w base A c H) (hbase : base ≤ w.heap.size) (hblk : Blk w b T cs) (hcs : cs[o]? = some (.slice A n c)) :
  Calls Tryz.prog 348 #[.iface 355 (.pointer (some ⟨b, o, none⟩)), .iface 3 (.int .i64 x)] w fun e w' => e = .returned (.tuple #[]) ∧ ∃ A' c' H', H'.length = n + 1 ∧ H'.Perm (x :: H) ∧ HeapN H' (n + 1) ∧ OwnI w' base A' c' H' ∧ Blk w' b T (cs.setIfInBounds o (.slice A' (n + 1) c')) ∧ Only (fun k => ofA A k ∨ k = b) w w' ∧ (∀ k, ofA A' k → ofA A k ∨ w.heap.size ≤ k) := by
 have mP : ∀ k, (method (k + 1) 355 (.pointer (some ⟨b, o, none⟩)) "Push").run Tryz.prog w = .ok (380, .pointer (some ⟨b, o, none⟩)) w := fun k => run_method_own ml_push Tryz.underlying355 k _ _
 have PC := Lib.hid (qpush_any b o base T hT cs A c H n hn (by omega) x w hO hbase hblk hcs)
 have HUP := Lib.hid (UpI.push (x := x) hn hH)
 have HL : Hid ((H ++ [x]).length = n + 1) := by rw [Hid, List.length_append, hn]; rfl
 have HPM : Hid ((H ++ [x]).Perm (x :: H)) := List.perm_append_comm
 have HBL := Lib.hid hblk.lt
 have HOS := Lib.hid hos
 clear hH hn hO hblk hcs
 go_enter Tryz.func348, Tryz.ntmps348
 go_wp2_with fail
 refine (PC.out).mono ?_
 rintro e w1 ⟨rfl, A1, c1, o1, b1, W1, D1⟩
 have hc1 : (cs.setIfInBounds o (.slice A1 (n + 1) c1))[o]? = some (.slice A1 (n + 1) c1) := by
  rw [Array.getElem?_setIfInBounds, if_pos rfl, if_pos HOS.out]
 have kc := (b1.cell o).trans hc1
 have hba : ¬ ofA A1 b := fun hk => own_blk (own_lenH o1 HL.out) b1 hT hk rfl
 have mN : ∀ k, (method (k + 1) 355 (.pointer (some ⟨b, o, none⟩)) "Len").run Tryz.prog w1 = .ok (326, .slice A1 (n + 1) c1) w1 := fun k => run_method_ptr ml_len Tryz.underlying355 ml_agg k _ _ _ kc
 have hw1 : IntKind.i64.wrap ((n : Int) + 1 - 1) = (n : Int) := by rw [IntWalk.i64_in _ (by omega)]; omega
 have hw2 : ((n : Int) + 1 - 1) = (n : Int) := by omega
 have UC := Lib.hid (up_any b o base T (cs.setIfInBounds o (.slice A1 (n + 1) c1)) A1 c1 (H ++ [x]) (n + 1) HL.out (by omega) n HUP.out w1 o1 b1 hc1 hba)
 have B1 := Lib.hid b1
 have D1 := Lib.hid D1
 have W1 := Lib.hid W1
 clear mP kc b1 hc1
 go_wp2_with fail
 refine (qlen_any _ _ _ _).mono ?_
 rintro e w9 ⟨rfl, rfl⟩
 go_wp2_with fail
 refine (UC.out).mono ?_
 rintro e w2 ⟨rfl, H2, l2, p2, h2, o2, W2⟩
 have HF : Hid (Blk w2 b T (cs.setIfInBounds o (.slice A1 (n + 1) c1)) ∧ Only (fun k => ofA A k ∨ k = b) w w2) := ⟨B1.out.only W2 hba, W1.out.trans2 W2 fun k hk hd => by
  rcases D1.out k hd with h | h
  ·exact .inl h
  ·omega⟩
 go_wp2
 exact bodyPost_end (results_none rfl _ _ _) rfl ⟨rfl, A1, c1, H2, l2, p2.trans HPM.out, h2, o2, HF.out.1, HF.out.2, D1.out⟩
theorem qpop_any (b o base : Nat) (T : TypeId) (hT : 3 ≠ T) (cs : Array Value) (A : Option Addr) (c : Nat) (H : List Int) (n : Nat) (hn : H.length = n + 1) (hn1 : n ≤ 1000) (w : World) (hO : OwnI w base A c H) (hblk : Blk w b T cs) (hcs : cs[o]? = some (.slice A (n + 1) c)) :
  Calls Tryz.prog 379 #[.pointer (some ⟨b, o, none⟩)] w fun e w' => e = .returned (.iface 3 (.int .i64 (hp H n))) ∧ OwnI w' base A c (H.take n) ∧ Blk w' b T (cs.setIfInBounds o (.slice A n c)) ∧ Only (fun k => k = b) w w' := by
 obtain ⟨g, hA, hg, hfr, hce⟩ := hO.block (by omega)
 subst hA
 have hcap := hO.cap
 have kc := (hblk.cell o).trans hcs
 have fz := hblk.frozen o
 have cn := hce n _ (hp_at (by omega))
 have hgb : g ≠ b := own_blk (own_lenH hO hn) hblk hT ⟨_, rfl, rfl⟩
 have hw1 : IntKind.i64.wrap (((n + 1 : Nat) : Int) - 1) = (n : Int) := by rw [IntWalk.i64_in _ (by omega)]; omega
 have hw2 : IntKind.i64.wrap ((n : Int) + 1 - 1) = (n : Int) := by rw [IntWalk.i64_in _ (by omega)]; omega
 have hn0 : (0 : Int) ≤ (n : Int) := by omega
 have hn2 : (n : Int) < (n : Int) + 1 := by omega
 have hn3 : (n : Int) ≤ (c : Int) := by omega
 have hc0 : ¬ c = 0 := by omega
 have HO := Lib.hid (hO.cut n (by omega))
 have HBK := Lib.hid hblk
 obtain ⟨y, hy⟩ : ∃ y, hp H n = y := ⟨_, rfl⟩
 rw [hy] at cn ⊢
 clear hfr hce hy hO hblk hcs hcap hn
 go_enter Tryz.func379, Tryz.ntmps379
 go_wp2
 go_ret
 exact ⟨rfl, own_kept HO.out fun k hk => Below.heap_setCell w ⟨b, o, none⟩ _ k (by obtain ⟨a, ha, hk⟩ := hk; injection ha with ha; subst ha; subst hk; exact hgb), HBK.out.set_ o _, Only.setCell (C := fun k => k = b) (Only.refl _ w) (p := ⟨b, o, none⟩) (.inl rfl) _⟩
theorem hpop_any (b o base : Nat) (T : TypeId) (hT : 3 ≠ T) (cs : Array Value) (A : Option Addr) (c : Nat) (H : List Int) (n : Nat) (hn : H.length = n + 1) (hn1 : n ≤ 900) (hH : HeapN H (n + 1)) (w : World) (hO : OwnI w base A c H) (hblk : Blk w b T cs) (hcs : cs[o]? = some (.slice A (n + 1) c)) :
  Calls Tryz.prog 327 #[.iface 355 (.pointer (some ⟨b, o, none⟩))] w fun e w' => ∃ (x : Int) (H' : List Int), e = .returned (.iface 3 (.int .i64 x)) ∧ H'.length = n ∧ (x :: H').Perm H ∧ (∀ y ∈ H, x ≤ y) ∧ HeapN H' n ∧ OwnI w' base A c H' ∧ Blk w' b T (cs.setIfInBounds o (.slice A n c)) ∧ Only (fun k => ofA A k ∨ k = b) w w' := by
 have kc := (hblk.cell o).trans hcs
 have hba : ¬ ofA A b := fun hk => own_blk (own_lenH hO hn) hblk hT hk rfl
 have hw1 : IntKind.i64.wrap (((n + 1 : Nat) : Int) - 1) = (n : Int) := by rw [IntWalk.i64_in _ (by omega)]; omega
 have hw2 : IntKind.i64.wrap ((n : Int) + 1 - 1) = (n : Int) := by rw [IntWalk.i64_in _ (by omega)]; omega
 have hw3 : (n : Int) + 1 - 1 = (n : Int) := by omega
 have SC := Lib.hid (qswap_any base A c H (n + 1) hn 0 n (by omega) (by omega) w hO)
 have mN : ∀ k, (method (k + 1) 355 (.pointer (some ⟨b, o, none⟩)) "Len").run Tryz.prog w = .ok (326, .slice A (n + 1) c) w := fun k => run_method_ptr ml_len Tryz.underlying355 ml_agg k _ _ _ kc
 have mS : ∀ k, (method (k + 1) 355 (.pointer (some ⟨b, o, none⟩)) "Swap").run Tryz.prog w = .ok (377, .slice A (n + 1) c) w := fun k => run_method_ptr ml_swap Tryz.underlying355 ml_agg k _ _ _ kc
 have HDN := Lib.hid (DnI.start hH hn)
 have HSL : Hid ((swp H 0 n).length = n + 1) := by rw [Hid, swp_length, hn]
 have HSP := Lib.hid (swp_perm (H := H) (i := 0) (j := n) (by omega) (by omega))
 have HSN : Hid (hp (swp H 0 n) n = hp H 0) := by rw [Hid, hp_swp (by omega) (by omega), if_pos rfl]
 have HMN : Hid (∀ y ∈ H, hp H 0 ≤ y) := fun y hy => by
  obtain ⟨k, hk⟩ := List.getElem?_of_mem hy
  have hkl := (List.getElem?_eq_some_iff.1 hk).1
  have h1 := heap_min hH k (by omega)
  rw [hp_at hkl] at hk
  injection hk with hk
  omega
 have HCS := Lib.hid hcs
 clear hH hn hO kc hcs
 go_enter Tryz.func327, Tryz.ntmps327
 go_wp2_with fail
 refine (qlen_any _ _ _ _).mono ?_
 rintro e w9 ⟨rfl, rfl⟩
 go_wp2_with fail
 refine (SC.out).mono ?_
 rintro e w1 ⟨rfl, o1, W1⟩
 have b1 := hblk.only W1 hba
 have DC := Lib.hid (down_any b o base T cs A c (swp H 0 n) (n + 1) n HSL.out (by omega) (by omega) HDN.out w1 o1 b1 HCS.out hba)
 have W1 := Lib.hid W1
 clear mN mS
 go_wp2_with fail
 refine (DC.out).mono ?_
 rintro e w2 ⟨bb, rfl, H2, l2, p2, h2, o2, W2, t2⟩
 have b2 := b1.only W2 hba
 have QC := Lib.hid (qpop_any b o base T hT cs A c H2 n l2 (by omega) w2 o2 b2 HCS.out)
 have mP : ∀ k, (method (k + 1) 355 (.pointer (some ⟨b, o, none⟩)) "Pop").run Tryz.prog w2 = .ok (379, .pointer (some ⟨b, o, none⟩)) w2 := fun k => run_method_own ml_pop Tryz.underlying355 k _ _
 have HX : Hid (hp H2 n = hp H 0) := (t2 n (Nat.le_refl _)).trans HSN.out
 have HPM : Hid ((hp H 0 :: H2.take n).Perm H) := by
  have e1 : H2 = H2.take n ++ [hp H2 n] := by
   have := List.take_append_drop n H2
   have hd : H2.drop n = [hp H2 n] := by
    rw [List.drop_eq_getElem_cons (by omega), List.drop_eq_nil_of_le (by omega)]
    unfold hp; rw [List.getD_eq_getElem?_getD, List.getElem?_eq_getElem (by omega)]; rfl
   rw [hd] at this; exact this.symm
  have h3 : (hp H2 n :: H2.take n).Perm H2 := by
   conv => rhs; rw [e1]
   exact (List.perm_append_singleton _ _).symm
  rw [HX.out] at h3
  exact h3.trans (p2.trans HSP.out)
 have HHP : Hid (HeapN (H2.take n) n) := heap_take h2 (by omega)
 have HTL : Hid ((H2.take n).length = n) := by rw [Hid, List.length_take]; omega
 have W2 := Lib.hid (W1.out.trans W2)
 clear l2 p2 h2 t2 o2
 go_wp2_with fail
 refine (QC.out).mono ?_
 rintro e w3 ⟨rfl, o3, b3, W3⟩
 have HW3 : Hid (Only (fun k => ofA A k ∨ k = b) w w3) := (W2.out.mono fun _ _ h => .inl h).trans2 W3 fun k _ hk => .inr hk
 go_wp2
 go_ret
 exact ⟨hp H 0, H2.take n, by rw [← HX.out]; rfl, HTL.out, HPM.out, HMN.out, HHP.out, o3, b3, HW3.out⟩
end Go.Proofs.YtnbikkcalcpedaaGreatDoor
