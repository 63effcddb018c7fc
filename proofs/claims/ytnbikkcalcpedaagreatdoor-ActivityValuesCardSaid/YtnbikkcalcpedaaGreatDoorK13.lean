/-
  Texts of this claim, put together: Graph, Grid, Without, SrtI.
-/
import Derived.Test.YtnbikkcalcpedaaGreatDoorK10
import Derived.Test.YtnbikkcalcpedaaGreatDoorK02
import Derived.Deep.RegionWith
import Derived.StillTailTactics
import Derived.Outline
import Derived.Test.YtnbikkcalcpedaaGreatDoorK11
import Derived.Test.YtnbikkcalcpedaaGreatDoorK09
import Derived.Test.YtnbikkcalcpedaaGreatDoorK12
import Derived.Test.YtnbikkcalcpedaaGreatDoorK03
/-! The error of a graph: graph.Check and ref08.Check. -/
namespace Go.Proofs.YtnbikkcalcpedaaGreatDoor
open Go.RowKit

/-- A region whose operations but for a forced tail only read: the reads first, then the tail. -/
theorem region_tail {P : Program} {id : Nat} {Q : Exit → Act → World → Prop} {a : Act} {w : World} {l : List Oper} (n : Nat) (hm : P.follows .mixedOrders = true) (hB : Region.lexTailB .any l.toArray n = true)
    (h : wpStill P l.toArray w.drew (fun a' => wpList P l.toArray Q (l.drop n) a' w.drew) (l.take n) a) : (Code.region id l.toArray true).wp P Q a w := wp_region_still_tail n hm hB h

def vertB (n v : Int) : Bool := decide (0 ≤ v) && decide (v < n)
theorem vertB_true {n v : Int} : vertB n v = true ↔ 0 ≤ v ∧ v < n := by simp [vertB]
theorem vertB_false {n v : Int} : vertB n v = false ↔ ¬ (0 ≤ v ∧ v < n) := by rw [← vertB_true]; simp
set_option maxHeartbeats 400000 in
theorem vertex_any (n v : Int) (w : World) :
    Calls Tryz.prog 55 #[.int .i64 n, .int .i64 v] w fun e w' => e = .returned (.bool (vertB n v)) ∧ w = w' := by
  go_enter Tryz.func55, Tryz.ntmps55
  go_wp2
  all_goals (go_ret; exact ⟨by simp only [vertB]; simp [*]; try omega, rfl⟩)
/-- The order of two ints, and of two pairs. -/
def cmpI (x y : Int) : Int := if x < y then -1 else if y < x then 1 else 0
def orI (x y : Int) : Int := if x = 0 then y else x
def lexI (a b c d : Int) : Int := orI (cmpI a c) (cmpI b d)
theorem cmpI_zero {x y : Int} : cmpI x y = 0 ↔ x = y := by unfold cmpI; split <;> (try split) <;> omega
theorem cmpI_neg {x y : Int} : cmpI x y < 0 ↔ x < y := by unfold cmpI; split <;> (try split) <;> omega
theorem lexI_neg {a b c d : Int} : lexI a b c d < 0 ↔ a < c ∨ (a = c ∧ b < d) := by
  unfold lexI orI
  have h1 := cmpI_zero (x := a) (y := c)
  have h2 := cmpI_neg (x := a) (y := c)
  have h3 := cmpI_neg (x := b) (y := d)
  split <;> omega
set_option maxHeartbeats 400000 in
theorem compare_any (x y : Int) (w : World) :
    Calls Tryz.prog 62 #[.int .i64 x, .int .i64 y] w fun e w' => e = .returned (.int .i64 (cmpI x y)) ∧ w = w' := by
  have e1 : (x != x) = false := by simp
  have e2 : (y != y) = false := by simp
  rcases Int.lt_trichotomy x y with h | h | h
  · have hd : cmpI x y = -1 := by unfold cmpI; rw [if_pos h]
    rw [hd]
    go_enter Tryz.func62, Tryz.ntmps62
    go_wp2
    all_goals (go_ret; exact ⟨rfl, rfl⟩)
  · subst h
    have hd : cmpI x x = 0 := by unfold cmpI; simp
    rw [hd]
    go_enter Tryz.func62, Tryz.ntmps62
    go_wp2
    all_goals (go_ret; exact ⟨rfl, rfl⟩)
  · have h2 : ¬ x < y := by omega
    have hd : cmpI x y = 1 := by unfold cmpI; rw [if_neg h2, if_pos h]
    rw [hd]
    go_enter Tryz.func62, Tryz.ntmps62
    go_wp2
    all_goals (go_ret; exact ⟨rfl, rfl⟩)
set_option maxHeartbeats 400000 in
theorem or_any (g c : Nat) (x y : Int) (w : World) (c0 : w.cell? ⟨g, 0, none⟩ = some (.int .i64 x)) (c1 : w.cell? ⟨g, 1, none⟩ = some (.int .i64 y)) :
    Calls Tryz.prog 61 #[.slice (some ⟨g, 0, none⟩) 2 c] w fun e w' => e = .returned (.int .i64 (orI x y)) ∧ w = w' := by
  obtain ⟨r, hr⟩ : ∃ r, orI x y = r := ⟨_, rfl⟩
  rw [hr]
  unfold orI at hr
  have HR := Lib.hid hr
  clear hr
  go_enter Tryz.func61, Tryz.ntmps61
  go_wp2
  go_loop [8] (fun i => ∃ k : Nat, k ≤ 2 ∧ i = .int .i64 k ∧ (1 ≤ k → Hid (x = 0)) ∧ (2 ≤ k → Hid (y = 0))) (fun i => 2 - (intOf i).toNat)
  case atStart => exact ⟨0, by omega, rfl, fun h => by omega, fun h => by omega⟩
  case round =>
    obtain ⟨k, hk, rfl, H1, H2⟩ := hrel
    rcases (show k = 0 ∨ k = 1 ∨ k = 2 by omega) with rfl | rfl | rfl
    · by_cases hx : x = 0
      · subst hx
        go_wp2
        go_round
        case rel => exact ⟨1, by omega, by go_num, fun _ => by simp [Hid], fun h => by omega⟩
        case measure => simp [intOf]
      · have hb : (x != 0) = true := by simpa using hx
        rw [if_neg hx] at HR
        obtain rfl := HR.out
        clear hx HR
        go_wp2
        go_ret
        exact ⟨rfl, rfl⟩
    · obtain rfl := (H1 (by omega)).out
      have HR' : y = r := by have := HR.out; rwa [if_pos rfl] at this
      subst HR'
      clear HR H1 H2
      by_cases hx : y = 0
      · subst hx
        go_wp2
        go_round
        case rel => exact ⟨2, by omega, by go_num, fun _ => by simp [Hid], fun _ => by simp [Hid]⟩
        case measure => simp [intOf]
      · have hb : (y != 0) = true := by simpa using hx
        clear hx
        go_wp2
        go_ret
        exact ⟨rfl, rfl⟩
    · obtain rfl := (H1 (by omega)).out
      obtain rfl := (H2 (by omega)).out
      have HR' : 0 = r := by have := HR.out; simpa using this
      subst HR'
      clear HR H1 H2
      go_wp2
      go_ret
      exact ⟨rfl, rfl⟩
set_option maxRecDepth 100000 in
set_option maxHeartbeats 1000000 in
theorem pcompare_any (a b c d : Int) (w : World) :
    Calls Tryz.prog 113 #[.agg #[.int .i64 a, .int .i64 b], .agg #[.int .i64 c, .int .i64 d]] w fun e w' => e = .returned (.int .i64 (lexI a b c d)) ∧ Below w.heap.size w w' := by
  have HD : Hid (lexI a b c d = orI (cmpI a c) (cmpI b d)) := rfl
  have G := Blk.new ((w.alloc (.cells #[.int .i64 a, .int .i64 b] 152)).alloc (.cells #[.int .i64 c, .int .i64 d] 152)) 3 #[.int .i64 (cmpI a c), .int .i64 (cmpI b d)]
  rw [show ((w.alloc (.cells #[.int .i64 a, .int .i64 b] 152)).alloc (.cells #[.int .i64 c, .int .i64 d] 152)).heap.size = w.heap.size + 1 + 1 from by simp] at G
  have HC := Lib.hid (or_any (w.heap.size + 1 + 1) 2 (cmpI a c) (cmpI b d) _ (G.drew.cell 0) (G.drew.cell 1))
  clear G
  go_enter Tryz.func113, Tryz.ntmps113
  go_wp2
  refine region_tail 10 (by kernel_rfl) (by kernel_rfl) ?_
  simp only [List.take_succ_cons, List.take_zero, List.drop_succ_cons, List.drop_zero]
  repeat still_step
  still_call ((compare_any _ _ _).mono fun _ _ h => ⟨h.1, h.2.symm⟩)
  repeat still_step
  still_call ((compare_any _ _ _).mono fun _ _ h => ⟨h.1, h.2.symm⟩)
  refine wpStill_nil ?_
  go_wp2_with (go_at_call 61; refine (HC.out).mono ?_; rintro e w' ⟨rfl, rfl⟩)
  go_ret
  exact ⟨by rw [HD.out]; rfl, ((((Below.refl _ _).alloc (Nat.le_refl _) _).alloc (by simp) _).alloc (by simp; omega) _).drew⟩

/-- The cases of an edge's error. -/
theorem edge_cases (n : Int) (p : Option E3) (e : E3) (la lb : Int) (hl : ∀ y, p = some y → la = y.1 ∧ lb = y.2.1) (hn : p = none → la = -1 ∧ lb = -1) :
    (vertB n e.1 = false ∧ edgeErr n p e = 2) ∨ (vertB n e.1 = true ∧ vertB n e.2.1 = false ∧ edgeErr n p e = 2) ∨
    (vertB n e.1 = true ∧ vertB n e.2.1 = true ∧ e.2.2 < 1 ∧ edgeErr n p e = 2) ∨ (vertB n e.1 = true ∧ vertB n e.2.1 = true ∧ 50 < e.2.2 ∧ ¬ e.2.2 < 1 ∧ edgeErr n p e = 2) ∨
    (vertB n e.1 = true ∧ vertB n e.2.1 = true ∧ ¬ e.2.2 < 1 ∧ ¬ 50 < e.2.2 ∧ e.2.1 < e.1 ∧ edgeErr n p e = 9) ∨
    (vertB n e.1 = true ∧ vertB n e.2.1 = true ∧ ¬ e.2.2 < 1 ∧ ¬ 50 < e.2.2 ∧ ¬ e.2.1 < e.1 ∧ 0 ≤ lexI la lb e.1 e.2.1 ∧ edgeErr n p e = 9) ∨
    (vertB n e.1 = true ∧ vertB n e.2.1 = true ∧ ¬ e.2.2 < 1 ∧ ¬ 50 < e.2.2 ∧ ¬ e.2.1 < e.1 ∧ lexI la lb e.1 e.2.1 < 0 ∧ edgeErr n p e = 0) := by
  have h3 := lexI_neg (a := la) (b := lb) (c := e.1) (d := e.2.1)
  have v1 := vertB_true (n := n) (v := e.1)
  have v2 := vertB_true (n := n) (v := e.2.1)
  cases g1 : vertB n e.1
  · refine .inl ⟨rfl, ?_⟩
    rw [vertB_false] at g1
    unfold edgeErr; rw [if_pos (by omega)]
  rw [g1] at v1
  have v1 := v1.1 rfl
  cases g2 : vertB n e.2.1
  · refine .inr (.inl ⟨rfl, rfl, ?_⟩)
    rw [vertB_false] at g2
    unfold edgeErr; rw [if_pos (by omega)]
  rw [g2] at v2
  have v2 := v2.1 rfl
  by_cases h1 : e.2.2 < 1
  · refine .inr (.inr (.inl ⟨rfl, rfl, h1, ?_⟩))
    unfold edgeErr; rw [if_pos (by omega)]
  by_cases h2 : 50 < e.2.2
  · refine .inr (.inr (.inr (.inl ⟨rfl, rfl, h2, h1, ?_⟩)))
    unfold edgeErr; rw [if_pos (by omega)]
  by_cases h4 : e.2.1 < e.1
  · refine .inr (.inr (.inr (.inr (.inl ⟨rfl, rfl, h1, h2, h4, ?_⟩))))
    unfold edgeErr; rw [if_neg (by omega), if_pos h4]
  have hE : edgeErr n p e = if lexI la lb e.1 e.2.1 < 0 then 0 else 9 := by
    unfold edgeErr
    rw [if_neg (by omega), if_neg h4]
    rcases p with _ | y
    · obtain ⟨ha, hb⟩ := hn rfl
      rw [if_pos (by omega)]
    · obtain ⟨ha, hb⟩ := hl y rfl
      simp only
      split
      · rw [if_neg (by omega)]
      · rw [if_pos (by omega)]
  by_cases h5 : lexI la lb e.1 e.2.1 < 0
  · rw [if_pos h5] at hE
    exact .inr (.inr (.inr (.inr (.inr (.inr ⟨rfl, rfl, h1, h2, h4, h5, hE⟩)))))
  · rw [if_neg h5] at hE
    exact .inr (.inr (.inr (.inr (.inr (.inl ⟨rfl, rfl, h1, h2, h4, by omega, hE⟩)))))
theorem edgesErr_stop {n : Int} {es : List E3} {k : Nat} {e : E3} {r : Int} (h : es[k]? = some e) (hr : edgeErr n (prevOf es k) e = r) (hne : r ≠ 0) (hs : edgesErr n none es = edgesErr n (prevOf es k) (es.drop k)) : edgesErr n none es = r := by
  rw [hs, edgesErr_drop h, if_neg (by omega), hr]
theorem edgesErr_go {n : Int} {es : List E3} {k : Nat} {e : E3} (h : es[k]? = some e) (hr : edgeErr n (prevOf es k) e = 0) (hs : edgesErr n none es = edgesErr n (prevOf es k) (es.drop k)) : edgesErr n none es = edgesErr n (prevOf es (k + 1)) (es.drop (k + 1)) := by
  rw [hs, edgesErr_drop h, if_pos hr]

set_option maxRecDepth 100000 in
set_option maxHeartbeats 4000000 in
/-- graph.Check -/
theorem gcheck_any (n : Int) (A : Option Addr) (c : Nat) (es : List E3) (hn : es.length ≤ 1048576) (w : World) (h : Reads w w.heap.size 3 A es.length (edgeCells es)) :
    Calls Tryz.prog 54 #[.agg #[.int .i64 n, .slice A es.length c]] w fun e w' => e = .returned (.int .i64 (checkG n es)) ∧ Below w.heap.size w w' := by
  by_cases h1 : n < 1
  · have hd : checkG n es = 2 := by unfold checkG; rw [if_pos (.inl h1)]
    rw [hd]
    go_enter Tryz.func54, Tryz.ntmps54
    go_wp2
    go_ret
    exact ⟨rfl, (Below.refl _ _).alloc (Nat.le_refl _) _⟩
  by_cases h2 : 12 < n
  · have hd : checkG n es = 2 := by unfold checkG; rw [if_pos (.inr h2)]
    rw [hd]
    go_enter Tryz.func54, Tryz.ntmps54
    go_wp2
    go_ret
    exact ⟨rfl, (Below.refl _ _).alloc (Nat.le_refl _) _⟩
  have hd : checkG n es = edgesErr n none es := by unfold checkG; rw [if_neg (by omega)]
  rw [hd]
  obtain ⟨r, hr⟩ : ∃ r, edgesErr n none es = r := ⟨_, rfl⟩
  rw [hr]
  have HR := Lib.hid hr
  clear hr hd
  go_enter Tryz.func54, Tryz.ntmps54
  go_wp2
  go_loopw [19] (fun i wr => ∃ k : Nat, k ≤ es.length ∧ i = .int .i64 k ∧ Below w.heap.size w wr ∧ Blk wr w.heap.size 24 #[.int .i64 n, .slice A es.length c] ∧
    (∃ la lb : Int, Blk wr (w.heap.size + 1) 152 #[.int .i64 la, .int .i64 lb] ∧ Hid ((∀ y, prevOf es k = some y → la = y.1 ∧ lb = y.2.1) ∧ (prevOf es k = none → la = -1 ∧ lb = -1))) ∧ Hid (edgesErr n none es = edgesErr n (prevOf es k) (es.drop k))) (fun i _ => es.length - (intOf i).toNat)
  case atStart =>
    refine ⟨0, by omega, rfl, ((Below.refl _ _).alloc (Nat.le_refl _) _).alloc (by simp) _, (Blk.new _ _ _).alloc _, ⟨-1, -1, ?_, ⟨fun y hy => by simp [prevOf] at hy, fun _ => ⟨rfl, rfl⟩⟩⟩, by simp [Hid, prevOf]⟩
    have := Blk.new (w.alloc (.cells #[.int .i64 n, .slice A es.length c] 24)) 152 #[.int .i64 (-1), .int .i64 (-1)]
    simpa using this
  case round =>
    obtain ⟨k, hk, rfl, hbel, g1, ⟨la, lb, g2, HL⟩, HS⟩ := hrel
    have c0 := g1.cell 0
    have c1 := g1.cell 1
    have d0 := g2.cell 0
    have d1 := g2.cell 1
    have f0 := g2.frozen 0
    have f1 := g2.frozen 1
    have hsz := hbel.size
    by_cases hlt : k < es.length
    · obtain ⟨⟨a, b, m⟩, hx⟩ := get_of_lt hlt
      have hcs := edge_cases n (prevOf es k) (a, b, m) la lb HL.out.1 HL.out.2
      obtain ⟨bb, off, rfl, hb, q1, q2, q3⟩ := (h.below hbel).edge hx
      have hi : (k : Int) < (es.length : Int) := by omega
      have HX := Lib.hid hx
      have HB := Lib.hid hbel
      dsimp only at hcs q1 q2 q3
      clear hx h hbel HL
      have G1 := (g1.alloc (.cells #[.int .i64 a, .int .i64 b, .int .i64 m] 107)).alloc (.cells #[.int .i64 a, .int .i64 b] 152)
      have G2 := (g2.alloc (.cells #[.int .i64 a, .int .i64 b, .int .i64 m] 107)).alloc (.cells #[.int .i64 a, .int .i64 b] 152)
      have G3 := Blk.new (wr.alloc (.cells #[.int .i64 a, .int .i64 b, .int .i64 m] 107)) 152 #[.int .i64 a, .int .i64 b]
      rw [show (wr.alloc (.cells #[.int .i64 a, .int .i64 b, .int .i64 m] 107)).heap.size = wr.heap.size + 1 from by simp] at G3
      have hs1 : w.heap.size < wr.heap.size := g1.lt
      have hs2 : w.heap.size + 1 < wr.heap.size := by have := g2.lt; omega
      have C0 := G1.cell 0
      have D0 := G2.cell 0
      have D1 := G2.cell 1
      have F0 := G2.frozen 0
      have F1 := G2.frozen 1
      rcases hcs with ⟨v1, hE⟩ | ⟨v1, v2, hE⟩ | ⟨v1, v2, h3, hE⟩ | ⟨v1, v2, h3, h4, hE⟩ | ⟨v1, v2, h3, h4, h5, hE⟩ | ⟨v1, v2, h3, h4, h5, h6, hE⟩ | ⟨v1, v2, h3, h4, h5, h6, hE⟩
      · have HE := Lib.hid (edgesErr_stop HX.out hE (by omega) HS.out); clear hE
        go_wp2_with (go_at_call 55; refine (vertex_any _ _ _).mono ?_; rintro e w' ⟨rfl, rfl⟩)
        go_ret
        exact ⟨ret_int (by rw [← HR.out, HE.out]), (HB.out.alloc (Nat.le_trans (by omega) hsz) _).alloc (by simp; omega) _⟩
      · have HE := Lib.hid (edgesErr_stop HX.out hE (by omega) HS.out); clear hE
        go_wp2_with (go_at_call 55; refine (vertex_any _ _ _).mono ?_; rintro e w' ⟨rfl, rfl⟩)
        go_ret
        exact ⟨ret_int (by rw [← HR.out, HE.out]), (HB.out.alloc (Nat.le_trans (by omega) hsz) _).alloc (by simp; omega) _⟩
      · have HE := Lib.hid (edgesErr_stop HX.out hE (by omega) HS.out); clear hE
        go_wp2_with (go_at_call 55; refine (vertex_any _ _ _).mono ?_; rintro e w' ⟨rfl, rfl⟩)
        go_ret
        exact ⟨ret_int (by rw [← HR.out, HE.out]), (HB.out.alloc (Nat.le_trans (by omega) hsz) _).alloc (by simp; omega) _⟩
      · have HE := Lib.hid (edgesErr_stop HX.out hE (by omega) HS.out); clear hE
        go_wp2_with (go_at_call 55; refine (vertex_any _ _ _).mono ?_; rintro e w' ⟨rfl, rfl⟩)
        go_ret
        exact ⟨ret_int (by rw [← HR.out, HE.out]), (HB.out.alloc (Nat.le_trans (by omega) hsz) _).alloc (by simp; omega) _⟩
      · have HE := Lib.hid (edgesErr_stop HX.out hE (by omega) HS.out); clear hE
        go_wp2_with (go_at_call 55; refine (vertex_any _ _ _).mono ?_; rintro e w' ⟨rfl, rfl⟩)
        go_ret
        exact ⟨ret_int (by rw [← HR.out, HE.out]), (HB.out.alloc (Nat.le_trans (by omega) hsz) _).alloc (by simp; omega) _⟩
      · have HE := Lib.hid (edgesErr_stop HX.out hE (by omega) HS.out); clear hE
        obtain ⟨q, hq⟩ : ∃ q, lexI la lb a b = q := ⟨_, rfl⟩
        rw [hq] at h6
        have HQ := Lib.hid hq
        clear hq
        go_wp2_with first
          | (go_at_call 55; refine (vertex_any _ _ _).mono ?_; rintro e w' ⟨rfl, rfl⟩)
          | (go_at_call 113; refine (pcompare_any _ _ _ _ _).mono ?_; rintro e w' ⟨rfl, hb'⟩; rw [HQ.out])
        go_ret
        exact ⟨ret_int (by rw [← HR.out, HE.out]), ((HB.out.alloc (Nat.le_trans (by omega) hsz) _).alloc (by simp; omega) _).trans (hb'.mono (by simp; omega))⟩
      · have HE := Lib.hid (edgesErr_go HX.out hE HS.out); clear hE
        obtain ⟨q, hq⟩ : ∃ q, lexI la lb a b = q := ⟨_, rfl⟩
        rw [hq] at h6
        have h7 : ¬ 0 ≤ q := by omega
        have HQ := Lib.hid hq
        clear hq h6
        go_wp2_with first
          | (go_at_call 55; refine (vertex_any _ _ _).mono ?_; rintro e w' ⟨rfl, rfl⟩)
          | (go_at_call 113; refine (pcompare_any _ _ _ _ _).mono ?_; rintro e w' ⟨rfl, hb'⟩; rw [HQ.out]; have K1 := G1.next hb'; have K2 := G2.next hb'; have K3 := G3.next hb'; have k20 := K2.cell 0; have k21 := K2.cell 1; have k30 := K3.cell 0; have k31 := K3.cell 1; have l20 := K2.frozen 0; have l21 := K2.frozen 1; clear G1 G2 G3)
        have hbig : Below w.heap.size w w' := ((HB.out.alloc (Nat.le_trans (by omega) hsz) _).alloc (by simp; omega) _).trans (hb'.mono (by simp; omega))
        go_roundw
        case rel =>
          refine ⟨k + 1, by omega, by go_num, (hbig.setCell (by simp) _).setCell (by simp) _, (K1.far (by simp) _).far (by simp) _, ⟨a, b, by have := (K2.set_ 0 (.int .i64 a)).set_ 1 (.int .i64 b); simpa using this, ?_⟩, HE.out⟩
          rw [prevOf_succ, HX.out]
          exact ⟨fun y hy => by injection hy with hy; subst hy; exact ⟨rfl, rfl⟩, fun hy => by cases hy⟩
        case measure => simp [intOf]; omega
    · go_wp2
      go_ret
      refine ⟨ret_int ?_, hbel⟩
      have e : edgesErr n none es = 0 := by rw [HS.out, List.drop_eq_nil_of_le (by omega)]; rfl
      rw [← HR.out, e]

end Go.Proofs.YtnbikkcalcpedaaGreatDoor

/-! The errors of divisors, sinks and configurations, as functions. -/
namespace Go.Proofs.YtnbikkcalcpedaaGreatDoor
open Go.RowKit

end Go.Proofs.YtnbikkcalcpedaaGreatDoor

/-! ref08.Table. -/
namespace Go.Proofs.YtnbikkcalcpedaaGreatDoor
open Go.RowKit

set_option maxHeartbeats 800000 in
theorem table_any (n : Nat) (hn : n ≤ 1000) (w : World) :
    Calls Tryz.prog 190 #[.int .i64 n] w fun e w' =>
      ∃ A c gs, e = .returned (.slice A n c) ∧ Hid (gs.length = n) ∧ Grid w' w.heap.size A c n gs (List.replicate n (List.replicate n 0)) ∧ Below w.heap.size w w' := by
  have hmk := make_ints n (by omega)
  go_enter Tryz.func190, Tryz.ntmps190
  go_wp2
  go_loopw [3, 4] (fun v i wr => ∃ (k : Nat) (A' : Option Addr) (c' : Nat) (gs : List Nat), k ≤ n ∧ i = .int .i64 k ∧ v = .slice A' k c' ∧ Hid (gs.length = k) ∧ Grid wr w.heap.size A' c' n gs (List.replicate k (List.replicate n 0)) ∧ Below w.heap.size w wr) (fun _ i _ => n - (intOf i).toNat)
  case atStart => exact ⟨0, none, 0, [], by omega, rfl, rfl, by simp [Hid], Grid.nil_ _ _ _, Below.refl _ _⟩
  case round =>
    obtain ⟨k, A', c', gs, hk, rfl, rfl, HL, hown, hbel⟩ := hrel
    by_cases hlt : k < n
    · have hi : (k : Int) < (n : Int) := by omega
      have hz := hbel.size
      have hbx : w.heap.size ≤ ((wr.alloc (.cells (ints (List.replicate n 0)).toArray 3)).alloc (.cells #[.slice (some ⟨wr.heap.size, 0, none⟩) n n] 25)).heap.size := by simp; omega
      have hown2 : ((wr.alloc (.cells (ints (List.replicate n 0)).toArray 3)).alloc (.cells #[.slice (some ⟨wr.heap.size, 0, none⟩) n n] 25)).ownsRow w.heap.size 25 1 (.slice A' k c') k (gs.map fun g => .slice (some ⟨g, 0, none⟩) n n) := by
        have := HL.out; subst this; exact (World.ownsRow.alloc (World.ownsRow.alloc hown.outer _) _)
      have hbox : Reads ((wr.alloc (.cells (ints (List.replicate n 0)).toArray 3)).alloc (.cells #[.slice (some ⟨wr.heap.size, 0, none⟩) n n] 25)) (wr.heap.size + 1 + 1) 1 (some ⟨wr.heap.size + 1, 0, none⟩) 1 [.slice (some ⟨wr.heap.size, 0, none⟩) n n] := by
        have := Reads.box (wr.alloc (.cells (ints (List.replicate n 0)).toArray 3)) (.slice (some ⟨wr.heap.size, 0, none⟩) n n) 25
        simpa using this
      go_wp2_with (at_builtin; refine append_go rfl (.tmp 10) (.tmp 13) _ rfl w.heap.size 25 Tryz.underlying82 info_row rfl (by omega) A' c' k (gs.map fun g => .slice (some ⟨g, 0, none⟩) n n) rfl hown2 _ [.slice (some ⟨wr.heap.size, 0, none⟩) n n] rfl hbox (by simp [Value.oneCell']) (by omega) hbx ?_; intro A2 c2 w2 hown3 hg2 hb2 _)
      have gB : Below w.heap.size w w2 := hbel.trans ((((Below.refl _ _).alloc hz _).alloc (by simp; omega) _).trans hb2)
      have hgw : Grid ((wr.alloc (.cells (ints (List.replicate n 0)).toArray 3)).alloc (.cells #[.slice (some ⟨wr.heap.size, 0, none⟩) n n] 25)) w.heap.size A' c' n gs (List.replicate k (List.replicate n 0)) :=
        hown.next (((Below.refl _ _).alloc (Nat.le_refl _) _).alloc (by simp) _)
      have hnb := (Blk.new wr 3 (ints (List.replicate n 0)).toArray).alloc (.cells #[.slice (some ⟨wr.heap.size, 0, none⟩) n n] 25)
      have hpush : Grid w2 w.heap.size A2 c2 n (gs ++ [wr.heap.size]) (List.replicate k (List.replicate n 0) ++ [List.replicate n 0]) := by
        have hL := HL.out
        subst hL
        exact hgw.push hnb (by simp) hz (fun g' hg' => by obtain ⟨cs, hc, _⟩ := hown.blk hg'; exact Nat.ne_of_lt hc.lt) hown3 hg2
      go_roundw
      case rel => exact ⟨k + 1, A2, c2, gs ++ [wr.heap.size], by omega, by go_num, rfl, by simp [Hid, HL.out], by rw [List.replicate_succ']; exact hpush, gB⟩
      case measure => simp [intOf]; omega
    · have hi : ¬ (k : Int) < (n : Int) := by omega
      obtain rfl : k = n := by omega
      go_wp2
      go_ret
      exact ⟨A', c', rfl, gs, HL, hown, hbel⟩
end Go.Proofs.YtnbikkcalcpedaaGreatDoor

/-! Package tree: without. -/
namespace Go.Proofs.YtnbikkcalcpedaaGreatDoor
open Go.RowKit

set_option maxHeartbeats 1000000 in
theorem eqto_any (g : Nat) (e x : Int) (W : World) (hc : W.cell? ⟨g, 0, none⟩ = some (.int .i64 e)) :
    Calls Tryz.prog 187 #[.int .i64 x, .pointer (some ⟨g, 0, none⟩)] W fun en w' => en = .returned (.bool (decide (x = e))) ∧ ∃ m, w' = W.drewN m := by
  go_enter Tryz.func187, Tryz.ntmps187
  go_wp2
  all_goals (go_ret; exact ⟨rfl, 0, rfl⟩)

set_option maxHeartbeats 1000000 in
theorem withint_any (A : Option Addr) (c : Nat) (xs : List Int) (e : Int) (hn : xs.length ≤ 1048000) (w : World) (h : Reads w w.heap.size 1 A xs.length (ints xs)) :
    Calls Tryz.prog 130 #[.slice A xs.length c, .int .i64 e] w fun en w' => ∃ A' c', en = .returned (.slice A' (xs.filter fun x => !decide (x = e)).length c') ∧ OwnI w' w.heap.size A' c' (xs.filter fun x => !decide (x = e)) ∧ Below w.heap.size w w' := by
  have eg := enters_of (P := Tryz.prog) Tryz.func187 (by kernel_rfl) rfl
  obtain ⟨W0, hW0⟩ : ∃ W0, w.alloc (.cells #[.int .i64 e] 3) = W0 := ⟨_, rfl⟩
  have hc0 : W0.cell? ⟨w.heap.size, 0, none⟩ = some (.int .i64 e) := by rw [← hW0]; simp
  have hs0 : W0.heap.size = w.heap.size + 1 := by rw [← hW0]; simp
  have hb0 : Below w.heap.size w W0 := by rw [← hW0]; exact (Below.refl _ _).alloc (Nat.le_refl _) _
  have CC := Lib.hid (clone_any A c xs hn W0 ((h.below hb0).more hb0.size))
  have DD : Hid (∀ (A' : Option Addr) (c' : Nat) (w1 : World), OwnI w1 W0.heap.size A' c' xs → Below W0.heap.size W0 w1 → Calls Tryz.prog 186 #[.slice A' xs.length c', .func (.func 187) #[] #[.pointer (some ⟨w.heap.size, 0, none⟩)]] w1 fun en w' => ∃ A' c', en = .returned (.slice A' (xs.filter fun x => !decide (x = e)).length c') ∧ OwnI w' W0.heap.size A' c' (xs.filter fun x => !decide (x = e)) ∧ Below W0.heap.size w1 w') := by
    intro A' c' w1 h1 h2
    refine delf_any 187 _ eg (fun x => decide (x = e)) A' c' xs (by omega) W0.heap.size w1 h1 (fun x _ W hW => eqto_any w.heap.size e x W ?_)
    exact ((h2.trans hW).cell (p := ⟨w.heap.size, 0, none⟩) (by show w.heap.size < W0.heap.size; omega)).trans hc0
  obtain ⟨fs, hfs⟩ : ∃ fs, (xs.filter fun x => !decide (x = e)) = fs := ⟨_, rfl⟩
  rw [hfs] at DD ⊢
  have HS := Lib.hid hs0
  have HB := Lib.hid hb0
  have HW := Lib.hid hW0
  clear hfs hc0 hs0 hb0 hW0 eg h
  go_enter Tryz.func130, Tryz.ntmps130
  go_wp2_with fail
  rw [HW.out]
  refine (CC.out).mono ?_
  rintro en w1 ⟨A', c', rfl, o1, b1⟩
  have D1 := Lib.hid (DD.out A' c' w1 o1 b1)
  have B1 := Lib.hid b1
  clear o1 b1
  go_wp2_with fail
  refine (D1.out).mono ?_
  rintro en w2 ⟨A2, c2, rfl, o2, b2⟩
  have O2 := Lib.hid o2
  have B2 := Lib.hid b2
  clear o2 b2
  go_wp2
  go_ret
  have hle : w.heap.size ≤ W0.heap.size := by rw [HS.out]; omega
  exact ⟨A2, c2, rfl, O2.out.mono hle, HB.out.trans ((B1.out.trans B2.out).mono hle)⟩

theorem nI_less (t : List Nat) (e : Nat) : ((nI t).filter fun x => !decide (x = (e : Int))) = nI (lessL t e) := by
  unfold nI lessL
  rw [List.filter_map]
  congr 1
  apply List.filter_congr
  intro x _
  simp only [Function.comp]
  rw [show decide ((x : Int) = (e : Int)) = decide (x = e) from by rw [decide_eq_decide]; omega]
theorem twithout_any (A : Option Addr) (c : Nat) (t : List Nat) (e : Nat) (hn : (nI t).length ≤ 1048000) (w : World) (h : Reads w w.heap.size 1 A (nI t).length (ints (nI t))) :
    Calls Tryz.prog 130 #[.slice A (nI t).length c, .int .i64 (e : Int)] w fun en w' => ∃ A' c', en = .returned (.slice A' (nI (lessL t e)).length c') ∧ OwnI w' w.heap.size A' c' (nI (lessL t e)) ∧ Below w.heap.size w w' := by
  have := withint_any A c (nI t) (e : Int) hn w h
  rw [nI_less] at this
  exact this
end Go.Proofs.YtnbikkcalcpedaaGreatDoor

/-! slices.Sort in the words of sortG. -/
namespace Go.Proofs.YtnbikkcalcpedaaGreatDoor
open Go.RowKit

theorem srt_eq {ys xs : List Int} (hp : ys.Perm xs) (hs : Srt ys (ys.length - 1) ys.length) : ys = sortG ltI xs := by
  refine (sortI_eq hp.symm ?_).symm
  rw [List.pairwise_iff_getElem]
  intro i j hi hj hij
  exact hs i j hij (by omega) (by omega) _ _ (List.getElem?_eq_getElem hi) (List.getElem?_eq_getElem hj)
theorem sortx_any (A : Option Addr) (c : Nat) (xs : List Int) (h1 : 1 ≤ xs.length) (hn : xs.length ≤ 12) (w : World) (base : Nat) (h : OwnI w base A c xs) :
    Calls Tryz.prog 135 #[.slice A xs.length c] w fun e w' => e = .returned (.tuple #[]) ∧ OwnI w' base A c (sortG ltI xs) ∧ Below base w w' := by
  refine (sort_any A c xs h1 hn w base h).mono ?_
  rintro e w' ⟨rfl, ys, h1, h2, h3, h4⟩
  rw [srt_eq h1 h2] at h3
  exact ⟨rfl, h3, h4⟩
end Go.Proofs.YtnbikkcalcpedaaGreatDoor

