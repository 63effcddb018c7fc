/-
  Texts of this claim, put together: Graph2.
-/
import Derived.Test.YtnbikkcalcpedaaGreatDoorK13
/-! The error of a graph, as the reference finds it: ref08.Check. -/
namespace Go.Proofs.YtnbikkcalcpedaaGreatDoor
open Go.RowKit

set_option maxHeartbeats 400000 in
theorem rvertex_any (n v : Int) (A : Option Addr) (k c : Nat) (w : World) :
    Calls Tryz.prog 151 #[.agg #[.int .i64 n, .slice A k c], .int .i64 v] w fun e w' => e = .returned (.bool (vertB n v)) ∧ w.alloc (.cells #[.int .i64 n, .slice A k c] 24) = w' := by
  go_enter Tryz.func151, Tryz.ntmps151
  go_wp2
  all_goals (go_ret; exact ⟨by simp only [vertB]; simp [*]; try omega, rfl⟩)

/-- The cases of an edge's error, as the reference asks. -/
theorem redge_cases (n : Int) (p : Option E3) (e : E3) :
    (vertB n e.1 = false ∧ edgeErr n p e = 2) ∨ (vertB n e.1 = true ∧ vertB n e.2.1 = false ∧ edgeErr n p e = 2) ∨
    (vertB n e.1 = true ∧ vertB n e.2.1 = true ∧ e.2.2 < 1 ∧ edgeErr n p e = 2) ∨ (vertB n e.1 = true ∧ vertB n e.2.1 = true ∧ 50 < e.2.2 ∧ ¬ e.2.2 < 1 ∧ edgeErr n p e = 2) ∨
    (vertB n e.1 = true ∧ vertB n e.2.1 = true ∧ ¬ e.2.2 < 1 ∧ ¬ 50 < e.2.2 ∧ e.2.1 < e.1 ∧ edgeErr n p e = 9) ∨
    (vertB n e.1 = true ∧ vertB n e.2.1 = true ∧ ¬ e.2.2 < 1 ∧ ¬ 50 < e.2.2 ∧ ¬ e.2.1 < e.1 ∧ edgeErr n p e = match p with | none => 0 | some y => if e.1 < y.1 ∨ (e.1 = y.1 ∧ e.2.1 ≤ y.2.1) then 9 else 0) := by
  have v1 := vertB_true (n := n) (v := e.1)
  have v2 := vertB_true (n := n) (v := e.2.1)
  cases g1 : vertB n e.1
  · refine .inl ⟨rfl, ?_⟩
    rw [vertB_false] at g1
    unfold edgeErr; rw [if_pos (by omega)]
  rw [g1] at v1
  have v1 := v1.1 rfl
  cases g2 : vertB n e.2.1
  · refine .inr (.inl ⟨rfl, rfl, ?_⟩)
    rw [vertB_false] at g2
    unfold edgeErr; rw [if_pos (by omega)]
  rw [g2] at v2
  have v2 := v2.1 rfl
  by_cases h1 : e.2.2 < 1
  · refine .inr (.inr (.inl ⟨rfl, rfl, h1, ?_⟩))
    unfold edgeErr; rw [if_pos (by omega)]
  by_cases h2 : 50 < e.2.2
  · refine .inr (.inr (.inr (.inl ⟨rfl, rfl, h2, h1, ?_⟩)))
    unfold edgeErr; rw [if_pos (by omega)]
  by_cases h4 : e.2.1 < e.1
  · refine .inr (.inr (.inr (.inr (.inl ⟨rfl, rfl, h1, h2, h4, ?_⟩))))
    unfold edgeErr; rw [if_neg (by omega), if_pos h4]
  · refine .inr (.inr (.inr (.inr (.inr ⟨rfl, rfl, h1, h2, h4, ?_⟩))))
    unfold edgeErr; rw [if_neg (by omega), if_neg h4]; cases p <;> rfl

set_option maxRecDepth 100000 in
set_option maxHeartbeats 4000000 in
/-- ref08.edge -/
theorem redge_any (n : Int) (A : Option Addr) (c : Nat) (es : List E3) (hn : es.length ≤ 1048576) (k : Nat) (e : E3) (hx : es[k]? = some e) (w : World) (h : Reads w w.heap.size 3 A es.length (edgeCells es)) :
    Calls Tryz.prog 162 #[.agg #[.int .i64 n, .slice A es.length c], .int .i64 k] w fun e' w' => e' = .returned (.int .i64 (edgeErr n (prevOf es k) e)) ∧ Below w.heap.size w w' := by
  have hcs := redge_cases n (prevOf es k) e
  have hlt := (List.getElem?_eq_some_iff.1 hx).1
  obtain ⟨r, hr⟩ : ∃ r, edgeErr n (prevOf es k) e = r := ⟨_, rfl⟩
  rw [hr] at hcs ⊢
  have HR := Lib.hid hr
  clear hr
  obtain ⟨a, b, m⟩ := e
  obtain ⟨bb, off, rfl, hb, q1, q2, q3⟩ := h.edge hx
  have HX := Lib.hid hx
  have H := Lib.hid h
  have hi : (k : Int) < (es.length : Int) := by omega
  dsimp only at hcs q1 q2 q3
  clear hx h
  rcases hcs with ⟨v1, rfl⟩ | ⟨v1, v2, rfl⟩ | ⟨v1, v2, h3, rfl⟩ | ⟨v1, v2, h3, h4, rfl⟩ | ⟨v1, v2, h3, h4, h5, rfl⟩ | ⟨v1, v2, h3, h4, h5, hE⟩
  · go_enter Tryz.func162, Tryz.ntmps162
    go_wp2_with (go_at_call 151; refine (rvertex_any _ _ _ _ _ _).mono ?_; rintro e w' ⟨rfl, rfl⟩)
    go_ret
    refine ⟨rfl, ?_⟩
    repeat first | exact Below.refl _ _ | refine Below.alloc ?_ (by first | exact Nat.le_refl _ | (simp; done) | (simp; omega)) _
  · go_enter Tryz.func162, Tryz.ntmps162
    go_wp2_with (go_at_call 151; refine (rvertex_any _ _ _ _ _ _).mono ?_; rintro e w' ⟨rfl, rfl⟩)
    go_ret
    refine ⟨rfl, ?_⟩
    repeat first | exact Below.refl _ _ | refine Below.alloc ?_ (by first | exact Nat.le_refl _ | (simp; done) | (simp; omega)) _
  · go_enter Tryz.func162, Tryz.ntmps162
    go_wp2_with (go_at_call 151; refine (rvertex_any _ _ _ _ _ _).mono ?_; rintro e w' ⟨rfl, rfl⟩)
    go_ret
    refine ⟨rfl, ?_⟩
    repeat first | exact Below.refl _ _ | refine Below.alloc ?_ (by first | exact Nat.le_refl _ | (simp; done) | (simp; omega)) _
  · go_enter Tryz.func162, Tryz.ntmps162
    go_wp2_with (go_at_call 151; refine (rvertex_any _ _ _ _ _ _).mono ?_; rintro e w' ⟨rfl, rfl⟩)
    go_ret
    refine ⟨rfl, ?_⟩
    repeat first | exact Below.refl _ _ | refine Below.alloc ?_ (by first | exact Nat.le_refl _ | (simp; done) | (simp; omega)) _
  · go_enter Tryz.func162, Tryz.ntmps162
    go_wp2_with (go_at_call 151; refine (rvertex_any _ _ _ _ _ _).mono ?_; rintro e w' ⟨rfl, rfl⟩)
    go_ret
    refine ⟨rfl, ?_⟩
    repeat first | exact Below.refl _ _ | refine Below.alloc ?_ (by first | exact Nat.le_refl _ | (simp; done) | (simp; omega)) _
  · rcases k with _ | k
    · have hE' : r = 0 := by rw [hE]; simp [prevOf]
      subst hE'
      clear hE
      rw [show ((0 : Nat) : Int) = 0 from rfl] at hi ⊢
      simp only [Nat.zero_mul, Nat.add_zero] at q1 q2 q3
      go_enter Tryz.func162, Tryz.ntmps162
      go_wp2_with (go_at_call 151; refine (rvertex_any _ _ _ _ _ _).mono ?_; rintro e w' ⟨rfl, rfl⟩)
      go_ret
      refine ⟨rfl, ?_⟩
      repeat first | exact Below.refl _ _ | refine Below.alloc ?_ (by first | exact Nat.le_refl _ | (simp; done) | (simp; omega)) _
    · obtain ⟨⟨a1, b1, m1⟩, hy⟩ := get_of_lt (xs := es) (k := k) (by omega)
      obtain ⟨bb', off', hA', hb', p1, p2, p3⟩ := H.out.edge hy
      injection hA' with hA'; injection hA' with e1 e2; subst e1 e2
      have hE' : r = if a < a1 ∨ (a = a1 ∧ b ≤ b1) then 9 else 0 := by rw [hE, prevOf_succ, hy]
      rw [show ((k + 1 : Nat) : Int) = (k : Int) + 1 from by omega] at hi ⊢
      have hk1 : ((k : Int) + 1 - 1) = (k : Int) := by omega
      have hk2 : 0 < (k : Int) + 1 := by omega
      have hk3 : (k : Int) < (es.length : Int) := by omega
      have h6 : (a = a1 ↔ a = a1) := Iff.rfl
      clear hE hy H h6
      dsimp only at p1 p2 p3
      have hb4 : Below w.heap.size w ((((w.alloc (.cells #[.int .i64 n, .slice (some ⟨bb, off, none⟩) es.length c] 24)).alloc (.cells #[.int .i64 a, .int .i64 b, .int .i64 m] 107)).alloc (.cells #[.int .i64 n, .slice (some ⟨bb, off, none⟩) es.length c] 24)).alloc (.cells #[.int .i64 n, .slice (some ⟨bb, off, none⟩) es.length c] 24)) :=
        ((((Below.refl _ _).alloc (Nat.le_refl _) _).alloc (by simp) _).alloc (by simp; omega) _).alloc (by simp; omega) _
      have P1 := (hb4.cell (p := ⟨bb, off + k * 3, none⟩) hb').trans p1
      have P2 := (hb4.cell (p := ⟨bb, off + k * 3 + 1, none⟩) hb').trans p2
      have P3 := (hb4.cell (p := ⟨bb, off + k * 3 + 1 + 1, none⟩) hb').trans p3
      clear hb4
      by_cases g1 : a < a1
      · rw [if_pos (.inl g1)] at hE'
        subst hE'
        have hd1 : decide (a < a1) = true := decide_eq_true g1
        go_enter Tryz.func162, Tryz.ntmps162
        go_wp2_with (go_at_call 151; refine (rvertex_any _ _ _ _ _ _).mono ?_; rintro e w' ⟨rfl, rfl⟩)
        go_ret
        refine ⟨rfl, ?_⟩
        repeat first | exact Below.refl _ _ | refine Below.alloc ?_ (by first | exact Nat.le_refl _ | (simp; done) | (simp; omega)) _
      · have hd1 : decide (a < a1) = false := decide_eq_false g1
        by_cases g2 : a = a1
        · subst g2
          have hd2 : (a == a) = true := by simp
          by_cases g3 : b ≤ b1
          · rw [if_pos (.inr ⟨rfl, g3⟩)] at hE'
            subst hE'
            have hd3 : decide (b ≤ b1) = true := decide_eq_true g3
            go_enter Tryz.func162, Tryz.ntmps162
            go_wp2_with (go_at_call 151; refine (rvertex_any _ _ _ _ _ _).mono ?_; rintro e w' ⟨rfl, rfl⟩)
            go_ret
            refine ⟨rfl, ?_⟩
            repeat first | exact Below.refl _ _ | refine Below.alloc ?_ (by first | exact Nat.le_refl _ | (simp; done) | (simp; omega)) _
          · rw [if_neg (by omega)] at hE'
            subst hE'
            have hd3 : decide (b ≤ b1) = false := decide_eq_false g3
            go_enter Tryz.func162, Tryz.ntmps162
            go_wp2_with (go_at_call 151; refine (rvertex_any _ _ _ _ _ _).mono ?_; rintro e w' ⟨rfl, rfl⟩)
            go_ret
            refine ⟨rfl, ?_⟩
            repeat first | exact Below.refl _ _ | refine Below.alloc ?_ (by first | exact Nat.le_refl _ | (simp; done) | (simp; omega)) _
        · have hd2 : (a == a1) = false := by simpa using g2
          rw [if_neg (by omega)] at hE'
          subst hE'
          clear g2
          go_enter Tryz.func162, Tryz.ntmps162
          go_wp2_with (go_at_call 151; refine (rvertex_any _ _ _ _ _ _).mono ?_; rintro e w' ⟨rfl, rfl⟩)
          go_ret
          refine ⟨rfl, ?_⟩
          repeat first | exact Below.refl _ _ | refine Below.alloc ?_ (by first | exact Nat.le_refl _ | (simp; done) | (simp; omega)) _

set_option maxRecDepth 100000 in
set_option maxHeartbeats 2000000 in
/-- ref08.Check -/
theorem rgcheck_any (n : Int) (A : Option Addr) (c : Nat) (es : List E3) (hn : es.length ≤ 1048576) (w : World) (h : Reads w w.heap.size 3 A es.length (edgeCells es)) :
    Calls Tryz.prog 107 #[.agg #[.int .i64 n, .slice A es.length c]] w fun e w' => e = .returned (.int .i64 (checkG n es)) ∧ Below w.heap.size w w' := by
  by_cases h1 : n < 1
  · have hd : checkG n es = 2 := by unfold checkG; rw [if_pos (.inl h1)]
    rw [hd]
    go_enter Tryz.func107, Tryz.ntmps107
    go_wp2
    go_ret
    exact ⟨rfl, (Below.refl _ _).alloc (Nat.le_refl _) _⟩
  by_cases h2 : 12 < n
  · have hd : checkG n es = 2 := by unfold checkG; rw [if_pos (.inr h2)]
    rw [hd]
    go_enter Tryz.func107, Tryz.ntmps107
    go_wp2
    go_ret
    exact ⟨rfl, (Below.refl _ _).alloc (Nat.le_refl _) _⟩
  have hd : checkG n es = edgesErr n none es := by unfold checkG; rw [if_neg (by omega)]
  rw [hd]
  obtain ⟨r, hr⟩ : ∃ r, edgesErr n none es = r := ⟨_, rfl⟩
  rw [hr]
  have HR := Lib.hid hr
  clear hr hd
  go_enter Tryz.func107, Tryz.ntmps107
  go_wp2
  go_loopw [3] (fun i wr => ∃ k : Nat, k ≤ es.length ∧ i = .int .i64 k ∧ Below w.heap.size w wr ∧ Blk wr w.heap.size 24 #[.int .i64 n, .slice A es.length c] ∧ Hid (edgesErr n none es = edgesErr n (prevOf es k) (es.drop k))) (fun i _ => es.length - (intOf i).toNat)
  case atStart => exact ⟨0, by omega, rfl, (Below.refl _ _).alloc (Nat.le_refl _) _, Blk.new _ _ _, by simp [Hid, prevOf]⟩
  case round =>
    obtain ⟨k, hk, rfl, hbel, g1, HS⟩ := hrel
    have c0 := g1.cell 0
    have c1 := g1.cell 1
    have hsz := hbel.size
    by_cases hlt : k < es.length
    · obtain ⟨e, hx⟩ := get_of_lt hlt
      have hi : (k : Int) < (es.length : Int) := by omega
      have HE := Lib.hid (redge_any n A c es hn k e hx wr ((h.below hbel).more hsz))
      have HX := Lib.hid hx
      have HB := Lib.hid hbel
      clear hx h hbel
      by_cases h0 : edgeErr n (prevOf es k) e = 0
      · have HN := Lib.hid (edgesErr_go HX.out h0 HS.out)
        rw [h0] at HE
        clear h0
        go_wp2_with (go_at_call 162; refine (HE.out).mono ?_; rintro e' w' ⟨rfl, hb'⟩)
        go_roundw
        case rel => exact ⟨k + 1, by omega, by go_num, HB.out.trans (hb'.mono hsz), g1.next hb', HN.out⟩
        case measure => simp [intOf]; omega
      · have HN := Lib.hid (edgesErr_stop HX.out rfl h0 HS.out)
        obtain ⟨q, hq⟩ : ∃ q, edgeErr n (prevOf es k) e = q := ⟨_, rfl⟩
        rw [hq] at HE HN h0
        have hb0 : (q != 0) = true := by simpa using h0
        clear hq h0
        go_wp2_with (go_at_call 162; refine (HE.out).mono ?_; rintro e' w' ⟨rfl, hb'⟩)
        go_ret
        exact ⟨ret_int (by rw [← HR.out, HN.out]), HB.out.trans (hb'.mono hsz)⟩
    · go_wp2
      go_ret
      refine ⟨ret_int ?_, hbel⟩
      have e : edgesErr n none es = 0 := by rw [HS.out, List.drop_eq_nil_of_le (by omega)]; rfl
      rw [← HR.out, e]
end Go.Proofs.YtnbikkcalcpedaaGreatDoor

