/-
  Texts of this claim, put together: Graph2, RChips, PushE, RBel, RankP, Make, Lits.
-/
import Derived.Test.YtplgbapbgcipdaaGreatK15
import Derived.Test.YtplgbapbgcipdaaGreatK09
import Derived.Test.YtplgbapbgcipdaaGreatK12
import Derived.Test.YtplgbapbgcipdaaGreatK14
import Derived.Test.YtplgbapbgcipdaaGreatK11
import Derived.Test.YtplgbapbgcipdaaGreatK10
import Derived.Test.YtplgbapbgcipdaaGreatK05
/-! The error of a graph, as the reference finds it: ref08.Check. -/
namespace Go.Proofs.YtplgbapbgcipdaaGreat
open Go.RowKit

set_option maxHeartbeats 400000 in
theorem rvertex_any (n v : Int) (A : Option Addr) (k c : Nat) (w : World) :
    Calls Tryz.prog 39 #[.agg #[.int .i64 n, .slice A k c], .int .i64 v] w fun e w' => e = .returned (.bool (vertB n v)) ∧ w.alloc (.cells #[.int .i64 n, .slice A k c] 24) = w' := by
  go_enter Tryz.func39, Tryz.ntmps39
  go_wp2
  all_goals (go_ret; exact ⟨by simp only [vertB]; simp [*]; try omega, rfl⟩)

/-- The cases of an edge's error, as the reference asks. -/
theorem redge_cases (n : Int) (p : Option E3) (e : E3) :
    (vertB n e.1 = false ∧ edgeErr n p e = 2) ∨ (vertB n e.1 = true ∧ vertB n e.2.1 = false ∧ edgeErr n p e = 2) ∨
    (vertB n e.1 = true ∧ vertB n e.2.1 = true ∧ e.2.2 < 1 ∧ edgeErr n p e = 2) ∨ (vertB n e.1 = true ∧ vertB n e.2.1 = true ∧ 50 < e.2.2 ∧ ¬ e.2.2 < 1 ∧ edgeErr n p e = 2) ∨
    (vertB n e.1 = true ∧ vertB n e.2.1 = true ∧ ¬ e.2.2 < 1 ∧ ¬ 50 < e.2.2 ∧ e.2.1 < e.1 ∧ edgeErr n p e = 9) ∨
    (vertB n e.1 = true ∧ vertB n e.2.1 = true ∧ ¬ e.2.2 < 1 ∧ ¬ 50 < e.2.2 ∧ ¬ e.2.1 < e.1 ∧ edgeErr n p e = match p with | none => 0 | some y => if e.1 < y.1 ∨ (e.1 = y.1 ∧ e.2.1 ≤ y.2.1) then 9 else 0) := by
  have v1 := vertB_true (n := n) (v := e.1)
  have v2 := vertB_true (n := n) (v := e.2.1)
  cases g1 : vertB n e.1
  · refine .inl ⟨rfl, ?_⟩
    rw [vertB_false] at g1
    unfold edgeErr; rw [if_pos (by omega)]
  rw [g1] at v1
  have v1 := v1.1 rfl
  cases g2 : vertB n e.2.1
  · refine .inr (.inl ⟨rfl, rfl, ?_⟩)
    rw [vertB_false] at g2
    unfold edgeErr; rw [if_pos (by omega)]
  rw [g2] at v2
  have v2 := v2.1 rfl
  by_cases h1 : e.2.2 < 1
  · refine .inr (.inr (.inl ⟨rfl, rfl, h1, ?_⟩))
    unfold edgeErr; rw [if_pos (by omega)]
  by_cases h2 : 50 < e.2.2
  · refine .inr (.inr (.inr (.inl ⟨rfl, rfl, h2, h1, ?_⟩)))
    unfold edgeErr; rw [if_pos (by omega)]
  by_cases h4 : e.2.1 < e.1
  · refine .inr (.inr (.inr (.inr (.inl ⟨rfl, rfl, h1, h2, h4, ?_⟩))))
    unfold edgeErr; rw [if_neg (by omega), if_pos h4]
  · refine .inr (.inr (.inr (.inr (.inr ⟨rfl, rfl, h1, h2, h4, ?_⟩))))
    unfold edgeErr; rw [if_neg (by omega), if_neg h4]; cases p <;> rfl

set_option maxRecDepth 100000 in
set_option maxHeartbeats 4000000 in
/-- ref08.edge -/
theorem redge_any (n : Int) (A : Option Addr) (c : Nat) (es : List E3) (hn : es.length ≤ 1048576) (k : Nat) (e : E3) (hx : es[k]? = some e) (w : World) (h : Reads w w.heap.size 3 A es.length (edgeCells es)) :
    Calls Tryz.prog 76 #[.agg #[.int .i64 n, .slice A es.length c], .int .i64 k] w fun e' w' => e' = .returned (.int .i64 (edgeErr n (prevOf es k) e)) ∧ Below w.heap.size w w' := by
  have hcs := redge_cases n (prevOf es k) e
  have hlt := (List.getElem?_eq_some_iff.1 hx).1
  obtain ⟨r, hr⟩ : ∃ r, edgeErr n (prevOf es k) e = r := ⟨_, rfl⟩
  rw [hr] at hcs ⊢
  have HR := Lib.hid hr
  clear hr
  obtain ⟨a, b, m⟩ := e
  obtain ⟨bb, off, rfl, hb, q1, q2, q3⟩ := h.edge hx
  have HX := Lib.hid hx
  have H := Lib.hid h
  have hi : (k : Int) < (es.length : Int) := by omega
  dsimp only at hcs q1 q2 q3
  clear hx h
  rcases hcs with ⟨v1, rfl⟩ | ⟨v1, v2, rfl⟩ | ⟨v1, v2, h3, rfl⟩ | ⟨v1, v2, h3, h4, rfl⟩ | ⟨v1, v2, h3, h4, h5, rfl⟩ | ⟨v1, v2, h3, h4, h5, hE⟩
  · go_enter Tryz.func76, Tryz.ntmps76
    go_wp2_with (go_at_call 39; refine (rvertex_any _ _ _ _ _ _).mono ?_; rintro e w' ⟨rfl, rfl⟩)
    go_ret
    refine ⟨rfl, ?_⟩
    repeat first | exact Below.refl _ _ | refine Below.alloc ?_ (by first | exact Nat.le_refl _ | (simp; done) | (simp; omega)) _
  · go_enter Tryz.func76, Tryz.ntmps76
    go_wp2_with (go_at_call 39; refine (rvertex_any _ _ _ _ _ _).mono ?_; rintro e w' ⟨rfl, rfl⟩)
    go_ret
    refine ⟨rfl, ?_⟩
    repeat first | exact Below.refl _ _ | refine Below.alloc ?_ (by first | exact Nat.le_refl _ | (simp; done) | (simp; omega)) _
  · go_enter Tryz.func76, Tryz.ntmps76
    go_wp2_with (go_at_call 39; refine (rvertex_any _ _ _ _ _ _).mono ?_; rintro e w' ⟨rfl, rfl⟩)
    go_ret
    refine ⟨rfl, ?_⟩
    repeat first | exact Below.refl _ _ | refine Below.alloc ?_ (by first | exact Nat.le_refl _ | (simp; done) | (simp; omega)) _
  · go_enter Tryz.func76, Tryz.ntmps76
    go_wp2_with (go_at_call 39; refine (rvertex_any _ _ _ _ _ _).mono ?_; rintro e w' ⟨rfl, rfl⟩)
    go_ret
    refine ⟨rfl, ?_⟩
    repeat first | exact Below.refl _ _ | refine Below.alloc ?_ (by first | exact Nat.le_refl _ | (simp; done) | (simp; omega)) _
  · go_enter Tryz.func76, Tryz.ntmps76
    go_wp2_with (go_at_call 39; refine (rvertex_any _ _ _ _ _ _).mono ?_; rintro e w' ⟨rfl, rfl⟩)
    go_ret
    refine ⟨rfl, ?_⟩
    repeat first | exact Below.refl _ _ | refine Below.alloc ?_ (by first | exact Nat.le_refl _ | (simp; done) | (simp; omega)) _
  · rcases k with _ | k
    · have hE' : r = 0 := by rw [hE]; simp [prevOf]
      subst hE'
      clear hE
      rw [show ((0 : Nat) : Int) = 0 from rfl] at hi ⊢
      simp only [Nat.zero_mul, Nat.add_zero] at q1 q2 q3
      go_enter Tryz.func76, Tryz.ntmps76
      go_wp2_with (go_at_call 39; refine (rvertex_any _ _ _ _ _ _).mono ?_; rintro e w' ⟨rfl, rfl⟩)
      go_ret
      refine ⟨rfl, ?_⟩
      repeat first | exact Below.refl _ _ | refine Below.alloc ?_ (by first | exact Nat.le_refl _ | (simp; done) | (simp; omega)) _
    · obtain ⟨⟨a1, b1, m1⟩, hy⟩ := get_of_lt (xs := es) (k := k) (by omega)
      obtain ⟨bb', off', hA', hb', p1, p2, p3⟩ := H.out.edge hy
      injection hA' with hA'; injection hA' with e1 e2; subst e1 e2
      have hE' : r = if a < a1 ∨ (a = a1 ∧ b ≤ b1) then 9 else 0 := by rw [hE, prevOf_succ, hy]
      rw [show ((k + 1 : Nat) : Int) = (k : Int) + 1 from by omega] at hi ⊢
      have hk1 : ((k : Int) + 1 - 1) = (k : Int) := by omega
      have hk2 : 0 < (k : Int) + 1 := by omega
      have hk3 : (k : Int) < (es.length : Int) := by omega
      have h6 : (a = a1 ↔ a = a1) := Iff.rfl
      clear hE hy H h6
      dsimp only at p1 p2 p3
      have hb4 : Below w.heap.size w ((((w.alloc (.cells #[.int .i64 n, .slice (some ⟨bb, off, none⟩) es.length c] 24)).alloc (.cells #[.int .i64 a, .int .i64 b, .int .i64 m] 73)).alloc (.cells #[.int .i64 n, .slice (some ⟨bb, off, none⟩) es.length c] 24)).alloc (.cells #[.int .i64 n, .slice (some ⟨bb, off, none⟩) es.length c] 24)) :=
        ((((Below.refl _ _).alloc (Nat.le_refl _) _).alloc (by simp) _).alloc (by simp; omega) _).alloc (by simp; omega) _
      have P1 := (hb4.cell (p := ⟨bb, off + k * 3, none⟩) hb').trans p1
      have P2 := (hb4.cell (p := ⟨bb, off + k * 3 + 1, none⟩) hb').trans p2
      have P3 := (hb4.cell (p := ⟨bb, off + k * 3 + 1 + 1, none⟩) hb').trans p3
      clear hb4
      by_cases g1 : a < a1
      · rw [if_pos (.inl g1)] at hE'
        subst hE'
        have hd1 : decide (a < a1) = true := decide_eq_true g1
        go_enter Tryz.func76, Tryz.ntmps76
        go_wp2_with (go_at_call 39; refine (rvertex_any _ _ _ _ _ _).mono ?_; rintro e w' ⟨rfl, rfl⟩)
        go_ret
        refine ⟨rfl, ?_⟩
        repeat first | exact Below.refl _ _ | refine Below.alloc ?_ (by first | exact Nat.le_refl _ | (simp; done) | (simp; omega)) _
      · have hd1 : decide (a < a1) = false := decide_eq_false g1
        by_cases g2 : a = a1
        · subst g2
          have hd2 : (a == a) = true := by simp
          by_cases g3 : b ≤ b1
          · rw [if_pos (.inr ⟨rfl, g3⟩)] at hE'
            subst hE'
            have hd3 : decide (b ≤ b1) = true := decide_eq_true g3
            go_enter Tryz.func76, Tryz.ntmps76
            go_wp2_with (go_at_call 39; refine (rvertex_any _ _ _ _ _ _).mono ?_; rintro e w' ⟨rfl, rfl⟩)
            go_ret
            refine ⟨rfl, ?_⟩
            repeat first | exact Below.refl _ _ | refine Below.alloc ?_ (by first | exact Nat.le_refl _ | (simp; done) | (simp; omega)) _
          · rw [if_neg (by omega)] at hE'
            subst hE'
            have hd3 : decide (b ≤ b1) = false := decide_eq_false g3
            go_enter Tryz.func76, Tryz.ntmps76
            go_wp2_with (go_at_call 39; refine (rvertex_any _ _ _ _ _ _).mono ?_; rintro e w' ⟨rfl, rfl⟩)
            go_ret
            refine ⟨rfl, ?_⟩
            repeat first | exact Below.refl _ _ | refine Below.alloc ?_ (by first | exact Nat.le_refl _ | (simp; done) | (simp; omega)) _
        · have hd2 : (a == a1) = false := by simpa using g2
          rw [if_neg (by omega)] at hE'
          subst hE'
          clear g2
          go_enter Tryz.func76, Tryz.ntmps76
          go_wp2_with (go_at_call 39; refine (rvertex_any _ _ _ _ _ _).mono ?_; rintro e w' ⟨rfl, rfl⟩)
          go_ret
          refine ⟨rfl, ?_⟩
          repeat first | exact Below.refl _ _ | refine Below.alloc ?_ (by first | exact Nat.le_refl _ | (simp; done) | (simp; omega)) _

set_option maxRecDepth 100000 in
set_option maxHeartbeats 2000000 in
/-- ref08.Check -/
theorem rgcheck_any (n : Int) (A : Option Addr) (c : Nat) (es : List E3) (hn : es.length ≤ 1048576) (w : World) (h : Reads w w.heap.size 3 A es.length (edgeCells es)) :
    Calls Tryz.prog 45 #[.agg #[.int .i64 n, .slice A es.length c]] w fun e w' => e = .returned (.int .i64 (checkG n es)) ∧ Below w.heap.size w w' := by
  by_cases h1 : n < 1
  · have hd : checkG n es = 2 := by unfold checkG; rw [if_pos (.inl h1)]
    rw [hd]
    go_enter Tryz.func45, Tryz.ntmps45
    go_wp2
    go_ret
    exact ⟨rfl, (Below.refl _ _).alloc (Nat.le_refl _) _⟩
  by_cases h2 : 12 < n
  · have hd : checkG n es = 2 := by unfold checkG; rw [if_pos (.inr h2)]
    rw [hd]
    go_enter Tryz.func45, Tryz.ntmps45
    go_wp2
    go_ret
    exact ⟨rfl, (Below.refl _ _).alloc (Nat.le_refl _) _⟩
  have hd : checkG n es = edgesErr n none es := by unfold checkG; rw [if_neg (by omega)]
  rw [hd]
  obtain ⟨r, hr⟩ : ∃ r, edgesErr n none es = r := ⟨_, rfl⟩
  rw [hr]
  have HR := Lib.hid hr
  clear hr hd
  go_enter Tryz.func45, Tryz.ntmps45
  go_wp2
  go_loopw [3] (fun i wr => ∃ k : Nat, k ≤ es.length ∧ i = .int .i64 k ∧ Below w.heap.size w wr ∧ Blk wr w.heap.size 24 #[.int .i64 n, .slice A es.length c] ∧ Hid (edgesErr n none es = edgesErr n (prevOf es k) (es.drop k))) (fun i _ => es.length - (intOf i).toNat)
  case atStart => exact ⟨0, by omega, rfl, (Below.refl _ _).alloc (Nat.le_refl _) _, Blk.new _ _ _, by simp [Hid, prevOf]⟩
  case round =>
    obtain ⟨k, hk, rfl, hbel, g1, HS⟩ := hrel
    have c0 := g1.cell 0
    have c1 := g1.cell 1
    have hsz := hbel.size
    by_cases hlt : k < es.length
    · obtain ⟨e, hx⟩ := get_of_lt hlt
      have hi : (k : Int) < (es.length : Int) := by omega
      have HE := Lib.hid (redge_any n A c es hn k e hx wr ((h.below hbel).more hsz))
      have HX := Lib.hid hx
      have HB := Lib.hid hbel
      clear hx h hbel
      by_cases h0 : edgeErr n (prevOf es k) e = 0
      · have HN := Lib.hid (edgesErr_go HX.out h0 HS.out)
        rw [h0] at HE
        clear h0
        go_wp2_with (go_at_call 76; refine (HE.out).mono ?_; rintro e' w' ⟨rfl, hb'⟩)
        go_roundw
        case rel => exact ⟨k + 1, by omega, by go_num, HB.out.trans (hb'.mono hsz), g1.next hb', HN.out⟩
        case measure => simp [intOf]; omega
      · have HN := Lib.hid (edgesErr_stop HX.out rfl h0 HS.out)
        obtain ⟨q, hq⟩ : ∃ q, edgeErr n (prevOf es k) e = q := ⟨_, rfl⟩
        rw [hq] at HE HN h0
        have hb0 : (q != 0) = true := by simpa using h0
        clear hq h0
        go_wp2_with (go_at_call 76; refine (HE.out).mono ?_; rintro e' w' ⟨rfl, hb'⟩)
        go_ret
        exact ⟨ret_int (by rw [← HR.out, HN.out]), HB.out.trans (hb'.mono hsz)⟩
    · go_wp2
      go_ret
      refine ⟨ret_int ?_, hbel⟩
      have e : edgesErr n none es = 0 := by rw [HS.out, List.drop_eq_nil_of_le (by omega)]; rfl
      rw [← HR.out, e]
end Go.Proofs.YtplgbapbgcipdaaGreat

/-! ref08.Between; the error of a divisor: ref17.Check. -/
namespace Go.Proofs.YtplgbapbgcipdaaGreat
open Go.RowKit

set_option maxRecDepth 100000 in
set_option maxHeartbeats 2000000 in
/-- ref08.Between -/
theorem between_any (n : Int) (A : Option Addr) (c : Nat) (es : List E3) (hn : es.length ≤ 1048576) (a b : Int) (w : World) (h : Reads w w.heap.size 3 A es.length (edgeCells es)) :
    Calls Tryz.prog 41 #[.agg #[.int .i64 n, .slice A es.length c], .int .i64 a, .int .i64 b] w fun e w' => e = .returned (.int .i64 (btw es a b)) ∧ Below w.heap.size w w' := by
  obtain ⟨r, hr⟩ : ∃ r, btw es a b = r := ⟨_, rfl⟩
  rw [hr]
  have HR := Lib.hid hr
  clear hr
  rcases Int.lt_trichotomy a b with hab | rfl | hab
  · have hba : ¬ b < a := by omega
    go_enter Tryz.func41, Tryz.ntmps41
    go_wp2
    go_loopw [7] (fun i wr => ∃ k : Nat, k ≤ es.length ∧ i = .int .i64 k ∧ Below w.heap.size w wr ∧ Blk wr w.heap.size 24 #[.int .i64 n, .slice A es.length c] ∧ Hid (btw es a b = btw (es.drop k) a b)) (fun i _ => es.length - (intOf i).toNat)
    case atStart => exact ⟨0, by omega, rfl, (Below.refl _ _).alloc (Nat.le_refl _) _, Blk.new _ _ _, by simp [Hid]⟩
    case round =>
      obtain ⟨k, hk, rfl, hbel, g1, HS⟩ := hrel
      have c1 := g1.cell 1
      have hsz := hbel.size
      have hlt0 := g1.lt
      by_cases hlt : k < es.length
      · obtain ⟨⟨x, y, m⟩, hx⟩ := get_of_lt hlt
        have hi : (k : Int) < (es.length : Int) := by omega
        have hd := btw_drop hx a b
        rw [show min a b = a from by omega, show max a b = b from by omega] at hd
        dsimp only at hd
        obtain ⟨bb, off, rfl, hb, q1, q2, q3⟩ := (h.below hbel).edge hx
        have G1 := g1.alloc (.cells #[.int .i64 x, .int .i64 y, .int .i64 m] 73)
        dsimp only at q1 q2 q3
        have HB := Lib.hid (hbel.alloc (Nat.le_trans (by simp) hsz) (.cells #[.int .i64 x, .int .i64 y, .int .i64 m] 73))
        clear hx h hbel
        by_cases h1 : x = a
        · by_cases h2 : y = b
          · rw [if_pos ⟨h1, h2⟩] at hd
            have HD := Lib.hid hd
            have e1 : (x == a) = true := by simpa using h1
            have e2 : (y == b) = true := by simpa using h2
            clear hd h1 h2
            go_wp2
            go_ret
            exact ⟨ret_int (by rw [← HR.out, HS.out, HD.out]), HB.out⟩
          · rw [if_neg (fun hc => h2 hc.2)] at hd
            have HD := Lib.hid hd
            have e1 : (x == a) = true := by simpa using h1
            have e2 : (y == b) = false := by simpa using h2
            clear hd h1 h2
            go_wp2
            go_roundw
            case rel => exact ⟨k + 1, by omega, by go_num, HB.out, G1, by rw [Hid, HS.out, HD.out]⟩
            case measure => simp [intOf]; omega
        · rw [if_neg (fun hc => h1 hc.1)] at hd
          have HD := Lib.hid hd
          have e1 : (x == a) = false := by simpa using h1
          clear hd h1
          go_wp2
          go_roundw
          case rel => exact ⟨k + 1, by omega, by go_num, HB.out, G1, by rw [Hid, HS.out, HD.out]⟩
          case measure => simp [intOf]; omega
      · go_wp2
        go_ret
        refine ⟨ret_int ?_, hbel⟩
        have e : btw es a b = 0 := by rw [HS.out, List.drop_eq_nil_of_le (by omega)]; rfl
        rw [← HR.out, e]
  · go_enter Tryz.func41, Tryz.ntmps41
    go_wp2
    go_loopw [7] (fun i wr => ∃ k : Nat, k ≤ es.length ∧ i = .int .i64 k ∧ Below w.heap.size w wr ∧ Blk wr w.heap.size 24 #[.int .i64 n, .slice A es.length c] ∧ Hid (btw es a a = btw (es.drop k) a a)) (fun i _ => es.length - (intOf i).toNat)
    case atStart => exact ⟨0, by omega, rfl, (Below.refl _ _).alloc (Nat.le_refl _) _, Blk.new _ _ _, by simp [Hid]⟩
    case round =>
      obtain ⟨k, hk, rfl, hbel, g1, HS⟩ := hrel
      have c1 := g1.cell 1
      have hsz := hbel.size
      have hlt0 := g1.lt
      by_cases hlt : k < es.length
      · obtain ⟨⟨x, y, m⟩, hx⟩ := get_of_lt hlt
        have hi : (k : Int) < (es.length : Int) := by omega
        have hd := btw_drop hx a a
        rw [show min a a = a from by omega, show max a a = a from by omega] at hd
        dsimp only at hd
        obtain ⟨bb, off, rfl, hb, q1, q2, q3⟩ := (h.below hbel).edge hx
        have G1 := g1.alloc (.cells #[.int .i64 x, .int .i64 y, .int .i64 m] 73)
        dsimp only at q1 q2 q3
        have HB := Lib.hid (hbel.alloc (Nat.le_trans (by simp) hsz) (.cells #[.int .i64 x, .int .i64 y, .int .i64 m] 73))
        clear hx h hbel
        by_cases h1 : x = a
        · by_cases h2 : y = a
          · rw [if_pos ⟨h1, h2⟩] at hd
            have HD := Lib.hid hd
            have e1 : (x == a) = true := by simpa using h1
            have e2 : (y == a) = true := by simpa using h2
            clear hd h1 h2
            go_wp2
            go_ret
            exact ⟨ret_int (by rw [← HR.out, HS.out, HD.out]), HB.out⟩
          · rw [if_neg (fun hc => h2 hc.2)] at hd
            have HD := Lib.hid hd
            have e1 : (x == a) = true := by simpa using h1
            have e2 : (y == a) = false := by simpa using h2
            clear hd h1 h2
            go_wp2
            go_roundw
            case rel => exact ⟨k + 1, by omega, by go_num, HB.out, G1, by rw [Hid, HS.out, HD.out]⟩
            case measure => simp [intOf]; omega
        · rw [if_neg (fun hc => h1 hc.1)] at hd
          have HD := Lib.hid hd
          have e1 : (x == a) = false := by simpa using h1
          clear hd h1
          go_wp2
          go_roundw
          case rel => exact ⟨k + 1, by omega, by go_num, HB.out, G1, by rw [Hid, HS.out, HD.out]⟩
          case measure => simp [intOf]; omega
      · go_wp2
        go_ret
        refine ⟨ret_int ?_, hbel⟩
        have e : btw es a a = 0 := by rw [HS.out, List.drop_eq_nil_of_le (by omega)]; rfl
        rw [← HR.out, e]
  · have hba : ¬ a < b := by omega
    go_enter Tryz.func41, Tryz.ntmps41
    go_wp2
    go_loopw [7] (fun i wr => ∃ k : Nat, k ≤ es.length ∧ i = .int .i64 k ∧ Below w.heap.size w wr ∧ Blk wr w.heap.size 24 #[.int .i64 n, .slice A es.length c] ∧ Hid (btw es a b = btw (es.drop k) a b)) (fun i _ => es.length - (intOf i).toNat)
    case atStart => exact ⟨0, by omega, rfl, (Below.refl _ _).alloc (Nat.le_refl _) _, Blk.new _ _ _, by simp [Hid]⟩
    case round =>
      obtain ⟨k, hk, rfl, hbel, g1, HS⟩ := hrel
      have c1 := g1.cell 1
      have hsz := hbel.size
      have hlt0 := g1.lt
      by_cases hlt : k < es.length
      · obtain ⟨⟨x, y, m⟩, hx⟩ := get_of_lt hlt
        have hi : (k : Int) < (es.length : Int) := by omega
        have hd := btw_drop hx a b
        rw [show min a b = b from by omega, show max a b = a from by omega] at hd
        dsimp only at hd
        obtain ⟨bb, off, rfl, hb, q1, q2, q3⟩ := (h.below hbel).edge hx
        have G1 := g1.alloc (.cells #[.int .i64 x, .int .i64 y, .int .i64 m] 73)
        dsimp only at q1 q2 q3
        have HB := Lib.hid (hbel.alloc (Nat.le_trans (by simp) hsz) (.cells #[.int .i64 x, .int .i64 y, .int .i64 m] 73))
        clear hx h hbel
        by_cases h1 : x = b
        · by_cases h2 : y = a
          · rw [if_pos ⟨h1, h2⟩] at hd
            have HD := Lib.hid hd
            have e1 : (x == b) = true := by simpa using h1
            have e2 : (y == a) = true := by simpa using h2
            clear hd h1 h2
            go_wp2
            go_ret
            exact ⟨ret_int (by rw [← HR.out, HS.out, HD.out]), HB.out⟩
          · rw [if_neg (fun hc => h2 hc.2)] at hd
            have HD := Lib.hid hd
            have e1 : (x == b) = true := by simpa using h1
            have e2 : (y == a) = false := by simpa using h2
            clear hd h1 h2
            go_wp2
            go_roundw
            case rel => exact ⟨k + 1, by omega, by go_num, HB.out, G1, by rw [Hid, HS.out, HD.out]⟩
            case measure => simp [intOf]; omega
        · rw [if_neg (fun hc => h1 hc.1)] at hd
          have HD := Lib.hid hd
          have e1 : (x == b) = false := by simpa using h1
          clear hd h1
          go_wp2
          go_roundw
          case rel => exact ⟨k + 1, by omega, by go_num, HB.out, G1, by rw [Hid, HS.out, HD.out]⟩
          case measure => simp [intOf]; omega
      · go_wp2
        go_ret
        refine ⟨ret_int ?_, hbel⟩
        have e : btw es a b = 0 := by rw [HS.out, List.drop_eq_nil_of_le (by omega)]; rfl
        rw [← HR.out, e]

end Go.Proofs.YtplgbapbgcipdaaGreat

/-! What Push returns, as a relation, with its errors. -/
namespace Go.Proofs.YtplgbapbgcipdaaGreat
open Go.RowKit

/-- How far the pushing has come. -/
def PState (es : List E3) (n q : Nat) (r : Option (List Int × List Int)) (cs ss : List Int) (m : Nat) : Prop :=
  cs.length = n ∧ ss.length = n ∧ ((m ≤ 1048576 ∧ PushR es n q cs ss m r ∧ Bd (1048576 + 14400 * m) cs ∧ Bd m ss) ∨ (1048576 < m ∧ r = none))
theorem PState.next {es : List E3} {n q : Nat} {r : Option (List Int × List Int)} {cs ss : List Int} {m : Nat} (h : PState es n q r cs ss m) (hn : n ≤ 12) {N : Int} (hok : ∀ e ∈ es, okE N e) (hm : m ≤ 1048576) (hne : leftC es n q cs ≠ []) :
    PState es n q r (stepC es n q cs) (bumpL ss (leftC es n q cs)) (m + (leftC es n q cs).length) := by
  obtain ⟨h1, h2, h3⟩ := h
  refine ⟨by rw [stepC_length]; exact h1, by rw [bumpL_length]; exact h2, ?_⟩
  rcases h3 with ⟨_, h4, h5, h6⟩ | ⟨h4, _⟩
  · have hp := List.length_pos_iff.2 hne
    by_cases hov : m + (leftC es n q cs).length ≤ 1048576
    · exact .inl ⟨hov, h4.step_inv hne hov, (stepC_bd hok hn (by omega) h5).mono (by push_cast; omega), (bumpL_bd (by omega) h6 _).mono (by push_cast; omega)⟩
    · exact .inr ⟨by omega, h4.over_inv hne (by omega)⟩
  · omega

/-- What Push returns. -/
def PushE (n : Int) (es : List E3) (q : Int) (cs ds ss : List Int) (e : Int) : Prop :=
  (burnErr n es q cs ≠ 0 ∧ ds = [] ∧ ss = [] ∧ e = burnErr n es q cs) ∨
  (burnErr n es q cs = 0 ∧ ∃ r, PushR es n.toNat q.toNat cs (List.replicate n.toNat 0) 0 r ∧ ((r = some (ds, ss) ∧ e = 0) ∨ (r = none ∧ ds = [] ∧ ss = [] ∧ e = 12)))
end Go.Proofs.YtplgbapbgcipdaaGreat

/-! Plain laws of pushing right configurations: a push comes to an end; adding chips first or later leads to the same. No program is in sight. -/
namespace Go.Proofs.YtplgbapbgcipdaaGreat

/-- An error of a graph and a sink there is none where one configuration has none. -/
theorem burn_zero_of {n : Int} {es : List E3} {q : Int} {a cs : List Int} (h : burnErr n es q a = 0) (hl : (cs.length : Int) = n) (hb : ∀ x ∈ cs, -1048576 ≤ x ∧ x ≤ 1048576) (h0 : ∀ x, 0 ≤ cs.getD x 0) (hq : cs.getD q.toNat 0 = 0) : burnErr n es q cs = 0 := by
  have hc := (burn_zero h).1
  have hr : rootErr n es q = 0 := by
    rcases conf_cases n es q a with ⟨h1, h2⟩ | ⟨h1, _⟩ | ⟨h1, _⟩
    · exact absurd (h2 ▸ hc) h1
    · exact h1
    · exact h1
  obtain ⟨hG, _⟩ := conf_zero hc
  have hd : divErr cs n = 0 := by
    unfold divErr
    have hlo := hG.lo
    have hhi := hG.hi
    rw [if_neg (by omega), if_neg (by omega), if_pos (List.all_eq_true.2 fun x hx => chipB_true.2 (hb x hx))]
  have hdebt : debtTo cs q cs.length = false := by
    unfold debtTo
    rw [List.any_eq_false]
    intro v _
    have := h0 v
    rw [Bool.and_eq_true, decide_eq_true_eq, decide_eq_true_eq]
    omega
  have hcf : confErr n es q cs = 0 := by
    unfold confErr
    rw [if_neg (by omega), if_neg (by omega), hdebt]; rfl
  unfold burnErr
  rw [if_neg (by omega), if_neg (by omega)]

end Go.Proofs.YtplgbapbgcipdaaGreat

/-! ref24.Below: all lists below a list. -/
namespace Go.Proofs.YtplgbapbgcipdaaGreat
open Go.RowKit

end Go.Proofs.YtplgbapbgcipdaaGreat

/-! Ranks in the interval of a tree; the numbers of trees by activities follow from the numbers of sets by ranks. No program is in sight. -/
namespace Go.Proofs.YtplgbapbgcipdaaGreat
section
variable {n : Nat} {E : List (Nat × Nat)} {t S : List Nat} {e f : Nat}
/-! Weights. -/
end
end Go.Proofs.YtplgbapbgcipdaaGreat

/-! ref08.Make: the graph of a list of single edges. -/
namespace Go.Proofs.YtplgbapbgcipdaaGreat
open Go.RowKit

def cnt (es : List (Nat × Nat)) (a b : Nat) : Nat := (es.filter fun e => decide (min e.1 e.2 = a) && decide (max e.1 e.2 = b)).length
end Go.Proofs.YtplgbapbgcipdaaGreat

/-! Literals of ints, their comparisons; the triangle. -/
namespace Go.Proofs.YtplgbapbgcipdaaGreat
open Go.RowKit

/-- The triangle. -/
def tri : List E3 := [(0, 1, 1), (0, 2, 1), (1, 2, 1)]
theorem reads_lit (w : World) (xs : List Int) : Reads (w.alloc (.cells (ints xs).toArray 3)) (w.alloc (.cells (ints xs).toArray 3)).heap.size 1 (some ⟨w.heap.size, 0, none⟩) xs.length (ints xs) :=
  ⟨by simp [ints], fun _ => ⟨w.heap.size, 0, rfl, by simp, fun j u hu => by
    rw [Nat.zero_add, (Blk.new w 3 (ints xs).toArray).cell j]
    simpa using hu⟩⟩
theorem below_new {w w' : World} {o : Obj} (h : Below (w.alloc o).heap.size (w.alloc o) w') : Below w.heap.size w w' := ((Below.refl _ w).alloc (Nat.le_refl _) o).trans (h.mono (by simp))
/-- A literal of three ints, of two. -/
abbrev obj3 (a b c : Int) : Obj := .cells #[.int .i64 a, .int .i64 b, .int .i64 c] 3
abbrev obj2 (a b : Int) : Obj := .cells #[.int .i64 a, .int .i64 b] 3

theorem ieq3 (A : Option Addr) (c : Nat) (a b d : Int) (w : World) (g : Nat) (hg : g = w.heap.size) (h : Reads w w.heap.size 1 A 3 (ints [a, b, d])) :
    Calls Tryz.prog 34 #[.slice A 3 c, .slice (some ⟨g, 0, none⟩) 3 3] (w.alloc (obj3 a b d)) fun e w' => e = .returned (.bool true) ∧ Below w.heap.size w w' := by
  subst hg
  have h := iequal_any A c [a, b, d] (some ⟨w.heap.size, 0, none⟩) 3 [a, b, d] (by simp) (w.alloc (obj3 a b d)) ((h.alloc (Nat.le_refl _) _).more (by simp)) (reads_lit w [a, b, d])
  exact h.mono fun e w' ⟨he, hb⟩ => ⟨by simpa using he, below_new hb⟩
theorem ieq2 (A : Option Addr) (c : Nat) (a b : Int) (w : World) (g : Nat) (hg : g = w.heap.size) (h : Reads w w.heap.size 1 A 2 (ints [a, b])) :
    Calls Tryz.prog 34 #[.slice A 2 c, .slice (some ⟨g, 0, none⟩) 2 2] (w.alloc (obj2 a b)) fun e w' => e = .returned (.bool true) ∧ Below w.heap.size w w' := by
  subst hg
  have h := iequal_any A c [a, b] (some ⟨w.heap.size, 0, none⟩) 2 [a, b] (by simp) (w.alloc (obj2 a b)) ((h.alloc (Nat.le_refl _) _).more (by simp)) (reads_lit w [a, b])
  exact h.mono fun e w' ⟨he, hb⟩ => ⟨by simpa using he, below_new hb⟩
theorem deq3 (A : Option Addr) (c : Nat) (a b d : Int) (w : World) (g : Nat) (hg : g = w.heap.size) (h : Reads w w.heap.size 1 A 3 (ints [a, b, d])) :
    Calls Tryz.prog 21 #[.slice A 3 c, .slice (some ⟨g, 0, none⟩) 3 3] (w.alloc (obj3 a b d)) fun e w' => e = .returned (.bool true) ∧ Below w.heap.size w w' := by
  subst hg
  have h := dequal_any A c [a, b, d] (some ⟨w.heap.size, 0, none⟩) 3 [a, b, d] (by simp) (w.alloc (obj3 a b d)) ((h.alloc (Nat.le_refl _) _).more (by simp)) (reads_lit w [a, b, d])
  exact h.mono fun e w' ⟨he, hb⟩ => ⟨by simpa using he, below_new hb⟩
theorem seq3 (A : Option Addr) (c : Nat) (a b d : Int) (w : World) (g : Nat) (hg : g = w.heap.size) (h : Reads w w.heap.size 1 A 3 (ints [a, b, d])) :
    Calls Tryz.prog 35 #[.slice A 3 c, .slice (some ⟨g, 0, none⟩) 3 3] (w.alloc (obj3 a b d)) fun e w' => e = .returned (.bool true) ∧ Below w.heap.size w w' := by
  subst hg
  have h := sequal_any A c [a, b, d] (some ⟨w.heap.size, 0, none⟩) 3 [a, b, d] (by simp) (w.alloc (obj3 a b d)) ((h.alloc (Nat.le_refl _) _).more (by simp)) (reads_lit w [a, b, d])
  exact h.mono fun e w' ⟨he, hb⟩ => ⟨by simpa using he, below_new hb⟩

end Go.Proofs.YtplgbapbgcipdaaGreat

