/-
  Texts of this claim, put together: Graph2, REnds, RFew.
-/
import Derived.Test.YtdnoeaoelgehcaaGreatK06
import Derived.Deep.RegionLaw
/-! The error of a graph, as the reference finds it: ref08.Check. -/
namespace Go.Proofs.YtdnoeaoelgehcaaGreat
open Go.RowKit

set_option maxHeartbeats 400000 in
theorem rvertex_any (n v : Int) (A : Option Addr) (k c : Nat) (w : World) :
    Calls Tryz.prog 50 #[.agg #[.int .i64 n, .slice A k c], .int .i64 v] w fun e w' => e = .returned (.bool (vertB n v)) ∧ w.alloc (.cells #[.int .i64 n, .slice A k c] 24) = w' := by
  go_enter Tryz.func50, Tryz.ntmps50
  go_wp2
  all_goals (go_ret; exact ⟨by simp only [vertB]; simp [*]; try omega, rfl⟩)

/-- The cases of an edge's error, as the reference asks. -/
theorem redge_cases (n : Int) (p : Option E3) (e : E3) :
    (vertB n e.1 = false ∧ edgeErr n p e = 2) ∨ (vertB n e.1 = true ∧ vertB n e.2.1 = false ∧ edgeErr n p e = 2) ∨
    (vertB n e.1 = true ∧ vertB n e.2.1 = true ∧ e.2.2 < 1 ∧ edgeErr n p e = 2) ∨ (vertB n e.1 = true ∧ vertB n e.2.1 = true ∧ 50 < e.2.2 ∧ ¬ e.2.2 < 1 ∧ edgeErr n p e = 2) ∨
    (vertB n e.1 = true ∧ vertB n e.2.1 = true ∧ ¬ e.2.2 < 1 ∧ ¬ 50 < e.2.2 ∧ e.2.1 < e.1 ∧ edgeErr n p e = 9) ∨
    (vertB n e.1 = true ∧ vertB n e.2.1 = true ∧ ¬ e.2.2 < 1 ∧ ¬ 50 < e.2.2 ∧ ¬ e.2.1 < e.1 ∧ edgeErr n p e = match p with | none => 0 | some y => if e.1 < y.1 ∨ (e.1 = y.1 ∧ e.2.1 ≤ y.2.1) then 9 else 0) := by
  have v1 := vertB_true (n := n) (v := e.1)
  have v2 := vertB_true (n := n) (v := e.2.1)
  cases g1 : vertB n e.1
  · refine .inl ⟨rfl, ?_⟩
    rw [vertB_false] at g1
    unfold edgeErr; rw [if_pos (by omega)]
  rw [g1] at v1
  have v1 := v1.1 rfl
  cases g2 : vertB n e.2.1
  · refine .inr (.inl ⟨rfl, rfl, ?_⟩)
    rw [vertB_false] at g2
    unfold edgeErr; rw [if_pos (by omega)]
  rw [g2] at v2
  have v2 := v2.1 rfl
  by_cases h1 : e.2.2 < 1
  · refine .inr (.inr (.inl ⟨rfl, rfl, h1, ?_⟩))
    unfold edgeErr; rw [if_pos (by omega)]
  by_cases h2 : 50 < e.2.2
  · refine .inr (.inr (.inr (.inl ⟨rfl, rfl, h2, h1, ?_⟩)))
    unfold edgeErr; rw [if_pos (by omega)]
  by_cases h4 : e.2.1 < e.1
  · refine .inr (.inr (.inr (.inr (.inl ⟨rfl, rfl, h1, h2, h4, ?_⟩))))
    unfold edgeErr; rw [if_neg (by omega), if_pos h4]
  · refine .inr (.inr (.inr (.inr (.inr ⟨rfl, rfl, h1, h2, h4, ?_⟩))))
    unfold edgeErr; rw [if_neg (by omega), if_neg h4]; cases p <;> rfl

set_option maxRecDepth 100000 in
set_option maxHeartbeats 4000000 in
/-- ref08.edge -/
theorem redge_any (n : Int) (A : Option Addr) (c : Nat) (es : List E3) (hn : es.length ≤ 1048576) (k : Nat) (e : E3) (hx : es[k]? = some e) (w : World) (h : Reads w w.heap.size 3 A es.length (edgeCells es)) :
    Calls Tryz.prog 112 #[.agg #[.int .i64 n, .slice A es.length c], .int .i64 k] w fun e' w' => e' = .returned (.int .i64 (edgeErr n (prevOf es k) e)) ∧ Below w.heap.size w w' := by
  have hcs := redge_cases n (prevOf es k) e
  have hlt := (List.getElem?_eq_some_iff.1 hx).1
  obtain ⟨r, hr⟩ : ∃ r, edgeErr n (prevOf es k) e = r := ⟨_, rfl⟩
  rw [hr] at hcs ⊢
  have HR := Lib.hid hr
  clear hr
  obtain ⟨a, b, m⟩ := e
  obtain ⟨bb, off, rfl, hb, q1, q2, q3⟩ := h.edge hx
  have HX := Lib.hid hx
  have H := Lib.hid h
  have hi : (k : Int) < (es.length : Int) := by omega
  dsimp only at hcs q1 q2 q3
  clear hx h
  rcases hcs with ⟨v1, rfl⟩ | ⟨v1, v2, rfl⟩ | ⟨v1, v2, h3, rfl⟩ | ⟨v1, v2, h3, h4, rfl⟩ | ⟨v1, v2, h3, h4, h5, rfl⟩ | ⟨v1, v2, h3, h4, h5, hE⟩
  · go_enter Tryz.func112, Tryz.ntmps112
    go_wp2_with (go_at_call 50; refine (rvertex_any _ _ _ _ _ _).mono ?_; rintro e w' ⟨rfl, rfl⟩)
    go_ret
    refine ⟨rfl, ?_⟩
    repeat first | exact Below.refl _ _ | refine Below.alloc ?_ (by first | exact Nat.le_refl _ | (simp; done) | (simp; omega)) _
  · go_enter Tryz.func112, Tryz.ntmps112
    go_wp2_with (go_at_call 50; refine (rvertex_any _ _ _ _ _ _).mono ?_; rintro e w' ⟨rfl, rfl⟩)
    go_ret
    refine ⟨rfl, ?_⟩
    repeat first | exact Below.refl _ _ | refine Below.alloc ?_ (by first | exact Nat.le_refl _ | (simp; done) | (simp; omega)) _
  · go_enter Tryz.func112, Tryz.ntmps112
    go_wp2_with (go_at_call 50; refine (rvertex_any _ _ _ _ _ _).mono ?_; rintro e w' ⟨rfl, rfl⟩)
    go_ret
    refine ⟨rfl, ?_⟩
    repeat first | exact Below.refl _ _ | refine Below.alloc ?_ (by first | exact Nat.le_refl _ | (simp; done) | (simp; omega)) _
  · go_enter Tryz.func112, Tryz.ntmps112
    go_wp2_with (go_at_call 50; refine (rvertex_any _ _ _ _ _ _).mono ?_; rintro e w' ⟨rfl, rfl⟩)
    go_ret
    refine ⟨rfl, ?_⟩
    repeat first | exact Below.refl _ _ | refine Below.alloc ?_ (by first | exact Nat.le_refl _ | (simp; done) | (simp; omega)) _
  · go_enter Tryz.func112, Tryz.ntmps112
    go_wp2_with (go_at_call 50; refine (rvertex_any _ _ _ _ _ _).mono ?_; rintro e w' ⟨rfl, rfl⟩)
    go_ret
    refine ⟨rfl, ?_⟩
    repeat first | exact Below.refl _ _ | refine Below.alloc ?_ (by first | exact Nat.le_refl _ | (simp; done) | (simp; omega)) _
  · rcases k with _ | k
    · have hE' : r = 0 := by rw [hE]; simp [prevOf]
      subst hE'
      clear hE
      rw [show ((0 : Nat) : Int) = 0 from rfl] at hi ⊢
      simp only [Nat.zero_mul, Nat.add_zero] at q1 q2 q3
      go_enter Tryz.func112, Tryz.ntmps112
      go_wp2_with (go_at_call 50; refine (rvertex_any _ _ _ _ _ _).mono ?_; rintro e w' ⟨rfl, rfl⟩)
      go_ret
      refine ⟨rfl, ?_⟩
      repeat first | exact Below.refl _ _ | refine Below.alloc ?_ (by first | exact Nat.le_refl _ | (simp; done) | (simp; omega)) _
    · obtain ⟨⟨a1, b1, m1⟩, hy⟩ := get_of_lt (xs := es) (k := k) (by omega)
      obtain ⟨bb', off', hA', hb', p1, p2, p3⟩ := H.out.edge hy
      injection hA' with hA'; injection hA' with e1 e2; subst e1 e2
      have hE' : r = if a < a1 ∨ (a = a1 ∧ b ≤ b1) then 9 else 0 := by rw [hE, prevOf_succ, hy]
      rw [show ((k + 1 : Nat) : Int) = (k : Int) + 1 from by omega] at hi ⊢
      have hk1 : ((k : Int) + 1 - 1) = (k : Int) := by omega
      have hk2 : 0 < (k : Int) + 1 := by omega
      have hk3 : (k : Int) < (es.length : Int) := by omega
      have h6 : (a = a1 ↔ a = a1) := Iff.rfl
      clear hE hy H h6
      dsimp only at p1 p2 p3
      have hb4 : Below w.heap.size w ((((w.alloc (.cells #[.int .i64 n, .slice (some ⟨bb, off, none⟩) es.length c] 24)).alloc (.cells #[.int .i64 a, .int .i64 b, .int .i64 m] 83)).alloc (.cells #[.int .i64 n, .slice (some ⟨bb, off, none⟩) es.length c] 24)).alloc (.cells #[.int .i64 n, .slice (some ⟨bb, off, none⟩) es.length c] 24)) :=
        ((((Below.refl _ _).alloc (Nat.le_refl _) _).alloc (by simp) _).alloc (by simp; omega) _).alloc (by simp; omega) _
      have P1 := (hb4.cell (p := ⟨bb, off + k * 3, none⟩) hb').trans p1
      have P2 := (hb4.cell (p := ⟨bb, off + k * 3 + 1, none⟩) hb').trans p2
      have P3 := (hb4.cell (p := ⟨bb, off + k * 3 + 1 + 1, none⟩) hb').trans p3
      clear hb4
      by_cases g1 : a < a1
      · rw [if_pos (.inl g1)] at hE'
        subst hE'
        have hd1 : decide (a < a1) = true := decide_eq_true g1
        go_enter Tryz.func112, Tryz.ntmps112
        go_wp2_with (go_at_call 50; refine (rvertex_any _ _ _ _ _ _).mono ?_; rintro e w' ⟨rfl, rfl⟩)
        go_ret
        refine ⟨rfl, ?_⟩
        repeat first | exact Below.refl _ _ | refine Below.alloc ?_ (by first | exact Nat.le_refl _ | (simp; done) | (simp; omega)) _
      · have hd1 : decide (a < a1) = false := decide_eq_false g1
        by_cases g2 : a = a1
        · subst g2
          have hd2 : (a == a) = true := by simp
          by_cases g3 : b ≤ b1
          · rw [if_pos (.inr ⟨rfl, g3⟩)] at hE'
            subst hE'
            have hd3 : decide (b ≤ b1) = true := decide_eq_true g3
            go_enter Tryz.func112, Tryz.ntmps112
            go_wp2_with (go_at_call 50; refine (rvertex_any _ _ _ _ _ _).mono ?_; rintro e w' ⟨rfl, rfl⟩)
            go_ret
            refine ⟨rfl, ?_⟩
            repeat first | exact Below.refl _ _ | refine Below.alloc ?_ (by first | exact Nat.le_refl _ | (simp; done) | (simp; omega)) _
          · rw [if_neg (by omega)] at hE'
            subst hE'
            have hd3 : decide (b ≤ b1) = false := decide_eq_false g3
            go_enter Tryz.func112, Tryz.ntmps112
            go_wp2_with (go_at_call 50; refine (rvertex_any _ _ _ _ _ _).mono ?_; rintro e w' ⟨rfl, rfl⟩)
            go_ret
            refine ⟨rfl, ?_⟩
            repeat first | exact Below.refl _ _ | refine Below.alloc ?_ (by first | exact Nat.le_refl _ | (simp; done) | (simp; omega)) _
        · have hd2 : (a == a1) = false := by simpa using g2
          rw [if_neg (by omega)] at hE'
          subst hE'
          clear g2
          go_enter Tryz.func112, Tryz.ntmps112
          go_wp2_with (go_at_call 50; refine (rvertex_any _ _ _ _ _ _).mono ?_; rintro e w' ⟨rfl, rfl⟩)
          go_ret
          refine ⟨rfl, ?_⟩
          repeat first | exact Below.refl _ _ | refine Below.alloc ?_ (by first | exact Nat.le_refl _ | (simp; done) | (simp; omega)) _

set_option maxRecDepth 100000 in
set_option maxHeartbeats 2000000 in
/-- ref08.Check -/
theorem rgcheck_any (n : Int) (A : Option Addr) (c : Nat) (es : List E3) (hn : es.length ≤ 1048576) (w : World) (h : Reads w w.heap.size 3 A es.length (edgeCells es)) :
    Calls Tryz.prog 73 #[.agg #[.int .i64 n, .slice A es.length c]] w fun e w' => e = .returned (.int .i64 (checkG n es)) ∧ Below w.heap.size w w' := by
  by_cases h1 : n < 1
  · have hd : checkG n es = 2 := by unfold checkG; rw [if_pos (.inl h1)]
    rw [hd]
    go_enter Tryz.func73, Tryz.ntmps73
    go_wp2
    go_ret
    exact ⟨rfl, (Below.refl _ _).alloc (Nat.le_refl _) _⟩
  by_cases h2 : 12 < n
  · have hd : checkG n es = 2 := by unfold checkG; rw [if_pos (.inr h2)]
    rw [hd]
    go_enter Tryz.func73, Tryz.ntmps73
    go_wp2
    go_ret
    exact ⟨rfl, (Below.refl _ _).alloc (Nat.le_refl _) _⟩
  have hd : checkG n es = edgesErr n none es := by unfold checkG; rw [if_neg (by omega)]
  rw [hd]
  obtain ⟨r, hr⟩ : ∃ r, edgesErr n none es = r := ⟨_, rfl⟩
  rw [hr]
  have HR := Lib.hid hr
  clear hr hd
  go_enter Tryz.func73, Tryz.ntmps73
  go_wp2
  go_loopw [3] (fun i wr => ∃ k : Nat, k ≤ es.length ∧ i = .int .i64 k ∧ Below w.heap.size w wr ∧ Blk wr w.heap.size 24 #[.int .i64 n, .slice A es.length c] ∧ Hid (edgesErr n none es = edgesErr n (prevOf es k) (es.drop k))) (fun i _ => es.length - (intOf i).toNat)
  case atStart => exact ⟨0, by omega, rfl, (Below.refl _ _).alloc (Nat.le_refl _) _, Blk.new _ _ _, by simp [Hid, prevOf]⟩
  case round =>
    obtain ⟨k, hk, rfl, hbel, g1, HS⟩ := hrel
    have c0 := g1.cell 0
    have c1 := g1.cell 1
    have hsz := hbel.size
    by_cases hlt : k < es.length
    · obtain ⟨e, hx⟩ := get_of_lt hlt
      have hi : (k : Int) < (es.length : Int) := by omega
      have HE := Lib.hid (redge_any n A c es hn k e hx wr ((h.below hbel).more hsz))
      have HX := Lib.hid hx
      have HB := Lib.hid hbel
      clear hx h hbel
      by_cases h0 : edgeErr n (prevOf es k) e = 0
      · have HN := Lib.hid (edgesErr_go HX.out h0 HS.out)
        rw [h0] at HE
        clear h0
        go_wp2_with (go_at_call 112; refine (HE.out).mono ?_; rintro e' w' ⟨rfl, hb'⟩)
        go_roundw
        case rel => exact ⟨k + 1, by omega, by go_num, HB.out.trans (hb'.mono hsz), g1.next hb', HN.out⟩
        case measure => simp [intOf]; omega
      · have HN := Lib.hid (edgesErr_stop HX.out rfl h0 HS.out)
        obtain ⟨q, hq⟩ : ∃ q, edgeErr n (prevOf es k) e = q := ⟨_, rfl⟩
        rw [hq] at HE HN h0
        have hb0 : (q != 0) = true := by simpa using h0
        clear hq h0
        go_wp2_with (go_at_call 112; refine (HE.out).mono ?_; rintro e' w' ⟨rfl, hb'⟩)
        go_ret
        exact ⟨ret_int (by rw [← HR.out, HN.out]), HB.out.trans (hb'.mono hsz)⟩
    · go_wp2
      go_ret
      refine ⟨ret_int ?_, hbel⟩
      have e : edgesErr n none es = 0 := by rw [HS.out, List.drop_eq_nil_of_le (by omega)]; rfl
      rw [← HR.out, e]
end Go.Proofs.YtdnoeaoelgehcaaGreat

/-! ref08.Ends and Size: as far as the number of single edges goes; ref08.small and Few. -/
namespace Go.Proofs.YtdnoeaoelgehcaaGreat
open Go.RowKit

/-- The number of single edges. -/
def sizeE (es : List E3) : Nat := (es.map fun e => e.2.2.toNat).sum
theorem sizeE_take {es : List E3} {k : Nat} {e : E3} (h : es[k]? = some e) : sizeE (es.take (k + 1)) = sizeE (es.take k) + e.2.2.toNat := by
  rw [take_snoc h]; simp [sizeE]
theorem sizeE_bd {N : Int} {es : List E3} (h : ∀ e ∈ es, okE N e) : sizeE es ≤ 50 * es.length := by
  induction es with
  | nil => simp [sizeE]
  | cons e es ih =>
    have h1 := h e (by simp)
    have h2 := ih fun x hx => h x (by simp [hx])
    unfold okE at h1
    unfold sizeE at *
    simp at *
    omega
theorem info_pair2 : (Tryz.prog.info? 193).map (fun i => (i.zero, i.size, i.bytes)) = some (some (.agg #[.int .i64 0, .int .i64 0]), 2, 16) := by kernel_rfl

set_option maxRecDepth 100000 in
set_option maxHeartbeats 4000000 in
theorem rends_any (n : Int) (A : Option Addr) (c : Nat) (es : List E3) (hn : es.length ≤ 40) (N : Int) (hok : ∀ e ∈ es, okE N e) (w : World) (h : Reads w w.heap.size 3 A es.length (edgeCells es)) :
    Calls Tryz.prog 149 #[.agg #[.int .i64 n, .slice A es.length c]] w fun e w' => ∃ A' c', e = .returned (.slice A' (sizeE es) c') ∧ Below w.heap.size w w' := by
  have HO := Lib.hid hok
  have HSZ : Hid (∀ k, sizeE (es.take k) ≤ 2000) := fun k => Nat.le_trans (sizeE_bd (N := N) fun e he => hok e (List.mem_of_mem_take he)) (by rw [List.length_take]; omega)
  have g0 := Blk.new w 24 #[.int .i64 n, .slice A es.length c]
  clear hok
  go_enter Tryz.func149, Tryz.ntmps149
  go_wp2
  go_loopw [3, 4] (fun s i wr => ∃ (k : Nat) (A' : Option Addr) (c' : Nat) (m : Nat) (vs : List Value), k ≤ es.length ∧ i = .int .i64 k ∧ s = .slice A' m c' ∧ Hid (sizeE (es.take k) = m) ∧ wr.ownsRow w.heap.size 193 2 (.slice A' m c') m vs ∧ Below w.heap.size w wr ∧ Blk wr w.heap.size 24 #[.int .i64 n, .slice A es.length c]) (fun _ i _ => es.length - (intOf i).toNat)
  case atStart => exact ⟨0, none, 0, 0, [], by omega, rfl, rfl, rfl, World.ownsRow_nil _ _ _ _, (Below.refl _ _).alloc (Nat.le_refl _) _, g0⟩
  case round =>
    obtain ⟨k, A', c', m, vs, hk, rfl, rfl, HM, hown, hbel, g1⟩ := hrel
    clear g0
    have c1 := g1.cell 1
    by_cases hlt : k < es.length
    · obtain ⟨⟨x, y, z⟩, hx⟩ := get_of_lt hlt
      have hokx := HO.out _ (List.mem_of_getElem? hx)
      unfold okE at hokx
      dsimp only at hokx
      obtain ⟨zn, rfl⟩ := Int.eq_ofNat_of_zero_le (show 0 ≤ z by omega)
      have hst := sizeE_take hx
      rw [HM.out] at hst
      dsimp only at hst
      rw [Int.toNat_natCast] at hst
      have hmax := HSZ.out (k + 1)
      rw [hst] at hmax
      have HST := Lib.hid hst
      have HX := Lib.hid hx
      have hi : (k : Int) < (es.length : Int) := by omega
      clear hst hx hokx
      go_wp2
      obtain ⟨wo, rfl⟩ : ∃ wo : World, wo = wr := ⟨_, rfl⟩
      go_loopw [3, 5] (fun s i wr => ∃ (j : Nat) (A' : Option Addr) (c' : Nat) (vs : List Value), j ≤ zn ∧ i = .int .i64 j ∧ s = .slice A' (m + j) c' ∧ wr.ownsRow w.heap.size 193 2 (.slice A' (m + j) c') (m + j) vs ∧ Below w.heap.size w wr ∧ Blk wr w.heap.size 24 #[.int .i64 n, .slice A es.length c]) (fun _ i _ => zn - (intOf i).toNat)
      case atStart => exact ⟨0, A', c', vs, by omega, rfl, rfl, hown, hbel, g1⟩
      case round =>
        clear hown hbel g1 c1
        obtain ⟨j, A', c', vs, hj, rfl, rfl, hown, hbel, g1⟩ := hrel
        have hsz := hbel.size
        have c1 := g1.cell 1
        obtain ⟨bb, off, rfl, hbb, q1, q2, q3⟩ := (h.below hbel).edge HX.out
        dsimp only at q1 q2 q3
        by_cases hlt2 : j < zn
        · have hi2 : (j : Int) < (zn : Int) := by omega
          have hownA : (wr.drew.alloc (.cells #[.int .i64 x, .int .i64 y] 193)).ownsRow w.heap.size 193 2 (.slice A' (m + j) c') (m + j) vs := World.ownsRow.alloc (World.ownsRow.drew hown) _
          have hz : w.heap.size ≤ (wr.drew.alloc (.cells #[.int .i64 x, .int .i64 y] 193)).heap.size := by show _ ≤ (wr.alloc _).heap.size; simp; omega
          go_wp2
          go_region_law (refine append_step2 rfl (.tmp 23) (.tmp 37) _ _ rfl w.heap.size 193 193 Tryz.underlying158 Tryz.underlying158 info_pair2 rfl (by omega) A' c' (m + j) vs rfl (by exact hownA) _ [.int .i64 x, .int .i64 y] rfl (by exact Reads.boxN wr.drew #[.int .i64 x, .int .i64 y] 193) (by simp [Value.oneCell']) (by omega) (by exact hz) ?_; intro A3 c3 W3 hown3 hgr3 hb3 _)
          all_goals (
            have g2 : Blk W3 w.heap.size 24 #[.int .i64 n, .slice (some ⟨bb, off, none⟩) es.length c] := Blk.grown (h := (g1.drew.alloc (.cells #[.int .i64 x, .int .i64 y] 193))) hgr3 (own_blk_ne hownA (g1.drew.alloc _) (by decide))
            have hb4 : Below w.heap.size w W3 := (hbel.drew.alloc hsz (.cells #[.int .i64 x, .int .i64 y] 193)).trans hb3
            go_wp2
            go_roundw
            case rel => exact ⟨j + 1, A3, c3, _, by omega, by go_num, rfl, hown3, hb4, g2⟩
            case measure => simp [intOf]; omega)
        · obtain rfl : j = zn := by omega
          go_wp2
          go_roundw
          case rel => exact ⟨k + 1, A', c', m + j, vs, by omega, by go_num, rfl, HST.out, hown, hbel, g1⟩
          case measure => simp [intOf]; omega
    · obtain rfl : k = es.length := by omega
      rw [List.take_length] at HM
      go_wp2
      go_ret
      exact ⟨A', c', by rw [HM.out]; rfl, hbel⟩
set_option maxHeartbeats 1000000 in
theorem rsize_any (n : Int) (A : Option Addr) (c : Nat) (es : List E3) (hn : es.length ≤ 40) (N : Int) (hok : ∀ e ∈ es, okE N e) (w : World) (h : Reads w w.heap.size 3 A es.length (edgeCells es)) :
    Calls Tryz.prog 111 #[.agg #[.int .i64 n, .slice A es.length c]] w fun e w' => e = .returned (.int .i64 (sizeE es : Nat)) ∧ Below w.heap.size w w' := by
  have EC := Lib.hid (rends_any n A c es hn N hok)
  go_enter Tryz.func111, Tryz.ntmps111
  go_wp2_with fail
  refine (EC.out _ ((h.alloc (Nat.le_refl _) _).more (by simp))).mono ?_
  rintro e w1 ⟨A1, c1, rfl, hb1⟩
  have hbel1 : Below w.heap.size w w1 := ((Below.refl _ _).alloc (Nat.le_refl _) _).trans (hb1.mono (by simp))
  go_wp2
  go_ret
  exact ⟨rfl, hbel1⟩

/-- Few vertices and single edges, or an error. -/
def smallB (n : Int) (es : List E3) (a b : Int) : Bool := if 40 < es.length then false else if checkG n es ≠ 0 then true else decide (n ≤ a) && decide ((sizeE es : Int) ≤ b)
set_option maxRecDepth 100000 in
set_option maxHeartbeats 1000000 in
theorem rsmall_any (n : Int) (A : Option Addr) (c : Nat) (es : List E3) (a b : Int) (w : World) (h : Reads w w.heap.size 3 A es.length (edgeCells es)) :
    Calls Tryz.prog 72 #[.agg #[.int .i64 n, .slice A es.length c], .int .i64 a, .int .i64 b] w fun e w' => e = .returned (.bool (smallB n es a b)) ∧ Below w.heap.size w w' := by
  have g0 := Blk.new w 24 #[.int .i64 n, .slice A es.length c]
  by_cases h1 : 40 < es.length
  · have hd : smallB n es a b = false := by unfold smallB; rw [if_pos h1]
    rw [hd]
    have hi : (40 : Int) < (es.length : Int) := by omega
    go_enter Tryz.func72, Tryz.ntmps72
    go_wp2
    go_ret
    exact ⟨rfl, (Below.refl _ _).alloc (Nat.le_refl _) _⟩
  have hi : ¬ (40 : Int) < (es.length : Int) := by omega
  have GC := rgcheck_any n A c es (by omega)
  by_cases h2 : checkG n es = 0
  · have hd : smallB n es a b = (decide (n ≤ a) && decide ((sizeE es : Int) ≤ b)) := by unfold smallB; rw [if_neg h1, if_neg (fun hc => hc h2)]
    rw [hd]
    rw [h2] at GC
    have hG := right_of h2
    have SC := Lib.hid (rsize_any n A c es (by omega) n hG.ok)
    have GC := Lib.hid GC
    clear h2 hd hG
    by_cases h3 : n ≤ a
    · have hd3 : decide (n ≤ a) = true := decide_eq_true h3
      go_enter Tryz.func72, Tryz.ntmps72
      go_wp2_with fail
      refine (GC.out _ ((h.alloc (Nat.le_refl _) _).more (by simp))).mono ?_
      rintro e w1 ⟨rfl, hb1⟩
      have hbel1 : Below w.heap.size w w1 := ((Below.refl _ _).alloc (Nat.le_refl _) _).trans (hb1.mono (by simp))
      have g1 := g0.next hb1
      have c0 := g1.cell 0
      have c1 := g1.cell 1
      go_wp2_with fail
      refine (SC.out _ ((h.below hbel1).more hbel1.size)).mono ?_
      rintro e w2 ⟨rfl, hb2⟩
      go_wp2
      go_ret
      exact ⟨ret_bool (by simp [h3]), hbel1.trans (hb2.mono hbel1.size)⟩
    · have hd3 : decide (n ≤ a) = false := decide_eq_false h3
      go_enter Tryz.func72, Tryz.ntmps72
      go_wp2_with fail
      refine (GC.out _ ((h.alloc (Nat.le_refl _) _).more (by simp))).mono ?_
      rintro e w1 ⟨rfl, hb1⟩
      have hbel1 : Below w.heap.size w w1 := ((Below.refl _ _).alloc (Nat.le_refl _) _).trans (hb1.mono (by simp))
      have g1 := g0.next hb1
      have c0 := g1.cell 0
      have c1 := g1.cell 1
      go_wp2
      go_ret
      exact ⟨ret_bool (by rw [hd3]; rfl), hbel1⟩
  · have hd : smallB n es a b = true := by unfold smallB; rw [if_neg h1, if_pos h2]
    rw [hd]
    obtain ⟨q, hq⟩ : ∃ q, checkG n es = q := ⟨_, rfl⟩
    rw [hq] at GC h2
    have hb : (q != 0) = true := by simpa using h2
    have GC := Lib.hid GC
    clear h2 hd hq
    go_enter Tryz.func72, Tryz.ntmps72
    go_wp2_with fail
    refine (GC.out _ ((h.alloc (Nat.le_refl _) _).more (by simp))).mono ?_
    rintro e w1 ⟨rfl, hb1⟩
    have hbel1 : Below w.heap.size w w1 := ((Below.refl _ _).alloc (Nat.le_refl _) _).trans (hb1.mono (by simp))
    go_wp2
    go_ret
    exact ⟨rfl, hbel1⟩
end Go.Proofs.YtdnoeaoelgehcaaGreat

/-! ref08.Few, ref17.Few, ref18.Few, ref23.Few. -/
namespace Go.Proofs.YtdnoeaoelgehcaaGreat
open Go.RowKit

set_option maxHeartbeats 1000000 in
theorem gfew_any (n : Int) (A : Option Addr) (c : Nat) (es : List E3) (w : World) (h : Reads w w.heap.size 3 A es.length (edgeCells es)) :
    Calls Tryz.prog 90 #[.agg #[.int .i64 n, .slice A es.length c]] w fun e w' => e = .returned (.bool (smallB n es 6 9)) ∧ Below w.heap.size w w' := by
  have SC := Lib.hid (rsmall_any n A c es 6 9)
  go_enter Tryz.func90, Tryz.ntmps90
  go_wp2_with fail
  refine (SC.out _ ((h.alloc (Nat.le_refl _) _).more (by simp))).mono ?_
  rintro e w1 ⟨rfl, hb1⟩
  have hbel1 : Below w.heap.size w w1 := ((Below.refl _ _).alloc (Nat.le_refl _) _).trans (hb1.mono (by simp))
  go_wp2
  go_ret
  exact ⟨rfl, hbel1⟩
set_option maxHeartbeats 1000000 in
theorem dfew_any (A : Option Addr) (c m : Nat) (w : World) :
    Calls Tryz.prog 91 #[.slice A m c] w fun e w' => e = .returned (.bool (decide (m ≤ 24))) ∧ w = w' := by
  go_enter Tryz.func91, Tryz.ntmps91
  go_wp2
  go_ret
  exact ⟨ret_bool (by rw [Bool.eq_iff_iff]; simp; try omega), rfl⟩
/-- A small graph with a small divisor. -/
def few18 (n : Int) (es : List E3) (cs : List Int) : Bool := smallB n es 6 9 && decide (cs.length ≤ 24)
set_option maxHeartbeats 1000000 in
theorem few18_any (n : Int) (A : Option Addr) (c : Nat) (es : List E3) (B : Option Addr) (d : Nat) (cs : List Int) (w : World) (h : Reads w w.heap.size 3 A es.length (edgeCells es)) :
    Calls Tryz.prog 43 #[.agg #[.int .i64 n, .slice A es.length c], .slice B cs.length d] w fun e w' => e = .returned (.bool (few18 n es cs)) ∧ Below w.heap.size w w' := by
  have SC := gfew_any n A c es
  unfold few18
  obtain ⟨r, hr⟩ : ∃ r, smallB n es 6 9 = r := ⟨_, rfl⟩
  rw [hr] at SC ⊢
  have SC := Lib.hid SC
  clear hr
  cases r
  · go_enter Tryz.func43, Tryz.ntmps43
    go_wp2_with fail
    refine (SC.out _ ((h.alloc (Nat.le_refl _) _).more (by simp))).mono ?_
    rintro e w1 ⟨rfl, hb1⟩
    have hbel1 : Below w.heap.size w w1 := ((Below.refl _ _).alloc (Nat.le_refl _) _).trans (hb1.mono (by simp))
    go_wp2
    go_ret
    exact ⟨rfl, hbel1⟩
  · go_enter Tryz.func43, Tryz.ntmps43
    go_wp2_with fail
    refine (SC.out _ ((h.alloc (Nat.le_refl _) _).more (by simp))).mono ?_
    rintro e w1 ⟨rfl, hb1⟩
    have hbel1 : Below w.heap.size w w1 := ((Below.refl _ _).alloc (Nat.le_refl _) _).trans (hb1.mono (by simp))
    go_wp2_with fail
    refine (dfew_any B d cs.length w1).mono ?_
    rintro e w2 ⟨rfl, rfl⟩
    go_wp2
    go_ret
    exact ⟨rfl, hbel1⟩
/-- .. whose chips are few. -/
def few23 (n : Int) (es : List E3) (cs : List Int) : Bool := few18 n es cs && cs.all fun x => !(decide (60 < x) && decide (x ≤ 1048576))
theorem few23_at {n : Int} {es : List E3} {cs : List Int} {k : Nat} {x : Int} (hx : cs[k]? = some x) (h1 : 60 < x) (h2 : x ≤ 1048576) : few23 n es cs = false := by
  unfold few23
  have : (cs.all fun x => !(decide (60 < x) && decide (x ≤ 1048576))) = false := by
    rw [Bool.eq_false_iff]; intro h; rw [List.all_eq_true] at h
    have := h x (List.mem_of_getElem? hx)
    simp at this
    omega
  rw [this, Bool.and_false]
set_option maxHeartbeats 2000000 in
theorem few23_any (n : Int) (A : Option Addr) (c : Nat) (es : List E3) (B : Option Addr) (d : Nat) (cs : List Int) (w : World) (h : Reads w w.heap.size 3 A es.length (edgeCells es)) (h' : Reads w w.heap.size 1 B cs.length (ints cs)) :
    Calls Tryz.prog 8 #[.agg #[.int .i64 n, .slice A es.length c], .slice B cs.length d] w fun e w' => e = .returned (.bool (few23 n es cs)) ∧ Below w.heap.size w w' := by
  have SC := few18_any n A c es B d cs
  cases hr : few18 n es cs
  · have hd : few23 n es cs = false := by unfold few23; rw [hr]; rfl
    rw [hd]
    rw [hr] at SC
    have SC := Lib.hid SC
    clear hr hd
    go_enter Tryz.func8, Tryz.ntmps8
    go_wp2_with fail
    refine (SC.out _ ((h.alloc (Nat.le_refl _) _).more (by simp))).mono ?_
    rintro e w1 ⟨rfl, hb1⟩
    have hbel1 : Below w.heap.size w w1 := ((Below.refl _ _).alloc (Nat.le_refl _) _).trans (hb1.mono (by simp))
    go_wp2
    go_ret
    exact ⟨rfl, hbel1⟩
  · have hcl : cs.length ≤ 24 := by unfold few18 at hr; simp at hr; exact hr.2
    have HF : Hid (∀ (k : Nat) (x : Int), cs[k]? = some x → 60 < x → x ≤ 1048576 → few23 n es cs = false) := fun k x hx h1 h2 => few23_at hx h1 h2
    have HT : Hid ((cs.take cs.length).all (fun x => !(decide (60 < x) && decide (x ≤ 1048576))) = true → few23 n es cs = true) := by
      intro ha
      rw [List.take_length] at ha
      unfold few23; rw [hr, ha]; rfl
    obtain ⟨r, hr2⟩ : ∃ r, few23 n es cs = r := ⟨_, rfl⟩
    rw [hr2] at HF HT ⊢
    rw [hr] at SC
    have SC := Lib.hid SC
    clear hr hr2
    go_enter Tryz.func8, Tryz.ntmps8
    go_wp2_with fail
    refine (SC.out _ ((h.alloc (Nat.le_refl _) _).more (by simp))).mono ?_
    rintro e w1 ⟨rfl, hb1⟩
    have hbel1 : Below w.heap.size w w1 := ((Below.refl _ _).alloc (Nat.le_refl _) _).trans (hb1.mono (by simp))
    have hr1 := h'.below hbel1
    go_wp2
    go_loop [5] (fun i => ∃ k : Nat, k ≤ cs.length ∧ i = .int .i64 k ∧ Hid ((cs.take k).all (fun x => !(decide (60 < x) && decide (x ≤ 1048576))) = true)) (fun i => cs.length - (intOf i).toNat)
    case atStart => exact ⟨0, by omega, rfl, by simp [Hid]⟩
    case round =>
      obtain ⟨k, hk, rfl, HS⟩ := hrel
      by_cases hlt : k < cs.length
      · obtain ⟨x, hx⟩ := get_of_lt hlt
        obtain ⟨b, off, rfl, hb', hcell⟩ := hr1.at_ (ints_at hx)
        have hi : (k : Int) < (cs.length : Int) := by omega
        have HX := Lib.hid hx
        clear hx h h'
        by_cases h1 : 60 < x
        · by_cases h2 : x ≤ 1048576
          · obtain rfl := HF.out k x HX.out h1 h2
            go_wp2
            go_ret
            exact ⟨rfl, hbel1⟩
          · have HN : Hid ((cs.take (k + 1)).all (fun x => !(decide (60 < x) && decide (x ≤ 1048576))) = true) := by
              rw [take_snoc HX.out, Hid, List.all_append, HS.out]; simp; omega
            have h3 : 1048576 < x := by omega
            go_wp2
            go_round
            case rel => exact ⟨k + 1, by omega, by go_num, HN⟩
            case measure => simp [intOf]; omega
        · have HN : Hid ((cs.take (k + 1)).all (fun x => !(decide (60 < x) && decide (x ≤ 1048576))) = true) := by
            rw [take_snoc HX.out, Hid, List.all_append, HS.out]; simp; omega
          have h3 : x ≤ 60 := by omega
          go_wp2
          go_round
          case rel => exact ⟨k + 1, by omega, by go_num, HN⟩
          case measure => simp [intOf]; omega
      · obtain rfl : k = cs.length := by omega
        obtain rfl := HT.out HS.out
        go_wp2
        go_ret
        exact ⟨rfl, hbel1⟩
theorem few23_parts {n : Int} {es : List E3} {cs : List Int} (h : few23 n es cs = true) : es.length ≤ 40 ∧ cs.length ≤ 24 ∧ (checkG n es = 0 → n ≤ 6 ∧ sizeE es ≤ 9) ∧ ∀ x ∈ cs, x ≤ 1048576 → x ≤ 60 := by
  unfold few23 few18 smallB at h
  rw [Bool.and_eq_true, Bool.and_eq_true, List.all_eq_true] at h
  obtain ⟨⟨h1, h2⟩, h3⟩ := h
  split at h1
  · cases h1
  · rename_i h4
    refine ⟨by omega, by simpa using h2, fun hc => ?_, fun x hx h5 => ?_⟩
    · rw [if_neg (fun h => h hc), Bool.and_eq_true] at h1
      have e1 := of_decide_eq_true h1.1
      have e2 := of_decide_eq_true h1.2
      exact ⟨e1, by omega⟩
    · have := h3 x hx
      simp at this
      omega
end Go.Proofs.YtdnoeaoelgehcaaGreat

