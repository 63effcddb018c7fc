/-
  Texts of this claim, put together: MadeG, RChips, Reach.
-/
import Derived.Test.YtepmfbgmkfkmkaaK24
import Derived.Test.YtepmfbgmkfkmkaaK10
import Derived.Test.YtepmfbgmkfkmkaaK06
import Derived.Test.YtepmfbgmkfkmkaaK05
import Derived.Test.YtepmfbgmkfkmkaaK13
/-! The graph of a list of single edges: it is right, and connects what they connect. -/
namespace Go.Proofs.Ytepmfbgmkfkmkaa
open Go.RowKit

theorem mem_joinRow {f : Nat → Nat → Int} {a n : Nat} {e : E3} : e ∈ joinRow f a n ↔ ∃ b, a ≤ b ∧ b < n ∧ 0 < f a b ∧ e = ((a : Int), (b : Int), f a b) := by
  unfold joinRow
  rw [List.mem_filterMap]
  constructor
  · rintro ⟨j, hj, h⟩
    rw [List.mem_range'_1] at hj
    split at h
    · rename_i hp
      injection h with h
      exact ⟨j, hj.1, by omega, hp, h.symm⟩
    · cases h
  · rintro ⟨b, h1, h2, h3, rfl⟩
    exact ⟨b, by rw [List.mem_range'_1]; omega, by rw [if_pos h3]⟩
theorem mem_joinTo {f : Nat → Nat → Int} {n k : Nat} {e : E3} : e ∈ joinTo f n k ↔ ∃ a b, a < k ∧ a ≤ b ∧ b < n ∧ 0 < f a b ∧ e = ((a : Int), (b : Int), f a b) := by
  unfold joinTo
  rw [List.mem_flatMap]
  constructor
  · rintro ⟨a, ha, h⟩
    obtain ⟨b, h1, h2, h3, h4⟩ := mem_joinRow.1 h
    exact ⟨a, b, by simpa using ha, h1, h2, h3, h4⟩
  · rintro ⟨a, b, h0, h1, h2, h3, h4⟩
    exact ⟨a, by simpa using h0, mem_joinRow.2 ⟨b, h1, h2, h3, h4⟩⟩
theorem joinRow_sorted (f : Nat → Nat → Int) (a : Nat) : ∀ n, (joinRow f a n).Pairwise ltE
  | 0 => by rw [joinRow_none (by omega)]; exact .nil
  | n + 1 => by
    by_cases h : a ≤ n
    · rw [joinRow_succ h, List.pairwise_append]
      refine ⟨joinRow_sorted f a n, ?_, ?_⟩
      · split
        · exact List.pairwise_singleton _ _
        · exact .nil
      · intro x hx y hy
        obtain ⟨b, h1, h2, h3, rfl⟩ := mem_joinRow.1 hx
        split at hy
        · rw [List.mem_singleton] at hy
          subst hy
          unfold ltE; dsimp only; omega
        · simp at hy
    · rw [joinRow_none (by omega)]; exact .nil
theorem joinTo_sorted (f : Nat → Nat → Int) (n : Nat) : ∀ k, (joinTo f n k).Pairwise ltE
  | 0 => by simp [joinTo]
  | k + 1 => by
    rw [joinTo_succ, List.pairwise_append]
    refine ⟨joinTo_sorted f n k, joinRow_sorted f k n, ?_⟩
    intro x hx y hy
    obtain ⟨a, b, h0, h1, h2, h3, rfl⟩ := mem_joinTo.1 hx
    obtain ⟨b', h1', h2', h3', rfl⟩ := mem_joinRow.1 hy
    unfold ltE; dsimp only; omega
theorem joined_right {f : Nat → Nat → Int} {n : Nat} (h1 : 1 ≤ n) (hn : n ≤ 12) (hf : ∀ a b, a < n → b < n → f a b ≤ 50) : RightG n (joined f n) := by
  refine ⟨by omega, by omega, ?_, joinTo_sorted f n n⟩
  intro e he
  obtain ⟨a, b, h0, h2, h3, h4, rfl⟩ := mem_joinTo.1 he
  have := hf a b h0 h3
  unfold okE; dsimp only; omega
theorem joined_check {f : Nat → Nat → Int} {n : Nat} (h1 : 1 ≤ n) (hn : n ≤ 12) (hf : ∀ a b, a < n → b < n → f a b ≤ 50) : checkG n (joined f n) = 0 := by
  have hG := joined_right h1 hn hf
  have key : ∀ (es : List E3) (p : Option E3), (∀ e ∈ es, okE n e) → es.Pairwise ltE → (∀ y, p = some y → ∀ e ∈ es, ltE y e) → edgesErr n p es = 0 := by
    intro es
    induction es with
    | nil => intro p _ _ _; rfl
    | cons e es ih =>
      intro p ho hs hp
      rw [List.pairwise_cons] at hs
      have he : edgeErr n p e = 0 := by
        have hoe := ho e (by simp)
        unfold okE at hoe
        unfold edgeErr
        rw [if_neg (by omega), if_neg (by omega)]
        cases p with
        | none => rfl
        | some y =>
          have := hp y rfl e (by simp)
          unfold ltE at this
          dsimp only
          rw [if_neg (by omega)]
      rw [edgesErr, if_pos he]
      exact ih (some e) (fun x hx => ho x (by simp [hx])) hs.2 (fun y hy x hx => by injection hy with hy; subst hy; exact hs.1 x hx)
  unfold checkG
  rw [if_neg (by omega)]
  exact key _ _ hG.ok hG.sorted (fun y hy => by cases hy)
theorem joined_btw {f : Nat → Nat → Int} {n : Nat} (h1 : 1 ≤ n) (hn : n ≤ 12) (hf : ∀ a b, a < n → b < n → f a b ≤ 50) (h0 : ∀ a b, 0 ≤ f a b) {a b : Nat} (ha : a < n) (hb : b < n) : btw (joined f n) a b = f (min a b) (max a b) := by
  have hG := joined_right h1 hn hf
  by_cases hp : 0 < f (min a b) (max a b)
  · have hm : (((min a b : Nat) : Int), ((max a b : Nat) : Int), f (min a b) (max a b)) ∈ joined f n := mem_joinTo.2 ⟨min a b, max a b, by omega, by omega, by omega, hp, rfl⟩
    have := btw_mem hG.sorted hm (by dsimp only; omega)
    dsimp only at this
    rw [← this]
    rcases Nat.le_total a b with h | h
    · rw [Nat.min_eq_left h, Nat.max_eq_right h]
    · rw [Nat.min_eq_right h, Nat.max_eq_left h, btw_comm]
  · have hz : f (min a b) (max a b) = 0 := by have := h0 (min a b) (max a b); omega
    rw [hz]
    refine btw_none fun e he => ?_
    obtain ⟨x, y, k0, k1, k2, k3, rfl⟩ := mem_joinTo.1 he
    dsimp only
    rintro ⟨e1, e2⟩
    have hx : x = min a b := by omega
    have hy : y = max a b := by omega
    subst hx hy
    omega
theorem cnt_le (ps : List (Nat × Nat)) (a b : Nat) : cnt ps a b ≤ ps.length := List.length_filter_le _ _
theorem cnt_pos {ps : List (Nat × Nat)} {a b : Nat} : 0 < cnt ps a b ↔ ∃ p ∈ ps, min p.1 p.2 = a ∧ max p.1 p.2 = b := by
  unfold cnt
  rw [List.length_pos_iff_exists_mem]
  constructor
  · rintro ⟨p, hp⟩
    rw [List.mem_filter, Bool.and_eq_true, decide_eq_true_eq, decide_eq_true_eq] at hp
    exact ⟨p, hp.1, hp.2⟩
  · rintro ⟨p, h1, h2⟩
    exact ⟨p, by rw [List.mem_filter, Bool.and_eq_true, decide_eq_true_eq, decide_eq_true_eq]; exact ⟨h1, h2⟩⟩
theorem made_right {n : Nat} {ps : List (Nat × Nat)} (h1 : 1 ≤ n) (hn : n ≤ 12) (hl : ps.length ≤ 50) : RightG n (madeS n ps) := joined_right h1 hn fun a b _ _ => by have := cnt_le ps a b; omega
/-- It connects what the single edges connect. -/
theorem made_cn {n : Nat} {ps : List (Nat × Nat)} (h1 : 1 ≤ n) (hn : n ≤ 12) (hl : ps.length ≤ 50) (hb : BdP n ps) {a b : Nat} : Cn (endsL (madeS n ps)) a b ↔ Cn ps a b := by
  have hG := made_right h1 hn hl
  constructor
  · intro h
    induction h with
    | refl => exact .refl
    | step _ hs ih =>
      have key : ∀ {x y : Nat}, (x, y) ∈ endsL (madeS n ps) → Cn ps x y := by
        intro x y hxy
        obtain ⟨e, he, e1, e2⟩ := (mem_endsL hG.ok).1 hxy
        obtain ⟨u, v, k0, k1, k2, k3, rfl⟩ := mem_joinTo.1 he
        dsimp only at e1 e2
        obtain ⟨p, hp, m1, m2⟩ := cnt_pos.1 (by omega : 0 < cnt ps u v)
        have hc := Cn.pair hp
        rcases Nat.le_total p.1 p.2 with h | h
        · have q1 : p.1 = x := by omega
          have q2 : p.2 = y := by omega
          rw [q1, q2] at hc; exact hc
        · have q1 : p.1 = y := by omega
          have q2 : p.2 = x := by omega
          rw [q1, q2] at hc; exact hc.symm
      rcases hs with hs | hs
      · exact ih.trans (key hs)
      · exact ih.trans (key hs).symm
  · intro h
    induction h with
    | refl => exact .refl
    | step _ hs ih =>
      have key : ∀ {x y : Nat}, (x, y) ∈ ps → Cn (endsL (madeS n ps)) x y := by
        intro x y hxy
        have hb' := hb _ hxy
        dsimp only at hb'
        have hc : 0 < cnt ps (min x y) (max x y) := cnt_pos.2 ⟨(x, y), hxy, rfl, rfl⟩
        have hm : (((min x y : Nat) : Int), ((max x y : Nat) : Int), (cnt ps (min x y) (max x y) : Int)) ∈ madeS n ps := mem_joinTo.2 ⟨min x y, max x y, by omega, by omega, by omega, by omega, rfl⟩
        have : (min x y, max x y) ∈ endsL (madeS n ps) := (mem_endsL hG.ok).2 ⟨_, hm, rfl, rfl⟩
        have hc2 := Cn.pair this
        dsimp only at hc2
        rcases Nat.le_total x y with h | h
        · rw [Nat.min_eq_left h, Nat.max_eq_right h] at hc2; exact hc2
        · rw [Nat.min_eq_right h, Nat.max_eq_left h] at hc2; exact hc2.symm
      rcases hs with hs | hs
      · exact ih.trans (key hs)
      · exact ih.trans (key hs).symm
theorem made_parts {n : Nat} {ps : List (Nat × Nat)} (h1 : 1 ≤ n) (hn : n ≤ 12) (hl : ps.length ≤ 50) (hb : BdP n ps) : connB n (madeS n ps) = decide (partsP n ps = 1) := by
  rw [connB_parts (made_right h1 hn hl), partsP_congr fun _ _ => made_cn h1 hn hl hb]
theorem pairCells_pair2 (ps : List (Nat × Nat)) : pairCells ps = pair2 ps := by
  induction ps with
  | nil => rfl
  | cons p ps ih => rw [pairCells, ih]; rfl
end Go.Proofs.Ytepmfbgmkfkmkaa

/-! ref08.Between; the error of a divisor: ref17.Check. -/
namespace Go.Proofs.Ytepmfbgmkfkmkaa
open Go.RowKit

set_option maxRecDepth 100000 in
set_option maxHeartbeats 2000000 in
/-- ref08.Between -/
theorem between_any (n : Int) (A : Option Addr) (c : Nat) (es : List E3) (hn : es.length ≤ 1048576) (a b : Int) (w : World) (h : Reads w w.heap.size 3 A es.length (edgeCells es)) :
    Calls Try.prog 88 #[.agg #[.int .i64 n, .slice A es.length c], .int .i64 a, .int .i64 b] w fun e w' => e = .returned (.int .i64 (btw es a b)) ∧ Below w.heap.size w w' := by
  obtain ⟨r, hr⟩ : ∃ r, btw es a b = r := ⟨_, rfl⟩
  rw [hr]
  have HR := Lib.hid hr
  clear hr
  rcases Int.lt_trichotomy a b with hab | rfl | hab
  · have hba : ¬ b < a := by omega
    go_enter Try.func88, Try.ntmps88
    go_wp2
    go_loopw [7] (fun i wr => ∃ k : Nat, k ≤ es.length ∧ i = .int .i64 k ∧ Below w.heap.size w wr ∧ Blk wr w.heap.size 24 #[.int .i64 n, .slice A es.length c] ∧ Hid (btw es a b = btw (es.drop k) a b)) (fun i _ => es.length - (intOf i).toNat)
    case atStart => exact ⟨0, by omega, rfl, (Below.refl _ _).alloc (Nat.le_refl _) _, Blk.new _ _ _, by simp [Hid]⟩
    case round =>
      obtain ⟨k, hk, rfl, hbel, g1, HS⟩ := hrel
      have c1 := g1.cell 1
      have hsz := hbel.size
      have hlt0 := g1.lt
      by_cases hlt : k < es.length
      · obtain ⟨⟨x, y, m⟩, hx⟩ := get_of_lt hlt
        have hi : (k : Int) < (es.length : Int) := by omega
        have hd := btw_drop hx a b
        rw [show min a b = a from by omega, show max a b = b from by omega] at hd
        dsimp only at hd
        obtain ⟨bb, off, rfl, hb, q1, q2, q3⟩ := (h.below hbel).edge hx
        have G1 := g1.alloc (.cells #[.int .i64 x, .int .i64 y, .int .i64 m] 82)
        dsimp only at q1 q2 q3
        have HB := Lib.hid (hbel.alloc (Nat.le_trans (by simp) hsz) (.cells #[.int .i64 x, .int .i64 y, .int .i64 m] 82))
        clear hx h hbel
        by_cases h1 : x = a
        · by_cases h2 : y = b
          · rw [if_pos ⟨h1, h2⟩] at hd
            have HD := Lib.hid hd
            have e1 : (x == a) = true := by simpa using h1
            have e2 : (y == b) = true := by simpa using h2
            clear hd h1 h2
            go_wp2
            go_ret
            exact ⟨ret_int (by rw [← HR.out, HS.out, HD.out]), HB.out⟩
          · rw [if_neg (fun hc => h2 hc.2)] at hd
            have HD := Lib.hid hd
            have e1 : (x == a) = true := by simpa using h1
            have e2 : (y == b) = false := by simpa using h2
            clear hd h1 h2
            go_wp2
            go_roundw
            case rel => exact ⟨k + 1, by omega, by go_num, HB.out, G1, by rw [Hid, HS.out, HD.out]⟩
            case measure => simp [intOf]; omega
        · rw [if_neg (fun hc => h1 hc.1)] at hd
          have HD := Lib.hid hd
          have e1 : (x == a) = false := by simpa using h1
          clear hd h1
          go_wp2
          go_roundw
          case rel => exact ⟨k + 1, by omega, by go_num, HB.out, G1, by rw [Hid, HS.out, HD.out]⟩
          case measure => simp [intOf]; omega
      · go_wp2
        go_ret
        refine ⟨ret_int ?_, hbel⟩
        have e : btw es a b = 0 := by rw [HS.out, List.drop_eq_nil_of_le (by omega)]; rfl
        rw [← HR.out, e]
  · go_enter Try.func88, Try.ntmps88
    go_wp2
    go_loopw [7] (fun i wr => ∃ k : Nat, k ≤ es.length ∧ i = .int .i64 k ∧ Below w.heap.size w wr ∧ Blk wr w.heap.size 24 #[.int .i64 n, .slice A es.length c] ∧ Hid (btw es a a = btw (es.drop k) a a)) (fun i _ => es.length - (intOf i).toNat)
    case atStart => exact ⟨0, by omega, rfl, (Below.refl _ _).alloc (Nat.le_refl _) _, Blk.new _ _ _, by simp [Hid]⟩
    case round =>
      obtain ⟨k, hk, rfl, hbel, g1, HS⟩ := hrel
      have c1 := g1.cell 1
      have hsz := hbel.size
      have hlt0 := g1.lt
      by_cases hlt : k < es.length
      · obtain ⟨⟨x, y, m⟩, hx⟩ := get_of_lt hlt
        have hi : (k : Int) < (es.length : Int) := by omega
        have hd := btw_drop hx a a
        rw [show min a a = a from by omega, show max a a = a from by omega] at hd
        dsimp only at hd
        obtain ⟨bb, off, rfl, hb, q1, q2, q3⟩ := (h.below hbel).edge hx
        have G1 := g1.alloc (.cells #[.int .i64 x, .int .i64 y, .int .i64 m] 82)
        dsimp only at q1 q2 q3
        have HB := Lib.hid (hbel.alloc (Nat.le_trans (by simp) hsz) (.cells #[.int .i64 x, .int .i64 y, .int .i64 m] 82))
        clear hx h hbel
        by_cases h1 : x = a
        · by_cases h2 : y = a
          · rw [if_pos ⟨h1, h2⟩] at hd
            have HD := Lib.hid hd
            have e1 : (x == a) = true := by simpa using h1
            have e2 : (y == a) = true := by simpa using h2
            clear hd h1 h2
            go_wp2
            go_ret
            exact ⟨ret_int (by rw [← HR.out, HS.out, HD.out]), HB.out⟩
          · rw [if_neg (fun hc => h2 hc.2)] at hd
            have HD := Lib.hid hd
            have e1 : (x == a) = true := by simpa using h1
            have e2 : (y == a) = false := by simpa using h2
            clear hd h1 h2
            go_wp2
            go_roundw
            case rel => exact ⟨k + 1, by omega, by go_num, HB.out, G1, by rw [Hid, HS.out, HD.out]⟩
            case measure => simp [intOf]; omega
        · rw [if_neg (fun hc => h1 hc.1)] at hd
          have HD := Lib.hid hd
          have e1 : (x == a) = false := by simpa using h1
          clear hd h1
          go_wp2
          go_roundw
          case rel => exact ⟨k + 1, by omega, by go_num, HB.out, G1, by rw [Hid, HS.out, HD.out]⟩
          case measure => simp [intOf]; omega
      · go_wp2
        go_ret
        refine ⟨ret_int ?_, hbel⟩
        have e : btw es a a = 0 := by rw [HS.out, List.drop_eq_nil_of_le (by omega)]; rfl
        rw [← HR.out, e]
  · have hba : ¬ a < b := by omega
    go_enter Try.func88, Try.ntmps88
    go_wp2
    go_loopw [7] (fun i wr => ∃ k : Nat, k ≤ es.length ∧ i = .int .i64 k ∧ Below w.heap.size w wr ∧ Blk wr w.heap.size 24 #[.int .i64 n, .slice A es.length c] ∧ Hid (btw es a b = btw (es.drop k) a b)) (fun i _ => es.length - (intOf i).toNat)
    case atStart => exact ⟨0, by omega, rfl, (Below.refl _ _).alloc (Nat.le_refl _) _, Blk.new _ _ _, by simp [Hid]⟩
    case round =>
      obtain ⟨k, hk, rfl, hbel, g1, HS⟩ := hrel
      have c1 := g1.cell 1
      have hsz := hbel.size
      have hlt0 := g1.lt
      by_cases hlt : k < es.length
      · obtain ⟨⟨x, y, m⟩, hx⟩ := get_of_lt hlt
        have hi : (k : Int) < (es.length : Int) := by omega
        have hd := btw_drop hx a b
        rw [show min a b = b from by omega, show max a b = a from by omega] at hd
        dsimp only at hd
        obtain ⟨bb, off, rfl, hb, q1, q2, q3⟩ := (h.below hbel).edge hx
        have G1 := g1.alloc (.cells #[.int .i64 x, .int .i64 y, .int .i64 m] 82)
        dsimp only at q1 q2 q3
        have HB := Lib.hid (hbel.alloc (Nat.le_trans (by simp) hsz) (.cells #[.int .i64 x, .int .i64 y, .int .i64 m] 82))
        clear hx h hbel
        by_cases h1 : x = b
        · by_cases h2 : y = a
          · rw [if_pos ⟨h1, h2⟩] at hd
            have HD := Lib.hid hd
            have e1 : (x == b) = true := by simpa using h1
            have e2 : (y == a) = true := by simpa using h2
            clear hd h1 h2
            go_wp2
            go_ret
            exact ⟨ret_int (by rw [← HR.out, HS.out, HD.out]), HB.out⟩
          · rw [if_neg (fun hc => h2 hc.2)] at hd
            have HD := Lib.hid hd
            have e1 : (x == b) = true := by simpa using h1
            have e2 : (y == a) = false := by simpa using h2
            clear hd h1 h2
            go_wp2
            go_roundw
            case rel => exact ⟨k + 1, by omega, by go_num, HB.out, G1, by rw [Hid, HS.out, HD.out]⟩
            case measure => simp [intOf]; omega
        · rw [if_neg (fun hc => h1 hc.1)] at hd
          have HD := Lib.hid hd
          have e1 : (x == b) = false := by simpa using h1
          clear hd h1
          go_wp2
          go_roundw
          case rel => exact ⟨k + 1, by omega, by go_num, HB.out, G1, by rw [Hid, HS.out, HD.out]⟩
          case measure => simp [intOf]; omega
      · go_wp2
        go_ret
        refine ⟨ret_int ?_, hbel⟩
        have e : btw es a b = 0 := by rw [HS.out, List.drop_eq_nil_of_le (by omega)]; rfl
        rw [← HR.out, e]

end Go.Proofs.Ytepmfbgmkfkmkaa

/-! ref08.Reached, ref08.Parts, ref08.Connected. -/
namespace Go.Proofs.Ytepmfbgmkfkmkaa
open Go.RowKit

theorem bools_getB {o : List Bool} {k : Nat} (h : k < o.length) : (bools o)[k]? = some (.bool (getB o k)) := by
  simp [bools, getB, List.getD_eq_getElem?_getD, List.getElem?_eq_getElem h]

set_option maxRecDepth 100000 in
set_option maxHeartbeats 4000000 in
theorem reached_any (n : Nat) (hn12 : n ≤ 12) (A : Option Addr) (c : Nat) (es : List E3) (hn : es.length ≤ 1048576) (v : Nat) (hv : v < n) (w : World) (h : Reads w w.heap.size 3 A es.length (edgeCells es)) :
    Calls Try.prog 85 #[.agg #[.int .i64 n, .slice A es.length c], .int .i64 v] w fun e w' => ∃ g, e = .returned (.slice (some ⟨g, 0, none⟩) n n) ∧ Blk w' g 4 (bools (reached es n v)) ∧ w.heap.size ≤ g ∧ Below w.heap.size w w' := by
  have hmk := make_bools n (by omega)
  have hvi : (v : Int) < (n : Int) := by omega
  have hc0 : ((bools (List.replicate n false)))[v]? = some (.bool false) := by rw [bools_getB (by simpa using hv)]; simp [getB, List.getD_eq_getElem?_getD, hv]
  have g0 := (Blk.new w 24 #[.int .i64 n, .slice A es.length c]).alloc (.cells (bools (List.replicate n false)) 4)
  have gs := Blk.new (w.alloc (.cells #[.int .i64 n, .slice A es.length c] 24)) 4 (bools (List.replicate n false))
  rw [show (w.alloc (.cells #[.int .i64 n, .slice A es.length c] 24)).heap.size = w.heap.size + 1 from by simp] at gs
  have q1 := gs.cell v
  rw [hc0] at q1
  have q2 := gs.frozen v
  have HR : Hid (reached es n v = reachR es n ((List.replicate n false).set v true) n) := rfl
  obtain ⟨o0, ho0⟩ : ∃ o0, (List.replicate n false).set v true = o0 := ⟨_, rfl⟩
  have hl0 : o0.length = n := by rw [← ho0]; simp
  have e0 : (bools (List.replicate n false)).setIfInBounds v (.bool true) = bools o0 := by rw [bools_set, ho0]
  have g0' := (Blk.new w 24 #[.int .i64 n, .slice A es.length c]).alloc (.cells ((bools (List.replicate n false)).setIfInBounds v (.bool true)) 4)
  have gs' : Blk ((w.alloc (.cells #[.int .i64 n, .slice A es.length c] 24)).alloc (.cells ((bools (List.replicate n false)).setIfInBounds v (.bool true)) 4)) (w.heap.size + 1) 4 (bools o0) := by
    rw [← e0]
    have := Blk.new (w.alloc (.cells #[.int .i64 n, .slice A es.length c] 24)) 4 ((bools (List.replicate n false)).setIfInBounds v (.bool true))
    rwa [show (w.alloc (.cells #[.int .i64 n, .slice A es.length c] 24)).heap.size = w.heap.size + 1 from by simp] at this
  rw [ho0] at HR
  have HL := Lib.hid hl0
  clear ho0 hl0 hc0 g0 gs e0
  go_enter Try.func85, Try.ntmps85
  go_wp2
  go_loopw [6] (fun i wr => ∃ k : Nat, k ≤ n ∧ i = .int .i64 k ∧ Below w.heap.size w wr ∧ Blk wr w.heap.size 24 #[.int .i64 n, .slice A es.length c] ∧ Blk wr (w.heap.size + 1) 4 (bools (reachR es n o0 k))) (fun i _ => n - (intOf i).toNat)
  case atStart => exact ⟨0, by omega, rfl, ((Below.refl _ _).alloc (Nat.le_refl _) _).alloc (by simp) _, g0', gs'⟩
  case round =>
    obtain ⟨k, hk, rfl, hbel, g1, g2⟩ := hrel
    clear g0' gs' q1 q2 hmk
    obtain ⟨o1, ho1⟩ : ∃ o1, reachR es n o0 k = o1 := ⟨_, rfl⟩
    have hl1 : o1.length = n := by rw [← ho1, reachR_length, HL.out]
    have HO1 := Lib.hid ho1
    have HL1 := Lib.hid hl1
    rw [ho1] at g2
    clear ho1 hl1
    have c0 := g1.cell 0
    by_cases hlt : k < n
    · have hi : (k : Int) < (n : Int) := by omega
      go_wp2
      obtain ⟨wo, rfl⟩ : ∃ wo : World, wo = wr := ⟨_, rfl⟩
      clear c0
      go_loopw [7] (fun i wr => ∃ a : Nat, a ≤ n ∧ i = .int .i64 a ∧ Below w.heap.size w wr ∧ Blk wr w.heap.size 24 #[.int .i64 n, .slice A es.length c] ∧ Blk wr (w.heap.size + 1) 4 (bools (reachA es n o1 a))) (fun i _ => n - (intOf i).toNat)
      case atStart => exact ⟨0, by omega, rfl, hbel, g1, g2⟩
      case round =>
        obtain ⟨a, ha, rfl, hbel', g1', g2'⟩ := hrel
        clear hbel g1 g2
        obtain ⟨o2, ho2⟩ : ∃ o2, reachA es n o1 a = o2 := ⟨_, rfl⟩
        have hl2 : o2.length = n := by rw [← ho2, reachA_length, HL1.out]
        have HO2 := Lib.hid ho2
        have HL2 := Lib.hid hl2
        rw [ho2] at g2'
        clear ho2 hl2
        have c0 := g1'.cell 0
        by_cases hlta : a < n
        · have hi : (a : Int) < (n : Int) := by omega
          go_wp2
          obtain ⟨wo', rfl⟩ : ∃ wo : World, wo = wr := ⟨_, rfl⟩
          clear c0
          go_loopw [8] (fun i wr => ∃ b : Nat, b ≤ n ∧ i = .int .i64 b ∧ Below w.heap.size w wr ∧ Blk wr w.heap.size 24 #[.int .i64 n, .slice A es.length c] ∧ Blk wr (w.heap.size + 1) 4 (bools (reachB es a o2 b))) (fun i _ => n - (intOf i).toNat)
          case atStart => exact ⟨0, by omega, rfl, hbel', g1', g2'⟩
          case round =>
            obtain ⟨b, hb, rfl, hbel, g1, g2⟩ := hrel
            clear hbel' g1' g2'
            have hbs := reachB_succ es a o2 b
            obtain ⟨o3, ho3⟩ : ∃ o3, reachB es a o2 b = o3 := ⟨_, rfl⟩
            have hl3 : o3.length = n := by rw [← ho3, reachB_length, HL2.out]
            rw [ho3] at g2 hbs
            have HO3 := Lib.hid ho3
            clear ho3
            have c0 := g1.cell 0
            have c1 := g1.cell 1
            by_cases hltb : b < n
            · have hib : (b : Int) < (n : Int) := by omega
              have ca := g2.cell a
              rw [bools_getB (by omega)] at ca
              have cb := g2.cell b
              rw [bools_getB (by omega)] at cb
              have fb := g2.frozen b
              have hsz := hbel.size
              unfold stepB at hbs
              cases hga : getB o3 a
              · rw [hga] at ca hbs
                rw [if_neg (fun hc => by cases hc.1)] at hbs
                have HBS := Lib.hid hbs
                clear hbs hga cb fb
                go_wp2
                go_roundw
                case rel => exact ⟨b + 1, by omega, by go_num, hbel, g1, by rw [HBS.out]; exact g2⟩
                case measure => simp [intOf]; omega
              · rw [hga] at ca hbs
                have BC := Lib.hid (between_any n A c es hn a b wr ((h.below hbel).more hsz))
                obtain ⟨q, hq⟩ : ∃ q, btw es a b = q := ⟨_, rfl⟩
                rw [hq] at BC hbs
                clear hq hga
                by_cases hpos : 0 < q
                · rw [if_pos ⟨rfl, hpos⟩] at hbs
                  have HBS := Lib.hid hbs
                  clear hbs
                  go_wp2_with (go_at_call 88; (with_reducible refine (BC.out).mono ?_); rintro e w' ⟨rfl, hb'⟩
                               have k1 := g1.next hb'
                               have k2 := g2.next hb'
                               have d0 := k2.cell b
                               rw [bools_getB (by omega)] at d0
                               have d1 := k2.frozen b)
                  go_roundw
                  case rel =>
                    refine ⟨b + 1, by omega, by go_num, (hbel.trans (hb'.mono hsz)).setCell (by simp) _, k1.far (by simp) _, ?_⟩
                    have := k2.set_ b (.bool true)
                    rw [bools_set] at this
                    rw [HBS.out]; exact this
                  case measure => simp [intOf]; omega
                · rw [if_neg (fun hc => hpos hc.2)] at hbs
                  have HBS := Lib.hid hbs
                  clear hbs
                  go_wp2_with (go_at_call 88; (with_reducible refine (BC.out).mono ?_); rintro e w' ⟨rfl, hb'⟩)
                  go_roundw
                  case rel => exact ⟨b + 1, by omega, by go_num, hbel.trans (hb'.mono hsz), g1.next hb', by rw [HBS.out]; exact g2.next hb'⟩
                  case measure => simp [intOf]; omega
            · obtain rfl : b = n := by omega
              clear hbs
              go_wp2
              go_roundw
              case rel => exact ⟨a + 1, by omega, by go_num, hbel, g1, by rw [reachA_succ, HO2.out, HO3.out]; exact g2⟩
              case measure => simp [intOf]; omega
        · obtain rfl : a = n := by omega
          go_wp2
          go_roundw
          case rel => exact ⟨k + 1, by omega, by go_num, hbel', g1', by rw [reachR_succ, HO1.out, HO2.out]; exact g2'⟩
          case measure => simp [intOf]; omega
    · obtain rfl : k = n := by omega
      go_wp2
      go_ret
      exact ⟨w.heap.size + 1, rfl, by rw [HR.out, HO1.out]; exact g2, by omega, hbel⟩
end Go.Proofs.Ytepmfbgmkfkmkaa

/-! ref08.Parts, ref08.Connected; the errors of graphs with sinks and configurations, as the reference finds them. -/
namespace Go.Proofs.Ytepmfbgmkfkmkaa
open Go.RowKit

set_option maxRecDepth 100000 in
set_option maxHeartbeats 4000000 in
theorem rparts_any (n : Nat) (hn12 : n ≤ 12) (A : Option Addr) (c : Nat) (es : List E3) (hn : es.length ≤ 1048576) (w : World) (h : Reads w w.heap.size 3 A es.length (edgeCells es)) :
    Calls Try.prog 69 #[.agg #[.int .i64 n, .slice A es.length c]] w fun e w' => e = .returned (.int .i64 ((partsTo es n n).1 : Nat)) ∧ Below w.heap.size w w' := by
  have hmk := make_bools n (by omega)
  have g0 := (Blk.new w 24 #[.int .i64 n, .slice A es.length c]).alloc (.cells (bools (List.replicate n false)) 4)
  have gs := Blk.new (w.alloc (.cells #[.int .i64 n, .slice A es.length c] 24)) 4 (bools (List.replicate n false))
  rw [show (w.alloc (.cells #[.int .i64 n, .slice A es.length c] 24)).heap.size = w.heap.size + 1 from by simp] at gs
  go_enter Try.func69, Try.ntmps69
  go_wp2
  go_loopw [3, 5] (fun m i wr => ∃ (k x : Nat) (s : List Bool), k ≤ n ∧ i = .int .i64 k ∧ m = .int .i64 x ∧ x ≤ k ∧ Hid (partsTo es n k = (x, s)) ∧ Below w.heap.size w wr ∧ Blk wr w.heap.size 24 #[.int .i64 n, .slice A es.length c] ∧ Blk wr (w.heap.size + 1) 4 (bools s)) (fun _ i _ => n - (intOf i).toNat)
  case atStart => exact ⟨0, 0, _, by omega, rfl, rfl, by omega, rfl, ((Below.refl _ _).alloc (Nat.le_refl _) _).alloc (by simp) _, g0, gs⟩
  case round =>
    obtain ⟨k, x, s, hk, rfl, rfl, hx, HS, hbel, g1, g2⟩ := hrel
    clear g0 gs hmk
    have c0 := g1.cell 0
    have hsl : s.length = n := by have := partsTo_length es n k; rw [HS.out] at this; exact this
    have hps := partsTo_succ es n k
    rw [HS.out] at hps
    have hsz := hbel.size
    have hlt2 := g2.lt
    by_cases hlt : k < n
    · have hi : (k : Int) < (n : Int) := by omega
      have ck := g2.cell k
      rw [bools_getB (by omega)] at ck
      cases hsk : getB s k
      · rw [hsk] at ck
        rw [show getB (x, s).2 k = getB s k from rfl, hsk] at hps
        simp only [Bool.false_eq_true, if_false] at hps
        have HP := Lib.hid hps
        have RC := Lib.hid (reached_any n hn12 A c es hn k hlt wr ((h.below hbel).more hsz))
        obtain ⟨r, hr⟩ : ∃ r, reached es n k = r := ⟨_, rfl⟩
        have hrl : r.length = n := by rw [← hr, reached_length]
        rw [hr] at RC HP
        have c1 := g1.cell 1
        have hx1 : (x : Int) + 1 ≤ 100 := by omega
        clear hps hsk hr
        go_wp2_with (go_at_call 85; (with_reducible refine (RC.out).mono ?_); rintro e w' ⟨gr, rfl, kr, hgr, hb'⟩
                     have k1 := g1.next hb'
                     have k2 := g2.next hb'
                     have kB := hbel.trans (hb'.mono hsz)
                     have kc := k1.cell 0)
        obtain ⟨wo, rfl⟩ : ∃ wo : World, wo = w' := ⟨_, rfl⟩
        clear g1 g2 hbel hb' kc c0 ck c1
        have hne : gr ≠ w.heap.size + 1 := by omega
        go_loopw [7] (fun i wr => ∃ u : Nat, u ≤ n ∧ i = .int .i64 u ∧ Below w.heap.size w wr ∧ Blk wr w.heap.size 24 #[.int .i64 n, .slice A es.length c] ∧ Blk wr (w.heap.size + 1) 4 (bools (orTo s r u)) ∧ Blk wr gr 4 (bools r)) (fun i _ => n - (intOf i).toNat)
        case atStart => exact ⟨0, by omega, rfl, kB, k1, k2, kr⟩
        case round =>
          obtain ⟨u, hu, rfl, hbel, g1, g2, g3⟩ := hrel
          clear kB k1 k2 kr
          have hos := orTo_succ s r u
          have hol : (orTo s r u).length = n := by rw [orTo_length, hsl]
          obtain ⟨o, ho⟩ : ∃ o, orTo s r u = o := ⟨_, rfl⟩
          rw [ho] at hos hol g2
          have HO := Lib.hid ho
          clear ho
          have c0 := g1.cell 0
          by_cases hltu : u < n
          · have hi : (u : Int) < (n : Int) := by omega
            have ca := g2.cell u
            rw [bools_getB (by omega)] at ca
            have cb := g3.cell u
            rw [bools_getB (by omega)] at cb
            have fa := g2.frozen u
            cases ha : getB o u <;> cases hb : getB r u
            all_goals
              rw [ha] at ca hos
              rw [hb] at cb hos
              have HOS := Lib.hid hos
              clear hos ha hb
              go_wp2
              go_roundw
              case rel =>
                refine ⟨u + 1, by omega, by go_num, hbel.setCell (by simp) _, g1.far (by simp) _, ?_, g3.far (by simpa using hne) _⟩
                rw [HOS.out, ← bools_set]
                exact g2.set_ u _
              case measure => simp [intOf]; omega
          · obtain rfl : u = n := by omega
            clear hos
            go_wp2
            go_roundw
            case rel => exact ⟨k + 1, x + 1, o, by omega, by go_num, by go_num, by omega, by rw [Hid, HP.out, HO.out], hbel, g1, g2⟩
            case measure => simp [intOf]; omega
      · rw [hsk] at ck
        rw [show getB (x, s).2 k = getB s k from rfl, hsk] at hps
        simp only [if_true] at hps
        have HP := Lib.hid hps
        clear hps hsk
        go_wp2
        go_roundw
        case rel => exact ⟨k + 1, x, s, by omega, by go_num, rfl, by omega, HP.out, hbel, g1, g2⟩
        case measure => simp [intOf]; omega
    · obtain rfl : k = n := by omega
      clear hps
      go_wp2
      go_ret
      exact ⟨ret_int (by rw [HS.out]), hbel⟩
set_option maxHeartbeats 1000000 in
theorem rconnected_any (n : Nat) (hn12 : n ≤ 12) (A : Option Addr) (c : Nat) (es : List E3) (hn : es.length ≤ 1048576) (w : World) (h : Reads w w.heap.size 3 A es.length (edgeCells es)) :
    Calls Try.prog 74 #[.agg #[.int .i64 n, .slice A es.length c]] w fun e w' => e = .returned (.bool (connB n es)) ∧ Below w.heap.size w w' := by
  have PC := Lib.hid (rparts_any n hn12 A c es hn)
  unfold connB
  obtain ⟨q, hq⟩ : ∃ q, (partsTo es n n).1 = q := ⟨_, rfl⟩
  rw [hq] at PC ⊢
  clear hq
  go_enter Try.func74, Try.ntmps74
  go_wp2_with fail
  refine (PC.out _ ((h.alloc (Nat.le_refl _) _).more (by simp))).mono ?_
  rintro e w1 ⟨rfl, hb1⟩
  have hbel1 : Below w.heap.size w w1 := ((Below.refl _ _).alloc (Nat.le_refl _) _).trans (hb1.mono (by simp))
  go_wp2
  go_ret
  refine ⟨ret_bool ?_, hbel1⟩
  rw [Bool.eq_iff_iff]; simp; omega

end Go.Proofs.Ytepmfbgmkfkmkaa

