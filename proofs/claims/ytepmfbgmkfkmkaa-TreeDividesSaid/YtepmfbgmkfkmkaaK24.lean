/-
  Texts of this claim, put together: Joined, Make.
-/
import Derived.Test.YtepmfbgmkfkmkaaK04
import Derived.Test.YtepmfbgmkfkmkaaK22
import Derived.Deep.RegionLaw
import Derived.Test.YtepmfbgmkfkmkaaK23
/-! ref08.Joined: the graph of a table of multiplicities. -/
namespace Go.Proofs.Ytepmfbgmkfkmkaa
open Go.RowKit

def entry (rows : List (List Int)) (a b : Nat) : Int := ((rows[a]?.getD [])[b]?).getD 0
theorem entry_of {rows : List (List Int)} {a b : Nat} {r : List Int} {x : Int} (h : rows[a]? = some r) (h' : r[b]? = some x) : entry rows a b = x := by simp [entry, h, h']
def joinRow (f : Nat → Nat → Int) (a b : Nat) : List E3 := (List.range' a (b - a)).filterMap fun j : Nat => if 0 < f a j then some ((a : Int), (j : Int), f a j) else none
def joinTo (f : Nat → Nat → Int) (n a : Nat) : List E3 := (List.range a).flatMap fun i => joinRow f i n
def joined (f : Nat → Nat → Int) (n : Nat) : List E3 := joinTo f n n
theorem joinRow_none {f : Nat → Nat → Int} {a b : Nat} (h : b ≤ a) : joinRow f a b = [] := by
  unfold joinRow
  rw [show b - a = 0 from by omega]
  rfl
theorem joinRow_succ {f : Nat → Nat → Int} {a b : Nat} (h : a ≤ b) : joinRow f a (b + 1) = joinRow f a b ++ (if 0 < f a b then [((a : Int), (b : Int), f a b)] else []) := by
  unfold joinRow
  rw [show b + 1 - a = (b - a) + 1 from by omega, List.range'_1_concat, List.filterMap_append]
  congr 1
  rw [show a + (b - a) = b from by omega]
  by_cases hf : 0 < f a b <;> simp [hf]
theorem joinTo_succ (f : Nat → Nat → Int) (n a : Nat) : joinTo f n (a + 1) = joinTo f n a ++ joinRow f a n := by simp [joinTo, List.range_succ, List.flatMap_append]
theorem joinRow_length (f : Nat → Nat → Int) (a b : Nat) : (joinRow f a b).length ≤ b - a := by
  unfold joinRow
  have := List.length_filterMap_le (fun j : Nat => if 0 < f a j then some ((a : Int), (j : Int), f a j) else none) (List.range' a (b - a))
  simpa using this
theorem joinTo_length (f : Nat → Nat → Int) (n a : Nat) : (joinTo f n a).length ≤ a * n := by
  induction a with
  | zero => simp [joinTo]
  | succ a ih =>
    have := joinRow_length f a n
    rw [joinTo_succ, List.length_append, Nat.succ_mul]; omega

set_option maxRecDepth 100000 in
set_option maxHeartbeats 1000000 in
theorem rjoined_any (n : Nat) (hn : n ≤ 1000) (A : Option Addr) (c : Nat) (rows : List (List Int)) (hl : rows.length = n) (hr : ∀ r ∈ rows, r.length = n) (w : World) (h : RowsR w w.heap.size A rows) :
    Calls Try.prog 95 #[.int .i64 n, .slice A rows.length c] w fun e w' =>
      ∃ A1 c1, e = .returned (.agg #[.int .i64 n, .slice A1 (joined (entry rows) n).length c1]) ∧ OwnE w' w.heap.size A1 c1 (joined (entry rows) n) ∧ Below w.heap.size w w' := by
  have HR := Lib.hid hr
  have HL := Lib.hid hl
  clear hr hl
  go_enter Try.func95, Try.ntmps95
  go_wp2
  go_loopw [6] (fun i wr => ∃ (a : Nat) (A' : Option Addr) (c' : Nat), a ≤ n ∧ i = .int .i64 a ∧ Blk wr w.heap.size 24 #[.int .i64 0, .slice none 0 0] ∧ Blk wr (w.heap.size + 1) 24 #[.int .i64 n, .slice A' (joinTo (entry rows) n a).length c'] ∧
    OwnE wr w.heap.size A' c' (joinTo (entry rows) n a) ∧ Below w.heap.size w wr) (fun i _ => n - (intOf i).toNat)
  case atStart =>
    have := Blk.new (w.alloc (.cells #[.int .i64 0, .slice none 0 0] 24)) 24 #[.int .i64 n, .slice none 0 0]
    refine ⟨0, none, 0, by omega, rfl, (Blk.new _ _ _).alloc _, by simpa [joinTo] using this, OwnE.nil_ _ _, ((Below.refl _ _).alloc (Nat.le_refl _) _).alloc (by simp) _⟩
  case round =>
    obtain ⟨a, A', c', ha, rfl, g0, g1, hown, hbel⟩ := hrel
    have q0 := g1.cell 0
    have q1 := g1.cell 1
    by_cases hlt : a < n
    · have hi : (a : Int) < (n : Int) := by omega
      obtain ⟨wo, rfl⟩ : ∃ wo : World, wo = wr := ⟨_, rfl⟩
      go_wp2
      go_loopw [7] (fun i wr => ∃ (b : Nat) (A' : Option Addr) (c' : Nat), a ≤ b ∧ b ≤ n ∧ i = .int .i64 b ∧ Blk wr w.heap.size 24 #[.int .i64 0, .slice none 0 0] ∧ Blk wr (w.heap.size + 1) 24 #[.int .i64 n, .slice A' (joinTo (entry rows) n a ++ joinRow (entry rows) a b).length c'] ∧
        OwnE wr w.heap.size A' c' (joinTo (entry rows) n a ++ joinRow (entry rows) a b) ∧ Below w.heap.size w wr) (fun i _ => n - (intOf i).toNat)
      case atStart =>
        refine ⟨a, A', c', by omega, by omega, by go_num, g0, ?_, ?_, hbel⟩
        · rw [joinRow_none (Nat.le_refl _), List.append_nil]; exact g1
        · rw [joinRow_none (Nat.le_refl _), List.append_nil]; exact hown
      case round =>
        clear q0 q1 g0 g1 hown hbel
        obtain ⟨b, A', c', hab, hb, rfl, g0, g1, hown, hbel⟩ := hrel
        have q0 := g1.cell 0
        have q1 := g1.cell 1
        have hz := hbel.size
        have hl13 : (joinTo (entry rows) n a ++ joinRow (entry rows) a b).length ≤ 1048000 := by
          have h1 := joinTo_length (entry rows) n a
          have h2 := joinRow_length (entry rows) a b
          have : a * n ≤ 1000 * 1000 := Nat.mul_le_mul (by omega) (by omega)
          rw [List.length_append]; omega
        obtain ⟨es, hes⟩ : ∃ es, joinTo (entry rows) n a ++ joinRow (entry rows) a b = es := ⟨_, rfl⟩
        rw [hes] at g1 hown hl13 q1
        have HES := Lib.hid hes
        clear hes
        by_cases hlt2 : b < n
        · have hi2 : (b : Int) < (n : Int) := by omega
          obtain ⟨r, hrow⟩ := get_of_lt (xs := rows) (k := a) (by have := HL.out; omega)
          have hrl := HR.out r (List.mem_of_getElem? hrow)
          obtain ⟨x, hx⟩ := get_of_lt (xs := r) (k := b) (by omega)
          obtain ⟨b1, off, A5, c5, rfl, hb1, hc1, hrd⟩ := (h.below hbel).at_ hrow
          obtain ⟨b2, off2, rfl, hb2, hc2⟩ := hrd.at_ (ints_at hx)
          have HE := Lib.hid (entry_of hrow hx)
          have hi3 : (a : Int) < (rows.length : Int) := by have := HL.out; omega
          have hi4 : (b : Int) < (r.length : Int) := by omega
          have HX := Lib.hid hx
          have HW := Lib.hid hrow
          have HRL := Lib.hid hrl
          clear hx hrow hrl hrd
          by_cases h0 : 0 < x
          · have gN := g1.alloc (.cells #[.int .i64 a, .int .i64 b, .int .i64 x] 82)
            have n0 := gN.cell 0
            have n1 := gN.cell 1
            have g0N := g0.alloc (.cells #[.int .i64 a, .int .i64 b, .int .i64 x] 82)
            have hownN := OwnE.alloc hown (.cells #[.int .i64 a, .int .i64 b, .int .i64 x] 82)
            have hzN : w.heap.size ≤ (wr.alloc (.cells #[.int .i64 a, .int .i64 b, .int .i64 x] 82)).heap.size := by simp; omega
            have hlN : es.length + 1 ≤ 1048576 := by omega
            go_wp2
            go_region_law (refine append_step2 rfl (.tmp 30) (.tmp 41) _ _ rfl w.heap.size 82 82 Try.underlying22 Try.underlying22 info_edge rfl (by omega) A' c' es.length (edgeCells es) rfl hownN (wr.heap.size + 1) (edgeCells [((a : Int), (b : Int), x)]) rfl (Reads.boxN wr #[.int .i64 a, .int .i64 b, .int .i64 x] 82) edgeCells_one hlN hzN ?_; intro A3 c3 w3 hown3 hg3 hb3 _; have g3 := Blk.grown (h := by exact gN) hg3 (own_blk_ne hown g1 (by decide)); have p1 := g3.cell 1; have f3 := g3.frozen)
            all_goals (
              have gB : Below w.heap.size w w3 := hbel.trans (((Below.refl _ _).alloc (by exact hz) _).trans ⟨hb3.os, hb3.tape, hb3.output, hb3.size, hb3.block⟩)
              have g03 := Blk.grown (h := by exact g0N) hg3 (own_blk_ne hown g0 (by decide))
              have HR : joinTo (entry rows) n a ++ joinRow (entry rows) a (b + 1) = es ++ [((a : Int), (b : Int), x)] := by rw [joinRow_succ hab, HE.out, if_pos h0, ← List.append_assoc, HES.out]
              have HR := Lib.hid HR
              go_wp2
              go_roundw
              case rel =>
                refine ⟨b + 1, A3, c3, by omega, by omega, by go_num, g03.far (by simp) _, ?_, ?_, ?_⟩
                · rw [HR.out, List.length_append]; exact g3.set_ 1 _
                · rw [HR.out]; exact OwnE.set_blk (by unfold OwnE; rw [edgeCells_append, List.length_append]; exact hown3) g3 (by decide) 1 _
                · exact gB.setCell (by simp) _
              case measure => simp [intOf]; omega)
          · have h0' : (0 < x) = False := by simpa using h0
            go_wp2
            have HR : joinTo (entry rows) n a ++ joinRow (entry rows) a (b + 1) = es := by rw [joinRow_succ hab, HE.out, if_neg h0, List.append_nil, HES.out]
            have HR := Lib.hid HR
            go_roundw
            case rel =>
              refine ⟨b + 1, A', c', by omega, by omega, by go_num, g0, ?_, ?_, hbel⟩
              · rw [HR.out]; exact g1
              · rw [HR.out]; exact hown
            case measure => simp [intOf]; omega
        · have hi2 : ¬ (b : Int) < (n : Int) := by omega
          go_wp2
          have HR : es = joinTo (entry rows) n (a + 1) := by rw [joinTo_succ, ← HES.out, show b = n from by omega]
          have HR := Lib.hid HR
          go_roundw
          case rel =>
            refine ⟨a + 1, A', c', by omega, by go_num, g0, ?_, ?_, hbel⟩
            · rw [← HR.out]; exact g1
            · rw [← HR.out]; exact hown
          case measure => simp [intOf]; omega
    · have hi : ¬ (a : Int) < (n : Int) := by omega
      obtain rfl : a = n := by omega
      obtain ⟨es, hes⟩ : ∃ es, joinTo (entry rows) a a = es := ⟨_, rfl⟩
      have e : joined (entry rows) a = es := by rw [joined, hes]
      rw [hes] at g1 hown q1
      have HES := Lib.hid e
      clear hes e
      have f0 := g0.frozen
      have p0 := g0.cell 0
      have p1 := g0.cell 1
      go_wp2
      try simp only [Exit.inBlock, Exit.then]
      refine bodyPost_ret (results_g rfl rfl ((g0.set_ 0 _).set_ 1 _) rfl) rfl ?_
      refine ⟨A', c', by rw [HES.out]; rfl, ?_, (hbel.setCell (Nat.le_refl _) _).setCell (Nat.le_refl _) _⟩
      rw [HES.out]; exact (hown.set_blk g0 (by decide) _ _).set_blk (g0.set_ 0 _) (by decide) _ _
end Go.Proofs.Ytepmfbgmkfkmkaa

/-! ref08.Make: the graph of a list of single edges. -/
namespace Go.Proofs.Ytepmfbgmkfkmkaa
open Go.RowKit

def pairCells : List (Nat × Nat) → List Value
  | [] => []
  | e :: es => .int .i64 (e.1 : Int) :: .int .i64 (e.2 : Int) :: pairCells es
theorem pairCells_length (es : List (Nat × Nat)) : (pairCells es).length = es.length * 2 := by
  induction es with
  | nil => rfl
  | cons e es ih => simp [pairCells, ih]; omega
theorem pairCells_append (es fs : List (Nat × Nat)) : pairCells (es ++ fs) = pairCells es ++ pairCells fs := by
  induction es with
  | nil => rfl
  | cons e es ih => simp [pairCells, ih]
theorem pairCells_at {es : List (Nat × Nat)} {k : Nat} {e : Nat × Nat} (h : es[k]? = some e) :
    (pairCells es)[k * 2]? = some (.int .i64 (e.1 : Int)) ∧ (pairCells es)[k * 2 + 1]? = some (.int .i64 (e.2 : Int)) := by
  induction es generalizing k with
  | nil => simp at h
  | cons f es ih =>
    rcases k with _ | k
    · simp at h; subst h; simp [pairCells]
    · have := ih (k := k) (by simpa using h)
      rw [show (k + 1) * 2 = k * 2 + 1 + 1 from by omega, show k * 2 + 1 + 1 + 1 = (k * 2 + 1) + 1 + 1 from by omega]
      simpa [pairCells] using this
theorem pairCells_one {es : List (Nat × Nat)} : ∀ u ∈ pairCells es, u.oneCell' = true := by
  induction es with
  | nil => simp [pairCells]
  | cons e es ih =>
    intro u hu
    simp only [pairCells, List.mem_cons] at hu
    rcases hu with rfl | rfl | hu
    · rfl
    · rfl
    · exact ih u hu
theorem Reads.pair {w : World} {B n : Nat} {A : Option Addr} {es : List (Nat × Nat)} {k : Nat} {e : Nat × Nat} (h : Reads w B 2 A n (pairCells es)) (he : es[k]? = some e) :
    ∃ b off, A = some ⟨b, off, none⟩ ∧ b < B ∧ w.cell? ⟨b, off + k * 2, none⟩ = some (.int .i64 (e.1 : Int)) ∧ w.cell? ⟨b, off + k * 2 + 1, none⟩ = some (.int .i64 (e.2 : Int)) := by
  have hk : k < es.length := (List.getElem?_eq_some_iff.1 he).1
  have hl := h.1
  rw [pairCells_length] at hl
  obtain ⟨b, off, hA, hb, hc⟩ := h.2 (by omega)
  obtain ⟨h1, h2⟩ := pairCells_at he
  exact ⟨b, off, hA, hb, hc _ _ h1, by have := hc _ _ h2; rwa [show off + (k * 2 + 1) = off + k * 2 + 1 from by omega] at this⟩

def cnt (es : List (Nat × Nat)) (a b : Nat) : Nat := (es.filter fun e => decide (min e.1 e.2 = a) && decide (max e.1 e.2 = b)).length
def tabRow (n : Nat) (es : List (Nat × Nat)) (a : Nat) : List Int := (List.range n).map fun b => (cnt es a b : Int)
def tab (n : Nat) (es : List (Nat × Nat)) : List (List Int) := (List.range n).map (tabRow n es)
theorem tab_length (n : Nat) (es : List (Nat × Nat)) : (tab n es).length = n := by simp [tab]
theorem tabRow_length (n : Nat) (es : List (Nat × Nat)) (a : Nat) : (tabRow n es a).length = n := by simp [tabRow]
theorem tab_row {n a : Nat} (es : List (Nat × Nat)) (h : a < n) : (tab n es)[a]? = some (tabRow n es a) := by simp [tab, h]
theorem tabRow_at {n b : Nat} (es : List (Nat × Nat)) (a : Nat) (h : b < n) : (tabRow n es a)[b]? = some (cnt es a b : Int) := by simp [tabRow, h]
theorem tab_mem {n : Nat} {es : List (Nat × Nat)} : ∀ r ∈ tab n es, r.length = n := by
  intro r hr
  obtain ⟨a, _, rfl⟩ := List.mem_map.1 hr
  exact tabRow_length _ _ _
theorem entry_tab {n a b : Nat} (es : List (Nat × Nat)) (ha : a < n) (hb : b < n) : entry (tab n es) a b = cnt es a b := entry_of (tab_row es ha) (tabRow_at es a hb)
theorem tab_nil (n : Nat) : tab n [] = List.replicate n (List.replicate n 0) := by
  apply List.ext_getElem?
  intro i
  by_cases h : i < n
  · rw [tab_row _ h, List.getElem?_replicate_of_lt h]
    congr 1
    apply List.ext_getElem?
    intro j
    by_cases h' : j < n
    · rw [tabRow_at _ _ h', List.getElem?_replicate_of_lt h']; rfl
    · rw [List.getElem?_eq_none (by rw [tabRow_length]; omega), List.getElem?_eq_none (by simp; omega)]
  · rw [List.getElem?_eq_none (by rw [tab_length]; omega), List.getElem?_eq_none (by simp; omega)]
theorem cnt_snoc (es : List (Nat × Nat)) (e : Nat × Nat) (a b : Nat) : cnt (es ++ [e]) a b = cnt es a b + if min e.1 e.2 = a ∧ max e.1 e.2 = b then 1 else 0 := by
  unfold cnt
  rw [List.filter_append, List.length_append]
  congr 1
  by_cases h1 : min e.1 e.2 = a <;> by_cases h2 : max e.1 e.2 = b <;> simp [h1, h2]
theorem tab_snoc {n : Nat} {es : List (Nat × Nat)} {e : Nat × Nat} {a b : Nat} (ha : min e.1 e.2 = a) (hb : max e.1 e.2 = b) (h1 : a < n) (h2 : b < n) :
    (tab n es).set a ((tabRow n es a).set b ((cnt es a b : Int) + 1)) = tab n (es ++ [e]) := by
  apply List.ext_getElem?
  intro i
  by_cases h : i < n
  · rw [tab_row _ h]
    by_cases hi : i = a
    · subst hi
      rw [List.getElem?_set_self (by rw [tab_length]; exact h)]
      congr 1
      apply List.ext_getElem?
      intro j
      by_cases h' : j < n
      · rw [tabRow_at _ _ h']
        by_cases hj : j = b
        · subst hj
          rw [List.getElem?_set_self (by rw [tabRow_length]; exact h'), cnt_snoc, if_pos ⟨ha, hb⟩]
          rfl
        · rw [List.getElem?_set_ne (fun e => hj e.symm), tabRow_at _ _ h', cnt_snoc, if_neg (fun e => hj (e.2.symm.trans hb))]
          rfl
      · rw [List.getElem?_eq_none (by rw [List.length_set, tabRow_length]; omega), List.getElem?_eq_none (by rw [tabRow_length]; omega)]
    · rw [List.getElem?_set_ne (fun e => hi e.symm), tab_row _ h]
      congr 1
      apply List.ext_getElem?
      intro j
      by_cases h' : j < n
      · rw [tabRow_at _ _ h', tabRow_at _ _ h', cnt_snoc, if_neg (fun e => hi (e.1.symm.trans ha))]
        rfl
      · rw [List.getElem?_eq_none (by rw [tabRow_length]; omega), List.getElem?_eq_none (by rw [tabRow_length]; omega)]
  · rw [List.getElem?_eq_none (by rw [List.length_set, tab_length]; omega), List.getElem?_eq_none (by rw [tab_length]; omega)]

/-- The edges of a list of single edges. -/
def madeS (n : Nat) (es : List (Nat × Nat)) : List E3 := joined (fun a b => (cnt es a b : Int)) n
theorem joinRow_congr {f g : Nat → Nat → Int} {n a : Nat} (h : ∀ b, b < n → f a b = g a b) : joinRow f a n = joinRow g a n := by
  unfold joinRow
  have : ∀ l : List Nat, (∀ j ∈ l, j < n) → l.filterMap (fun j : Nat => if 0 < f a j then some ((a : Int), (j : Int), f a j) else none) = l.filterMap (fun j : Nat => if 0 < g a j then some ((a : Int), (j : Int), g a j) else none) := by
    intro l
    induction l with
    | nil => intro _; rfl
    | cons j l ih =>
      intro hl
      rw [List.filterMap_cons, List.filterMap_cons, h j (hl j (by simp)), ih fun i hi => hl i (by simp [hi])]
  exact this _ fun j hj => by simp [List.mem_range'_1] at hj; omega
theorem joined_congr {f g : Nat → Nat → Int} {n : Nat} (h : ∀ a b, a < n → b < n → f a b = g a b) : joined f n = joined g n := by
  unfold joined joinTo
  have : ∀ k, k ≤ n → (List.range k).flatMap (fun i => joinRow f i n) = (List.range k).flatMap (fun i => joinRow g i n) := by
    intro k
    induction k with
    | zero => simp
    | succ k ih =>
      intro hk
      rw [List.range_succ, List.flatMap_append, List.flatMap_append, ih (by omega)]
      simp only [List.flatMap_cons, List.flatMap_nil, List.append_nil]
      rw [joinRow_congr fun b hb => h k b (by omega) hb]
  exact this n (Nat.le_refl _)
theorem joined_tab (n : Nat) (es : List (Nat × Nat)) : joined (entry (tab n es)) n = madeS n es := joined_congr fun _ _ ha hb => entry_tab es ha hb

set_option maxRecDepth 100000 in
set_option maxHeartbeats 1000000 in
theorem rmake_any (n : Nat) (h1 : 1 ≤ n) (hn : n ≤ 12) (A : Option Addr) (c : Nat) (es : List (Nat × Nat)) (hl : es.length ≤ 4096) (hin : ∀ e ∈ es, e.1 < n ∧ e.2 < n) (hm : ∀ a b, a < n → b < n → cnt es a b ≤ 50) (w : World) (h : Reads w w.heap.size 2 A es.length (pairCells es)) :
    Calls Try.prog 78 #[.int .i64 n, .slice A es.length c] w fun e w' =>
      ∃ A1 c1, e = .returned (.tuple #[.agg #[.int .i64 n, .slice A1 (madeS n es).length c1], .int .i64 0]) ∧ OwnE w' w.heap.size A1 c1 (madeS n es) ∧ Below w.heap.size w w' := by
  have HIN := Lib.hid hin
  have HM := Lib.hid hm
  clear hin hm
  have t1 : ((n : Int) < 1) = False := by simp; omega
  have t2 : ((12 : Int) < (n : Int)) = False := by simp; omega
  have t3 : ((4096 : Int) < (es.length : Int)) = False := by simp; omega
  go_enter Try.func78, Try.ntmps78
  go_wp2_with (go_at_call 94; refine (table_any n (by omega) _).mono ?_; rintro e w1 ⟨A1, c1, gs, rfl, HG, hgrid, hb1⟩)
  clear t1 t2 t3
  have hB1 : Below w.heap.size w w1 := ((Below.refl _ _).alloc (Nat.le_refl _) _).trans (hb1.mono (by simp))
  have g0 : Blk w1 w.heap.size 24 #[.int .i64 0, .slice none 0 0] := (Blk.new w 24 #[.int .i64 0, .slice none 0 0]).below hb1 (by simp)
  go_loopw [7] (fun i wr => ∃ (k : Nat), k ≤ es.length ∧ i = .int .i64 k ∧ Blk wr w.heap.size 24 #[.int .i64 0, .slice none 0 0] ∧ Grid wr w.heap.size A1 c1 n gs (tab n (es.take k)) ∧ Below w.heap.size w wr) (fun i _ => es.length - (intOf i).toNat)
  case atStart => exact ⟨0, by omega, rfl, g0, by rw [List.take_zero, tab_nil]; exact hgrid.mono (by simp), hB1⟩
  case round =>
    clear hgrid hb1 hB1 g0
    obtain ⟨k, hk, rfl, g0, hgrid, hbel⟩ := hrel
    by_cases hlt : k < es.length
    · have hi : (k : Int) < (es.length : Int) := by omega
      obtain ⟨⟨x, y⟩, hx⟩ := get_of_lt hlt
      have hxy := HIN.out _ (List.mem_of_getElem? hx)
      obtain ⟨b, off, rfl, hb, q1, q2⟩ := (h.below hbel).pair hx
      dsimp only at q1 q2 hxy
      obtain ⟨hxn, hyn⟩ := hxy
      have HX := Lib.hid hx
      clear hx h
      have u1 : ((x : Int) < 0) = False := by simp
      have u2 : ((y : Int) < 0) = False := by simp
      have u3 : ((n : Int) ≤ (x : Int)) = False := by simp; omega
      have u4 : ((n : Int) ≤ (y : Int)) = False := by simp; omega
      go_wp2
      go_quiet (fail)
      have x_n := hxn
      have y_n := hyn
      rcases Nat.lt_trichotomy x y with hlt2 | rfl | hlt2
      · have v1 : ((x : Int) < (y : Int)) = True := by simp; omega
        have v2 : ((y : Int) < (x : Int)) = False := by simp; omega
        have v3 : (x : Int) < (n : Int) := by omega
        have v4 : (y : Int) < (n : Int) := by omega
        have hcnt : cnt (es.take k) x y ≤ 4096 := by
          have : cnt (es.take k) x y ≤ (es.take k).length := List.length_filter_le _ _
          rw [List.length_take] at this; omega
        obtain ⟨g, hg⟩ := get_of_lt (xs := gs) (k := x) (by have := HG.out; omega)
        obtain ⟨hgb, _, _⟩ := hgrid.row x g _ hg (tab_row _ x_n)
        obtain ⟨b3, off3, rfl, hc3⟩ := hgrid.cell hg
        have hc4 := hgb.cell y
        rw [intCells_get (tabRow_at _ _ y_n)] at hc4
        have hf4 := hgb.frozen y
        have hset := (hgrid.drewN nq).set (j := y) hg (tab_row _ x_n) ((cnt (es.take k) x y : Int) + 1)
        rw [tab_snoc (e := (x, y)) (by simp <;> omega) (by simp <;> omega) x_n y_n, ← take_snoc HX.out] at hset
        have g0' := (g0.drewN nq).far (p := ⟨g, y, none⟩) (by intro e; exact hgb.ne_ g0 (by decide) e.symm) (.int .i64 ((cnt (es.take k) x y : Int) + 1))
        obtain ⟨cn, hcn⟩ : ∃ cn, cnt (es.take k) x y = cn := ⟨_, rfl⟩
        rw [hcn] at hc4 hset hcnt g0'
        have HS := Lib.hid hset
        have HB := Lib.hid (hgrid.blk (List.mem_of_getElem? hg))
        clear hset hgb hgrid hcn hg
        go_wp2
        go_roundw
        case rel =>
          refine ⟨k + 1, by omega, by go_num, g0', HS.out, ?_⟩
          obtain ⟨_, _, hgz⟩ := HB.out
          exact (below_drewN hbel nq).setCell hgz _
        case measure => simp [intOf]; omega
      · have v3 : (x : Int) < (n : Int) := by omega
        have hcnt : cnt (es.take k) x x ≤ 4096 := by
          have : cnt (es.take k) x x ≤ (es.take k).length := List.length_filter_le _ _
          rw [List.length_take] at this; omega
        obtain ⟨g, hg⟩ := get_of_lt (xs := gs) (k := x) (by have := HG.out; omega)
        obtain ⟨hgb, _, _⟩ := hgrid.row x g _ hg (tab_row _ x_n)
        obtain ⟨b3, off3, rfl, hc3⟩ := hgrid.cell hg
        have hc4 := hgb.cell x
        rw [intCells_get (tabRow_at _ _ x_n)] at hc4
        have hf4 := hgb.frozen x
        have hset := (hgrid.drewN nq).set (j := x) hg (tab_row _ x_n) ((cnt (es.take k) x x : Int) + 1)
        rw [tab_snoc (e := (x, x)) (by simp <;> omega) (by simp <;> omega) x_n x_n, ← take_snoc HX.out] at hset
        have g0' := (g0.drewN nq).far (p := ⟨g, x, none⟩) (by intro e; exact hgb.ne_ g0 (by decide) e.symm) (.int .i64 ((cnt (es.take k) x x : Int) + 1))
        obtain ⟨cn, hcn⟩ : ∃ cn, cnt (es.take k) x x = cn := ⟨_, rfl⟩
        rw [hcn] at hc4 hset hcnt g0'
        have HS := Lib.hid hset
        have HB := Lib.hid (hgrid.blk (List.mem_of_getElem? hg))
        clear hset hgb hgrid hcn hg
        go_wp2
        go_roundw
        case rel =>
          refine ⟨k + 1, by omega, by go_num, g0', HS.out, ?_⟩
          obtain ⟨_, _, hgz⟩ := HB.out
          exact (below_drewN hbel nq).setCell hgz _
        case measure => simp [intOf]; omega
      · have v1 : ((x : Int) < (y : Int)) = False := by simp; omega
        have v2 : ((y : Int) < (x : Int)) = True := by simp; omega
        have v3 : (x : Int) < (n : Int) := by omega
        have v4 : (y : Int) < (n : Int) := by omega
        have hcnt : cnt (es.take k) y x ≤ 4096 := by
          have : cnt (es.take k) y x ≤ (es.take k).length := List.length_filter_le _ _
          rw [List.length_take] at this; omega
        obtain ⟨g, hg⟩ := get_of_lt (xs := gs) (k := y) (by have := HG.out; omega)
        obtain ⟨hgb, _, _⟩ := hgrid.row y g _ hg (tab_row _ y_n)
        obtain ⟨b3, off3, rfl, hc3⟩ := hgrid.cell hg
        have hc4 := hgb.cell x
        rw [intCells_get (tabRow_at _ _ x_n)] at hc4
        have hf4 := hgb.frozen x
        have hset := (hgrid.drewN nq).set (j := x) hg (tab_row _ y_n) ((cnt (es.take k) y x : Int) + 1)
        rw [tab_snoc (e := (x, y)) (by simp <;> omega) (by simp <;> omega) y_n x_n, ← take_snoc HX.out] at hset
        have g0' := (g0.drewN nq).far (p := ⟨g, x, none⟩) (by intro e; exact hgb.ne_ g0 (by decide) e.symm) (.int .i64 ((cnt (es.take k) y x : Int) + 1))
        obtain ⟨cn, hcn⟩ : ∃ cn, cnt (es.take k) y x = cn := ⟨_, rfl⟩
        rw [hcn] at hc4 hset hcnt g0'
        have HS := Lib.hid hset
        have HB := Lib.hid (hgrid.blk (List.mem_of_getElem? hg))
        clear hset hgb hgrid hcn hg
        go_wp2
        go_roundw
        case rel =>
          refine ⟨k + 1, by omega, by go_num, g0', HS.out, ?_⟩
          obtain ⟨_, _, hgz⟩ := HB.out
          exact (below_drewN hbel nq).setCell hgz _
        case measure => simp [intOf]; omega
    · have hi : ¬ (k : Int) < (es.length : Int) := by omega
      obtain rfl : k = es.length := by omega
      rw [List.take_length] at hgrid
      have HJ := fun w h => rjoined_any n (by omega) A1 c1 (tab n es) (tab_length n es) tab_mem w h
      simp only [tab_length, joined_tab] at HJ
      have HJ := Lib.hid HJ
      go_wp2
      go_loop [10] (fun i => ∃ a : Nat, a ≤ n ∧ i = .int .i64 a) (fun i => n - (intOf i).toNat)
      case atStart => exact ⟨0, by omega, rfl⟩
      case round =>
        obtain ⟨a, ha, rfl⟩ := hrel
        by_cases hlt2 : a < n
        · have hi2 : (a : Int) < (n : Int) := by omega
          obtain ⟨g, hg⟩ := get_of_lt (xs := gs) (k := a) (by have := HG.out; omega)
          obtain ⟨hgb, _, _⟩ := hgrid.row a g _ hg (tab_row _ hlt2)
          obtain ⟨b3, off3, rfl, hc3⟩ := hgrid.cell hg
          go_wp2
          go_loop [11] (fun i => ∃ b : Nat, b ≤ n ∧ i = .int .i64 b) (fun i => n - (intOf i).toNat)
          case atStart => exact ⟨0, by omega, rfl⟩
          case round =>
            obtain ⟨b, hb, rfl⟩ := hrel
            by_cases hlt3 : b < n
            · have hi3 : (b : Int) < (n : Int) := by omega
              have hc4 := hgb.cell b
              rw [intCells_get (tabRow_at _ _ hlt3)] at hc4
              have h50 : ((50 : Int) < (cnt es a b : Int)) = False := by have := HM.out a b hlt2 hlt3; simp; omega
              go_wp2
              go_round
              case rel => exact ⟨b + 1, by omega, by go_num⟩
              case measure => simp [intOf]; omega
            · have hi3 : ¬ (b : Int) < (n : Int) := by omega
              go_wp2
              go_round
              case rel => exact ⟨a + 1, by omega, by go_num⟩
              case measure => simp [intOf]; omega
        · have hi2 : ¬ (a : Int) < (n : Int) := by omega
          have hz := hbel.size
          go_wp2_with (go_at_call 95; refine (HJ.out _ hgrid.reads).mono ?_; rintro e w2 ⟨A2, c2, rfl, hown2, hb2⟩; have g2 := g0.next hb2; have f2 := g2.frozen; have p2 := g2.cell 0; have p3 := g2.cell 1)
          try simp only [Exit.inBlock, Exit.then]
          refine bodyPost_ret (results_g1 rfl rfl ((g2.set_ 0 _).set_ 1 _) rfl) rfl ?_
          refine ⟨A2, c2, rfl, ?_, ?_⟩
          · exact ((hown2.mono hz).set_blk g2 (by decide) _ _).set_blk (g2.set_ 0 _) (by decide) _ _
          · exact ((hbel.trans (hb2.mono hz)).setCell (Nat.le_refl _) _).setCell (Nat.le_refl _) _
end Go.Proofs.Ytepmfbgmkfkmkaa

