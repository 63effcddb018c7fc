/-
  Texts of this claim, put together: Make, RChips.
-/
import Derived.Test.YtnbikkcalcpedaaGreatDoorK13
import Derived.Test.YtnbikkcalcpedaaGreatDoorK11
/-! ref08.Make: the graph of a list of single edges. -/
namespace Go.Proofs.YtnbikkcalcpedaaGreatDoor
open Go.RowKit

def pairCells : List (Nat × Nat) → List Value
  | [] => []
  | e :: es => .int .i64 (e.1 : Int) :: .int .i64 (e.2 : Int) :: pairCells es
theorem pairCells_length (es : List (Nat × Nat)) : (pairCells es).length = es.length * 2 := by
  induction es with
  | nil => rfl
  | cons e es ih => simp [pairCells, ih]; omega
theorem pairCells_at {es : List (Nat × Nat)} {k : Nat} {e : Nat × Nat} (h : es[k]? = some e) :
    (pairCells es)[k * 2]? = some (.int .i64 (e.1 : Int)) ∧ (pairCells es)[k * 2 + 1]? = some (.int .i64 (e.2 : Int)) := by
  induction es generalizing k with
  | nil => simp at h
  | cons f es ih =>
    rcases k with _ | k
    · simp at h; subst h; simp [pairCells]
    · have := ih (k := k) (by simpa using h)
      rw [show (k + 1) * 2 = k * 2 + 1 + 1 from by omega, show k * 2 + 1 + 1 + 1 = (k * 2 + 1) + 1 + 1 from by omega]
      simpa [pairCells] using this
theorem Reads.pair {w : World} {B n : Nat} {A : Option Addr} {es : List (Nat × Nat)} {k : Nat} {e : Nat × Nat} (h : Reads w B 2 A n (pairCells es)) (he : es[k]? = some e) :
    ∃ b off, A = some ⟨b, off, none⟩ ∧ b < B ∧ w.cell? ⟨b, off + k * 2, none⟩ = some (.int .i64 (e.1 : Int)) ∧ w.cell? ⟨b, off + k * 2 + 1, none⟩ = some (.int .i64 (e.2 : Int)) := by
  have hk : k < es.length := (List.getElem?_eq_some_iff.1 he).1
  have hl := h.1
  rw [pairCells_length] at hl
  obtain ⟨b, off, hA, hb, hc⟩ := h.2 (by omega)
  obtain ⟨h1, h2⟩ := pairCells_at he
  exact ⟨b, off, hA, hb, hc _ _ h1, by have := hc _ _ h2; rwa [show off + (k * 2 + 1) = off + k * 2 + 1 from by omega] at this⟩

def cnt (es : List (Nat × Nat)) (a b : Nat) : Nat := (es.filter fun e => decide (min e.1 e.2 = a) && decide (max e.1 e.2 = b)).length
def tabRow (n : Nat) (es : List (Nat × Nat)) (a : Nat) : List Int := (List.range n).map fun b => (cnt es a b : Int)
def tab (n : Nat) (es : List (Nat × Nat)) : List (List Int) := (List.range n).map (tabRow n es)
theorem tab_length (n : Nat) (es : List (Nat × Nat)) : (tab n es).length = n := by simp [tab]
theorem tabRow_length (n : Nat) (es : List (Nat × Nat)) (a : Nat) : (tabRow n es a).length = n := by simp [tabRow]
theorem tab_row {n a : Nat} (es : List (Nat × Nat)) (h : a < n) : (tab n es)[a]? = some (tabRow n es a) := by simp [tab, h]
theorem tabRow_at {n b : Nat} (es : List (Nat × Nat)) (a : Nat) (h : b < n) : (tabRow n es a)[b]? = some (cnt es a b : Int) := by simp [tabRow, h]
theorem tab_mem {n : Nat} {es : List (Nat × Nat)} : ∀ r ∈ tab n es, r.length = n := by
  intro r hr
  obtain ⟨a, _, rfl⟩ := List.mem_map.1 hr
  exact tabRow_length _ _ _
theorem entry_tab {n a b : Nat} (es : List (Nat × Nat)) (ha : a < n) (hb : b < n) : entry (tab n es) a b = cnt es a b := entry_of (tab_row es ha) (tabRow_at es a hb)
theorem tab_nil (n : Nat) : tab n [] = List.replicate n (List.replicate n 0) := by
  apply List.ext_getElem?
  intro i
  by_cases h : i < n
  · rw [tab_row _ h, List.getElem?_replicate_of_lt h]
    congr 1
    apply List.ext_getElem?
    intro j
    by_cases h' : j < n
    · rw [tabRow_at _ _ h', List.getElem?_replicate_of_lt h']; rfl
    · rw [List.getElem?_eq_none (by rw [tabRow_length]; omega), List.getElem?_eq_none (by simp; omega)]
  · rw [List.getElem?_eq_none (by rw [tab_length]; omega), List.getElem?_eq_none (by simp; omega)]
theorem cnt_snoc (es : List (Nat × Nat)) (e : Nat × Nat) (a b : Nat) : cnt (es ++ [e]) a b = cnt es a b + if min e.1 e.2 = a ∧ max e.1 e.2 = b then 1 else 0 := by
  unfold cnt
  rw [List.filter_append, List.length_append]
  congr 1
  by_cases h1 : min e.1 e.2 = a <;> by_cases h2 : max e.1 e.2 = b <;> simp [h1, h2]
theorem tab_snoc {n : Nat} {es : List (Nat × Nat)} {e : Nat × Nat} {a b : Nat} (ha : min e.1 e.2 = a) (hb : max e.1 e.2 = b) (h1 : a < n) (h2 : b < n) :
    (tab n es).set a ((tabRow n es a).set b ((cnt es a b : Int) + 1)) = tab n (es ++ [e]) := by
  apply List.ext_getElem?
  intro i
  by_cases h : i < n
  · rw [tab_row _ h]
    by_cases hi : i = a
    · subst hi
      rw [List.getElem?_set_self (by rw [tab_length]; exact h)]
      congr 1
      apply List.ext_getElem?
      intro j
      by_cases h' : j < n
      · rw [tabRow_at _ _ h']
        by_cases hj : j = b
        · subst hj
          rw [List.getElem?_set_self (by rw [tabRow_length]; exact h'), cnt_snoc, if_pos ⟨ha, hb⟩]
          rfl
        · rw [List.getElem?_set_ne (fun e => hj e.symm), tabRow_at _ _ h', cnt_snoc, if_neg (fun e => hj (e.2.symm.trans hb))]
          rfl
      · rw [List.getElem?_eq_none (by rw [List.length_set, tabRow_length]; omega), List.getElem?_eq_none (by rw [tabRow_length]; omega)]
    · rw [List.getElem?_set_ne (fun e => hi e.symm), tab_row _ h]
      congr 1
      apply List.ext_getElem?
      intro j
      by_cases h' : j < n
      · rw [tabRow_at _ _ h', tabRow_at _ _ h', cnt_snoc, if_neg (fun e => hi (e.1.symm.trans ha))]
        rfl
      · rw [List.getElem?_eq_none (by rw [tabRow_length]; omega), List.getElem?_eq_none (by rw [tabRow_length]; omega)]
  · rw [List.getElem?_eq_none (by rw [List.length_set, tab_length]; omega), List.getElem?_eq_none (by rw [tab_length]; omega)]

/-- The edges of a list of single edges. -/
def madeS (n : Nat) (es : List (Nat × Nat)) : List E3 := joined (fun a b => (cnt es a b : Int)) n
theorem joinRow_congr {f g : Nat → Nat → Int} {n a : Nat} (h : ∀ b, b < n → f a b = g a b) : joinRow f a n = joinRow g a n := by
  unfold joinRow
  have : ∀ l : List Nat, (∀ j ∈ l, j < n) → l.filterMap (fun j : Nat => if 0 < f a j then some ((a : Int), (j : Int), f a j) else none) = l.filterMap (fun j : Nat => if 0 < g a j then some ((a : Int), (j : Int), g a j) else none) := by
    intro l
    induction l with
    | nil => intro _; rfl
    | cons j l ih =>
      intro hl
      rw [List.filterMap_cons, List.filterMap_cons, h j (hl j (by simp)), ih fun i hi => hl i (by simp [hi])]
  exact this _ fun j hj => by simp [List.mem_range'_1] at hj; omega
theorem joined_congr {f g : Nat → Nat → Int} {n : Nat} (h : ∀ a b, a < n → b < n → f a b = g a b) : joined f n = joined g n := by
  unfold joined joinTo
  have : ∀ k, k ≤ n → (List.range k).flatMap (fun i => joinRow f i n) = (List.range k).flatMap (fun i => joinRow g i n) := by
    intro k
    induction k with
    | zero => simp
    | succ k ih =>
      intro hk
      rw [List.range_succ, List.flatMap_append, List.flatMap_append, ih (by omega)]
      simp only [List.flatMap_cons, List.flatMap_nil, List.append_nil]
      rw [joinRow_congr fun b hb => h k b (by omega) hb]
  exact this n (Nat.le_refl _)
theorem joined_tab (n : Nat) (es : List (Nat × Nat)) : joined (entry (tab n es)) n = madeS n es := joined_congr fun _ _ ha hb => entry_tab es ha hb

set_option maxRecDepth 100000 in
set_option maxHeartbeats 1000000 in
theorem rmake_any (n : Nat) (h1 : 1 ≤ n) (hn : n ≤ 12) (A : Option Addr) (c : Nat) (es : List (Nat × Nat)) (hl : es.length ≤ 4096) (hin : ∀ e ∈ es, e.1 < n ∧ e.2 < n) (hm : ∀ a b, a < n → b < n → cnt es a b ≤ 50) (w : World) (h : Reads w w.heap.size 2 A es.length (pairCells es)) :
    Calls Tryz.prog 136 #[.int .i64 n, .slice A es.length c] w fun e w' =>
      ∃ A1 c1, e = .returned (.tuple #[.agg #[.int .i64 n, .slice A1 (madeS n es).length c1], .int .i64 0]) ∧ OwnE w' w.heap.size A1 c1 (madeS n es) ∧ Below w.heap.size w w' := by
  have HIN := Lib.hid hin
  have HM := Lib.hid hm
  clear hin hm
  have t1 : ((n : Int) < 1) = False := by simp; omega
  have t2 : ((12 : Int) < (n : Int)) = False := by simp; omega
  have t3 : ((4096 : Int) < (es.length : Int)) = False := by simp; omega
  go_enter Tryz.func136, Tryz.ntmps136
  go_wp2_with (go_at_call 190; refine (table_any n (by omega) _).mono ?_; rintro e w1 ⟨A1, c1, gs, rfl, HG, hgrid, hb1⟩)
  clear t1 t2 t3
  have hB1 : Below w.heap.size w w1 := ((Below.refl _ _).alloc (Nat.le_refl _) _).trans (hb1.mono (by simp))
  have g0 : Blk w1 w.heap.size 24 #[.int .i64 0, .slice none 0 0] := (Blk.new w 24 #[.int .i64 0, .slice none 0 0]).below hb1 (by simp)
  go_loopw [7] (fun i wr => ∃ (k : Nat), k ≤ es.length ∧ i = .int .i64 k ∧ Blk wr w.heap.size 24 #[.int .i64 0, .slice none 0 0] ∧ Grid wr w.heap.size A1 c1 n gs (tab n (es.take k)) ∧ Below w.heap.size w wr) (fun i _ => es.length - (intOf i).toNat)
  case atStart => exact ⟨0, by omega, rfl, g0, by rw [List.take_zero, tab_nil]; exact hgrid.mono (by simp), hB1⟩
  case round =>
    clear hgrid hb1 hB1 g0
    obtain ⟨k, hk, rfl, g0, hgrid, hbel⟩ := hrel
    by_cases hlt : k < es.length
    · have hi : (k : Int) < (es.length : Int) := by omega
      obtain ⟨⟨x, y⟩, hx⟩ := get_of_lt hlt
      have hxy := HIN.out _ (List.mem_of_getElem? hx)
      obtain ⟨b, off, rfl, hb, q1, q2⟩ := (h.below hbel).pair hx
      dsimp only at q1 q2 hxy
      obtain ⟨hxn, hyn⟩ := hxy
      have HX := Lib.hid hx
      clear hx h
      have u1 : ((x : Int) < 0) = False := by simp
      have u2 : ((y : Int) < 0) = False := by simp
      have u3 : ((n : Int) ≤ (x : Int)) = False := by simp; omega
      have u4 : ((n : Int) ≤ (y : Int)) = False := by simp; omega
      go_wp2
      go_quiet (fail)
      have x_n := hxn
      have y_n := hyn
      rcases Nat.lt_trichotomy x y with hlt2 | rfl | hlt2
      · have v1 : ((x : Int) < (y : Int)) = True := by simp; omega
        have v2 : ((y : Int) < (x : Int)) = False := by simp; omega
        have v3 : (x : Int) < (n : Int) := by omega
        have v4 : (y : Int) < (n : Int) := by omega
        have hcnt : cnt (es.take k) x y ≤ 4096 := by
          have : cnt (es.take k) x y ≤ (es.take k).length := List.length_filter_le _ _
          rw [List.length_take] at this; omega
        obtain ⟨g, hg⟩ := get_of_lt (xs := gs) (k := x) (by have := HG.out; omega)
        obtain ⟨hgb, _, _⟩ := hgrid.row x g _ hg (tab_row _ x_n)
        obtain ⟨b3, off3, rfl, hc3⟩ := hgrid.cell hg
        have hc4 := hgb.cell y
        rw [intCells_get (tabRow_at _ _ y_n)] at hc4
        have hf4 := hgb.frozen y
        have hset := (hgrid.drewN nq).set (j := y) hg (tab_row _ x_n) ((cnt (es.take k) x y : Int) + 1)
        rw [tab_snoc (e := (x, y)) (by simp <;> omega) (by simp <;> omega) x_n y_n, ← take_snoc HX.out] at hset
        have g0' := (g0.drewN nq).far (p := ⟨g, y, none⟩) (by intro e; exact hgb.ne_ g0 (by decide) e.symm) (.int .i64 ((cnt (es.take k) x y : Int) + 1))
        obtain ⟨cn, hcn⟩ : ∃ cn, cnt (es.take k) x y = cn := ⟨_, rfl⟩
        rw [hcn] at hc4 hset hcnt g0'
        have HS := Lib.hid hset
        have HB := Lib.hid (hgrid.blk (List.mem_of_getElem? hg))
        clear hset hgb hgrid hcn hg
        go_wp2
        go_roundw
        case rel =>
          refine ⟨k + 1, by omega, by go_num, g0', HS.out, ?_⟩
          obtain ⟨_, _, hgz⟩ := HB.out
          exact (below_drewN hbel nq).setCell hgz _
        case measure => simp [intOf]; omega
      · have v3 : (x : Int) < (n : Int) := by omega
        have hcnt : cnt (es.take k) x x ≤ 4096 := by
          have : cnt (es.take k) x x ≤ (es.take k).length := List.length_filter_le _ _
          rw [List.length_take] at this; omega
        obtain ⟨g, hg⟩ := get_of_lt (xs := gs) (k := x) (by have := HG.out; omega)
        obtain ⟨hgb, _, _⟩ := hgrid.row x g _ hg (tab_row _ x_n)
        obtain ⟨b3, off3, rfl, hc3⟩ := hgrid.cell hg
        have hc4 := hgb.cell x
        rw [intCells_get (tabRow_at _ _ x_n)] at hc4
        have hf4 := hgb.frozen x
        have hset := (hgrid.drewN nq).set (j := x) hg (tab_row _ x_n) ((cnt (es.take k) x x : Int) + 1)
        rw [tab_snoc (e := (x, x)) (by simp <;> omega) (by simp <;> omega) x_n x_n, ← take_snoc HX.out] at hset
        have g0' := (g0.drewN nq).far (p := ⟨g, x, none⟩) (by intro e; exact hgb.ne_ g0 (by decide) e.symm) (.int .i64 ((cnt (es.take k) x x : Int) + 1))
        obtain ⟨cn, hcn⟩ : ∃ cn, cnt (es.take k) x x = cn := ⟨_, rfl⟩
        rw [hcn] at hc4 hset hcnt g0'
        have HS := Lib.hid hset
        have HB := Lib.hid (hgrid.blk (List.mem_of_getElem? hg))
        clear hset hgb hgrid hcn hg
        go_wp2
        go_roundw
        case rel =>
          refine ⟨k + 1, by omega, by go_num, g0', HS.out, ?_⟩
          obtain ⟨_, _, hgz⟩ := HB.out
          exact (below_drewN hbel nq).setCell hgz _
        case measure => simp [intOf]; omega
      · have v1 : ((x : Int) < (y : Int)) = False := by simp; omega
        have v2 : ((y : Int) < (x : Int)) = True := by simp; omega
        have v3 : (x : Int) < (n : Int) := by omega
        have v4 : (y : Int) < (n : Int) := by omega
        have hcnt : cnt (es.take k) y x ≤ 4096 := by
          have : cnt (es.take k) y x ≤ (es.take k).length := List.length_filter_le _ _
          rw [List.length_take] at this; omega
        obtain ⟨g, hg⟩ := get_of_lt (xs := gs) (k := y) (by have := HG.out; omega)
        obtain ⟨hgb, _, _⟩ := hgrid.row y g _ hg (tab_row _ y_n)
        obtain ⟨b3, off3, rfl, hc3⟩ := hgrid.cell hg
        have hc4 := hgb.cell x
        rw [intCells_get (tabRow_at _ _ x_n)] at hc4
        have hf4 := hgb.frozen x
        have hset := (hgrid.drewN nq).set (j := x) hg (tab_row _ y_n) ((cnt (es.take k) y x : Int) + 1)
        rw [tab_snoc (e := (x, y)) (by simp <;> omega) (by simp <;> omega) y_n x_n, ← take_snoc HX.out] at hset
        have g0' := (g0.drewN nq).far (p := ⟨g, x, none⟩) (by intro e; exact hgb.ne_ g0 (by decide) e.symm) (.int .i64 ((cnt (es.take k) y x : Int) + 1))
        obtain ⟨cn, hcn⟩ : ∃ cn, cnt (es.take k) y x = cn := ⟨_, rfl⟩
        rw [hcn] at hc4 hset hcnt g0'
        have HS := Lib.hid hset
        have HB := Lib.hid (hgrid.blk (List.mem_of_getElem? hg))
        clear hset hgb hgrid hcn hg
        go_wp2
        go_roundw
        case rel =>
          refine ⟨k + 1, by omega, by go_num, g0', HS.out, ?_⟩
          obtain ⟨_, _, hgz⟩ := HB.out
          exact (below_drewN hbel nq).setCell hgz _
        case measure => simp [intOf]; omega
    · have hi : ¬ (k : Int) < (es.length : Int) := by omega
      obtain rfl : k = es.length := by omega
      rw [List.take_length] at hgrid
      have HJ := fun w h => rjoined_any n (by omega) A1 c1 (tab n es) (tab_length n es) tab_mem w h
      simp only [tab_length, joined_tab] at HJ
      have HJ := Lib.hid HJ
      go_wp2
      go_loop [10] (fun i => ∃ a : Nat, a ≤ n ∧ i = .int .i64 a) (fun i => n - (intOf i).toNat)
      case atStart => exact ⟨0, by omega, rfl⟩
      case round =>
        obtain ⟨a, ha, rfl⟩ := hrel
        by_cases hlt2 : a < n
        · have hi2 : (a : Int) < (n : Int) := by omega
          obtain ⟨g, hg⟩ := get_of_lt (xs := gs) (k := a) (by have := HG.out; omega)
          obtain ⟨hgb, _, _⟩ := hgrid.row a g _ hg (tab_row _ hlt2)
          obtain ⟨b3, off3, rfl, hc3⟩ := hgrid.cell hg
          go_wp2
          go_loop [11] (fun i => ∃ b : Nat, b ≤ n ∧ i = .int .i64 b) (fun i => n - (intOf i).toNat)
          case atStart => exact ⟨0, by omega, rfl⟩
          case round =>
            obtain ⟨b, hb, rfl⟩ := hrel
            by_cases hlt3 : b < n
            · have hi3 : (b : Int) < (n : Int) := by omega
              have hc4 := hgb.cell b
              rw [intCells_get (tabRow_at _ _ hlt3)] at hc4
              have h50 : ((50 : Int) < (cnt es a b : Int)) = False := by have := HM.out a b hlt2 hlt3; simp; omega
              go_wp2
              go_round
              case rel => exact ⟨b + 1, by omega, by go_num⟩
              case measure => simp [intOf]; omega
            · have hi3 : ¬ (b : Int) < (n : Int) := by omega
              go_wp2
              go_round
              case rel => exact ⟨a + 1, by omega, by go_num⟩
              case measure => simp [intOf]; omega
        · have hi2 : ¬ (a : Int) < (n : Int) := by omega
          have hz := hbel.size
          go_wp2_with (go_at_call 191; refine (HJ.out _ hgrid.reads).mono ?_; rintro e w2 ⟨A2, c2, rfl, hown2, hb2⟩; have g2 := g0.next hb2; have f2 := g2.frozen; have p2 := g2.cell 0; have p3 := g2.cell 1)
          try simp only [Exit.inBlock, Exit.then]
          refine bodyPost_ret (results_g1 rfl rfl ((g2.set_ 0 _).set_ 1 _) rfl) rfl ?_
          refine ⟨A2, c2, rfl, ?_, ?_⟩
          · exact ((hown2.mono hz).set_blk g2 (by decide) _ _).set_blk (g2.set_ 0 _) (by decide) _ _
          · exact ((hbel.trans (hb2.mono hz)).setCell (Nat.le_refl _) _).setCell (Nat.le_refl _) _
end Go.Proofs.YtnbikkcalcpedaaGreatDoor

/-! ref08.Between; the error of a divisor: ref17.Check. -/
namespace Go.Proofs.YtnbikkcalcpedaaGreatDoor
open Go.RowKit

set_option maxRecDepth 100000 in
set_option maxHeartbeats 2000000 in
/-- ref08.Between -/
theorem between_any (n : Int) (A : Option Addr) (c : Nat) (es : List E3) (hn : es.length ≤ 1048576) (a b : Int) (w : World) (h : Reads w w.heap.size 3 A es.length (edgeCells es)) :
    Calls Tryz.prog 104 #[.agg #[.int .i64 n, .slice A es.length c], .int .i64 a, .int .i64 b] w fun e w' => e = .returned (.int .i64 (btw es a b)) ∧ Below w.heap.size w w' := by
  obtain ⟨r, hr⟩ : ∃ r, btw es a b = r := ⟨_, rfl⟩
  rw [hr]
  have HR := Lib.hid hr
  clear hr
  rcases Int.lt_trichotomy a b with hab | rfl | hab
  · have hba : ¬ b < a := by omega
    go_enter Tryz.func104, Tryz.ntmps104
    go_wp2
    go_loopw [7] (fun i wr => ∃ k : Nat, k ≤ es.length ∧ i = .int .i64 k ∧ Below w.heap.size w wr ∧ Blk wr w.heap.size 24 #[.int .i64 n, .slice A es.length c] ∧ Hid (btw es a b = btw (es.drop k) a b)) (fun i _ => es.length - (intOf i).toNat)
    case atStart => exact ⟨0, by omega, rfl, (Below.refl _ _).alloc (Nat.le_refl _) _, Blk.new _ _ _, by simp [Hid]⟩
    case round =>
      obtain ⟨k, hk, rfl, hbel, g1, HS⟩ := hrel
      have c1 := g1.cell 1
      have hsz := hbel.size
      have hlt0 := g1.lt
      by_cases hlt : k < es.length
      · obtain ⟨⟨x, y, m⟩, hx⟩ := get_of_lt hlt
        have hi : (k : Int) < (es.length : Int) := by omega
        have hd := btw_drop hx a b
        rw [show min a b = a from by omega, show max a b = b from by omega] at hd
        dsimp only at hd
        obtain ⟨bb, off, rfl, hb, q1, q2, q3⟩ := (h.below hbel).edge hx
        have G1 := g1.alloc (.cells #[.int .i64 x, .int .i64 y, .int .i64 m] 107)
        dsimp only at q1 q2 q3
        have HB := Lib.hid (hbel.alloc (Nat.le_trans (by simp) hsz) (.cells #[.int .i64 x, .int .i64 y, .int .i64 m] 107))
        clear hx h hbel
        by_cases h1 : x = a
        · by_cases h2 : y = b
          · rw [if_pos ⟨h1, h2⟩] at hd
            have HD := Lib.hid hd
            have e1 : (x == a) = true := by simpa using h1
            have e2 : (y == b) = true := by simpa using h2
            clear hd h1 h2
            go_wp2
            go_ret
            exact ⟨ret_int (by rw [← HR.out, HS.out, HD.out]), HB.out⟩
          · rw [if_neg (fun hc => h2 hc.2)] at hd
            have HD := Lib.hid hd
            have e1 : (x == a) = true := by simpa using h1
            have e2 : (y == b) = false := by simpa using h2
            clear hd h1 h2
            go_wp2
            go_roundw
            case rel => exact ⟨k + 1, by omega, by go_num, HB.out, G1, by rw [Hid, HS.out, HD.out]⟩
            case measure => simp [intOf]; omega
        · rw [if_neg (fun hc => h1 hc.1)] at hd
          have HD := Lib.hid hd
          have e1 : (x == a) = false := by simpa using h1
          clear hd h1
          go_wp2
          go_roundw
          case rel => exact ⟨k + 1, by omega, by go_num, HB.out, G1, by rw [Hid, HS.out, HD.out]⟩
          case measure => simp [intOf]; omega
      · go_wp2
        go_ret
        refine ⟨ret_int ?_, hbel⟩
        have e : btw es a b = 0 := by rw [HS.out, List.drop_eq_nil_of_le (by omega)]; rfl
        rw [← HR.out, e]
  · go_enter Tryz.func104, Tryz.ntmps104
    go_wp2
    go_loopw [7] (fun i wr => ∃ k : Nat, k ≤ es.length ∧ i = .int .i64 k ∧ Below w.heap.size w wr ∧ Blk wr w.heap.size 24 #[.int .i64 n, .slice A es.length c] ∧ Hid (btw es a a = btw (es.drop k) a a)) (fun i _ => es.length - (intOf i).toNat)
    case atStart => exact ⟨0, by omega, rfl, (Below.refl _ _).alloc (Nat.le_refl _) _, Blk.new _ _ _, by simp [Hid]⟩
    case round =>
      obtain ⟨k, hk, rfl, hbel, g1, HS⟩ := hrel
      have c1 := g1.cell 1
      have hsz := hbel.size
      have hlt0 := g1.lt
      by_cases hlt : k < es.length
      · obtain ⟨⟨x, y, m⟩, hx⟩ := get_of_lt hlt
        have hi : (k : Int) < (es.length : Int) := by omega
        have hd := btw_drop hx a a
        rw [show min a a = a from by omega, show max a a = a from by omega] at hd
        dsimp only at hd
        obtain ⟨bb, off, rfl, hb, q1, q2, q3⟩ := (h.below hbel).edge hx
        have G1 := g1.alloc (.cells #[.int .i64 x, .int .i64 y, .int .i64 m] 107)
        dsimp only at q1 q2 q3
        have HB := Lib.hid (hbel.alloc (Nat.le_trans (by simp) hsz) (.cells #[.int .i64 x, .int .i64 y, .int .i64 m] 107))
        clear hx h hbel
        by_cases h1 : x = a
        · by_cases h2 : y = a
          · rw [if_pos ⟨h1, h2⟩] at hd
            have HD := Lib.hid hd
            have e1 : (x == a) = true := by simpa using h1
            have e2 : (y == a) = true := by simpa using h2
            clear hd h1 h2
            go_wp2
            go_ret
            exact ⟨ret_int (by rw [← HR.out, HS.out, HD.out]), HB.out⟩
          · rw [if_neg (fun hc => h2 hc.2)] at hd
            have HD := Lib.hid hd
            have e1 : (x == a) = true := by simpa using h1
            have e2 : (y == a) = false := by simpa using h2
            clear hd h1 h2
            go_wp2
            go_roundw
            case rel => exact ⟨k + 1, by omega, by go_num, HB.out, G1, by rw [Hid, HS.out, HD.out]⟩
            case measure => simp [intOf]; omega
        · rw [if_neg (fun hc => h1 hc.1)] at hd
          have HD := Lib.hid hd
          have e1 : (x == a) = false := by simpa using h1
          clear hd h1
          go_wp2
          go_roundw
          case rel => exact ⟨k + 1, by omega, by go_num, HB.out, G1, by rw [Hid, HS.out, HD.out]⟩
          case measure => simp [intOf]; omega
      · go_wp2
        go_ret
        refine ⟨ret_int ?_, hbel⟩
        have e : btw es a a = 0 := by rw [HS.out, List.drop_eq_nil_of_le (by omega)]; rfl
        rw [← HR.out, e]
  · have hba : ¬ a < b := by omega
    go_enter Tryz.func104, Tryz.ntmps104
    go_wp2
    go_loopw [7] (fun i wr => ∃ k : Nat, k ≤ es.length ∧ i = .int .i64 k ∧ Below w.heap.size w wr ∧ Blk wr w.heap.size 24 #[.int .i64 n, .slice A es.length c] ∧ Hid (btw es a b = btw (es.drop k) a b)) (fun i _ => es.length - (intOf i).toNat)
    case atStart => exact ⟨0, by omega, rfl, (Below.refl _ _).alloc (Nat.le_refl _) _, Blk.new _ _ _, by simp [Hid]⟩
    case round =>
      obtain ⟨k, hk, rfl, hbel, g1, HS⟩ := hrel
      have c1 := g1.cell 1
      have hsz := hbel.size
      have hlt0 := g1.lt
      by_cases hlt : k < es.length
      · obtain ⟨⟨x, y, m⟩, hx⟩ := get_of_lt hlt
        have hi : (k : Int) < (es.length : Int) := by omega
        have hd := btw_drop hx a b
        rw [show min a b = b from by omega, show max a b = a from by omega] at hd
        dsimp only at hd
        obtain ⟨bb, off, rfl, hb, q1, q2, q3⟩ := (h.below hbel).edge hx
        have G1 := g1.alloc (.cells #[.int .i64 x, .int .i64 y, .int .i64 m] 107)
        dsimp only at q1 q2 q3
        have HB := Lib.hid (hbel.alloc (Nat.le_trans (by simp) hsz) (.cells #[.int .i64 x, .int .i64 y, .int .i64 m] 107))
        clear hx h hbel
        by_cases h1 : x = b
        · by_cases h2 : y = a
          · rw [if_pos ⟨h1, h2⟩] at hd
            have HD := Lib.hid hd
            have e1 : (x == b) = true := by simpa using h1
            have e2 : (y == a) = true := by simpa using h2
            clear hd h1 h2
            go_wp2
            go_ret
            exact ⟨ret_int (by rw [← HR.out, HS.out, HD.out]), HB.out⟩
          · rw [if_neg (fun hc => h2 hc.2)] at hd
            have HD := Lib.hid hd
            have e1 : (x == b) = true := by simpa using h1
            have e2 : (y == a) = false := by simpa using h2
            clear hd h1 h2
            go_wp2
            go_roundw
            case rel => exact ⟨k + 1, by omega, by go_num, HB.out, G1, by rw [Hid, HS.out, HD.out]⟩
            case measure => simp [intOf]; omega
        · rw [if_neg (fun hc => h1 hc.1)] at hd
          have HD := Lib.hid hd
          have e1 : (x == b) = false := by simpa using h1
          clear hd h1
          go_wp2
          go_roundw
          case rel => exact ⟨k + 1, by omega, by go_num, HB.out, G1, by rw [Hid, HS.out, HD.out]⟩
          case measure => simp [intOf]; omega
      · go_wp2
        go_ret
        refine ⟨ret_int ?_, hbel⟩
        have e : btw es a b = 0 := by rw [HS.out, List.drop_eq_nil_of_le (by omega)]; rfl
        rw [← HR.out, e]

end Go.Proofs.YtnbikkcalcpedaaGreatDoor

