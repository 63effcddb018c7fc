/-
  Texts of this claim, put together: GridW, Joined, DelF, RSort.
-/
import Derived.Test.YtnbikkcalcpedaaGreatDoorK07
import Derived.Test.YtnbikkcalcpedaaGreatDoorK10
import Derived.Test.YtnbikkcalcpedaaGreatDoorK06
import Derived.Deep.RegionLaw
import Derived.Lib.SliceRun
import Derived.WalkKit
import Derived.Test.YtnbikkcalcpedaaGreatDoorK04
import Derived.Test.YtnbikkcalcpedaaGreatDoorK03
import Derived.Deep.QuietTactic
import Derived.BigQuiet
import Derived.Deep.CutRange
import Derived.Deep.RegionHeld3
/-! Tables: slices of slices of ints whose rows lie in blocks of their own. -/
namespace Go.Proofs.YtnbikkcalcpedaaGreatDoor
open Go.RowKit

/-- A table of rows of n ints, each in a block of its own. -/
structure Grid (w : World) (base : Nat) (A : Option Addr) (c n : Nat) (gs : List Nat) (rows : List (List Int)) : Prop where
  outer : w.ownsRow base 25 1 (.slice A gs.length c) gs.length (gs.map fun g => .slice (some ⟨g, 0, none⟩) n n)
  len : rows.length = gs.length
  row : ∀ (i g : Nat) (r : List Int), gs[i]? = some g → rows[i]? = some r → Blk w g 3 (intCells r) ∧ r.length = n ∧ base ≤ g
  nodup : gs.Nodup

section
variable {w w' : World} {base : Nat} {A : Option Addr} {c n : Nat} {gs : List Nat} {rows : List (List Int)}
theorem Grid.nil_ (w : World) (base n : Nat) : Grid w base none 0 n [] [] := ⟨World.ownsRow_nil _ _ _ _, rfl, by simp, by simp⟩
theorem Grid.at_ (h : Grid w base A c n gs rows) {i : Nat} (hi : i < rows.length) : ∃ g r, gs[i]? = some g ∧ rows[i]? = some r ∧ Blk w g 3 (intCells r) ∧ r.length = n ∧ base ≤ g := by
  obtain ⟨r, hr⟩ := get_of_lt hi
  obtain ⟨g, hg⟩ := get_of_lt (xs := gs) (k := i) (by have := h.len; omega)
  obtain ⟨h1, h2, h3⟩ := h.row i g r hg hr
  exact ⟨g, r, hg, hr, h1, h2, h3⟩
theorem Grid.cell (h : Grid w base A c n gs rows) {i g : Nat} (hg : gs[i]? = some g) : ∃ b off, A = some ⟨b, off, none⟩ ∧ w.cell? ⟨b, off + i, none⟩ = some (.slice (some ⟨g, 0, none⟩) n n) := by
  obtain ⟨b, off, hA, _, hc⟩ := (Reads.of_own h.outer).at_ (k := i) (u := .slice (some ⟨g, 0, none⟩) n n) (by simp [hg])
  exact ⟨b, off, hA, hc⟩
theorem Grid.blk (h : Grid w base A c n gs rows) {g : Nat} (hg : g ∈ gs) : ∃ cs, Blk w g 3 cs ∧ base ≤ g := by
  obtain ⟨i, hi⟩ := List.getElem?_of_mem hg
  obtain ⟨r, hr⟩ := get_of_lt (xs := rows) (k := i) (by have := (List.getElem?_eq_some_iff.1 hi).1; have := h.len; omega)
  obtain ⟨h1, _, h3⟩ := h.row i g r hi hr
  exact ⟨_, h1, h3⟩
theorem Grid.kept (h : Grid w base A c n gs rows) (hA : ∀ k, blockOf A k → w'.heap[k]? = w.heap[k]?) (hg : ∀ g, g ∈ gs → w'.heap[g]? = w.heap[g]?) : Grid w' base A c n gs rows :=
  ⟨own_kept h.outer hA, h.len, fun i g r hi hr => by
    obtain ⟨h1, h2, h3⟩ := h.row i g r hi hr
    exact ⟨(hg g (List.mem_of_getElem? hi)).trans h1, h2, h3⟩, h.nodup⟩
theorem Grid.next (h : Grid w base A c n gs rows) (hb : Below w.heap.size w w') : Grid w' base A c n gs rows :=
  h.kept (fun k hk => hb.block k (own_lt h.outer hk).2) fun g hg => by
    obtain ⟨cs, hc, _⟩ := h.blk hg
    exact hb.block g hc.lt
theorem Grid.mono {base' : Nat} (h : Grid w base A c n gs rows) (hb : base' ≤ base) : Grid w base' A c n gs rows :=
  ⟨own_rebase h.outer fun k hk => Nat.le_trans hb (own_lt h.outer hk).1, h.len, fun i g r hi hr => by
    obtain ⟨h1, h2, h3⟩ := h.row i g r hi hr
    exact ⟨h1, h2, by omega⟩, h.nodup⟩
theorem Grid.drewN (h : Grid w base A c n gs rows) (m : Nat) : Grid (w.drewN m) base A c n gs rows := h.kept (fun _ _ => rfl) fun _ _ => rfl
theorem Grid.far (h : Grid w base A c n gs rows) {g : Nat} {t : TypeId} {cs : Array Value} (hg : Blk w g t cs) (h1 : 25 ≠ t) (h2 : 3 ≠ t) (o : Nat) (u : Value) : Grid (w.setCell ⟨g, o, none⟩ u) base A c n gs rows :=
  h.kept (fun k hk => Below.heap_setCell w ⟨g, o, none⟩ u k (own_blk h.outer hg h1 hk)) fun g' hg' => by
    obtain ⟨cs', hc, _⟩ := h.blk hg'
    exact Below.heap_setCell w ⟨g, o, none⟩ u g' (hc.ne_ hg h2)
/-- A store into a row. -/
theorem Grid.set (h : Grid w base A c n gs rows) {i j g : Nat} {r : List Int} (hi : gs[i]? = some g) (hr : rows[i]? = some r) (x : Int) : Grid (w.setCell ⟨g, j, none⟩ (.int .i64 x)) base A c n gs (rows.set i (r.set j x)) := by
  obtain ⟨h1, h2, h3⟩ := h.row i g r hi hr
  refine ⟨own_kept h.outer fun k hk => Below.heap_setCell w ⟨g, j, none⟩ _ k (own_blk h.outer h1 (by decide) hk), by rw [List.length_set]; exact h.len, fun i' g' r' hi' hr' => ?_, h.nodup⟩
  by_cases he : i' = i
  · subst he
    rw [hi] at hi'; cases hi'
    have hl : i' < rows.length := (List.getElem?_eq_some_iff.1 hr).1
    rw [List.getElem?_set_self hl] at hr'; cases hr'
    exact ⟨by rw [← intCells_set]; exact h1.set_ j _, by simpa using h2, h3⟩
  · rw [List.getElem?_set_ne (fun e => he e.symm)] at hr'
    obtain ⟨k1, k2, k3⟩ := h.row i' g' r' hi' hr'
    have hne : g' ≠ g := by
      rintro rfl
      obtain ⟨l1, e1⟩ := List.getElem?_eq_some_iff.1 hi
      obtain ⟨l2, e2⟩ := List.getElem?_eq_some_iff.1 hi'
      rcases Nat.lt_trichotomy i i' with hl | hl | hl
      · exact List.pairwise_iff_getElem.1 h.nodup i i' l1 l2 hl (e1.trans e2.symm)
      · exact he hl.symm
      · exact List.pairwise_iff_getElem.1 h.nodup i' i l2 l1 hl (e2.trans e1.symm)
    exact ⟨k1.far (by simpa using hne) _, k2, k3⟩
/-- One row more. -/
theorem Grid.push {A' : Option Addr} {c' g : Nat} {r : List Int} (h : Grid w base A c n gs rows) (hg : Blk w g 3 (intCells r)) (hr : r.length = n) (hb : base ≤ g) (hnew : ∀ g' ∈ gs, g' ≠ g)
    (hown : w'.ownsRow base 25 1 (.slice A' (gs.length + 1) c') (gs.length + 1) ((gs.map fun g => .slice (some ⟨g, 0, none⟩) n n) ++ [.slice (some ⟨g, 0, none⟩) n n]))
    (hgr : w.grownBy w' (Value.slice A gs.length c).ownBlock) : Grid w' base A' c' n (gs ++ [g]) (rows ++ [r]) := by
  have keep : ∀ {g' : Nat} {cs : Array Value}, Blk w g' 3 cs → Blk w' g' 3 cs := fun hc => hc.grown hgr (own_blk_ne h.outer hc (by decide))
  refine ⟨by rw [List.map_append, List.length_append]; exact hown, by simp [h.len], fun i g' r' hi hr' => ?_, ?_⟩
  · rcases Nat.lt_trichotomy i gs.length with hlt | rfl | hgt
    · rw [List.getElem?_append_left hlt] at hi
      rw [List.getElem?_append_left (by rw [h.len]; exact hlt)] at hr'
      obtain ⟨k1, k2, k3⟩ := h.row i g' r' hi hr'
      exact ⟨keep k1, k2, k3⟩
    · have e1 : g = g' := by simpa using hi
      have e2 : r = r' := by rw [← h.len] at hr'; simpa using hr'
      subst e1 e2
      exact ⟨keep hg, hr, hb⟩
    · rw [List.getElem?_eq_none (by simp; omega)] at hi; cases hi
  · rw [List.nodup_append]
    exact ⟨h.nodup, by simp, fun a ha b hb' => by rw [List.mem_singleton.1 hb']; exact hnew a ha⟩
theorem Grid.reads (h : Grid w base A c n gs rows) : RowsR w w.heap.size A rows :=
  ⟨gs.map fun g => .slice (some ⟨g, 0, none⟩) n n, by rw [h.len]; exact Reads.of_own h.outer, fun i r hi => by
    obtain ⟨g, hg⟩ := get_of_lt (xs := gs) (k := i) (by have := (List.getElem?_eq_some_iff.1 hi).1; have := h.len; omega)
    obtain ⟨h1, h2, h3⟩ := h.row i g r hg hi
    subst h2
    exact ⟨some ⟨g, 0, none⟩, r.length, by simp [hg], by simp [ints], fun _ => ⟨g, 0, rfl, h1.lt, fun j v hv => by rw [Nat.zero_add, h1.cell j]; simpa [intCells] using hv⟩⟩⟩
end

end Go.Proofs.YtnbikkcalcpedaaGreatDoor

/-! ref08.Joined: the graph of a table of multiplicities. -/
namespace Go.Proofs.YtnbikkcalcpedaaGreatDoor
open Go.RowKit

def entry (rows : List (List Int)) (a b : Nat) : Int := ((rows[a]?.getD [])[b]?).getD 0
theorem entry_of {rows : List (List Int)} {a b : Nat} {r : List Int} {x : Int} (h : rows[a]? = some r) (h' : r[b]? = some x) : entry rows a b = x := by simp [entry, h, h']
def joinRow (f : Nat → Nat → Int) (a b : Nat) : List E3 := (List.range' a (b - a)).filterMap fun j : Nat => if 0 < f a j then some ((a : Int), (j : Int), f a j) else none
def joinTo (f : Nat → Nat → Int) (n a : Nat) : List E3 := (List.range a).flatMap fun i => joinRow f i n
def joined (f : Nat → Nat → Int) (n : Nat) : List E3 := joinTo f n n
theorem joinRow_none {f : Nat → Nat → Int} {a b : Nat} (h : b ≤ a) : joinRow f a b = [] := by
  unfold joinRow
  rw [show b - a = 0 from by omega]
  rfl
theorem joinRow_succ {f : Nat → Nat → Int} {a b : Nat} (h : a ≤ b) : joinRow f a (b + 1) = joinRow f a b ++ (if 0 < f a b then [((a : Int), (b : Int), f a b)] else []) := by
  unfold joinRow
  rw [show b + 1 - a = (b - a) + 1 from by omega, List.range'_1_concat, List.filterMap_append]
  congr 1
  rw [show a + (b - a) = b from by omega]
  by_cases hf : 0 < f a b <;> simp [hf]
theorem joinTo_succ (f : Nat → Nat → Int) (n a : Nat) : joinTo f n (a + 1) = joinTo f n a ++ joinRow f a n := by simp [joinTo, List.range_succ, List.flatMap_append]
theorem joinRow_length (f : Nat → Nat → Int) (a b : Nat) : (joinRow f a b).length ≤ b - a := by
  unfold joinRow
  have := List.length_filterMap_le (fun j : Nat => if 0 < f a j then some ((a : Int), (j : Int), f a j) else none) (List.range' a (b - a))
  simpa using this
theorem joinTo_length (f : Nat → Nat → Int) (n a : Nat) : (joinTo f n a).length ≤ a * n := by
  induction a with
  | zero => simp [joinTo]
  | succ a ih =>
    have := joinRow_length f a n
    rw [joinTo_succ, List.length_append, Nat.succ_mul]; omega

set_option maxRecDepth 100000 in
set_option maxHeartbeats 1000000 in
theorem rjoined_any (n : Nat) (hn : n ≤ 1000) (A : Option Addr) (c : Nat) (rows : List (List Int)) (hl : rows.length = n) (hr : ∀ r ∈ rows, r.length = n) (w : World) (h : RowsR w w.heap.size A rows) :
    Calls Tryz.prog 191 #[.int .i64 n, .slice A rows.length c] w fun e w' =>
      ∃ A1 c1, e = .returned (.agg #[.int .i64 n, .slice A1 (joined (entry rows) n).length c1]) ∧ OwnE w' w.heap.size A1 c1 (joined (entry rows) n) ∧ Below w.heap.size w w' := by
  have HR := Lib.hid hr
  have HL := Lib.hid hl
  clear hr hl
  go_enter Tryz.func191, Tryz.ntmps191
  go_wp2
  go_loopw [6] (fun i wr => ∃ (a : Nat) (A' : Option Addr) (c' : Nat), a ≤ n ∧ i = .int .i64 a ∧ Blk wr w.heap.size 24 #[.int .i64 0, .slice none 0 0] ∧ Blk wr (w.heap.size + 1) 24 #[.int .i64 n, .slice A' (joinTo (entry rows) n a).length c'] ∧
    OwnE wr w.heap.size A' c' (joinTo (entry rows) n a) ∧ Below w.heap.size w wr) (fun i _ => n - (intOf i).toNat)
  case atStart =>
    have := Blk.new (w.alloc (.cells #[.int .i64 0, .slice none 0 0] 24)) 24 #[.int .i64 n, .slice none 0 0]
    refine ⟨0, none, 0, by omega, rfl, (Blk.new _ _ _).alloc _, by simpa [joinTo] using this, OwnE.nil_ _ _, ((Below.refl _ _).alloc (Nat.le_refl _) _).alloc (by simp) _⟩
  case round =>
    obtain ⟨a, A', c', ha, rfl, g0, g1, hown, hbel⟩ := hrel
    have q0 := g1.cell 0
    have q1 := g1.cell 1
    by_cases hlt : a < n
    · have hi : (a : Int) < (n : Int) := by omega
      obtain ⟨wo, rfl⟩ : ∃ wo : World, wo = wr := ⟨_, rfl⟩
      go_wp2
      go_loopw [7] (fun i wr => ∃ (b : Nat) (A' : Option Addr) (c' : Nat), a ≤ b ∧ b ≤ n ∧ i = .int .i64 b ∧ Blk wr w.heap.size 24 #[.int .i64 0, .slice none 0 0] ∧ Blk wr (w.heap.size + 1) 24 #[.int .i64 n, .slice A' (joinTo (entry rows) n a ++ joinRow (entry rows) a b).length c'] ∧
        OwnE wr w.heap.size A' c' (joinTo (entry rows) n a ++ joinRow (entry rows) a b) ∧ Below w.heap.size w wr) (fun i _ => n - (intOf i).toNat)
      case atStart =>
        refine ⟨a, A', c', by omega, by omega, by go_num, g0, ?_, ?_, hbel⟩
        · rw [joinRow_none (Nat.le_refl _), List.append_nil]; exact g1
        · rw [joinRow_none (Nat.le_refl _), List.append_nil]; exact hown
      case round =>
        clear q0 q1 g0 g1 hown hbel
        obtain ⟨b, A', c', hab, hb, rfl, g0, g1, hown, hbel⟩ := hrel
        have q0 := g1.cell 0
        have q1 := g1.cell 1
        have hz := hbel.size
        have hl13 : (joinTo (entry rows) n a ++ joinRow (entry rows) a b).length ≤ 1048000 := by
          have h1 := joinTo_length (entry rows) n a
          have h2 := joinRow_length (entry rows) a b
          have : a * n ≤ 1000 * 1000 := Nat.mul_le_mul (by omega) (by omega)
          rw [List.length_append]; omega
        obtain ⟨es, hes⟩ : ∃ es, joinTo (entry rows) n a ++ joinRow (entry rows) a b = es := ⟨_, rfl⟩
        rw [hes] at g1 hown hl13 q1
        have HES := Lib.hid hes
        clear hes
        by_cases hlt2 : b < n
        · have hi2 : (b : Int) < (n : Int) := by omega
          obtain ⟨r, hrow⟩ := get_of_lt (xs := rows) (k := a) (by have := HL.out; omega)
          have hrl := HR.out r (List.mem_of_getElem? hrow)
          obtain ⟨x, hx⟩ := get_of_lt (xs := r) (k := b) (by omega)
          obtain ⟨b1, off, A5, c5, rfl, hb1, hc1, hrd⟩ := (h.below hbel).at_ hrow
          obtain ⟨b2, off2, rfl, hb2, hc2⟩ := hrd.at_ (ints_at hx)
          have HE := Lib.hid (entry_of hrow hx)
          have hi3 : (a : Int) < (rows.length : Int) := by have := HL.out; omega
          have hi4 : (b : Int) < (r.length : Int) := by omega
          have HX := Lib.hid hx
          have HW := Lib.hid hrow
          have HRL := Lib.hid hrl
          clear hx hrow hrl hrd
          by_cases h0 : 0 < x
          · have gN := g1.alloc (.cells #[.int .i64 a, .int .i64 b, .int .i64 x] 107)
            have n0 := gN.cell 0
            have n1 := gN.cell 1
            have g0N := g0.alloc (.cells #[.int .i64 a, .int .i64 b, .int .i64 x] 107)
            have hownN := OwnE.alloc hown (.cells #[.int .i64 a, .int .i64 b, .int .i64 x] 107)
            have hzN : w.heap.size ≤ (wr.alloc (.cells #[.int .i64 a, .int .i64 b, .int .i64 x] 107)).heap.size := by simp; omega
            have hlN : es.length + 1 ≤ 1048576 := by omega
            go_wp2
            go_region_law (refine append_step2 rfl (.tmp 30) (.tmp 41) _ _ rfl w.heap.size 107 107 Tryz.underlying22 Tryz.underlying22 info_edge rfl (by omega) A' c' es.length (edgeCells es) rfl hownN (wr.heap.size + 1) (edgeCells [((a : Int), (b : Int), x)]) rfl (Reads.boxN wr #[.int .i64 a, .int .i64 b, .int .i64 x] 107) edgeCells_one hlN hzN ?_; intro A3 c3 w3 hown3 hg3 hb3 _; have g3 := Blk.grown (h := by exact gN) hg3 (own_blk_ne hown g1 (by decide)); have p1 := g3.cell 1; have f3 := g3.frozen)
            all_goals (
              have gB : Below w.heap.size w w3 := hbel.trans (((Below.refl _ _).alloc (by exact hz) _).trans ⟨hb3.os, hb3.tape, hb3.output, hb3.size, hb3.block⟩)
              have g03 := Blk.grown (h := by exact g0N) hg3 (own_blk_ne hown g0 (by decide))
              have HR : joinTo (entry rows) n a ++ joinRow (entry rows) a (b + 1) = es ++ [((a : Int), (b : Int), x)] := by rw [joinRow_succ hab, HE.out, if_pos h0, ← List.append_assoc, HES.out]
              have HR := Lib.hid HR
              go_wp2
              go_roundw
              case rel =>
                refine ⟨b + 1, A3, c3, by omega, by omega, by go_num, g03.far (by simp) _, ?_, ?_, ?_⟩
                · rw [HR.out, List.length_append]; exact g3.set_ 1 _
                · rw [HR.out]; exact OwnE.set_blk (by unfold OwnE; rw [edgeCells_append, List.length_append]; exact hown3) g3 (by decide) 1 _
                · exact gB.setCell (by simp) _
              case measure => simp [intOf]; omega)
          · have h0' : (0 < x) = False := by simpa using h0
            go_wp2
            have HR : joinTo (entry rows) n a ++ joinRow (entry rows) a (b + 1) = es := by rw [joinRow_succ hab, HE.out, if_neg h0, List.append_nil, HES.out]
            have HR := Lib.hid HR
            go_roundw
            case rel =>
              refine ⟨b + 1, A', c', by omega, by omega, by go_num, g0, ?_, ?_, hbel⟩
              · rw [HR.out]; exact g1
              · rw [HR.out]; exact hown
            case measure => simp [intOf]; omega
        · have hi2 : ¬ (b : Int) < (n : Int) := by omega
          go_wp2
          have HR : es = joinTo (entry rows) n (a + 1) := by rw [joinTo_succ, ← HES.out, show b = n from by omega]
          have HR := Lib.hid HR
          go_roundw
          case rel =>
            refine ⟨a + 1, A', c', by omega, by go_num, g0, ?_, ?_, hbel⟩
            · rw [← HR.out]; exact g1
            · rw [← HR.out]; exact hown
          case measure => simp [intOf]; omega
    · have hi : ¬ (a : Int) < (n : Int) := by omega
      obtain rfl : a = n := by omega
      obtain ⟨es, hes⟩ : ∃ es, joinTo (entry rows) a a = es := ⟨_, rfl⟩
      have e : joined (entry rows) a = es := by rw [joined, hes]
      rw [hes] at g1 hown q1
      have HES := Lib.hid e
      clear hes e
      have f0 := g0.frozen
      have p0 := g0.cell 0
      have p1 := g0.cell 1
      go_wp2
      try simp only [Exit.inBlock, Exit.then]
      refine bodyPost_ret (results_g rfl rfl ((g0.set_ 0 _).set_ 1 _) rfl) rfl ?_
      refine ⟨A', c', by rw [HES.out]; rfl, ?_, (hbel.setCell (Nat.le_refl _) _).setCell (Nat.le_refl _) _⟩
      rw [HES.out]; exact (hown.set_blk g0 (by decide) _ _).set_blk (g0.set_ 0 _) (by decide) _ _
end Go.Proofs.YtnbikkcalcpedaaGreatDoor

/-! slices.DeleteFunc on ints, with a function that has captured one variable: the row of the call's own is cut to what is kept. -/
namespace Go.Proofs.YtnbikkcalcpedaaGreatDoor
open Go.RowKit

theorem OwnI.cut {w : World} {base c g : Nat} {xs : List Int} (h : OwnI w base (some ⟨g, 0, none⟩) c xs) (k : Nat) (hk : k ≤ xs.length) : OwnI w base (some ⟨g, 0, none⟩) c (xs.take k) := by
  obtain ⟨h1, h2⟩ := h
  have e : (xs.take k).length = k := by simp; omega
  rcases h2 with ⟨h2, h3⟩ | ⟨g', cap, cur, hv, hg, hh, r1, r2, r3, r4⟩
  · simp at h2
  · injection hv with hv1 hv2 hv3
    refine ⟨by rw [ints_length]; simp, .inr ⟨g', cap, cur, by rw [hv1, hv3], hg, hh, by omega, r2, r3, ?_⟩⟩
    rw [e, Nat.mul_one]
    rw [Nat.mul_one] at r4
    have : (cur.toList.take xs.length).take k = (ints xs).take k := by rw [r4]
    rw [List.take_take, Nat.min_eq_left hk] at this
    rw [this]; simp [ints, List.map_take]
theorem OwnI.zero {base c g : Nat} {xs : List Int} : ∀ (n o : Nat) {w : World}, OwnI w base (some ⟨g, 0, none⟩) c xs → xs.length ≤ o → OwnI (w.setCells g o (List.replicate n (.int .i64 0))) base (some ⟨g, 0, none⟩) c xs
  | 0, _, _, h, _ => h
  | n + 1, o, w, h, ho => by
    rw [List.replicate_succ]
    refine OwnI.zero n (o + 1) (w := w.setCell ⟨g, o, none⟩ (.int .i64 0)) ?_ (by omega)
    have := h.put o 0
    rw [List.set_eq_of_length_le ho] at this
    exact this
theorem OwnI.cap {w : World} {base c g : Nat} {xs : List Int} (h : OwnI w base (some ⟨g, 0, none⟩) c xs) : xs.length ≤ c := by
  obtain ⟨h1, h2⟩ := h
  rcases h2 with ⟨h2, h3⟩ | ⟨g', cap, cur, hv, hg, hh, r1, r2, r3, r4⟩
  · simp at h2
  · injection hv with hv1 hv2 hv3
    omega

set_option maxHeartbeats 1000000 in
theorem indexg_any (F : Nat) (y : Value) (eg : ∀ args w, (callFunc F args).run Tryz.prog w = .ok (.enter F args) w) (p : Int → Bool) (A : Option Addr) (c : Nat) (xs : List Int) (hn : xs.length ≤ 1048576) (w : World) (h : Reads w w.heap.size 1 A xs.length (ints xs))
    (hp : ∀ x ∈ xs, ∀ m, Calls Tryz.prog F #[.int .i64 x, y] (w.drewN m) fun e w' => e = .returned (.bool (p x)) ∧ ∃ m', w' = w.drewN m') :
    Calls Tryz.prog 221 #[.slice A xs.length c, .func (.func F) #[] #[y]] w fun e w' => ∃ r : Int, e = .returned (.int .i64 r) ∧ Hid ((r = -1 ∧ ∀ x ∈ xs, p x = false) ∨ ∃ (k : Nat) (x : Int), r = (k : Int) ∧ xs[k]? = some x ∧ p x = true ∧ ∀ x ∈ xs.take k, p x = false) ∧ ∃ m, w' = w.drewN m := by
  have HP := Lib.hid hp
  clear hp
  go_enter Tryz.func221, Tryz.ntmps221
  go_wp2
  go_loopw [8] (fun i wr => ∃ k : Nat, k ≤ xs.length ∧ i = .int .i64 k ∧ Hid (∀ x ∈ xs.take k, p x = false) ∧ Hid (∃ m, wr = w.drewN m)) (fun i _ => xs.length - (intOf i).toNat)
  case atStart => exact ⟨0, by omega, rfl, by simp [Hid], ⟨0, rfl⟩⟩
  case round =>
    obtain ⟨k, hk, rfl, HS, HM⟩ := hrel
    by_cases hlt : k < xs.length
    · obtain ⟨x, hx⟩ := get_of_lt hlt
      obtain ⟨m, rfl⟩ := HM.out
      obtain ⟨b, off, rfl, hb, hcell0⟩ := h.at_ (ints_at hx)
      have hcell : (w.drewN m).cell? ⟨b, off + k, none⟩ = some (.int .i64 x) := hcell0
      have hi : (k : Int) < (xs.length : Int) := by omega
      have htk := take_snoc hx
      have PC := HP.out x (List.mem_of_getElem? hx) m
      have HX := Lib.hid hx
      cases hpx : p x
      · rw [hpx] at PC
        have PC := Lib.hid PC
        have HN : Hid (∀ x ∈ xs.take (k + 1), p x = false) := by
          rw [htk]
          intro z hz
          rcases List.mem_append.1 hz with hz | hz
          · exact HS.out z hz
          · rw [List.mem_singleton.1 hz]; exact hpx
        clear hx htk hpx hcell0 h
        go_wp2_with fail
        refine (PC.out).mono ?_
        rintro e w2 ⟨rfl, m2, rfl⟩
        go_wp2
        go_roundw
        case rel => exact ⟨k + 1, by omega, by go_num, HN, ⟨m2, rfl⟩⟩
        case measure => simp [intOf]; omega
      · rw [hpx] at PC
        have PC := Lib.hid PC
        have HT := Lib.hid hpx
        clear hx htk hpx hcell0 h
        go_wp2_with fail
        refine (PC.out).mono ?_
        rintro e w2 ⟨rfl, m2, rfl⟩
        go_wp2
        go_ret
        exact ⟨k, rfl, .inr ⟨k, x, rfl, HX.out, HT.out, HS.out⟩, m2, rfl⟩
    · obtain rfl : k = xs.length := by omega
      rw [List.take_length] at HS
      go_wp2
      go_ret
      exact ⟨-1, rfl, .inl ⟨rfl, HS.out⟩, HM.out⟩

/-- The filter's own invariant: i elements are kept out of the first j. -/
def Kept (p : Int → Bool) (xs ks : List Int) (i j : Nat) : Prop := ks.length = xs.length ∧ i < j ∧ j ≤ xs.length ∧ ks.take i = (xs.take j).filter (fun x => !p x) ∧ ∀ q, j ≤ q → ks[q]? = xs[q]?
theorem Kept.start {p : Int → Bool} {xs : List Int} {k : Nat} {x : Int} (h1 : xs[k]? = some x) (h2 : p x = true) (h3 : ∀ x ∈ xs.take k, p x = false) : Kept p xs xs k (k + 1) := by
  obtain ⟨hk, e⟩ := List.getElem?_eq_some_iff.1 h1
  refine ⟨rfl, by omega, by omega, ?_, fun _ _ => rfl⟩
  rw [take_snoc h1, List.filter_append]
  have : (xs.take k).filter (fun x => !p x) = xs.take k := List.filter_eq_self.2 fun x hx => by simp [h3 x hx]
  rw [this]; simp [h2]
theorem Kept.skip {p : Int → Bool} {xs ks : List Int} {i j : Nat} {x : Int} (h : Kept p xs ks i j) (h1 : xs[j]? = some x) (h2 : p x = true) : Kept p xs ks i (j + 1) := by
  obtain ⟨hk, e⟩ := List.getElem?_eq_some_iff.1 h1
  obtain ⟨a, b, c, d, f⟩ := h
  refine ⟨a, by omega, by omega, ?_, fun q hq => f q (by omega)⟩
  rw [take_snoc h1, List.filter_append, d]; simp [h2]
theorem Kept.keep {p : Int → Bool} {xs ks : List Int} {i j : Nat} {x : Int} (h : Kept p xs ks i j) (h1 : xs[j]? = some x) (h2 : p x = false) : Kept p xs (ks.set i x) (i + 1) (j + 1) := by
  obtain ⟨hk, e⟩ := List.getElem?_eq_some_iff.1 h1
  obtain ⟨a, b, c, d, f⟩ := h
  refine ⟨by simpa using a, by omega, by omega, ?_, fun q hq => ?_⟩
  · have hs : (ks.set i x)[i]? = some x := by rw [List.getElem?_set_self (by omega)]
    rw [take_snoc hs, List.take_set_of_le (Nat.le_refl _), d, take_snoc h1, List.filter_append]; simp [h2]
  · rw [List.getElem?_set_ne (by omega)]; exact f q (by omega)
theorem Kept.done {p : Int → Bool} {xs ks : List Int} {i : Nat} (h : Kept p xs ks i xs.length) : ks.take i = xs.filter (fun x => !p x) := by
  obtain ⟨a, b, c, d, f⟩ := h
  rw [d, List.take_length]
theorem below_zero {B g : Nat} {a : World} (hg : B ≤ g) : ∀ (n o : Nat) {w : World}, Below B a w → Below B a (w.setCells g o (List.replicate n (.int .i64 0)))
  | 0, _, _, h => h
  | n + 1, o, w, h => by
    rw [List.replicate_succ]
    exact below_zero hg n (o + 1) (w := w.setCell ⟨g, o, none⟩ (.int .i64 0)) (h.setCell hg _)

set_option maxHeartbeats 2000000 in
theorem delf_any (F : Nat) (y : Value) (eg : ∀ args w, (callFunc F args).run Tryz.prog w = .ok (.enter F args) w) (p : Int → Bool) (A : Option Addr) (c : Nat) (xs : List Int) (hn : xs.length ≤ 1048576) (base : Nat) (w : World) (h : OwnI w base A c xs)
    (hp : ∀ x ∈ xs, ∀ W, Below base w W → Calls Tryz.prog F #[.int .i64 x, y] W fun e w' => e = .returned (.bool (p x)) ∧ ∃ m', w' = W.drewN m') :
    Calls Tryz.prog 186 #[.slice A xs.length c, .func (.func F) #[] #[y]] w fun e w' => ∃ A' c', e = .returned (.slice A' (xs.filter fun x => !p x).length c') ∧ OwnI w' base A' c' (xs.filter fun x => !p x) ∧ Below base w w' := by
  have IC := Lib.hid (indexg_any F y eg p A c xs hn w h.reads (fun x hx m => (hp x hx (w.drewN m) (below_drewN (Below.refl _ _) m)).mono (by rintro e w' ⟨rfl, m', rfl⟩; exact ⟨rfl, m + m', World.drewN_drewN _ _ _⟩)))
  have HP := Lib.hid hp
  have OW := Lib.hid h
  clear hp h
  obtain ⟨fs, hfs⟩ : ∃ fs, (xs.filter fun x => !p x) = fs := ⟨_, rfl⟩
  rw [hfs]
  have HF := Lib.hid hfs
  clear hfs
  go_enter Tryz.func186, Tryz.ntmps186
  go_wp2_with fail
  refine (IC.out).mono ?_
  rintro e w1 ⟨r, rfl, HR, m, rfl⟩
  clear IC
  rcases HR.out with ⟨rfl, hall⟩ | ⟨k, x, rfl, hx, hpx, hall⟩
  · have e1 : fs = xs := by
      rw [← HF.out]; exact List.filter_eq_self.2 fun x hx => by simp [hall x hx]
    subst e1
    clear hall
    go_wp2
    go_ret
    exact ⟨A, c, rfl, OW.out.drewN m, below_drewN (Below.refl _ _) m⟩
  · have hk : k < xs.length := (List.getElem?_eq_some_iff.1 hx).1
    obtain ⟨g, rfl, hg, -, -⟩ := OW.out.block (by omega)
    have hne : ((k : Int) == -1) = false := beq_eq_false_iff_ne.2 (by omega)
    have hcap := OW.out.cap
    have HK := Lib.hid (Kept.start hx hpx hall)
    clear hx hpx hall HR
    have hw1 : IntKind.i64.wrap ((k : Int) + 1) = ((k + 1 : Nat) : Int) := by rw [IntWalk.i64_in _ (by omega)]; rfl
    go_wp2
    go_loopw [5, 6, 7] (fun a b _ wr => ∃ (i j : Nat) (ks : List Int), a = .int .i64 i ∧ b = .int .i64 j ∧ i < j ∧ j ≤ xs.length ∧ Hid (Kept p xs ks i j) ∧ Hid (OwnI wr base (some ⟨g, 0, none⟩) c ks) ∧ Hid (Below base w wr)) (fun _ b _ _ => xs.length - (intOf b).toNat)
    case atStart => exact ⟨k, k + 1, xs, rfl, by go_num, by omega, by omega, HK, OW.out.drewN m, below_drewN (Below.refl _ _) m⟩
    case round =>
      obtain ⟨i, j, ks, rfl, rfl, hij, hj, KP, OK, BK⟩ := hrel
      have hkl : ks.length = xs.length := KP.out.1
      obtain ⟨-, hgs, hfz, hcell⟩ := OK.out.at_ (by omega)
      have fi := hfz i
      by_cases hlt : j < xs.length
      · obtain ⟨x, hx⟩ := get_of_lt hlt
        obtain ⟨u, hu⟩ := get_of_lt (show i < ks.length by omega)
        have cj := hcell j x (by rw [KP.out.2.2.2.2 j (Nat.le_refl _)]; exact hx)
        have ci := hcell i u hu
        have hi : (j : Int) < (xs.length : Int) := by omega
        have PC := HP.out x (List.mem_of_getElem? hx) _ BK.out
        have HX := Lib.hid hx
        clear hx hu hcell hkl
        cases hpx : p x
        · rw [hpx] at PC
          have PC := Lib.hid PC
          have HY := Lib.hid hpx
          clear hpx hfz
          go_wp2_with fail
          refine (PC.out).mono ?_
          rintro e w2 ⟨rfl, m2, rfl⟩
          have ci : (wr.drewN m2).cell? ⟨g, i, none⟩ = some (.int .i64 u) := ci
          have fi : (wr.drewN m2).frozen? ⟨g, i, none⟩ = false := fi
          go_wp2
          go_roundw
          case rel => exact ⟨i + 1, j + 1, ks.set i x, by go_num, by go_num, by omega, by omega, KP.out.keep HX.out HY.out, (OK.out.drewN m2).put i x, (below_drewN BK.out m2).setCell hg _⟩
          case measure => simp [intOf]; omega
        · rw [hpx] at PC
          have PC := Lib.hid PC
          have HY := Lib.hid hpx
          clear hpx hfz
          go_wp2_with fail
          refine (PC.out).mono ?_
          rintro e w2 ⟨rfl, m2, rfl⟩
          go_wp2
          go_roundw
          case rel => exact ⟨i, j + 1, ks, rfl, by go_num, by omega, by omega, KP.out.skip HX.out HY.out, OK.out.drewN m2, below_drewN BK.out m2⟩
          case measure => simp [intOf]; omega
      · obtain rfl : j = xs.length := by omega
        have hltz : ¬ (xs.length : Int) < (xs.length : Int) := by omega
        have hv : ∀ w, (zeroValue 3).run Tryz.prog w = .ok (.int .i64 0) w := fun w => by kernel_rfl
        have hcl : ∀ ty, (Builtin.clear_ #[25] ty #[.slice (some ⟨g, i, none⟩) (xs.length - i) (c - i)]).run Tryz.prog wr = .ok (.tuple #[]) (wr.setCells g i (List.replicate (xs.length - i) (.int .i64 0))) :=
          fun ty => Lib.run_clear_slice wr _ _ ty _ (by kernel_rfl) hv rfl rfl g i _ _ (by omega) (fun t ht => by
            obtain ⟨u, hu⟩ := get_of_lt (show i + t < ks.length by omega)
            rw [hcell (i + t) u hu]; rfl) (fun t ht => hfz _)
        have e1 : ks.take i = fs := by rw [KP.out.done]; exact HF.out
        have e2 : fs.length = i := by rw [← e1]; simp; omega
        have OE := Lib.hid ((OwnI.zero (xs.length - i) i (OK.out.cut i (by omega)) (by simp; omega)))
        rw [e1] at OE
        have BE := Lib.hid (below_zero hg (xs.length - i) i BK.out)
        have HE := Lib.hid e2
        clear e1 e2 hcell hfz hkl hv
        go_wp2
        go_ret
        exact ⟨some ⟨g, 0, none⟩, c, (by rw [HE.out]; rfl), OE.out, BE.out⟩
end Go.Proofs.YtnbikkcalcpedaaGreatDoor

/-! ref13.Sorted: sorting by insertion. -/
namespace Go.Proofs.YtnbikkcalcpedaaGreatDoor
open Go.RowKit

theorem Reads.box1 (w : World) (u : Value) (e : TypeId) : Reads (w.alloc (.cells #[u] e)) (w.heap.size + 1) 1 (some ⟨w.heap.size, 0, none⟩) 1 [u] := Reads.box w u e
end Go.Proofs.YtnbikkcalcpedaaGreatDoor

