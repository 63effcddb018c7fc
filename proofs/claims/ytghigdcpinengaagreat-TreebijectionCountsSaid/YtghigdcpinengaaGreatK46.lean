/-
  Texts of this claim, put together: Joined.
-/
import Derived.Test.YtghigdcpinengaaGreatK08
import Derived.Test.YtghigdcpinengaaGreatK20
import Derived.Deep.RegionLaw
/-! ref08.Joined: the graph of a table of multiplicities. -/
namespace Go.Proofs.YtghigdcpinengaaGreat
open Go.RowKit

def entry (rows : List (List Int)) (a b : Nat) : Int := ((rows[a]?.getD [])[b]?).getD 0
theorem entry_of {rows : List (List Int)} {a b : Nat} {r : List Int} {x : Int} (h : rows[a]? = some r) (h' : r[b]? = some x) : entry rows a b = x := by simp [entry, h, h']
def joinRow (f : Nat → Nat → Int) (a b : Nat) : List E3 := (List.range' a (b - a)).filterMap fun j : Nat => if 0 < f a j then some ((a : Int), (j : Int), f a j) else none
def joinTo (f : Nat → Nat → Int) (n a : Nat) : List E3 := (List.range a).flatMap fun i => joinRow f i n
def joined (f : Nat → Nat → Int) (n : Nat) : List E3 := joinTo f n n
theorem joinRow_none {f : Nat → Nat → Int} {a b : Nat} (h : b ≤ a) : joinRow f a b = [] := by
  unfold joinRow
  rw [show b - a = 0 from by omega]
  rfl
theorem joinRow_succ {f : Nat → Nat → Int} {a b : Nat} (h : a ≤ b) : joinRow f a (b + 1) = joinRow f a b ++ (if 0 < f a b then [((a : Int), (b : Int), f a b)] else []) := by
  unfold joinRow
  rw [show b + 1 - a = (b - a) + 1 from by omega, List.range'_1_concat, List.filterMap_append]
  congr 1
  rw [show a + (b - a) = b from by omega]
  by_cases hf : 0 < f a b <;> simp [hf]
theorem joinTo_succ (f : Nat → Nat → Int) (n a : Nat) : joinTo f n (a + 1) = joinTo f n a ++ joinRow f a n := by simp [joinTo, List.range_succ, List.flatMap_append]
theorem joinRow_length (f : Nat → Nat → Int) (a b : Nat) : (joinRow f a b).length ≤ b - a := by
  unfold joinRow
  have := List.length_filterMap_le (fun j : Nat => if 0 < f a j then some ((a : Int), (j : Int), f a j) else none) (List.range' a (b - a))
  simpa using this
theorem joinTo_length (f : Nat → Nat → Int) (n a : Nat) : (joinTo f n a).length ≤ a * n := by
  induction a with
  | zero => simp [joinTo]
  | succ a ih =>
    have := joinRow_length f a n
    rw [joinTo_succ, List.length_append, Nat.succ_mul]; omega

set_option maxRecDepth 100000 in
set_option maxHeartbeats 1000000 in
theorem rjoined_any (n : Nat) (hn : n ≤ 1000) (A : Option Addr) (c : Nat) (rows : List (List Int)) (hl : rows.length = n) (hr : ∀ r ∈ rows, r.length = n) (w : World) (h : RowsR w w.heap.size A rows) :
    Calls Tryz.prog 147 #[.int .i64 n, .slice A rows.length c] w fun e w' =>
      ∃ A1 c1, e = .returned (.agg #[.int .i64 n, .slice A1 (joined (entry rows) n).length c1]) ∧ OwnE w' w.heap.size A1 c1 (joined (entry rows) n) ∧ Below w.heap.size w w' := by
  have HR := Lib.hid hr
  have HL := Lib.hid hl
  clear hr hl
  go_enter Tryz.func147, Tryz.ntmps147
  go_wp2
  go_loopw [6] (fun i wr => ∃ (a : Nat) (A' : Option Addr) (c' : Nat), a ≤ n ∧ i = .int .i64 a ∧ Blk wr w.heap.size 24 #[.int .i64 0, .slice none 0 0] ∧ Blk wr (w.heap.size + 1) 24 #[.int .i64 n, .slice A' (joinTo (entry rows) n a).length c'] ∧
    OwnE wr w.heap.size A' c' (joinTo (entry rows) n a) ∧ Below w.heap.size w wr) (fun i _ => n - (intOf i).toNat)
  case atStart =>
    have := Blk.new (w.alloc (.cells #[.int .i64 0, .slice none 0 0] 24)) 24 #[.int .i64 n, .slice none 0 0]
    refine ⟨0, none, 0, by omega, rfl, (Blk.new _ _ _).alloc _, by simpa [joinTo] using this, OwnE.nil_ _ _, ((Below.refl _ _).alloc (Nat.le_refl _) _).alloc (by simp) _⟩
  case round =>
    obtain ⟨a, A', c', ha, rfl, g0, g1, hown, hbel⟩ := hrel
    have q0 := g1.cell 0
    have q1 := g1.cell 1
    by_cases hlt : a < n
    · have hi : (a : Int) < (n : Int) := by omega
      obtain ⟨wo, rfl⟩ : ∃ wo : World, wo = wr := ⟨_, rfl⟩
      go_wp2
      go_loopw [7] (fun i wr => ∃ (b : Nat) (A' : Option Addr) (c' : Nat), a ≤ b ∧ b ≤ n ∧ i = .int .i64 b ∧ Blk wr w.heap.size 24 #[.int .i64 0, .slice none 0 0] ∧ Blk wr (w.heap.size + 1) 24 #[.int .i64 n, .slice A' (joinTo (entry rows) n a ++ joinRow (entry rows) a b).length c'] ∧
        OwnE wr w.heap.size A' c' (joinTo (entry rows) n a ++ joinRow (entry rows) a b) ∧ Below w.heap.size w wr) (fun i _ => n - (intOf i).toNat)
      case atStart =>
        refine ⟨a, A', c', by omega, by omega, by go_num, g0, ?_, ?_, hbel⟩
        · rw [joinRow_none (Nat.le_refl _), List.append_nil]; exact g1
        · rw [joinRow_none (Nat.le_refl _), List.append_nil]; exact hown
      case round =>
        clear q0 q1 g0 g1 hown hbel
        obtain ⟨b, A', c', hab, hb, rfl, g0, g1, hown, hbel⟩ := hrel
        have q0 := g1.cell 0
        have q1 := g1.cell 1
        have hz := hbel.size
        have hl13 : (joinTo (entry rows) n a ++ joinRow (entry rows) a b).length ≤ 1048000 := by
          have h1 := joinTo_length (entry rows) n a
          have h2 := joinRow_length (entry rows) a b
          have : a * n ≤ 1000 * 1000 := Nat.mul_le_mul (by omega) (by omega)
          rw [List.length_append]; omega
        obtain ⟨es, hes⟩ : ∃ es, joinTo (entry rows) n a ++ joinRow (entry rows) a b = es := ⟨_, rfl⟩
        rw [hes] at g1 hown hl13 q1
        have HES := Lib.hid hes
        clear hes
        by_cases hlt2 : b < n
        · have hi2 : (b : Int) < (n : Int) := by omega
          obtain ⟨r, hrow⟩ := get_of_lt (xs := rows) (k := a) (by have := HL.out; omega)
          have hrl := HR.out r (List.mem_of_getElem? hrow)
          obtain ⟨x, hx⟩ := get_of_lt (xs := r) (k := b) (by omega)
          obtain ⟨b1, off, A5, c5, rfl, hb1, hc1, hrd⟩ := (h.below hbel).at_ hrow
          obtain ⟨b2, off2, rfl, hb2, hc2⟩ := hrd.at_ (ints_at hx)
          have HE := Lib.hid (entry_of hrow hx)
          have hi3 : (a : Int) < (rows.length : Int) := by have := HL.out; omega
          have hi4 : (b : Int) < (r.length : Int) := by omega
          have HX := Lib.hid hx
          have HW := Lib.hid hrow
          have HRL := Lib.hid hrl
          clear hx hrow hrl hrd
          by_cases h0 : 0 < x
          · have gN := g1.alloc (.cells #[.int .i64 a, .int .i64 b, .int .i64 x] 104)
            have n0 := gN.cell 0
            have n1 := gN.cell 1
            have g0N := g0.alloc (.cells #[.int .i64 a, .int .i64 b, .int .i64 x] 104)
            have hownN := OwnE.alloc hown (.cells #[.int .i64 a, .int .i64 b, .int .i64 x] 104)
            have hzN : w.heap.size ≤ (wr.alloc (.cells #[.int .i64 a, .int .i64 b, .int .i64 x] 104)).heap.size := by simp; omega
            have hlN : es.length + 1 ≤ 1048576 := by omega
            go_wp2
            go_region_law (refine append_step2 rfl (.tmp 30) (.tmp 41) _ _ rfl w.heap.size 104 104 Tryz.underlying22 Tryz.underlying22 info_edge rfl (by omega) A' c' es.length (edgeCells es) rfl hownN (wr.heap.size + 1) (edgeCells [((a : Int), (b : Int), x)]) rfl (Reads.boxN wr #[.int .i64 a, .int .i64 b, .int .i64 x] 104) edgeCells_one hlN hzN ?_; intro A3 c3 w3 hown3 hg3 hb3 _; have g3 := Blk.grown (h := by exact gN) hg3 (own_blk_ne hown g1 (by decide)); have p1 := g3.cell 1; have f3 := g3.frozen)
            all_goals (
              have gB : Below w.heap.size w w3 := hbel.trans (((Below.refl _ _).alloc (by exact hz) _).trans ⟨hb3.os, hb3.tape, hb3.output, hb3.size, hb3.block⟩)
              have g03 := Blk.grown (h := by exact g0N) hg3 (own_blk_ne hown g0 (by decide))
              have HR : joinTo (entry rows) n a ++ joinRow (entry rows) a (b + 1) = es ++ [((a : Int), (b : Int), x)] := by rw [joinRow_succ hab, HE.out, if_pos h0, ← List.append_assoc, HES.out]
              have HR := Lib.hid HR
              go_wp2
              go_roundw
              case rel =>
                refine ⟨b + 1, A3, c3, by omega, by omega, by go_num, g03.far (by simp) _, ?_, ?_, ?_⟩
                · rw [HR.out, List.length_append]; exact g3.set_ 1 _
                · rw [HR.out]; exact OwnE.set_blk (by unfold OwnE; rw [edgeCells_append, List.length_append]; exact hown3) g3 (by decide) 1 _
                · exact gB.setCell (by simp) _
              case measure => simp [intOf]; omega)
          · have h0' : (0 < x) = False := by simpa using h0
            go_wp2
            have HR : joinTo (entry rows) n a ++ joinRow (entry rows) a (b + 1) = es := by rw [joinRow_succ hab, HE.out, if_neg h0, List.append_nil, HES.out]
            have HR := Lib.hid HR
            go_roundw
            case rel =>
              refine ⟨b + 1, A', c', by omega, by omega, by go_num, g0, ?_, ?_, hbel⟩
              · rw [HR.out]; exact g1
              · rw [HR.out]; exact hown
            case measure => simp [intOf]; omega
        · have hi2 : ¬ (b : Int) < (n : Int) := by omega
          go_wp2
          have HR : es = joinTo (entry rows) n (a + 1) := by rw [joinTo_succ, ← HES.out, show b = n from by omega]
          have HR := Lib.hid HR
          go_roundw
          case rel =>
            refine ⟨a + 1, A', c', by omega, by go_num, g0, ?_, ?_, hbel⟩
            · rw [← HR.out]; exact g1
            · rw [← HR.out]; exact hown
          case measure => simp [intOf]; omega
    · have hi : ¬ (a : Int) < (n : Int) := by omega
      obtain rfl : a = n := by omega
      obtain ⟨es, hes⟩ : ∃ es, joinTo (entry rows) a a = es := ⟨_, rfl⟩
      have e : joined (entry rows) a = es := by rw [joined, hes]
      rw [hes] at g1 hown q1
      have HES := Lib.hid e
      clear hes e
      have f0 := g0.frozen
      have p0 := g0.cell 0
      have p1 := g0.cell 1
      go_wp2
      try simp only [Exit.inBlock, Exit.then]
      refine bodyPost_ret (results_g rfl rfl ((g0.set_ 0 _).set_ 1 _) rfl) rfl ?_
      refine ⟨A', c', by rw [HES.out]; rfl, ?_, (hbel.setCell (Nat.le_refl _) _).setCell (Nat.le_refl _) _⟩
      rw [HES.out]; exact (hown.set_blk g0 (by decide) _ _).set_blk (g0.set_ 0 _) (by decide) _ _
end Go.Proofs.YtghigdcpinengaaGreat

