/-
  ref08.Same: the equality of graphs.
-/
import Derived.Test.YtjeggocindcgaaaEdge
namespace Go.Proofs.Ytjeggocindcgaaa
open Go.RowKit

set_option maxRecDepth 100000 in
set_option maxHeartbeats 1000000 in
theorem gsame_any (n m : Int) (A : Option Addr) (c : Nat) (es : List E3) (B : Option Addr) (d : Nat) (fs : List E3) (hn : es.length ≤ 1048576) (w : World) (h : Reads w w.heap.size 3 A es.length (edgeCells es)) (h' : Reads w w.heap.size 3 B fs.length (edgeCells fs)) :
    Calls Try.prog 35 #[.agg #[.int .i64 n, .slice A es.length c], .agg #[.int .i64 m, .slice B fs.length d]] w fun e w' => e = .returned (.bool (decide (n = m ∧ es = fs))) ∧ Below w.heap.size w w' := by
  by_cases hnm : n = m
  · subst hnm
    by_cases hl : es.length = fs.length
    · have HL := Lib.hid hl
      have hb : ((es.length : Int) != (fs.length : Int)) = false := by simp; omega
      clear hl
      go_enter Try.func35, Try.ntmps35
      go_wp2
      clear hb
      go_loopw [5] (fun i wr => ∃ k : Nat, k ≤ es.length ∧ i = .int .i64 k ∧ Below w.heap.size w wr ∧ Blk wr w.heap.size 52 #[.int .i64 n, .slice A es.length c] ∧ Blk wr (w.heap.size + 1) 52 #[.int .i64 n, .slice B fs.length d] ∧ Hid (es.take k = fs.take k)) (fun i _ => es.length - (intOf i).toNat)
      case atStart =>
        refine ⟨0, by omega, rfl, ((Below.refl _ _).alloc (Nat.le_refl _) _).alloc (by simp) _, (Blk.new _ _ _).alloc _, ?_, by simp [Hid]⟩
        have := Blk.new (w.alloc (.cells #[.int .i64 n, .slice A es.length c] 52)) 52 #[.int .i64 n, .slice B fs.length d]
        simpa using this
      case round =>
        obtain ⟨k, hk, rfl, hbel, g1, g2, HS⟩ := hrel
        have c1 := g1.cell 1
        have c2 := g2.cell 1
        by_cases hlt : k < es.length
        · obtain ⟨⟨a1, b1, m1⟩, hx⟩ := get_of_lt hlt
          obtain ⟨⟨a2, b2, m2⟩, hy⟩ := get_of_lt (xs := fs) (k := k) (by have := HL.out; omega)
          have HX := Lib.hid hx
          have HY := Lib.hid hy
          obtain ⟨b, off, rfl, hb, q1, q2, q3⟩ := (h.below hbel).edge hx
          obtain ⟨b', off', rfl, hb', p1, p2, p3⟩ := (h'.below hbel).edge hy
          dsimp only at q1 q2 q3 p1 p2 p3
          have hi : (k : Int) < (es.length : Int) := by omega
          have hi' : (k : Int) < (fs.length : Int) := by have := HL.out; omega
          clear hx hy h h'
          by_cases hxy : a1 = a2 ∧ b1 = b2 ∧ m1 = m2
          · obtain ⟨rfl, rfl, rfl⟩ := hxy
            go_wp2
            go_quiet (fail)
            go_wp2
            go_roundw
            case rel => exact ⟨k + 1, by omega, by go_num, below_drewN hbel _, g1, g2, by rw [Hid, take_snoc HX.out, take_snoc HY.out, HS.out]⟩
            case measure => simp [intOf]; omega
          · have hne : ¬ es = fs := fun e => hxy (by have h1 := HX.out; rw [e, HY.out] at h1; injection h1 with h1; injection h1 with h1 h2; injection h2 with h2 h3; exact ⟨h1.symm, h2.symm, h3.symm⟩)
            have HNE := Lib.hid hne
            clear hne
            by_cases h1 : a1 = a2
            · subst h1
              by_cases h2 : b1 = b2
              · subst h2
                have h3 : (m1 == m2) = false := by simp; rintro rfl; exact hxy ⟨rfl, rfl, rfl⟩
                clear hxy
                go_wp2
                go_quiet (fail)
                go_wp2
                go_ret
                exact ⟨ret_bool (by simp [HNE.out]), below_drewN hbel _⟩
              · have h3 : (b1 == b2) = false := by simpa using h2
                clear hxy h2
                go_wp2
                go_quiet (fail)
                go_wp2
                go_ret
                exact ⟨ret_bool (by simp [HNE.out]), below_drewN hbel _⟩
            · have h3 : (a1 == a2) = false := by simpa using h1
              clear hxy h1
              go_wp2
              go_quiet (fail)
              go_wp2
              go_ret
              exact ⟨ret_bool (by simp [HNE.out]), below_drewN hbel _⟩
        · go_wp2
          go_ret
          refine ⟨ret_bool ?_, hbel⟩
          have e : es = fs := by have h1 := HS.out; rw [show k = es.length from by omega, List.take_length, HL.out, List.take_length] at h1; exact h1
          simp [e]
    · have hb : ((es.length : Int) != (fs.length : Int)) = true := by simp; omega
      go_enter Try.func35, Try.ntmps35
      go_wp2
      go_ret
      have : ¬ es = fs := fun e => hl (by rw [e])
      exact ⟨ret_bool (by simp [this]), ((Below.refl _ _).alloc (Nat.le_refl _) _).alloc (by simp) _⟩
  · have hb : (n != m) = true := by simpa using hnm
    go_enter Try.func35, Try.ntmps35
    go_wp2
    go_ret
    exact ⟨ret_bool (by simp [hnm]), ((Below.refl _ _).alloc (Nat.le_refl _) _).alloc (by simp) _⟩
end Go.Proofs.Ytjeggocindcgaaa
