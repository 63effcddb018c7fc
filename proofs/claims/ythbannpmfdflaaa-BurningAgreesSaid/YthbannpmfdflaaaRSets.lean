/-
  ref23.members and Subsets: all sets of vertices.
-/
import Derived.Test.YthbannpmfdflaaaRBurn
import Derived.Test.YthbannpmfdflaaaRows2
import Derived.WalkKit
namespace Go.Proofs.Ythbannpmfdflaaa
open Go.RowKit

/-- The numbers below k whose binary digits are in a number. -/
def bitsL (k D : Nat) : List Nat := (List.range k).filter fun i => decide (D / 2 ^ i % 2 = 1)
theorem bitsL_yes {k D : Nat} (h : D / 2 ^ k % 2 = 1) : bitsL (k + 1) D = bitsL k D ++ [k] := by simp [bitsL, List.range_succ, h]
theorem bitsL_no {k D : Nat} (h : ¬ D / 2 ^ k % 2 = 1) : bitsL (k + 1) D = bitsL k D := by simp [bitsL, List.range_succ, h]
theorem bitsL_length (k D : Nat) : (bitsL k D).length ≤ k := Nat.le_trans (List.length_filter_le _ _) (by simp)
/-- All sets. -/
def subsL (n K : Nat) : List (List Int) := (List.range K).map fun D => natsI (bitsL n D)
theorem subsL_succ (n K : Nat) : subsL n (K + 1) = subsL n K ++ [natsI (bitsL n K)] := by simp [subsL, List.range_succ]
theorem subsL_length (n K : Nat) : (subsL n K).length = K := by simp [subsL]

set_option maxHeartbeats 2000000 in
theorem members_any (n D : Nat) (hn : n ≤ 12) (hD : D ≤ 4096) (w : World) :
    Calls Try.prog 71 #[.int .i64 n, .int .i64 D] w fun e w' => ∃ A c, e = .returned (.slice A (bitsL n D).length c) ∧ OwnI w' w.heap.size A c (natsI (bitsL n D)) ∧ Below w.heap.size w w' := by
  go_enter Try.func71, Try.ntmps71
  go_wp2
  go_loopw [1, 5, 6] (fun dg s i wr => ∃ (k m : Nat) (A : Option Addr) (c : Nat) (r : List Nat), k ≤ n ∧ m ≤ 4096 ∧ dg = .int .i64 m ∧ i = .int .i64 k ∧ s = .slice A (natsI r).length c ∧ Hid (m = D / 2 ^ k) ∧ Hid (r = bitsL k D) ∧ (natsI r).length ≤ k ∧ OwnI wr w.heap.size A c (natsI r) ∧ Below w.heap.size w wr) (fun _ _ i _ => n - (intOf i).toNat)
  case atStart => exact ⟨0, D, none, 0, [], by omega, hD, rfl, rfl, rfl, by simp [Hid], by simp [Hid, bitsL], by simp [natsI], OwnI.nil_ _ _, Below.refl _ _⟩
  case round =>
    obtain ⟨k, m, A, c, r, hk, hm, rfl, rfl, rfl, HM, HR, hrl, hown, hbel⟩ := hrel
    have hsz := hbel.size
    by_cases hlt : k < n
    · have hi : (k : Int) < (n : Int) := by omega
      have hquo : (m : Int).tdiv 2 = ((m / 2 : Nat) : Int) := rfl
      have hnext : Hid (m / 2 = D / 2 ^ (k + 1)) := by rw [Hid, HM.out, Nat.pow_succ, Nat.div_div_eq_div_mul]
      have hm2 : m / 2 ≤ 4096 := by omega
      obtain ⟨m', hm'⟩ : ∃ m', m / 2 = m' := ⟨_, rfl⟩
      rw [hm'] at hquo hnext hm2
      by_cases hb : m % 2 = 1
      · have hrem : (m : Int).tmod 2 = 1 := by show ((m % 2 : Nat) : Int) = 1; omega
        have HS : Hid (r ++ [k] = bitsL (k + 1) D) := by rw [Hid, bitsL_yes (by rw [← HM.out]; exact hb), HR.out]
        clear hb hm'
        go_wp2_with (at_builtin; refine push_int rfl (.tmp 15) (.tmp 17) _ rfl Try.underlying25 w.heap.size A c (natsI r) (k : Int) rfl hown rfl rfl (by omega) (by omega) ?_; intro A2 c2 w2 hown2 hg2 hb2)
        have hb3 : Below w.heap.size w w2 := hbel.trans hb2
        go_roundw
        case rel => exact ⟨k + 1, m', A2, c2, r ++ [k], by omega, hm2, by go_num, by go_num, by rw [natsI_snoc]; simp, hnext, HS, by rw [natsI_snoc]; simp; omega, by rw [natsI_snoc]; exact hown2, hb3⟩
        case measure => simp [intOf]; omega
      · have hrem : (m : Int).tmod 2 = 0 := by show ((m % 2 : Nat) : Int) = 0; omega
        have HS : Hid (r = bitsL (k + 1) D) := by rw [Hid, bitsL_no (by rw [← HM.out]; exact hb), HR.out]
        clear hb hm'
        go_wp2
        go_roundw
        case rel => exact ⟨k + 1, m', A, c, r, by omega, hm2, by go_num, by go_num, rfl, hnext, HS, by omega, hown, hbel⟩
        case measure => simp [intOf]; omega
    · obtain rfl : k = n := by omega
      go_wp2
      go_ret
      refine ⟨A, c, ?_, ?_, hbel⟩
      · rw [← HR.out, natsI_length]; rfl
      · rw [← HR.out]; exact hown

set_option maxHeartbeats 2000000 in
theorem subsets_any (n : Nat) (hn : n ≤ 6) (A : Option Addr) (c l : Nat) (w : World) :
    Calls Try.prog 20 #[.agg #[.int .i64 n, .slice A l c]] w fun e w' => ∃ A' c' vs, e = .returned (.slice A' (2 ^ n) c') ∧ OwnRows w' w.heap.size A' c' vs (subsL n (2 ^ n)) ∧ Below w.heap.size w w' := by
  have g0 := Blk.new w 24 #[.int .i64 n, .slice A l c]
  have hb0 : Below w.heap.size w (w.alloc (.cells #[.int .i64 n, .slice A l c] 24)) := (Below.refl _ _).alloc (Nat.le_refl _) _
  have hpow : ∀ k, k ≤ n → 2 ^ k ≤ 64 := fun k hk => Nat.le_trans (Nat.pow_le_pow_right (by omega) (Nat.le_trans hk hn)) (by decide)
  have HP := Lib.hid hpow
  clear hpow
  have c0 := g0.cell 0
  go_enter Try.func20, Try.ntmps20
  go_wp2
  go_loopw [3, 4] (fun p i wr => ∃ (k m : Nat), k ≤ n ∧ m ≤ 64 ∧ p = .int .i64 m ∧ i = .int .i64 k ∧ Hid (m = 2 ^ k) ∧ wr = w.alloc (.cells #[.int .i64 n, .slice A l c] 24)) (fun _ i _ => n - (intOf i).toNat)
  case atStart => exact ⟨0, 1, by omega, by omega, rfl, rfl, rfl, rfl⟩
  case round =>
    obtain ⟨k, m, hk, hm, rfl, rfl, HM, rfl⟩ := hrel
    by_cases hlt : k < n
    · have hi : (k : Int) < (n : Int) := by omega
      have hm2 : Hid (2 * m = 2 ^ (k + 1)) := by rw [Hid, HM.out, Nat.pow_succ, Nat.mul_comm]
      have hm3 : 2 * m ≤ 64 := by rw [hm2.out]; exact HP.out _ (by omega)
      go_wp2
      go_roundw
      case rel => exact ⟨k + 1, 2 * m, by omega, hm3, by go_num, by go_num, hm2, trivial⟩
      case measure => simp [intOf]; omega
    · obtain rfl : k = n := by omega
      have HN := HM
      clear HM HP
      have MC := Lib.hid (fun D w hD => members_any k D (by omega) hD w)
      go_wp2
      go_loopw [5, 6] (fun s i wr => ∃ (j : Nat) (A' : Option Addr) (c' : Nat) (vs : List Value), j ≤ m ∧ i = .int .i64 j ∧ s = .slice A' (subsL k j).length c' ∧ OwnRows wr w.heap.size A' c' vs (subsL k j) ∧ Blk wr w.heap.size 24 #[.int .i64 k, .slice A l c] ∧ Below w.heap.size w wr) (fun _ i _ => m - (intOf i).toNat)
      case atStart => exact ⟨0, none, 0, [], by omega, rfl, rfl, OwnRows.nil_ _ _, g0, hb0⟩
      case round =>
        obtain ⟨j, A', c', vs, hj, rfl, rfl, hown, gw, hbel⟩ := hrel
        clear c0
        have c0 := gw.cell 0
        have hsz := hbel.size
        by_cases hlt : j < m
        · have hi : (j : Int) < (m : Int) := by omega
          go_wp2_with fail
          refine (MC.out j _ (by omega)).mono ?_
          rintro e w1 ⟨A1, c1, rfl, o1, hb1⟩
          have hown1 := hown.next hb1
          have g1 := gw.next hb1
          have hB1 := hbel.trans (hb1.mono hsz)
          have hs1 := hB1.size
          obtain ⟨d, hd⟩ : ∃ d, natsI (bitsL k j) = d := ⟨_, rfl⟩
          have hdl : (bitsL k j).length = d.length := by rw [← hd, natsI_length]
          have HS : Hid (subsL k (j + 1) = subsL k j ++ [d]) := by rw [Hid, subsL_succ, hd]
          have HSL := Lib.hid (subsL_length k j)
          rw [hd] at o1
          rw [hdl]
          have o1' := o1.mono (base' := w.heap.size) (by omega)
          clear hdl hd hown hb1
          go_wp2_with (at_builtin; refine append_go rfl (.tmp 20) (.tmp 25) _ rfl w.heap.size 25 Try.underlying39 info_row rfl (by omega) A' c' (subsL k j).length vs rfl (World.ownsRow.alloc hown1.1 _) _ [.slice A1 d.length c1] rfl (Reads.box _ _ _) (by simp [Value.oneCell']) (by have := HSL.out; omega) (by simp; omega) ?_; intro A6 c6 w6 hown6 hg6 hb6 hw6)
          go_roundw
          case rel =>
            have k2 : OwnRows w6 w.heap.size A6 c6 (vs ++ [.slice A1 d.length c1]) (subsL k j ++ [d]) := OwnRows.push (hown1.kept fun k hk => Below.heap_alloc _ _ _ (hown1.lt hk).2) (OwnI.alloc o1' _) hown6 hg6
            refine ⟨j + 1, A6, c6, vs ++ [.slice A1 d.length c1], by omega, by go_num, ?_, ?_, ?_, (hB1.alloc hB1.size _).trans hb6⟩
            · rw [HS.out]; simp
            · rw [HS.out]; exact k2
            · exact Blk.grown (g1.alloc _) hg6 (own_blk_ne hown1.1 g1 (by decide))
          case measure => simp [intOf]; omega
        · obtain rfl : j = m := by omega
          go_wp2
          go_ret
          refine ⟨A', c', vs, by rw [subsL_length, HN.out]; rfl, ?_, hbel⟩
          rw [← HN.out]; exact hown
end Go.Proofs.Ythbannpmfdflaaa
