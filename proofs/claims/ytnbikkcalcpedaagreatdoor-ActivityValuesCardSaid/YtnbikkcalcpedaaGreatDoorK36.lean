/-
  Texts of this claim, put together: Nat1.
-/
import Derived.Test.YtnbikkcalcpedaaGreatDoorK35
import Derived.Test.YtnbikkcalcpedaaGreatDoorK06
/-! integer.trimmed, signed, and the results that are numbers: structs of a sign and words. -/
namespace Go.Proofs.YtnbikkcalcpedaaGreatDoor
open Go.RowKit Go.Lib

theorem info_number : (Tryz.prog.info? 215).map (·.size) = some 2 := by kernel_rfl
theorem results_n {fn : Func} {p : Tmp} {tmps : Array Value} {w : World} {g : Nat} {cs : Array Value} (h : fn.results = #[.cell p 215]) (hp : tmps.getD p undef = .pointer (some ⟨g, 0, none⟩)) (hg : Blk w g 215 cs) (hs : cs.size = 2) :
    (results fn tmps).run Tryz.prog w = .ok (.agg cs) w :=
  results_cell_row h tmps w g _ cs _ _ hp hg Tryz.underlying215 rfl (by rw [info_number, hs])
set_option maxHeartbeats 1000000 in
theorem signed_any (b : Bool) (A : Option Addr) (k c : Nat) (w : World) :
    Calls Tryz.prog 230 #[.bool b, .slice A k c] w fun e w' => e = .returned (.agg #[.bool (b && decide (0 < k)), .slice A k c]) ∧ Below w.heap.size w w' := by
  have g := Blk.new w 215 #[.bool false, .slice none 0 0]
  have k0 := g.cell 0
  have k1 := g.cell 1
  have f0 := g.frozen 0
  have f1 := g.frozen 1
  have hk : decide ((0 : Int) < (k : Int)) = decide (0 < k) := by simp
  obtain ⟨d, hd⟩ : ∃ d, decide (0 < k) = d := ⟨_, rfl⟩
  rw [hd] at hk ⊢
  cases b
  · go_enter Tryz.func230, Tryz.ntmps230
    go_wp2
    go_simp
    refine bodyPost_ret (results_n rfl rfl (Blk.new w _ _) rfl) rfl ?_
    exact ⟨rfl, (Below.refl _ _).alloc (Nat.le_refl _) _⟩
  · go_enter Tryz.func230, Tryz.ntmps230
    go_wp2
    go_simp
    refine bodyPost_ret (results_n rfl rfl (Blk.new w _ _) rfl) rfl ?_
    exact ⟨rfl, (Below.refl _ _).alloc (Nat.le_refl _) _⟩
set_option maxHeartbeats 2000000 in
theorem trimmed_any (A : Option Addr) (c : Nat) (l : List Nat) (hn : l.length ≤ 1000000) (hc : l.length ≤ c) (B : Nat) (w : World) (h : Reads w B 1 A l.length (u32s l)) :
    Calls Tryz.prog 231 #[.slice A l.length c] w fun e w' => ∃ k, e = .returned (.slice A k c) ∧ k ≤ l.length ∧ (∀ j x, k ≤ j → l[j]? = some x → x = 0) ∧ (∀ x, l[k - 1]? = some x → 0 < k → x ≠ 0) ∧ w' = w := by
  obtain ⟨n, hln⟩ : ∃ n, l.length = n := ⟨_, rfl⟩
  have HL := Lib.hid hln
  rw [hln] at hn hc h ⊢
  have HR := Lib.hid h
  clear hln h
  go_enter Tryz.func231, Tryz.ntmps231
  go_wp2
  go_loopw [0] (fun v wr => ∃ k : Nat, v = .slice A k c ∧ k ≤ n ∧ Hid (∀ j x, k ≤ j → l[j]? = some x → x = 0) ∧ wr = w) (fun v _ => (match v with | .slice _ k _ => k | _ => 0))
  case atStart => exact ⟨n, rfl, Nat.le_refl _, fun j x hj hx => by
    have := (List.getElem?_eq_some_iff.1 hx).1
    rw [HL.out] at this; omega, rfl⟩
  case round =>
    obtain ⟨k, rfl, hk, hz, rfl⟩ := hrel
    by_cases h0 : 0 < k
    · obtain ⟨x, hx⟩ := get_of_lt (xs := l) (k := k - 1) (by rw [HL.out]; omega)
      obtain ⟨b, off, hA, hb, hcell⟩ := HR.out.at_ (u32s_at hx)
      subst hA
      obtain ⟨m, rfl⟩ : ∃ m, k = m + 1 := ⟨k - 1, by omega⟩
      have hi : (0 : Int) < ((m + 1 : Nat) : Int) := by omega
      have hi2 : decide ((0 : Int) < ((m + 1 : Nat) : Int)) = true := decide_eq_true hi
      have hi3 : (((m + 1 : Nat) : Int) - 1) = (m : Int) := by omega
      rw [show m + 1 - 1 = m from rfl] at hx hcell
      by_cases hx0 : x = 0
      · subst hx0
        go_wp2
        go_roundw
        case rel => exact ⟨m, rfl, by omega, fun j x hj hx' => by
            by_cases hjm : j = m
            · subst hjm; rw [hx] at hx'; injection hx' with hx'; exact hx'.symm
            · exact hz.out j x (by omega) hx', trivial⟩
        case measure => simp
      · have hx1 : ((x : Int) == 0) = false := by simpa using hx0
        go_wp2
        go_ret
        exact ⟨m + 1, rfl, hk, hz.out, fun y hy _ => by rw [show m + 1 - 1 = m from rfl, hx] at hy; injection hy with hy; subst hy; exact hx0, rfl⟩
    · obtain rfl : k = 0 := by omega
      go_wp2
      go_ret
      exact ⟨0, rfl, by omega, hz.out, fun _ _ h => absurd h (by omega), rfl⟩
end Go.Proofs.YtnbikkcalcpedaaGreatDoor

