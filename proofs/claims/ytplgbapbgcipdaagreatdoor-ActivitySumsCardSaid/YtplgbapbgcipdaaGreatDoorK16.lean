/-
  Texts of this claim, put together: Grid.
-/
import Derived.Test.YtplgbapbgcipdaaGreatDoorK13
/-! ref08.Table. -/
namespace Go.Proofs.YtplgbapbgcipdaaGreatDoor
open Go.RowKit

set_option maxHeartbeats 800000 in
theorem table_any (n : Nat) (hn : n ≤ 1000) (w : World) :
    Calls Tryz.prog 159 #[.int .i64 n] w fun e w' =>
      ∃ A c gs, e = .returned (.slice A n c) ∧ Hid (gs.length = n) ∧ Grid w' w.heap.size A c n gs (List.replicate n (List.replicate n 0)) ∧ Below w.heap.size w w' := by
  have hmk := make_ints n (by omega)
  go_enter Tryz.func159, Tryz.ntmps159
  go_wp2
  go_loopw [3, 4] (fun v i wr => ∃ (k : Nat) (A' : Option Addr) (c' : Nat) (gs : List Nat), k ≤ n ∧ i = .int .i64 k ∧ v = .slice A' k c' ∧ Hid (gs.length = k) ∧ Grid wr w.heap.size A' c' n gs (List.replicate k (List.replicate n 0)) ∧ Below w.heap.size w wr) (fun _ i _ => n - (intOf i).toNat)
  case atStart => exact ⟨0, none, 0, [], by omega, rfl, rfl, by simp [Hid], Grid.nil_ _ _ _, Below.refl _ _⟩
  case round =>
    obtain ⟨k, A', c', gs, hk, rfl, rfl, HL, hown, hbel⟩ := hrel
    by_cases hlt : k < n
    · have hi : (k : Int) < (n : Int) := by omega
      have hz := hbel.size
      have hbx : w.heap.size ≤ ((wr.alloc (.cells (ints (List.replicate n 0)).toArray 3)).alloc (.cells #[.slice (some ⟨wr.heap.size, 0, none⟩) n n] 25)).heap.size := by simp; omega
      have hown2 : ((wr.alloc (.cells (ints (List.replicate n 0)).toArray 3)).alloc (.cells #[.slice (some ⟨wr.heap.size, 0, none⟩) n n] 25)).ownsRow w.heap.size 25 1 (.slice A' k c') k (gs.map fun g => .slice (some ⟨g, 0, none⟩) n n) := by
        have := HL.out; subst this; exact (World.ownsRow.alloc (World.ownsRow.alloc hown.outer _) _)
      have hbox : Reads ((wr.alloc (.cells (ints (List.replicate n 0)).toArray 3)).alloc (.cells #[.slice (some ⟨wr.heap.size, 0, none⟩) n n] 25)) (wr.heap.size + 1 + 1) 1 (some ⟨wr.heap.size + 1, 0, none⟩) 1 [.slice (some ⟨wr.heap.size, 0, none⟩) n n] := by
        have := Reads.box (wr.alloc (.cells (ints (List.replicate n 0)).toArray 3)) (.slice (some ⟨wr.heap.size, 0, none⟩) n n) 25
        simpa using this
      go_wp2_with (at_builtin; refine append_go rfl (.tmp 10) (.tmp 13) _ rfl w.heap.size 25 Tryz.underlying50 info_row rfl (by omega) A' c' k (gs.map fun g => .slice (some ⟨g, 0, none⟩) n n) rfl hown2 _ [.slice (some ⟨wr.heap.size, 0, none⟩) n n] rfl hbox (by simp [Value.oneCell']) (by omega) hbx ?_; intro A2 c2 w2 hown3 hg2 hb2 _)
      have gB : Below w.heap.size w w2 := hbel.trans ((((Below.refl _ _).alloc hz _).alloc (by simp; omega) _).trans hb2)
      have hgw : Grid ((wr.alloc (.cells (ints (List.replicate n 0)).toArray 3)).alloc (.cells #[.slice (some ⟨wr.heap.size, 0, none⟩) n n] 25)) w.heap.size A' c' n gs (List.replicate k (List.replicate n 0)) :=
        hown.next (((Below.refl _ _).alloc (Nat.le_refl _) _).alloc (by simp) _)
      have hnb := (Blk.new wr 3 (ints (List.replicate n 0)).toArray).alloc (.cells #[.slice (some ⟨wr.heap.size, 0, none⟩) n n] 25)
      have hpush : Grid w2 w.heap.size A2 c2 n (gs ++ [wr.heap.size]) (List.replicate k (List.replicate n 0) ++ [List.replicate n 0]) := by
        have hL := HL.out
        subst hL
        exact hgw.push hnb (by simp) hz (fun g' hg' => by obtain ⟨cs, hc, _⟩ := hown.blk hg'; exact Nat.ne_of_lt hc.lt) hown3 hg2
      go_roundw
      case rel => exact ⟨k + 1, A2, c2, gs ++ [wr.heap.size], by omega, by go_num, rfl, by simp [Hid, HL.out], by rw [List.replicate_succ']; exact hpush, gB⟩
      case measure => simp [intOf]; omega
    · have hi : ¬ (k : Int) < (n : Int) := by omega
      obtain rfl : k = n := by omega
      go_wp2
      go_ret
      exact ⟨A', c', rfl, gs, HL, hown, hbel⟩
end Go.Proofs.YtplgbapbgcipdaaGreatDoor

