/-
  Package stabilize: wait; pileOf.
-/
import Derived.Test.YtjeggocindcgaaaPile
import Derived.Test.YtjeggocindcgaaaCloneI
import Derived.Deep.RegionHeld3
namespace Go.Proofs.Ytjeggocindcgaaa
open Go.RowKit

set_option maxHeartbeats 2000000 in
theorem wait_any (base bp n : Nat) (hn : n ≤ 12) (a : PA) (d : List Int) (q : Int) (rows : List (List Int)) (val fired : List Int) (total : Int) (ws : List Bool) (v : Nat) (hv : v < n) (w : World) (h : PileW w base bp n a d q rows val fired total ws) :
    Calls Try.prog 115 #[.pointer (some ⟨bp, 0, none⟩), .int .i64 v] w fun e w' => (∃ v, e = .returned v) ∧ PileW w' base bp n a d q rows val fired total (ws.set v (unst q d val v)) ∧ Only (fun k => k = bp) w w' := by
  have HU := Lib.hid (fun m => unstable_any base bp n a d q rows val fired total ws v hv _ (h.drewN m))
  have HP := Lib.hid h
  obtain ⟨b0, hb0⟩ := get_of_lt (xs := ws) (k := v) (by have := h.wl; omega)
  have hfz := h.blk.frozen (6 + v)
  have hce : w.cell? ⟨bp, 6 + v, none⟩ = some (.bool b0) := (h.blk.cell (6 + v)).trans (by rw [Nat.add_comm]; simp [pileCells, hb0])
  have hi : (v : Int) < 12 := by omega
  clear h
  go_enter Try.func115, Try.ntmps115
  go_wp2
  go_region_with (go_at_call 122; refine (HU.out 1).mono ?_; rintro e w1 ⟨rfl, m, rfl⟩)
  all_goals
    go_wp2
    exact bodyPost_end (results_none rfl _ _ _) rfl ⟨⟨_, rfl⟩, (HP.out.drewN _).setW v _, ((Only.refl (fun k => k = bp) w).drewN _).setCell (p := ⟨bp, 6 + v, none⟩) (.inl rfl) _⟩
end Go.Proofs.Ytjeggocindcgaaa
