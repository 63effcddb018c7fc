/-
  A struct that a function hands back: read out of its box.
-/
import Derived.Test.YtjeggocindcgaaaRows
import Derived.Test.YtjeggocindcgaaaWords
import Derived.Laws.Rows
import Derived.Laws.ResultCell
namespace Go.Proofs.Ytjeggocindcgaaa
open Go.RowKit
section
variable {fn : Func} {p u v : Tmp} {tmps : Array Value} {w : World} {g : Nat} {cs : Array Value}
theorem info_graph : (Try.prog.info? 52).map (·.size) = some 2 := by kernel_rfl
theorem results_g (h : fn.results = #[.cell p 52]) (hp : tmps.getD p undef = .pointer (some ⟨g, 0, none⟩)) (hg : Blk w g 52 cs) (hs : cs.size = 2) :
    (results fn tmps).run Try.prog w = .ok (.agg cs) w := by
  exact results_cell_row h tmps w g _ cs _ _ hp hg Try.underlying52 rfl (by rw [info_graph, hs])
theorem results_g1 (h : fn.results = #[.cell p 52, .tmp u]) (hp : tmps.getD p undef = .pointer (some ⟨g, 0, none⟩)) (hg : Blk w g 52 cs) (hs : cs.size = 2) :
    (results fn tmps).run Try.prog w = .ok (.tuple #[.agg cs, tmps.getD u undef]) w := by
  have hi : (Try.prog.info? 52).map (·.size) = some cs.size := by rw [info_graph, hs]
  have hp' : tmps[p]?.getD undef = .pointer (some ⟨g, 0, none⟩) := by simpa using hp
  simp [results, h, hp', asAddr, run_loadVar_row w g _ _ cs _ _ hg Try.underlying52 rfl hi]
theorem results_g2 (h : fn.results = #[.cell p 52, .tmp u, .tmp v]) (hp : tmps.getD p undef = .pointer (some ⟨g, 0, none⟩)) (hg : Blk w g 52 cs) (hs : cs.size = 2) :
    (results fn tmps).run Try.prog w = .ok (.tuple #[.agg cs, tmps.getD u undef, tmps.getD v undef]) w := by
  have hi : (Try.prog.info? 52).map (·.size) = some cs.size := by rw [info_graph, hs]
  have hp' : tmps[p]?.getD undef = .pointer (some ⟨g, 0, none⟩) := by simpa using hp
  simp [results, h, hp', asAddr, run_loadVar_row w g _ _ cs _ _ hg Try.underlying52 rfl hi]
end
end Go.Proofs.Ytjeggocindcgaaa
