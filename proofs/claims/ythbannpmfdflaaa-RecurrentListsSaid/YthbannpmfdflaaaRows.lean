/-
  No cell of these rows narrows 'for every input' (looked for: loops, veiled, ifaces, maps, wideKeys, modest, calm, conditions, laid).
  DERIVED. THE GIVEN ROWS OF THIS SEAT. 10 by the template 'for every input the law returns true; each argument reads behind the call as it read before'; 0 by the template 'total and deterministic' (their statements: YthbannpmfdflaaaTotals.lean).
  GIVEN WITH THE SEED: the statements are not yours to turn. If you find one false, say at which input.
  Laid BY PROGRAM, IN A SANDBOX (cutbox-rows.mjs): the forced cells as the released guide's own fill.sh prints them over the translation 402a4f89d02bbe6f… (all of the seat's roots in one cut). By AI agents, Wed Nov 11 2026. No macro, syntax, notation, axiom, sorry.
-/
import Derived.Test.YthbannpmfdflaaaChecked
import GoSem.Claim
import GoSem.ClaimJoined
import GoSem.ClaimMapViews
import Derived.JoinedTies
import Derived.KernelRfl
namespace Go.Proofs.Ythbannpmfdflaaa
/- THE CELL 'sum', in the pinned program and in every row, IS THE sha256 OF THE DUMP (.gsa) THAT YthbannpmfdflaaaProg.lean LOADS. Nothing in Lean hashes anything: it is a label: what it is worth is what the hold of that sum in a sandbox is worth. -/
noncomputable def Try.pinned : Pinned := { name := "ythbannpmfdflaaa", sum := "402a4f89d02bbe6fb17d9c9644705b56e86cf139a44a4955b5c774318d9d1a2d", checked := Try.checked }
namespace Rows
def none {H : Type} : Left H := { results := [], args := [] }

/-- 'sandpilelaw23.BurningPushes': WHATEVER THE INPUT: true; the input reads as it did. -/
def burningPushesSpec : ChangeSpec := { name := "burningPushes", fn := fun _ => fun
  | [d1, d2, d3] => { results := [.lit (.bool true)], args := [d1, d2, d3] }
  | _ => none }
def burningPushesRow : OpenClaim := { program := "ythbannpmfdflaaa", sum := "402a4f89d02bbe6fb17d9c9644705b56e86cf139a44a4955b5c774318d9d1a2d", func := "sandpile/sandpilelaw23.BurningPushes", spec := "burningPushes", unfollowed := true, recurses := true, apart := false }
def BurningPushesSaid : Prop := burningPushesRow.holds Try.pinned (OpenSpec.ofChange burningPushesSpec)

/-- ITS FALSE NEIGHBOUR: 'it returns false'. Refute it at one input. -/
def burningPushesWrong : ChangeSpec := { name := "burningPushes", fn := fun _ => fun
  | [d1, d2, d3] => { results := [.lit (.bool false)], args := [d1, d2, d3] }
  | _ => none }
def BurningPushesWrongFalsely : Prop := burningPushesRow.holds Try.pinned (OpenSpec.ofChange burningPushesWrong)

/-- 'sandpilelaw23.BurningBelow': WHATEVER THE INPUT: true; the input reads as it did. -/
def burningBelowSpec : ChangeSpec := { name := "burningBelow", fn := fun _ => fun
  | [d1, d2, d3] => { results := [.lit (.bool true)], args := [d1, d2, d3] }
  | _ => none }
def burningBelowRow : OpenClaim := { program := "ythbannpmfdflaaa", sum := "402a4f89d02bbe6fb17d9c9644705b56e86cf139a44a4955b5c774318d9d1a2d", func := "sandpile/sandpilelaw23.BurningBelow", spec := "burningBelow", unfollowed := true, recurses := true, apart := false }
def BurningBelowSaid : Prop := burningBelowRow.holds Try.pinned (OpenSpec.ofChange burningBelowSpec)

/-- ITS FALSE NEIGHBOUR: 'it returns false'. Refute it at one input. -/
def burningBelowWrong : ChangeSpec := { name := "burningBelow", fn := fun _ => fun
  | [d1, d2, d3] => { results := [.lit (.bool false)], args := [d1, d2, d3] }
  | _ => none }
def BurningBelowWrongFalsely : Prop := burningBelowRow.holds Try.pinned (OpenSpec.ofChange burningBelowWrong)

/-- 'sandpilelaw23.BurningAdds': WHATEVER THE INPUT: true; the input reads as it did. -/
def burningAddsSpec : ChangeSpec := { name := "burningAdds", fn := fun _ => fun
  | [d1, d2, d3] => { results := [.lit (.bool true)], args := [d1, d2, d3] }
  | _ => none }
def burningAddsRow : OpenClaim := { program := "ythbannpmfdflaaa", sum := "402a4f89d02bbe6fb17d9c9644705b56e86cf139a44a4955b5c774318d9d1a2d", func := "sandpile/sandpilelaw23.BurningAdds", spec := "burningAdds", unfollowed := true, recurses := true, apart := false }
def BurningAddsSaid : Prop := burningAddsRow.holds Try.pinned (OpenSpec.ofChange burningAddsSpec)

/-- ITS FALSE NEIGHBOUR: 'it returns false'. Refute it at one input. -/
def burningAddsWrong : ChangeSpec := { name := "burningAdds", fn := fun _ => fun
  | [d1, d2, d3] => { results := [.lit (.bool false)], args := [d1, d2, d3] }
  | _ => none }
def BurningAddsWrongFalsely : Prop := burningAddsRow.holds Try.pinned (OpenSpec.ofChange burningAddsWrong)

/-- 'sandpilelaw23.BurningProves': WHATEVER THE INPUT: true; the input reads as it did. -/
def burningProvesSpec : ChangeSpec := { name := "burningProves", fn := fun _ => fun
  | [d1, d2, d3] => { results := [.lit (.bool true)], args := [d1, d2, d3] }
  | _ => none }
def burningProvesRow : OpenClaim := { program := "ythbannpmfdflaaa", sum := "402a4f89d02bbe6fb17d9c9644705b56e86cf139a44a4955b5c774318d9d1a2d", func := "sandpile/sandpilelaw23.BurningProves", spec := "burningProves", unfollowed := true, recurses := true, apart := false }
def BurningProvesSaid : Prop := burningProvesRow.holds Try.pinned (OpenSpec.ofChange burningProvesSpec)

/-- ITS FALSE NEIGHBOUR: 'it returns false'. Refute it at one input. -/
def burningProvesWrong : ChangeSpec := { name := "burningProves", fn := fun _ => fun
  | [d1, d2, d3] => { results := [.lit (.bool false)], args := [d1, d2, d3] }
  | _ => none }
def BurningProvesWrongFalsely : Prop := burningProvesRow.holds Try.pinned (OpenSpec.ofChange burningProvesWrong)

/-- 'sandpilelaw23.BurningBurns': WHATEVER THE INPUT: true; the input reads as it did. -/
def burningBurnsSpec : ChangeSpec := { name := "burningBurns", fn := fun _ => fun
  | [d1, d2, d3] => { results := [.lit (.bool true)], args := [d1, d2, d3] }
  | _ => none }
def burningBurnsRow : OpenClaim := { program := "ythbannpmfdflaaa", sum := "402a4f89d02bbe6fb17d9c9644705b56e86cf139a44a4955b5c774318d9d1a2d", func := "sandpile/sandpilelaw23.BurningBurns", spec := "burningBurns", unfollowed := true, recurses := true, apart := false }
def BurningBurnsSaid : Prop := burningBurnsRow.holds Try.pinned (OpenSpec.ofChange burningBurnsSpec)

/-- ITS FALSE NEIGHBOUR: 'it returns false'. Refute it at one input. -/
def burningBurnsWrong : ChangeSpec := { name := "burningBurns", fn := fun _ => fun
  | [d1, d2, d3] => { results := [.lit (.bool false)], args := [d1, d2, d3] }
  | _ => none }
def BurningBurnsWrongFalsely : Prop := burningBurnsRow.holds Try.pinned (OpenSpec.ofChange burningBurnsWrong)

/-- 'sandpilelaw23.BurningKeeps': WHATEVER THE INPUT: true; the input reads as it did. -/
def burningKeepsSpec : ChangeSpec := { name := "burningKeeps", fn := fun _ => fun
  | [d1, d2, d3] => { results := [.lit (.bool true)], args := [d1, d2, d3] }
  | _ => none }
def burningKeepsRow : OpenClaim := { program := "ythbannpmfdflaaa", sum := "402a4f89d02bbe6fb17d9c9644705b56e86cf139a44a4955b5c774318d9d1a2d", func := "sandpile/sandpilelaw23.BurningKeeps", spec := "burningKeeps", unfollowed := true, recurses := true, apart := false }
def BurningKeepsSaid : Prop := burningKeepsRow.holds Try.pinned (OpenSpec.ofChange burningKeepsSpec)

/-- ITS FALSE NEIGHBOUR: 'it returns false'. Refute it at one input. -/
def burningKeepsWrong : ChangeSpec := { name := "burningKeeps", fn := fun _ => fun
  | [d1, d2, d3] => { results := [.lit (.bool false)], args := [d1, d2, d3] }
  | _ => none }
def BurningKeepsWrongFalsely : Prop := burningKeepsRow.holds Try.pinned (OpenSpec.ofChange burningKeepsWrong)

/-- 'sandpilelaw23.BurningAgrees': WHATEVER THE INPUT: true; the input reads as it did. -/
def burningAgreesSpec : ChangeSpec := { name := "burningAgrees", fn := fun _ => fun
  | [d1, d2, d3] => { results := [.lit (.bool true)], args := [d1, d2, d3] }
  | _ => none }
def burningAgreesRow : OpenClaim := { program := "ythbannpmfdflaaa", sum := "402a4f89d02bbe6fb17d9c9644705b56e86cf139a44a4955b5c774318d9d1a2d", func := "sandpile/sandpilelaw23.BurningAgrees", spec := "burningAgrees", unfollowed := true, recurses := true, apart := false }
def BurningAgreesSaid : Prop := burningAgreesRow.holds Try.pinned (OpenSpec.ofChange burningAgreesSpec)

/-- ITS FALSE NEIGHBOUR: 'it returns false'. Refute it at one input. -/
def burningAgreesWrong : ChangeSpec := { name := "burningAgrees", fn := fun _ => fun
  | [d1, d2, d3] => { results := [.lit (.bool false)], args := [d1, d2, d3] }
  | _ => none }
def BurningAgreesWrongFalsely : Prop := burningAgreesRow.holds Try.pinned (OpenSpec.ofChange burningAgreesWrong)

/-- 'sandpilelaw24.RecurrentLists': WHATEVER THE INPUT: true; the input reads as it did. -/
def recurrentListsSpec : ChangeSpec := { name := "recurrentLists", fn := fun _ => fun
  | [d1, d2] => { results := [.lit (.bool true)], args := [d1, d2] }
  | _ => none }
def recurrentListsRow : OpenClaim := { program := "ythbannpmfdflaaa", sum := "402a4f89d02bbe6fb17d9c9644705b56e86cf139a44a4955b5c774318d9d1a2d", func := "sandpile/sandpilelaw24.RecurrentLists", spec := "recurrentLists", unfollowed := true, recurses := true, apart := false }
def RecurrentListsSaid : Prop := recurrentListsRow.holds Try.pinned (OpenSpec.ofChange recurrentListsSpec)

/-- ITS FALSE NEIGHBOUR: 'it returns false'. Refute it at one input. -/
def recurrentListsWrong : ChangeSpec := { name := "recurrentLists", fn := fun _ => fun
  | [d1, d2] => { results := [.lit (.bool false)], args := [d1, d2] }
  | _ => none }
def RecurrentListsWrongFalsely : Prop := recurrentListsRow.holds Try.pinned (OpenSpec.ofChange recurrentListsWrong)

/-- 'sandpilelaw24.RecurrentKicked': WHATEVER THE INPUT: true; the input reads as it did. -/
def recurrentKickedSpec : ChangeSpec := { name := "recurrentKicked", fn := fun _ => fun
  | [d1, d2, d3] => { results := [.lit (.bool true)], args := [d1, d2, d3] }
  | _ => none }
def recurrentKickedRow : OpenClaim := { program := "ythbannpmfdflaaa", sum := "402a4f89d02bbe6fb17d9c9644705b56e86cf139a44a4955b5c774318d9d1a2d", func := "sandpile/sandpilelaw24.RecurrentKicked", spec := "recurrentKicked", unfollowed := true, recurses := true, apart := false }
def RecurrentKickedSaid : Prop := recurrentKickedRow.holds Try.pinned (OpenSpec.ofChange recurrentKickedSpec)

/-- ITS FALSE NEIGHBOUR: 'it returns false'. Refute it at one input. -/
def recurrentKickedWrong : ChangeSpec := { name := "recurrentKicked", fn := fun _ => fun
  | [d1, d2, d3] => { results := [.lit (.bool false)], args := [d1, d2, d3] }
  | _ => none }
def RecurrentKickedWrongFalsely : Prop := recurrentKickedRow.holds Try.pinned (OpenSpec.ofChange recurrentKickedWrong)

/-- 'sandpilelaw24.RecurrentProves': WHATEVER THE INPUT: true; the input reads as it did. -/
def recurrentProvesSpec : ChangeSpec := { name := "recurrentProves", fn := fun _ => fun
  | [d1, d2, d3] => { results := [.lit (.bool true)], args := [d1, d2, d3] }
  | _ => none }
def recurrentProvesRow : OpenClaim := { program := "ythbannpmfdflaaa", sum := "402a4f89d02bbe6fb17d9c9644705b56e86cf139a44a4955b5c774318d9d1a2d", func := "sandpile/sandpilelaw24.RecurrentProves", spec := "recurrentProves", unfollowed := true, recurses := true, apart := false }
def RecurrentProvesSaid : Prop := recurrentProvesRow.holds Try.pinned (OpenSpec.ofChange recurrentProvesSpec)

/-- ITS FALSE NEIGHBOUR: 'it returns false'. Refute it at one input. -/
def recurrentProvesWrong : ChangeSpec := { name := "recurrentProves", fn := fun _ => fun
  | [d1, d2, d3] => { results := [.lit (.bool false)], args := [d1, d2, d3] }
  | _ => none }
def RecurrentProvesWrongFalsely : Prop := recurrentProvesRow.holds Try.pinned (OpenSpec.ofChange recurrentProvesWrong)

/- THE SECOND FORM. 'bulk': how many values and letters a reading holds, each counted each time it is reached (what is shared counts as often as it is met; a slice's spare places count too). A statement '..UptoSaid' is the law's where the arguments, and the package variables that the reading takes, are together of bulk at most 1048576: NARROWER than '..Said'. Prove '..Said' where nothing that the law and all that it calls make is longer than what came in: it says more and counts as full. Else prove '..UptoSaid'. A law counts once. -/
mutual
def uptoBulk {H : Type} : DataW H → Nat
  | .lit (.string bytes) => bytes.length + 1
  | .lit _ => 1
  | .nil => 1
  | .ptr d => uptoBulk d + 1
  | .slice elems spare => uptoBulkAll elems + uptoBulkAll spare + 1
  | .agg parts => uptoBulkAll parts + 1
  | .iface _ d => uptoBulk d + 1
  | .map entries => uptoBulkEntries entries + 1
  | .held _ => 1
def uptoBulkAll {H : Type} : List (DataW H) → Nat
  | [] => 0
  | d :: r => uptoBulk d + uptoBulkAll r
def uptoBulkEntries {H : Type} : List (Lit × DataW H) → Nat
  | [] => 0
  | x :: r => uptoBulkEntry x + uptoBulkEntries r
def uptoBulkEntry {H : Type} : Lit × DataW H → Nat
  | (.string bytes, d) => bytes.length + uptoBulk d + 1
  | (_, d) => uptoBulk d + 1
 end
def uptoSmall : (H : Type) → List (DataW H) → Bool := fun _ ds => decide (uptoBulkAll ds ≤ 1048576)
def OpenSpec.upto (s : _root_.Go.ChangeSpec) : _root_.Go.OpenSpec := { _root_.Go.OpenSpec.ofChange s with cond := some uptoSmall }

/-- 'sandpilelaw23.BurningPushes', WHERE WHAT IT READS IS OF BULK AT MOST 1048576: true; the input reads as it did. -/
def burningPushesUptoRow : OpenClaim := { program := "ythbannpmfdflaaa", sum := "402a4f89d02bbe6fb17d9c9644705b56e86cf139a44a4955b5c774318d9d1a2d", func := "sandpile/sandpilelaw23.BurningPushes", spec := "burningPushes", unfollowed := true, recurses := true, apart := false, narrowed := true }
def BurningPushesUptoSaid : Prop := burningPushesUptoRow.holds Try.pinned (OpenSpec.upto burningPushesSpec)

/-- 'sandpilelaw23.BurningBelow', WHERE WHAT IT READS IS OF BULK AT MOST 1048576: true; the input reads as it did. -/
def burningBelowUptoRow : OpenClaim := { program := "ythbannpmfdflaaa", sum := "402a4f89d02bbe6fb17d9c9644705b56e86cf139a44a4955b5c774318d9d1a2d", func := "sandpile/sandpilelaw23.BurningBelow", spec := "burningBelow", unfollowed := true, recurses := true, apart := false, narrowed := true }
def BurningBelowUptoSaid : Prop := burningBelowUptoRow.holds Try.pinned (OpenSpec.upto burningBelowSpec)

/-- 'sandpilelaw23.BurningAdds', WHERE WHAT IT READS IS OF BULK AT MOST 1048576: true; the input reads as it did. -/
def burningAddsUptoRow : OpenClaim := { program := "ythbannpmfdflaaa", sum := "402a4f89d02bbe6fb17d9c9644705b56e86cf139a44a4955b5c774318d9d1a2d", func := "sandpile/sandpilelaw23.BurningAdds", spec := "burningAdds", unfollowed := true, recurses := true, apart := false, narrowed := true }
def BurningAddsUptoSaid : Prop := burningAddsUptoRow.holds Try.pinned (OpenSpec.upto burningAddsSpec)

/-- 'sandpilelaw23.BurningProves', WHERE WHAT IT READS IS OF BULK AT MOST 1048576: true; the input reads as it did. -/
def burningProvesUptoRow : OpenClaim := { program := "ythbannpmfdflaaa", sum := "402a4f89d02bbe6fb17d9c9644705b56e86cf139a44a4955b5c774318d9d1a2d", func := "sandpile/sandpilelaw23.BurningProves", spec := "burningProves", unfollowed := true, recurses := true, apart := false, narrowed := true }
def BurningProvesUptoSaid : Prop := burningProvesUptoRow.holds Try.pinned (OpenSpec.upto burningProvesSpec)

/-- 'sandpilelaw23.BurningBurns', WHERE WHAT IT READS IS OF BULK AT MOST 1048576: true; the input reads as it did. -/
def burningBurnsUptoRow : OpenClaim := { program := "ythbannpmfdflaaa", sum := "402a4f89d02bbe6fb17d9c9644705b56e86cf139a44a4955b5c774318d9d1a2d", func := "sandpile/sandpilelaw23.BurningBurns", spec := "burningBurns", unfollowed := true, recurses := true, apart := false, narrowed := true }
def BurningBurnsUptoSaid : Prop := burningBurnsUptoRow.holds Try.pinned (OpenSpec.upto burningBurnsSpec)

/-- 'sandpilelaw23.BurningKeeps', WHERE WHAT IT READS IS OF BULK AT MOST 1048576: true; the input reads as it did. -/
def burningKeepsUptoRow : OpenClaim := { program := "ythbannpmfdflaaa", sum := "402a4f89d02bbe6fb17d9c9644705b56e86cf139a44a4955b5c774318d9d1a2d", func := "sandpile/sandpilelaw23.BurningKeeps", spec := "burningKeeps", unfollowed := true, recurses := true, apart := false, narrowed := true }
def BurningKeepsUptoSaid : Prop := burningKeepsUptoRow.holds Try.pinned (OpenSpec.upto burningKeepsSpec)

/-- 'sandpilelaw23.BurningAgrees', WHERE WHAT IT READS IS OF BULK AT MOST 1048576: true; the input reads as it did. -/
def burningAgreesUptoRow : OpenClaim := { program := "ythbannpmfdflaaa", sum := "402a4f89d02bbe6fb17d9c9644705b56e86cf139a44a4955b5c774318d9d1a2d", func := "sandpile/sandpilelaw23.BurningAgrees", spec := "burningAgrees", unfollowed := true, recurses := true, apart := false, narrowed := true }
def BurningAgreesUptoSaid : Prop := burningAgreesUptoRow.holds Try.pinned (OpenSpec.upto burningAgreesSpec)

/-- 'sandpilelaw24.RecurrentLists', WHERE WHAT IT READS IS OF BULK AT MOST 1048576: true; the input reads as it did. -/
def recurrentListsUptoRow : OpenClaim := { program := "ythbannpmfdflaaa", sum := "402a4f89d02bbe6fb17d9c9644705b56e86cf139a44a4955b5c774318d9d1a2d", func := "sandpile/sandpilelaw24.RecurrentLists", spec := "recurrentLists", unfollowed := true, recurses := true, apart := false, narrowed := true }
def RecurrentListsUptoSaid : Prop := recurrentListsUptoRow.holds Try.pinned (OpenSpec.upto recurrentListsSpec)

/-- 'sandpilelaw24.RecurrentKicked', WHERE WHAT IT READS IS OF BULK AT MOST 1048576: true; the input reads as it did. -/
def recurrentKickedUptoRow : OpenClaim := { program := "ythbannpmfdflaaa", sum := "402a4f89d02bbe6fb17d9c9644705b56e86cf139a44a4955b5c774318d9d1a2d", func := "sandpile/sandpilelaw24.RecurrentKicked", spec := "recurrentKicked", unfollowed := true, recurses := true, apart := false, narrowed := true }
def RecurrentKickedUptoSaid : Prop := recurrentKickedUptoRow.holds Try.pinned (OpenSpec.upto recurrentKickedSpec)

/-- 'sandpilelaw24.RecurrentProves', WHERE WHAT IT READS IS OF BULK AT MOST 1048576: true; the input reads as it did. -/
def recurrentProvesUptoRow : OpenClaim := { program := "ythbannpmfdflaaa", sum := "402a4f89d02bbe6fb17d9c9644705b56e86cf139a44a4955b5c774318d9d1a2d", func := "sandpile/sandpilelaw24.RecurrentProves", spec := "recurrentProves", unfollowed := true, recurses := true, apart := false, narrowed := true }
def RecurrentProvesUptoSaid : Prop := recurrentProvesUptoRow.holds Try.pinned (OpenSpec.upto recurrentProvesSpec)

end Rows
end Go.Proofs.Ythbannpmfdflaaa
