/-
  No cell of these rows narrows 'for every input' (looked for: loops, veiled, ifaces, maps, wideKeys, modest, calm, conditions, laid).
  DERIVED. THE GIVEN ROWS OF THIS SEAT. 5 by the template 'for every input the law returns true; each argument reads behind the call as it read before'; 0 by the template 'total and deterministic' (their statements: YtoahfpabpdjkkaaGreatTotals.lean).
  GIVEN WITH THE SEED: the statements are not yours to turn. If you find one false, say at which input.
  Laid BY PROGRAM, IN A SANDBOX (cutbox-rows.mjs): the forced cells as the released guide's own fill.sh prints them over the translation 8fd2496544c9b11f… (all of the seat's roots in one cut). By AI agents, Wed Nov 11 2026. No macro, syntax, notation, axiom, sorry.
-/
import Derived.Test.YtoahfpabpdjkkaaGreatChecked
import GoSem.Claim
import GoSem.ClaimJoined
import GoSem.ClaimMapViews
import Derived.JoinedTies
import Derived.KernelRfl
namespace Go.Proofs.YtoahfpabpdjkkaaGreat
/- THE CELL 'sum', in the pinned program and in every row, IS THE sha256 OF THE DUMP (.gsa) THAT YtoahfpabpdjkkaaGreatProg.lean LOADS. Nothing in Lean hashes anything: it is a label: what it is worth is what the hold of that sum in a sandbox is worth. -/
noncomputable def Tryz.pinned : Pinned := { name := "ytoahfpabpdjkkaagreat", sum := "8fd2496544c9b11f88e8ec1436dd45ce26786b5173bc7c946aaacf76abeda379", checked := Tryz.checked }
namespace Rows
def none {H : Type} : Left H := { results := [], args := [] }

/-- 'gimmallaw13.StepConflict': WHATEVER THE INPUT: true; the input reads as it did. -/
def stepConflictSpec : ChangeSpec := { name := "stepConflict", fn := fun _ => fun
  | [d1, d2] => { results := [.lit (.bool true)], args := [d1, d2] }
  | _ => none }
def stepConflictRow : OpenClaim := { program := "ytoahfpabpdjkkaagreat", sum := "8fd2496544c9b11f88e8ec1436dd45ce26786b5173bc7c946aaacf76abeda379", func := "gimmal/gimmallaw13.StepConflict", spec := "stepConflict", unfollowed := true, recurses := true, apart := false }
def StepConflictSaid : Prop := stepConflictRow.holds Tryz.pinned (OpenSpec.ofChange stepConflictSpec)

/-- ITS FALSE NEIGHBOUR: 'it returns false'. Refute it at one input. -/
def stepConflictWrong : ChangeSpec := { name := "stepConflict", fn := fun _ => fun
  | [d1, d2] => { results := [.lit (.bool false)], args := [d1, d2] }
  | _ => none }
def StepConflictWrongFalsely : Prop := stepConflictRow.holds Tryz.pinned (OpenSpec.ofChange stepConflictWrong)

/-- 'gimmallaw13.StepCovers': WHATEVER THE INPUT: true; the input reads as it did. -/
def stepCoversSpec : ChangeSpec := { name := "stepCovers", fn := fun _ => fun
  | [d1, d2, d3, d4, d5] => { results := [.lit (.bool true)], args := [d1, d2, d3, d4, d5] }
  | _ => none }
def stepCoversRow : OpenClaim := { program := "ytoahfpabpdjkkaagreat", sum := "8fd2496544c9b11f88e8ec1436dd45ce26786b5173bc7c946aaacf76abeda379", func := "gimmal/gimmallaw13.StepCovers", spec := "stepCovers", inPlace := ["slices.overlaps[gimmal/api.Pair]", "slices.overlaps[gimmal/pages.page]"], unfollowed := true, recurses := true, apart := false }
def StepCoversSaid : Prop := stepCoversRow.holds Tryz.pinned (OpenSpec.ofChange stepCoversSpec)

/-- ITS FALSE NEIGHBOUR: 'it returns false'. Refute it at one input. -/
def stepCoversWrong : ChangeSpec := { name := "stepCovers", fn := fun _ => fun
  | [d1, d2, d3, d4, d5] => { results := [.lit (.bool false)], args := [d1, d2, d3, d4, d5] }
  | _ => none }
def StepCoversWrongFalsely : Prop := stepCoversRow.holds Tryz.pinned (OpenSpec.ofChange stepCoversWrong)

/-- 'gimmallaw13.StepRuns': WHATEVER THE INPUT: true; the input reads as it did. -/
def stepRunsSpec : ChangeSpec := { name := "stepRuns", fn := fun _ => fun
  | [d1, d2, d3, d4, d5] => { results := [.lit (.bool true)], args := [d1, d2, d3, d4, d5] }
  | _ => none }
def stepRunsRow : OpenClaim := { program := "ytoahfpabpdjkkaagreat", sum := "8fd2496544c9b11f88e8ec1436dd45ce26786b5173bc7c946aaacf76abeda379", func := "gimmal/gimmallaw13.StepRuns", spec := "stepRuns", inPlace := ["slices.overlaps[gimmal/api.Pair]", "slices.overlaps[gimmal/pages.page]"], unfollowed := true, recurses := true, apart := false }
def StepRunsSaid : Prop := stepRunsRow.holds Tryz.pinned (OpenSpec.ofChange stepRunsSpec)

/-- ITS FALSE NEIGHBOUR: 'it returns false'. Refute it at one input. -/
def stepRunsWrong : ChangeSpec := { name := "stepRuns", fn := fun _ => fun
  | [d1, d2, d3, d4, d5] => { results := [.lit (.bool false)], args := [d1, d2, d3, d4, d5] }
  | _ => none }
def StepRunsWrongFalsely : Prop := stepRunsRow.holds Tryz.pinned (OpenSpec.ofChange stepRunsWrong)

/-- 'gimmallaw13.StepApplies': WHATEVER THE INPUT: true; the input reads as it did. -/
def stepAppliesSpec : ChangeSpec := { name := "stepApplies", fn := fun _ => fun
  | [d1, d2] => { results := [.lit (.bool true)], args := [d1, d2] }
  | _ => none }
def stepAppliesRow : OpenClaim := { program := "ytoahfpabpdjkkaagreat", sum := "8fd2496544c9b11f88e8ec1436dd45ce26786b5173bc7c946aaacf76abeda379", func := "gimmal/gimmallaw13.StepApplies", spec := "stepApplies", inPlace := ["slices.overlaps[gimmal/api.Pair]", "slices.overlaps[gimmal/pages.page]"], unfollowed := true, recurses := true, apart := false }
def StepAppliesSaid : Prop := stepAppliesRow.holds Tryz.pinned (OpenSpec.ofChange stepAppliesSpec)

/-- ITS FALSE NEIGHBOUR: 'it returns false'. Refute it at one input. -/
def stepAppliesWrong : ChangeSpec := { name := "stepApplies", fn := fun _ => fun
  | [d1, d2] => { results := [.lit (.bool false)], args := [d1, d2] }
  | _ => none }
def StepAppliesWrongFalsely : Prop := stepAppliesRow.holds Tryz.pinned (OpenSpec.ofChange stepAppliesWrong)

/-- 'gimmallaw13.StepTwice': WHATEVER THE INPUT: true; the input reads as it did. -/
def stepTwiceSpec : ChangeSpec := { name := "stepTwice", fn := fun _ => fun
  | [d1, d2, d3, d4] => { results := [.lit (.bool true)], args := [d1, d2, d3, d4] }
  | _ => none }
def stepTwiceRow : OpenClaim := { program := "ytoahfpabpdjkkaagreat", sum := "8fd2496544c9b11f88e8ec1436dd45ce26786b5173bc7c946aaacf76abeda379", func := "gimmal/gimmallaw13.StepTwice", spec := "stepTwice", inPlace := ["slices.overlaps[gimmal/api.Pair]", "slices.overlaps[gimmal/pages.page]"], unfollowed := true, recurses := true, apart := false }
def StepTwiceSaid : Prop := stepTwiceRow.holds Tryz.pinned (OpenSpec.ofChange stepTwiceSpec)

/-- ITS FALSE NEIGHBOUR: 'it returns false'. Refute it at one input. -/
def stepTwiceWrong : ChangeSpec := { name := "stepTwice", fn := fun _ => fun
  | [d1, d2, d3, d4] => { results := [.lit (.bool false)], args := [d1, d2, d3, d4] }
  | _ => none }
def StepTwiceWrongFalsely : Prop := stepTwiceRow.holds Tryz.pinned (OpenSpec.ofChange stepTwiceWrong)

/- THE SECOND FORM. 'bulk': how many values and letters a reading holds, each counted each time it is reached (what is shared counts as often as it is met; a slice's spare places count too). A statement '..UptoSaid' is the law's where the arguments, and the package variables that the reading takes, are together of bulk at most 1048576: NARROWER than '..Said'. Prove '..Said' where nothing that the law and all that it calls make is longer than what came in: it says more and counts as full. Else prove '..UptoSaid'. A law counts once. -/
mutual
def uptoBulk {H : Type} : DataW H → Nat
  | .lit (.string bytes) => bytes.length + 1
  | .lit _ => 1
  | .nil => 1
  | .ptr d => uptoBulk d + 1
  | .slice elems spare => uptoBulkAll elems + uptoBulkAll spare + 1
  | .agg parts => uptoBulkAll parts + 1
  | .iface _ d => uptoBulk d + 1
  | .map entries => uptoBulkEntries entries + 1
  | .held _ => 1
def uptoBulkAll {H : Type} : List (DataW H) → Nat
  | [] => 0
  | d :: r => uptoBulk d + uptoBulkAll r
def uptoBulkEntries {H : Type} : List (Lit × DataW H) → Nat
  | [] => 0
  | x :: r => uptoBulkEntry x + uptoBulkEntries r
def uptoBulkEntry {H : Type} : Lit × DataW H → Nat
  | (.string bytes, d) => bytes.length + uptoBulk d + 1
  | (_, d) => uptoBulk d + 1
 end
def uptoSmall : (H : Type) → List (DataW H) → Bool := fun _ ds => decide (uptoBulkAll ds ≤ 1048576)
def OpenSpec.upto (s : _root_.Go.ChangeSpec) : _root_.Go.OpenSpec := { _root_.Go.OpenSpec.ofChange s with cond := some uptoSmall }

/-- 'gimmallaw13.StepConflict', WHERE WHAT IT READS IS OF BULK AT MOST 1048576: true; the input reads as it did. -/
def stepConflictUptoRow : OpenClaim := { program := "ytoahfpabpdjkkaagreat", sum := "8fd2496544c9b11f88e8ec1436dd45ce26786b5173bc7c946aaacf76abeda379", func := "gimmal/gimmallaw13.StepConflict", spec := "stepConflict", unfollowed := true, recurses := true, apart := false, narrowed := true }
def StepConflictUptoSaid : Prop := stepConflictUptoRow.holds Tryz.pinned (OpenSpec.upto stepConflictSpec)

/-- 'gimmallaw13.StepCovers', WHERE WHAT IT READS IS OF BULK AT MOST 1048576: true; the input reads as it did. -/
def stepCoversUptoRow : OpenClaim := { program := "ytoahfpabpdjkkaagreat", sum := "8fd2496544c9b11f88e8ec1436dd45ce26786b5173bc7c946aaacf76abeda379", func := "gimmal/gimmallaw13.StepCovers", spec := "stepCovers", inPlace := ["slices.overlaps[gimmal/api.Pair]", "slices.overlaps[gimmal/pages.page]"], unfollowed := true, recurses := true, apart := false, narrowed := true }
def StepCoversUptoSaid : Prop := stepCoversUptoRow.holds Tryz.pinned (OpenSpec.upto stepCoversSpec)

/-- 'gimmallaw13.StepRuns', WHERE WHAT IT READS IS OF BULK AT MOST 1048576: true; the input reads as it did. -/
def stepRunsUptoRow : OpenClaim := { program := "ytoahfpabpdjkkaagreat", sum := "8fd2496544c9b11f88e8ec1436dd45ce26786b5173bc7c946aaacf76abeda379", func := "gimmal/gimmallaw13.StepRuns", spec := "stepRuns", inPlace := ["slices.overlaps[gimmal/api.Pair]", "slices.overlaps[gimmal/pages.page]"], unfollowed := true, recurses := true, apart := false, narrowed := true }
def StepRunsUptoSaid : Prop := stepRunsUptoRow.holds Tryz.pinned (OpenSpec.upto stepRunsSpec)

/-- 'gimmallaw13.StepApplies', WHERE WHAT IT READS IS OF BULK AT MOST 1048576: true; the input reads as it did. -/
def stepAppliesUptoRow : OpenClaim := { program := "ytoahfpabpdjkkaagreat", sum := "8fd2496544c9b11f88e8ec1436dd45ce26786b5173bc7c946aaacf76abeda379", func := "gimmal/gimmallaw13.StepApplies", spec := "stepApplies", inPlace := ["slices.overlaps[gimmal/api.Pair]", "slices.overlaps[gimmal/pages.page]"], unfollowed := true, recurses := true, apart := false, narrowed := true }
def StepAppliesUptoSaid : Prop := stepAppliesUptoRow.holds Tryz.pinned (OpenSpec.upto stepAppliesSpec)

/-- 'gimmallaw13.StepTwice', WHERE WHAT IT READS IS OF BULK AT MOST 1048576: true; the input reads as it did. -/
def stepTwiceUptoRow : OpenClaim := { program := "ytoahfpabpdjkkaagreat", sum := "8fd2496544c9b11f88e8ec1436dd45ce26786b5173bc7c946aaacf76abeda379", func := "gimmal/gimmallaw13.StepTwice", spec := "stepTwice", inPlace := ["slices.overlaps[gimmal/api.Pair]", "slices.overlaps[gimmal/pages.page]"], unfollowed := true, recurses := true, apart := false, narrowed := true }
def StepTwiceUptoSaid : Prop := stepTwiceUptoRow.holds Tryz.pinned (OpenSpec.upto stepTwiceSpec)

end Rows
end Go.Proofs.YtoahfpabpdjkkaaGreat
