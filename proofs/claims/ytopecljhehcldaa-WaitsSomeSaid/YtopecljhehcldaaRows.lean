/-
  No cell of these rows narrows 'for every input' (looked for: loops, veiled, ifaces, maps, wideKeys, modest, calm, conditions, laid).
  DERIVED. THE GIVEN ROWS OF THIS SEAT. 12 by the template 'for every input the law returns true; each argument reads behind the call as it read before'; 0 by the template 'total and deterministic' (their statements: YtopecljhehcldaaTotals.lean).
  GIVEN WITH THE SEED: the statements are not yours to turn. If you find one false, say at which input.
  Laid BY PROGRAM, IN A SANDBOX (cutbox-rows.mjs): the forced cells as the released guide's own fill.sh prints them over the translation 241d39fbf2bfc6f9… (all of the seat's roots in one cut). By AI agents, Wed Nov 11 2026. No macro, syntax, notation, axiom, sorry.
-/
import Derived.Test.YtopecljhehcldaaChecked
import GoSem.Claim
import GoSem.ClaimJoined
import GoSem.ClaimMapViews
import Derived.JoinedTies
import Derived.KernelRfl
namespace Go.Proofs.Ytopecljhehcldaa
/- THE CELL 'sum', in the pinned program and in every row, IS THE sha256 OF THE DUMP (.gsa) THAT YtopecljhehcldaaProg.lean LOADS. Nothing in Lean hashes anything: it is a label: what it is worth is what the hold of that sum in a sandbox is worth. -/
noncomputable def Try.pinned : Pinned := { name := "ytopecljhehcldaa", sum := "241d39fbf2bfc6f99f2e0c238ffe3f607ed2c4918d9cf2ae582def13bdaef624", checked := Try.checked }
namespace Rows
def none {H : Type} : Left H := { results := [], args := [] }

/-- 'gimmallaw26.SchedChances': WHATEVER THE INPUT: true; the input reads as it did. -/
def schedChancesSpec : ChangeSpec := { name := "schedChances", fn := fun _ => fun
  | [d1, d2] => { results := [.lit (.bool true)], args := [d1, d2] }
  | _ => none }
def schedChancesRow : OpenClaim := { program := "ytopecljhehcldaa", sum := "241d39fbf2bfc6f99f2e0c238ffe3f607ed2c4918d9cf2ae582def13bdaef624", func := "gimmal/gimmallaw26.SchedChances", spec := "schedChances", unfollowed := true, recurses := true, apart := false }
def SchedChancesSaid : Prop := schedChancesRow.holds Try.pinned (OpenSpec.ofChange schedChancesSpec)

/-- ITS FALSE NEIGHBOUR: 'it returns false'. Refute it at one input. -/
def schedChancesWrong : ChangeSpec := { name := "schedChances", fn := fun _ => fun
  | [d1, d2] => { results := [.lit (.bool false)], args := [d1, d2] }
  | _ => none }
def SchedChancesWrongFalsely : Prop := schedChancesRow.holds Try.pinned (OpenSpec.ofChange schedChancesWrong)

/-- 'gimmallaw05.PagesScan': WHATEVER THE INPUT: true; the input reads as it did. -/
def pagesScanSpec : ChangeSpec := { name := "pagesScan", fn := fun _ => fun
  | [d1, d2, d3, d4] => { results := [.lit (.bool true)], args := [d1, d2, d3, d4] }
  | _ => none }
def pagesScanRow : OpenClaim := { program := "ytopecljhehcldaa", sum := "241d39fbf2bfc6f99f2e0c238ffe3f607ed2c4918d9cf2ae582def13bdaef624", func := "gimmal/gimmallaw05.PagesScan", spec := "pagesScan", inPlace := ["slices.overlaps[gimmal/api.Pair]", "slices.overlaps[gimmal/pages.page]"], unfollowed := true, recurses := true, apart := false }
def PagesScanSaid : Prop := pagesScanRow.holds Try.pinned (OpenSpec.ofChange pagesScanSpec)

/-- ITS FALSE NEIGHBOUR: 'it returns false'. Refute it at one input. -/
def pagesScanWrong : ChangeSpec := { name := "pagesScan", fn := fun _ => fun
  | [d1, d2, d3, d4] => { results := [.lit (.bool false)], args := [d1, d2, d3, d4] }
  | _ => none }
def PagesScanWrongFalsely : Prop := pagesScanRow.holds Try.pinned (OpenSpec.ofChange pagesScanWrong)

/-- 'gimmallaw05.PagesFew': WHATEVER THE INPUT: true; the input reads as it did. -/
def pagesFewSpec : ChangeSpec := { name := "pagesFew", fn := fun _ => fun
  | [d] => { results := [.lit (.bool true)], args := [d] }
  | _ => none }
def pagesFewRow : OpenClaim := { program := "ytopecljhehcldaa", sum := "241d39fbf2bfc6f99f2e0c238ffe3f607ed2c4918d9cf2ae582def13bdaef624", func := "gimmal/gimmallaw05.PagesFew", spec := "pagesFew", inPlace := ["slices.overlaps[gimmal/api.Pair]", "slices.overlaps[gimmal/pages.page]"], unfollowed := true, recurses := true, apart := false }
def PagesFewSaid : Prop := pagesFewRow.holds Try.pinned (OpenSpec.ofChange pagesFewSpec)

/-- ITS FALSE NEIGHBOUR: 'it returns false'. Refute it at one input. -/
def pagesFewWrong : ChangeSpec := { name := "pagesFew", fn := fun _ => fun
  | [d] => { results := [.lit (.bool false)], args := [d] }
  | _ => none }
def PagesFewWrongFalsely : Prop := pagesFewRow.holds Try.pinned (OpenSpec.ofChange pagesFewWrong)

/-- 'gimmallaw05.PagesOrder': WHATEVER THE INPUT: true; the input reads as it did. -/
def pagesOrderSpec : ChangeSpec := { name := "pagesOrder", fn := fun _ => fun
  | [d1, d2] => { results := [.lit (.bool true)], args := [d1, d2] }
  | _ => none }
def pagesOrderRow : OpenClaim := { program := "ytopecljhehcldaa", sum := "241d39fbf2bfc6f99f2e0c238ffe3f607ed2c4918d9cf2ae582def13bdaef624", func := "gimmal/gimmallaw05.PagesOrder", spec := "pagesOrder", inPlace := ["slices.overlaps[gimmal/api.Pair]", "slices.overlaps[gimmal/pages.page]"], unfollowed := true, recurses := true, apart := false }
def PagesOrderSaid : Prop := pagesOrderRow.holds Try.pinned (OpenSpec.ofChange pagesOrderSpec)

/-- ITS FALSE NEIGHBOUR: 'it returns false'. Refute it at one input. -/
def pagesOrderWrong : ChangeSpec := { name := "pagesOrder", fn := fun _ => fun
  | [d1, d2] => { results := [.lit (.bool false)], args := [d1, d2] }
  | _ => none }
def PagesOrderWrongFalsely : Prop := pagesOrderRow.holds Try.pinned (OpenSpec.ofChange pagesOrderWrong)

/-- 'gimmallaw05.PagesPlay': WHATEVER THE INPUT: true; the input reads as it did. -/
def pagesPlaySpec : ChangeSpec := { name := "pagesPlay", fn := fun _ => fun
  | [d] => { results := [.lit (.bool true)], args := [d] }
  | _ => none }
def pagesPlayRow : OpenClaim := { program := "ytopecljhehcldaa", sum := "241d39fbf2bfc6f99f2e0c238ffe3f607ed2c4918d9cf2ae582def13bdaef624", func := "gimmal/gimmallaw05.PagesPlay", spec := "pagesPlay", inPlace := ["slices.overlaps[gimmal/api.Pair]", "slices.overlaps[gimmal/pages.page]"], unfollowed := true, recurses := true, apart := false }
def PagesPlaySaid : Prop := pagesPlayRow.holds Try.pinned (OpenSpec.ofChange pagesPlaySpec)

/-- ITS FALSE NEIGHBOUR: 'it returns false'. Refute it at one input. -/
def pagesPlayWrong : ChangeSpec := { name := "pagesPlay", fn := fun _ => fun
  | [d] => { results := [.lit (.bool false)], args := [d] }
  | _ => none }
def PagesPlayWrongFalsely : Prop := pagesPlayRow.holds Try.pinned (OpenSpec.ofChange pagesPlayWrong)

/-- 'gimmallaw05.PagesNone': WHATEVER THE INPUT: true; the input reads as it did. -/
def pagesNoneSpec : ChangeSpec := { name := "pagesNone", fn := fun _ => fun
  | [d1, d2] => { results := [.lit (.bool true)], args := [d1, d2] }
  | _ => none }
def pagesNoneRow : OpenClaim := { program := "ytopecljhehcldaa", sum := "241d39fbf2bfc6f99f2e0c238ffe3f607ed2c4918d9cf2ae582def13bdaef624", func := "gimmal/gimmallaw05.PagesNone", spec := "pagesNone", inPlace := ["slices.overlaps[gimmal/api.Pair]", "slices.overlaps[gimmal/pages.page]"], unfollowed := true, recurses := true, apart := false }
def PagesNoneSaid : Prop := pagesNoneRow.holds Try.pinned (OpenSpec.ofChange pagesNoneSpec)

/-- ITS FALSE NEIGHBOUR: 'it returns false'. Refute it at one input. -/
def pagesNoneWrong : ChangeSpec := { name := "pagesNone", fn := fun _ => fun
  | [d1, d2] => { results := [.lit (.bool false)], args := [d1, d2] }
  | _ => none }
def PagesNoneWrongFalsely : Prop := pagesNoneRow.holds Try.pinned (OpenSpec.ofChange pagesNoneWrong)

/-- 'gimmallaw03.DiskLasts': WHATEVER THE INPUT: true; the input reads as it did. -/
def diskLastsSpec : ChangeSpec := { name := "diskLasts", fn := fun _ => fun
  | [d1, d2, d3, d4, d5] => { results := [.lit (.bool true)], args := [d1, d2, d3, d4, d5] }
  | _ => none }
def diskLastsRow : OpenClaim := { program := "ytopecljhehcldaa", sum := "241d39fbf2bfc6f99f2e0c238ffe3f607ed2c4918d9cf2ae582def13bdaef624", func := "gimmal/gimmallaw03.DiskLasts", spec := "diskLasts", unfollowed := true, recurses := true, apart := false }
def DiskLastsSaid : Prop := diskLastsRow.holds Try.pinned (OpenSpec.ofChange diskLastsSpec)

/-- ITS FALSE NEIGHBOUR: 'it returns false'. Refute it at one input. -/
def diskLastsWrong : ChangeSpec := { name := "diskLasts", fn := fun _ => fun
  | [d1, d2, d3, d4, d5] => { results := [.lit (.bool false)], args := [d1, d2, d3, d4, d5] }
  | _ => none }
def DiskLastsWrongFalsely : Prop := diskLastsRow.holds Try.pinned (OpenSpec.ofChange diskLastsWrong)

/-- 'gimmallaw03.DiskWhole': WHATEVER THE INPUT: true; the input reads as it did. -/
def diskWholeSpec : ChangeSpec := { name := "diskWhole", fn := fun _ => fun
  | [d1, d2] => { results := [.lit (.bool true)], args := [d1, d2] }
  | _ => none }
def diskWholeRow : OpenClaim := { program := "ytopecljhehcldaa", sum := "241d39fbf2bfc6f99f2e0c238ffe3f607ed2c4918d9cf2ae582def13bdaef624", func := "gimmal/gimmallaw03.DiskWhole", spec := "diskWhole", unfollowed := true, recurses := true, apart := false }
def DiskWholeSaid : Prop := diskWholeRow.holds Try.pinned (OpenSpec.ofChange diskWholeSpec)

/-- ITS FALSE NEIGHBOUR: 'it returns false'. Refute it at one input. -/
def diskWholeWrong : ChangeSpec := { name := "diskWhole", fn := fun _ => fun
  | [d1, d2] => { results := [.lit (.bool false)], args := [d1, d2] }
  | _ => none }
def DiskWholeWrongFalsely : Prop := diskWholeRow.holds Try.pinned (OpenSpec.ofChange diskWholeWrong)

/-- 'gimmallaw03.DiskTwice': WHATEVER THE INPUT: true; the input reads as it did. -/
def diskTwiceSpec : ChangeSpec := { name := "diskTwice", fn := fun _ => fun
  | [d1, d2, d3] => { results := [.lit (.bool true)], args := [d1, d2, d3] }
  | _ => none }
def diskTwiceRow : OpenClaim := { program := "ytopecljhehcldaa", sum := "241d39fbf2bfc6f99f2e0c238ffe3f607ed2c4918d9cf2ae582def13bdaef624", func := "gimmal/gimmallaw03.DiskTwice", spec := "diskTwice", inPlace := ["maps.clone"], unfollowed := true, recurses := true, apart := false }
def DiskTwiceSaid : Prop := diskTwiceRow.holds Try.pinned (OpenSpec.ofChange diskTwiceSpec)

/-- ITS FALSE NEIGHBOUR: 'it returns false'. Refute it at one input. -/
def diskTwiceWrong : ChangeSpec := { name := "diskTwice", fn := fun _ => fun
  | [d1, d2, d3] => { results := [.lit (.bool false)], args := [d1, d2, d3] }
  | _ => none }
def DiskTwiceWrongFalsely : Prop := diskTwiceRow.holds Try.pinned (OpenSpec.ofChange diskTwiceWrong)

/-- 'gimmallaw03.DiskPlays': WHATEVER THE INPUT: true; the input reads as it did. -/
def diskPlaysSpec : ChangeSpec := { name := "diskPlays", fn := fun _ => fun
  | [d1, d2] => { results := [.lit (.bool true)], args := [d1, d2] }
  | _ => none }
def diskPlaysRow : OpenClaim := { program := "ytopecljhehcldaa", sum := "241d39fbf2bfc6f99f2e0c238ffe3f607ed2c4918d9cf2ae582def13bdaef624", func := "gimmal/gimmallaw03.DiskPlays", spec := "diskPlays", inPlace := ["maps.clone"], unfollowed := true, recurses := true, apart := false }
def DiskPlaysSaid : Prop := diskPlaysRow.holds Try.pinned (OpenSpec.ofChange diskPlaysSpec)

/-- ITS FALSE NEIGHBOUR: 'it returns false'. Refute it at one input. -/
def diskPlaysWrong : ChangeSpec := { name := "diskPlays", fn := fun _ => fun
  | [d1, d2] => { results := [.lit (.bool false)], args := [d1, d2] }
  | _ => none }
def DiskPlaysWrongFalsely : Prop := diskPlaysRow.holds Try.pinned (OpenSpec.ofChange diskPlaysWrong)

/-- 'gimmallaw19.WaitsSome': WHATEVER THE INPUT: true; the input reads as it did. -/
def waitsSomeSpec : ChangeSpec := { name := "waitsSome", fn := fun _ => fun
  | [d] => { results := [.lit (.bool true)], args := [d] }
  | _ => none }
def waitsSomeRow : OpenClaim := { program := "ytopecljhehcldaa", sum := "241d39fbf2bfc6f99f2e0c238ffe3f607ed2c4918d9cf2ae582def13bdaef624", func := "gimmal/gimmallaw19.WaitsSome", spec := "waitsSome", unfollowed := true, recurses := true, apart := false }
def WaitsSomeSaid : Prop := waitsSomeRow.holds Try.pinned (OpenSpec.ofChange waitsSomeSpec)

/-- ITS FALSE NEIGHBOUR: 'it returns false'. Refute it at one input. -/
def waitsSomeWrong : ChangeSpec := { name := "waitsSome", fn := fun _ => fun
  | [d] => { results := [.lit (.bool false)], args := [d] }
  | _ => none }
def WaitsSomeWrongFalsely : Prop := waitsSomeRow.holds Try.pinned (OpenSpec.ofChange waitsSomeWrong)

/-- 'gimmallaw19.WaitsPlays': WHATEVER THE INPUT: true; the input reads as it did. -/
def waitsPlaysSpec : ChangeSpec := { name := "waitsPlays", fn := fun _ => fun
  | [d] => { results := [.lit (.bool true)], args := [d] }
  | _ => none }
def waitsPlaysRow : OpenClaim := { program := "ytopecljhehcldaa", sum := "241d39fbf2bfc6f99f2e0c238ffe3f607ed2c4918d9cf2ae582def13bdaef624", func := "gimmal/gimmallaw19.WaitsPlays", spec := "waitsPlays", unfollowed := true, recurses := true, apart := false }
def WaitsPlaysSaid : Prop := waitsPlaysRow.holds Try.pinned (OpenSpec.ofChange waitsPlaysSpec)

/-- ITS FALSE NEIGHBOUR: 'it returns false'. Refute it at one input. -/
def waitsPlaysWrong : ChangeSpec := { name := "waitsPlays", fn := fun _ => fun
  | [d] => { results := [.lit (.bool false)], args := [d] }
  | _ => none }
def WaitsPlaysWrongFalsely : Prop := waitsPlaysRow.holds Try.pinned (OpenSpec.ofChange waitsPlaysWrong)

/- THE SECOND FORM. 'bulk': how many values and letters a reading holds, each counted each time it is reached (what is shared counts as often as it is met; a slice's spare places count too). A statement '..UptoSaid' is the law's where the arguments, and the package variables that the reading takes, are together of bulk at most 1048576: NARROWER than '..Said'. Prove '..Said' where nothing that the law and all that it calls make is longer than what came in: it says more and counts as full. Else prove '..UptoSaid'. A law counts once. -/
mutual
def uptoBulk {H : Type} : DataW H → Nat
  | .lit (.string bytes) => bytes.length + 1
  | .lit _ => 1
  | .nil => 1
  | .ptr d => uptoBulk d + 1
  | .slice elems spare => uptoBulkAll elems + uptoBulkAll spare + 1
  | .agg parts => uptoBulkAll parts + 1
  | .iface _ d => uptoBulk d + 1
  | .map entries => uptoBulkEntries entries + 1
  | .held _ => 1
def uptoBulkAll {H : Type} : List (DataW H) → Nat
  | [] => 0
  | d :: r => uptoBulk d + uptoBulkAll r
def uptoBulkEntries {H : Type} : List (Lit × DataW H) → Nat
  | [] => 0
  | x :: r => uptoBulkEntry x + uptoBulkEntries r
def uptoBulkEntry {H : Type} : Lit × DataW H → Nat
  | (.string bytes, d) => bytes.length + uptoBulk d + 1
  | (_, d) => uptoBulk d + 1
 end
def uptoSmall : (H : Type) → List (DataW H) → Bool := fun _ ds => decide (uptoBulkAll ds ≤ 1048576)
def OpenSpec.upto (s : _root_.Go.ChangeSpec) : _root_.Go.OpenSpec := { _root_.Go.OpenSpec.ofChange s with cond := some uptoSmall }

/-- 'gimmallaw26.SchedChances', WHERE WHAT IT READS IS OF BULK AT MOST 1048576: true; the input reads as it did. -/
def schedChancesUptoRow : OpenClaim := { program := "ytopecljhehcldaa", sum := "241d39fbf2bfc6f99f2e0c238ffe3f607ed2c4918d9cf2ae582def13bdaef624", func := "gimmal/gimmallaw26.SchedChances", spec := "schedChances", unfollowed := true, recurses := true, apart := false, narrowed := true }
def SchedChancesUptoSaid : Prop := schedChancesUptoRow.holds Try.pinned (OpenSpec.upto schedChancesSpec)

/-- 'gimmallaw05.PagesScan', WHERE WHAT IT READS IS OF BULK AT MOST 1048576: true; the input reads as it did. -/
def pagesScanUptoRow : OpenClaim := { program := "ytopecljhehcldaa", sum := "241d39fbf2bfc6f99f2e0c238ffe3f607ed2c4918d9cf2ae582def13bdaef624", func := "gimmal/gimmallaw05.PagesScan", spec := "pagesScan", inPlace := ["slices.overlaps[gimmal/api.Pair]", "slices.overlaps[gimmal/pages.page]"], unfollowed := true, recurses := true, apart := false, narrowed := true }
def PagesScanUptoSaid : Prop := pagesScanUptoRow.holds Try.pinned (OpenSpec.upto pagesScanSpec)

/-- 'gimmallaw05.PagesFew', WHERE WHAT IT READS IS OF BULK AT MOST 1048576: true; the input reads as it did. -/
def pagesFewUptoRow : OpenClaim := { program := "ytopecljhehcldaa", sum := "241d39fbf2bfc6f99f2e0c238ffe3f607ed2c4918d9cf2ae582def13bdaef624", func := "gimmal/gimmallaw05.PagesFew", spec := "pagesFew", inPlace := ["slices.overlaps[gimmal/api.Pair]", "slices.overlaps[gimmal/pages.page]"], unfollowed := true, recurses := true, apart := false, narrowed := true }
def PagesFewUptoSaid : Prop := pagesFewUptoRow.holds Try.pinned (OpenSpec.upto pagesFewSpec)

/-- 'gimmallaw05.PagesOrder', WHERE WHAT IT READS IS OF BULK AT MOST 1048576: true; the input reads as it did. -/
def pagesOrderUptoRow : OpenClaim := { program := "ytopecljhehcldaa", sum := "241d39fbf2bfc6f99f2e0c238ffe3f607ed2c4918d9cf2ae582def13bdaef624", func := "gimmal/gimmallaw05.PagesOrder", spec := "pagesOrder", inPlace := ["slices.overlaps[gimmal/api.Pair]", "slices.overlaps[gimmal/pages.page]"], unfollowed := true, recurses := true, apart := false, narrowed := true }
def PagesOrderUptoSaid : Prop := pagesOrderUptoRow.holds Try.pinned (OpenSpec.upto pagesOrderSpec)

/-- 'gimmallaw05.PagesPlay', WHERE WHAT IT READS IS OF BULK AT MOST 1048576: true; the input reads as it did. -/
def pagesPlayUptoRow : OpenClaim := { program := "ytopecljhehcldaa", sum := "241d39fbf2bfc6f99f2e0c238ffe3f607ed2c4918d9cf2ae582def13bdaef624", func := "gimmal/gimmallaw05.PagesPlay", spec := "pagesPlay", inPlace := ["slices.overlaps[gimmal/api.Pair]", "slices.overlaps[gimmal/pages.page]"], unfollowed := true, recurses := true, apart := false, narrowed := true }
def PagesPlayUptoSaid : Prop := pagesPlayUptoRow.holds Try.pinned (OpenSpec.upto pagesPlaySpec)

/-- 'gimmallaw05.PagesNone', WHERE WHAT IT READS IS OF BULK AT MOST 1048576: true; the input reads as it did. -/
def pagesNoneUptoRow : OpenClaim := { program := "ytopecljhehcldaa", sum := "241d39fbf2bfc6f99f2e0c238ffe3f607ed2c4918d9cf2ae582def13bdaef624", func := "gimmal/gimmallaw05.PagesNone", spec := "pagesNone", inPlace := ["slices.overlaps[gimmal/api.Pair]", "slices.overlaps[gimmal/pages.page]"], unfollowed := true, recurses := true, apart := false, narrowed := true }
def PagesNoneUptoSaid : Prop := pagesNoneUptoRow.holds Try.pinned (OpenSpec.upto pagesNoneSpec)

/-- 'gimmallaw03.DiskLasts', WHERE WHAT IT READS IS OF BULK AT MOST 1048576: true; the input reads as it did. -/
def diskLastsUptoRow : OpenClaim := { program := "ytopecljhehcldaa", sum := "241d39fbf2bfc6f99f2e0c238ffe3f607ed2c4918d9cf2ae582def13bdaef624", func := "gimmal/gimmallaw03.DiskLasts", spec := "diskLasts", unfollowed := true, recurses := true, apart := false, narrowed := true }
def DiskLastsUptoSaid : Prop := diskLastsUptoRow.holds Try.pinned (OpenSpec.upto diskLastsSpec)

/-- 'gimmallaw03.DiskWhole', WHERE WHAT IT READS IS OF BULK AT MOST 1048576: true; the input reads as it did. -/
def diskWholeUptoRow : OpenClaim := { program := "ytopecljhehcldaa", sum := "241d39fbf2bfc6f99f2e0c238ffe3f607ed2c4918d9cf2ae582def13bdaef624", func := "gimmal/gimmallaw03.DiskWhole", spec := "diskWhole", unfollowed := true, recurses := true, apart := false, narrowed := true }
def DiskWholeUptoSaid : Prop := diskWholeUptoRow.holds Try.pinned (OpenSpec.upto diskWholeSpec)

/-- 'gimmallaw03.DiskTwice', WHERE WHAT IT READS IS OF BULK AT MOST 1048576: true; the input reads as it did. -/
def diskTwiceUptoRow : OpenClaim := { program := "ytopecljhehcldaa", sum := "241d39fbf2bfc6f99f2e0c238ffe3f607ed2c4918d9cf2ae582def13bdaef624", func := "gimmal/gimmallaw03.DiskTwice", spec := "diskTwice", inPlace := ["maps.clone"], unfollowed := true, recurses := true, apart := false, narrowed := true }
def DiskTwiceUptoSaid : Prop := diskTwiceUptoRow.holds Try.pinned (OpenSpec.upto diskTwiceSpec)

/-- 'gimmallaw03.DiskPlays', WHERE WHAT IT READS IS OF BULK AT MOST 1048576: true; the input reads as it did. -/
def diskPlaysUptoRow : OpenClaim := { program := "ytopecljhehcldaa", sum := "241d39fbf2bfc6f99f2e0c238ffe3f607ed2c4918d9cf2ae582def13bdaef624", func := "gimmal/gimmallaw03.DiskPlays", spec := "diskPlays", inPlace := ["maps.clone"], unfollowed := true, recurses := true, apart := false, narrowed := true }
def DiskPlaysUptoSaid : Prop := diskPlaysUptoRow.holds Try.pinned (OpenSpec.upto diskPlaysSpec)

/-- 'gimmallaw19.WaitsSome', WHERE WHAT IT READS IS OF BULK AT MOST 1048576: true; the input reads as it did. -/
def waitsSomeUptoRow : OpenClaim := { program := "ytopecljhehcldaa", sum := "241d39fbf2bfc6f99f2e0c238ffe3f607ed2c4918d9cf2ae582def13bdaef624", func := "gimmal/gimmallaw19.WaitsSome", spec := "waitsSome", unfollowed := true, recurses := true, apart := false, narrowed := true }
def WaitsSomeUptoSaid : Prop := waitsSomeUptoRow.holds Try.pinned (OpenSpec.upto waitsSomeSpec)

/-- 'gimmallaw19.WaitsPlays', WHERE WHAT IT READS IS OF BULK AT MOST 1048576: true; the input reads as it did. -/
def waitsPlaysUptoRow : OpenClaim := { program := "ytopecljhehcldaa", sum := "241d39fbf2bfc6f99f2e0c238ffe3f607ed2c4918d9cf2ae582def13bdaef624", func := "gimmal/gimmallaw19.WaitsPlays", spec := "waitsPlays", unfollowed := true, recurses := true, apart := false, narrowed := true }
def WaitsPlaysUptoSaid : Prop := waitsPlaysUptoRow.holds Try.pinned (OpenSpec.upto waitsPlaysSpec)

end Rows
end Go.Proofs.Ytopecljhehcldaa
