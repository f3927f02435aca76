/-
  No cell of these rows narrows 'for every input' (looked for: loops, veiled, ifaces, maps, wideKeys, modest, calm, conditions, laid).
  DERIVED. THE GIVEN ROWS OF THIS SEAT. 17 by the template 'for every input the law returns true; each argument reads behind the call as it read before'; 0 by the template 'total and deterministic' (their statements: YtlpgdngcgbeegaaGreatTotals.lean).
  GIVEN WITH THE SEED: the statements are not yours to turn. If you find one false, say at which input.
  Laid BY PROGRAM, IN A SANDBOX (cutbox-rows.mjs): the forced cells as the released guide's own fill.sh prints them over the translation 829e3e4478cc1cae… (all of the seat's roots in one cut). By AI agents, Wed Nov 11 2026. No macro, syntax, notation, axiom, sorry.
-/
import Derived.Test.YtlpgdngcgbeegaaGreatChecked
import GoSem.Claim
import GoSem.ClaimJoined
import GoSem.ClaimMapViews
import Derived.JoinedTies
import Derived.KernelRfl
namespace Go.Proofs.YtlpgdngcgbeegaaGreat
/- THE CELL 'sum', in the pinned program and in every row, IS THE sha256 OF THE DUMP (.gsa) THAT YtlpgdngcgbeegaaGreatProg.lean LOADS. Nothing in Lean hashes anything: it is a label: what it is worth is what the hold of that sum in a sandbox is worth. -/
noncomputable def Tryz.pinned : Pinned := { name := "ytlpgdngcgbeegaagreat", sum := "829e3e4478cc1caef0c23da0d9ed10abcd20bba362b303345ef0d7cace66d6b4", checked := Tryz.checked }
namespace Rows
def none {H : Type} : Left H := { results := [], args := [] }

/-- 'gimmallaw19.WaitsBlockers': WHATEVER THE INPUT: true; the input reads as it did. -/
def waitsBlockersSpec : ChangeSpec := { name := "waitsBlockers", fn := fun _ => fun
  | [d1, d2, d3] => { results := [.lit (.bool true)], args := [d1, d2, d3] }
  | _ => none }
def waitsBlockersRow : OpenClaim := { program := "ytlpgdngcgbeegaagreat", sum := "829e3e4478cc1caef0c23da0d9ed10abcd20bba362b303345ef0d7cace66d6b4", func := "gimmal/gimmallaw19.WaitsBlockers", spec := "waitsBlockers", unfollowed := true, recurses := true, plainKeys := false, apart := false }
def WaitsBlockersSaid : Prop := waitsBlockersRow.holds Tryz.pinned (OpenSpec.ofChange waitsBlockersSpec)

/-- ITS FALSE NEIGHBOUR: 'it returns false'. Refute it at one input. -/
def waitsBlockersWrong : ChangeSpec := { name := "waitsBlockers", fn := fun _ => fun
  | [d1, d2, d3] => { results := [.lit (.bool false)], args := [d1, d2, d3] }
  | _ => none }
def WaitsBlockersWrongFalsely : Prop := waitsBlockersRow.holds Tryz.pinned (OpenSpec.ofChange waitsBlockersWrong)

/-- 'gimmallaw19.WaitsLess': WHATEVER THE INPUT: true; the input reads as it did. -/
def waitsLessSpec : ChangeSpec := { name := "waitsLess", fn := fun _ => fun
  | [d1, d2, d3] => { results := [.lit (.bool true)], args := [d1, d2, d3] }
  | _ => none }
def waitsLessRow : OpenClaim := { program := "ytlpgdngcgbeegaagreat", sum := "829e3e4478cc1caef0c23da0d9ed10abcd20bba362b303345ef0d7cace66d6b4", func := "gimmal/gimmallaw19.WaitsLess", spec := "waitsLess", unfollowed := true, recurses := true, plainKeys := false, apart := false }
def WaitsLessSaid : Prop := waitsLessRow.holds Tryz.pinned (OpenSpec.ofChange waitsLessSpec)

/-- ITS FALSE NEIGHBOUR: 'it returns false'. Refute it at one input. -/
def waitsLessWrong : ChangeSpec := { name := "waitsLess", fn := fun _ => fun
  | [d1, d2, d3] => { results := [.lit (.bool false)], args := [d1, d2, d3] }
  | _ => none }
def WaitsLessWrongFalsely : Prop := waitsLessRow.holds Tryz.pinned (OpenSpec.ofChange waitsLessWrong)

/-- 'gimmallaw16.RsgArcs': WHATEVER THE INPUT: true; the input reads as it did. -/
def rsgArcsSpec : ChangeSpec := { name := "rsgArcs", fn := fun _ => fun
  | [d1, d2] => { results := [.lit (.bool true)], args := [d1, d2] }
  | _ => none }
def rsgArcsRow : OpenClaim := { program := "ytlpgdngcgbeegaagreat", sum := "829e3e4478cc1caef0c23da0d9ed10abcd20bba362b303345ef0d7cace66d6b4", func := "gimmal/gimmallaw16.RsgArcs", spec := "rsgArcs", unfollowed := true, recurses := true, plainKeys := false, apart := false }
def RsgArcsSaid : Prop := rsgArcsRow.holds Tryz.pinned (OpenSpec.ofChange rsgArcsSpec)

/-- ITS FALSE NEIGHBOUR: 'it returns false'. Refute it at one input. -/
def rsgArcsWrong : ChangeSpec := { name := "rsgArcs", fn := fun _ => fun
  | [d1, d2] => { results := [.lit (.bool false)], args := [d1, d2] }
  | _ => none }
def RsgArcsWrongFalsely : Prop := rsgArcsRow.holds Tryz.pinned (OpenSpec.ofChange rsgArcsWrong)

/-- 'gimmallaw16.RsgFiner': WHATEVER THE INPUT: true; the input reads as it did. -/
def rsgFinerSpec : ChangeSpec := { name := "rsgFiner", fn := fun _ => fun
  | [d1, d2, d3, d4] => { results := [.lit (.bool true)], args := [d1, d2, d3, d4] }
  | _ => none }
def rsgFinerRow : OpenClaim := { program := "ytlpgdngcgbeegaagreat", sum := "829e3e4478cc1caef0c23da0d9ed10abcd20bba362b303345ef0d7cace66d6b4", func := "gimmal/gimmallaw16.RsgFiner", spec := "rsgFiner", unfollowed := true, recurses := true, plainKeys := false, apart := false }
def RsgFinerSaid : Prop := rsgFinerRow.holds Tryz.pinned (OpenSpec.ofChange rsgFinerSpec)

/-- ITS FALSE NEIGHBOUR: 'it returns false'. Refute it at one input. -/
def rsgFinerWrong : ChangeSpec := { name := "rsgFiner", fn := fun _ => fun
  | [d1, d2, d3, d4] => { results := [.lit (.bool false)], args := [d1, d2, d3, d4] }
  | _ => none }
def RsgFinerWrongFalsely : Prop := rsgFinerRow.holds Tryz.pinned (OpenSpec.ofChange rsgFinerWrong)

/-- 'gimmallaw16.RsgNext': WHATEVER THE INPUT: true; the input reads as it did. -/
def rsgNextSpec : ChangeSpec := { name := "rsgNext", fn := fun _ => fun
  | [d1, d2, d3] => { results := [.lit (.bool true)], args := [d1, d2, d3] }
  | _ => none }
def rsgNextRow : OpenClaim := { program := "ytlpgdngcgbeegaagreat", sum := "829e3e4478cc1caef0c23da0d9ed10abcd20bba362b303345ef0d7cace66d6b4", func := "gimmal/gimmallaw16.RsgNext", spec := "rsgNext", unfollowed := true, recurses := true, plainKeys := false, apart := false }
def RsgNextSaid : Prop := rsgNextRow.holds Tryz.pinned (OpenSpec.ofChange rsgNextSpec)

/-- ITS FALSE NEIGHBOUR: 'it returns false'. Refute it at one input. -/
def rsgNextWrong : ChangeSpec := { name := "rsgNext", fn := fun _ => fun
  | [d1, d2, d3] => { results := [.lit (.bool false)], args := [d1, d2, d3] }
  | _ => none }
def RsgNextWrongFalsely : Prop := rsgNextRow.holds Tryz.pinned (OpenSpec.ofChange rsgNextWrong)

/-- 'gimmallaw16.RsgBack': WHATEVER THE INPUT: true; the input reads as it did. -/
def rsgBackSpec : ChangeSpec := { name := "rsgBack", fn := fun _ => fun
  | [d1, d2, d3] => { results := [.lit (.bool true)], args := [d1, d2, d3] }
  | _ => none }
def rsgBackRow : OpenClaim := { program := "ytlpgdngcgbeegaagreat", sum := "829e3e4478cc1caef0c23da0d9ed10abcd20bba362b303345ef0d7cace66d6b4", func := "gimmal/gimmallaw16.RsgBack", spec := "rsgBack", unfollowed := true, recurses := true, plainKeys := false, apart := false }
def RsgBackSaid : Prop := rsgBackRow.holds Tryz.pinned (OpenSpec.ofChange rsgBackSpec)

/-- ITS FALSE NEIGHBOUR: 'it returns false'. Refute it at one input. -/
def rsgBackWrong : ChangeSpec := { name := "rsgBack", fn := fun _ => fun
  | [d1, d2, d3] => { results := [.lit (.bool false)], args := [d1, d2, d3] }
  | _ => none }
def RsgBackWrongFalsely : Prop := rsgBackRow.holds Tryz.pinned (OpenSpec.ofChange rsgBackWrong)

/-- 'gimmallaw16.RsgOrders': WHATEVER THE INPUT: true; the input reads as it did. -/
def rsgOrdersSpec : ChangeSpec := { name := "rsgOrders", fn := fun _ => fun
  | [d1, d2] => { results := [.lit (.bool true)], args := [d1, d2] }
  | _ => none }
def rsgOrdersRow : OpenClaim := { program := "ytlpgdngcgbeegaagreat", sum := "829e3e4478cc1caef0c23da0d9ed10abcd20bba362b303345ef0d7cace66d6b4", func := "gimmal/gimmallaw16.RsgOrders", spec := "rsgOrders", unfollowed := true, recurses := true, plainKeys := false, apart := false }
def RsgOrdersSaid : Prop := rsgOrdersRow.holds Tryz.pinned (OpenSpec.ofChange rsgOrdersSpec)

/-- ITS FALSE NEIGHBOUR: 'it returns false'. Refute it at one input. -/
def rsgOrdersWrong : ChangeSpec := { name := "rsgOrders", fn := fun _ => fun
  | [d1, d2] => { results := [.lit (.bool false)], args := [d1, d2] }
  | _ => none }
def RsgOrdersWrongFalsely : Prop := rsgOrdersRow.holds Tryz.pinned (OpenSpec.ofChange rsgOrdersWrong)

/-- 'gimmallaw17.WitnessFair': WHATEVER THE INPUT: true; the input reads as it did. -/
def witnessFairSpec : ChangeSpec := { name := "witnessFair", fn := fun _ => fun
  | [d1, d2, d3] => { results := [.lit (.bool true)], args := [d1, d2, d3] }
  | _ => none }
def witnessFairRow : OpenClaim := { program := "ytlpgdngcgbeegaagreat", sum := "829e3e4478cc1caef0c23da0d9ed10abcd20bba362b303345ef0d7cace66d6b4", func := "gimmal/gimmallaw17.WitnessFair", spec := "witnessFair", unfollowed := true, recurses := true, plainKeys := false, apart := false }
def WitnessFairSaid : Prop := witnessFairRow.holds Tryz.pinned (OpenSpec.ofChange witnessFairSpec)

/-- ITS FALSE NEIGHBOUR: 'it returns false'. Refute it at one input. -/
def witnessFairWrong : ChangeSpec := { name := "witnessFair", fn := fun _ => fun
  | [d1, d2, d3] => { results := [.lit (.bool false)], args := [d1, d2, d3] }
  | _ => none }
def WitnessFairWrongFalsely : Prop := witnessFairRow.holds Tryz.pinned (OpenSpec.ofChange witnessFairWrong)

/-- 'gimmallaw17.WitnessSerial': WHATEVER THE INPUT: true; the input reads as it did. -/
def witnessSerialSpec : ChangeSpec := { name := "witnessSerial", fn := fun _ => fun
  | [d1, d2, d3] => { results := [.lit (.bool true)], args := [d1, d2, d3] }
  | _ => none }
def witnessSerialRow : OpenClaim := { program := "ytlpgdngcgbeegaagreat", sum := "829e3e4478cc1caef0c23da0d9ed10abcd20bba362b303345ef0d7cace66d6b4", func := "gimmal/gimmallaw17.WitnessSerial", spec := "witnessSerial", unfollowed := true, recurses := true, plainKeys := false, apart := false }
def WitnessSerialSaid : Prop := witnessSerialRow.holds Tryz.pinned (OpenSpec.ofChange witnessSerialSpec)

/-- ITS FALSE NEIGHBOUR: 'it returns false'. Refute it at one input. -/
def witnessSerialWrong : ChangeSpec := { name := "witnessSerial", fn := fun _ => fun
  | [d1, d2, d3] => { results := [.lit (.bool false)], args := [d1, d2, d3] }
  | _ => none }
def WitnessSerialWrongFalsely : Prop := witnessSerialRow.holds Tryz.pinned (OpenSpec.ofChange witnessSerialWrong)

/-- 'gimmallaw17.WitnessSearch': WHATEVER THE INPUT: true; the input reads as it did. -/
def witnessSearchSpec : ChangeSpec := { name := "witnessSearch", fn := fun _ => fun
  | [d1, d2] => { results := [.lit (.bool true)], args := [d1, d2] }
  | _ => none }
def witnessSearchRow : OpenClaim := { program := "ytlpgdngcgbeegaagreat", sum := "829e3e4478cc1caef0c23da0d9ed10abcd20bba362b303345ef0d7cace66d6b4", func := "gimmal/gimmallaw17.WitnessSearch", spec := "witnessSearch", unfollowed := true, recurses := true, plainKeys := false, apart := false }
def WitnessSearchSaid : Prop := witnessSearchRow.holds Tryz.pinned (OpenSpec.ofChange witnessSearchSpec)

/-- ITS FALSE NEIGHBOUR: 'it returns false'. Refute it at one input. -/
def witnessSearchWrong : ChangeSpec := { name := "witnessSearch", fn := fun _ => fun
  | [d1, d2] => { results := [.lit (.bool false)], args := [d1, d2] }
  | _ => none }
def WitnessSearchWrongFalsely : Prop := witnessSearchRow.holds Tryz.pinned (OpenSpec.ofChange witnessSearchWrong)

/-- 'gimmallaw17.WitnessFinds': WHATEVER THE INPUT: true; the input reads as it did. -/
def witnessFindsSpec : ChangeSpec := { name := "witnessFinds", fn := fun _ => fun
  | [d1, d2] => { results := [.lit (.bool true)], args := [d1, d2] }
  | _ => none }
def witnessFindsRow : OpenClaim := { program := "ytlpgdngcgbeegaagreat", sum := "829e3e4478cc1caef0c23da0d9ed10abcd20bba362b303345ef0d7cace66d6b4", func := "gimmal/gimmallaw17.WitnessFinds", spec := "witnessFinds", unfollowed := true, recurses := true, plainKeys := false, apart := false }
def WitnessFindsSaid : Prop := witnessFindsRow.holds Tryz.pinned (OpenSpec.ofChange witnessFindsSpec)

/-- ITS FALSE NEIGHBOUR: 'it returns false'. Refute it at one input. -/
def witnessFindsWrong : ChangeSpec := { name := "witnessFinds", fn := fun _ => fun
  | [d1, d2] => { results := [.lit (.bool false)], args := [d1, d2] }
  | _ => none }
def WitnessFindsWrongFalsely : Prop := witnessFindsRow.holds Tryz.pinned (OpenSpec.ofChange witnessFindsWrong)

/-- 'gimmallaw29.SerialClosed': WHATEVER THE INPUT: true; the input reads as it did. -/
def serialClosedSpec : ChangeSpec := { name := "serialClosed", fn := fun _ => fun
  | [d1, d2] => { results := [.lit (.bool true)], args := [d1, d2] }
  | _ => none }
def serialClosedRow : OpenClaim := { program := "ytlpgdngcgbeegaagreat", sum := "829e3e4478cc1caef0c23da0d9ed10abcd20bba362b303345ef0d7cace66d6b4", func := "gimmal/gimmallaw29.SerialClosed", spec := "serialClosed", unfollowed := true, recurses := true, plainKeys := false, apart := false }
def SerialClosedSaid : Prop := serialClosedRow.holds Tryz.pinned (OpenSpec.ofChange serialClosedSpec)

/-- ITS FALSE NEIGHBOUR: 'it returns false'. Refute it at one input. -/
def serialClosedWrong : ChangeSpec := { name := "serialClosed", fn := fun _ => fun
  | [d1, d2] => { results := [.lit (.bool false)], args := [d1, d2] }
  | _ => none }
def SerialClosedWrongFalsely : Prop := serialClosedRow.holds Tryz.pinned (OpenSpec.ofChange serialClosedWrong)

/-- 'gimmallaw29.SerialOpen': WHATEVER THE INPUT: true; the input reads as it did. -/
def serialOpenSpec : ChangeSpec := { name := "serialOpen", fn := fun _ => fun
  | [d1, d2] => { results := [.lit (.bool true)], args := [d1, d2] }
  | _ => none }
def serialOpenRow : OpenClaim := { program := "ytlpgdngcgbeegaagreat", sum := "829e3e4478cc1caef0c23da0d9ed10abcd20bba362b303345ef0d7cace66d6b4", func := "gimmal/gimmallaw29.SerialOpen", spec := "serialOpen", unfollowed := true, recurses := true, plainKeys := false, apart := false }
def SerialOpenSaid : Prop := serialOpenRow.holds Tryz.pinned (OpenSpec.ofChange serialOpenSpec)

/-- ITS FALSE NEIGHBOUR: 'it returns false'. Refute it at one input. -/
def serialOpenWrong : ChangeSpec := { name := "serialOpen", fn := fun _ => fun
  | [d1, d2] => { results := [.lit (.bool false)], args := [d1, d2] }
  | _ => none }
def SerialOpenWrongFalsely : Prop := serialOpenRow.holds Tryz.pinned (OpenSpec.ofChange serialOpenWrong)

/-- 'gimmallaw18.IncPrefix': WHATEVER THE INPUT: true; the input reads as it did. -/
def incPrefixSpec : ChangeSpec := { name := "incPrefix", fn := fun _ => fun
  | [d1, d2] => { results := [.lit (.bool true)], args := [d1, d2] }
  | _ => none }
def incPrefixRow : OpenClaim := { program := "ytlpgdngcgbeegaagreat", sum := "829e3e4478cc1caef0c23da0d9ed10abcd20bba362b303345ef0d7cace66d6b4", func := "gimmal/gimmallaw18.IncPrefix", spec := "incPrefix", unfollowed := true, recurses := true, plainKeys := false, apart := false }
def IncPrefixSaid : Prop := incPrefixRow.holds Tryz.pinned (OpenSpec.ofChange incPrefixSpec)

/-- ITS FALSE NEIGHBOUR: 'it returns false'. Refute it at one input. -/
def incPrefixWrong : ChangeSpec := { name := "incPrefix", fn := fun _ => fun
  | [d1, d2] => { results := [.lit (.bool false)], args := [d1, d2] }
  | _ => none }
def IncPrefixWrongFalsely : Prop := incPrefixRow.holds Tryz.pinned (OpenSpec.ofChange incPrefixWrong)

/-- 'gimmallaw18.IncAdds': WHATEVER THE INPUT: true; the input reads as it did. -/
def incAddsSpec : ChangeSpec := { name := "incAdds", fn := fun _ => fun
  | [d1, d2] => { results := [.lit (.bool true)], args := [d1, d2] }
  | _ => none }
def incAddsRow : OpenClaim := { program := "ytlpgdngcgbeegaagreat", sum := "829e3e4478cc1caef0c23da0d9ed10abcd20bba362b303345ef0d7cace66d6b4", func := "gimmal/gimmallaw18.IncAdds", spec := "incAdds", unfollowed := true, recurses := true, plainKeys := false, apart := false }
def IncAddsSaid : Prop := incAddsRow.holds Tryz.pinned (OpenSpec.ofChange incAddsSpec)

/-- ITS FALSE NEIGHBOUR: 'it returns false'. Refute it at one input. -/
def incAddsWrong : ChangeSpec := { name := "incAdds", fn := fun _ => fun
  | [d1, d2] => { results := [.lit (.bool false)], args := [d1, d2] }
  | _ => none }
def IncAddsWrongFalsely : Prop := incAddsRow.holds Tryz.pinned (OpenSpec.ofChange incAddsWrong)

/-- 'gimmallaw18.IncTrims': WHATEVER THE INPUT: true; the input reads as it did. -/
def incTrimsSpec : ChangeSpec := { name := "incTrims", fn := fun _ => fun
  | [d1, d2, d3, d4] => { results := [.lit (.bool true)], args := [d1, d2, d3, d4] }
  | _ => none }
def incTrimsRow : OpenClaim := { program := "ytlpgdngcgbeegaagreat", sum := "829e3e4478cc1caef0c23da0d9ed10abcd20bba362b303345ef0d7cace66d6b4", func := "gimmal/gimmallaw18.IncTrims", spec := "incTrims", unfollowed := true, recurses := true, plainKeys := false, apart := false }
def IncTrimsSaid : Prop := incTrimsRow.holds Tryz.pinned (OpenSpec.ofChange incTrimsSpec)

/-- ITS FALSE NEIGHBOUR: 'it returns false'. Refute it at one input. -/
def incTrimsWrong : ChangeSpec := { name := "incTrims", fn := fun _ => fun
  | [d1, d2, d3, d4] => { results := [.lit (.bool false)], args := [d1, d2, d3, d4] }
  | _ => none }
def IncTrimsWrongFalsely : Prop := incTrimsRow.holds Tryz.pinned (OpenSpec.ofChange incTrimsWrong)

/-- 'gimmallaw18.IncNone': WHATEVER THE INPUT: true; the input reads as it did. -/
def incNoneSpec : ChangeSpec := { name := "incNone", fn := fun _ => fun
  | [d1, d2, d3] => { results := [.lit (.bool true)], args := [d1, d2, d3] }
  | _ => none }
def incNoneRow : OpenClaim := { program := "ytlpgdngcgbeegaagreat", sum := "829e3e4478cc1caef0c23da0d9ed10abcd20bba362b303345ef0d7cace66d6b4", func := "gimmal/gimmallaw18.IncNone", spec := "incNone", unfollowed := true, recurses := true, plainKeys := false, apart := false }
def IncNoneSaid : Prop := incNoneRow.holds Tryz.pinned (OpenSpec.ofChange incNoneSpec)

/-- ITS FALSE NEIGHBOUR: 'it returns false'. Refute it at one input. -/
def incNoneWrong : ChangeSpec := { name := "incNone", fn := fun _ => fun
  | [d1, d2, d3] => { results := [.lit (.bool false)], args := [d1, d2, d3] }
  | _ => none }
def IncNoneWrongFalsely : Prop := incNoneRow.holds Tryz.pinned (OpenSpec.ofChange incNoneWrong)

/- THE SECOND FORM. 'bulk': how many values and letters a reading holds, each counted each time it is reached (what is shared counts as often as it is met; a slice's spare places count too). A statement '..UptoSaid' is the law's where the arguments, and the package variables that the reading takes, are together of bulk at most 1048576: NARROWER than '..Said'. Prove '..Said' where nothing that the law and all that it calls make is longer than what came in: it says more and counts as full. Else prove '..UptoSaid'. A law counts once. -/
mutual
def uptoBulk {H : Type} : DataW H → Nat
  | .lit (.string bytes) => bytes.length + 1
  | .lit _ => 1
  | .nil => 1
  | .ptr d => uptoBulk d + 1
  | .slice elems spare => uptoBulkAll elems + uptoBulkAll spare + 1
  | .agg parts => uptoBulkAll parts + 1
  | .iface _ d => uptoBulk d + 1
  | .map entries => uptoBulkEntries entries + 1
  | .held _ => 1
def uptoBulkAll {H : Type} : List (DataW H) → Nat
  | [] => 0
  | d :: r => uptoBulk d + uptoBulkAll r
def uptoBulkEntries {H : Type} : List (Lit × DataW H) → Nat
  | [] => 0
  | x :: r => uptoBulkEntry x + uptoBulkEntries r
def uptoBulkEntry {H : Type} : Lit × DataW H → Nat
  | (.string bytes, d) => bytes.length + uptoBulk d + 1
  | (_, d) => uptoBulk d + 1
 end
def uptoSmall : (H : Type) → List (DataW H) → Bool := fun _ ds => decide (uptoBulkAll ds ≤ 1048576)
def OpenSpec.upto (s : _root_.Go.ChangeSpec) : _root_.Go.OpenSpec := { _root_.Go.OpenSpec.ofChange s with cond := some uptoSmall }

/-- 'gimmallaw19.WaitsBlockers', WHERE WHAT IT READS IS OF BULK AT MOST 1048576: true; the input reads as it did. -/
def waitsBlockersUptoRow : OpenClaim := { program := "ytlpgdngcgbeegaagreat", sum := "829e3e4478cc1caef0c23da0d9ed10abcd20bba362b303345ef0d7cace66d6b4", func := "gimmal/gimmallaw19.WaitsBlockers", spec := "waitsBlockers", unfollowed := true, recurses := true, plainKeys := false, apart := false, narrowed := true }
def WaitsBlockersUptoSaid : Prop := waitsBlockersUptoRow.holds Tryz.pinned (OpenSpec.upto waitsBlockersSpec)

/-- 'gimmallaw19.WaitsLess', WHERE WHAT IT READS IS OF BULK AT MOST 1048576: true; the input reads as it did. -/
def waitsLessUptoRow : OpenClaim := { program := "ytlpgdngcgbeegaagreat", sum := "829e3e4478cc1caef0c23da0d9ed10abcd20bba362b303345ef0d7cace66d6b4", func := "gimmal/gimmallaw19.WaitsLess", spec := "waitsLess", unfollowed := true, recurses := true, plainKeys := false, apart := false, narrowed := true }
def WaitsLessUptoSaid : Prop := waitsLessUptoRow.holds Tryz.pinned (OpenSpec.upto waitsLessSpec)

/-- 'gimmallaw16.RsgArcs', WHERE WHAT IT READS IS OF BULK AT MOST 1048576: true; the input reads as it did. -/
def rsgArcsUptoRow : OpenClaim := { program := "ytlpgdngcgbeegaagreat", sum := "829e3e4478cc1caef0c23da0d9ed10abcd20bba362b303345ef0d7cace66d6b4", func := "gimmal/gimmallaw16.RsgArcs", spec := "rsgArcs", unfollowed := true, recurses := true, plainKeys := false, apart := false, narrowed := true }
def RsgArcsUptoSaid : Prop := rsgArcsUptoRow.holds Tryz.pinned (OpenSpec.upto rsgArcsSpec)

/-- 'gimmallaw16.RsgFiner', WHERE WHAT IT READS IS OF BULK AT MOST 1048576: true; the input reads as it did. -/
def rsgFinerUptoRow : OpenClaim := { program := "ytlpgdngcgbeegaagreat", sum := "829e3e4478cc1caef0c23da0d9ed10abcd20bba362b303345ef0d7cace66d6b4", func := "gimmal/gimmallaw16.RsgFiner", spec := "rsgFiner", unfollowed := true, recurses := true, plainKeys := false, apart := false, narrowed := true }
def RsgFinerUptoSaid : Prop := rsgFinerUptoRow.holds Tryz.pinned (OpenSpec.upto rsgFinerSpec)

/-- 'gimmallaw16.RsgNext', WHERE WHAT IT READS IS OF BULK AT MOST 1048576: true; the input reads as it did. -/
def rsgNextUptoRow : OpenClaim := { program := "ytlpgdngcgbeegaagreat", sum := "829e3e4478cc1caef0c23da0d9ed10abcd20bba362b303345ef0d7cace66d6b4", func := "gimmal/gimmallaw16.RsgNext", spec := "rsgNext", unfollowed := true, recurses := true, plainKeys := false, apart := false, narrowed := true }
def RsgNextUptoSaid : Prop := rsgNextUptoRow.holds Tryz.pinned (OpenSpec.upto rsgNextSpec)

/-- 'gimmallaw16.RsgBack', WHERE WHAT IT READS IS OF BULK AT MOST 1048576: true; the input reads as it did. -/
def rsgBackUptoRow : OpenClaim := { program := "ytlpgdngcgbeegaagreat", sum := "829e3e4478cc1caef0c23da0d9ed10abcd20bba362b303345ef0d7cace66d6b4", func := "gimmal/gimmallaw16.RsgBack", spec := "rsgBack", unfollowed := true, recurses := true, plainKeys := false, apart := false, narrowed := true }
def RsgBackUptoSaid : Prop := rsgBackUptoRow.holds Tryz.pinned (OpenSpec.upto rsgBackSpec)

/-- 'gimmallaw16.RsgOrders', WHERE WHAT IT READS IS OF BULK AT MOST 1048576: true; the input reads as it did. -/
def rsgOrdersUptoRow : OpenClaim := { program := "ytlpgdngcgbeegaagreat", sum := "829e3e4478cc1caef0c23da0d9ed10abcd20bba362b303345ef0d7cace66d6b4", func := "gimmal/gimmallaw16.RsgOrders", spec := "rsgOrders", unfollowed := true, recurses := true, plainKeys := false, apart := false, narrowed := true }
def RsgOrdersUptoSaid : Prop := rsgOrdersUptoRow.holds Tryz.pinned (OpenSpec.upto rsgOrdersSpec)

/-- 'gimmallaw17.WitnessFair', WHERE WHAT IT READS IS OF BULK AT MOST 1048576: true; the input reads as it did. -/
def witnessFairUptoRow : OpenClaim := { program := "ytlpgdngcgbeegaagreat", sum := "829e3e4478cc1caef0c23da0d9ed10abcd20bba362b303345ef0d7cace66d6b4", func := "gimmal/gimmallaw17.WitnessFair", spec := "witnessFair", unfollowed := true, recurses := true, plainKeys := false, apart := false, narrowed := true }
def WitnessFairUptoSaid : Prop := witnessFairUptoRow.holds Tryz.pinned (OpenSpec.upto witnessFairSpec)

/-- 'gimmallaw17.WitnessSerial', WHERE WHAT IT READS IS OF BULK AT MOST 1048576: true; the input reads as it did. -/
def witnessSerialUptoRow : OpenClaim := { program := "ytlpgdngcgbeegaagreat", sum := "829e3e4478cc1caef0c23da0d9ed10abcd20bba362b303345ef0d7cace66d6b4", func := "gimmal/gimmallaw17.WitnessSerial", spec := "witnessSerial", unfollowed := true, recurses := true, plainKeys := false, apart := false, narrowed := true }
def WitnessSerialUptoSaid : Prop := witnessSerialUptoRow.holds Tryz.pinned (OpenSpec.upto witnessSerialSpec)

/-- 'gimmallaw17.WitnessSearch', WHERE WHAT IT READS IS OF BULK AT MOST 1048576: true; the input reads as it did. -/
def witnessSearchUptoRow : OpenClaim := { program := "ytlpgdngcgbeegaagreat", sum := "829e3e4478cc1caef0c23da0d9ed10abcd20bba362b303345ef0d7cace66d6b4", func := "gimmal/gimmallaw17.WitnessSearch", spec := "witnessSearch", unfollowed := true, recurses := true, plainKeys := false, apart := false, narrowed := true }
def WitnessSearchUptoSaid : Prop := witnessSearchUptoRow.holds Tryz.pinned (OpenSpec.upto witnessSearchSpec)

/-- 'gimmallaw17.WitnessFinds', WHERE WHAT IT READS IS OF BULK AT MOST 1048576: true; the input reads as it did. -/
def witnessFindsUptoRow : OpenClaim := { program := "ytlpgdngcgbeegaagreat", sum := "829e3e4478cc1caef0c23da0d9ed10abcd20bba362b303345ef0d7cace66d6b4", func := "gimmal/gimmallaw17.WitnessFinds", spec := "witnessFinds", unfollowed := true, recurses := true, plainKeys := false, apart := false, narrowed := true }
def WitnessFindsUptoSaid : Prop := witnessFindsUptoRow.holds Tryz.pinned (OpenSpec.upto witnessFindsSpec)

/-- 'gimmallaw29.SerialClosed', WHERE WHAT IT READS IS OF BULK AT MOST 1048576: true; the input reads as it did. -/
def serialClosedUptoRow : OpenClaim := { program := "ytlpgdngcgbeegaagreat", sum := "829e3e4478cc1caef0c23da0d9ed10abcd20bba362b303345ef0d7cace66d6b4", func := "gimmal/gimmallaw29.SerialClosed", spec := "serialClosed", unfollowed := true, recurses := true, plainKeys := false, apart := false, narrowed := true }
def SerialClosedUptoSaid : Prop := serialClosedUptoRow.holds Tryz.pinned (OpenSpec.upto serialClosedSpec)

/-- 'gimmallaw29.SerialOpen', WHERE WHAT IT READS IS OF BULK AT MOST 1048576: true; the input reads as it did. -/
def serialOpenUptoRow : OpenClaim := { program := "ytlpgdngcgbeegaagreat", sum := "829e3e4478cc1caef0c23da0d9ed10abcd20bba362b303345ef0d7cace66d6b4", func := "gimmal/gimmallaw29.SerialOpen", spec := "serialOpen", unfollowed := true, recurses := true, plainKeys := false, apart := false, narrowed := true }
def SerialOpenUptoSaid : Prop := serialOpenUptoRow.holds Tryz.pinned (OpenSpec.upto serialOpenSpec)

/-- 'gimmallaw18.IncPrefix', WHERE WHAT IT READS IS OF BULK AT MOST 1048576: true; the input reads as it did. -/
def incPrefixUptoRow : OpenClaim := { program := "ytlpgdngcgbeegaagreat", sum := "829e3e4478cc1caef0c23da0d9ed10abcd20bba362b303345ef0d7cace66d6b4", func := "gimmal/gimmallaw18.IncPrefix", spec := "incPrefix", unfollowed := true, recurses := true, plainKeys := false, apart := false, narrowed := true }
def IncPrefixUptoSaid : Prop := incPrefixUptoRow.holds Tryz.pinned (OpenSpec.upto incPrefixSpec)

/-- 'gimmallaw18.IncAdds', WHERE WHAT IT READS IS OF BULK AT MOST 1048576: true; the input reads as it did. -/
def incAddsUptoRow : OpenClaim := { program := "ytlpgdngcgbeegaagreat", sum := "829e3e4478cc1caef0c23da0d9ed10abcd20bba362b303345ef0d7cace66d6b4", func := "gimmal/gimmallaw18.IncAdds", spec := "incAdds", unfollowed := true, recurses := true, plainKeys := false, apart := false, narrowed := true }
def IncAddsUptoSaid : Prop := incAddsUptoRow.holds Tryz.pinned (OpenSpec.upto incAddsSpec)

/-- 'gimmallaw18.IncTrims', WHERE WHAT IT READS IS OF BULK AT MOST 1048576: true; the input reads as it did. -/
def incTrimsUptoRow : OpenClaim := { program := "ytlpgdngcgbeegaagreat", sum := "829e3e4478cc1caef0c23da0d9ed10abcd20bba362b303345ef0d7cace66d6b4", func := "gimmal/gimmallaw18.IncTrims", spec := "incTrims", unfollowed := true, recurses := true, plainKeys := false, apart := false, narrowed := true }
def IncTrimsUptoSaid : Prop := incTrimsUptoRow.holds Tryz.pinned (OpenSpec.upto incTrimsSpec)

/-- 'gimmallaw18.IncNone', WHERE WHAT IT READS IS OF BULK AT MOST 1048576: true; the input reads as it did. -/
def incNoneUptoRow : OpenClaim := { program := "ytlpgdngcgbeegaagreat", sum := "829e3e4478cc1caef0c23da0d9ed10abcd20bba362b303345ef0d7cace66d6b4", func := "gimmal/gimmallaw18.IncNone", spec := "incNone", unfollowed := true, recurses := true, plainKeys := false, apart := false, narrowed := true }
def IncNoneUptoSaid : Prop := incNoneUptoRow.holds Tryz.pinned (OpenSpec.upto incNoneSpec)

end Rows
end Go.Proofs.YtlpgdngcgbeegaaGreat
