/-
  No cell of these rows narrows 'for every input' (looked for: loops, veiled, ifaces, maps, wideKeys, modest, calm, conditions, laid).
  DERIVED. THE GIVEN ROWS OF THIS SEAT. 7 by the template 'for every input the law returns true; each argument reads behind the call as it read before'; 0 by the template 'total and deterministic' (their statements: YtmmhbjbaallkfaaTotals.lean).
  GIVEN WITH THE SEED: the statements are not yours to turn. If you find one false, say at which input.
  Laid BY PROGRAM, IN A SANDBOX (cutbox-rows.mjs): the forced cells as the released guide's own fill.sh prints them over the translation 14bc0576aa62b275… (all of the seat's roots in one cut). By AI agents, Wed Nov 11 2026. No macro, syntax, notation, axiom, sorry.
-/
import Derived.Test.YtmmhbjbaallkfaaChecked
import GoSem.Claim
import GoSem.ClaimJoined
import GoSem.ClaimMapViews
import Derived.JoinedTies
import Derived.KernelRfl
namespace Go.Proofs.Ytmmhbjbaallkfaa
/- THE CELL 'sum', in the pinned program and in every row, IS THE sha256 OF THE DUMP (.gsa) THAT YtmmhbjbaallkfaaProg.lean LOADS. Nothing in Lean hashes anything: it is a label: what it is worth is what the hold of that sum in a sandbox is worth. -/
noncomputable def Try.pinned : Pinned := { name := "ytmmhbjbaallkfaa", sum := "14bc0576aa62b27592d71cf9e52d60ecbc9fd1da0b5867d1e7be4ccfe1d792d1", checked := Try.checked }
namespace Rows
def none {H : Type} : Left H := { results := [], args := [] }

/-- 'gimmallaw15.DepsOf': WHATEVER THE INPUT: true; the input reads as it did. -/
def depsOfSpec : ChangeSpec := { name := "depsOf", fn := fun _ => fun
  | [d1, d2, d3] => { results := [.lit (.bool true)], args := [d1, d2, d3] }
  | _ => none }
def depsOfRow : OpenClaim := { program := "ytmmhbjbaallkfaa", sum := "14bc0576aa62b27592d71cf9e52d60ecbc9fd1da0b5867d1e7be4ccfe1d792d1", func := "gimmal/gimmallaw15.DepsOf", spec := "depsOf", unfollowed := true, recurses := true, plainKeys := false, apart := false }
def DepsOfSaid : Prop := depsOfRow.holds Try.pinned (OpenSpec.ofChange depsOfSpec)

/-- ITS FALSE NEIGHBOUR: 'it returns false'. Refute it at one input. -/
def depsOfWrong : ChangeSpec := { name := "depsOf", fn := fun _ => fun
  | [d1, d2, d3] => { results := [.lit (.bool false)], args := [d1, d2, d3] }
  | _ => none }
def DepsOfWrongFalsely : Prop := depsOfRow.holds Try.pinned (OpenSpec.ofChange depsOfWrong)

/-- 'gimmallaw15.DepsFar': WHATEVER THE INPUT: true; the input reads as it did. -/
def depsFarSpec : ChangeSpec := { name := "depsFar", fn := fun _ => fun
  | [d1, d2] => { results := [.lit (.bool true)], args := [d1, d2] }
  | _ => none }
def depsFarRow : OpenClaim := { program := "ytmmhbjbaallkfaa", sum := "14bc0576aa62b27592d71cf9e52d60ecbc9fd1da0b5867d1e7be4ccfe1d792d1", func := "gimmal/gimmallaw15.DepsFar", spec := "depsFar", unfollowed := true, recurses := true, plainKeys := false, apart := false }
def DepsFarSaid : Prop := depsFarRow.holds Try.pinned (OpenSpec.ofChange depsFarSpec)

/-- ITS FALSE NEIGHBOUR: 'it returns false'. Refute it at one input. -/
def depsFarWrong : ChangeSpec := { name := "depsFar", fn := fun _ => fun
  | [d1, d2] => { results := [.lit (.bool false)], args := [d1, d2] }
  | _ => none }
def DepsFarWrongFalsely : Prop := depsFarRow.holds Try.pinned (OpenSpec.ofChange depsFarWrong)

/-- 'gimmallaw15.DepsTwo': WHATEVER THE INPUT: true; the input reads as it did. -/
def depsTwoSpec : ChangeSpec := { name := "depsTwo", fn := fun _ => fun
  | [d1, d2, d3] => { results := [.lit (.bool true)], args := [d1, d2, d3] }
  | _ => none }
def depsTwoRow : OpenClaim := { program := "ytmmhbjbaallkfaa", sum := "14bc0576aa62b27592d71cf9e52d60ecbc9fd1da0b5867d1e7be4ccfe1d792d1", func := "gimmal/gimmallaw15.DepsTwo", spec := "depsTwo", unfollowed := true, recurses := true, plainKeys := false, apart := false }
def DepsTwoSaid : Prop := depsTwoRow.holds Try.pinned (OpenSpec.ofChange depsTwoSpec)

/-- ITS FALSE NEIGHBOUR: 'it returns false'. Refute it at one input. -/
def depsTwoWrong : ChangeSpec := { name := "depsTwo", fn := fun _ => fun
  | [d1, d2, d3] => { results := [.lit (.bool false)], args := [d1, d2, d3] }
  | _ => none }
def DepsTwoWrongFalsely : Prop := depsTwoRow.holds Try.pinned (OpenSpec.ofChange depsTwoWrong)

/-- 'gimmallaw15.DepsAdd': WHATEVER THE INPUT: true; the input reads as it did. -/
def depsAddSpec : ChangeSpec := { name := "depsAdd", fn := fun _ => fun
  | [d1, d2] => { results := [.lit (.bool true)], args := [d1, d2] }
  | _ => none }
def depsAddRow : OpenClaim := { program := "ytmmhbjbaallkfaa", sum := "14bc0576aa62b27592d71cf9e52d60ecbc9fd1da0b5867d1e7be4ccfe1d792d1", func := "gimmal/gimmallaw15.DepsAdd", spec := "depsAdd", unfollowed := true, recurses := true, plainKeys := false, apart := false }
def DepsAddSaid : Prop := depsAddRow.holds Try.pinned (OpenSpec.ofChange depsAddSpec)

/-- ITS FALSE NEIGHBOUR: 'it returns false'. Refute it at one input. -/
def depsAddWrong : ChangeSpec := { name := "depsAdd", fn := fun _ => fun
  | [d1, d2] => { results := [.lit (.bool false)], args := [d1, d2] }
  | _ => none }
def DepsAddWrongFalsely : Prop := depsAddRow.holds Try.pinned (OpenSpec.ofChange depsAddWrong)

/-- 'gimmallaw29.SerialAhead': WHATEVER THE INPUT: true; the input reads as it did. -/
def serialAheadSpec : ChangeSpec := { name := "serialAhead", fn := fun _ => fun
  | [d] => { results := [.lit (.bool true)], args := [d] }
  | _ => none }
def serialAheadRow : OpenClaim := { program := "ytmmhbjbaallkfaa", sum := "14bc0576aa62b27592d71cf9e52d60ecbc9fd1da0b5867d1e7be4ccfe1d792d1", func := "gimmal/gimmallaw29.SerialAhead", spec := "serialAhead", unfollowed := true, recurses := true, plainKeys := false, apart := false }
def SerialAheadSaid : Prop := serialAheadRow.holds Try.pinned (OpenSpec.ofChange serialAheadSpec)

/-- ITS FALSE NEIGHBOUR: 'it returns false'. Refute it at one input. -/
def serialAheadWrong : ChangeSpec := { name := "serialAhead", fn := fun _ => fun
  | [d] => { results := [.lit (.bool false)], args := [d] }
  | _ => none }
def SerialAheadWrongFalsely : Prop := serialAheadRow.holds Try.pinned (OpenSpec.ofChange serialAheadWrong)

/-- 'gimmallaw29.SerialPuts': WHATEVER THE INPUT: true; the input reads as it did. -/
def serialPutsSpec : ChangeSpec := { name := "serialPuts", fn := fun _ => fun
  | [d1, d2] => { results := [.lit (.bool true)], args := [d1, d2] }
  | _ => none }
def serialPutsRow : OpenClaim := { program := "ytmmhbjbaallkfaa", sum := "14bc0576aa62b27592d71cf9e52d60ecbc9fd1da0b5867d1e7be4ccfe1d792d1", func := "gimmal/gimmallaw29.SerialPuts", spec := "serialPuts", unfollowed := true, recurses := true, plainKeys := false, apart := false }
def SerialPutsSaid : Prop := serialPutsRow.holds Try.pinned (OpenSpec.ofChange serialPutsSpec)

/-- ITS FALSE NEIGHBOUR: 'it returns false'. Refute it at one input. -/
def serialPutsWrong : ChangeSpec := { name := "serialPuts", fn := fun _ => fun
  | [d1, d2] => { results := [.lit (.bool false)], args := [d1, d2] }
  | _ => none }
def SerialPutsWrongFalsely : Prop := serialPutsRow.holds Try.pinned (OpenSpec.ofChange serialPutsWrong)

/-- 'gimmallaw29.SerialOrders': WHATEVER THE INPUT: true; the input reads as it did. -/
def serialOrdersSpec : ChangeSpec := { name := "serialOrders", fn := fun _ => fun
  | [d] => { results := [.lit (.bool true)], args := [d] }
  | _ => none }
def serialOrdersRow : OpenClaim := { program := "ytmmhbjbaallkfaa", sum := "14bc0576aa62b27592d71cf9e52d60ecbc9fd1da0b5867d1e7be4ccfe1d792d1", func := "gimmal/gimmallaw29.SerialOrders", spec := "serialOrders", unfollowed := true, recurses := true, plainKeys := false, apart := false }
def SerialOrdersSaid : Prop := serialOrdersRow.holds Try.pinned (OpenSpec.ofChange serialOrdersSpec)

/-- ITS FALSE NEIGHBOUR: 'it returns false'. Refute it at one input. -/
def serialOrdersWrong : ChangeSpec := { name := "serialOrders", fn := fun _ => fun
  | [d] => { results := [.lit (.bool false)], args := [d] }
  | _ => none }
def SerialOrdersWrongFalsely : Prop := serialOrdersRow.holds Try.pinned (OpenSpec.ofChange serialOrdersWrong)

/- THE SECOND FORM. 'bulk': how many values and letters a reading holds, each counted each time it is reached (what is shared counts as often as it is met; a slice's spare places count too). A statement '..UptoSaid' is the law's where the arguments, and the package variables that the reading takes, are together of bulk at most 1048576: NARROWER than '..Said'. Prove '..Said' where nothing that the law and all that it calls make is longer than what came in: it says more and counts as full. Else prove '..UptoSaid'. A law counts once. -/
mutual
def uptoBulk {H : Type} : DataW H → Nat
  | .lit (.string bytes) => bytes.length + 1
  | .lit _ => 1
  | .nil => 1
  | .ptr d => uptoBulk d + 1
  | .slice elems spare => uptoBulkAll elems + uptoBulkAll spare + 1
  | .agg parts => uptoBulkAll parts + 1
  | .iface _ d => uptoBulk d + 1
  | .map entries => uptoBulkEntries entries + 1
  | .held _ => 1
def uptoBulkAll {H : Type} : List (DataW H) → Nat
  | [] => 0
  | d :: r => uptoBulk d + uptoBulkAll r
def uptoBulkEntries {H : Type} : List (Lit × DataW H) → Nat
  | [] => 0
  | x :: r => uptoBulkEntry x + uptoBulkEntries r
def uptoBulkEntry {H : Type} : Lit × DataW H → Nat
  | (.string bytes, d) => bytes.length + uptoBulk d + 1
  | (_, d) => uptoBulk d + 1
 end
def uptoSmall : (H : Type) → List (DataW H) → Bool := fun _ ds => decide (uptoBulkAll ds ≤ 1048576)
def OpenSpec.upto (s : _root_.Go.ChangeSpec) : _root_.Go.OpenSpec := { _root_.Go.OpenSpec.ofChange s with cond := some uptoSmall }

/-- 'gimmallaw15.DepsOf', WHERE WHAT IT READS IS OF BULK AT MOST 1048576: true; the input reads as it did. -/
def depsOfUptoRow : OpenClaim := { program := "ytmmhbjbaallkfaa", sum := "14bc0576aa62b27592d71cf9e52d60ecbc9fd1da0b5867d1e7be4ccfe1d792d1", func := "gimmal/gimmallaw15.DepsOf", spec := "depsOf", unfollowed := true, recurses := true, plainKeys := false, apart := false, narrowed := true }
def DepsOfUptoSaid : Prop := depsOfUptoRow.holds Try.pinned (OpenSpec.upto depsOfSpec)

/-- 'gimmallaw15.DepsFar', WHERE WHAT IT READS IS OF BULK AT MOST 1048576: true; the input reads as it did. -/
def depsFarUptoRow : OpenClaim := { program := "ytmmhbjbaallkfaa", sum := "14bc0576aa62b27592d71cf9e52d60ecbc9fd1da0b5867d1e7be4ccfe1d792d1", func := "gimmal/gimmallaw15.DepsFar", spec := "depsFar", unfollowed := true, recurses := true, plainKeys := false, apart := false, narrowed := true }
def DepsFarUptoSaid : Prop := depsFarUptoRow.holds Try.pinned (OpenSpec.upto depsFarSpec)

/-- 'gimmallaw15.DepsTwo', WHERE WHAT IT READS IS OF BULK AT MOST 1048576: true; the input reads as it did. -/
def depsTwoUptoRow : OpenClaim := { program := "ytmmhbjbaallkfaa", sum := "14bc0576aa62b27592d71cf9e52d60ecbc9fd1da0b5867d1e7be4ccfe1d792d1", func := "gimmal/gimmallaw15.DepsTwo", spec := "depsTwo", unfollowed := true, recurses := true, plainKeys := false, apart := false, narrowed := true }
def DepsTwoUptoSaid : Prop := depsTwoUptoRow.holds Try.pinned (OpenSpec.upto depsTwoSpec)

/-- 'gimmallaw15.DepsAdd', WHERE WHAT IT READS IS OF BULK AT MOST 1048576: true; the input reads as it did. -/
def depsAddUptoRow : OpenClaim := { program := "ytmmhbjbaallkfaa", sum := "14bc0576aa62b27592d71cf9e52d60ecbc9fd1da0b5867d1e7be4ccfe1d792d1", func := "gimmal/gimmallaw15.DepsAdd", spec := "depsAdd", unfollowed := true, recurses := true, plainKeys := false, apart := false, narrowed := true }
def DepsAddUptoSaid : Prop := depsAddUptoRow.holds Try.pinned (OpenSpec.upto depsAddSpec)

/-- 'gimmallaw29.SerialAhead', WHERE WHAT IT READS IS OF BULK AT MOST 1048576: true; the input reads as it did. -/
def serialAheadUptoRow : OpenClaim := { program := "ytmmhbjbaallkfaa", sum := "14bc0576aa62b27592d71cf9e52d60ecbc9fd1da0b5867d1e7be4ccfe1d792d1", func := "gimmal/gimmallaw29.SerialAhead", spec := "serialAhead", unfollowed := true, recurses := true, plainKeys := false, apart := false, narrowed := true }
def SerialAheadUptoSaid : Prop := serialAheadUptoRow.holds Try.pinned (OpenSpec.upto serialAheadSpec)

/-- 'gimmallaw29.SerialPuts', WHERE WHAT IT READS IS OF BULK AT MOST 1048576: true; the input reads as it did. -/
def serialPutsUptoRow : OpenClaim := { program := "ytmmhbjbaallkfaa", sum := "14bc0576aa62b27592d71cf9e52d60ecbc9fd1da0b5867d1e7be4ccfe1d792d1", func := "gimmal/gimmallaw29.SerialPuts", spec := "serialPuts", unfollowed := true, recurses := true, plainKeys := false, apart := false, narrowed := true }
def SerialPutsUptoSaid : Prop := serialPutsUptoRow.holds Try.pinned (OpenSpec.upto serialPutsSpec)

/-- 'gimmallaw29.SerialOrders', WHERE WHAT IT READS IS OF BULK AT MOST 1048576: true; the input reads as it did. -/
def serialOrdersUptoRow : OpenClaim := { program := "ytmmhbjbaallkfaa", sum := "14bc0576aa62b27592d71cf9e52d60ecbc9fd1da0b5867d1e7be4ccfe1d792d1", func := "gimmal/gimmallaw29.SerialOrders", spec := "serialOrders", unfollowed := true, recurses := true, plainKeys := false, apart := false, narrowed := true }
def SerialOrdersUptoSaid : Prop := serialOrdersUptoRow.holds Try.pinned (OpenSpec.upto serialOrdersSpec)

end Rows
end Go.Proofs.Ytmmhbjbaallkfaa
