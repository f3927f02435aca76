/- maps.Clone of a map of sectors: a new block with the old entries. -/
import Derived.Test.YtopecljhehcldaaGxT
import Derived.Test.YtopecljhehcldaaGxC
import Derived.WalkKit
import Derived.Shelf.SlMaps.Clone
namespace Go.Proofs.Ytopecljhehcldaa.Gx
open Go Go.RowKit Go.Maps
set_option linter.unusedSimpArgs false
set_option linter.unusedVariables false

set_option maxRecDepth 20000 in
set_option maxHeartbeats 2000000 in
theorem mapsClone83 (b : Nat) (es : Array MapEntry) (clock : Nat) (w : World) (hb : w.heap[b]? = some (.map es clock)) :
    Calls Try.prog 83 #[.map (some b)] w fun e w' => e = .returned (.map (some w.heap.size)) ∧ w' = w.alloc (.map es clock) := by
  have mixed : Try.prog.follows .mixedOrders = true := by kernel_rfl
  have t4 : Try.prog.underlying 4 = some TypeDesc.bool := by kernel_rfl
  have t20 : Try.prog.underlying 20 = some (TypeDesc.interface #[]) := by kernel_rfl
  have t128 : Try.prog.underlying 128 = some (TypeDesc.map 3 67) := by kernel_rfl
  have a4 : ∀ w, (isAgg 4).run Try.prog w = .ok false w := run_isAgg_of ti4
  have z4 : ∀ w, (sizeOf 4).run Try.prog w = .ok 1 w := run_sizeOf_of ti4
  have v4 : ∀ w, (zeroValue 4).run Try.prog w = .ok (.bool false) w := run_zeroValue_of ti4
  have a20 : ∀ w, (isAgg 20).run Try.prog w = .ok false w := run_isAgg_of ti20
  have z20 : ∀ w, (sizeOf 20).run Try.prog w = .ok 1 w := run_sizeOf_of ti20
  have v20 : ∀ w, (zeroValue 20).run Try.prog w = .ok .nilIface w := run_zeroValue_of ti20
  have a128 : ∀ w, (isAgg 128).run Try.prog w = .ok false w := run_isAgg_of ti128
  have z128 : ∀ w, (sizeOf 128).run Try.prog w = .ok 1 w := run_sizeOf_of ti128
  have v128 : ∀ w, (zeroValue 128).run Try.prog w = .ok (.map none) w := run_zeroValue_of ti128
  have hq := fun w => run_eql_map_nil_sl (P := Try.prog) w 128 _ _ (some b) t128
  go_enter Try.func83, Try.ntmps83
  go_wp2
  rw [run_callFunc_extern Try.func110 (by kernel_rfl) (by kernel_rfl) (by kernel_rfl) (e := Extern.MapsClone.clone) (by kernel_rfl), run_maps_clone_sl w 128 hb]
  simp only [Result.andThen]
  rw [Oper.upon_value]
  go_wp2
  rw [run_typeAssert_map_sl _ 128 20 _ _ _ t128]
  simp only [Result.andThen]
  rw [Oper.upon_value]
  go_wp2
  go_ret
  exact ⟨rfl, rfl⟩

theorem c83 {β : Type} {enc : β → Value} {w : World} {r : Nat} {f : List (Int × β)} (h : Mp enc w r f) : CW Try.prog 83 #[.map (some r)] w fun v w' => ∃ r', v = .map (some r') ∧ Mp enc w' r' f ∧ Ext w w' ∧ w.heap.size ≤ r' := by
  obtain ⟨es, ck, hb, hE⟩ := h
  refine CW.mono (R := fun v w' => v = .map (some w.heap.size) ∧ w' = w.alloc (.map es ck)) ⟨en83, callsIn_wide.2 ((mapsClone83 r es ck w hb).mono fun e w' ⟨h1, h2⟩ => ⟨_, h1, rfl, h2⟩)⟩ ?_
  rintro v w' ⟨rfl, rfl⟩
  refine ⟨_, rfl, ⟨es, ck, (MapKept.heap_alloc w _).1, hE⟩, ?_, Nat.le_refl _⟩
  have hB : Below w.heap.size w (w.alloc (.map es ck)) := (Below.refl _ w).alloc (Nat.le_refl _) _
  exact ⟨⟨hB.os, hB.tape, hB.output⟩, hB.size, fun i hi _ => hB.block i hi⟩
end Go.Proofs.Ytopecljhehcldaa.Gx
