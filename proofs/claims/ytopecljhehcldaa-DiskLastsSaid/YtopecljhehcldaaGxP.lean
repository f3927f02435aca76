/- The framework, part P: the end of a row whose call leaves all that was there as it was. -/
import Derived.Test.YtopecljhehcldaaGxL
import Derived.ChangeSame
import Derived.ProofKit
namespace Go.Proofs.Ytopecljhehcldaa.Gx
open Go Go.ChangeShapes Go.WideShapes Go.ChangeAt Go.RowKit

variable {H : Type} {enc : TypeId × Value → H} {P : Program}

theorem post_of_below {f : Func} {s : ChangeSpec} {apart fresh handsOn again : Bool} {W W' : World} {args : Array Value} {v : Value} {ds gs : List (DataW H)} {before pa pv : List MemPlace}
    (hW : DataW.Whole enc P f.params.toList s.vars apart W args.toList ds gs before) (hB : Below W.heap.size W W')
    (hres : ∀ (b : Nat) (sp : Nat → Bool) (hd : Bool), DataW.TrodAll enc P W' b sp hd f.resultTypes.toList (v.resultList f.resultTypes.size) (s.fn H (ds ++ gs)).results [])
    (hargs : ∀ sp : Nat → Bool, (∀ p ∈ before, sp p.block = true) → DataW.TrodAll enc P W' 0 sp true f.params.toList args.toList (s.fn H (ds ++ gs)).args pa)
    (hvars : ∀ sp : Nat → Bool, (∀ p ∈ before, sp p.block = true) → DataW.TrodVars enc P W' sp s.vars (s.fn H (ds ++ gs)).vars pv)
    (hps : before = pa ++ pv)
    (hok : ∀ (j : Nat) (t : TypeId) (r : Value), f.resultTypes[j]? = some t → (v.resultList f.resultTypes.size)[j]? = some r → Value.okWide P W' .any 0 t r) :
    s.post enc P f apart fresh handsOn again W args v W' := by
  have low : ∀ p ∈ before, p.block < W.heap.size := hW.lt
  have hold : ∀ p ∈ before, (fun b => decide (b < W.heap.size)) p.block = true := fun p hp => decide_eq_true (low p hp)
  refine ⟨ds, gs, before, [], pa, pv, hW, hres _ _ _, hargs _ hold, hvars _ hold, World.keptBut_mono (fun p hp => ⟨hp, .inr (by rw [hps] at hp; simpa using hp)⟩) (hB.frame (· ∈ before)), fun _ => ?_⟩
  obtain ⟨_, _, _, _, _, hz, hn⟩ := hW
  refine ⟨hok, _, _, ([] ++ pa) ++ pv, ⟨[] ++ pa, pv, trodAll_append (hargs _ fun _ _ => rfl) (hres _ _ _), hvars _ fun _ _ => rfl, rfl, fun b off hp => ?_, fun ha => ?_⟩, fun p hp _ => ?_⟩
  · rw [List.nil_append, ← hps] at hp
    rw [hB.frozen (low _ hp)]
    exact hz b off hp
  · have := hn ha
    rw [hps] at this
    exact this
  · rw [hps]; exact hp

theorem i64_range {n : Int} (h : IntKind.min .i64 ≤ n ∧ n ≤ IntKind.max .i64) : -9223372036854775808 ≤ n ∧ n ≤ 9223372036854775807 := by
  rw [show IntKind.min .i64 = -9223372036854775808 from by decide, show IntKind.max .i64 = 9223372036854775807 from by decide] at h; exact h
theorem u64_range {n : Int} (h : IntKind.min .u64 ≤ n ∧ n ≤ IntKind.max .u64) : 0 ≤ n ∧ n < 18446744073709551616 := by
  rw [show IntKind.min .u64 = 0 from by decide, show IntKind.max .u64 = 18446744073709551615 from by decide] at h; omega
theorem u8_range {n : Int} (h : IntKind.min .u8 ≤ n ∧ n ≤ IntKind.max .u8) : 0 ≤ n ∧ n ≤ 255 := by
  rw [show IntKind.min .u8 = 0 from by decide, show IntKind.max .u8 = 255 from by decide] at h; exact h
end Go.Proofs.Ytopecljhehcldaa.Gx
