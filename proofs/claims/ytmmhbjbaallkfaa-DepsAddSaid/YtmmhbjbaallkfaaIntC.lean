/- slices.Clone of ints. -/
import Derived.Test.YtmmhbjbaallkfaaIntA
import Derived.Test.YtmmhbjbaallkfaaGxLC
namespace Go.Proofs.Ytmmhbjbaallkfaa.Gx
open Go
set_option linter.unusedSimpArgs false
set_option linter.unusedVariables false

theorem c41 {w : World} {t : Sl} {xs : List Int} (h : Rd w t 1 (xs.map iv)) (hl : xs.length ≤ 1000000) : CW Try.prog 41 #[slV t] w fun v w' => ∃ t', v = slV t' ∧ OwS w' t' 1 (xs.map iv) ∧ Ext w w' ∧ ∀ i ∈ blk t', w.heap.size ≤ i := by
  have hn := rdI h
  refine F41_ok t w _ ?_
  have e : ∀ R, F41 t w R = CloneF tt3 3 1 t w R := fun _ => rfl
  rw [e]
  refine CloneF_of h rfl rfl (fun v hv => by obtain ⟨x, _, rfl⟩ := List.mem_map.1 hv; rfl) ⟨by omega, ?_⟩ (fun s' w' h1 h2 h3 h4 => ⟨s', rfl, h1, h3, h4⟩) fun hp => ?_
  · show 2 * t.n * 8 ≤ _
    omega
  · have h2 := h.2
    rw [hp] at h2
    have : xs.map iv = [] := h2
    rw [hn, List.map_eq_nil_iff.1 this]; rfl

end Go.Proofs.Ytmmhbjbaallkfaa.Gx
