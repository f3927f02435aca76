/- slices.Index, Contains of ints. -/
import Derived.Test.YtmmhbjbaallkfaaIntA
import Derived.Test.YtmmhbjbaallkfaaGxLX
namespace Go.Proofs.Ytmmhbjbaallkfaa.Gx
open Go
set_option linter.unusedSimpArgs false
set_option linter.unusedVariables false

theorem c59 {w : World} {t : Sl} {xs : List Int} (h : Rd w t 1 (xs.map iv)) (hl : xs.length ≤ 1000000) (x : Int) : CW Try.prog 59 #[slV t, iv x] w fun v w' => v = iv (idxV (xs.findIdx? fun y => x == y)) ∧ w = w' := by
  have hn := rdI h
  refine F59_ok t x w _ ⟨fun k n W => ∃ i : Nat, n = (i : Int) ∧ k + i = xs.length ∧ W = w ∧ ∀ j < i, ∀ y, xs[j]? = some y → (x == y) = false, ⟨xs.length, 0, rfl, rfl, rfl, fun j hj => absurd hj (Nat.not_lt_zero _)⟩, ?_⟩
  rintro k _ W g ⟨i, rfl, hk, rfl, hlow⟩
  unfold F59j1
  refine IfB.dec (fun hlt => ?_) fun hge => ?_
  · have hi : i < xs.length := by omega
    have hx : xs[i]? = some xs[i] := List.getElem?_eq_getElem hi
    obtain ⟨a, o, ha, hc⟩ := rdI_get h hx
    refine ⟨a, o, ha, ⟨by omega, hlt⟩, xs[i], by rw [Int.toNat_natCast]; exact hc, IfB.intro (fun he => ⟨?_, rfl⟩) fun he => ⟨rfl, k - 1, by omega, i + 1, wp1 (by omega), by omega, rfl, fun j hj y hy => ?_⟩⟩
    · have : xs.findIdx? (fun y => x == y) = some i := by
        rw [List.findIdx?_eq_some_iff_getElem]
        exact ⟨hi, he, fun j hj => by have := hlow j hj _ (List.getElem?_eq_getElem (by omega)); rw [this]; simp⟩
      rw [this]; rfl
    · by_cases hji : j < i
      · exact hlow j hji y hy
      · have : j = i := by omega
        subst this; rw [hx] at hy; cases hy; exact he
  · have : xs.findIdx? (fun y => x == y) = none := by
      rw [List.findIdx?_eq_none_iff]
      intro y hy
      obtain ⟨j, hj, rfl⟩ := List.getElem_of_mem hy
      exact hlow j (by omega) _ (List.getElem?_eq_getElem hj)
    rw [this]; exact ⟨rfl, rfl⟩
theorem idx_contains (xs : List Int) (x : Int) : decide ((0 : Int) ≤ idxV (xs.findIdx? fun y => x == y)) = decide (x ∈ xs) := by
  refine decide_eq_decide.2 ?_
  cases h : xs.findIdx? (fun y => x == y) with
  | none =>
    rw [List.findIdx?_eq_none_iff] at h
    refine ⟨fun h0 => absurd h0 (by simp [idxV]), fun hm => ?_⟩
    have := h x hm
    simp at this
  | some i =>
    obtain ⟨hi, he, _⟩ := List.findIdx?_eq_some_iff_getElem.1 h
    refine ⟨fun _ => ?_, fun _ => by simp [idxV]⟩
    have : x = xs[i] := by simpa using he
    rw [this]; exact List.getElem_mem hi
theorem c39 {w : World} {t : Sl} {xs : List Int} (h : Rd w t 1 (xs.map iv)) (hl : xs.length ≤ 1000000) (x : Int) : CW Try.prog 39 #[slV t, iv x] w fun v w' => v = .bool (decide (x ∈ xs)) ∧ w = w' := by
  refine F39_ok t x w _ ((c59 h hl x).use ?_)
  rintro _ _ ⟨rfl, rfl⟩
  exact ⟨_, rfl, by rw [idx_contains], rfl⟩

end Go.Proofs.Ytmmhbjbaallkfaa.Gx
