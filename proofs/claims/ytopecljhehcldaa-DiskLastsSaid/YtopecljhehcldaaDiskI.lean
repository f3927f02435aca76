/- Package disk: what lasts, as laws. -/
import Derived.Test.YtopecljhehcldaaDiskH
namespace Go.Proofs.Ytopecljhehcldaa.Gx
open Go
set_option linter.unusedSimpArgs false
set_option linter.unusedVariables false

theorem lsAt_false {f : List (Int × Sec)} {ans : Nat → Bool} {xs : List Int} {ls : List Sec} (h : ∀ j, ans j = false) : ∀ j, lsAt f ans xs ls j = ls
  | 0 => rfl
  | j + 1 => by unfold lsAt; rw [h j, if_neg (by simp)]; exact lsAt_false h j
theorem lsAt_true {f : List (Int × Sec)} {ans : Nat → Bool} {xs : List Int} {ls : List Sec} (h : ∀ j, j < xs.length → ans j = true) (hx : ∀ k ∈ xs, 0 ≤ k ∧ k < (ls.length : Int)) : ∀ j, j ≤ xs.length → ∀ i : Nat, (lsAt f ans xs ls j)[i]? = if (i : Int) ∈ xs.take j then some ((getM f (i : Int)).getD sec0) else ls[i]?
  | 0, _, i => by simp [lsAt]
  | j + 1, hj, i => by
    have hg := g_eq (xs := xs) (i := j) (by omega)
    have hr := hx _ (List.mem_of_getElem? hg)
    unfold lsAt
    rw [h j (by omega), if_pos rfl, List.getElem?_set, lsAt_len, take_succ_get hg, lsAt_true h hx j (by omega) i]
    by_cases hi : (g xs j).toNat = i
    · have e : (i : Int) = g xs j := by omega
      rw [if_pos hi, if_pos (by omega), if_pos (by rw [e]; simp), e]
    · rw [if_neg hi]
      have e : (i : Int) ≠ g xs j := by omega
      by_cases hm : (i : Int) ∈ xs.take j
      · rw [if_pos hm, if_pos (by simp [hm])]
      · rw [if_neg hm, if_neg (by simp [hm, e])]
end Go.Proofs.Ytopecljhehcldaa.Gx
