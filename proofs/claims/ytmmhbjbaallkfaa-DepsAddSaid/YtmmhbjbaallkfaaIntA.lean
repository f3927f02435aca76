/- Slices of ints. -/
import Derived.Test.YtmmhbjbaallkfaaGxJ
import Derived.Test.YtmmhbjbaallkfaaGxH
namespace Go.Proofs.Ytmmhbjbaallkfaa.Gx
open Go
set_option linter.unusedSimpArgs false
set_option linter.unusedVariables false

abbrev ivL (x : Int) : List Value := [iv x]
theorem ivL_len (x : Int) : (ivL x).length = 1 := rfl
theorem ivL_one (x : Int) : One (ivL x) := oneIv x
theorem ivL_flat (l : List Int) : l.flatMap ivL = l.map iv := flat_map1 iv l
theorem owsI {w : World} {t : Sl} {l : List Int} (h : OwS w t 1 (l.map iv)) : t.n = l.length := by have := h.len1; rw [List.length_map] at this; exact this
theorem rdI {w : World} {t : Sl} {l : List Int} (h : Rd w t 1 (l.map iv)) : t.n = l.length := by have := h.len1; rw [List.length_map] at this; exact this
theorem owsI_get {w : World} {t : Sl} {l : List Int} (h : OwS w t 1 (l.map iv)) {i : Nat} {x : Int} (hx : l[i]? = some x) : ∃ a, t.p = some ⟨a, 0, none⟩ ∧ w.cell? ⟨a, 0 + i, none⟩ = some (iv x) := by
  obtain ⟨a, ha, hc⟩ := h.elem1 (i := i) (v := iv x) (by rw [List.getElem?_map, hx]; rfl)
  exact ⟨a, ha, by rw [Nat.zero_add]; exact hc⟩
theorem rdI_get {w : World} {t : Sl} {l : List Int} (h : Rd w t 1 (l.map iv)) {i : Nat} {x : Int} (hx : l[i]? = some x) : ∃ a o, t.p = some ⟨a, o, none⟩ ∧ w.cell? ⟨a, o + i, none⟩ = some (iv x) :=
  h.elem1 (i := i) (v := iv x) (by rw [List.getElem?_map, hx]; rfl)
theorem setI {l : List Int} {i : Nat} {x : Int} (hi : i < l.length) : (l.map iv).take i ++ [iv x] ++ (l.map iv).drop (i + 1) = (l.set i x).map iv := by
  rw [List.map_set, List.set_eq_take_append_cons_drop, if_pos (by rw [List.length_map]; exact hi)]; simp

theorem nodup_le {α : Type} [DecidableEq α] : ∀ {a b : List α}, a.Nodup → (∀ x ∈ a, x ∈ b) → a.length ≤ b.length
  | [], _, _, _ => Nat.zero_le _
  | x :: a, b, hn, h => by
    obtain ⟨h1, h2⟩ := List.nodup_cons.1 hn
    have hx := h x (by simp)
    have := nodup_le (a := a) (b := b.erase x) h2 fun y hy => by
      have hne : y ≠ x := fun e => h1 (by rw [← e]; exact hy)
      exact (List.mem_erase_of_ne hne).2 (h y (by simp [hy]))
    rw [List.length_erase_of_mem hx] at this
    have := List.length_pos_of_mem hx
    simp only [List.length_cons]; omega

end Go.Proofs.Ytmmhbjbaallkfaa.Gx
