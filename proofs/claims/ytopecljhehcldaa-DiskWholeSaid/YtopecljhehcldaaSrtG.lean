/- Sorting of ints: a few insertions. -/
import Derived.Test.YtopecljhehcldaaSrtF
namespace Go.Proofs.Ytopecljhehcldaa.Gx
open Go
set_option linter.unusedSimpArgs false
set_option linter.unusedVariables false

theorem CB.drew {b : Nat} {w W : World} (h : CB b w W) : CB b w W.drew := Ch.then h (extDrew W) fun _ _ h => h.elim

theorem c130 {s : Sl} {b : Nat} {w : World} {xs : List Int} {a e : Nat} (h : Ar s b w.heap xs) (he : e ≤ xs.length) (ha : a < e) (hb : 0 < a → ∀ k, a ≤ k → k < e → g xs (a - 1) ≤ g xs k) :
    CW Try.prog 130 #[slV s, iv a, iv e] w fun v w' => ∃ t, v = .bool t ∧ ∃ ys, PI a e xs ys ∧ (t = true → SO ys a e) ∧ Ar s b w'.heap ys ∧ CB b w w' := by
  have hl := h.2.2.1
  have lb : ∀ {ys}, PI a e xs ys → 0 < a → ∀ k, a ≤ k → k < e → g ys (a - 1) ≤ g ys k := fun {ys} hP h0 k h1 h2 => by
    rw [hP.out (.inl (by omega))]
    exact hP.all (Q := fun v => g xs (a - 1) ≤ v) (fun i h3 h4 => hb h0 i h3 h4) k h1 h2
  refine F130_ok s a e w _ ⟨fun n x W => ∃ (i j : Nat) (ys : List Int), n = 5 - j ∧ x = ((i : Int), (j : Int)) ∧ j ≤ 5 ∧ (a + 1 ≤ i ∧ i ≤ e) ∧ PI a e xs ys ∧ SO ys a i ∧ Ar s b W.heap ys ∧ CB b w W, ⟨_, a + 1, 0, xs, rfl, by rw [wp1 (by omega)]; rfl, by omega, by omega, .refl, fun p q _ _ _ => by omega, h, Ch.refl _ _⟩, ?_⟩
  rintro _ _ W _ ⟨i0, j0, ys, rfl, rfl, hj0, hi0, hP, hS0, hA, hC⟩
  have hyl := hP.len
  refine IfB.dec (fun hlt => ?_) (fun hge => ⟨false, rfl, ys, hP, (fun h => by cases h), hA, hC⟩)
  have hj5 : j0 < 5 := by
    have : (j0 : Int) < 5 := hlt
    omega
  refine ⟨fun x W => ∃ i : Nat, x = (i : Int) ∧ (a + 1 ≤ i ∧ i ≤ e) ∧ SO ys a i ∧ Ar s b W.heap ys ∧ CB b w W, ?_, ?_⟩
  · refine ⟨fun n x W => ∃ i : Nat, n = e - i ∧ x = (i : Int) ∧ (a + 1 ≤ i ∧ i ≤ e) ∧ SO ys a i ∧ Ar s b W.heap ys ∧ CB b w W, ⟨_, i0, rfl, rfl, hi0, hS0, hA, hC⟩, ?_⟩
    rintro _ _ W1 _ ⟨i, rfl, rfl, hi, hS, hA1, hC1⟩
    unfold F130j2
    refine IfB.dec (fun hlt => ?_) (fun hge => ⟨rfl, i, rfl, hi, hS, hA1, hC1.drew⟩)
    rw [wm1 (by omega) (by omega)]
    refine ls (w := W1.drew) hA1 (by omega) (by omega) (by omega) (by omega) (IfB.intro (fun hl1 => ?_) (fun hl1 => ⟨rfl, i, rfl, hi, hS, hA1, hC1.drew⟩))
    simp only [Int.toNat_natCast, Bool.not_eq_true', decide_eq_false_iff_not] at hl1
    refine ⟨rfl, _, by omega, i + 1, rfl, wp1 (by omega), by omega, fun p q h1 h2 h3 => ?_, hA1, hC1.drew⟩
    by_cases hq : q = i
    · subst hq
      by_cases hp : p = q - 1
      · subst hp; omega
      · have := hS p (q - 1) h1 (by omega) (by omega)
        omega
    · exact hS p q h1 h2 (by omega)
  rintro _ W2 _ ⟨i, rfl, hi, hS, hA2, hC2⟩
  unfold F130j3
  refine IfB.intro (fun hi3 => ?_) (fun hi3 => ?_)
  · have hi3 : (i : Int) = (e : Int) := by simpa using hi3
    have : i = e := by omega
    subst this
    exact ⟨true, rfl, ys, hP, fun _ => hS, hA2, hC2⟩
  have hie : i < e := by
    have : (i : Int) ≠ (e : Int) := by simpa using hi3
    omega
  rw [wsb (by omega) (by omega)]
  refine @IfB.dec (((e - a : Nat) : Int) < (50 : Int)) _ _ _ (fun _ => ⟨false, rfl, ys, hP, (fun h => by cases h), hA2, hC2⟩) (fun _ => ?_)
  rw [wm1 (by omega) (by omega)]
  refine sw (w := W2.drew) hA2 (by omega) (by omega) (by omega) (by omega) fun W3 hA3 hC3 => ?_
  rw [Int.toNat_natCast, Int.toNat_natCast] at hA3
  have hP3 : PI a e xs (swp ys i (i - 1)) := .step hP (by omega) (by omega) (by omega) (by omega) (by omega)
  have hC3 := (CB.drew hC2).trans hC3
  rw [wsb (by omega) (by omega)]
  refine ⟨fun _ W => ∃ zs, PI a e xs zs ∧ SO zs a i ∧ Ar s b W.heap zs ∧ CB b w W, ?_, ?_⟩
  · refine IfB.dec (fun h2 => ?_) (fun h2 => ⟨rfl, _, hP3, fun p q _ _ _ => by omega, hA3, hC3⟩)
    refine ⟨fun n x W => ∃ (j : Nat) (zs : List Int), j = n ∧ x = (j : Int) ∧ (a ≤ j ∧ j ≤ i - 1) ∧ PI a e xs zs ∧ (∀ p q, a ≤ p → p < q → q < i → q ≠ j → g zs p ≤ g zs q) ∧ Ar s b W.heap zs ∧ CB b w W, ⟨_, i - 1, _, rfl, rfl, by omega, hP3, fun p q h1 h2 h3 h4 => ?_, hA3, hC3⟩, ?_⟩
    · rw [g_swo (by omega) (by omega) (by omega) (by omega), g_swo (by omega) (by omega) (by omega) (by omega)]
      exact hS p q h1 h2 h3
    rintro _ _ W4 _ ⟨j, zs, rfl, rfl, hj, hP4, hS4, hA4, hC4⟩
    have hzl := hP4.len
    unfold F130j4
    refine IfB.dec (fun hj1 => ?_) (fun hj1 => ⟨rfl, zs, hP4, fun p q h1 h2 h3 => hS4 p q h1 h2 h3 (by omega), hA4, hC4⟩)
    rw [wm1 (by omega) (by omega)]
    refine ls (w := W4.drew) hA4 (by omega) (by omega) (by omega) (by omega) (IfB.intro (fun hl1 => ?_) (fun hl1 => ?_))
    · simp only [Int.toNat_natCast, Bool.not_eq_true', decide_eq_false_iff_not] at hl1
      refine ⟨rfl, zs, hP4, fun p q h1 h2 h3 => ?_, hA4, hC4.drew⟩
      by_cases hq : q = j
      · subst hq
        by_cases hp : p = q - 1
        · subst hp; omega
        · have := hS4 p (q - 1) h1 (by omega) (by omega) (by omega)
          omega
      · exact hS4 p q h1 h2 h3 hq
    · simp only [Int.toNat_natCast, Bool.not_eq_false', decide_eq_true_eq] at hl1
      have haj : a < j := by
        rcases Nat.lt_or_ge a j with h | h
        · exact h
        · have : a = j := by omega
          subst this
          have := lb hP4 (by omega) a (Nat.le_refl _) (by omega)
          omega
      refine sw (w := W4.drew.drew) hA4 (by omega) (by omega) (by omega) (by omega) fun W5 hA5 hC5 => ?_
      rw [Int.toNat_natCast, Int.toNat_natCast] at hA5
      refine ⟨rfl, j - 1, by omega, j - 1, _, rfl, rfl, by omega, .step hP4 (by omega) (by omega) (by omega) (by omega) (by omega), fun p q h1 h2 h3 h4 => ?_, hA5, (CB.drew (CB.drew hC4)).trans hC5⟩
      rw [g_swp (by omega) (by omega), g_swp (by omega) (by omega)]
      have A1 := hS4 p (j - 1) h1
      have A2 := hS4 p q h1 h2 h3
      have A3 := hS4 j q (by omega)
      have A4 := hS4 (j - 1) q (by omega)
      split <;> split <;> (try split) <;> (try split) <;> first | omega | skip
  rintro _ W6 _ ⟨zs, hP6, hS6, hA6, hC6⟩
  have hzl := hP6.len
  have next : ∀ {us : List Int} {W : World}, PI a e xs us → SO us a i → Ar s b W.heap us → CB b w W → ([] : List Nat) = [] ∧ ∃ b112, b112 < 5 - j0 ∧ ∃ (i' j' : Nat) (ys : List Int), b112 = 5 - j' ∧ ((i : Int), IntKind.i64.wrap ((j0 : Int) + (1 : Int))) = ((i' : Int), (j' : Int)) ∧ j' ≤ 5 ∧ (a + 1 ≤ i' ∧ i' ≤ e) ∧ PI a e xs ys ∧ SO ys a i' ∧ Ar s b W.heap ys ∧ CB b w W :=
    fun h1 h2 h3 h4 => ⟨rfl, 5 - (j0 + 1), by omega, i, j0 + 1, _, rfl, by rw [wp1 (by omega)], by omega, by omega, h1, h2, h3, h4⟩
  unfold F130j5
  refine ⟨fun t W => W = W6, ⟨rfl, rfl⟩, ?_⟩
  rintro t _ _ rfl
  refine IfB.intro (fun _ => ?_) (fun _ => next hP6 hS6 hA6 hC6)
  refine ⟨fun n x W => ∃ (j : Nat) (us : List Int), n = e - j ∧ x = (j : Int) ∧ (i + 1 ≤ j ∧ j ≤ e) ∧ PI a e xs us ∧ SO us a i ∧ Ar s b W.heap us ∧ CB b w W, ⟨_, i + 1, zs, rfl, wp1 (by omega), by omega, hP6, hS6, hA6, hC6⟩, ?_⟩
  rintro _ _ W7 _ ⟨j, us, rfl, rfl, hj, hP7, hS7, hA7, hC7⟩
  have hul := hP7.len
  unfold F130j7
  refine IfB.dec (fun hlt => ?_) (fun _ => next hP7 hS7 hA7 hC7)
  rw [wm1 (by omega) (by omega)]
  refine ls (w := W7.drew) hA7 (by omega) (by omega) (by omega) (by omega) (IfB.intro (fun _ => next hP7 hS7 hA7 hC7.drew) (fun _ => ?_))
  refine sw (w := W7.drew.drew) hA7 (by omega) (by omega) (by omega) (by omega) fun W8 hA8 hC8 => ?_
  rw [Int.toNat_natCast, Int.toNat_natCast] at hA8
  refine ⟨rfl, _, by omega, j + 1, _, rfl, wp1 (by omega), by omega, .step hP7 (by omega) (by omega) (by omega) (by omega) (by omega), fun p q h1 h2 h3 => ?_, hA8, (CB.drew (CB.drew hC7)).trans hC8⟩
  rw [g_swo (by omega) (by omega) (by omega) (by omega), g_swo (by omega) (by omega) (by omega) (by omega)]
  exact hS7 p q h1 h2 h3
end Go.Proofs.Ytopecljhehcldaa.Gx
