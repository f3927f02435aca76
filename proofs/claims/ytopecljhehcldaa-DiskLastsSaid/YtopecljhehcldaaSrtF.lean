/- Sorting of ints: the partition by equal ones. -/
import Derived.Test.YtopecljhehcldaaSrtE
namespace Go.Proofs.Ytopecljhehcldaa.Gx
open Go
set_option linter.unusedSimpArgs false
set_option linter.unusedVariables false

theorem c132 {s : Sl} {b : Nat} {w : World} {xs : List Int} {a e p : Nat} (h : Ar s b w.heap xs) (he : e ≤ xs.length) (hp : a ≤ p ∧ p < e) :
    CW Try.prog 132 #[slV s, iv a, iv e, iv p] w fun v w' => ∃ m : Nat, v = iv m ∧ (a < m ∧ m ≤ e) ∧ ∃ ys, PI a e xs ys ∧ g ys a = g xs p ∧ (∀ k, a ≤ k → k < m → ¬ g xs p < g ys k) ∧ (∀ k, m ≤ k → k < e → g xs p < g ys k) ∧ Ar s b w'.heap ys ∧ CB b w w' := by
  have hl := h.2.2.1
  refine F132_ok s a e p w _ ?_
  have hCd : CB b w w.drew := (extDrew w).mono fun _ _ h => h.elim
  refine sw (w := w.drew) h (by omega) (by omega) (by omega) (by omega) fun w12 h12 C12 => ?_
  rw [Int.toNat_natCast, Int.toNat_natCast] at h12
  have C12 := hCd.trans C12
  have hv : g (swp xs a p) a = g xs p := g_swl (by omega) (by omega)
  have hP0 : Pt a e xs (swp xs a p) (g xs p) (fun x => ¬ g xs p < x) (a + 1) (e - 1) :=
    ⟨.step .refl (by omega) (by omega) (by omega) (by omega) he, he, hv, by omega, by omega, by omega, fun k h1 h2 => by omega, fun k h1 h2 => by omega⟩
  generalize swp xs a p = ys0 at hP0 h12
  clear hv
  generalize g xs p = v at hP0
  refine ⟨fun n x W => ∃ (i j : Nat) (ys : List Int), n = j + 1 - i ∧ x = ((i : Int), (j : Int)) ∧ Pt a e xs ys v (fun x => ¬ v < x) i j ∧ Ar s b W.heap ys ∧ CB b w W, ⟨_, a + 1, e - 1, _, rfl, by rw [wp1 (by omega), wm1 (by omega) (by omega)], hP0, h12, C12⟩, ?_⟩
  rintro _ _ W3 _ ⟨i3, j3, ys3, rfl, rfl, hP3, hA3, hC3⟩
  unfold F132j1
  refine ⟨fun x W => ∃ i : Nat, x = (i : Int) ∧ i3 ≤ i ∧ Pt a e xs ys3 v (fun x => ¬ v < x) i j3 ∧ (j3 < i ∨ v < g ys3 i) ∧ Ar s b W.heap ys3 ∧ CB b w W, ?_, ?_⟩
  · refine ⟨fun n x W => ∃ i : Nat, n = j3 + 1 - i ∧ x = (i : Int) ∧ i3 ≤ i ∧ Pt a e xs ys3 v (fun x => ¬ v < x) i j3 ∧ Ar s b W.heap ys3 ∧ CB b w W, ⟨_, i3, rfl, rfl, Nat.le_refl _, hP3, hA3, hC3⟩, ?_⟩
    rintro _ _ W _ ⟨i, rfl, rfl, hii, hP, hA, hC⟩
    have hyl := hP.pi.len; have h4 := hP.ai; have h5 := hP.je; have h6 := hP.ij
    have hd : CB b w W.drew := hC.then (extDrew W) fun _ _ h => h.elim
    unfold F132j2
    refine IfB.dec (fun hle => ?_) (fun hgt => ⟨rfl, i, rfl, hii, hP, .inl ?_, hA, hd⟩)
    · have hle : i ≤ j3 := by
        have : (i : Int) ≤ (j3 : Int) := hle
        omega
      refine ls (w := W.drew) hA (by omega) (by omega) (by omega) (by omega) (IfB.intro (fun hl1 => ?_) (fun hl1 => ⟨rfl, i, rfl, hii, hP, .inr ?_, hA, hd⟩))
      · simp only [Int.toNat_natCast, hP.v, Bool.not_eq_true', decide_eq_false_iff_not] at hl1
        exact ⟨rfl, _, by omega, i + 1, rfl, wp1 (by omega), by omega, hP.up hle hl1, hA, hd⟩
      · simp only [Int.toNat_natCast, hP.v, Bool.not_eq_false', decide_eq_true_eq] at hl1; exact hl1
    · have : ¬ (i : Int) ≤ (j3 : Int) := hgt
      omega
  rintro _ W4 _ ⟨i4, rfl, hi34, hP4, hi4, hA4, hC4⟩
  refine ⟨fun x W' => ∃ j : Nat, x = (j : Int) ∧ j ≤ j3 ∧ Pt a e xs ys3 v (fun x => ¬ v < x) i4 j ∧ (j < i4 ∨ ¬ v < g ys3 j) ∧ (j < i4 ∨ v < g ys3 i4) ∧ Ar s b W'.heap ys3 ∧ CB b w W', ?_, ?_⟩
  · refine ⟨fun n x W => ∃ j : Nat, j = n ∧ x = (j : Int) ∧ j ≤ j3 ∧ Pt a e xs ys3 v (fun x => ¬ v < x) i4 j ∧ (j < i4 ∨ v < g ys3 i4) ∧ Ar s b W.heap ys3 ∧ CB b w W, ⟨_, j3, rfl, rfl, Nat.le_refl _, hP4, by omega, hA4, hC4⟩, ?_⟩
    rintro _ _ W _ ⟨j, rfl, rfl, hjj, hP, hi, hA, hC⟩
    have hyl := hP.pi.len; have h4 := hP.ai; have h5 := hP.je; have h6 := hP.ij
    have hd : CB b w W.drew := hC.then (extDrew W) fun _ _ h => h.elim
    unfold F132j4
    refine IfB.dec (fun hle => ?_) (fun hgt => ⟨rfl, j, rfl, hjj, hP, .inl (by omega), hi, hA, hd⟩)
    have hle : i4 ≤ j := by omega
    refine ls (w := W.drew) hA (by omega) (by omega) (by omega) (by omega) (IfB.dec (fun hl1 => ?_) (fun hl1 => ⟨rfl, j, rfl, hjj, hP, .inr ?_, hi, hA, hd⟩))
    · rw [Int.toNat_natCast, Int.toNat_natCast, hP.v] at hl1
      exact ⟨rfl, j - 1, by omega, j - 1, rfl, wm1 (by omega) (by omega), by omega, hP.dn hle (by omega), by omega, hA, hd⟩
    · rw [Int.toNat_natCast, Int.toNat_natCast, hP.v] at hl1; exact hl1
  rintro _ W5 _ ⟨j5, rfl, hj5, hP5, hj51, hj52, hA5, hC5⟩
  have hyl := hP5.pi.len; have h4 := hP5.ai; have h5 := hP5.je; have h6 := hP5.ij
  have hC5d : CB b w W5.drew := hC5.then (extDrew W5) fun _ _ h => h.elim
  unfold F132j5
  refine IfB.dec (fun hlt => ?_) (fun hge => ?_)
  · refine ⟨i4, rfl, by omega, ys3, hP5.pi, hP5.v, fun k h1 h2 => ?_, fun k h1 h2 => ?_, hA5, hC5⟩
    · by_cases hk : k = a
      · subst hk; rw [hP5.v]; omega
      · exact hP5.lo k (by omega) h2
    · have := hP5.hi k (by omega) h2
      omega
  · have hij : i4 ≤ j5 := by omega
    refine sw (w := W5.drew) hA5 (by omega) (by omega) (by omega) (by omega) fun W6 h6 C6 => ?_
    rw [Int.toNat_natCast, Int.toNat_natCast] at h6
    exact ⟨rfl, _, by omega, i4 + 1, j5 - 1, _, rfl, by rw [wp1 (by omega), wm1 (by omega) (by omega)], hP5.sw hij (by omega) (by omega), h6, hC5d.trans C6⟩
end Go.Proofs.Ytopecljhehcldaa.Gx
