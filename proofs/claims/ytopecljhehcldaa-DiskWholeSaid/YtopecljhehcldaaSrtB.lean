/- Sorting of ints: insertion, heap. -/
import Derived.Test.YtopecljhehcldaaSrtA
namespace Go.Proofs.Ytopecljhehcldaa.Gx
open Go
set_option linter.unusedSimpArgs false
set_option linter.unusedVariables false

theorem wp1 {i : Nat} (h : i ≤ 1000000000000) : IntKind.i64.wrap ((i : Int) + (1 : Int)) = ((i + 1 : Nat) : Int) := by rw [wrap_of (by omega) (by omega)]; rfl
theorem wm1 {i : Nat} (h0 : 1 ≤ i) (h : i ≤ 1000000000000) : IntKind.i64.wrap ((i : Int) - (1 : Int)) = ((i - 1 : Nat) : Int) := by rw [wrap_of (by omega) (by omega)]; omega

theorem wad {i j : Nat} (h : i + j ≤ 1000000000000) : IntKind.i64.wrap ((i : Int) + (j : Int)) = ((i + j : Nat) : Int) := by rw [wrap_of (by omega) (by omega)]; rfl
theorem wsb {i j : Nat} (h0 : j ≤ i) (h : i ≤ 1000000000000) : IntKind.i64.wrap ((i : Int) - (j : Int)) = ((i - j : Nat) : Int) := by rw [wrap_of (by omega) (by omega)]; omega
theorem wdb {i : Nat} (h : i ≤ 100000000000) : IntKind.i64.wrap ((2 : Int) * (i : Int)) = ((2 * i : Nat) : Int) := by rw [wrap_of (by omega) (by omega)]; omega

theorem c125 {s : Sl} {b : Nat} {w : World} {xs : List Int} {a e : Nat} (h : Ar s b w.heap xs) (he : e ≤ xs.length) (ha : a ≤ xs.length) :
    CW Try.prog 125 #[slV s, iv a, iv e] w fun v w' => v = .tuple #[] ∧ ∃ ys, PI a e xs ys ∧ SO ys a e ∧ Ar s b w'.heap ys ∧ CB b w w' := by
  have hl : xs.length ≤ 1000000 := h.2.2.1
  refine F125_ok s a e w _ ⟨fun n x W => ∃ (i : Nat) (ys : List Int), n = e + 1 - i ∧ x = (i : Int) ∧ a + 1 ≤ i ∧ (i = a + 1 ∨ i ≤ e) ∧ PI a e xs ys ∧ SO ys a i ∧ Ar s b W.heap ys ∧ CB b w W, ⟨_, a + 1, xs, rfl, wp1 (by omega), Nat.le_refl _, .inl rfl, .refl, fun i j _ _ _ => by omega, h, Ch.refl _ _⟩, ?_⟩
  rintro n _ W _ ⟨i, ys, rfl, rfl, hai, hi, hP, hS, hA, hC⟩
  have hyl := hP.len
  refine IfB.dec (fun hlt => ?_) (fun hge => ⟨rfl, ys, hP, fun p q h1 h2 h3 => hS p q h1 h2 (by omega), hA, hC⟩)
  have hie : i < e := by omega
  refine ⟨fun m x W' => ∃ (j : Nat) (zs : List Int), j = m ∧ x = (j : Int) ∧ a ≤ j ∧ j ≤ i ∧ PI a e xs zs ∧ (∀ p q, a ≤ p → p < q → q ≤ i → q ≠ j → g zs p ≤ g zs q) ∧ Ar s b W'.heap zs ∧ CB b w W', ⟨_, i, ys, rfl, rfl, by omega, Nat.le_refl _, hP, fun p q h1 h2 h3 h4 => hS p q h1 h2 (by omega), hA, hC⟩, ?_⟩
  rintro m _ W1 _ ⟨j, zs, rfl, rfl, haj, hji, hP1, hS1, hA1, hC1⟩
  have hzl := hP1.len
  have hCd : CB b w W1.drew := hC1.then (extDrew W1) fun _ _ h => h.elim
  have done : (∀ p, a ≤ p → p < j → g zs p ≤ g zs j) → ∀ W2 : World, W2 = W1.drew → ([] : List Nat) = [] ∧ ∃ b38, b38 < e + 1 - i ∧ ∃ (i' : Nat) (ys : List Int), b38 = e + 1 - i' ∧ IntKind.i64.wrap ((i : Int) + (1 : Int)) = (i' : Int) ∧ a + 1 ≤ i' ∧ (i' = a + 1 ∨ i' ≤ e) ∧ PI a e xs ys ∧ SO ys a i' ∧ Ar s b W2.heap ys ∧ CB b w W2 := by
    rintro hj W2 rfl
    refine ⟨rfl, e + 1 - (i + 1), by omega, i + 1, zs, rfl, wp1 (by omega), by omega, .inr (by omega), hP1, fun p q h1 h2 h3 => ?_, hA1, hCd⟩
    by_cases hq : q = j
    · subst hq; exact hj p h1 h2
    · exact hS1 p q h1 h2 (by omega) hq
  unfold F125j2
  refine IfB.dec (fun hlt2 => ?_) (fun hge2 => done (fun p h1 h2 => by omega) _ rfl)
  have hj : a < j := by omega
  have hw := wm1 (i := j) (by omega) (by omega)
  rw [hw]
  refine ls (w := W1.drew) hA1 (by omega) (by omega) (by omega) (by omega) (IfB.dec (fun hl1 => ?_) (fun hl1 => done (fun p h1 h2 => ?_) _ rfl))
  · rw [Int.toNat_natCast, Int.toNat_natCast] at hl1
    refine sw (w := W1.drew.drew) hA1 (by omega) (by omega) (by omega) (by omega) fun W3 hA3 hC3 => ⟨rfl, j - 1, by omega, j - 1, _, rfl, rfl, by omega, by omega, .step hP1 (p := j) (q := j - 1) (by omega) (by omega) (by omega) (by omega) (by omega), ?_, hA3, (hCd.then (extDrew _) fun _ _ h => h.elim).trans hC3⟩
    intro p q h1 h2 h3 h4
    rw [g_swp (by omega) (by omega), g_swp (by omega) (by omega)]
    have A1 := hS1 p (j - 1) h1
    have A2 := hS1 p q h1 h2 h3
    have A3 := hS1 j q (by omega)
    have A4 := hS1 (j - 1) q (by omega)
    split <;> split <;> (try split) <;> (try split) <;> first | omega | skip
  · rw [Int.toNat_natCast, Int.toNat_natCast] at hl1
    have := hS1 p (j - 1) h1
    by_cases hp : p = j - 1
    · subst hp; omega
    · have := this (by omega) (by omega) (by omega)
      omega
/-! ### Heap sort -/
/-- From k on none of the children of a node of the heap at f is more than it. -/
def HpAt (xs : List Int) (f hi k : Nat) : Prop := ∀ c, c = 2 * k + 1 ∨ c = 2 * k + 2 → c < hi → g xs (f + c) ≤ g xs (f + k)

theorem c136 {s : Sl} {b : Nat} {w : World} {xs : List Int} {lo hi f : Nat} (h : Ar s b w.heap xs) (hl : f + hi ≤ xs.length) (hlo : lo ≤ 1000000) (hh : ∀ k, lo < k → HpAt xs f hi k) :
    CW Try.prog 136 #[slV s, iv lo, iv hi, iv f] w fun v w' => v = .tuple #[] ∧ ∃ ys, PI f (f + hi) xs ys ∧ (∀ k, lo ≤ k → HpAt ys f hi k) ∧ Ar s b w'.heap ys ∧ CB b w w' := by
  have hll : xs.length ≤ 1000000 := h.2.2.1
  refine F136_ok s lo hi f w _ ⟨fun n x W => ∃ (r : Nat) (ys : List Int), n = hi - r ∧ x = (r : Int) ∧ lo ≤ r ∧ (r = lo ∨ r < hi) ∧ PI f (f + hi) xs ys ∧ (∀ k, lo ≤ k → k ≠ r → HpAt ys f hi k) ∧
    (∀ k, lo ≤ k → r = 2 * k + 1 ∨ r = 2 * k + 2 → ∀ c, c = 2 * r + 1 ∨ c = 2 * r + 2 → c < hi → g ys (f + c) ≤ g ys (f + k)) ∧ Ar s b W.heap ys ∧ CB b w W, ⟨_, lo, xs, rfl, rfl, Nat.le_refl _, .inl rfl, .refl, fun k h1 h2 => hh k (by omega), fun k h1 h2 => by omega, h, Ch.refl _ _⟩, ?_⟩
  rintro n _ W _ ⟨r, ys, rfl, rfl, hlr, hr, hP, hH, hG, hA, hC⟩
  have hyl := hP.len
  unfold F136j1
  rw [wdb (by omega), wp1 (by omega)]
  refine IfB.dec (fun hge => ⟨rfl, ys, hP, fun k hk => ?_, hA, hC⟩) (fun hlt => ?_)
  · by_cases hkr : k = r
    · subst hkr; intro c hc1 hc2; omega
    · exact hH k hk hkr
  have hc1 : 2 * r + 1 < hi := by omega
  rw [wp1 (by omega), wad (by omega), wp1 (by omega)]
  have hCd : CB b w W.drew := hC.then (extDrew W) fun _ _ h => h.elim
  refine ⟨fun x W' => ∃ c : Nat, x = (c : Int) ∧ (c = 2 * r + 1 ∨ c = 2 * r + 2) ∧ c < hi ∧ (∀ d, d = 2 * r + 1 ∨ d = 2 * r + 2 → d < hi → g ys (f + d) ≤ g ys (f + c)) ∧ W' = W.drew, ?_, ?_⟩
  · refine IfB.dec (fun h2 => ?_) (fun h2 => ⟨rfl, 2 * r + 1, rfl, .inl rfl, hc1, fun d hd1 hd2 => ?_, rfl⟩)
    · refine ls (w := W.drew) hA (by omega) (by omega) (by omega) (by omega) (IfB.dec (fun hl1 => ⟨rfl, 2 * r + 1 + 1, rfl, .inr rfl, by omega, fun d hd1 hd2 => ?_, rfl⟩) (fun hl1 => ⟨rfl, 2 * r + 1, rfl, .inl rfl, hc1, fun d hd1 hd2 => ?_, rfl⟩))
      · rw [Int.toNat_natCast, Int.toNat_natCast] at hl1
        rcases hd1 with rfl | rfl
        · rw [show f + (2 * r + 1 + 1) = f + (2 * r + 1) + 1 by omega]; omega
        · exact Int.le_refl _
      · rw [Int.toNat_natCast, Int.toNat_natCast] at hl1
        rcases hd1 with rfl | rfl
        · exact Int.le_refl _
        · rw [show f + (2 * r + 2) = f + (2 * r + 1) + 1 by omega]; omega
    · have : d = 2 * r + 1 := by omega
      subst this; exact Int.le_refl _
  rintro _ _ _ ⟨c, rfl, hc2, hc3, hc4, rfl⟩
  unfold F136j2
  rw [wad (by omega), wad (by omega)]
  have hCd2 : CB b w W.drew.drew := hCd.then (extDrew _) fun _ _ h => h.elim
  have hCd3 : CB b w W.drew.drew.drew := hCd2.then (extDrew _) fun _ _ h => h.elim
  refine ls (w := W.drew.drew) hA (by omega) (by omega) (by omega) (by omega) (IfB.intro (fun hl1 => ⟨rfl, ys, hP, fun k hk => ?_, hA, hCd2⟩) fun hl1 => ?_)
  · simp only [Int.toNat_natCast, Bool.not_eq_true', decide_eq_false_iff_not] at hl1
    by_cases hkr : k = r
    · subst hkr
      intro d hd1 hd2
      have := hc4 d hd1 hd2
      omega
    · exact hH k hk hkr
  · simp only [Int.toNat_natCast, Bool.not_eq_false', decide_eq_true_eq] at hl1
    refine sw (w := W.drew.drew.drew) hA (by omega) (by omega) (by omega) (by omega) fun W3 hA3 hC3 => ⟨rfl, hi - c, by omega, c, _, rfl, rfl, by omega, .inr hc3, .step hP (p := f + r) (q := f + c) (by omega) (by omega) (by omega) (by omega) (by omega), ?_, ?_, hA3, hCd3.trans hC3⟩
    · intro k hk hkc d hd1 hd2
      by_cases hkr : k = r
      · subst hkr
        rw [g_swl (by omega) (by omega)]
        by_cases hdc : d = c
        · subst hdc; rw [g_swq (by omega) (by omega)]; omega
        · rw [g_swo (by omega) (by omega) (by omega) (by omega)]; exact hc4 d hd1 hd2
      · rw [g_swo (i := f + k) (by omega) (by omega) (by omega) (by omega)]
        by_cases hdr : d = r
        · subst hdr
          rw [g_swl (by omega) (by omega)]
          exact hG k hk hd1 c hc2 hc3
        · rw [g_swo (by omega) (by omega) (by omega) (by omega)]
          exact hH k hk hkr d hd1 hd2
    · intro k hk hck d hd1 hd2
      have hkr : k = r := by omega
      subst hkr
      rw [g_swl (by omega) (by omega), g_swo (by omega) (by omega) (by omega) (by omega)]
      exact hH c (by omega) (by omega) d hd1 hd2
end Go.Proofs.Ytopecljhehcldaa.Gx
