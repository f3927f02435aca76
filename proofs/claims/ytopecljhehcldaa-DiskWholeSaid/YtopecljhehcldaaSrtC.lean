/- Sorting of ints: heap sort; reverse; the choice of a pivot. -/
import Derived.Test.YtopecljhehcldaaSrtB
namespace Go.Proofs.Ytopecljhehcldaa.Gx
open Go
set_option linter.unusedSimpArgs false
set_option linter.unusedVariables false

theorem heap_max {xs : List Int} {f hi : Nat} (h : ∀ k, HpAt xs f hi k) (p : Nat) (hp : p < hi) : g xs (f + p) ≤ g xs f := by
  induction p using Nat.strongRecOn with
  | _ p ih =>
    by_cases h0 : p = 0
    · subst h0; exact Int.le_refl _
    · have h1 := h ((p - 1) / 2) p (by omega) hp
      have h2 := ih ((p - 1) / 2) (by omega) (by omega)
      omega

theorem c126 {s : Sl} {b : Nat} {w : World} {xs : List Int} {a e : Nat} (h : Ar s b w.heap xs) (he : e ≤ xs.length) (ha : a ≤ e) :
    CW Try.prog 126 #[slV s, iv a, iv e] w fun v w' => v = .tuple #[] ∧ ∃ ys, PI a e xs ys ∧ SO ys a e ∧ Ar s b w'.heap ys ∧ CB b w w' := by
  have hl : xs.length ≤ 1000000 := h.2.2.1
  refine F126_ok s a e w _ ⟨by decide, ?_⟩
  have hea : a + (e - a) = e := by omega
  rw [wsb ha (by omega)]
  generalize hhi : e - a = hi at hea
  refine ⟨fun n x W => ∃ (i : Nat) (ys : List Int), i = n ∧ x = (i : Int) - 1 ∧ i ≤ hi + 1 ∧ PI a e xs ys ∧ (∀ k, i ≤ k → HpAt ys a hi k) ∧ Ar s b W.heap ys ∧ CB b w W, ⟨_, (if hi = 0 then 1 else (hi - 1) / 2 + 1), xs, rfl, ?_, ?_, .refl, ?_, h, Ch.refl _ _⟩, ?_⟩
  · rw [wrap_of (n := (hi : Int) - 1) (by omega) (by omega)]
    split
    · rename_i h0; subst h0; decide
    · rename_i h0
      rw [Int.tdiv_eq_ediv_of_nonneg (by omega), wrap_of (by omega) (by omega)]
      omega
  · split <;> omega
  · intro k hk c hc1 hc2
    split at hk <;> omega
  rintro n _ W _ ⟨i, ys, rfl, rfl, hi1, hP, hH, hA, hC⟩
  have hyl := hP.len
  unfold F126j1
  refine IfB.dec (fun hge => ?_) (fun hlt => ?_)
  · rw [show ((i : Int) - 1) = ((i - 1 : Nat) : Int) by omega, wsb ha (by omega), hhi]
    refine (c136 hA (by omega) (by omega) fun k hk => hH k (by omega)).use ?_
    rintro _ W2 ⟨rfl, zs, hP2, hH2, hA2, hC2⟩
    rw [hea] at hP2
    exact ⟨(), rfl, rfl, i - 1, by omega, i - 1, zs, rfl, by rw [wrap_of (by omega) (by omega)], by omega, hP.trans hP2, hH2, hA2, hC.trans hC2⟩
  · have hi0 : i = 0 := by omega
    subst hi0
    refine ⟨fun n x W' => ∃ (i : Nat) (zs : List Int), i = n ∧ x = (i : Int) - 1 ∧ i ≤ hi ∧ PI a e xs zs ∧ (∀ k, HpAt zs a i k) ∧ (∀ p q, i ≤ p → p < q → q < hi → g zs (a + p) ≤ g zs (a + q)) ∧ (∀ p q, p < i → i ≤ q → q < hi → g zs (a + p) ≤ g zs (a + q)) ∧ Ar s b W'.heap zs ∧ CB b w W', ⟨_, hi, ys, rfl, ?_, Nat.le_refl _, hP, fun k => hH k (Nat.zero_le _), fun p q _ _ _ => by omega, fun p q _ _ _ => by omega, hA, hC⟩, ?_⟩
    · rw [wsb ha (by omega), hhi, wrap_of (by omega) (by omega)]
    rintro n _ W1 _ ⟨i, zs, rfl, rfl, hi2, hP1, hH1, hS1, hX1, hA1, hC1⟩
    have hzl := hP1.len
    unfold F126j2
    refine IfB.dec (fun hge => ?_) (fun hlt => ⟨rfl, zs, hP1, fun p q h1 h2 h3 => ?_, hA1, hC1⟩)
    · obtain ⟨m, rfl⟩ : ∃ m, i = m + 1 := ⟨i - 1, by omega⟩
      rw [show (((m + 1 : Nat) : Int) - 1) = (m : Int) by omega, wad (by omega)]
      have hCd : CB b w W1.drew := hC1.then (extDrew W1) fun _ _ h => h.elim
      refine sw (w := W1.drew) hA1 (by omega) (by omega) (by omega) (by omega) fun W2 hA2 hC2 => ?_
      rw [Int.toNat_natCast, Int.toNat_natCast] at hA2
      have hP2 : PI a e xs (swp zs a (a + m)) := .step hP1 (by omega) (by omega) (by omega) (by omega) (by omega)
      have g0 : ∀ p, 0 < p → p < m → g (swp zs a (a + m)) (a + p) = g zs (a + p) := fun p h1 h2 => g_swo (by omega) (by omega) (by omega) (by omega)
      have gm : g (swp zs a (a + m)) (a + m) = g zs a := g_swq (by omega) (by omega)
      have gz : g (swp zs a (a + m)) a = g zs (a + m) := g_swl (by omega) (by omega)
      have gb : ∀ q, m < q → g (swp zs a (a + m)) (a + q) = g zs (a + q) := fun q h1 => g_swo (by omega) (by omega) (by omega) (by omega)
      refine (c136 (lo := 0) hA2 (by rw [swp_len]; omega) (by omega) fun k hk c hc1 hc2 => ?_).use ?_
      · rw [g0 k hk (by omega), g0 c (by omega) hc2]
        exact hH1 k c hc1 (by omega)
      rintro _ W3 ⟨rfl, us, hP3, hH3, hA3, hC3⟩
      have hmax := heap_max hH1
      have hP3' : PI a e (swp zs a (a + m)) us := hP3.mono (Nat.le_refl _) (by omega) (by rw [swp_len]; omega)
      have ub : ∀ q, m ≤ q → g us (a + q) = g (swp zs a (a + m)) (a + q) := fun q hq => hP3.out (.inr (by omega))
      refine ⟨(), rfl, rfl, m, by omega, m, us, rfl, by rw [wrap_of (by omega) (by omega)], by omega, hP2.trans hP3', fun k => hH3 k (Nat.zero_le _), ?_, ?_, hA3, (hCd.trans hC2).trans hC3⟩
      · intro p q h1 h2 h3
        rw [ub p h1, ub q (by omega), gb q (by omega)]
        by_cases hp : p = m
        · subst hp; rw [gm]
          have := hX1 0 q (by omega) (by omega) h3
          exact this
        · rw [gb p (by omega)]; exact hS1 p q (by omega) h2 h3
      · intro p q h1 h2 h3
        have hQ : ∀ i, a ≤ i → i < a + m → (fun v => v ≤ g us (a + q)) (g us i) := by
          refine hP3.all (Q := fun v => v ≤ g us (a + q)) fun i h4 h5 => ?_
          show _ ≤ g us (a + q)
          rw [ub q h2]
          obtain ⟨t, rfl⟩ : ∃ t, i = a + t := ⟨i - a, by omega⟩
          have h6 : g (swp zs a (a + m)) (a + t) = g zs (a + t) ∨ g (swp zs a (a + m)) (a + t) = g zs (a + m) := by
            by_cases ht : t = 0
            · subst ht; exact .inr gz
            · exact .inl (g0 t (by omega) (by omega))
          by_cases hq : q = m
          · subst hq
            rw [gm]
            have h7 := hmax t (by omega)
            have h8 := hmax q (by omega)
            rcases h6 with h6 | h6 <;> omega
          · rw [gb q (by omega)]
            have h7 := hX1 t q (by omega) (by omega) h3
            have h8 := hX1 m q (by omega) (by omega) h3
            rcases h6 with h6 | h6 <;> omega
        exact hQ _ (by omega) (by omega)
    · obtain ⟨p', rfl⟩ : ∃ t, p = a + t := ⟨p - a, by omega⟩
      obtain ⟨q', rfl⟩ : ∃ t, q = a + t := ⟨q - a, by omega⟩
      exact hS1 p' q' (by omega) (by omega) (by omega)

theorem c129 {s : Sl} {b : Nat} {w : World} {xs : List Int} {a e : Nat} (h : Ar s b w.heap xs) (he : e ≤ xs.length) (ha : a < e) :
    CW Try.prog 129 #[slV s, iv a, iv e] w fun v w' => v = .tuple #[] ∧ ∃ ys, PI a e xs ys ∧ Ar s b w'.heap ys ∧ CB b w w' := by
  have hl : xs.length ≤ 1000000 := h.2.2.1
  refine F129_ok s a e w _ ⟨fun n x W => ∃ (i j : Nat) (ys : List Int), n = j ∧ x = ((i : Int), (j : Int)) ∧ a ≤ i ∧ j < e ∧ i ≤ j + 1 ∧ PI a e xs ys ∧ Ar s b W.heap ys ∧ CB b w W, ⟨_, a, e - 1, xs, rfl, by rw [wm1 (by omega) (by omega)], Nat.le_refl _, by omega, by omega, .refl, h, Ch.refl _ _⟩, ?_⟩
  rintro n _ W _ ⟨i, j, ys, rfl, rfl, hai, hje, hij, hP, hA, hC⟩
  have hyl := hP.len
  unfold F129j1
  refine IfB.dec (fun hlt => ?_) (fun hge => ⟨rfl, ys, hP, hA, hC⟩)
  have hlt : i < n := by
    have : (i : Int) < (n : Int) := hlt
    omega
  have hCd : CB b w W.drew := hC.then (extDrew W) fun _ _ h => h.elim
  refine sw (w := W.drew) hA (p := (i : Int)) (q := (n : Int)) (by omega) (by omega) (by omega) (by omega) fun W2 hA2 hC2 => ?_
  rw [Int.toNat_natCast, Int.toNat_natCast] at hA2
  exact ⟨rfl, n - 1, by omega, i + 1, n - 1, _, rfl, by rw [← wp1 (by omega), ← wm1 (by omega) (by omega)], by omega, by omega, by omega, .step hP (by omega) (by omega) (by omega) (by omega) (by omega), hA2, hCd.trans hC2⟩
end Go.Proofs.Ytopecljhehcldaa.Gx
