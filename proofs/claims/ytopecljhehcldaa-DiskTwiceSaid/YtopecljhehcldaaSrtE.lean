/- Sorting of ints: partitions. -/
import Derived.Test.YtopecljhehcldaaSrtD
namespace Go.Proofs.Ytopecljhehcldaa.Gx
open Go
set_option linter.unusedSimpArgs false
set_option linter.unusedVariables false

structure Pt (a e : Nat) (xs ys : List Int) (v : Int) (Lo : Int → Prop) (i j : Nat) : Prop where
  pi : PI a e xs ys
  len : e ≤ xs.length
  v : g ys a = v
  ai : a + 1 ≤ i
  ij : i ≤ j + 1
  je : j + 1 ≤ e
  lo : ∀ k, a < k → k < i → Lo (g ys k)
  hi : ∀ k, j < k → k < e → ¬ Lo (g ys k)

theorem Pt.up {a e i j : Nat} {xs ys : List Int} {v : Int} {Lo : Int → Prop} (h : Pt a e xs ys v Lo i j) (hij : i ≤ j) (hl : Lo (g ys i)) : Pt a e xs ys v Lo (i + 1) j := by
  have h1 := h.ai
  refine ⟨h.pi, h.len, h.v, by omega, by omega, h.je, fun k h1 h2 => ?_, h.hi⟩
  by_cases hk : k = i
  · subst hk; exact hl
  · exact h.lo k h1 (by omega)
theorem Pt.dn {a e i j : Nat} {xs ys : List Int} {v : Int} {Lo : Int → Prop} (h : Pt a e xs ys v Lo i j) (hij : i ≤ j) (hl : ¬ Lo (g ys j)) : Pt a e xs ys v Lo i (j - 1) := by
  have h1 := h.ai; have h2 := h.je
  refine ⟨h.pi, h.len, h.v, h1, by omega, by omega, h.lo, fun k h1 h2 => ?_⟩
  by_cases hk : k = j
  · subst hk; exact hl
  · exact h.hi k (by omega) h2
theorem Pt.sw {a e i j : Nat} {xs ys : List Int} {v : Int} {Lo : Int → Prop} (h : Pt a e xs ys v Lo i j) (hij : i ≤ j) (h1 : ¬ Lo (g ys i)) (h2 : Lo (g ys j)) : Pt a e xs (swp ys i j) v Lo (i + 1) (j - 1) := by
  have hne : i ≠ j := fun e => h1 (e ▸ h2)
  have hl := h.pi.len; have h3 := h.len; have h4 := h.ai; have h5 := h.je
  refine ⟨.step h.pi (by omega) (by omega) (by omega) (by omega) (by omega), h3, ?_, by omega, by omega, by omega, fun k h6 h7 => ?_, fun k h6 h7 => ?_⟩
  · rw [g_swo (by omega) (by omega) (by omega) (by omega)]; exact h.v
  · by_cases hk : k = i
    · subst hk; rw [g_swl (by omega) (by omega)]; exact h2
    · rw [g_swo (by omega) (by omega) (by omega) (by omega)]; exact h.lo k h6 (by omega)
  · by_cases hk : k = j
    · subst hk; rw [g_swq (by omega) (by omega)]; exact h1
    · rw [g_swo (by omega) (by omega) (by omega) (by omega)]; exact h.hi k (by omega) h7

theorem up133 {s : Sl} {b a e i j : Nat} {w : World} {xs ys : List Int} {v : Int} {y : Int → World → Prop} (hP : Pt a e xs ys v (fun x => x < v) i j) (hA : Ar s b w.heap ys)
    (hy : ∀ (i' : Nat) (w' : World), Pt a e xs ys v (fun x => x < v) i' j → (j < i' ∨ ¬ g ys i' < v) → i ≤ i' → Ext w w' → y (i' : Int) w') :
    ∃ y14 : Nat → Int → World → Prop, (∃ b15, y14 b15 (i : Int) w) ∧ ∀ (b16 : Nat) (n17 : Int) (w18 : World) (_ : Nat → Value), y14 b16 n17 w18 → IfB (decide (n17 ≤ (j : Int))) (F133k2 s n17 w18 a b16 y14 y) (([] : List Nat) = [] ∧ y n17 w18.drew) := by
  refine ⟨fun n x W => ∃ i' : Nat, n = j + 1 - i' ∧ x = (i' : Int) ∧ i ≤ i' ∧ Pt a e xs ys v (fun x => x < v) i' j ∧ Ext w W, ⟨_, i, rfl, rfl, Nat.le_refl _, hP, Ch.refl _ _⟩, ?_⟩
  rintro _ _ W _ ⟨i', rfl, rfl, hii, hP', hW⟩
  have hl := hP'.pi.len; have h3 := hP'.len; have h4 := hP'.ai; have h5 := hP'.je; have h6 := hA.2.2.1
  have hd := hW.trans (extDrew W)
  refine IfB.dec (fun hle => ?_) (fun hgt => ⟨rfl, hy i' _ hP' (.inl (by omega)) hii hd⟩)
  have hle : i' ≤ j := by omega
  refine ls (w := W.drew) (hA.ch hd id) (by omega) (by omega) (by omega) (by omega) (IfB.dec (fun hl1 => ?_) (fun hl1 => ⟨rfl, hy i' _ hP' (.inr ?_) hii hd⟩))
  · rw [Int.toNat_natCast, Int.toNat_natCast, hP'.v] at hl1
    exact ⟨rfl, _, by omega, i' + 1, rfl, wp1 (by omega), by omega, hP'.up hle hl1, hd⟩
  · rw [Int.toNat_natCast, Int.toNat_natCast, hP'.v] at hl1; exact hl1

theorem dn133 {s : Sl} {b a e i j : Nat} {w : World} {xs ys : List Int} {v : Int} {y : Int → World → Prop} (hP : Pt a e xs ys v (fun x => x < v) i j) (hA : Ar s b w.heap ys)
    (hy : ∀ (j' : Nat) (w' : World), Pt a e xs ys v (fun x => x < v) i j' → (j' < i ∨ g ys j' < v) → j' ≤ j → Ext w w' → y (j' : Int) w') :
    ∃ y14 : Nat → Int → World → Prop, (∃ b15, y14 b15 (j : Int) w) ∧ ∀ (b16 : Nat) (n17 : Int) (w18 : World) (_ : Nat → Value), y14 b16 n17 w18 → IfB (decide ((i : Int) ≤ n17)) (F133k1 s n17 w18 a b16 y14 y) (([] : List Nat) = [] ∧ y n17 w18.drew) := by
  refine ⟨fun n x W => ∃ j' : Nat, j' = n ∧ x = (j' : Int) ∧ j' ≤ j ∧ Pt a e xs ys v (fun x => x < v) i j' ∧ Ext w W, ⟨_, j, rfl, rfl, Nat.le_refl _, hP, Ch.refl _ _⟩, ?_⟩
  rintro _ _ W _ ⟨j', rfl, rfl, hjj, hP', hW⟩
  have hl := hP'.pi.len; have h3 := hP'.len; have h4 := hP'.ai; have h5 := hP'.je; have h6 := hA.2.2.1
  have hd := hW.trans (extDrew W)
  refine IfB.dec (fun hle => ?_) (fun hgt => ⟨rfl, hy j' _ hP' (.inl (by omega)) hjj hd⟩)
  have hle : i ≤ j' := by omega
  refine ls (w := W.drew) (hA.ch hd id) (by omega) (by omega) (by omega) (by omega) (IfB.intro (fun hl1 => ?_) (fun hl1 => ⟨rfl, hy j' _ hP' (.inr ?_) hjj hd⟩))
  · simp only [Int.toNat_natCast, hP'.v, Bool.not_eq_true', decide_eq_false_iff_not] at hl1
    exact ⟨rfl, j' - 1, by omega, j' - 1, rfl, wm1 (by omega) (by omega), by omega, hP'.dn hle hl1, hd⟩
  · simp only [Int.toNat_natCast, hP'.v, Bool.not_eq_false', decide_eq_true_eq] at hl1; exact hl1

theorem c133 {s : Sl} {b : Nat} {w : World} {xs : List Int} {a e p : Nat} (h : Ar s b w.heap xs) (he : e ≤ xs.length) (hp : a ≤ p ∧ p < e) :
    CW Try.prog 133 #[slV s, iv a, iv e, iv p] w fun v w' => ∃ (m : Nat) (t : Bool), v = .tuple #[iv m, .bool t] ∧ (a ≤ m ∧ m < e) ∧ ∃ ys, PI a e xs ys ∧ (∀ k, a ≤ k → k < m → g ys k < g ys m) ∧ (∀ k, m < k → k < e → g ys m ≤ g ys k) ∧ Ar s b w'.heap ys ∧ CB b w w' := by
  have hl := h.2.2.1
  refine F133_ok s a e p w _ ?_
  have hCd : CB b w w.drew := (extDrew w).mono fun _ _ h => h.elim
  refine sw (w := w.drew) h (by omega) (by omega) (by omega) (by omega) fun w12 h12 C12 => ?_
  rw [Int.toNat_natCast, Int.toNat_natCast] at h12
  have C12 := hCd.trans C12
  have hP0 : Pt a e xs (swp xs a p) (g (swp xs a p) a) (fun x => x < g (swp xs a p) a) (a + 1) (e - 1) :=
    ⟨.step .refl (by omega) (by omega) (by omega) (by omega) he, he, rfl, by omega, by omega, by omega, fun k h1 h2 => by omega, fun k h1 h2 => by omega⟩
  generalize swp xs a p = ys0 at hP0 h12
  generalize g ys0 a = v at hP0
  have fin : ∀ {ys : List Int} {j : Nat} {W : World} {t : Bool}, Pt a e xs ys v (fun x => x < v) (j + 1) j → Ar s b W.heap ys → CB b w W →
      ∀ W2 : World, Ar s b W2.heap (swp ys j a) → CB b W W2 → ∃ (m : Nat) (t' : Bool), Value.tuple #[iv j, .bool t] = .tuple #[iv m, .bool t'] ∧ (a ≤ m ∧ m < e) ∧ ∃ ys, PI a e xs ys ∧ (∀ k, a ≤ k → k < m → g ys k < g ys m) ∧ (∀ k, m < k → k < e → g ys m ≤ g ys k) ∧ Ar s b W2.heap ys ∧ CB b w W2 := by
    intro ys j W t hP hA hC W2 hA2 hC2
    have hyl := hP.pi.len; have h4 := hP.ai; have h5 := hP.je
    have gj : g (swp ys j a) j = v := by rw [g_swl (by omega) (by omega)]; exact hP.v
    refine ⟨j, t, rfl, by omega, _, .step hP.pi (by omega) (by omega) (by omega) (by omega) (by omega), fun k h1 h2 => ?_, fun k h1 h2 => ?_, hA2, hC.trans hC2⟩
    · rw [gj]
      by_cases hk : k = a
      · subst hk; rw [g_swq (by omega) (by omega)]; exact hP.lo j (by omega) (by omega)
      · rw [g_swo (by omega) (by omega) (by omega) (by omega)]; exact hP.lo k (by omega) (by omega)
    · rw [gj, g_swo (by omega) (by omega) (by omega) (by omega)]
      have := hP.hi k h1 h2
      omega
  refine ⟨fun x W => ∃ i : Nat, x = (i : Int) ∧ Pt a e xs ys0 v (fun x => x < v) i (e - 1) ∧ (e - 1 < i ∨ ¬ g ys0 i < v) ∧ Ar s b W.heap ys0 ∧ CB b w W, ?_, ?_⟩
  · unfold F133j1
    rw [wp1 (by omega), wm1 (by omega) (by omega)]
    exact up133 hP0 h12 fun i' w' h1 h2 _ h3 => ⟨i', rfl, h1, h2, h12.ch h3 id, C12.then h3 fun _ _ h => h.elim⟩
  rintro _ W _ ⟨i, rfl, hP, hi, hA, hC⟩
  refine ⟨fun x W' => ∃ j : Nat, x = (j : Int) ∧ Pt a e xs ys0 v (fun x => x < v) i j ∧ (j < i ∨ g ys0 j < v) ∧ (j < i ∨ ¬ g ys0 i < v) ∧ Ar s b W'.heap ys0 ∧ CB b w W', ?_, ?_⟩
  · unfold F133j3
    rw [wm1 (by omega) (by omega)]
    exact dn133 hP hA fun j' w' h1 h2 h3 h4 => ⟨j', rfl, h1, h2, by omega, hA.ch h4 id, hC.then h4 fun _ _ h => h.elim⟩
  rintro _ W1 _ ⟨j, rfl, hP1, hj1, hj2, hA1, hC1⟩
  have hyl := hP1.pi.len; have h4 := hP1.ai; have h5 := hP1.je; have h6 := hP1.ij
  have hC1d : CB b w W1.drew := hC1.then (extDrew W1) fun _ _ h => h.elim
  unfold F133j4
  refine IfB.dec (fun hlt => ?_) (fun hge => ?_)
  · have hij : i = j + 1 := by omega
    subst hij
    refine sw (w := W1.drew) hA1 (by omega) (by omega) (by omega) (by omega) fun W2 h2 C2 => ?_
    rw [Int.toNat_natCast, Int.toNat_natCast] at h2
    exact fin (W := W1.drew) hP1 hA1 hC1d W2 h2 C2
  · have hij : i ≤ j := by omega
    refine sw (w := W1.drew) hA1 (by omega) (by omega) (by omega) (by omega) fun W2 h2 C2 => ?_
    rw [Int.toNat_natCast, Int.toNat_natCast] at h2
    have hP2 := hP1.sw hij (by omega) (by omega)
    have C2 := hC1d.trans C2
    refine ⟨fun n x W => ∃ (i j : Nat) (ys : List Int), n = j + 1 - i ∧ x = ((i : Int), (j : Int)) ∧ Pt a e xs ys v (fun x => x < v) i j ∧ Ar s b W.heap ys ∧ CB b w W, ⟨_, i + 1, j - 1, _, rfl, by rw [wp1 (by omega), wm1 (by omega) (by omega)], hP2, h2, C2⟩, ?_⟩
    rintro _ _ W3 _ ⟨i3, j3, ys3, rfl, rfl, hP3, hA3, hC3⟩
    unfold F133j5
    refine ⟨fun x W => ∃ i : Nat, x = (i : Int) ∧ i3 ≤ i ∧ Pt a e xs ys3 v (fun x => x < v) i j3 ∧ (j3 < i ∨ ¬ g ys3 i < v) ∧ Ar s b W.heap ys3 ∧ CB b w W, ?_, ?_⟩
    · exact up133 hP3 hA3 fun i' w' h1 h2 h3 h4 => ⟨i', rfl, h3, h1, h2, hA3.ch h4 id, hC3.then h4 fun _ _ h => h.elim⟩
    rintro _ W4 _ ⟨i4, rfl, hi34, hP4, hi4, hA4, hC4⟩
    refine ⟨fun x W' => ∃ j : Nat, x = (j : Int) ∧ j ≤ j3 ∧ Pt a e xs ys3 v (fun x => x < v) i4 j ∧ (j < i4 ∨ g ys3 j < v) ∧ (j < i4 ∨ ¬ g ys3 i4 < v) ∧ Ar s b W'.heap ys3 ∧ CB b w W', ?_, ?_⟩
    · exact dn133 hP4 hA4 fun j' w' h1 h2 h3 h4 => ⟨j', rfl, h3, h1, h2, by omega, hA4.ch h4 id, hC4.then h4 fun _ _ h => h.elim⟩
    rintro _ W5 _ ⟨j5, rfl, hj5, hP5, hj51, hj52, hA5, hC5⟩
    have hyl := hP5.pi.len; have h4 := hP5.ai; have h5 := hP5.je; have h6 := hP5.ij
    have hC5d : CB b w W5.drew := hC5.then (extDrew W5) fun _ _ h => h.elim
    unfold F133j9
    refine IfB.dec (fun hlt => ?_) (fun hge => ?_)
    · have hij : i4 = j5 + 1 := by omega
      subst hij
      refine sw (w := W5.drew) hA5 (by omega) (by omega) (by omega) (by omega) fun W6 h6 C6 => ?_
      rw [Int.toNat_natCast, Int.toNat_natCast] at h6
      exact fin (W := W5.drew) hP5 hA5 hC5d W6 h6 C6
    · have hij : i4 ≤ j5 := by omega
      refine sw (w := W5.drew) hA5 (by omega) (by omega) (by omega) (by omega) fun W6 h6 C6 => ?_
      rw [Int.toNat_natCast, Int.toNat_natCast] at h6
      exact ⟨rfl, _, by omega, i4 + 1, j5 - 1, _, rfl, by rw [wp1 (by omega), wm1 (by omega) (by omega)], hP5.sw hij (by omega) (by omega), h6, hC5d.trans C6⟩
end Go.Proofs.Ytopecljhehcldaa.Gx
