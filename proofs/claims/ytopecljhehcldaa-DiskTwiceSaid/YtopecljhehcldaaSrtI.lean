/- Sorting of ints: the random turns; pdqsort; slices.Sort. -/
import Derived.Test.YtopecljhehcldaaSrtH
namespace Go.Proofs.Ytopecljhehcldaa.Gx
open Go
set_option linter.unusedSimpArgs false
set_option linter.unusedVariables false

theorem c127 {s : Sl} {b : Nat} {w : World} {xs : List Int} {a e : Nat} (h : Ar s b w.heap xs) (he : e ≤ xs.length) (ha : a + 12 < e) :
    CW Try.prog 127 #[slV s, iv a, iv e] w fun v w' => v = .tuple #[] ∧ ∃ ys, PI a e xs ys ∧ Ar s b w'.heap ys ∧ CB b w w' := by
  have hl := h.2.2.1
  have hlt := h.lt
  refine F127_ok s a e w _ ?_
  unfold F127
  rw [wsb (by omega) (by omega)]
  refine IfB.yes (decide_eq_true (by omega)) ?_
  intro b1 w2 h2
  have p2 := h2.here; have z2 := h2.size
  rw [wu64 (by omega)]
  refine ⟨rfl, store_all h2.new rfl (by intro u hu; simp at hu; subst hu; rfl) fun w3 h3 => ?_⟩
  have e3 : Ext w w3 := Ext.fresh h2 h3
  have hne : b1 ≠ b := by omega
  refine (c137 (x := e - a) (by omega) w3).use ?_
  rintro _ _ ⟨L, rfl, hL, rfl⟩
  have hq : IntKind.i64.wrap ((((e - a : Nat) : Int)).tdiv (4 : Int)) = (((e - a) / 4 : Nat) : Int) := by
    rw [Int.tdiv_eq_ediv_of_nonneg (by omega), wrap_of (by omega) (by omega)]; omega
  obtain ⟨hL1, hL2, hL3⟩ := hL
  obtain ⟨hL4, hL5⟩ := hL2 (by omega)
  have h2L : 2 ^ L ≤ 2 * (e - a) := by
    have : 2 ^ L = 2 ^ (L - 1) * 2 := by rw [← Nat.pow_succ]; congr 1; omega
    omega
  have hLpos : 0 < 2 ^ L := Nat.pow_pos (by decide)
  generalize 2 ^ L = M at *
  rw [hq, wmul (k := (2 : Int)) (m := 2) rfl (by omega) (by omega), wad (by omega), wm1 (by omega) (by omega)]
  generalize hqq : (e - a) / 4 = q at *
  refine ⟨_, rfl, by decide, fun n x W => ∃ (i : Nat) (ys : List Int), n = a + q * 2 + 2 - i ∧ x = (i : Int) ∧ (a + q * 2 - 1 ≤ i ∧ i ≤ a + q * 2 + 2) ∧ PI a e xs ys ∧ Ar s b W.heap ys ∧ Ct .u64 b1 W ∧ CB b w W, ⟨_, _, xs, rfl, rfl, by omega, .refl, h.ch e3 id, ⟨_, _, h3.new⟩, e3.mono fun _ _ h => h.elim⟩, ?_⟩
  rintro _ _ W _ ⟨i, ys, rfl, rfl, hi, hP, hA, hK, hC⟩
  have hyl := hP.len
  unfold F127j1
  rw [wsb (by omega) (by omega), hq, wmul (k := (2 : Int)) (m := 2) rfl (by omega) (by omega), wad (by omega), wp1 (by omega)]
  refine ⟨by decide, IfB.dec (fun hle => ?_) (fun hgt => ⟨rfl, ys, hP, hA, hC⟩)⟩
  refine (c138 hK).use ?_
  rintro _ w15 ⟨n16, rfl, hK2, hC2⟩
  have hA2 := hA.ch hC2 (Ne.symm hne)
  have hC3 : CB b w w15 := hC.then hC2 fun j hj h => by omega
  have hm : IntKind.u64.wrap ((M : Int) - (1 : Int)) = ((M - 1 : Nat) : Int) := by
    rw [show ((M : Int) - (1 : Int)) = ((M - 1 : Nat) : Int) by omega, wu64 (by omega)]
  obtain ⟨k, hk, hkM⟩ := and_le (n := n16) (m := M - 1) (by omega)
  refine ⟨n16, rfl, fun x W => ∃ t : Nat, x = (t : Int) ∧ t < e - a ∧ w15 = W, ?_, ?_⟩
  · rw [hm, hk, wrap_of (n := (k : Int)) (by omega) (by omega)]
    refine IfB.dec (fun h1 => ⟨rfl, k - (e - a), wsb (by omega) (by omega), by omega, rfl⟩) (fun h1 => ⟨rfl, k, rfl, by omega, rfl⟩)
  rintro _ _ _ ⟨t, rfl, ht, rfl⟩
  unfold F127j2
  rw [wad (by omega)]
  refine sw (w := w15.drew) hA2 (by omega) (by omega) (by omega) (by omega) fun W5 hA5 hC5 => ?_
  rw [Int.toNat_natCast, Int.toNat_natCast] at hA5
  exact ⟨rfl, _, by omega, i + 1, _, rfl, wp1 (by omega), by omega, .step hP (by omega) (by omega) (by omega) (by omega) (by omega), hA5, by
    obtain ⟨T, n, hn⟩ := hK2
    exact ⟨T, n, hC5.at (w := w15.drew) hn hne⟩, hC3.drew.trans hC5⟩

theorem SO.split {ys : List Int} {a m e : Nat} (h1 : SO ys a m) (h2 : SO ys (m + 1) e) (hl : ∀ k, a ≤ k → k < m → g ys k ≤ g ys m) (hr : ∀ k, m < k → k < e → g ys m ≤ g ys k) : SO ys a e := by
  intro p q hp hpq hq
  rcases Nat.lt_trichotomy p m with h | h | h
  · rcases Nat.lt_trichotomy q m with k | k | k
    · exact h1 p q hp hpq k
    · subst k; exact hl p hp h
    · have := hl p hp h; have := hr q k hq; omega
  · subst h; exact hr q hpq hq
  · exact h2 p q (by omega) hpq hq

theorem PI.trans' {a b a' b' : Nat} {xs ys zs : List Int} (h : PI a b xs ys) (k : PI a' b' ys zs) (h1 : a ≤ a') (h2 : b' ≤ b) (h3 : b ≤ xs.length) : PI a b xs zs :=
  h.trans (k.mono h1 h2 (by rw [h.len]; exact h3))
/-- Nothing of [a, e) is less than what stands ahead of a. -/
def LB (xs : List Int) (a e : Nat) : Prop := 0 < a → ∀ k, a ≤ k → k < e → g xs (a - 1) ≤ g xs k
theorem LB.pi {xs ys : List Int} {a e : Nat} (h : LB xs a e) (hP : PI a e xs ys) : LB ys a e := fun h0 k h1 h2 => by
  rw [hP.out (.inl (by omega))]
  exact hP.all (Q := fun v => g xs (a - 1) ≤ v) (fun i h3 h4 => h h0 i h3 h4) k h1 h2

/-- Parted at m. -/
def Pd (ys : List Int) (a m e : Nat) : Prop := (∀ k, a ≤ k → k < m → g ys k ≤ g ys m) ∧ (∀ k, m < k → k < e → g ys m ≤ g ys k)
theorem Pd.left {ys zs : List Int} {a m e : Nat} (h : Pd ys a m e) (hP : PI a m ys zs) : Pd zs a m e := by
  have em : g zs m = g ys m := hP.out (.inr (Nat.le_refl _))
  refine ⟨fun k h1 h2 => ?_, fun k h1 h2 => ?_⟩
  · rw [em]; exact hP.all (Q := fun v => v ≤ g ys m) (fun i h3 h4 => h.1 i h3 h4) k h1 h2
  · rw [em, hP.out (.inr (by omega))]; exact h.2 k h1 h2
theorem Pd.right {ys zs : List Int} {a m e : Nat} (h : Pd ys a m e) (hP : PI (m + 1) e ys zs) : Pd zs a m e := by
  have em : g zs m = g ys m := hP.out (.inl (by omega))
  refine ⟨fun k h1 h2 => ?_, fun k h1 h2 => ?_⟩
  · rw [em, hP.out (.inl (by omega))]; exact h.1 k h1 h2
  · rw [em]; exact hP.all (Q := fun v => g ys m ≤ v) (fun i h3 h4 => h.2 i (by omega) h4) k (by omega) h2
theorem SO.keep {ys zs : List Int} {a e a' e' : Nat} (h : SO ys a e) (hP : PI a' e' ys zs) (hd : e ≤ a' ∨ e' ≤ a) : SO zs a e := by
  intro p q h1 h2 h3
  rw [hP.out (by omega), hP.out (by omega)]
  exact h p q h1 h2 h3

theorem c120 (n : Nat) : ∀ {s : Sl} {b : Nat} {w : World} {xs : List Int} {a e : Nat} (lim : Int), e - a = n → Ar s b w.heap xs → e ≤ xs.length → a ≤ e → LB xs a e →
    CW Try.prog 120 #[slV s, iv a, iv e, iv lim] w fun v w' => v = .tuple #[] ∧ ∃ ys, PI a e xs ys ∧ SO ys a e ∧ Ar s b w'.heap ys ∧ CB b w w' := by
  induction n using Nat.strongRecOn with
  | _ n ih =>
  intro s b w xs a e lim hn h he hae hLB
  have hl := h.2.2.1
  refine F120_ok s a e lim w _ ⟨fun k x W => ∃ (a' e' : Nat) (lm : Int) (wb wp : Bool) (ys : List Int), k = e' - a' ∧ x = ((a' : Int), (e' : Int), lm, wb, wp) ∧ (a ≤ a' ∧ a' ≤ e' ∧ e' ≤ e) ∧ PI a e xs ys ∧ LB ys a' e' ∧
    (∀ zs, PI a' e' ys zs → SO zs a' e' → SO zs a e) ∧ Ar s b W.heap ys ∧ CB b w W, ⟨_, a, e, lim, true, true, xs, rfl, rfl, by omega, .refl, hLB, fun _ _ h => h, h, Ch.refl _ _⟩, ?_⟩
  rintro _ _ W _ ⟨a', e', lm, wb, wp, ys, rfl, rfl, hae', hP, hB, hG, hA, hC⟩
  have hyl := hP.len
  have up : ∀ {zs}, PI a' e' ys zs → PI a e xs zs := fun k => hP.trans' k (by omega) (by omega) he
  unfold F120j1
  dsimp only
  rw [wsb (by omega) (by omega)]
  refine IfB.dec (fun h12 => ?_) (fun h12 => ?_)
  · refine (c125 hA (by omega) (by omega)).use ?_
    rintro _ W2 ⟨rfl, zs, hP2, hS2, hA2, hC2⟩
    exact ⟨(), rfl, rfl, zs, up hP2, hG zs hP2 hS2, hA2, hC.trans hC2⟩
  have hbig : a' + 12 < e' := by omega
  refine IfB.intro (fun _ => ?_) (fun _ => ?_)
  · refine (c126 hA (by omega) (by omega)).use ?_
    rintro _ W2 ⟨rfl, zs, hP2, hS2, hA2, hC2⟩
    exact ⟨(), rfl, rfl, zs, up hP2, hG zs hP2 hS2, hA2, hC.trans hC2⟩
  refine ⟨fun _ W => ∃ zs, PI a' e' ys zs ∧ Ar s b W.heap zs ∧ CB b w W, ?_, ?_⟩
  · refine IfB.intro (fun _ => ?_) (fun _ => ⟨rfl, ys, .refl, hA, hC⟩)
    refine (c127 hA (by omega) hbig).use ?_
    rintro _ W2 ⟨rfl, zs, hP2, hA2, hC2⟩
    exact ⟨(), rfl, rfl, zs, hP2, hA2, hC.trans hC2⟩
  rintro lm2 W2 _ ⟨zs, hP2, hA2, hC2⟩
  have hzl := hP2.len
  unfold F120j2
  dsimp only
  refine (c128 hA2 (by omega) hbig).use ?_
  rintro _ W3 ⟨p, t, rfl, hp, hA3, e3⟩
  have hC3 : CB b w W3 := hC2.then e3 fun _ _ h => h.elim
  refine ⟨((p : Int), t), rfl, fun x W => ∃ (p : Nat) (us : List Int), x.1 = (p : Int) ∧ (a' ≤ p ∧ p < e') ∧ PI a' e' ys us ∧ Ar s b W.heap us ∧ CB b w W, ?_, ?_⟩
  · refine IfB.intro (fun _ => ?_) (fun _ => ⟨rfl, p, zs, rfl, hp, hP2, hA3, hC3⟩)
    refine (c129 hA3 (by omega) (by omega)).use ?_
    rintro _ W4 ⟨rfl, us, hP4, hA4, hC4⟩
    refine ⟨(), rfl, rfl, e' - 1 - (p - a'), us, ?_, by omega, hP2.trans hP4, hA4, hC3.trans hC4⟩
    show IntKind.i64.wrap (IntKind.i64.wrap ((e' : Int) - 1) - IntKind.i64.wrap ((p : Int) - (a' : Int))) = _
    rw [wm1 (by omega) (by omega), wsb (by omega) (by omega), wsb (by omega) (by omega)]
  rintro ⟨_, t2⟩ W5 _ ⟨p, us, rfl, hp, hP5, hA5, hC5⟩
  have hul := hP5.len
  unfold F120j3
  dsimp only
  refine ⟨fun _ W => ∃ us, PI a' e' ys us ∧ Ar s b W.heap us ∧ CB b w W, ?_, ?_⟩
  · refine IfB.intro (fun _ => IfB.intro (fun _ => IfB.intro (fun _ => ?_) (fun _ => ⟨rfl, us, hP5, hA5, hC5⟩)) (fun _ => ⟨rfl, us, hP5, hA5, hC5⟩)) (fun _ => ⟨rfl, us, hP5, hA5, hC5⟩)
    refine (c130 hA5 (by omega) (by omega) (hB.pi hP5)).use ?_
    rintro _ W6 ⟨t, rfl, vs, hP6, hS6, hA6, hC6⟩
    exact ⟨t, rfl, IfB.intro (fun ht => ⟨rfl, vs, up (hP5.trans hP6), hG vs (hP5.trans hP6) (hS6 ht), hA6, hC5.trans hC6⟩) (fun _ => ⟨rfl, vs, hP5.trans hP6, hA6, hC5.trans hC6⟩)⟩
  rintro _ W7 _ ⟨us, hP7, hA7, hC7⟩
  have hul := hP7.len
  have hB7 := hB.pi hP7
  have hG7 : ∀ zs, PI a' e' us zs → SO zs a' e' → SO zs a e := fun zs k => hG zs (hP7.trans k)
  have part : ∀ {W8 : World}, W8.heap = W7.heap → CB b w W8 → CX Try.prog 133 #[slV s, iv a', iv e', iv p] W8 fun v65 w66 => ∃ x67 : Int × Bool, v65 = .tuple #[.int .i64 x67.1, .bool x67.2] ∧ ¬(8 : Int) = 0 ∧
      IfB (decide (IntKind.i64.wrap (x67.fst - (a' : Int)) < IntKind.i64.wrap ((e' : Int) - x67.fst))) (F120k2 s ((a' : Int), (e' : Int), lm, wb, wp) x67 lm2 w66 (e' - a') (fun k x W => ∃ (a' e' : Nat) (lm : Int) (wb wp : Bool) (ys : List Int), k = e' - a' ∧ x = ((a' : Int), (e' : Int), lm, wb, wp) ∧ (a ≤ a' ∧ a' ≤ e' ∧ e' ≤ e) ∧ PI a e xs ys ∧ LB ys a' e' ∧
    (∀ zs, PI a' e' ys zs → SO zs a' e' → SO zs a e) ∧ Ar s b W.heap ys ∧ CB b w W))
       (F120k1 s x67 ((a' : Int), (e' : Int), lm, wb, wp) lm2 w66 (e' - a') (fun k x W => ∃ (a' e' : Nat) (lm : Int) (wb wp : Bool) (ys : List Int), k = e' - a' ∧ x = ((a' : Int), (e' : Int), lm, wb, wp) ∧ (a ≤ a' ∧ a' ≤ e' ∧ e' ≤ e) ∧ PI a e xs ys ∧ LB ys a' e' ∧
    (∀ zs, PI a' e' ys zs → SO zs a' e' → SO zs a e) ∧ Ar s b W.heap ys ∧ CB b w W)) := by
    intro W8 hW8 hC8
    have hA8 : Ar s b W8.heap us := by rw [hW8]; exact hA7
    refine (c133 hA8 (by omega) hp).use ?_
    rintro _ W9 ⟨m, t, rfl, hm, vs, hP9, h1, h2, hA9, hC9⟩
    have hvl := hP9.len
    have hPd : Pd vs a' m e' := ⟨fun k h3 h4 => Int.le_of_lt (h1 k h3 h4), h2⟩
    have hB9 := hB7.pi hP9
    have hC9 := hC8.trans hC9
    refine ⟨((m : Int), t), rfl, by decide, IfB.intro (fun _ => ?_) (fun _ => ?_)⟩
    · unfold F120k2
      refine (ih (m - a') (by omega) lm2 rfl hA9 (by omega) (by omega) fun h0 k h3 h4 => hB9 h0 k h3 (by omega)).use ?_
      rintro _ W10 ⟨rfl, ts, hP10, hS10, hA10, hC10⟩
      have hPd2 := hPd.left hP10
      refine ⟨(), rfl, rfl, e' - (m + 1), by omega, m + 1, e', _, _, _, ts, rfl, by rw [wp1 (by omega)], by omega, hP.trans' (hP7.trans (hP9.trans' hP10 (by omega) (by omega) (by omega))) (by omega) (by omega) he, fun _ k h3 h4 => hPd2.2 k (by omega) h4, fun zs hz hSz => ?_, hA10, hC9.trans hC10⟩
      have hPz : PI a' e' us zs := (hP9.trans' hP10 (by omega) (by omega) (by omega)).trans' hz (by omega) (by omega) (by omega)
      have hPd3 := hPd2.right hz
      exact hG7 zs hPz ((hS10.keep hz (.inl (by omega))).split hSz hPd3.1 hPd3.2)
    · unfold F120k1
      dsimp only
      rw [wp1 (by omega)]
      refine (ih (e' - (m + 1)) (by omega) lm2 rfl hA9 (by omega) (by omega) fun h0 k h3 h4 => hPd.2 k (by omega) h4).use ?_
      rintro _ W10 ⟨rfl, ts, hP10, hS10, hA10, hC10⟩
      have hPd2 := hPd.right hP10
      have hB10 : LB ts a' m := fun h0 k h3 h4 => by
        rw [hP10.out (.inl (by omega)), hP10.out (.inl (by omega))]
        exact hB9 h0 k h3 (by omega)
      refine ⟨(), rfl, rfl, m - a', by omega, a', m, _, _, _, ts, rfl, rfl, by omega, hP.trans' (hP7.trans (hP9.trans' hP10 (by omega) (by omega) (by omega))) (by omega) (by omega) he, hB10, fun zs hz hSz => ?_, hA10, hC9.trans hC10⟩
      have hPz : PI a' e' us zs := (hP9.trans' hP10 (by omega) (by omega) (by omega)).trans' hz (by omega) (by omega) (by omega)
      have hPd3 := hPd2.left hz
      exact hG7 zs hPz (hSz.split (hS10.keep hz (.inr (by omega))) hPd3.1 hPd3.2)
  unfold F120j4
  dsimp only
  refine IfB.dec (fun h0 => ?_) (fun h0 => part rfl hC7.drew)
  have h0 : 0 < a' := by omega
  rw [wm1 (by omega) (by omega)]
  refine ls (w := W7.drew) hA7 (by omega) (by omega) (by omega) (by omega) (IfB.intro (fun hl1 => ?_) (fun _ => part rfl hC7.drew))
  simp only [Int.toNat_natCast, Bool.not_eq_true', decide_eq_false_iff_not] at hl1
  refine (c132 (w := W7.drew) hA7 (by omega) hp).use ?_
  rintro _ W8 ⟨m, rfl, hm, vs, hP8, hv, h1, h2, hA8, hC8⟩
  have hvl := hP8.len
  have hB8 := hB7.pi hP8
  have ho : g vs (a' - 1) = g us (a' - 1) := hP8.out (.inl (by omega))
  have hv1 : ∀ k, a' ≤ k → k < m → g vs k = g us p := fun k h3 h4 => by
    have := h1 k h3 h4
    have := hB8 h0 k h3 (by omega)
    omega
  refine ⟨_, rfl, rfl, e' - m, by omega, m, e', lm2, wb, wp, vs, rfl, rfl, by omega, up (hP7.trans hP8), fun _ k h3 h4 => ?_, fun zs hz hSz => ?_, hA8, hC7.drew.trans hC8⟩
  · rw [hv1 (m - 1) (by omega) (by omega)]
    have := h2 k h3 h4
    omega
  · have hlow : ∀ k, a' ≤ k → k < m → g zs k = g us p := fun k h3 h4 => by rw [hz.out (.inl h4)]; exact hv1 k h3 h4
    have hhigh : ∀ k, m ≤ k → k < e' → g us p < g zs k := hz.all (Q := fun v => g us p < v) h2
    refine hG7 zs (hP8.trans' hz (by omega) (by omega) (by omega)) fun i j h3 h4 h5 => ?_
    by_cases hj : j < m
    · rw [hlow i h3 (by omega), hlow j (by omega) hj]; exact Int.le_refl _
    · by_cases hi : i < m
      · rw [hlow i h3 hi]
        have := hhigh j (by omega) h5
        omega
      · exact hSz i j (by omega) h4 h5

/-- slices.Sort -/
theorem SO.sorted {ys : List Int} (h : SO ys 0 ys.length) : ys.Pairwise (· ≤ ·) := by
  rw [List.pairwise_iff_getElem]
  intro i j hi hj hij
  have := h i j (Nat.zero_le _) hij hj
  have e1 := g_eq hi; have e2 := g_eq hj
  rw [List.getElem?_eq_getElem hi] at e1
  rw [List.getElem?_eq_getElem hj] at e2
  rw [Option.some.injEq] at e1 e2
  rw [e1, e2]; exact this

theorem c125e (s : Sl) (w : World) : CW Try.prog 125 #[slV s, iv 0, iv 0] w fun v w' => v = .tuple #[] ∧ w = w' := by
  refine F125_ok s (0 : Int) (0 : Int) w _ ⟨fun k x W' => x = (1 : Int) ∧ w = W', ⟨0, by decide, rfl⟩, ?_⟩
  rintro k _ _ _ ⟨rfl, rfl⟩
  exact IfB.no (by decide) ⟨rfl, rfl⟩
theorem c120e (s : Sl) (L : Int) (w : World) : CW Try.prog 120 #[slV s, iv 0, iv 0, iv L] w fun v w' => v = .tuple #[] ∧ w = w' := by
  refine F120_ok s (0 : Int) (0 : Int) L w _ ⟨fun k x W => x = ((0 : Int), (0 : Int), L, true, true) ∧ w = W, ⟨0, rfl, rfl⟩, ?_⟩
  rintro k _ _ _ ⟨rfl, rfl⟩
  unfold F120j1
  refine IfB.yes (show decide (IntKind.i64.wrap ((0 : Int) - (0 : Int)) ≤ (12 : Int)) = true by decide) ((c125e s w).use ?_)
  rintro _ _ ⟨rfl, rfl⟩
  exact ⟨(), rfl, rfl, rfl⟩

theorem c108 {w : World} {s : Sl} {xs : List Int} (h : OwS w s 1 (xs.map iv)) (hl : xs.length ≤ 1000000) :
    CW Try.prog 108 #[slV s] w fun v w' => v = .tuple #[] ∧ ∃ ys : List Int, ys.Perm xs ∧ ys.Pairwise (· ≤ ·) ∧ OwS w' s 1 (ys.map iv) ∧ Ch (fun i => i ∈ blk s) w w' := by
  have hn := h.len1
  rw [List.length_map] at hn
  refine F108_ok s w _ ?_
  unfold F108
  rw [show (s.2 : Int) = ((xs.length : Nat) : Int) by show (s.n : Int) = _; rw [hn], wu64 (by omega)]
  refine (c121 hl w).use ?_
  rintro _ _ ⟨L, rfl, hL, rfl⟩
  refine ⟨_, rfl, ?_⟩
  by_cases h0 : xs.length = 0
  · have : xs = [] := List.length_eq_zero_iff.1 h0
    subst this
    refine (c120e s L w).use ?_
    rintro _ _ ⟨rfl, rfl⟩
    exact ⟨(), rfl, rfl, [], .refl _, .nil, h, Ch.refl _ _⟩
  · obtain ⟨b, hA, hb⟩ := Ar.of h (by omega) hl
    refine (c120 _ (L : Int) rfl hA (Nat.le_refl _) (Nat.zero_le _) (fun h0 => absurd h0 (by decide))).use ?_
    rintro _ W2 ⟨rfl, ys, hP, hS, hA2, hC2⟩
    have hyl := hP.len
    exact ⟨(), rfl, rfl, ys, hP.perm, SO.sorted (by rw [hyl]; exact hS), hA2.own, hC2.mono fun i _ hi => by rw [hb]; simpa using hi⟩
end Go.Proofs.Ytopecljhehcldaa.Gx
