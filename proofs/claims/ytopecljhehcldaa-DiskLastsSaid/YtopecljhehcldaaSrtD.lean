/- Sorting of ints: the choice of a pivot. -/
import Derived.Test.YtopecljhehcldaaSrtC
namespace Go.Proofs.Ytopecljhehcldaa.Gx
open Go
set_option linter.unusedSimpArgs false
set_option linter.unusedVariables false

theorem Ar.ch {F : Nat → Prop} {s : Sl} {b : Nat} {w w' : World} {xs : List Int} (h : Ar s b w.heap xs) (hc : Ch F w w') (hF : ¬ F b) : Ar s b w'.heap xs := by
  obtain ⟨e1, e2, e3, arr, T, e4, e5⟩ := h
  exact ⟨e1, e2, e3, arr, T, hc.at e4 hF, e5⟩

def Ct (k : IntKind) (b1 : Nat) (w : World) : Prop := ∃ T n, w.heap[b1]? = some (.cells #[.int k n] T (0, 0))

theorem c142 {s : Sl} {b b1 : Nat} {w : World} {xs : List Int} {i j : Nat} (h : Ar s b w.heap xs) (hc : Ct .i64 b1 w) (hne : b1 ≠ b) (hi : i < xs.length) (hj : j < xs.length) :
    CW Try.prog 142 #[slV s, iv i, iv j, .pointer (some ⟨b1, 0, none⟩)] w fun v w' => ∃ x y : Nat, v = .tuple #[iv x, iv y] ∧ (x = i ∧ y = j ∨ x = j ∧ y = i) ∧ Ar s b w'.heap xs ∧ Ct .i64 b1 w' ∧ Ch (fun q => q = b1) w w' := by
  have hd : Ch (fun q => q = b1) w w.drew := (extDrew w).mono fun _ _ h => h.elim
  refine F142_ok s i j _ w _ (ls (w := w.drew) h (by omega) (by omega) (by omega) (by omega) (IfB.intro (fun _ => ?_) (fun _ => ⟨i, j, rfl, .inl ⟨rfl, rfl⟩, h, hc, hd⟩)))
  obtain ⟨T, n, hn⟩ := hc
  refine ⟨b1, 0, rfl, n, by rw [cell_of (w := w.drew) hn]; rfl, b1, 0, rfl, rfl, store_one (w := w.drew) hn (by simp) rfl fun w2 h2 => ⟨j, i, rfl, .inr ⟨rfl, rfl⟩, ?_, ⟨T, _, h2.new⟩, hd.trans h2.ch⟩⟩
  exact Ar.ch (w := w.drew) h h2.ch (Ne.symm hne)

theorem c140 {s : Sl} {b b1 : Nat} {w : World} {xs : List Int} {i j k : Nat} (h : Ar s b w.heap xs) (hc : Ct .i64 b1 w) (hne : b1 ≠ b) (hi : i < xs.length) (hj : j < xs.length) (hk : k < xs.length) :
    CW Try.prog 140 #[slV s, iv i, iv j, iv k, .pointer (some ⟨b1, 0, none⟩)] w fun v w' => ∃ x : Nat, v = iv x ∧ (x = i ∨ x = j ∨ x = k) ∧ Ar s b w'.heap xs ∧ Ct .i64 b1 w' ∧ Ch (fun q => q = b1) w w' := by
  refine F140_ok s i j k _ w _ ((c142 h hc hne hi hj).use ?_)
  rintro _ w2 ⟨x1, y1, rfl, e1, h2, k2, l2⟩
  refine ⟨((x1 : Int), (y1 : Int)), rfl, (c142 h2 k2 hne (by omega) hk).use ?_⟩
  rintro _ w3 ⟨x2, y2, rfl, e2, h3, k3, l3⟩
  refine ⟨((x2 : Int), (y2 : Int)), rfl, (c142 h3 k3 hne (by omega) (by omega)).use ?_⟩
  rintro _ w4 ⟨x3, y3, rfl, e3, h4, k4, l4⟩
  exact ⟨((x3 : Int), (y3 : Int)), rfl, y3, rfl, by omega, h4, k4, (l2.trans l3).trans l4⟩

theorem c139 {s : Sl} {b b1 : Nat} {w : World} {xs : List Int} {i : Nat} (h : Ar s b w.heap xs) (hc : Ct .i64 b1 w) (hne : b1 ≠ b) (h0 : 0 < i) (hi : i + 1 < xs.length) :
    CW Try.prog 139 #[slV s, iv i, .pointer (some ⟨b1, 0, none⟩)] w fun v w' => ∃ x : Nat, v = iv x ∧ (i ≤ x + 1 ∧ x ≤ i + 1) ∧ Ar s b w'.heap xs ∧ Ct .i64 b1 w' ∧ Ch (fun q => q = b1) w w' := by
  have hl := h.2.2.1
  refine F139_ok s i _ w _ ?_
  unfold F139
  rw [wm1 (by omega) (by omega), wp1 (by omega)]
  refine (c140 h hc hne (by omega) (by omega) hi).use ?_
  rintro _ w2 ⟨x, rfl, e, h2, k2, l2⟩
  exact ⟨_, rfl, x, rfl, by omega, h2, k2, l2⟩

theorem wmul {i : Nat} {k : Int} {m : Nat} (hk : k = (m : Int)) (hm : m ≤ 4) (hi : i ≤ 1000000) : IntKind.i64.wrap ((i : Int) * k) = ((i * m : Nat) : Int) := by
  subst hk
  have : i * m ≤ 4000000 := Nat.le_trans (Nat.mul_le_mul hi hm) (by decide)
  rw [← Int.natCast_mul, wrap_of (by omega) (by omega)]

theorem c128 {s : Sl} {b : Nat} {w : World} {xs : List Int} {a e : Nat} (h : Ar s b w.heap xs) (he : e ≤ xs.length) (ha : a + 12 < e) :
    CW Try.prog 128 #[slV s, iv a, iv e] w fun v w' => ∃ (p : Nat) (t : Int), v = .tuple #[iv p, iv t] ∧ (a ≤ p ∧ p < e) ∧ Ar s b w'.heap xs ∧ Ext w w' := by
  have hl := h.2.2.1
  have hlt := h.lt
  refine F128_ok s a e w _ ?_
  intro b1 w2 h2
  have e2 : Ext w w2 := h2.ch _
  have p2 := h2.here
  have hA2 := h.ch e2 id
  have hc2 : Ct .i64 b1 w2 := ⟨_, _, h2.new⟩
  have hne : b1 ≠ b := by omega
  have hq : IntKind.i64.wrap ((IntKind.i64.wrap ((e : Int) - (a : Int))).tdiv (4 : Int)) = (((e - a) / 4 : Nat) : Int) := by
    rw [wsb (by omega) (by omega), Int.tdiv_eq_ediv_of_nonneg (by omega), wrap_of (by omega) (by omega)]; omega
  rw [hq, wmul (k := (1 : Int)) (m := 1) rfl (by omega) (by omega), wmul (k := (2 : Int)) (m := 2) rfl (by omega) (by omega), wmul (k := (3 : Int)) (m := 3) rfl (by omega) (by omega), wad (by omega), wad (by omega), wad (by omega), wsb (by omega) (by omega)]
  generalize hqq : (e - a) / 4 = q
  have hx : ∀ {w' : World}, Ch (fun i => i = b1) w2 w' → Ext w w' := fun hc => e2.then hc fun i hi h => by omega
  refine ⟨by decide, by decide, by decide, fun x W => ∃ p : Nat, x = (p : Int) ∧ (a ≤ p ∧ p < e) ∧ Ar s b W.heap xs ∧ Ct .i64 b1 W ∧ Ch (fun i => i = b1) w2 W, ?_, ?_⟩
  · refine IfB.yes (decide_eq_true (by omega)) ⟨fun x W => ∃ i j k : Nat, x = ((i : Int), (j : Int), (k : Int)) ∧ (a ≤ i ∧ i < e) ∧ (a ≤ j ∧ j < e) ∧ (a ≤ k ∧ k < e) ∧ Ar s b W.heap xs ∧ Ct .i64 b1 W ∧ Ch (fun i => i = b1) w2 W, ?_, ?_⟩
    · refine IfB.dec (fun h50 => ?_) (fun _ => ⟨rfl, _, _, _, rfl, by omega, by omega, by omega, hA2, hc2, Ch.refl _ _⟩)
      have h50 : 50 ≤ e - a := by omega
      refine (c139 hA2 hc2 hne (by omega) (by omega)).use ?_
      rintro _ w6 ⟨i, rfl, hi, h6, k6, l6⟩
      refine ⟨_, rfl, (c139 h6 k6 hne (by omega) (by omega)).use ?_⟩
      rintro _ w9 ⟨j, rfl, hj, h9, k9, l9⟩
      refine ⟨_, rfl, (c139 h9 k9 hne (by omega) (by omega)).use ?_⟩
      rintro _ w12 ⟨k, rfl, hk, h12, k12, l12⟩
      exact ⟨_, rfl, rfl, i, j, k, rfl, by omega, by omega, by omega, h12, k12, (l6.trans l9).trans l12⟩
    · rintro _ w15 _ ⟨i, j, k, rfl, hi, hj, hk, h15, k15, l15⟩
      refine (c140 h15 k15 hne (by omega) (by omega) (by omega)).use ?_
      rintro _ w19 ⟨x, rfl, hx, h19, k19, l19⟩
      exact ⟨_, rfl, rfl, x, rfl, by omega, h19, k19, l15.trans l19⟩
  · rintro _ w22 _ ⟨p, rfl, hp, h22, ⟨T, n, hn⟩, l22⟩
    refine ⟨n, by rw [cell_of hn]; rfl, IfB.intro (fun _ => ⟨p, 1, rfl, hp, h22, hx l22⟩) fun _ => IfB.intro (fun _ => ⟨p, 2, rfl, hp, h22, hx l22⟩) fun _ => ⟨p, 0, rfl, hp, h22, hx l22⟩⟩
end Go.Proofs.Ytopecljhehcldaa.Gx
