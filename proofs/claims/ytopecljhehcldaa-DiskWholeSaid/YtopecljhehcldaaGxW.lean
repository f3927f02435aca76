/- The framework, part W: of Go's package slices, that calls functions: IndexFunc, BinarySearchFunc; Concat. -/
import Derived.Test.YtopecljhehcldaaGxV
namespace Go.Proofs.Ytopecljhehcldaa.Gx
open Go
set_option linter.unusedSimpArgs false
set_option linter.unusedVariables false

/-! ### IndexFunc -/
def IndexF (P : Program) {δ : Type} (E : World → Nat → Nat → Nat → δ → Prop) (V : δ → Value) (t0 : Sl) (t1 : Nat × Array Value) (w : World) (R : Value → World → Prop) : Prop :=
  ∃ (y1 : Nat → Int → World → Prop),
  (∃ (b2 : Nat), y1 b2 (0 : Int) w) ∧
  ∀ (b3 : Nat) (n4 : Int) (w5 : World) (y6 : Nat → Value),
  y1 b3 n4 w5 →
  IfB (decide (n4 < (t0.n : Int)))
  (∃ (b8 : Nat),
  ∃ (b9 : Nat),
  t0.1 = some ({ block := b8, off := b9 } : Addr) ∧
  ((0 : Int) ≤ n4 ∧ n4 < (t0.2 : Int)) ∧
  ∃ (s10 : δ),
  E w5 b8 b9 n4.toNat s10 ∧
  CX P t1.1 { toList := V s10 :: t1.snd.1 } w5 fun (v11 : Value) (w12 : World) =>
  ∃ (t13 : Bool), v11 = Value.bool t13 ∧ IfB t13 (R (Value.int IntKind.i64 n4) w12) (([] : List Nat) = [] ∧ ∃ (b14 : Nat), b14 < b3 ∧ y1 b14 (IntKind.i64.wrap (n4 + (1 : Int))) w12))
  (R (Value.int IntKind.i64 (-1 : Int)) w5)

def idxV (o : Option Nat) : Int := match o with
  | some i => i
  | none => -1

theorem IndexF_of {P : Program} {δ ε : Type} {E : World → Nat → Nat → Nat → δ → Prop} {V : δ → Value} {t0 : Sl} {t1 : Nat × Array Value} {w : World} {R : Value → World → Prop} (xs : List ε) (f : ε → δ) (q : ε → Bool) (hn : t0.n = xs.length) (hb : t0.n ≤ 4611686018427387904)
    (hE : ∀ (i : Nat) (x : ε) (w5 : World), xs[i]? = some x → Ext w w5 → ∃ b o, t0.p = some ⟨b, o, none⟩ ∧ E w5 b o i (f x))
    (hq : ∀ (i : Nat) (x : ε) (w5 : World), xs[i]? = some x → Ext w w5 → ∀ R' : Value → World → Prop, (∀ w', Ext w5 w' → R' (.bool (q x)) w') → CX P t1.1 { toList := V (f x) :: t1.2.toList } w5 R')
    (hK : ∀ w', Ext w w' → R (.int .i64 (idxV (xs.findIdx? q))) w') : IndexF P E V t0 t1 w R := by
  refine ⟨fun k n w5 => ∃ i : Nat, n = i ∧ i ≤ xs.length ∧ k + i = xs.length ∧ Ext w w5 ∧ ∀ j < i, ∀ x, xs[j]? = some x → q x = false, ⟨xs.length, 0, rfl, Nat.zero_le _, rfl, Ch.refl _ _, fun j hj => absurd hj (Nat.not_lt_zero _)⟩, ?_⟩
  rintro k n w5 g ⟨i, rfl, hi, hk, hx, hlow⟩
  refine IfB.dec (fun hlt => ?_) (fun hge => ?_)
  · have hi' : i < xs.length := by omega
    have hxi : xs[i]? = some xs[i] := List.getElem?_eq_getElem hi'
    obtain ⟨b, o, hp, he⟩ := hE i _ w5 hxi hx
    refine ⟨b, o, hp, ⟨by omega, hlt⟩, f xs[i], by rw [Int.toNat_natCast]; exact he, ?_⟩
    refine hq i _ w5 hxi hx _ fun w' hx' => ⟨q xs[i], rfl, IfB.intro (fun ht => ?_) (fun hf => ?_)⟩
    · have : xs.findIdx? q = some i := by
        rw [List.findIdx?_eq_some_iff_getElem]
        exact ⟨hi', ht, fun j hj => by have := hlow j hj _ (List.getElem?_eq_getElem (by omega)); simp [this]⟩
      have h2 := hK w' (hx.trans hx')
      rw [this] at h2
      exact h2
    · refine ⟨rfl, k - 1, by omega, i + 1, by rw [wrap_of (by omega) (by omega)]; omega, hi', by omega, hx.trans hx', fun j hj x hjx => ?_⟩
      by_cases hji : j < i
      · exact hlow j hji x hjx
      · have : j = i := by omega
        subst this
        rw [hxi] at hjx; cases hjx; exact hf
  · have : xs.findIdx? q = none := by
      rw [List.findIdx?_eq_none_iff]
      intro x hx'
      obtain ⟨j, hj, rfl⟩ := List.getElem_of_mem hx'
      exact hlow j (by omega) _ (List.getElem?_eq_getElem hj)
    have h2 := hK w5 hx
    rw [this] at h2
    exact h2

/-! ### BinarySearchFunc -/
def midI (x4 : Int × Int) : Int := IntKind.i64.wrap ((IntKind.u64.wrap (IntKind.i64.wrap (x4.1 + x4.2))).fdiv ((2 : Int) ^ min (Int.toNat (1 : Int)) IntKind.u64.bits))

theorem midI_of {i j : Nat} (h : i ≤ j) (hj : j ≤ 4611686018427387900) : midI ((i : Int), (j : Int)) = ((i + j) / 2 : Nat) := by
  unfold midI
  have e : ((2 : Int) ^ min (Int.toNat (1 : Int)) IntKind.u64.bits) = 2 := by decide
  rw [e, wrap_of (n := (i : Int) + j) (by omega) (by omega), IntKind.wrap_u64, Int.fdiv_eq_ediv_of_nonneg _ (by decide), wrap_of (by omega) (by omega)]
  omega

def BinF (P : Program) {δ : Type} (E : World → Nat → Nat → Nat → δ → Prop) (V : δ → Value) (kV : Value) (t0 : Sl) (t2 : Nat × Array Value) (w : World) (R : Value → World → Prop) : Prop :=
  ∃ (y1 : Nat → Int × Int → World → Prop),
  (∃ (b2 : Nat), y1 b2 ((0 : Int), (t0.2 : Int)) w) ∧
  ∀ (b3 : Nat) (x4 : Int × Int) (w5 : World) (y6 : Nat → Value),
  y1 b3 x4 w5 →
  IfB (decide (x4.fst < x4.snd))
  ((0 : Int) ≤ (1 : Int) ∧
  ∃ (b8 : Nat),
  ∃ (b9 : Nat),
  t0.1 = some ({ block := b8, off := b9 } : Addr) ∧
  ((0 : Int) ≤ midI x4 ∧ midI x4 < (t0.2 : Int)) ∧
  ∃ (x10 : δ),
  E w5 b8 b9 (midI x4).toNat x10 ∧
  CX P t2.1 { toList := V x10 :: kV :: t2.snd.1 } w5 fun (v12 : Value) (w13 : World) =>
  ∃ (n14 : Int),
  v12 = Value.int IntKind.i64 n14 ∧
  IfB (decide (n14 < (0 : Int)))
  (([] : List Nat) = [] ∧ ∃ (b15 : Nat), b15 < b3 ∧ y1 b15 (IntKind.i64.wrap (midI x4 + (1 : Int)), x4.2) w13)
  (([] : List Nat) = [] ∧ ∃ (b16 : Nat), b16 < b3 ∧ y1 b16 (x4.1, midI x4) w13))
  (IfB (decide (x4.fst < (t0.n : Int)))
  (∃ (b17 : Nat),
  ∃ (b18 : Nat),
  t0.1 = some ({ block := b17, off := b18 } : Addr) ∧
  ((0 : Int) ≤ x4.1 ∧ x4.1 < (t0.2 : Int)) ∧
  ∃ (x19 : δ),
  E w5 b17 b18 x4.1.toNat x19 ∧
  CX P t2.1 { toList := V x19 :: kV :: t2.snd.1 } w5 fun (v21 : Value) (w22 : World) =>
  ∃ (n23 : Int), v21 = Value.int IntKind.i64 n23 ∧ R (Value.tuple #[Value.int IntKind.i64 x4.1, Value.bool (n23 == (0 : Int))]) w22)
  (R (Value.tuple #[Value.int IntKind.i64 x4.1, Value.bool false]) w5))

/-- i: how many stand ahead; 'c': the comparison's sign may be asked of any element. -/
theorem BinF_of {P : Program} {δ : Type} {E : World → Nat → Nat → Nat → δ → Prop} {V : δ → Value} {kV : Value} {t0 : Sl} {t2 : Nat × Array Value} {w : World} {R : Value → World → Prop} (xs : List δ) (c : δ → Int) (hn : t0.n = xs.length) (hb : t0.n ≤ 1000000000)
    (hE : ∀ (i : Nat) (x : δ) (w5 : World), xs[i]? = some x → Ext w w5 → ∃ b o, t0.p = some ⟨b, o, none⟩ ∧ E w5 b o i x)
    (hq : ∀ (i : Nat) (x : δ) (w5 : World), xs[i]? = some x → Ext w w5 → ∀ R' : Value → World → Prop, (∀ w', Ext w5 w' → R' (.int .i64 (c x)) w') → CX P t2.1 { toList := V x :: kV :: t2.2.toList } w5 R')
    (i : Nat) (hi : i ≤ xs.length) (hlo : ∀ (j : Nat) (x : δ), j < i → xs[j]? = some x → c x < 0) (hhi : ∀ (j : Nat) (x : δ), i ≤ j → xs[j]? = some x → 0 ≤ c x)
    (hK : ∀ w', Ext w w' → R (.tuple #[.int .i64 i, .bool (match xs[i]? with | some x => c x == 0 | none => false)]) w') : BinF P E V kV t0 t2 w R := by
  refine ⟨fun k x w5 => ∃ a b : Nat, x = ((a : Int), (b : Int)) ∧ a ≤ i ∧ i ≤ b ∧ b ≤ xs.length ∧ k = b - a ∧ Ext w w5, ⟨xs.length, 0, xs.length, by rw [show t0.2 = t0.n from rfl, hn]; rfl, Nat.zero_le _, hi, Nat.le_refl _, rfl, Ch.refl _ _⟩, ?_⟩
  rintro k x w5 g ⟨a, b, rfl, ha, hbi, hbl, rfl, hx⟩
  refine IfB.dec (fun hlt => ⟨by decide, ?_⟩) (fun hge => ?_)
  · dsimp only at hlt
    have hm := midI_of (i := a) (j := b) (by omega) (by omega)
    rw [hm]
    have hmi : (a + b) / 2 < xs.length := by omega
    have hxi : xs[(a + b) / 2]? = some xs[(a + b) / 2] := List.getElem?_eq_getElem hmi
    obtain ⟨bb, o, hp, he⟩ := hE _ _ w5 hxi hx
    refine ⟨bb, o, hp, ⟨by omega, by rw [show t0.2 = t0.n from rfl, hn]; omega⟩, _, by rw [Int.toNat_natCast]; exact he, ?_⟩
    refine hq _ _ w5 hxi hx _ fun w' hx' => ⟨_, rfl, IfB.dec (fun hneg => ?_) (fun hpos => ?_)⟩
    · have : (a + b) / 2 < i := by
        rcases Nat.lt_or_ge ((a + b) / 2) i with h | h
        · exact h
        · have := hhi _ _ h hxi; omega
      exact ⟨rfl, b - ((a + b) / 2 + 1), by omega, (a + b) / 2 + 1, b, by rw [wrap_of (by omega) (by omega)]; rfl, by omega, hbi, hbl, rfl, hx.trans hx'⟩
    · have : i ≤ (a + b) / 2 := by
        rcases Nat.lt_or_ge ((a + b) / 2) i with h | h
        · have := hlo _ _ h hxi; omega
        · exact h
      exact ⟨rfl, (a + b) / 2 - a, by omega, a, (a + b) / 2, rfl, ha, this, by omega, rfl, hx.trans hx'⟩
  · dsimp only at hge
    have hai : a = i := by omega
    subst hai
    dsimp only
    refine IfB.dec (fun hlt => ?_) (fun hge' => ?_)
    · have hmi : a < xs.length := by rw [← hn]; omega
      have hxi : xs[a]? = some xs[a] := List.getElem?_eq_getElem hmi
      obtain ⟨bb, o, hp, he⟩ := hE _ _ w5 hxi hx
      refine ⟨bb, o, hp, ⟨by omega, hlt⟩, _, by rw [Int.toNat_natCast]; exact he, ?_⟩
      refine hq _ _ w5 hxi hx _ fun w' hx' => ⟨_, rfl, ?_⟩
      have := hK w' (hx.trans hx')
      rw [hxi] at this
      exact this
    · have hxi : xs[a]? = none := List.getElem?_eq_none (by rw [← hn]; omega)
      have := hK w5 hx
      rw [hxi] at this
      exact this
end Go.Proofs.Ytopecljhehcldaa.Gx
