/- Merged: SrtA, SrtB, SrtC, SrtD, SrtE, SrtF, SrtG, SrtH, SrtI. -/
import Derived.Test.YtmmhbjbaallkfaaGxLS
import Derived.Test.YtmmhbjbaallkfaaGxC

/- Sorting of ints (slices.Sort): the area, swaps, comparisons. -/
namespace Go.Proofs.Ytmmhbjbaallkfaa.Gx
open Go
set_option linter.unusedSimpArgs false
set_option linter.unusedVariables false

abbrev iv (n : Int) : Value := .int .i64 n
def g (xs : List Int) (i : Nat) : Int := xs.getD i 0
def swp (xs : List Int) (p q : Nat) : List Int := (xs.set p (g xs q)).set q (g xs p)

theorem swp_len (xs : List Int) (p q : Nat) : (swp xs p q).length = xs.length := by simp [swp]
theorem g_eq {xs : List Int} {i : Nat} (h : i < xs.length) : xs[i]? = some (g xs i) := by
  unfold g; rw [List.getElem?_eq_getElem h, List.getElem_eq_getD (fallback := 0)]
theorem g_of {xs : List Int} {i : Nat} {x : Int} (h : xs[i]? = some x) : g xs i = x := by
  unfold g; rw [List.getD_eq_getElem?_getD, h]; rfl
theorem g_swp {xs : List Int} {p q : Nat} (hp : p < xs.length) (hq : q < xs.length) (i : Nat) : g (swp xs p q) i = if i = q then g xs p else if i = p then g xs q else g xs i := by
  show ((xs.set p (g xs q)).set q (g xs p)).getD i 0 = _
  rw [List.getD_eq_getElem?_getD, List.getElem?_set, List.getElem?_set]
  by_cases h1 : q = i
  · subst h1; simp [hq]
  · by_cases h2 : p = i
    · subst h2; simp [h1, hp, Ne.symm h1]
    · simp only [if_neg h1, if_neg h2, if_neg (Ne.symm h1), if_neg (Ne.symm h2)]
      unfold g; rw [List.getD_eq_getElem?_getD]
theorem g_swq {xs : List Int} {p q : Nat} (hp : p < xs.length) (hq : q < xs.length) : g (swp xs p q) q = g xs p := by rw [g_swp hp hq, if_pos rfl]
theorem g_swl {xs : List Int} {p q : Nat} (hp : p < xs.length) (hq : q < xs.length) : g (swp xs p q) p = g xs q := by
  rw [g_swp hp hq]
  split
  · rename_i h; rw [h]
  · rw [if_pos rfl]
theorem g_swo {xs : List Int} {p q i : Nat} (hp : p < xs.length) (hq : q < xs.length) (h1 : i ≠ p) (h2 : i ≠ q) : g (swp xs p q) i = g xs i := by rw [g_swp hp hq, if_neg h2, if_neg h1]
theorem swp_perm {xs : List Int} {p q : Nat} (hp : p < xs.length) (hq : q < xs.length) : (swp xs p q).Perm xs := by
  have h := (Array.swap_perm (xs := xs.toArray) (i := p) (j := q) (by simpa using hp) (by simpa using hq)).toList
  have e : (xs.toArray.swap p q (by simpa using hp) (by simpa using hq)).toList = swp xs p q := by
    apply List.ext_getElem?
    intro i
    simp only [Array.swap, swp, Array.toList_set, List.getElem_toArray, g, List.getD_eq_getElem?_getD, List.getElem?_eq_getElem hp, List.getElem?_eq_getElem hq, Option.getD_some]
  rw [e] at h
  exact h

/-- Turned inside [a, b) alone, by swaps. -/
inductive PI (a b : Nat) (xs : List Int) : List Int → Prop
  | refl : PI a b xs xs
  | step {ys : List Int} {p q : Nat} : PI a b xs ys → a ≤ p → p < b → a ≤ q → q < b → b ≤ ys.length → PI a b xs (swp ys p q)

theorem PI.len {a b : Nat} {xs ys : List Int} (h : PI a b xs ys) : ys.length = xs.length := by
  induction h with
  | refl => rfl
  | step _ _ _ _ _ _ ih => rw [swp_len, ih]
theorem PI.perm {a b : Nat} {xs ys : List Int} (h : PI a b xs ys) : ys.Perm xs := by
  induction h with
  | refl => exact .refl _
  | step _ _ h2 _ h4 h5 ih => exact (swp_perm (by omega) (by omega)).trans ih
theorem PI.out {a b : Nat} {xs ys : List Int} (h : PI a b xs ys) {i : Nat} (hi : i < a ∨ b ≤ i) : g ys i = g xs i := by
  induction h with
  | refl => rfl
  | step _ h1 h2 h3 h4 h5 ih => rw [g_swp (by omega) (by omega), if_neg (by omega), if_neg (by omega), ih]
theorem PI.all {a b : Nat} {xs ys : List Int} (h : PI a b xs ys) {Q : Int → Prop} (hq : ∀ i, a ≤ i → i < b → Q (g xs i)) : ∀ i, a ≤ i → i < b → Q (g ys i) := by
  induction h with
  | refl => exact hq
  | step _ h1 h2 h3 h4 h5 ih =>
    intro i hi hi2
    rw [g_swp (by omega) (by omega)]
    split
    · exact ih _ h1 h2
    · split
      · exact ih _ h3 h4
      · exact ih _ hi hi2
theorem PI.mono {a b a' b' : Nat} {xs ys : List Int} (h : PI a b xs ys) (ha : a' ≤ a) (hb : b ≤ b') (hl : b' ≤ xs.length) : PI a' b' xs ys := by
  induction h with
  | refl => exact .refl
  | step h h1 h2 h3 h4 h5 ih => exact .step ih (by omega) (by omega) (by omega) (by omega) (by rw [h.len]; exact hl)
theorem PI.trans {a b : Nat} {xs ys zs : List Int} (h : PI a b xs ys) (k : PI a b ys zs) : PI a b xs zs := by
  induction k with
  | refl => exact h
  | step _ h1 h2 h3 h4 h5 ih => exact .step ih h1 h2 h3 h4 h5

/-- Sorted from a, ahead of b. -/
def SO (xs : List Int) (a b : Nat) : Prop := ∀ i j, a ≤ i → i < j → j < b → g xs i ≤ g xs j

/-! ### In memory -/
def Ar (s : Sl) (b : Nat) (H : Array Obj) (xs : List Int) : Prop :=
  s.p = some ⟨b, 0, none⟩ ∧ s.n = xs.length ∧ xs.length ≤ 1000000 ∧ ∃ arr T, H[b]? = some (.cells arr T (0, 0)) ∧ arr.size = s.c ∧ s.n ≤ s.c ∧ arr.toList.take s.n = xs.map iv
abbrev CB (b : Nat) (w w' : World) : Prop := Ch (fun i => i = b) w w'

theorem Ar.own {s : Sl} {b : Nat} {w : World} {xs : List Int} (h : Ar s b w.heap xs) : OwS w s 1 (xs.map iv) := by
  obtain ⟨h1, h2, _, arr, T, h3, h4, h5, h6⟩ := h
  exact .inr ⟨b, arr, T, h1, h3, by omega, h5, by rw [Nat.mul_one]; exact h6⟩
theorem Ar.of {s : Sl} {w : World} {xs : List Int} (h : OwS w s 1 (xs.map iv)) (h0 : 0 < xs.length) (hl : xs.length ≤ 1000000) : ∃ b, Ar s b w.heap xs ∧ blk s = [b] := by
  have hn := h.len1
  rw [List.length_map] at hn
  rcases h with ⟨rfl, h⟩ | ⟨b, arr, T, h1, h3, h4, h5, h6⟩
  · rw [List.map_eq_nil_iff] at h; subst h; cases h0
  · exact ⟨b, ⟨h1, hn, hl, arr, T, h3, by omega, h5, by rw [Nat.mul_one] at h6; exact h6⟩, by simp [blk, h1]⟩
theorem Ar.lt {s : Sl} {b : Nat} {w : World} {xs : List Int} (h : Ar s b w.heap xs) : b < w.heap.size := by
  obtain ⟨_, _, _, _, _, h3, _⟩ := h
  exact heap_lt h3

theorem rd {s : Sl} {b : Nat} {w : World} {xs : List Int} (h : Ar s b w.heap xs) {i : Int} (h0 : 0 ≤ i) (h1 : i < xs.length) {K : Int → Prop} (k : K (g xs i.toNat)) :
    ∃ b1 b2 : Nat, s.1 = some ⟨b1, b2, none⟩ ∧ ((0 : Int) ≤ i ∧ i < (s.2 : Int)) ∧ ∃ n, w.cell? ⟨b1, b2 + i.toNat, none⟩ = some (.int .i64 n) ∧ K n := by
  obtain ⟨e1, e2, _, arr, T, e3, e4, e5, e6⟩ := h
  refine ⟨b, 0, e1, ⟨h0, by show i < (s.n : Int); omega⟩, _, ?_, k⟩
  rw [cell_of e3, Nat.zero_add, ← Array.getElem?_toList]
  have : (arr.toList.take s.n)[i.toNat]? = some (iv (g xs i.toNat)) := by rw [e6, List.getElem?_map, g_eq (by omega)]; rfl
  rw [List.getElem?_take, if_pos (by omega)] at this
  exact this

theorem wr {s : Sl} {b : Nat} {w : World} {xs : List Int} (h : Ar s b w.heap xs) {i x : Int} (h0 : 0 ≤ i) (h1 : i < xs.length) {K : World → Prop} (k : ∀ w', Ar s b w'.heap (xs.set i.toNat x) → CB b w w' → K w') :
    ∃ b1 b2 : Nat, s.1 = some ⟨b1, b2, none⟩ ∧ ((0 : Int) ≤ i ∧ i < (s.2 : Int)) ∧ #[Value.int .i64 x].size = 1 ∧ StoreP w b1 (b2 + i.toNat) [.int .i64 x] K := by
  obtain ⟨e1, e2, el, arr, T, e3, e4, e5, e6⟩ := h
  refine ⟨b, 0, e1, ⟨h0, by show i < (s.n : Int); omega⟩, rfl, store_one e3 (by omega) rfl fun w' hw => k w' ⟨e1, by rw [List.length_set]; exact e2, by rw [List.length_set]; exact el, _, T, hw.new, by rw [Array.size_setIfInBounds]; exact e4, e5, ?_⟩ hw.ch⟩
  rw [Nat.zero_add, Array.toList_setIfInBounds, List.take_set, e6, List.map_set]

/-- data[p], data[q] = data[q], data[p] -/
theorem sw {s : Sl} {b : Nat} {w : World} {xs : List Int} (h : Ar s b w.heap xs) {p q : Int} (hp0 : 0 ≤ p) (hp1 : p < xs.length) (hq0 : 0 ≤ q) (hq1 : q < xs.length) {K : World → Prop} (k : ∀ w', Ar s b w'.heap (swp xs p.toNat q.toNat) → CB b w w' → K w') :
    ∃ b1 b2 : Nat, s.1 = some ⟨b1, b2, none⟩ ∧ ((0 : Int) ≤ q ∧ q < (s.2 : Int)) ∧ ∃ n, w.cell? ⟨b1, b2 + q.toNat, none⟩ = some (.int .i64 n) ∧
    ∃ b3 b4 : Nat, s.1 = some ⟨b3, b4, none⟩ ∧ ((0 : Int) ≤ p ∧ p < (s.2 : Int)) ∧ ∃ m, w.cell? ⟨b3, b4 + p.toNat, none⟩ = some (.int .i64 m) ∧
    ∃ b5 b6 : Nat, s.1 = some ⟨b5, b6, none⟩ ∧ ((0 : Int) ≤ p ∧ p < (s.2 : Int)) ∧ #[Value.int .i64 n].size = 1 ∧ StoreP w b5 (b6 + p.toNat) [.int .i64 n] fun w1 =>
    ∃ b7 b8 : Nat, s.1 = some ⟨b7, b8, none⟩ ∧ ((0 : Int) ≤ q ∧ q < (s.2 : Int)) ∧ #[Value.int .i64 m].size = 1 ∧ StoreP w1 b7 (b8 + q.toNat) [.int .i64 m] K := by
  refine rd h hq0 hq1 (rd h hp0 hp1 (wr h hp0 hp1 fun w1 h1 c1 => wr h1 hq0 (by rw [List.length_set]; exact hq1) fun w2 h2 c2 => k w2 h2 (c1.trans c2)))

theorem c63 (x : Int) (w : World) : CW Try.prog 63 #[.int .i64 x] w fun v w' => v = .bool false ∧ w = w' :=
  F63_ok _ _ _ ⟨by simp, rfl⟩
theorem c92 (x y : Int) (w : World) : CW Try.prog 92 #[.int .i64 x, .int .i64 y] w fun v w' => v = .bool (decide (x < y)) ∧ w = w' := by
  refine F92_ok _ _ _ _ ((c63 x w).use ?_)
  rintro _ _ ⟨rfl, rfl⟩
  exact ⟨false, rfl, IfB.no rfl ⟨rfl, rfl⟩⟩

/-- cmp.Less(data[i], data[j]) -/
theorem ls {s : Sl} {b : Nat} {w : World} {xs : List Int} (h : Ar s b w.heap xs) {i j : Int} (hi0 : 0 ≤ i) (hi1 : i < xs.length) (hj0 : 0 ≤ j) (hj1 : j < xs.length) {K : Bool → World → Prop} (k : K (decide (g xs i.toNat < g xs j.toNat)) w) :
    ∃ b1 b2 : Nat, s.1 = some ⟨b1, b2, none⟩ ∧ ((0 : Int) ≤ i ∧ i < (s.2 : Int)) ∧ ∃ n, w.cell? ⟨b1, b2 + i.toNat, none⟩ = some (.int .i64 n) ∧
    ∃ b3 b4 : Nat, s.1 = some ⟨b3, b4, none⟩ ∧ ((0 : Int) ≤ j ∧ j < (s.2 : Int)) ∧ ∃ m, w.cell? ⟨b3, b4 + j.toNat, none⟩ = some (.int .i64 m) ∧
    CX Try.prog 92 #[.int .i64 n, .int .i64 m] w fun v w' => ∃ t, v = .bool t ∧ K t w' := by
  refine rd h hi0 hi1 (rd h hj0 hj1 ((c92 _ _ w).use ?_))
  rintro _ _ ⟨rfl, rfl⟩
  exact ⟨_, rfl, k⟩
end Go.Proofs.Ytmmhbjbaallkfaa.Gx

/- Sorting of ints: insertion, heap. -/
namespace Go.Proofs.Ytmmhbjbaallkfaa.Gx
open Go
set_option linter.unusedSimpArgs false
set_option linter.unusedVariables false

theorem wp1 {i : Nat} (h : i ≤ 1000000000000) : IntKind.i64.wrap ((i : Int) + (1 : Int)) = ((i + 1 : Nat) : Int) := by rw [wrap_of (by omega) (by omega)]; rfl
theorem wm1 {i : Nat} (h0 : 1 ≤ i) (h : i ≤ 1000000000000) : IntKind.i64.wrap ((i : Int) - (1 : Int)) = ((i - 1 : Nat) : Int) := by rw [wrap_of (by omega) (by omega)]; omega

theorem wad {i j : Nat} (h : i + j ≤ 1000000000000) : IntKind.i64.wrap ((i : Int) + (j : Int)) = ((i + j : Nat) : Int) := by rw [wrap_of (by omega) (by omega)]; rfl
theorem wsb {i j : Nat} (h0 : j ≤ i) (h : i ≤ 1000000000000) : IntKind.i64.wrap ((i : Int) - (j : Int)) = ((i - j : Nat) : Int) := by rw [wrap_of (by omega) (by omega)]; omega
theorem wdb {i : Nat} (h : i ≤ 100000000000) : IntKind.i64.wrap ((2 : Int) * (i : Int)) = ((2 * i : Nat) : Int) := by rw [wrap_of (by omega) (by omega)]; omega

theorem c86 {s : Sl} {b : Nat} {w : World} {xs : List Int} {a e : Nat} (h : Ar s b w.heap xs) (he : e ≤ xs.length) (ha : a ≤ xs.length) :
    CW Try.prog 86 #[slV s, iv a, iv e] w fun v w' => v = .tuple #[] ∧ ∃ ys, PI a e xs ys ∧ SO ys a e ∧ Ar s b w'.heap ys ∧ CB b w w' := by
  have hl : xs.length ≤ 1000000 := h.2.2.1
  refine F86_ok s a e w _ ⟨fun n x W => ∃ (i : Nat) (ys : List Int), n = e + 1 - i ∧ x = (i : Int) ∧ a + 1 ≤ i ∧ (i = a + 1 ∨ i ≤ e) ∧ PI a e xs ys ∧ SO ys a i ∧ Ar s b W.heap ys ∧ CB b w W, ⟨_, a + 1, xs, rfl, wp1 (by omega), Nat.le_refl _, .inl rfl, .refl, fun i j _ _ _ => by omega, h, Ch.refl _ _⟩, ?_⟩
  rintro n _ W _ ⟨i, ys, rfl, rfl, hai, hi, hP, hS, hA, hC⟩
  have hyl := hP.len
  refine IfB.dec (fun hlt => ?_) (fun hge => ⟨rfl, ys, hP, fun p q h1 h2 h3 => hS p q h1 h2 (by omega), hA, hC⟩)
  have hie : i < e := by omega
  refine ⟨fun m x W' => ∃ (j : Nat) (zs : List Int), j = m ∧ x = (j : Int) ∧ a ≤ j ∧ j ≤ i ∧ PI a e xs zs ∧ (∀ p q, a ≤ p → p < q → q ≤ i → q ≠ j → g zs p ≤ g zs q) ∧ Ar s b W'.heap zs ∧ CB b w W', ⟨_, i, ys, rfl, rfl, by omega, Nat.le_refl _, hP, fun p q h1 h2 h3 h4 => hS p q h1 h2 (by omega), hA, hC⟩, ?_⟩
  rintro m _ W1 _ ⟨j, zs, rfl, rfl, haj, hji, hP1, hS1, hA1, hC1⟩
  have hzl := hP1.len
  have hCd : CB b w W1.drew := hC1.then (extDrew W1) fun _ _ h => h.elim
  have done : (∀ p, a ≤ p → p < j → g zs p ≤ g zs j) → ∀ W2 : World, W2 = W1.drew → ([] : List Nat) = [] ∧ ∃ b38, b38 < e + 1 - i ∧ ∃ (i' : Nat) (ys : List Int), b38 = e + 1 - i' ∧ IntKind.i64.wrap ((i : Int) + (1 : Int)) = (i' : Int) ∧ a + 1 ≤ i' ∧ (i' = a + 1 ∨ i' ≤ e) ∧ PI a e xs ys ∧ SO ys a i' ∧ Ar s b W2.heap ys ∧ CB b w W2 := by
    rintro hj W2 rfl
    refine ⟨rfl, e + 1 - (i + 1), by omega, i + 1, zs, rfl, wp1 (by omega), by omega, .inr (by omega), hP1, fun p q h1 h2 h3 => ?_, hA1, hCd⟩
    by_cases hq : q = j
    · subst hq; exact hj p h1 h2
    · exact hS1 p q h1 h2 (by omega) hq
  unfold F86j2
  refine IfB.dec (fun hlt2 => ?_) (fun hge2 => done (fun p h1 h2 => by omega) _ rfl)
  have hj : a < j := by omega
  have hw := wm1 (i := j) (by omega) (by omega)
  rw [hw]
  refine ls (w := W1.drew) hA1 (by omega) (by omega) (by omega) (by omega) (IfB.dec (fun hl1 => ?_) (fun hl1 => done (fun p h1 h2 => ?_) _ rfl))
  · rw [Int.toNat_natCast, Int.toNat_natCast] at hl1
    refine sw (w := W1.drew.drew) hA1 (by omega) (by omega) (by omega) (by omega) fun W3 hA3 hC3 => ⟨rfl, j - 1, by omega, j - 1, _, rfl, rfl, by omega, by omega, .step hP1 (p := j) (q := j - 1) (by omega) (by omega) (by omega) (by omega) (by omega), ?_, hA3, (hCd.then (extDrew _) fun _ _ h => h.elim).trans hC3⟩
    intro p q h1 h2 h3 h4
    rw [g_swp (by omega) (by omega), g_swp (by omega) (by omega)]
    have A1 := hS1 p (j - 1) h1
    have A2 := hS1 p q h1 h2 h3
    have A3 := hS1 j q (by omega)
    have A4 := hS1 (j - 1) q (by omega)
    split <;> split <;> (try split) <;> (try split) <;> first | omega | skip
  · rw [Int.toNat_natCast, Int.toNat_natCast] at hl1
    have := hS1 p (j - 1) h1
    by_cases hp : p = j - 1
    · subst hp; omega
    · have := this (by omega) (by omega) (by omega)
      omega
/-! ### Heap sort -/
/-- From k on none of the children of a node of the heap at f is more than it. -/
def HpAt (xs : List Int) (f hi k : Nat) : Prop := ∀ c, c = 2 * k + 1 ∨ c = 2 * k + 2 → c < hi → g xs (f + c) ≤ g xs (f + k)

theorem c108 {s : Sl} {b : Nat} {w : World} {xs : List Int} {lo hi f : Nat} (h : Ar s b w.heap xs) (hl : f + hi ≤ xs.length) (hlo : lo ≤ 1000000) (hh : ∀ k, lo < k → HpAt xs f hi k) :
    CW Try.prog 108 #[slV s, iv lo, iv hi, iv f] w fun v w' => v = .tuple #[] ∧ ∃ ys, PI f (f + hi) xs ys ∧ (∀ k, lo ≤ k → HpAt ys f hi k) ∧ Ar s b w'.heap ys ∧ CB b w w' := by
  have hll : xs.length ≤ 1000000 := h.2.2.1
  refine F108_ok s lo hi f w _ ⟨fun n x W => ∃ (r : Nat) (ys : List Int), n = hi - r ∧ x = (r : Int) ∧ lo ≤ r ∧ (r = lo ∨ r < hi) ∧ PI f (f + hi) xs ys ∧ (∀ k, lo ≤ k → k ≠ r → HpAt ys f hi k) ∧
    (∀ k, lo ≤ k → r = 2 * k + 1 ∨ r = 2 * k + 2 → ∀ c, c = 2 * r + 1 ∨ c = 2 * r + 2 → c < hi → g ys (f + c) ≤ g ys (f + k)) ∧ Ar s b W.heap ys ∧ CB b w W, ⟨_, lo, xs, rfl, rfl, Nat.le_refl _, .inl rfl, .refl, fun k h1 h2 => hh k (by omega), fun k h1 h2 => by omega, h, Ch.refl _ _⟩, ?_⟩
  rintro n _ W _ ⟨r, ys, rfl, rfl, hlr, hr, hP, hH, hG, hA, hC⟩
  have hyl := hP.len
  unfold F108j1
  rw [wdb (by omega), wp1 (by omega)]
  refine IfB.dec (fun hge => ⟨rfl, ys, hP, fun k hk => ?_, hA, hC⟩) (fun hlt => ?_)
  · by_cases hkr : k = r
    · subst hkr; intro c hc1 hc2; omega
    · exact hH k hk hkr
  have hc1 : 2 * r + 1 < hi := by omega
  rw [wp1 (by omega), wad (by omega), wp1 (by omega)]
  have hCd : CB b w W.drew := hC.then (extDrew W) fun _ _ h => h.elim
  refine ⟨fun x W' => ∃ c : Nat, x = (c : Int) ∧ (c = 2 * r + 1 ∨ c = 2 * r + 2) ∧ c < hi ∧ (∀ d, d = 2 * r + 1 ∨ d = 2 * r + 2 → d < hi → g ys (f + d) ≤ g ys (f + c)) ∧ W' = W.drew, ?_, ?_⟩
  · refine IfB.dec (fun h2 => ?_) (fun h2 => ⟨rfl, 2 * r + 1, rfl, .inl rfl, hc1, fun d hd1 hd2 => ?_, rfl⟩)
    · refine ls (w := W.drew) hA (by omega) (by omega) (by omega) (by omega) (IfB.dec (fun hl1 => ⟨rfl, 2 * r + 1 + 1, rfl, .inr rfl, by omega, fun d hd1 hd2 => ?_, rfl⟩) (fun hl1 => ⟨rfl, 2 * r + 1, rfl, .inl rfl, hc1, fun d hd1 hd2 => ?_, rfl⟩))
      · rw [Int.toNat_natCast, Int.toNat_natCast] at hl1
        rcases hd1 with rfl | rfl
        · rw [show f + (2 * r + 1 + 1) = f + (2 * r + 1) + 1 by omega]; omega
        · exact Int.le_refl _
      · rw [Int.toNat_natCast, Int.toNat_natCast] at hl1
        rcases hd1 with rfl | rfl
        · exact Int.le_refl _
        · rw [show f + (2 * r + 2) = f + (2 * r + 1) + 1 by omega]; omega
    · have : d = 2 * r + 1 := by omega
      subst this; exact Int.le_refl _
  rintro _ _ _ ⟨c, rfl, hc2, hc3, hc4, rfl⟩
  unfold F108j2
  rw [wad (by omega), wad (by omega)]
  have hCd2 : CB b w W.drew.drew := hCd.then (extDrew _) fun _ _ h => h.elim
  have hCd3 : CB b w W.drew.drew.drew := hCd2.then (extDrew _) fun _ _ h => h.elim
  refine ls (w := W.drew.drew) hA (by omega) (by omega) (by omega) (by omega) (IfB.intro (fun hl1 => ⟨rfl, ys, hP, fun k hk => ?_, hA, hCd2⟩) fun hl1 => ?_)
  · simp only [Int.toNat_natCast, Bool.not_eq_true', decide_eq_false_iff_not] at hl1
    by_cases hkr : k = r
    · subst hkr
      intro d hd1 hd2
      have := hc4 d hd1 hd2
      omega
    · exact hH k hk hkr
  · simp only [Int.toNat_natCast, Bool.not_eq_false', decide_eq_true_eq] at hl1
    refine sw (w := W.drew.drew.drew) hA (by omega) (by omega) (by omega) (by omega) fun W3 hA3 hC3 => ⟨rfl, hi - c, by omega, c, _, rfl, rfl, by omega, .inr hc3, .step hP (p := f + r) (q := f + c) (by omega) (by omega) (by omega) (by omega) (by omega), ?_, ?_, hA3, hCd3.trans hC3⟩
    · intro k hk hkc d hd1 hd2
      by_cases hkr : k = r
      · subst hkr
        rw [g_swl (by omega) (by omega)]
        by_cases hdc : d = c
        · subst hdc; rw [g_swq (by omega) (by omega)]; omega
        · rw [g_swo (by omega) (by omega) (by omega) (by omega)]; exact hc4 d hd1 hd2
      · rw [g_swo (i := f + k) (by omega) (by omega) (by omega) (by omega)]
        by_cases hdr : d = r
        · subst hdr
          rw [g_swl (by omega) (by omega)]
          exact hG k hk hd1 c hc2 hc3
        · rw [g_swo (by omega) (by omega) (by omega) (by omega)]
          exact hH k hk hkr d hd1 hd2
    · intro k hk hck d hd1 hd2
      have hkr : k = r := by omega
      subst hkr
      rw [g_swl (by omega) (by omega), g_swo (by omega) (by omega) (by omega) (by omega)]
      exact hH c (by omega) (by omega) d hd1 hd2
end Go.Proofs.Ytmmhbjbaallkfaa.Gx

/- Sorting of ints: heap sort; reverse; the choice of a pivot. -/
namespace Go.Proofs.Ytmmhbjbaallkfaa.Gx
open Go
set_option linter.unusedSimpArgs false
set_option linter.unusedVariables false

theorem heap_max {xs : List Int} {f hi : Nat} (h : ∀ k, HpAt xs f hi k) (p : Nat) (hp : p < hi) : g xs (f + p) ≤ g xs f := by
  induction p using Nat.strongRecOn with
  | _ p ih =>
    by_cases h0 : p = 0
    · subst h0; exact Int.le_refl _
    · have h1 := h ((p - 1) / 2) p (by omega) hp
      have h2 := ih ((p - 1) / 2) (by omega) (by omega)
      omega

theorem c87 {s : Sl} {b : Nat} {w : World} {xs : List Int} {a e : Nat} (h : Ar s b w.heap xs) (he : e ≤ xs.length) (ha : a ≤ e) :
    CW Try.prog 87 #[slV s, iv a, iv e] w fun v w' => v = .tuple #[] ∧ ∃ ys, PI a e xs ys ∧ SO ys a e ∧ Ar s b w'.heap ys ∧ CB b w w' := by
  have hl : xs.length ≤ 1000000 := h.2.2.1
  refine F87_ok s a e w _ ⟨by decide, ?_⟩
  have hea : a + (e - a) = e := by omega
  rw [wsb ha (by omega)]
  generalize hhi : e - a = hi at hea
  refine ⟨fun n x W => ∃ (i : Nat) (ys : List Int), i = n ∧ x = (i : Int) - 1 ∧ i ≤ hi + 1 ∧ PI a e xs ys ∧ (∀ k, i ≤ k → HpAt ys a hi k) ∧ Ar s b W.heap ys ∧ CB b w W, ⟨_, (if hi = 0 then 1 else (hi - 1) / 2 + 1), xs, rfl, ?_, ?_, .refl, ?_, h, Ch.refl _ _⟩, ?_⟩
  · rw [wrap_of (n := (hi : Int) - 1) (by omega) (by omega)]
    split
    · rename_i h0; subst h0; decide
    · rename_i h0
      rw [Int.tdiv_eq_ediv_of_nonneg (by omega), wrap_of (by omega) (by omega)]
      omega
  · split <;> omega
  · intro k hk c hc1 hc2
    split at hk <;> omega
  rintro n _ W _ ⟨i, ys, rfl, rfl, hi1, hP, hH, hA, hC⟩
  have hyl := hP.len
  unfold F87j1
  refine IfB.dec (fun hge => ?_) (fun hlt => ?_)
  · rw [show ((i : Int) - 1) = ((i - 1 : Nat) : Int) by omega, wsb ha (by omega), hhi]
    refine (c108 hA (by omega) (by omega) fun k hk => hH k (by omega)).use ?_
    rintro _ W2 ⟨rfl, zs, hP2, hH2, hA2, hC2⟩
    rw [hea] at hP2
    exact ⟨(), rfl, rfl, i - 1, by omega, i - 1, zs, rfl, by rw [wrap_of (by omega) (by omega)], by omega, hP.trans hP2, hH2, hA2, hC.trans hC2⟩
  · have hi0 : i = 0 := by omega
    subst hi0
    refine ⟨fun n x W' => ∃ (i : Nat) (zs : List Int), i = n ∧ x = (i : Int) - 1 ∧ i ≤ hi ∧ PI a e xs zs ∧ (∀ k, HpAt zs a i k) ∧ (∀ p q, i ≤ p → p < q → q < hi → g zs (a + p) ≤ g zs (a + q)) ∧ (∀ p q, p < i → i ≤ q → q < hi → g zs (a + p) ≤ g zs (a + q)) ∧ Ar s b W'.heap zs ∧ CB b w W', ⟨_, hi, ys, rfl, ?_, Nat.le_refl _, hP, fun k => hH k (Nat.zero_le _), fun p q _ _ _ => by omega, fun p q _ _ _ => by omega, hA, hC⟩, ?_⟩
    · rw [wsb ha (by omega), hhi, wrap_of (by omega) (by omega)]
    rintro n _ W1 _ ⟨i, zs, rfl, rfl, hi2, hP1, hH1, hS1, hX1, hA1, hC1⟩
    have hzl := hP1.len
    unfold F87j2
    refine IfB.dec (fun hge => ?_) (fun hlt => ⟨rfl, zs, hP1, fun p q h1 h2 h3 => ?_, hA1, hC1⟩)
    · obtain ⟨m, rfl⟩ : ∃ m, i = m + 1 := ⟨i - 1, by omega⟩
      rw [show (((m + 1 : Nat) : Int) - 1) = (m : Int) by omega, wad (by omega)]
      have hCd : CB b w W1.drew := hC1.then (extDrew W1) fun _ _ h => h.elim
      refine sw (w := W1.drew) hA1 (by omega) (by omega) (by omega) (by omega) fun W2 hA2 hC2 => ?_
      rw [Int.toNat_natCast, Int.toNat_natCast] at hA2
      have hP2 : PI a e xs (swp zs a (a + m)) := .step hP1 (by omega) (by omega) (by omega) (by omega) (by omega)
      have g0 : ∀ p, 0 < p → p < m → g (swp zs a (a + m)) (a + p) = g zs (a + p) := fun p h1 h2 => g_swo (by omega) (by omega) (by omega) (by omega)
      have gm : g (swp zs a (a + m)) (a + m) = g zs a := g_swq (by omega) (by omega)
      have gz : g (swp zs a (a + m)) a = g zs (a + m) := g_swl (by omega) (by omega)
      have gb : ∀ q, m < q → g (swp zs a (a + m)) (a + q) = g zs (a + q) := fun q h1 => g_swo (by omega) (by omega) (by omega) (by omega)
      refine (c108 (lo := 0) hA2 (by rw [swp_len]; omega) (by omega) fun k hk c hc1 hc2 => ?_).use ?_
      · rw [g0 k hk (by omega), g0 c (by omega) hc2]
        exact hH1 k c hc1 (by omega)
      rintro _ W3 ⟨rfl, us, hP3, hH3, hA3, hC3⟩
      have hmax := heap_max hH1
      have hP3' : PI a e (swp zs a (a + m)) us := hP3.mono (Nat.le_refl _) (by omega) (by rw [swp_len]; omega)
      have ub : ∀ q, m ≤ q → g us (a + q) = g (swp zs a (a + m)) (a + q) := fun q hq => hP3.out (.inr (by omega))
      refine ⟨(), rfl, rfl, m, by omega, m, us, rfl, by rw [wrap_of (by omega) (by omega)], by omega, hP2.trans hP3', fun k => hH3 k (Nat.zero_le _), ?_, ?_, hA3, (hCd.trans hC2).trans hC3⟩
      · intro p q h1 h2 h3
        rw [ub p h1, ub q (by omega), gb q (by omega)]
        by_cases hp : p = m
        · subst hp; rw [gm]
          have := hX1 0 q (by omega) (by omega) h3
          exact this
        · rw [gb p (by omega)]; exact hS1 p q (by omega) h2 h3
      · intro p q h1 h2 h3
        have hQ : ∀ i, a ≤ i → i < a + m → (fun v => v ≤ g us (a + q)) (g us i) := by
          refine hP3.all (Q := fun v => v ≤ g us (a + q)) fun i h4 h5 => ?_
          show _ ≤ g us (a + q)
          rw [ub q h2]
          obtain ⟨t, rfl⟩ : ∃ t, i = a + t := ⟨i - a, by omega⟩
          have h6 : g (swp zs a (a + m)) (a + t) = g zs (a + t) ∨ g (swp zs a (a + m)) (a + t) = g zs (a + m) := by
            by_cases ht : t = 0
            · subst ht; exact .inr gz
            · exact .inl (g0 t (by omega) (by omega))
          by_cases hq : q = m
          · subst hq
            rw [gm]
            have h7 := hmax t (by omega)
            have h8 := hmax q (by omega)
            rcases h6 with h6 | h6 <;> omega
          · rw [gb q (by omega)]
            have h7 := hX1 t q (by omega) (by omega) h3
            have h8 := hX1 m q (by omega) (by omega) h3
            rcases h6 with h6 | h6 <;> omega
        exact hQ _ (by omega) (by omega)
    · obtain ⟨p', rfl⟩ : ∃ t, p = a + t := ⟨p - a, by omega⟩
      obtain ⟨q', rfl⟩ : ∃ t, q = a + t := ⟨q - a, by omega⟩
      exact hS1 p' q' (by omega) (by omega) (by omega)

theorem c90 {s : Sl} {b : Nat} {w : World} {xs : List Int} {a e : Nat} (h : Ar s b w.heap xs) (he : e ≤ xs.length) (ha : a < e) :
    CW Try.prog 90 #[slV s, iv a, iv e] w fun v w' => v = .tuple #[] ∧ ∃ ys, PI a e xs ys ∧ Ar s b w'.heap ys ∧ CB b w w' := by
  have hl : xs.length ≤ 1000000 := h.2.2.1
  refine F90_ok s a e w _ ⟨fun n x W => ∃ (i j : Nat) (ys : List Int), n = j ∧ x = ((i : Int), (j : Int)) ∧ a ≤ i ∧ j < e ∧ i ≤ j + 1 ∧ PI a e xs ys ∧ Ar s b W.heap ys ∧ CB b w W, ⟨_, a, e - 1, xs, rfl, by rw [wm1 (by omega) (by omega)], Nat.le_refl _, by omega, by omega, .refl, h, Ch.refl _ _⟩, ?_⟩
  rintro n _ W _ ⟨i, j, ys, rfl, rfl, hai, hje, hij, hP, hA, hC⟩
  have hyl := hP.len
  unfold F90j1
  refine IfB.dec (fun hlt => ?_) (fun hge => ⟨rfl, ys, hP, hA, hC⟩)
  have hlt : i < n := by
    have : (i : Int) < (n : Int) := hlt
    omega
  have hCd : CB b w W.drew := hC.then (extDrew W) fun _ _ h => h.elim
  refine sw (w := W.drew) hA (p := (i : Int)) (q := (n : Int)) (by omega) (by omega) (by omega) (by omega) fun W2 hA2 hC2 => ?_
  rw [Int.toNat_natCast, Int.toNat_natCast] at hA2
  exact ⟨rfl, n - 1, by omega, i + 1, n - 1, _, rfl, by rw [← wp1 (by omega), ← wm1 (by omega) (by omega)], by omega, by omega, by omega, .step hP (by omega) (by omega) (by omega) (by omega) (by omega), hA2, hCd.trans hC2⟩
end Go.Proofs.Ytmmhbjbaallkfaa.Gx

/- Sorting of ints: the choice of a pivot. -/
namespace Go.Proofs.Ytmmhbjbaallkfaa.Gx
open Go
set_option linter.unusedSimpArgs false
set_option linter.unusedVariables false

theorem Ar.ch {F : Nat → Prop} {s : Sl} {b : Nat} {w w' : World} {xs : List Int} (h : Ar s b w.heap xs) (hc : Ch F w w') (hF : ¬ F b) : Ar s b w'.heap xs := by
  obtain ⟨e1, e2, e3, arr, T, e4, e5⟩ := h
  exact ⟨e1, e2, e3, arr, T, hc.at e4 hF, e5⟩

def Ct (k : IntKind) (b1 : Nat) (w : World) : Prop := ∃ T n, w.heap[b1]? = some (.cells #[.int k n] T (0, 0))

theorem c115 {s : Sl} {b b1 : Nat} {w : World} {xs : List Int} {i j : Nat} (h : Ar s b w.heap xs) (hc : Ct .i64 b1 w) (hne : b1 ≠ b) (hi : i < xs.length) (hj : j < xs.length) :
    CW Try.prog 115 #[slV s, iv i, iv j, .pointer (some ⟨b1, 0, none⟩)] w fun v w' => ∃ x y : Nat, v = .tuple #[iv x, iv y] ∧ (x = i ∧ y = j ∨ x = j ∧ y = i) ∧ Ar s b w'.heap xs ∧ Ct .i64 b1 w' ∧ Ch (fun q => q = b1) w w' := by
  have hd : Ch (fun q => q = b1) w w.drew := (extDrew w).mono fun _ _ h => h.elim
  refine F115_ok s i j _ w _ (ls (w := w.drew) h (by omega) (by omega) (by omega) (by omega) (IfB.intro (fun _ => ?_) (fun _ => ⟨i, j, rfl, .inl ⟨rfl, rfl⟩, h, hc, hd⟩)))
  obtain ⟨T, n, hn⟩ := hc
  refine ⟨b1, 0, rfl, n, by rw [cell_of (w := w.drew) hn]; rfl, b1, 0, rfl, rfl, store_one (w := w.drew) hn (by simp) rfl fun w2 h2 => ⟨j, i, rfl, .inr ⟨rfl, rfl⟩, ?_, ⟨T, _, h2.new⟩, hd.trans h2.ch⟩⟩
  exact Ar.ch (w := w.drew) h h2.ch (Ne.symm hne)

theorem c110 {s : Sl} {b b1 : Nat} {w : World} {xs : List Int} {i j k : Nat} (h : Ar s b w.heap xs) (hc : Ct .i64 b1 w) (hne : b1 ≠ b) (hi : i < xs.length) (hj : j < xs.length) (hk : k < xs.length) :
    CW Try.prog 110 #[slV s, iv i, iv j, iv k, .pointer (some ⟨b1, 0, none⟩)] w fun v w' => ∃ x : Nat, v = iv x ∧ (x = i ∨ x = j ∨ x = k) ∧ Ar s b w'.heap xs ∧ Ct .i64 b1 w' ∧ Ch (fun q => q = b1) w w' := by
  refine F110_ok s i j k _ w _ ((c115 h hc hne hi hj).use ?_)
  rintro _ w2 ⟨x1, y1, rfl, e1, h2, k2, l2⟩
  refine ⟨((x1 : Int), (y1 : Int)), rfl, (c115 h2 k2 hne (by omega) hk).use ?_⟩
  rintro _ w3 ⟨x2, y2, rfl, e2, h3, k3, l3⟩
  refine ⟨((x2 : Int), (y2 : Int)), rfl, (c115 h3 k3 hne (by omega) (by omega)).use ?_⟩
  rintro _ w4 ⟨x3, y3, rfl, e3, h4, k4, l4⟩
  exact ⟨((x3 : Int), (y3 : Int)), rfl, y3, rfl, by omega, h4, k4, (l2.trans l3).trans l4⟩

theorem c109 {s : Sl} {b b1 : Nat} {w : World} {xs : List Int} {i : Nat} (h : Ar s b w.heap xs) (hc : Ct .i64 b1 w) (hne : b1 ≠ b) (h0 : 0 < i) (hi : i + 1 < xs.length) :
    CW Try.prog 109 #[slV s, iv i, .pointer (some ⟨b1, 0, none⟩)] w fun v w' => ∃ x : Nat, v = iv x ∧ (i ≤ x + 1 ∧ x ≤ i + 1) ∧ Ar s b w'.heap xs ∧ Ct .i64 b1 w' ∧ Ch (fun q => q = b1) w w' := by
  have hl := h.2.2.1
  refine F109_ok s i _ w _ ?_
  unfold F109
  rw [wm1 (by omega) (by omega), wp1 (by omega)]
  refine (c110 h hc hne (by omega) (by omega) hi).use ?_
  rintro _ w2 ⟨x, rfl, e, h2, k2, l2⟩
  exact ⟨_, rfl, x, rfl, by omega, h2, k2, l2⟩

theorem wmul {i : Nat} {k : Int} {m : Nat} (hk : k = (m : Int)) (hm : m ≤ 4) (hi : i ≤ 1000000) : IntKind.i64.wrap ((i : Int) * k) = ((i * m : Nat) : Int) := by
  subst hk
  have : i * m ≤ 4000000 := Nat.le_trans (Nat.mul_le_mul hi hm) (by decide)
  rw [← Int.natCast_mul, wrap_of (by omega) (by omega)]

theorem c89 {s : Sl} {b : Nat} {w : World} {xs : List Int} {a e : Nat} (h : Ar s b w.heap xs) (he : e ≤ xs.length) (ha : a + 12 < e) :
    CW Try.prog 89 #[slV s, iv a, iv e] w fun v w' => ∃ (p : Nat) (t : Int), v = .tuple #[iv p, iv t] ∧ (a ≤ p ∧ p < e) ∧ Ar s b w'.heap xs ∧ Ext w w' := by
  have hl := h.2.2.1
  have hlt := h.lt
  refine F89_ok s a e w _ ?_
  intro b1 w2 h2
  have e2 : Ext w w2 := h2.ch _
  have p2 := h2.here
  have hA2 := h.ch e2 id
  have hc2 : Ct .i64 b1 w2 := ⟨_, _, h2.new⟩
  have hne : b1 ≠ b := by omega
  have hq : IntKind.i64.wrap ((IntKind.i64.wrap ((e : Int) - (a : Int))).tdiv (4 : Int)) = (((e - a) / 4 : Nat) : Int) := by
    rw [wsb (by omega) (by omega), Int.tdiv_eq_ediv_of_nonneg (by omega), wrap_of (by omega) (by omega)]; omega
  rw [hq, wmul (k := (1 : Int)) (m := 1) rfl (by omega) (by omega), wmul (k := (2 : Int)) (m := 2) rfl (by omega) (by omega), wmul (k := (3 : Int)) (m := 3) rfl (by omega) (by omega), wad (by omega), wad (by omega), wad (by omega), wsb (by omega) (by omega)]
  generalize hqq : (e - a) / 4 = q
  have hx : ∀ {w' : World}, Ch (fun i => i = b1) w2 w' → Ext w w' := fun hc => e2.then hc fun i hi h => by omega
  refine ⟨by decide, by decide, by decide, fun x W => ∃ p : Nat, x = (p : Int) ∧ (a ≤ p ∧ p < e) ∧ Ar s b W.heap xs ∧ Ct .i64 b1 W ∧ Ch (fun i => i = b1) w2 W, ?_, ?_⟩
  · refine IfB.yes (decide_eq_true (by omega)) ⟨fun x W => ∃ i j k : Nat, x = ((i : Int), (j : Int), (k : Int)) ∧ (a ≤ i ∧ i < e) ∧ (a ≤ j ∧ j < e) ∧ (a ≤ k ∧ k < e) ∧ Ar s b W.heap xs ∧ Ct .i64 b1 W ∧ Ch (fun i => i = b1) w2 W, ?_, ?_⟩
    · refine IfB.dec (fun h50 => ?_) (fun _ => ⟨rfl, _, _, _, rfl, by omega, by omega, by omega, hA2, hc2, Ch.refl _ _⟩)
      have h50 : 50 ≤ e - a := by omega
      refine (c109 hA2 hc2 hne (by omega) (by omega)).use ?_
      rintro _ w6 ⟨i, rfl, hi, h6, k6, l6⟩
      refine ⟨_, rfl, (c109 h6 k6 hne (by omega) (by omega)).use ?_⟩
      rintro _ w9 ⟨j, rfl, hj, h9, k9, l9⟩
      refine ⟨_, rfl, (c109 h9 k9 hne (by omega) (by omega)).use ?_⟩
      rintro _ w12 ⟨k, rfl, hk, h12, k12, l12⟩
      exact ⟨_, rfl, rfl, i, j, k, rfl, by omega, by omega, by omega, h12, k12, (l6.trans l9).trans l12⟩
    · rintro _ w15 _ ⟨i, j, k, rfl, hi, hj, hk, h15, k15, l15⟩
      refine (c110 h15 k15 hne (by omega) (by omega) (by omega)).use ?_
      rintro _ w19 ⟨x, rfl, hx, h19, k19, l19⟩
      exact ⟨_, rfl, rfl, x, rfl, by omega, h19, k19, l15.trans l19⟩
  · rintro _ w22 _ ⟨p, rfl, hp, h22, ⟨T, n, hn⟩, l22⟩
    refine ⟨n, by rw [cell_of hn]; rfl, IfB.intro (fun _ => ⟨p, 1, rfl, hp, h22, hx l22⟩) fun _ => IfB.intro (fun _ => ⟨p, 2, rfl, hp, h22, hx l22⟩) fun _ => ⟨p, 0, rfl, hp, h22, hx l22⟩⟩
end Go.Proofs.Ytmmhbjbaallkfaa.Gx

/- Sorting of ints: partitions. -/
namespace Go.Proofs.Ytmmhbjbaallkfaa.Gx
open Go
set_option linter.unusedSimpArgs false
set_option linter.unusedVariables false

structure Pt (a e : Nat) (xs ys : List Int) (v : Int) (Lo : Int → Prop) (i j : Nat) : Prop where
  pi : PI a e xs ys
  len : e ≤ xs.length
  v : g ys a = v
  ai : a + 1 ≤ i
  ij : i ≤ j + 1
  je : j + 1 ≤ e
  lo : ∀ k, a < k → k < i → Lo (g ys k)
  hi : ∀ k, j < k → k < e → ¬ Lo (g ys k)

theorem Pt.up {a e i j : Nat} {xs ys : List Int} {v : Int} {Lo : Int → Prop} (h : Pt a e xs ys v Lo i j) (hij : i ≤ j) (hl : Lo (g ys i)) : Pt a e xs ys v Lo (i + 1) j := by
  have h1 := h.ai
  refine ⟨h.pi, h.len, h.v, by omega, by omega, h.je, fun k h1 h2 => ?_, h.hi⟩
  by_cases hk : k = i
  · subst hk; exact hl
  · exact h.lo k h1 (by omega)
theorem Pt.dn {a e i j : Nat} {xs ys : List Int} {v : Int} {Lo : Int → Prop} (h : Pt a e xs ys v Lo i j) (hij : i ≤ j) (hl : ¬ Lo (g ys j)) : Pt a e xs ys v Lo i (j - 1) := by
  have h1 := h.ai; have h2 := h.je
  refine ⟨h.pi, h.len, h.v, h1, by omega, by omega, h.lo, fun k h1 h2 => ?_⟩
  by_cases hk : k = j
  · subst hk; exact hl
  · exact h.hi k (by omega) h2
theorem Pt.sw {a e i j : Nat} {xs ys : List Int} {v : Int} {Lo : Int → Prop} (h : Pt a e xs ys v Lo i j) (hij : i ≤ j) (h1 : ¬ Lo (g ys i)) (h2 : Lo (g ys j)) : Pt a e xs (swp ys i j) v Lo (i + 1) (j - 1) := by
  have hne : i ≠ j := fun e => h1 (e ▸ h2)
  have hl := h.pi.len; have h3 := h.len; have h4 := h.ai; have h5 := h.je
  refine ⟨.step h.pi (by omega) (by omega) (by omega) (by omega) (by omega), h3, ?_, by omega, by omega, by omega, fun k h6 h7 => ?_, fun k h6 h7 => ?_⟩
  · rw [g_swo (by omega) (by omega) (by omega) (by omega)]; exact h.v
  · by_cases hk : k = i
    · subst hk; rw [g_swl (by omega) (by omega)]; exact h2
    · rw [g_swo (by omega) (by omega) (by omega) (by omega)]; exact h.lo k h6 (by omega)
  · by_cases hk : k = j
    · subst hk; rw [g_swq (by omega) (by omega)]; exact h1
    · rw [g_swo (by omega) (by omega) (by omega) (by omega)]; exact h.hi k (by omega) h7

theorem upPart {s : Sl} {b a e i j : Nat} {w : World} {xs ys : List Int} {v : Int} {y : Int → World → Prop} (hP : Pt a e xs ys v (fun x => x < v) i j) (hA : Ar s b w.heap ys)
    (hy : ∀ (i' : Nat) (w' : World), Pt a e xs ys v (fun x => x < v) i' j → (j < i' ∨ ¬ g ys i' < v) → i ≤ i' → Ext w w' → y (i' : Int) w') :
    ∃ y14 : Nat → Int → World → Prop, (∃ b15, y14 b15 (i : Int) w) ∧ ∀ (b16 : Nat) (n17 : Int) (w18 : World) (_ : Nat → Value), y14 b16 n17 w18 → IfB (decide (n17 ≤ (j : Int))) (F94k2 s n17 w18 a b16 y14 y) (([] : List Nat) = [] ∧ y n17 w18.drew) := by
  refine ⟨fun n x W => ∃ i' : Nat, n = j + 1 - i' ∧ x = (i' : Int) ∧ i ≤ i' ∧ Pt a e xs ys v (fun x => x < v) i' j ∧ Ext w W, ⟨_, i, rfl, rfl, Nat.le_refl _, hP, Ch.refl _ _⟩, ?_⟩
  rintro _ _ W _ ⟨i', rfl, rfl, hii, hP', hW⟩
  have hl := hP'.pi.len; have h3 := hP'.len; have h4 := hP'.ai; have h5 := hP'.je; have h6 := hA.2.2.1
  have hd := hW.trans (extDrew W)
  refine IfB.dec (fun hle => ?_) (fun hgt => ⟨rfl, hy i' _ hP' (.inl (by omega)) hii hd⟩)
  have hle : i' ≤ j := by omega
  refine ls (w := W.drew) (hA.ch hd id) (by omega) (by omega) (by omega) (by omega) (IfB.dec (fun hl1 => ?_) (fun hl1 => ⟨rfl, hy i' _ hP' (.inr ?_) hii hd⟩))
  · rw [Int.toNat_natCast, Int.toNat_natCast, hP'.v] at hl1
    exact ⟨rfl, _, by omega, i' + 1, rfl, wp1 (by omega), by omega, hP'.up hle hl1, hd⟩
  · rw [Int.toNat_natCast, Int.toNat_natCast, hP'.v] at hl1; exact hl1

theorem dnPart {s : Sl} {b a e i j : Nat} {w : World} {xs ys : List Int} {v : Int} {y : Int → World → Prop} (hP : Pt a e xs ys v (fun x => x < v) i j) (hA : Ar s b w.heap ys)
    (hy : ∀ (j' : Nat) (w' : World), Pt a e xs ys v (fun x => x < v) i j' → (j' < i ∨ g ys j' < v) → j' ≤ j → Ext w w' → y (j' : Int) w') :
    ∃ y14 : Nat → Int → World → Prop, (∃ b15, y14 b15 (j : Int) w) ∧ ∀ (b16 : Nat) (n17 : Int) (w18 : World) (_ : Nat → Value), y14 b16 n17 w18 → IfB (decide ((i : Int) ≤ n17)) (F94k1 s n17 w18 a b16 y14 y) (([] : List Nat) = [] ∧ y n17 w18.drew) := by
  refine ⟨fun n x W => ∃ j' : Nat, j' = n ∧ x = (j' : Int) ∧ j' ≤ j ∧ Pt a e xs ys v (fun x => x < v) i j' ∧ Ext w W, ⟨_, j, rfl, rfl, Nat.le_refl _, hP, Ch.refl _ _⟩, ?_⟩
  rintro _ _ W _ ⟨j', rfl, rfl, hjj, hP', hW⟩
  have hl := hP'.pi.len; have h3 := hP'.len; have h4 := hP'.ai; have h5 := hP'.je; have h6 := hA.2.2.1
  have hd := hW.trans (extDrew W)
  refine IfB.dec (fun hle => ?_) (fun hgt => ⟨rfl, hy j' _ hP' (.inl (by omega)) hjj hd⟩)
  have hle : i ≤ j' := by omega
  refine ls (w := W.drew) (hA.ch hd id) (by omega) (by omega) (by omega) (by omega) (IfB.intro (fun hl1 => ?_) (fun hl1 => ⟨rfl, hy j' _ hP' (.inr ?_) hjj hd⟩))
  · simp only [Int.toNat_natCast, hP'.v, Bool.not_eq_true', decide_eq_false_iff_not] at hl1
    exact ⟨rfl, j' - 1, by omega, j' - 1, rfl, wm1 (by omega) (by omega), by omega, hP'.dn hle hl1, hd⟩
  · simp only [Int.toNat_natCast, hP'.v, Bool.not_eq_false', decide_eq_true_eq] at hl1; exact hl1

theorem c94 {s : Sl} {b : Nat} {w : World} {xs : List Int} {a e p : Nat} (h : Ar s b w.heap xs) (he : e ≤ xs.length) (hp : a ≤ p ∧ p < e) :
    CW Try.prog 94 #[slV s, iv a, iv e, iv p] w fun v w' => ∃ (m : Nat) (t : Bool), v = .tuple #[iv m, .bool t] ∧ (a ≤ m ∧ m < e) ∧ ∃ ys, PI a e xs ys ∧ (∀ k, a ≤ k → k < m → g ys k < g ys m) ∧ (∀ k, m < k → k < e → g ys m ≤ g ys k) ∧ Ar s b w'.heap ys ∧ CB b w w' := by
  have hl := h.2.2.1
  refine F94_ok s a e p w _ ?_
  have hCd : CB b w w.drew := (extDrew w).mono fun _ _ h => h.elim
  refine sw (w := w.drew) h (by omega) (by omega) (by omega) (by omega) fun w12 h12 C12 => ?_
  rw [Int.toNat_natCast, Int.toNat_natCast] at h12
  have C12 := hCd.trans C12
  have hP0 : Pt a e xs (swp xs a p) (g (swp xs a p) a) (fun x => x < g (swp xs a p) a) (a + 1) (e - 1) :=
    ⟨.step .refl (by omega) (by omega) (by omega) (by omega) he, he, rfl, by omega, by omega, by omega, fun k h1 h2 => by omega, fun k h1 h2 => by omega⟩
  generalize swp xs a p = ys0 at hP0 h12
  generalize g ys0 a = v at hP0
  have fin : ∀ {ys : List Int} {j : Nat} {W : World} {t : Bool}, Pt a e xs ys v (fun x => x < v) (j + 1) j → Ar s b W.heap ys → CB b w W →
      ∀ W2 : World, Ar s b W2.heap (swp ys j a) → CB b W W2 → ∃ (m : Nat) (t' : Bool), Value.tuple #[iv j, .bool t] = .tuple #[iv m, .bool t'] ∧ (a ≤ m ∧ m < e) ∧ ∃ ys, PI a e xs ys ∧ (∀ k, a ≤ k → k < m → g ys k < g ys m) ∧ (∀ k, m < k → k < e → g ys m ≤ g ys k) ∧ Ar s b W2.heap ys ∧ CB b w W2 := by
    intro ys j W t hP hA hC W2 hA2 hC2
    have hyl := hP.pi.len; have h4 := hP.ai; have h5 := hP.je
    have gj : g (swp ys j a) j = v := by rw [g_swl (by omega) (by omega)]; exact hP.v
    refine ⟨j, t, rfl, by omega, _, .step hP.pi (by omega) (by omega) (by omega) (by omega) (by omega), fun k h1 h2 => ?_, fun k h1 h2 => ?_, hA2, hC.trans hC2⟩
    · rw [gj]
      by_cases hk : k = a
      · subst hk; rw [g_swq (by omega) (by omega)]; exact hP.lo j (by omega) (by omega)
      · rw [g_swo (by omega) (by omega) (by omega) (by omega)]; exact hP.lo k (by omega) (by omega)
    · rw [gj, g_swo (by omega) (by omega) (by omega) (by omega)]
      have := hP.hi k h1 h2
      omega
  refine ⟨fun x W => ∃ i : Nat, x = (i : Int) ∧ Pt a e xs ys0 v (fun x => x < v) i (e - 1) ∧ (e - 1 < i ∨ ¬ g ys0 i < v) ∧ Ar s b W.heap ys0 ∧ CB b w W, ?_, ?_⟩
  · unfold F94j1
    rw [wp1 (by omega), wm1 (by omega) (by omega)]
    exact upPart hP0 h12 fun i' w' h1 h2 _ h3 => ⟨i', rfl, h1, h2, h12.ch h3 id, C12.then h3 fun _ _ h => h.elim⟩
  rintro _ W _ ⟨i, rfl, hP, hi, hA, hC⟩
  refine ⟨fun x W' => ∃ j : Nat, x = (j : Int) ∧ Pt a e xs ys0 v (fun x => x < v) i j ∧ (j < i ∨ g ys0 j < v) ∧ (j < i ∨ ¬ g ys0 i < v) ∧ Ar s b W'.heap ys0 ∧ CB b w W', ?_, ?_⟩
  · unfold F94j3
    rw [wm1 (by omega) (by omega)]
    exact dnPart hP hA fun j' w' h1 h2 h3 h4 => ⟨j', rfl, h1, h2, by omega, hA.ch h4 id, hC.then h4 fun _ _ h => h.elim⟩
  rintro _ W1 _ ⟨j, rfl, hP1, hj1, hj2, hA1, hC1⟩
  have hyl := hP1.pi.len; have h4 := hP1.ai; have h5 := hP1.je; have h6 := hP1.ij
  have hC1d : CB b w W1.drew := hC1.then (extDrew W1) fun _ _ h => h.elim
  unfold F94j4
  refine IfB.dec (fun hlt => ?_) (fun hge => ?_)
  · have hij : i = j + 1 := by omega
    subst hij
    refine sw (w := W1.drew) hA1 (by omega) (by omega) (by omega) (by omega) fun W2 h2 C2 => ?_
    rw [Int.toNat_natCast, Int.toNat_natCast] at h2
    exact fin (W := W1.drew) hP1 hA1 hC1d W2 h2 C2
  · have hij : i ≤ j := by omega
    refine sw (w := W1.drew) hA1 (by omega) (by omega) (by omega) (by omega) fun W2 h2 C2 => ?_
    rw [Int.toNat_natCast, Int.toNat_natCast] at h2
    have hP2 := hP1.sw hij (by omega) (by omega)
    have C2 := hC1d.trans C2
    refine ⟨fun n x W => ∃ (i j : Nat) (ys : List Int), n = j + 1 - i ∧ x = ((i : Int), (j : Int)) ∧ Pt a e xs ys v (fun x => x < v) i j ∧ Ar s b W.heap ys ∧ CB b w W, ⟨_, i + 1, j - 1, _, rfl, by rw [wp1 (by omega), wm1 (by omega) (by omega)], hP2, h2, C2⟩, ?_⟩
    rintro _ _ W3 _ ⟨i3, j3, ys3, rfl, rfl, hP3, hA3, hC3⟩
    unfold F94j5
    refine ⟨fun x W => ∃ i : Nat, x = (i : Int) ∧ i3 ≤ i ∧ Pt a e xs ys3 v (fun x => x < v) i j3 ∧ (j3 < i ∨ ¬ g ys3 i < v) ∧ Ar s b W.heap ys3 ∧ CB b w W, ?_, ?_⟩
    · exact upPart hP3 hA3 fun i' w' h1 h2 h3 h4 => ⟨i', rfl, h3, h1, h2, hA3.ch h4 id, hC3.then h4 fun _ _ h => h.elim⟩
    rintro _ W4 _ ⟨i4, rfl, hi34, hP4, hi4, hA4, hC4⟩
    refine ⟨fun x W' => ∃ j : Nat, x = (j : Int) ∧ j ≤ j3 ∧ Pt a e xs ys3 v (fun x => x < v) i4 j ∧ (j < i4 ∨ g ys3 j < v) ∧ (j < i4 ∨ ¬ g ys3 i4 < v) ∧ Ar s b W'.heap ys3 ∧ CB b w W', ?_, ?_⟩
    · exact dnPart hP4 hA4 fun j' w' h1 h2 h3 h4 => ⟨j', rfl, h3, h1, h2, by omega, hA4.ch h4 id, hC4.then h4 fun _ _ h => h.elim⟩
    rintro _ W5 _ ⟨j5, rfl, hj5, hP5, hj51, hj52, hA5, hC5⟩
    have hyl := hP5.pi.len; have h4 := hP5.ai; have h5 := hP5.je; have h6 := hP5.ij
    have hC5d : CB b w W5.drew := hC5.then (extDrew W5) fun _ _ h => h.elim
    unfold F94j9
    refine IfB.dec (fun hlt => ?_) (fun hge => ?_)
    · have hij : i4 = j5 + 1 := by omega
      subst hij
      refine sw (w := W5.drew) hA5 (by omega) (by omega) (by omega) (by omega) fun W6 h6 C6 => ?_
      rw [Int.toNat_natCast, Int.toNat_natCast] at h6
      exact fin (W := W5.drew) hP5 hA5 hC5d W6 h6 C6
    · have hij : i4 ≤ j5 := by omega
      refine sw (w := W5.drew) hA5 (by omega) (by omega) (by omega) (by omega) fun W6 h6 C6 => ?_
      rw [Int.toNat_natCast, Int.toNat_natCast] at h6
      exact ⟨rfl, _, by omega, i4 + 1, j5 - 1, _, rfl, by rw [wp1 (by omega), wm1 (by omega) (by omega)], hP5.sw hij (by omega) (by omega), h6, hC5d.trans C6⟩
end Go.Proofs.Ytmmhbjbaallkfaa.Gx

/- Sorting of ints: the partition by equal ones. -/
namespace Go.Proofs.Ytmmhbjbaallkfaa.Gx
open Go
set_option linter.unusedSimpArgs false
set_option linter.unusedVariables false

theorem c93 {s : Sl} {b : Nat} {w : World} {xs : List Int} {a e p : Nat} (h : Ar s b w.heap xs) (he : e ≤ xs.length) (hp : a ≤ p ∧ p < e) :
    CW Try.prog 93 #[slV s, iv a, iv e, iv p] w fun v w' => ∃ m : Nat, v = iv m ∧ (a < m ∧ m ≤ e) ∧ ∃ ys, PI a e xs ys ∧ g ys a = g xs p ∧ (∀ k, a ≤ k → k < m → ¬ g xs p < g ys k) ∧ (∀ k, m ≤ k → k < e → g xs p < g ys k) ∧ Ar s b w'.heap ys ∧ CB b w w' := by
  have hl := h.2.2.1
  refine F93_ok s a e p w _ ?_
  have hCd : CB b w w.drew := (extDrew w).mono fun _ _ h => h.elim
  refine sw (w := w.drew) h (by omega) (by omega) (by omega) (by omega) fun w12 h12 C12 => ?_
  rw [Int.toNat_natCast, Int.toNat_natCast] at h12
  have C12 := hCd.trans C12
  have hv : g (swp xs a p) a = g xs p := g_swl (by omega) (by omega)
  have hP0 : Pt a e xs (swp xs a p) (g xs p) (fun x => ¬ g xs p < x) (a + 1) (e - 1) :=
    ⟨.step .refl (by omega) (by omega) (by omega) (by omega) he, he, hv, by omega, by omega, by omega, fun k h1 h2 => by omega, fun k h1 h2 => by omega⟩
  generalize swp xs a p = ys0 at hP0 h12
  clear hv
  generalize g xs p = v at hP0
  refine ⟨fun n x W => ∃ (i j : Nat) (ys : List Int), n = j + 1 - i ∧ x = ((i : Int), (j : Int)) ∧ Pt a e xs ys v (fun x => ¬ v < x) i j ∧ Ar s b W.heap ys ∧ CB b w W, ⟨_, a + 1, e - 1, _, rfl, by rw [wp1 (by omega), wm1 (by omega) (by omega)], hP0, h12, C12⟩, ?_⟩
  rintro _ _ W3 _ ⟨i3, j3, ys3, rfl, rfl, hP3, hA3, hC3⟩
  unfold F93j1
  refine ⟨fun x W => ∃ i : Nat, x = (i : Int) ∧ i3 ≤ i ∧ Pt a e xs ys3 v (fun x => ¬ v < x) i j3 ∧ (j3 < i ∨ v < g ys3 i) ∧ Ar s b W.heap ys3 ∧ CB b w W, ?_, ?_⟩
  · refine ⟨fun n x W => ∃ i : Nat, n = j3 + 1 - i ∧ x = (i : Int) ∧ i3 ≤ i ∧ Pt a e xs ys3 v (fun x => ¬ v < x) i j3 ∧ Ar s b W.heap ys3 ∧ CB b w W, ⟨_, i3, rfl, rfl, Nat.le_refl _, hP3, hA3, hC3⟩, ?_⟩
    rintro _ _ W _ ⟨i, rfl, rfl, hii, hP, hA, hC⟩
    have hyl := hP.pi.len; have h4 := hP.ai; have h5 := hP.je; have h6 := hP.ij
    have hd : CB b w W.drew := hC.then (extDrew W) fun _ _ h => h.elim
    unfold F93j2
    refine IfB.dec (fun hle => ?_) (fun hgt => ⟨rfl, i, rfl, hii, hP, .inl ?_, hA, hd⟩)
    · have hle : i ≤ j3 := by
        have : (i : Int) ≤ (j3 : Int) := hle
        omega
      refine ls (w := W.drew) hA (by omega) (by omega) (by omega) (by omega) (IfB.intro (fun hl1 => ?_) (fun hl1 => ⟨rfl, i, rfl, hii, hP, .inr ?_, hA, hd⟩))
      · simp only [Int.toNat_natCast, hP.v, Bool.not_eq_true', decide_eq_false_iff_not] at hl1
        exact ⟨rfl, _, by omega, i + 1, rfl, wp1 (by omega), by omega, hP.up hle hl1, hA, hd⟩
      · simp only [Int.toNat_natCast, hP.v, Bool.not_eq_false', decide_eq_true_eq] at hl1; exact hl1
    · have : ¬ (i : Int) ≤ (j3 : Int) := hgt
      omega
  rintro _ W4 _ ⟨i4, rfl, hi34, hP4, hi4, hA4, hC4⟩
  refine ⟨fun x W' => ∃ j : Nat, x = (j : Int) ∧ j ≤ j3 ∧ Pt a e xs ys3 v (fun x => ¬ v < x) i4 j ∧ (j < i4 ∨ ¬ v < g ys3 j) ∧ (j < i4 ∨ v < g ys3 i4) ∧ Ar s b W'.heap ys3 ∧ CB b w W', ?_, ?_⟩
  · refine ⟨fun n x W => ∃ j : Nat, j = n ∧ x = (j : Int) ∧ j ≤ j3 ∧ Pt a e xs ys3 v (fun x => ¬ v < x) i4 j ∧ (j < i4 ∨ v < g ys3 i4) ∧ Ar s b W.heap ys3 ∧ CB b w W, ⟨_, j3, rfl, rfl, Nat.le_refl _, hP4, by omega, hA4, hC4⟩, ?_⟩
    rintro _ _ W _ ⟨j, rfl, rfl, hjj, hP, hi, hA, hC⟩
    have hyl := hP.pi.len; have h4 := hP.ai; have h5 := hP.je; have h6 := hP.ij
    have hd : CB b w W.drew := hC.then (extDrew W) fun _ _ h => h.elim
    unfold F93j4
    refine IfB.dec (fun hle => ?_) (fun hgt => ⟨rfl, j, rfl, hjj, hP, .inl (by omega), hi, hA, hd⟩)
    have hle : i4 ≤ j := by omega
    refine ls (w := W.drew) hA (by omega) (by omega) (by omega) (by omega) (IfB.dec (fun hl1 => ?_) (fun hl1 => ⟨rfl, j, rfl, hjj, hP, .inr ?_, hi, hA, hd⟩))
    · rw [Int.toNat_natCast, Int.toNat_natCast, hP.v] at hl1
      exact ⟨rfl, j - 1, by omega, j - 1, rfl, wm1 (by omega) (by omega), by omega, hP.dn hle (by omega), by omega, hA, hd⟩
    · rw [Int.toNat_natCast, Int.toNat_natCast, hP.v] at hl1; exact hl1
  rintro _ W5 _ ⟨j5, rfl, hj5, hP5, hj51, hj52, hA5, hC5⟩
  have hyl := hP5.pi.len; have h4 := hP5.ai; have h5 := hP5.je; have h6 := hP5.ij
  have hC5d : CB b w W5.drew := hC5.then (extDrew W5) fun _ _ h => h.elim
  unfold F93j5
  refine IfB.dec (fun hlt => ?_) (fun hge => ?_)
  · refine ⟨i4, rfl, by omega, ys3, hP5.pi, hP5.v, fun k h1 h2 => ?_, fun k h1 h2 => ?_, hA5, hC5⟩
    · by_cases hk : k = a
      · subst hk; rw [hP5.v]; omega
      · exact hP5.lo k (by omega) h2
    · have := hP5.hi k (by omega) h2
      omega
  · have hij : i4 ≤ j5 := by omega
    refine sw (w := W5.drew) hA5 (by omega) (by omega) (by omega) (by omega) fun W6 h6 C6 => ?_
    rw [Int.toNat_natCast, Int.toNat_natCast] at h6
    exact ⟨rfl, _, by omega, i4 + 1, j5 - 1, _, rfl, by rw [wp1 (by omega), wm1 (by omega) (by omega)], hP5.sw hij (by omega) (by omega), h6, hC5d.trans C6⟩
end Go.Proofs.Ytmmhbjbaallkfaa.Gx

/- Sorting of ints: a few insertions. -/
namespace Go.Proofs.Ytmmhbjbaallkfaa.Gx
open Go
set_option linter.unusedSimpArgs false
set_option linter.unusedVariables false

theorem CB.drew {b : Nat} {w W : World} (h : CB b w W) : CB b w W.drew := Ch.then h (extDrew W) fun _ _ h => h.elim

theorem c91 {s : Sl} {b : Nat} {w : World} {xs : List Int} {a e : Nat} (h : Ar s b w.heap xs) (he : e ≤ xs.length) (ha : a < e) (hb : 0 < a → ∀ k, a ≤ k → k < e → g xs (a - 1) ≤ g xs k) :
    CW Try.prog 91 #[slV s, iv a, iv e] w fun v w' => ∃ t, v = .bool t ∧ ∃ ys, PI a e xs ys ∧ (t = true → SO ys a e) ∧ Ar s b w'.heap ys ∧ CB b w w' := by
  have hl := h.2.2.1
  have lb : ∀ {ys}, PI a e xs ys → 0 < a → ∀ k, a ≤ k → k < e → g ys (a - 1) ≤ g ys k := fun {ys} hP h0 k h1 h2 => by
    rw [hP.out (.inl (by omega))]
    exact hP.all (Q := fun v => g xs (a - 1) ≤ v) (fun i h3 h4 => hb h0 i h3 h4) k h1 h2
  refine F91_ok s a e w _ ⟨fun n x W => ∃ (i j : Nat) (ys : List Int), n = 5 - j ∧ x = ((i : Int), (j : Int)) ∧ j ≤ 5 ∧ (a + 1 ≤ i ∧ i ≤ e) ∧ PI a e xs ys ∧ SO ys a i ∧ Ar s b W.heap ys ∧ CB b w W, ⟨_, a + 1, 0, xs, rfl, by rw [wp1 (by omega)]; rfl, by omega, by omega, .refl, fun p q _ _ _ => by omega, h, Ch.refl _ _⟩, ?_⟩
  rintro _ _ W _ ⟨i0, j0, ys, rfl, rfl, hj0, hi0, hP, hS0, hA, hC⟩
  have hyl := hP.len
  refine IfB.dec (fun hlt => ?_) (fun hge => ⟨false, rfl, ys, hP, (fun h => by cases h), hA, hC⟩)
  have hj5 : j0 < 5 := by
    have : (j0 : Int) < 5 := hlt
    omega
  refine ⟨fun x W => ∃ i : Nat, x = (i : Int) ∧ (a + 1 ≤ i ∧ i ≤ e) ∧ SO ys a i ∧ Ar s b W.heap ys ∧ CB b w W, ?_, ?_⟩
  · refine ⟨fun n x W => ∃ i : Nat, n = e - i ∧ x = (i : Int) ∧ (a + 1 ≤ i ∧ i ≤ e) ∧ SO ys a i ∧ Ar s b W.heap ys ∧ CB b w W, ⟨_, i0, rfl, rfl, hi0, hS0, hA, hC⟩, ?_⟩
    rintro _ _ W1 _ ⟨i, rfl, rfl, hi, hS, hA1, hC1⟩
    unfold F91j2
    refine IfB.dec (fun hlt => ?_) (fun hge => ⟨rfl, i, rfl, hi, hS, hA1, hC1.drew⟩)
    rw [wm1 (by omega) (by omega)]
    refine ls (w := W1.drew) hA1 (by omega) (by omega) (by omega) (by omega) (IfB.intro (fun hl1 => ?_) (fun hl1 => ⟨rfl, i, rfl, hi, hS, hA1, hC1.drew⟩))
    simp only [Int.toNat_natCast, Bool.not_eq_true', decide_eq_false_iff_not] at hl1
    refine ⟨rfl, _, by omega, i + 1, rfl, wp1 (by omega), by omega, fun p q h1 h2 h3 => ?_, hA1, hC1.drew⟩
    by_cases hq : q = i
    · subst hq
      by_cases hp : p = q - 1
      · subst hp; omega
      · have := hS p (q - 1) h1 (by omega) (by omega)
        omega
    · exact hS p q h1 h2 (by omega)
  rintro _ W2 _ ⟨i, rfl, hi, hS, hA2, hC2⟩
  unfold F91j3
  refine IfB.intro (fun hi3 => ?_) (fun hi3 => ?_)
  · have hi3 : (i : Int) = (e : Int) := by simpa using hi3
    have : i = e := by omega
    subst this
    exact ⟨true, rfl, ys, hP, fun _ => hS, hA2, hC2⟩
  have hie : i < e := by
    have : (i : Int) ≠ (e : Int) := by simpa using hi3
    omega
  rw [wsb (by omega) (by omega)]
  refine @IfB.dec (((e - a : Nat) : Int) < (50 : Int)) _ _ _ (fun _ => ⟨false, rfl, ys, hP, (fun h => by cases h), hA2, hC2⟩) (fun _ => ?_)
  rw [wm1 (by omega) (by omega)]
  refine sw (w := W2.drew) hA2 (by omega) (by omega) (by omega) (by omega) fun W3 hA3 hC3 => ?_
  rw [Int.toNat_natCast, Int.toNat_natCast] at hA3
  have hP3 : PI a e xs (swp ys i (i - 1)) := .step hP (by omega) (by omega) (by omega) (by omega) (by omega)
  have hC3 := (CB.drew hC2).trans hC3
  rw [wsb (by omega) (by omega)]
  refine ⟨fun _ W => ∃ zs, PI a e xs zs ∧ SO zs a i ∧ Ar s b W.heap zs ∧ CB b w W, ?_, ?_⟩
  · refine IfB.dec (fun h2 => ?_) (fun h2 => ⟨rfl, _, hP3, fun p q _ _ _ => by omega, hA3, hC3⟩)
    refine ⟨fun n x W => ∃ (j : Nat) (zs : List Int), j = n ∧ x = (j : Int) ∧ (a ≤ j ∧ j ≤ i - 1) ∧ PI a e xs zs ∧ (∀ p q, a ≤ p → p < q → q < i → q ≠ j → g zs p ≤ g zs q) ∧ Ar s b W.heap zs ∧ CB b w W, ⟨_, i - 1, _, rfl, rfl, by omega, hP3, fun p q h1 h2 h3 h4 => ?_, hA3, hC3⟩, ?_⟩
    · rw [g_swo (by omega) (by omega) (by omega) (by omega), g_swo (by omega) (by omega) (by omega) (by omega)]
      exact hS p q h1 h2 h3
    rintro _ _ W4 _ ⟨j, zs, rfl, rfl, hj, hP4, hS4, hA4, hC4⟩
    have hzl := hP4.len
    unfold F91j4
    refine IfB.dec (fun hj1 => ?_) (fun hj1 => ⟨rfl, zs, hP4, fun p q h1 h2 h3 => hS4 p q h1 h2 h3 (by omega), hA4, hC4⟩)
    rw [wm1 (by omega) (by omega)]
    refine ls (w := W4.drew) hA4 (by omega) (by omega) (by omega) (by omega) (IfB.intro (fun hl1 => ?_) (fun hl1 => ?_))
    · simp only [Int.toNat_natCast, Bool.not_eq_true', decide_eq_false_iff_not] at hl1
      refine ⟨rfl, zs, hP4, fun p q h1 h2 h3 => ?_, hA4, hC4.drew⟩
      by_cases hq : q = j
      · subst hq
        by_cases hp : p = q - 1
        · subst hp; omega
        · have := hS4 p (q - 1) h1 (by omega) (by omega) (by omega)
          omega
      · exact hS4 p q h1 h2 h3 hq
    · simp only [Int.toNat_natCast, Bool.not_eq_false', decide_eq_true_eq] at hl1
      have haj : a < j := by
        rcases Nat.lt_or_ge a j with h | h
        · exact h
        · have : a = j := by omega
          subst this
          have := lb hP4 (by omega) a (Nat.le_refl _) (by omega)
          omega
      refine sw (w := W4.drew.drew) hA4 (by omega) (by omega) (by omega) (by omega) fun W5 hA5 hC5 => ?_
      rw [Int.toNat_natCast, Int.toNat_natCast] at hA5
      refine ⟨rfl, j - 1, by omega, j - 1, _, rfl, rfl, by omega, .step hP4 (by omega) (by omega) (by omega) (by omega) (by omega), fun p q h1 h2 h3 h4 => ?_, hA5, (CB.drew (CB.drew hC4)).trans hC5⟩
      rw [g_swp (by omega) (by omega), g_swp (by omega) (by omega)]
      have A1 := hS4 p (j - 1) h1
      have A2 := hS4 p q h1 h2 h3
      have A3 := hS4 j q (by omega)
      have A4 := hS4 (j - 1) q (by omega)
      split <;> split <;> (try split) <;> (try split) <;> first | omega | skip
  rintro _ W6 _ ⟨zs, hP6, hS6, hA6, hC6⟩
  have hzl := hP6.len
  have next : ∀ {us : List Int} {W : World}, PI a e xs us → SO us a i → Ar s b W.heap us → CB b w W → ([] : List Nat) = [] ∧ ∃ b112, b112 < 5 - j0 ∧ ∃ (i' j' : Nat) (ys : List Int), b112 = 5 - j' ∧ ((i : Int), IntKind.i64.wrap ((j0 : Int) + (1 : Int))) = ((i' : Int), (j' : Int)) ∧ j' ≤ 5 ∧ (a + 1 ≤ i' ∧ i' ≤ e) ∧ PI a e xs ys ∧ SO ys a i' ∧ Ar s b W.heap ys ∧ CB b w W :=
    fun h1 h2 h3 h4 => ⟨rfl, 5 - (j0 + 1), by omega, i, j0 + 1, _, rfl, by rw [wp1 (by omega)], by omega, by omega, h1, h2, h3, h4⟩
  unfold F91j5
  refine ⟨fun t W => W = W6, ⟨rfl, rfl⟩, ?_⟩
  rintro t _ _ rfl
  refine IfB.intro (fun _ => ?_) (fun _ => next hP6 hS6 hA6 hC6)
  refine ⟨fun n x W => ∃ (j : Nat) (us : List Int), n = e - j ∧ x = (j : Int) ∧ (i + 1 ≤ j ∧ j ≤ e) ∧ PI a e xs us ∧ SO us a i ∧ Ar s b W.heap us ∧ CB b w W, ⟨_, i + 1, zs, rfl, wp1 (by omega), by omega, hP6, hS6, hA6, hC6⟩, ?_⟩
  rintro _ _ W7 _ ⟨j, us, rfl, rfl, hj, hP7, hS7, hA7, hC7⟩
  have hul := hP7.len
  unfold F91j7
  refine IfB.dec (fun hlt => ?_) (fun _ => next hP7 hS7 hA7 hC7)
  rw [wm1 (by omega) (by omega)]
  refine ls (w := W7.drew) hA7 (by omega) (by omega) (by omega) (by omega) (IfB.intro (fun _ => next hP7 hS7 hA7 hC7.drew) (fun _ => ?_))
  refine sw (w := W7.drew.drew) hA7 (by omega) (by omega) (by omega) (by omega) fun W8 hA8 hC8 => ?_
  rw [Int.toNat_natCast, Int.toNat_natCast] at hA8
  refine ⟨rfl, _, by omega, j + 1, _, rfl, wp1 (by omega), by omega, .step hP7 (by omega) (by omega) (by omega) (by omega) (by omega), fun p q h1 h2 h3 => ?_, hA8, (CB.drew (CB.drew hC7)).trans hC8⟩
  rw [g_swo (by omega) (by omega) (by omega) (by omega), g_swo (by omega) (by omega) (by omega) (by omega)]
  exact hS7 p q h1 h2 h3
end Go.Proofs.Ytmmhbjbaallkfaa.Gx

/- Sorting of ints: bits.Len, the random turns. -/
namespace Go.Proofs.Ytmmhbjbaallkfaa.Gx
open Go
set_option linter.unusedSimpArgs false
set_option linter.unusedVariables false

theorem tab_all : ((List.range 256).all fun i => match GxLSby0[i]? with | some y => decide (i < 2 ^ y.toNat) && (decide (i = 0) || decide (2 ^ (y.toNat - 1) ≤ i)) && decide (y.toNat ≤ 8) && (decide (i = 0) || decide (1 ≤ y.toNat)) | none => false) = true := by kernel_rfl
theorem tab_get {i : Nat} (hi : i < 256) : ∃ y, GxLSby0[i]? = some y ∧ i < 2 ^ y.toNat ∧ (0 < i → 2 ^ (y.toNat - 1) ≤ i ∧ 1 ≤ y.toNat) ∧ y.toNat ≤ 8 := by
  have h := List.all_eq_true.1 tab_all i (List.mem_range.2 hi)
  cases hy : GxLSby0[i]? with
  | none => rw [hy] at h; cases h
  | some y =>
    rw [hy] at h
    simp only [Bool.and_eq_true, Bool.or_eq_true, decide_eq_true_eq] at h
    exact ⟨y, rfl, h.1.1.1, fun h0 => ⟨by omega, by omega⟩, h.1.2⟩

theorem wu8 {i : Nat} (h : i < 256) : IntKind.u8.wrap (i : Int) = (i : Int) := by
  unfold IntKind.wrap; simp [IntKind.signed, IntKind.bits]; omega

/-- How many bits: L with x < 2 ^ L, and 2 ^ (L - 1) <= x. -/
def LenIs (x L : Nat) : Prop := x < 2 ^ L ∧ (0 < x → 2 ^ (L - 1) ≤ x ∧ 1 ≤ L) ∧ L ≤ 24
theorem LenIs.shift {x L k : Nat} (h : LenIs (x / 2 ^ k) L) (h0 : 0 < x / 2 ^ k) (hL : L + k ≤ 24) : LenIs x (k + L) := by
  obtain ⟨h1, h2, h3⟩ := h
  obtain ⟨h4, h5⟩ := h2 h0
  have hp : 0 < 2 ^ k := Nat.pow_pos (by decide)
  refine ⟨?_, fun _ => ⟨?_, by omega⟩, by omega⟩
  · rw [Nat.pow_add, Nat.mul_comm]; exact (Nat.div_lt_iff_lt_mul hp).1 h1
  · rw [show k + L - 1 = (L - 1) + k by omega, Nat.pow_add]
    exact (Nat.le_div_iff_mul_le hp).1 h4

theorem fdv {x k : Nat} {n : Int} (hk : min (Int.toNat n) IntKind.u64.bits = k) : (x : Int).fdiv ((2 : Int) ^ min (Int.toNat n) IntKind.u64.bits) = ((x / 2 ^ k : Nat) : Int) := by
  rw [hk, Int.fdiv_eq_ediv_of_nonneg _ (Int.pow_nonneg (by decide))]
  simp

theorem c84 {x : Nat} (hx : x ≤ 1000000) (w : World) : CW Try.prog 84 #[.int .u64 x] w fun v w' => ∃ L : Nat, v = iv L ∧ LenIs x L ∧ w = w' := by
  refine F84_ok _ _ _ (IfB.no (decide_eq_false (by omega)) (IfB.dec (fun h1 => ⟨by decide, ?_⟩) (fun h1 => IfB.dec (fun h2 => ?_) (fun h2 => ?_))))
  · rw [fdv (n := (16 : Int)) (k := 16) rfl]
    refine IfB.no (decide_eq_false (by omega)) ?_
    unfold F84k3
    rw [fdv (n := (16 : Int)) (k := 16) rfl, wu8 (by omega)]
    obtain ⟨y, hy, h3, h4, h5⟩ := tab_get (i := x / 2 ^ 16) (by omega)
    refine ⟨y, by omega, by rw [Int.toNat_natCast]; exact hy, 16 + y.toNat, ?_, LenIs.shift ⟨h3, h4, by omega⟩ (by omega) (by omega), rfl⟩
    rw [wrap_of (n := ((y.toNat : Nat) : Int)) (by omega) (by omega), wrap_of (n := (0 : Int) + 16) (by omega) (by omega), wrap_of (by omega) (by omega)]; rfl
  · unfold F84k4
    rw [fdv (n := (8 : Int)) (k := 8) rfl, wu8 (by omega)]
    obtain ⟨y, hy, h3, h4, h5⟩ := tab_get (i := x / 2 ^ 8) (by omega)
    refine ⟨by decide, y, by omega, by rw [Int.toNat_natCast]; exact hy, 8 + y.toNat, ?_, LenIs.shift ⟨h3, h4, by omega⟩ (by omega) (by omega), rfl⟩
    rw [wrap_of (n := ((y.toNat : Nat) : Int)) (by omega) (by omega), wrap_of (n := (0 : Int) + 8) (by omega) (by omega), wrap_of (by omega) (by omega)]; rfl
  · unfold F84k1
    rw [wu8 (by omega)]
    obtain ⟨y, hy, h3, h4, h5⟩ := tab_get (i := x) (by omega)
    refine ⟨y, by omega, by rw [Int.toNat_natCast]; exact hy, y.toNat, ?_, ⟨h3, h4, by omega⟩, rfl⟩
    rw [wrap_of (n := ((y.toNat : Nat) : Int)) (by omega) (by omega), wrap_of (by omega) (by omega)]; simp

theorem c62 {x : Nat} (hx : x ≤ 1000000) (w : World) : CW Try.prog 62 #[.int .u64 x] w fun v w' => ∃ L : Nat, v = iv L ∧ LenIs x L ∧ w = w' := by
  refine F62_ok _ _ _ ((c84 hx w).use ?_)
  rintro _ _ ⟨L, rfl, hL, rfl⟩
  exact ⟨_, rfl, L, rfl, hL, rfl⟩

theorem wu64 {i : Nat} (h : i < 2 ^ 64) : IntKind.u64.wrap (i : Int) = (i : Int) := by
  unfold IntKind.wrap; simp [IntKind.signed, IntKind.bits]; omega

theorem c104 {x : Nat} (hx : x ≤ 1000000) (w : World) : CW Try.prog 104 #[iv x] w fun v w' => ∃ L : Nat, v = .int .u64 ((2 ^ L : Nat) : Int) ∧ LenIs x L ∧ w = w' := by
  refine F104_ok _ _ _ ?_
  unfold F104
  rw [wu64 (by omega)]
  refine (c62 hx w).use ?_
  rintro _ _ ⟨L, rfl, hL, rfl⟩
  refine ⟨_, rfl, by omega, L, ?_, hL, rfl⟩
  have h24 := hL.2.2
  rw [Int.toNat_natCast, show min L IntKind.u64.bits = L from Nat.min_eq_left (by show L ≤ 64; omega), Int.one_mul]
  have : 2 ^ L < 2 ^ 64 := Nat.pow_lt_pow_right (by decide) (by omega)
  rw [← wu64 this]; simp

theorem c105 {b1 : Nat} {w : World} (h : Ct .u64 b1 w) : CW Try.prog 105 #[.pointer (some ⟨b1, 0, none⟩)] w fun v w' => ∃ n, v = .int .u64 n ∧ Ct .u64 b1 w' ∧ Ch (fun q => q = b1) w w' := by
  obtain ⟨T, n, hn⟩ := h
  refine F105_ok _ w _ ⟨b1, 0, rfl, n, by rw [cell_of (w := w.drew) hn]; rfl, b1, 0, rfl, n, by rw [cell_of (w := w.drew) hn]; rfl, by decide, b1, 0, rfl, rfl, store_one (w := w.drew) hn (by simp) rfl fun w9 h9 => ?_⟩
  have hn9 := h9.new
  refine ⟨b1, 0, rfl, _, by rw [cell_of (w := w9.drew) hn9]; rfl, b1, 0, rfl, _, by rw [cell_of (w := w9.drew) hn9]; rfl, by decide, b1, 0, rfl, rfl, store_one (w := w9.drew) hn9 (by simp) rfl fun w18 h18 => ?_⟩
  have hn18 := h18.new
  refine ⟨b1, 0, rfl, _, by rw [cell_of (w := w18.drew) hn18]; rfl, b1, 0, rfl, _, by rw [cell_of (w := w18.drew) hn18]; rfl, by decide, b1, 0, rfl, rfl, store_one (w := w18.drew) hn18 (by simp) rfl fun w27 h27 => ?_⟩
  have hn27 := h27.new
  exact ⟨b1, 0, rfl, _, by rw [cell_of hn27]; rfl, _, rfl, ⟨T, _, hn27⟩, ((CB.drew (CB.drew (CB.drew (Ch.refl _ w) |>.trans h9.ch) |>.trans h18.ch)).trans h27.ch)⟩

theorem and_le {n : Int} {m : Nat} (hm : m < 2 ^ 64) : ∃ k : Nat, bitsI BinOp.and IntKind.u64 n (m : Int) = (k : Int) ∧ k ≤ m := by
  refine ⟨(BitVec.ofInt 64 n &&& BitVec.ofInt 64 (m : Int)).toNat, ?_, ?_⟩
  · show IntKind.u64.wrap _ = _
    exact wu64 (BitVec.isLt _)
  · rw [BitVec.toNat_and]
    refine Nat.le_trans Nat.and_le_right ?_
    rw [BitVec.ofInt_natCast, BitVec.toNat_ofNat, Nat.mod_eq_of_lt hm]
    exact Nat.le_refl _
end Go.Proofs.Ytmmhbjbaallkfaa.Gx

/- Sorting of ints: the random turns; pdqsort; slices.Sort. -/
namespace Go.Proofs.Ytmmhbjbaallkfaa.Gx
open Go
set_option linter.unusedSimpArgs false
set_option linter.unusedVariables false

theorem c88 {s : Sl} {b : Nat} {w : World} {xs : List Int} {a e : Nat} (h : Ar s b w.heap xs) (he : e ≤ xs.length) (ha : a + 12 < e) :
    CW Try.prog 88 #[slV s, iv a, iv e] w fun v w' => v = .tuple #[] ∧ ∃ ys, PI a e xs ys ∧ Ar s b w'.heap ys ∧ CB b w w' := by
  have hl := h.2.2.1
  have hlt := h.lt
  refine F88_ok s a e w _ ?_
  unfold F88
  rw [wsb (by omega) (by omega)]
  refine IfB.yes (decide_eq_true (by omega)) ?_
  intro b1 w2 h2
  have p2 := h2.here; have z2 := h2.size
  rw [wu64 (by omega)]
  refine ⟨rfl, store_all h2.new rfl (by intro u hu; simp at hu; subst hu; rfl) fun w3 h3 => ?_⟩
  have e3 : Ext w w3 := Ext.fresh h2 h3
  have hne : b1 ≠ b := by omega
  refine (c104 (x := e - a) (by omega) w3).use ?_
  rintro _ _ ⟨L, rfl, hL, rfl⟩
  have hq : IntKind.i64.wrap ((((e - a : Nat) : Int)).tdiv (4 : Int)) = (((e - a) / 4 : Nat) : Int) := by
    rw [Int.tdiv_eq_ediv_of_nonneg (by omega), wrap_of (by omega) (by omega)]; omega
  obtain ⟨hL1, hL2, hL3⟩ := hL
  obtain ⟨hL4, hL5⟩ := hL2 (by omega)
  have h2L : 2 ^ L ≤ 2 * (e - a) := by
    have : 2 ^ L = 2 ^ (L - 1) * 2 := by rw [← Nat.pow_succ]; congr 1; omega
    omega
  have hLpos : 0 < 2 ^ L := Nat.pow_pos (by decide)
  generalize 2 ^ L = M at *
  rw [hq, wmul (k := (2 : Int)) (m := 2) rfl (by omega) (by omega), wad (by omega), wm1 (by omega) (by omega)]
  generalize hqq : (e - a) / 4 = q at *
  refine ⟨_, rfl, by decide, fun n x W => ∃ (i : Nat) (ys : List Int), n = a + q * 2 + 2 - i ∧ x = (i : Int) ∧ (a + q * 2 - 1 ≤ i ∧ i ≤ a + q * 2 + 2) ∧ PI a e xs ys ∧ Ar s b W.heap ys ∧ Ct .u64 b1 W ∧ CB b w W, ⟨_, _, xs, rfl, rfl, by omega, .refl, h.ch e3 id, ⟨_, _, h3.new⟩, e3.mono fun _ _ h => h.elim⟩, ?_⟩
  rintro _ _ W _ ⟨i, ys, rfl, rfl, hi, hP, hA, hK, hC⟩
  have hyl := hP.len
  unfold F88j1
  rw [wsb (by omega) (by omega), hq, wmul (k := (2 : Int)) (m := 2) rfl (by omega) (by omega), wad (by omega), wp1 (by omega)]
  refine ⟨by decide, IfB.dec (fun hle => ?_) (fun hgt => ⟨rfl, ys, hP, hA, hC⟩)⟩
  refine (c105 hK).use ?_
  rintro _ w15 ⟨n16, rfl, hK2, hC2⟩
  have hA2 := hA.ch hC2 (Ne.symm hne)
  have hC3 : CB b w w15 := hC.then hC2 fun j hj h => by omega
  have hm : IntKind.u64.wrap ((M : Int) - (1 : Int)) = ((M - 1 : Nat) : Int) := by
    rw [show ((M : Int) - (1 : Int)) = ((M - 1 : Nat) : Int) by omega, wu64 (by omega)]
  obtain ⟨k, hk, hkM⟩ := and_le (n := n16) (m := M - 1) (by omega)
  refine ⟨n16, rfl, fun x W => ∃ t : Nat, x = (t : Int) ∧ t < e - a ∧ w15 = W, ?_, ?_⟩
  · rw [hm, hk, wrap_of (n := (k : Int)) (by omega) (by omega)]
    refine IfB.dec (fun h1 => ⟨rfl, k - (e - a), wsb (by omega) (by omega), by omega, rfl⟩) (fun h1 => ⟨rfl, k, rfl, by omega, rfl⟩)
  rintro _ _ _ ⟨t, rfl, ht, rfl⟩
  unfold F88j2
  rw [wad (by omega)]
  refine sw (w := w15.drew) hA2 (by omega) (by omega) (by omega) (by omega) fun W5 hA5 hC5 => ?_
  rw [Int.toNat_natCast, Int.toNat_natCast] at hA5
  exact ⟨rfl, _, by omega, i + 1, _, rfl, wp1 (by omega), by omega, .step hP (by omega) (by omega) (by omega) (by omega) (by omega), hA5, by
    obtain ⟨T, n, hn⟩ := hK2
    exact ⟨T, n, hC5.at (w := w15.drew) hn hne⟩, hC3.drew.trans hC5⟩

theorem SO.split {ys : List Int} {a m e : Nat} (h1 : SO ys a m) (h2 : SO ys (m + 1) e) (hl : ∀ k, a ≤ k → k < m → g ys k ≤ g ys m) (hr : ∀ k, m < k → k < e → g ys m ≤ g ys k) : SO ys a e := by
  intro p q hp hpq hq
  rcases Nat.lt_trichotomy p m with h | h | h
  · rcases Nat.lt_trichotomy q m with k | k | k
    · exact h1 p q hp hpq k
    · subst k; exact hl p hp h
    · have := hl p hp h; have := hr q k hq; omega
  · subst h; exact hr q hpq hq
  · exact h2 p q (by omega) hpq hq

theorem PI.trans' {a b a' b' : Nat} {xs ys zs : List Int} (h : PI a b xs ys) (k : PI a' b' ys zs) (h1 : a ≤ a') (h2 : b' ≤ b) (h3 : b ≤ xs.length) : PI a b xs zs :=
  h.trans (k.mono h1 h2 (by rw [h.len]; exact h3))
/-- Nothing of [a, e) is less than what stands ahead of a. -/
def LB (xs : List Int) (a e : Nat) : Prop := 0 < a → ∀ k, a ≤ k → k < e → g xs (a - 1) ≤ g xs k
theorem LB.pi {xs ys : List Int} {a e : Nat} (h : LB xs a e) (hP : PI a e xs ys) : LB ys a e := fun h0 k h1 h2 => by
  rw [hP.out (.inl (by omega))]
  exact hP.all (Q := fun v => g xs (a - 1) ≤ v) (fun i h3 h4 => h h0 i h3 h4) k h1 h2

/-- Parted at m. -/
def Pd (ys : List Int) (a m e : Nat) : Prop := (∀ k, a ≤ k → k < m → g ys k ≤ g ys m) ∧ (∀ k, m < k → k < e → g ys m ≤ g ys k)
theorem Pd.left {ys zs : List Int} {a m e : Nat} (h : Pd ys a m e) (hP : PI a m ys zs) : Pd zs a m e := by
  have em : g zs m = g ys m := hP.out (.inr (Nat.le_refl _))
  refine ⟨fun k h1 h2 => ?_, fun k h1 h2 => ?_⟩
  · rw [em]; exact hP.all (Q := fun v => v ≤ g ys m) (fun i h3 h4 => h.1 i h3 h4) k h1 h2
  · rw [em, hP.out (.inr (by omega))]; exact h.2 k h1 h2
theorem Pd.right {ys zs : List Int} {a m e : Nat} (h : Pd ys a m e) (hP : PI (m + 1) e ys zs) : Pd zs a m e := by
  have em : g zs m = g ys m := hP.out (.inl (by omega))
  refine ⟨fun k h1 h2 => ?_, fun k h1 h2 => ?_⟩
  · rw [em, hP.out (.inl (by omega))]; exact h.1 k h1 h2
  · rw [em]; exact hP.all (Q := fun v => g ys m ≤ v) (fun i h3 h4 => h.2 i (by omega) h4) k (by omega) h2
theorem SO.keep {ys zs : List Int} {a e a' e' : Nat} (h : SO ys a e) (hP : PI a' e' ys zs) (hd : e ≤ a' ∨ e' ≤ a) : SO zs a e := by
  intro p q h1 h2 h3
  rw [hP.out (by omega), hP.out (by omega)]
  exact h p q h1 h2 h3

theorem c68 (n : Nat) : ∀ {s : Sl} {b : Nat} {w : World} {xs : List Int} {a e : Nat} (lim : Int), e - a = n → Ar s b w.heap xs → e ≤ xs.length → a ≤ e → LB xs a e →
    CW Try.prog 68 #[slV s, iv a, iv e, iv lim] w fun v w' => v = .tuple #[] ∧ ∃ ys, PI a e xs ys ∧ SO ys a e ∧ Ar s b w'.heap ys ∧ CB b w w' := by
  induction n using Nat.strongRecOn with
  | _ n ih =>
  intro s b w xs a e lim hn h he hae hLB
  have hl := h.2.2.1
  refine F68_ok s a e lim w _ ⟨fun k x W => ∃ (a' e' : Nat) (lm : Int) (wb wp : Bool) (ys : List Int), k = e' - a' ∧ x = ((a' : Int), (e' : Int), lm, wb, wp) ∧ (a ≤ a' ∧ a' ≤ e' ∧ e' ≤ e) ∧ PI a e xs ys ∧ LB ys a' e' ∧
    (∀ zs, PI a' e' ys zs → SO zs a' e' → SO zs a e) ∧ Ar s b W.heap ys ∧ CB b w W, ⟨_, a, e, lim, true, true, xs, rfl, rfl, by omega, .refl, hLB, fun _ _ h => h, h, Ch.refl _ _⟩, ?_⟩
  rintro _ _ W _ ⟨a', e', lm, wb, wp, ys, rfl, rfl, hae', hP, hB, hG, hA, hC⟩
  have hyl := hP.len
  have up : ∀ {zs}, PI a' e' ys zs → PI a e xs zs := fun k => hP.trans' k (by omega) (by omega) he
  unfold F68j1
  dsimp only
  rw [wsb (by omega) (by omega)]
  refine IfB.dec (fun h12 => ?_) (fun h12 => ?_)
  · refine (c86 hA (by omega) (by omega)).use ?_
    rintro _ W2 ⟨rfl, zs, hP2, hS2, hA2, hC2⟩
    exact ⟨(), rfl, rfl, zs, up hP2, hG zs hP2 hS2, hA2, hC.trans hC2⟩
  have hbig : a' + 12 < e' := by omega
  refine IfB.intro (fun _ => ?_) (fun _ => ?_)
  · refine (c87 hA (by omega) (by omega)).use ?_
    rintro _ W2 ⟨rfl, zs, hP2, hS2, hA2, hC2⟩
    exact ⟨(), rfl, rfl, zs, up hP2, hG zs hP2 hS2, hA2, hC.trans hC2⟩
  refine ⟨fun _ W => ∃ zs, PI a' e' ys zs ∧ Ar s b W.heap zs ∧ CB b w W, ?_, ?_⟩
  · refine IfB.intro (fun _ => ?_) (fun _ => ⟨rfl, ys, .refl, hA, hC⟩)
    refine (c88 hA (by omega) hbig).use ?_
    rintro _ W2 ⟨rfl, zs, hP2, hA2, hC2⟩
    exact ⟨(), rfl, rfl, zs, hP2, hA2, hC.trans hC2⟩
  rintro lm2 W2 _ ⟨zs, hP2, hA2, hC2⟩
  have hzl := hP2.len
  unfold F68j2
  dsimp only
  refine (c89 hA2 (by omega) hbig).use ?_
  rintro _ W3 ⟨p, t, rfl, hp, hA3, e3⟩
  have hC3 : CB b w W3 := hC2.then e3 fun _ _ h => h.elim
  refine ⟨((p : Int), t), rfl, fun x W => ∃ (p : Nat) (us : List Int), x.1 = (p : Int) ∧ (a' ≤ p ∧ p < e') ∧ PI a' e' ys us ∧ Ar s b W.heap us ∧ CB b w W, ?_, ?_⟩
  · refine IfB.intro (fun _ => ?_) (fun _ => ⟨rfl, p, zs, rfl, hp, hP2, hA3, hC3⟩)
    refine (c90 hA3 (by omega) (by omega)).use ?_
    rintro _ W4 ⟨rfl, us, hP4, hA4, hC4⟩
    refine ⟨(), rfl, rfl, e' - 1 - (p - a'), us, ?_, by omega, hP2.trans hP4, hA4, hC3.trans hC4⟩
    show IntKind.i64.wrap (IntKind.i64.wrap ((e' : Int) - 1) - IntKind.i64.wrap ((p : Int) - (a' : Int))) = _
    rw [wm1 (by omega) (by omega), wsb (by omega) (by omega), wsb (by omega) (by omega)]
  rintro ⟨_, t2⟩ W5 _ ⟨p, us, rfl, hp, hP5, hA5, hC5⟩
  have hul := hP5.len
  unfold F68j3
  dsimp only
  refine ⟨fun _ W => ∃ us, PI a' e' ys us ∧ Ar s b W.heap us ∧ CB b w W, ?_, ?_⟩
  · refine IfB.intro (fun _ => IfB.intro (fun _ => IfB.intro (fun _ => ?_) (fun _ => ⟨rfl, us, hP5, hA5, hC5⟩)) (fun _ => ⟨rfl, us, hP5, hA5, hC5⟩)) (fun _ => ⟨rfl, us, hP5, hA5, hC5⟩)
    refine (c91 hA5 (by omega) (by omega) (hB.pi hP5)).use ?_
    rintro _ W6 ⟨t, rfl, vs, hP6, hS6, hA6, hC6⟩
    exact ⟨t, rfl, IfB.intro (fun ht => ⟨rfl, vs, up (hP5.trans hP6), hG vs (hP5.trans hP6) (hS6 ht), hA6, hC5.trans hC6⟩) (fun _ => ⟨rfl, vs, hP5.trans hP6, hA6, hC5.trans hC6⟩)⟩
  rintro _ W7 _ ⟨us, hP7, hA7, hC7⟩
  have hul := hP7.len
  have hB7 := hB.pi hP7
  have hG7 : ∀ zs, PI a' e' us zs → SO zs a' e' → SO zs a e := fun zs k => hG zs (hP7.trans k)
  have part : ∀ {W8 : World}, W8.heap = W7.heap → CB b w W8 → CX Try.prog 94 #[slV s, iv a', iv e', iv p] W8 fun v65 w66 => ∃ x67 : Int × Bool, v65 = .tuple #[.int .i64 x67.1, .bool x67.2] ∧ ¬(8 : Int) = 0 ∧
      IfB (decide (IntKind.i64.wrap (x67.fst - (a' : Int)) < IntKind.i64.wrap ((e' : Int) - x67.fst))) (F68k2 s ((a' : Int), (e' : Int), lm, wb, wp) x67 lm2 w66 (e' - a') (fun k x W => ∃ (a' e' : Nat) (lm : Int) (wb wp : Bool) (ys : List Int), k = e' - a' ∧ x = ((a' : Int), (e' : Int), lm, wb, wp) ∧ (a ≤ a' ∧ a' ≤ e' ∧ e' ≤ e) ∧ PI a e xs ys ∧ LB ys a' e' ∧
    (∀ zs, PI a' e' ys zs → SO zs a' e' → SO zs a e) ∧ Ar s b W.heap ys ∧ CB b w W))
       (F68k1 s x67 ((a' : Int), (e' : Int), lm, wb, wp) lm2 w66 (e' - a') (fun k x W => ∃ (a' e' : Nat) (lm : Int) (wb wp : Bool) (ys : List Int), k = e' - a' ∧ x = ((a' : Int), (e' : Int), lm, wb, wp) ∧ (a ≤ a' ∧ a' ≤ e' ∧ e' ≤ e) ∧ PI a e xs ys ∧ LB ys a' e' ∧
    (∀ zs, PI a' e' ys zs → SO zs a' e' → SO zs a e) ∧ Ar s b W.heap ys ∧ CB b w W)) := by
    intro W8 hW8 hC8
    have hA8 : Ar s b W8.heap us := by rw [hW8]; exact hA7
    refine (c94 hA8 (by omega) hp).use ?_
    rintro _ W9 ⟨m, t, rfl, hm, vs, hP9, h1, h2, hA9, hC9⟩
    have hvl := hP9.len
    have hPd : Pd vs a' m e' := ⟨fun k h3 h4 => Int.le_of_lt (h1 k h3 h4), h2⟩
    have hB9 := hB7.pi hP9
    have hC9 := hC8.trans hC9
    refine ⟨((m : Int), t), rfl, by decide, IfB.intro (fun _ => ?_) (fun _ => ?_)⟩
    · unfold F68k2
      refine (ih (m - a') (by omega) lm2 rfl hA9 (by omega) (by omega) fun h0 k h3 h4 => hB9 h0 k h3 (by omega)).use ?_
      rintro _ W10 ⟨rfl, ts, hP10, hS10, hA10, hC10⟩
      have hPd2 := hPd.left hP10
      refine ⟨(), rfl, rfl, e' - (m + 1), by omega, m + 1, e', _, _, _, ts, rfl, by rw [wp1 (by omega)], by omega, hP.trans' (hP7.trans (hP9.trans' hP10 (by omega) (by omega) (by omega))) (by omega) (by omega) he, fun _ k h3 h4 => hPd2.2 k (by omega) h4, fun zs hz hSz => ?_, hA10, hC9.trans hC10⟩
      have hPz : PI a' e' us zs := (hP9.trans' hP10 (by omega) (by omega) (by omega)).trans' hz (by omega) (by omega) (by omega)
      have hPd3 := hPd2.right hz
      exact hG7 zs hPz ((hS10.keep hz (.inl (by omega))).split hSz hPd3.1 hPd3.2)
    · unfold F68k1
      dsimp only
      rw [wp1 (by omega)]
      refine (ih (e' - (m + 1)) (by omega) lm2 rfl hA9 (by omega) (by omega) fun h0 k h3 h4 => hPd.2 k (by omega) h4).use ?_
      rintro _ W10 ⟨rfl, ts, hP10, hS10, hA10, hC10⟩
      have hPd2 := hPd.right hP10
      have hB10 : LB ts a' m := fun h0 k h3 h4 => by
        rw [hP10.out (.inl (by omega)), hP10.out (.inl (by omega))]
        exact hB9 h0 k h3 (by omega)
      refine ⟨(), rfl, rfl, m - a', by omega, a', m, _, _, _, ts, rfl, rfl, by omega, hP.trans' (hP7.trans (hP9.trans' hP10 (by omega) (by omega) (by omega))) (by omega) (by omega) he, hB10, fun zs hz hSz => ?_, hA10, hC9.trans hC10⟩
      have hPz : PI a' e' us zs := (hP9.trans' hP10 (by omega) (by omega) (by omega)).trans' hz (by omega) (by omega) (by omega)
      have hPd3 := hPd2.left hz
      exact hG7 zs hPz (hSz.split (hS10.keep hz (.inr (by omega))) hPd3.1 hPd3.2)
  unfold F68j4
  dsimp only
  refine IfB.dec (fun h0 => ?_) (fun h0 => part rfl hC7.drew)
  have h0 : 0 < a' := by omega
  rw [wm1 (by omega) (by omega)]
  refine ls (w := W7.drew) hA7 (by omega) (by omega) (by omega) (by omega) (IfB.intro (fun hl1 => ?_) (fun _ => part rfl hC7.drew))
  simp only [Int.toNat_natCast, Bool.not_eq_true', decide_eq_false_iff_not] at hl1
  refine (c93 (w := W7.drew) hA7 (by omega) hp).use ?_
  rintro _ W8 ⟨m, rfl, hm, vs, hP8, hv, h1, h2, hA8, hC8⟩
  have hvl := hP8.len
  have hB8 := hB7.pi hP8
  have ho : g vs (a' - 1) = g us (a' - 1) := hP8.out (.inl (by omega))
  have hv1 : ∀ k, a' ≤ k → k < m → g vs k = g us p := fun k h3 h4 => by
    have := h1 k h3 h4
    have := hB8 h0 k h3 (by omega)
    omega
  refine ⟨_, rfl, rfl, e' - m, by omega, m, e', lm2, wb, wp, vs, rfl, rfl, by omega, up (hP7.trans hP8), fun _ k h3 h4 => ?_, fun zs hz hSz => ?_, hA8, hC7.drew.trans hC8⟩
  · rw [hv1 (m - 1) (by omega) (by omega)]
    have := h2 k h3 h4
    omega
  · have hlow : ∀ k, a' ≤ k → k < m → g zs k = g us p := fun k h3 h4 => by rw [hz.out (.inl h4)]; exact hv1 k h3 h4
    have hhigh : ∀ k, m ≤ k → k < e' → g us p < g zs k := hz.all (Q := fun v => g us p < v) h2
    refine hG7 zs (hP8.trans' hz (by omega) (by omega) (by omega)) fun i j h3 h4 h5 => ?_
    by_cases hj : j < m
    · rw [hlow i h3 (by omega), hlow j (by omega) hj]; exact Int.le_refl _
    · by_cases hi : i < m
      · rw [hlow i h3 hi]
        have := hhigh j (by omega) h5
        omega
      · exact hSz i j (by omega) h4 h5

/-- slices.Sort -/
theorem SO.sorted {ys : List Int} (h : SO ys 0 ys.length) : ys.Pairwise (· ≤ ·) := by
  rw [List.pairwise_iff_getElem]
  intro i j hi hj hij
  have := h i j (Nat.zero_le _) hij hj
  have e1 := g_eq hi; have e2 := g_eq hj
  rw [List.getElem?_eq_getElem hi] at e1
  rw [List.getElem?_eq_getElem hj] at e2
  rw [Option.some.injEq] at e1 e2
  rw [e1, e2]; exact this

theorem c125e (s : Sl) (w : World) : CW Try.prog 86 #[slV s, iv 0, iv 0] w fun v w' => v = .tuple #[] ∧ w = w' := by
  refine F86_ok s (0 : Int) (0 : Int) w _ ⟨fun k x W' => x = (1 : Int) ∧ w = W', ⟨0, by decide, rfl⟩, ?_⟩
  rintro k _ _ _ ⟨rfl, rfl⟩
  exact IfB.no (by decide) ⟨rfl, rfl⟩
theorem c120e (s : Sl) (L : Int) (w : World) : CW Try.prog 68 #[slV s, iv 0, iv 0, iv L] w fun v w' => v = .tuple #[] ∧ w = w' := by
  refine F68_ok s (0 : Int) (0 : Int) L w _ ⟨fun k x W => x = ((0 : Int), (0 : Int), L, true, true) ∧ w = W, ⟨0, rfl, rfl⟩, ?_⟩
  rintro k _ _ _ ⟨rfl, rfl⟩
  unfold F68j1
  refine IfB.yes (show decide (IntKind.i64.wrap ((0 : Int) - (0 : Int)) ≤ (12 : Int)) = true by decide) ((c125e s w).use ?_)
  rintro _ _ ⟨rfl, rfl⟩
  exact ⟨(), rfl, rfl, rfl⟩

theorem c49 {w : World} {s : Sl} {xs : List Int} (h : OwS w s 1 (xs.map iv)) (hl : xs.length ≤ 1000000) :
    CW Try.prog 49 #[slV s] w fun v w' => v = .tuple #[] ∧ ∃ ys : List Int, ys.Perm xs ∧ ys.Pairwise (· ≤ ·) ∧ OwS w' s 1 (ys.map iv) ∧ Ch (fun i => i ∈ blk s) w w' := by
  have hn := h.len1
  rw [List.length_map] at hn
  refine F49_ok s w _ ?_
  unfold F49
  rw [show (s.2 : Int) = ((xs.length : Nat) : Int) by show (s.n : Int) = _; rw [hn], wu64 (by omega)]
  refine (c62 hl w).use ?_
  rintro _ _ ⟨L, rfl, hL, rfl⟩
  refine ⟨_, rfl, ?_⟩
  by_cases h0 : xs.length = 0
  · have : xs = [] := List.length_eq_zero_iff.1 h0
    subst this
    refine (c120e s L w).use ?_
    rintro _ _ ⟨rfl, rfl⟩
    exact ⟨(), rfl, rfl, [], .refl _, .nil, h, Ch.refl _ _⟩
  · obtain ⟨b, hA, hb⟩ := Ar.of h (by omega) hl
    refine (c68 _ (L : Int) rfl hA (Nat.le_refl _) (Nat.zero_le _) (fun h0 => absurd h0 (by decide))).use ?_
    rintro _ W2 ⟨rfl, ys, hP, hS, hA2, hC2⟩
    have hyl := hP.len
    exact ⟨(), rfl, rfl, ys, hP.perm, SO.sorted (by rw [hyl]; exact hS), hA2.own, hC2.mono fun i _ hi => by rw [hb]; simpa using hi⟩
end Go.Proofs.Ytmmhbjbaallkfaa.Gx
