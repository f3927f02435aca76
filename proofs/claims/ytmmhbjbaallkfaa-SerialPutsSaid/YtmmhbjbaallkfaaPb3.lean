/- Merged by pack.py: Srt, WaitA, GxH, SrS, GxU, KeyA, KeyB, KeyC, GxNQ, GxLJ, GxJ, IntA, GxLK, IntK, GxN, DepA, GxNW, SerE, DepB, GxLC, IntC, GxLX, IntX, DepC. -/
import Derived.Test.YtmmhbjbaallkfaaPb1
import Derived.Test.YtmmhbjbaallkfaaPb2

/- Merged: SrtA, SrtB, SrtC, SrtD, SrtE, SrtF, SrtG, SrtH, SrtI. -/
namespace Go.Proofs.Ytmmhbjbaallkfaa.Gx
open Go
set_option linter.unusedSimpArgs false
set_option linter.unusedVariables false
abbrev iv (n : Int) : Value := .int .i64 n
def g (xs : List Int) (i : Nat) : Int := xs.getD i 0
def swp (xs : List Int) (p q : Nat) : List Int := (xs.set p (g xs q)).set q (g xs p)
theorem swp_len (xs : List Int) (p q : Nat) : (swp xs p q).length = xs.length := by simp [swp]
theorem g_eq {xs : List Int} {i : Nat} (h : i < xs.length) : xs[i]? = some (g xs i) := by
  unfold g; rw [List.getElem?_eq_getElem h, List.getElem_eq_getD (fallback := 0)]
theorem g_swp {xs : List Int} {p q : Nat} (hp : p < xs.length) (hq : q < xs.length) (i : Nat) : g (swp xs p q) i = if i = q then g xs p else if i = p then g xs q else g xs i := by
  show ((xs.set p (g xs q)).set q (g xs p)).getD i 0 = _
  rw [List.getD_eq_getElem?_getD, List.getElem?_set, List.getElem?_set]
  by_cases h1 : q = i
  · subst h1; simp [hq]
  · by_cases h2 : p = i
    · subst h2; simp [h1, hp, Ne.symm h1]
    · simp only [if_neg h1, if_neg h2, if_neg (Ne.symm h1), if_neg (Ne.symm h2)]
      unfold g; rw [List.getD_eq_getElem?_getD]
theorem g_swq {xs : List Int} {p q : Nat} (hp : p < xs.length) (hq : q < xs.length) : g (swp xs p q) q = g xs p := by rw [g_swp hp hq, if_pos rfl]
theorem g_swl {xs : List Int} {p q : Nat} (hp : p < xs.length) (hq : q < xs.length) : g (swp xs p q) p = g xs q := by
  rw [g_swp hp hq]
  split
  · rename_i h; rw [h]
  · rw [if_pos rfl]
theorem g_swo {xs : List Int} {p q i : Nat} (hp : p < xs.length) (hq : q < xs.length) (h1 : i ≠ p) (h2 : i ≠ q) : g (swp xs p q) i = g xs i := by rw [g_swp hp hq, if_neg h2, if_neg h1]
theorem swp_perm {xs : List Int} {p q : Nat} (hp : p < xs.length) (hq : q < xs.length) : (swp xs p q).Perm xs := by
  have h := (Array.swap_perm (xs := xs.toArray) (i := p) (j := q) (by simpa using hp) (by simpa using hq)).toList
  have e : (xs.toArray.swap p q (by simpa using hp) (by simpa using hq)).toList = swp xs p q := by
    apply List.ext_getElem?
    intro i
    simp only [Array.swap, swp, Array.toList_set, List.getElem_toArray, g, List.getD_eq_getElem?_getD, List.getElem?_eq_getElem hp, List.getElem?_eq_getElem hq, Option.getD_some]
  rw [e] at h
  exact h
/-- Turned inside [a, b) alone, by swaps. -/
inductive PI (a b : Nat) (xs : List Int) : List Int → Prop
  | refl : PI a b xs xs
  | step {ys : List Int} {p q : Nat} : PI a b xs ys → a ≤ p → p < b → a ≤ q → q < b → b ≤ ys.length → PI a b xs (swp ys p q)
theorem PI.len {a b : Nat} {xs ys : List Int} (h : PI a b xs ys) : ys.length = xs.length := by
  induction h with
  | refl => rfl
  | step _ _ _ _ _ _ ih => rw [swp_len, ih]
theorem PI.perm {a b : Nat} {xs ys : List Int} (h : PI a b xs ys) : ys.Perm xs := by
  induction h with
  | refl => exact .refl _
  | step _ _ h2 _ h4 h5 ih => exact (swp_perm (by omega) (by omega)).trans ih
theorem PI.out {a b : Nat} {xs ys : List Int} (h : PI a b xs ys) {i : Nat} (hi : i < a ∨ b ≤ i) : g ys i = g xs i := by
  induction h with
  | refl => rfl
  | step _ h1 h2 h3 h4 h5 ih => rw [g_swp (by omega) (by omega), if_neg (by omega), if_neg (by omega), ih]
theorem PI.all {a b : Nat} {xs ys : List Int} (h : PI a b xs ys) {Q : Int → Prop} (hq : ∀ i, a ≤ i → i < b → Q (g xs i)) : ∀ i, a ≤ i → i < b → Q (g ys i) := by
  induction h with
  | refl => exact hq
  | step _ h1 h2 h3 h4 h5 ih =>
    intro i hi hi2
    rw [g_swp (by omega) (by omega)]
    split
    · exact ih _ h1 h2
    · split
      · exact ih _ h3 h4
      · exact ih _ hi hi2
theorem PI.mono {a b a' b' : Nat} {xs ys : List Int} (h : PI a b xs ys) (ha : a' ≤ a) (hb : b ≤ b') (hl : b' ≤ xs.length) : PI a' b' xs ys := by
  induction h with
  | refl => exact .refl
  | step h h1 h2 h3 h4 h5 ih => exact .step ih (by omega) (by omega) (by omega) (by omega) (by rw [h.len]; exact hl)
theorem PI.trans {a b : Nat} {xs ys zs : List Int} (h : PI a b xs ys) (k : PI a b ys zs) : PI a b xs zs := by
  induction k with
  | refl => exact h
  | step _ h1 h2 h3 h4 h5 ih => exact .step ih h1 h2 h3 h4 h5
/-- Sorted from a, ahead of b. -/
def SO (xs : List Int) (a b : Nat) : Prop := ∀ i j, a ≤ i → i < j → j < b → g xs i ≤ g xs j
def Ar (s : Sl) (b : Nat) (H : Array Obj) (xs : List Int) : Prop :=
  s.p = some ⟨b, 0, none⟩ ∧ s.n = xs.length ∧ xs.length ≤ 1000000 ∧ ∃ arr T, H[b]? = some (.cells arr T (0, 0)) ∧ arr.size = s.c ∧ s.n ≤ s.c ∧ arr.toList.take s.n = xs.map iv
abbrev CB (b : Nat) (w w' : World) : Prop := Ch (fun i => i = b) w w'
theorem Ar.own {s : Sl} {b : Nat} {w : World} {xs : List Int} (h : Ar s b w.heap xs) : OwS w s 1 (xs.map iv) := by
  obtain ⟨h1, h2, _, arr, T, h3, h4, h5, h6⟩ := h
  exact .inr ⟨b, arr, T, h1, h3, by omega, h5, by rw [Nat.mul_one]; exact h6⟩
theorem Ar.of {s : Sl} {w : World} {xs : List Int} (h : OwS w s 1 (xs.map iv)) (h0 : 0 < xs.length) (hl : xs.length ≤ 1000000) : ∃ b, Ar s b w.heap xs ∧ blk s = [b] := by
  have hn := h.len1
  rw [List.length_map] at hn
  rcases h with ⟨rfl, h⟩ | ⟨b, arr, T, h1, h3, h4, h5, h6⟩
  · rw [List.map_eq_nil_iff] at h; subst h; cases h0
  · exact ⟨b, ⟨h1, hn, hl, arr, T, h3, by omega, h5, by rw [Nat.mul_one] at h6; exact h6⟩, by simp [blk, h1]⟩
theorem Ar.lt {s : Sl} {b : Nat} {w : World} {xs : List Int} (h : Ar s b w.heap xs) : b < w.heap.size := by
  obtain ⟨_, _, _, _, _, h3, _⟩ := h
  exact heap_lt h3
theorem rd {s : Sl} {b : Nat} {w : World} {xs : List Int} (h : Ar s b w.heap xs) {i : Int} (h0 : 0 ≤ i) (h1 : i < xs.length) {K : Int → Prop} (k : K (g xs i.toNat)) :
    ∃ b1 b2 : Nat, s.1 = some ⟨b1, b2, none⟩ ∧ ((0 : Int) ≤ i ∧ i < (s.2 : Int)) ∧ ∃ n, w.cell? ⟨b1, b2 + i.toNat, none⟩ = some (.int .i64 n) ∧ K n := by
  obtain ⟨e1, e2, _, arr, T, e3, e4, e5, e6⟩ := h
  refine ⟨b, 0, e1, ⟨h0, by show i < (s.n : Int); omega⟩, _, ?_, k⟩
  rw [cell_of e3, Nat.zero_add, ← Array.getElem?_toList]
  have : (arr.toList.take s.n)[i.toNat]? = some (iv (g xs i.toNat)) := by rw [e6, List.getElem?_map, g_eq (by omega)]; rfl
  rw [List.getElem?_take, if_pos (by omega)] at this
  exact this
theorem wr {s : Sl} {b : Nat} {w : World} {xs : List Int} (h : Ar s b w.heap xs) {i x : Int} (h0 : 0 ≤ i) (h1 : i < xs.length) {K : World → Prop} (k : ∀ w', Ar s b w'.heap (xs.set i.toNat x) → CB b w w' → K w') :
    ∃ b1 b2 : Nat, s.1 = some ⟨b1, b2, none⟩ ∧ ((0 : Int) ≤ i ∧ i < (s.2 : Int)) ∧ #[Value.int .i64 x].size = 1 ∧ StoreP w b1 (b2 + i.toNat) [.int .i64 x] K := by
  obtain ⟨e1, e2, el, arr, T, e3, e4, e5, e6⟩ := h
  refine ⟨b, 0, e1, ⟨h0, by show i < (s.n : Int); omega⟩, rfl, store_one e3 (by omega) rfl fun w' hw => k w' ⟨e1, by rw [List.length_set]; exact e2, by rw [List.length_set]; exact el, _, T, hw.new, by rw [Array.size_setIfInBounds]; exact e4, e5, ?_⟩ hw.ch⟩
  rw [Nat.zero_add, Array.toList_setIfInBounds, List.take_set, e6, List.map_set]
/-- data[p], data[q] = data[q], data[p] -/
theorem sw {s : Sl} {b : Nat} {w : World} {xs : List Int} (h : Ar s b w.heap xs) {p q : Int} (hp0 : 0 ≤ p) (hp1 : p < xs.length) (hq0 : 0 ≤ q) (hq1 : q < xs.length) {K : World → Prop} (k : ∀ w', Ar s b w'.heap (swp xs p.toNat q.toNat) → CB b w w' → K w') :
    ∃ b1 b2 : Nat, s.1 = some ⟨b1, b2, none⟩ ∧ ((0 : Int) ≤ q ∧ q < (s.2 : Int)) ∧ ∃ n, w.cell? ⟨b1, b2 + q.toNat, none⟩ = some (.int .i64 n) ∧
    ∃ b3 b4 : Nat, s.1 = some ⟨b3, b4, none⟩ ∧ ((0 : Int) ≤ p ∧ p < (s.2 : Int)) ∧ ∃ m, w.cell? ⟨b3, b4 + p.toNat, none⟩ = some (.int .i64 m) ∧
    ∃ b5 b6 : Nat, s.1 = some ⟨b5, b6, none⟩ ∧ ((0 : Int) ≤ p ∧ p < (s.2 : Int)) ∧ #[Value.int .i64 n].size = 1 ∧ StoreP w b5 (b6 + p.toNat) [.int .i64 n] fun w1 =>
    ∃ b7 b8 : Nat, s.1 = some ⟨b7, b8, none⟩ ∧ ((0 : Int) ≤ q ∧ q < (s.2 : Int)) ∧ #[Value.int .i64 m].size = 1 ∧ StoreP w1 b7 (b8 + q.toNat) [.int .i64 m] K := by
  refine rd h hq0 hq1 (rd h hp0 hp1 (wr h hp0 hp1 fun w1 h1 c1 => wr h1 hq0 (by rw [List.length_set]; exact hq1) fun w2 h2 c2 => k w2 h2 (c1.trans c2)))
theorem c63 (x : Int) (w : World) : CW Try.prog 63 #[.int .i64 x] w fun v w' => v = .bool false ∧ w = w' :=
  F63_ok _ _ _ ⟨by simp, rfl⟩
theorem c92 (x y : Int) (w : World) : CW Try.prog 92 #[.int .i64 x, .int .i64 y] w fun v w' => v = .bool (decide (x < y)) ∧ w = w' := by
  refine F92_ok _ _ _ _ ((c63 x w).use ?_)
  rintro _ _ ⟨rfl, rfl⟩
  exact ⟨false, rfl, IfB.no rfl ⟨rfl, rfl⟩⟩
/-- cmp.Less(data[i], data[j]) -/
theorem ls {s : Sl} {b : Nat} {w : World} {xs : List Int} (h : Ar s b w.heap xs) {i j : Int} (hi0 : 0 ≤ i) (hi1 : i < xs.length) (hj0 : 0 ≤ j) (hj1 : j < xs.length) {K : Bool → World → Prop} (k : K (decide (g xs i.toNat < g xs j.toNat)) w) :
    ∃ b1 b2 : Nat, s.1 = some ⟨b1, b2, none⟩ ∧ ((0 : Int) ≤ i ∧ i < (s.2 : Int)) ∧ ∃ n, w.cell? ⟨b1, b2 + i.toNat, none⟩ = some (.int .i64 n) ∧
    ∃ b3 b4 : Nat, s.1 = some ⟨b3, b4, none⟩ ∧ ((0 : Int) ≤ j ∧ j < (s.2 : Int)) ∧ ∃ m, w.cell? ⟨b3, b4 + j.toNat, none⟩ = some (.int .i64 m) ∧
    CX Try.prog 92 #[.int .i64 n, .int .i64 m] w fun v w' => ∃ t, v = .bool t ∧ K t w' := by
  refine rd h hi0 hi1 (rd h hj0 hj1 ((c92 _ _ w).use ?_))
  rintro _ _ ⟨rfl, rfl⟩
  exact ⟨_, rfl, k⟩
end Go.Proofs.Ytmmhbjbaallkfaa.Gx
namespace Go.Proofs.Ytmmhbjbaallkfaa.Gx
open Go
set_option linter.unusedSimpArgs false
set_option linter.unusedVariables false
theorem wp1 {i : Nat} (h : i ≤ 1000000000000) : IntKind.i64.wrap ((i : Int) + (1 : Int)) = ((i + 1 : Nat) : Int) := by rw [wrap_of (by omega) (by omega)]; rfl
theorem wm1 {i : Nat} (h0 : 1 ≤ i) (h : i ≤ 1000000000000) : IntKind.i64.wrap ((i : Int) - (1 : Int)) = ((i - 1 : Nat) : Int) := by rw [wrap_of (by omega) (by omega)]; omega
theorem wad {i j : Nat} (h : i + j ≤ 1000000000000) : IntKind.i64.wrap ((i : Int) + (j : Int)) = ((i + j : Nat) : Int) := by rw [wrap_of (by omega) (by omega)]; rfl
theorem wsb {i j : Nat} (h0 : j ≤ i) (h : i ≤ 1000000000000) : IntKind.i64.wrap ((i : Int) - (j : Int)) = ((i - j : Nat) : Int) := by rw [wrap_of (by omega) (by omega)]; omega
theorem wdb {i : Nat} (h : i ≤ 100000000000) : IntKind.i64.wrap ((2 : Int) * (i : Int)) = ((2 * i : Nat) : Int) := by rw [wrap_of (by omega) (by omega)]; omega
theorem c86 {s : Sl} {b : Nat} {w : World} {xs : List Int} {a e : Nat} (h : Ar s b w.heap xs) (he : e ≤ xs.length) (ha : a ≤ xs.length) :
    CW Try.prog 86 #[slV s, iv a, iv e] w fun v w' => v = .tuple #[] ∧ ∃ ys, PI a e xs ys ∧ SO ys a e ∧ Ar s b w'.heap ys ∧ CB b w w' := by
  have hl : xs.length ≤ 1000000 := h.2.2.1
  refine F86_ok s a e w _ ⟨fun n x W => ∃ (i : Nat) (ys : List Int), n = e + 1 - i ∧ x = (i : Int) ∧ a + 1 ≤ i ∧ (i = a + 1 ∨ i ≤ e) ∧ PI a e xs ys ∧ SO ys a i ∧ Ar s b W.heap ys ∧ CB b w W, ⟨_, a + 1, xs, rfl, wp1 (by omega), Nat.le_refl _, .inl rfl, .refl, fun i j _ _ _ => by omega, h, Ch.refl _ _⟩, ?_⟩
  rintro n _ W _ ⟨i, ys, rfl, rfl, hai, hi, hP, hS, hA, hC⟩
  have hyl := hP.len
  refine IfB.dec (fun hlt => ?_) (fun hge => ⟨rfl, ys, hP, fun p q h1 h2 h3 => hS p q h1 h2 (by omega), hA, hC⟩)
  have hie : i < e := by omega
  refine ⟨fun m x W' => ∃ (j : Nat) (zs : List Int), j = m ∧ x = (j : Int) ∧ a ≤ j ∧ j ≤ i ∧ PI a e xs zs ∧ (∀ p q, a ≤ p → p < q → q ≤ i → q ≠ j → g zs p ≤ g zs q) ∧ Ar s b W'.heap zs ∧ CB b w W', ⟨_, i, ys, rfl, rfl, by omega, Nat.le_refl _, hP, fun p q h1 h2 h3 h4 => hS p q h1 h2 (by omega), hA, hC⟩, ?_⟩
  rintro m _ W1 _ ⟨j, zs, rfl, rfl, haj, hji, hP1, hS1, hA1, hC1⟩
  have hzl := hP1.len
  have hCd : CB b w W1.drew := hC1.then (extDrew W1) fun _ _ h => h.elim
  have done : (∀ p, a ≤ p → p < j → g zs p ≤ g zs j) → ∀ W2 : World, W2 = W1.drew → ([] : List Nat) = [] ∧ ∃ b38, b38 < e + 1 - i ∧ ∃ (i' : Nat) (ys : List Int), b38 = e + 1 - i' ∧ IntKind.i64.wrap ((i : Int) + (1 : Int)) = (i' : Int) ∧ a + 1 ≤ i' ∧ (i' = a + 1 ∨ i' ≤ e) ∧ PI a e xs ys ∧ SO ys a i' ∧ Ar s b W2.heap ys ∧ CB b w W2 := by
    rintro hj W2 rfl
    refine ⟨rfl, e + 1 - (i + 1), by omega, i + 1, zs, rfl, wp1 (by omega), by omega, .inr (by omega), hP1, fun p q h1 h2 h3 => ?_, hA1, hCd⟩
    by_cases hq : q = j
    · subst hq; exact hj p h1 h2
    · exact hS1 p q h1 h2 (by omega) hq
  unfold F86j2
  refine IfB.dec (fun hlt2 => ?_) (fun hge2 => done (fun p h1 h2 => by omega) _ rfl)
  have hj : a < j := by omega
  have hw := wm1 (i := j) (by omega) (by omega)
  rw [hw]
  refine ls (w := W1.drew) hA1 (by omega) (by omega) (by omega) (by omega) (IfB.dec (fun hl1 => ?_) (fun hl1 => done (fun p h1 h2 => ?_) _ rfl))
  · rw [Int.toNat_natCast, Int.toNat_natCast] at hl1
    refine sw (w := W1.drew.drew) hA1 (by omega) (by omega) (by omega) (by omega) fun W3 hA3 hC3 => ⟨rfl, j - 1, by omega, j - 1, _, rfl, rfl, by omega, by omega, .step hP1 (p := j) (q := j - 1) (by omega) (by omega) (by omega) (by omega) (by omega), ?_, hA3, (hCd.then (extDrew _) fun _ _ h => h.elim).trans hC3⟩
    intro p q h1 h2 h3 h4
    rw [g_swp (by omega) (by omega), g_swp (by omega) (by omega)]
    have A1 := hS1 p (j - 1) h1
    have A2 := hS1 p q h1 h2 h3
    have A3 := hS1 j q (by omega)
    have A4 := hS1 (j - 1) q (by omega)
    split <;> split <;> (try split) <;> (try split) <;> first | omega | skip
  · rw [Int.toNat_natCast, Int.toNat_natCast] at hl1
    have := hS1 p (j - 1) h1
    by_cases hp : p = j - 1
    · subst hp; omega
    · have := this (by omega) (by omega) (by omega)
      omega
/-- From k on none of the children of a node of the heap at f is more than it. -/
def HpAt (xs : List Int) (f hi k : Nat) : Prop := ∀ c, c = 2 * k + 1 ∨ c = 2 * k + 2 → c < hi → g xs (f + c) ≤ g xs (f + k)
theorem c108 {s : Sl} {b : Nat} {w : World} {xs : List Int} {lo hi f : Nat} (h : Ar s b w.heap xs) (hl : f + hi ≤ xs.length) (hlo : lo ≤ 1000000) (hh : ∀ k, lo < k → HpAt xs f hi k) :
    CW Try.prog 108 #[slV s, iv lo, iv hi, iv f] w fun v w' => v = .tuple #[] ∧ ∃ ys, PI f (f + hi) xs ys ∧ (∀ k, lo ≤ k → HpAt ys f hi k) ∧ Ar s b w'.heap ys ∧ CB b w w' := by
  have hll : xs.length ≤ 1000000 := h.2.2.1
  refine F108_ok s lo hi f w _ ⟨fun n x W => ∃ (r : Nat) (ys : List Int), n = hi - r ∧ x = (r : Int) ∧ lo ≤ r ∧ (r = lo ∨ r < hi) ∧ PI f (f + hi) xs ys ∧ (∀ k, lo ≤ k → k ≠ r → HpAt ys f hi k) ∧
    (∀ k, lo ≤ k → r = 2 * k + 1 ∨ r = 2 * k + 2 → ∀ c, c = 2 * r + 1 ∨ c = 2 * r + 2 → c < hi → g ys (f + c) ≤ g ys (f + k)) ∧ Ar s b W.heap ys ∧ CB b w W, ⟨_, lo, xs, rfl, rfl, Nat.le_refl _, .inl rfl, .refl, fun k h1 h2 => hh k (by omega), fun k h1 h2 => by omega, h, Ch.refl _ _⟩, ?_⟩
  rintro n _ W _ ⟨r, ys, rfl, rfl, hlr, hr, hP, hH, hG, hA, hC⟩
  have hyl := hP.len
  unfold F108j1
  rw [wdb (by omega), wp1 (by omega)]
  refine IfB.dec (fun hge => ⟨rfl, ys, hP, fun k hk => ?_, hA, hC⟩) (fun hlt => ?_)
  · by_cases hkr : k = r
    · subst hkr; intro c hc1 hc2; omega
    · exact hH k hk hkr
  have hc1 : 2 * r + 1 < hi := by omega
  rw [wp1 (by omega), wad (by omega), wp1 (by omega)]
  have hCd : CB b w W.drew := hC.then (extDrew W) fun _ _ h => h.elim
  refine ⟨fun x W' => ∃ c : Nat, x = (c : Int) ∧ (c = 2 * r + 1 ∨ c = 2 * r + 2) ∧ c < hi ∧ (∀ d, d = 2 * r + 1 ∨ d = 2 * r + 2 → d < hi → g ys (f + d) ≤ g ys (f + c)) ∧ W' = W.drew, ?_, ?_⟩
  · refine IfB.dec (fun h2 => ?_) (fun h2 => ⟨rfl, 2 * r + 1, rfl, .inl rfl, hc1, fun d hd1 hd2 => ?_, rfl⟩)
    · refine ls (w := W.drew) hA (by omega) (by omega) (by omega) (by omega) (IfB.dec (fun hl1 => ⟨rfl, 2 * r + 1 + 1, rfl, .inr rfl, by omega, fun d hd1 hd2 => ?_, rfl⟩) (fun hl1 => ⟨rfl, 2 * r + 1, rfl, .inl rfl, hc1, fun d hd1 hd2 => ?_, rfl⟩))
      · rw [Int.toNat_natCast, Int.toNat_natCast] at hl1
        rcases hd1 with rfl | rfl
        · rw [show f + (2 * r + 1 + 1) = f + (2 * r + 1) + 1 by omega]; omega
        · exact Int.le_refl _
      · rw [Int.toNat_natCast, Int.toNat_natCast] at hl1
        rcases hd1 with rfl | rfl
        · exact Int.le_refl _
        · rw [show f + (2 * r + 2) = f + (2 * r + 1) + 1 by omega]; omega
    · have : d = 2 * r + 1 := by omega
      subst this; exact Int.le_refl _
  rintro _ _ _ ⟨c, rfl, hc2, hc3, hc4, rfl⟩
  unfold F108j2
  rw [wad (by omega), wad (by omega)]
  have hCd2 : CB b w W.drew.drew := hCd.then (extDrew _) fun _ _ h => h.elim
  have hCd3 : CB b w W.drew.drew.drew := hCd2.then (extDrew _) fun _ _ h => h.elim
  refine ls (w := W.drew.drew) hA (by omega) (by omega) (by omega) (by omega) (IfB.intro (fun hl1 => ⟨rfl, ys, hP, fun k hk => ?_, hA, hCd2⟩) fun hl1 => ?_)
  · simp only [Int.toNat_natCast, Bool.not_eq_true', decide_eq_false_iff_not] at hl1
    by_cases hkr : k = r
    · subst hkr
      intro d hd1 hd2
      have := hc4 d hd1 hd2
      omega
    · exact hH k hk hkr
  · simp only [Int.toNat_natCast, Bool.not_eq_false', decide_eq_true_eq] at hl1
    refine sw (w := W.drew.drew.drew) hA (by omega) (by omega) (by omega) (by omega) fun W3 hA3 hC3 => ⟨rfl, hi - c, by omega, c, _, rfl, rfl, by omega, .inr hc3, .step hP (p := f + r) (q := f + c) (by omega) (by omega) (by omega) (by omega) (by omega), ?_, ?_, hA3, hCd3.trans hC3⟩
    · intro k hk hkc d hd1 hd2
      by_cases hkr : k = r
      · subst hkr
        rw [g_swl (by omega) (by omega)]
        by_cases hdc : d = c
        · subst hdc; rw [g_swq (by omega) (by omega)]; omega
        · rw [g_swo (by omega) (by omega) (by omega) (by omega)]; exact hc4 d hd1 hd2
      · rw [g_swo (i := f + k) (by omega) (by omega) (by omega) (by omega)]
        by_cases hdr : d = r
        · subst hdr
          rw [g_swl (by omega) (by omega)]
          exact hG k hk hd1 c hc2 hc3
        · rw [g_swo (by omega) (by omega) (by omega) (by omega)]
          exact hH k hk hkr d hd1 hd2
    · intro k hk hck d hd1 hd2
      have hkr : k = r := by omega
      subst hkr
      rw [g_swl (by omega) (by omega), g_swo (by omega) (by omega) (by omega) (by omega)]
      exact hH c (by omega) (by omega) d hd1 hd2
end Go.Proofs.Ytmmhbjbaallkfaa.Gx
namespace Go.Proofs.Ytmmhbjbaallkfaa.Gx
open Go
set_option linter.unusedSimpArgs false
set_option linter.unusedVariables false
theorem heap_max {xs : List Int} {f hi : Nat} (h : ∀ k, HpAt xs f hi k) (p : Nat) (hp : p < hi) : g xs (f + p) ≤ g xs f := by
  induction p using Nat.strongRecOn with
  | _ p ih =>
    by_cases h0 : p = 0
    · subst h0; exact Int.le_refl _
    · have h1 := h ((p - 1) / 2) p (by omega) hp
      have h2 := ih ((p - 1) / 2) (by omega) (by omega)
      omega
theorem c87 {s : Sl} {b : Nat} {w : World} {xs : List Int} {a e : Nat} (h : Ar s b w.heap xs) (he : e ≤ xs.length) (ha : a ≤ e) :
    CW Try.prog 87 #[slV s, iv a, iv e] w fun v w' => v = .tuple #[] ∧ ∃ ys, PI a e xs ys ∧ SO ys a e ∧ Ar s b w'.heap ys ∧ CB b w w' := by
  have hl : xs.length ≤ 1000000 := h.2.2.1
  refine F87_ok s a e w _ ⟨by decide, ?_⟩
  have hea : a + (e - a) = e := by omega
  rw [wsb ha (by omega)]
  generalize hhi : e - a = hi at hea
  refine ⟨fun n x W => ∃ (i : Nat) (ys : List Int), i = n ∧ x = (i : Int) - 1 ∧ i ≤ hi + 1 ∧ PI a e xs ys ∧ (∀ k, i ≤ k → HpAt ys a hi k) ∧ Ar s b W.heap ys ∧ CB b w W, ⟨_, (if hi = 0 then 1 else (hi - 1) / 2 + 1), xs, rfl, ?_, ?_, .refl, ?_, h, Ch.refl _ _⟩, ?_⟩
  · rw [wrap_of (n := (hi : Int) - 1) (by omega) (by omega)]
    split
    · rename_i h0; subst h0; decide
    · rename_i h0
      rw [Int.tdiv_eq_ediv_of_nonneg (by omega), wrap_of (by omega) (by omega)]
      omega
  · split <;> omega
  · intro k hk c hc1 hc2
    split at hk <;> omega
  rintro n _ W _ ⟨i, ys, rfl, rfl, hi1, hP, hH, hA, hC⟩
  have hyl := hP.len
  unfold F87j1
  refine IfB.dec (fun hge => ?_) (fun hlt => ?_)
  · rw [show ((i : Int) - 1) = ((i - 1 : Nat) : Int) by omega, wsb ha (by omega), hhi]
    refine (c108 hA (by omega) (by omega) fun k hk => hH k (by omega)).use ?_
    rintro _ W2 ⟨rfl, zs, hP2, hH2, hA2, hC2⟩
    rw [hea] at hP2
    exact ⟨(), rfl, rfl, i - 1, by omega, i - 1, zs, rfl, by rw [wrap_of (by omega) (by omega)], by omega, hP.trans hP2, hH2, hA2, hC.trans hC2⟩
  · have hi0 : i = 0 := by omega
    subst hi0
    refine ⟨fun n x W' => ∃ (i : Nat) (zs : List Int), i = n ∧ x = (i : Int) - 1 ∧ i ≤ hi ∧ PI a e xs zs ∧ (∀ k, HpAt zs a i k) ∧ (∀ p q, i ≤ p → p < q → q < hi → g zs (a + p) ≤ g zs (a + q)) ∧ (∀ p q, p < i → i ≤ q → q < hi → g zs (a + p) ≤ g zs (a + q)) ∧ Ar s b W'.heap zs ∧ CB b w W', ⟨_, hi, ys, rfl, ?_, Nat.le_refl _, hP, fun k => hH k (Nat.zero_le _), fun p q _ _ _ => by omega, fun p q _ _ _ => by omega, hA, hC⟩, ?_⟩
    · rw [wsb ha (by omega), hhi, wrap_of (by omega) (by omega)]
    rintro n _ W1 _ ⟨i, zs, rfl, rfl, hi2, hP1, hH1, hS1, hX1, hA1, hC1⟩
    have hzl := hP1.len
    unfold F87j2
    refine IfB.dec (fun hge => ?_) (fun hlt => ⟨rfl, zs, hP1, fun p q h1 h2 h3 => ?_, hA1, hC1⟩)
    · obtain ⟨m, rfl⟩ : ∃ m, i = m + 1 := ⟨i - 1, by omega⟩
      rw [show (((m + 1 : Nat) : Int) - 1) = (m : Int) by omega, wad (by omega)]
      have hCd : CB b w W1.drew := hC1.then (extDrew W1) fun _ _ h => h.elim
      refine sw (w := W1.drew) hA1 (by omega) (by omega) (by omega) (by omega) fun W2 hA2 hC2 => ?_
      rw [Int.toNat_natCast, Int.toNat_natCast] at hA2
      have hP2 : PI a e xs (swp zs a (a + m)) := .step hP1 (by omega) (by omega) (by omega) (by omega) (by omega)
      have g0 : ∀ p, 0 < p → p < m → g (swp zs a (a + m)) (a + p) = g zs (a + p) := fun p h1 h2 => g_swo (by omega) (by omega) (by omega) (by omega)
      have gm : g (swp zs a (a + m)) (a + m) = g zs a := g_swq (by omega) (by omega)
      have gz : g (swp zs a (a + m)) a = g zs (a + m) := g_swl (by omega) (by omega)
      have gb : ∀ q, m < q → g (swp zs a (a + m)) (a + q) = g zs (a + q) := fun q h1 => g_swo (by omega) (by omega) (by omega) (by omega)
      refine (c108 (lo := 0) hA2 (by rw [swp_len]; omega) (by omega) fun k hk c hc1 hc2 => ?_).use ?_
      · rw [g0 k hk (by omega), g0 c (by omega) hc2]
        exact hH1 k c hc1 (by omega)
      rintro _ W3 ⟨rfl, us, hP3, hH3, hA3, hC3⟩
      have hmax := heap_max hH1
      have hP3' : PI a e (swp zs a (a + m)) us := hP3.mono (Nat.le_refl _) (by omega) (by rw [swp_len]; omega)
      have ub : ∀ q, m ≤ q → g us (a + q) = g (swp zs a (a + m)) (a + q) := fun q hq => hP3.out (.inr (by omega))
      refine ⟨(), rfl, rfl, m, by omega, m, us, rfl, by rw [wrap_of (by omega) (by omega)], by omega, hP2.trans hP3', fun k => hH3 k (Nat.zero_le _), ?_, ?_, hA3, (hCd.trans hC2).trans hC3⟩
      · intro p q h1 h2 h3
        rw [ub p h1, ub q (by omega), gb q (by omega)]
        by_cases hp : p = m
        · subst hp; rw [gm]
          have := hX1 0 q (by omega) (by omega) h3
          exact this
        · rw [gb p (by omega)]; exact hS1 p q (by omega) h2 h3
      · intro p q h1 h2 h3
        have hQ : ∀ i, a ≤ i → i < a + m → (fun v => v ≤ g us (a + q)) (g us i) := by
          refine hP3.all (Q := fun v => v ≤ g us (a + q)) fun i h4 h5 => ?_
          show _ ≤ g us (a + q)
          rw [ub q h2]
          obtain ⟨t, rfl⟩ : ∃ t, i = a + t := ⟨i - a, by omega⟩
          have h6 : g (swp zs a (a + m)) (a + t) = g zs (a + t) ∨ g (swp zs a (a + m)) (a + t) = g zs (a + m) := by
            by_cases ht : t = 0
            · subst ht; exact .inr gz
            · exact .inl (g0 t (by omega) (by omega))
          by_cases hq : q = m
          · subst hq
            rw [gm]
            have h7 := hmax t (by omega)
            have h8 := hmax q (by omega)
            rcases h6 with h6 | h6 <;> omega
          · rw [gb q (by omega)]
            have h7 := hX1 t q (by omega) (by omega) h3
            have h8 := hX1 m q (by omega) (by omega) h3
            rcases h6 with h6 | h6 <;> omega
        exact hQ _ (by omega) (by omega)
    · obtain ⟨p', rfl⟩ : ∃ t, p = a + t := ⟨p - a, by omega⟩
      obtain ⟨q', rfl⟩ : ∃ t, q = a + t := ⟨q - a, by omega⟩
      exact hS1 p' q' (by omega) (by omega) (by omega)
theorem c90 {s : Sl} {b : Nat} {w : World} {xs : List Int} {a e : Nat} (h : Ar s b w.heap xs) (he : e ≤ xs.length) (ha : a < e) :
    CW Try.prog 90 #[slV s, iv a, iv e] w fun v w' => v = .tuple #[] ∧ ∃ ys, PI a e xs ys ∧ Ar s b w'.heap ys ∧ CB b w w' := by
  have hl : xs.length ≤ 1000000 := h.2.2.1
  refine F90_ok s a e w _ ⟨fun n x W => ∃ (i j : Nat) (ys : List Int), n = j ∧ x = ((i : Int), (j : Int)) ∧ a ≤ i ∧ j < e ∧ i ≤ j + 1 ∧ PI a e xs ys ∧ Ar s b W.heap ys ∧ CB b w W, ⟨_, a, e - 1, xs, rfl, by rw [wm1 (by omega) (by omega)], Nat.le_refl _, by omega, by omega, .refl, h, Ch.refl _ _⟩, ?_⟩
  rintro n _ W _ ⟨i, j, ys, rfl, rfl, hai, hje, hij, hP, hA, hC⟩
  have hyl := hP.len
  unfold F90j1
  refine IfB.dec (fun hlt => ?_) (fun hge => ⟨rfl, ys, hP, hA, hC⟩)
  have hlt : i < n := by
    have : (i : Int) < (n : Int) := hlt
    omega
  have hCd : CB b w W.drew := hC.then (extDrew W) fun _ _ h => h.elim
  refine sw (w := W.drew) hA (p := (i : Int)) (q := (n : Int)) (by omega) (by omega) (by omega) (by omega) fun W2 hA2 hC2 => ?_
  rw [Int.toNat_natCast, Int.toNat_natCast] at hA2
  exact ⟨rfl, n - 1, by omega, i + 1, n - 1, _, rfl, by rw [← wp1 (by omega), ← wm1 (by omega) (by omega)], by omega, by omega, by omega, .step hP (by omega) (by omega) (by omega) (by omega) (by omega), hA2, hCd.trans hC2⟩
end Go.Proofs.Ytmmhbjbaallkfaa.Gx
namespace Go.Proofs.Ytmmhbjbaallkfaa.Gx
open Go
set_option linter.unusedSimpArgs false
set_option linter.unusedVariables false
theorem Ar.ch {F : Nat → Prop} {s : Sl} {b : Nat} {w w' : World} {xs : List Int} (h : Ar s b w.heap xs) (hc : Ch F w w') (hF : ¬ F b) : Ar s b w'.heap xs := by
  obtain ⟨e1, e2, e3, arr, T, e4, e5⟩ := h
  exact ⟨e1, e2, e3, arr, T, hc.at e4 hF, e5⟩
def Ct (k : IntKind) (b1 : Nat) (w : World) : Prop := ∃ T n, w.heap[b1]? = some (.cells #[.int k n] T (0, 0))
theorem c115 {s : Sl} {b b1 : Nat} {w : World} {xs : List Int} {i j : Nat} (h : Ar s b w.heap xs) (hc : Ct .i64 b1 w) (hne : b1 ≠ b) (hi : i < xs.length) (hj : j < xs.length) :
    CW Try.prog 115 #[slV s, iv i, iv j, .pointer (some ⟨b1, 0, none⟩)] w fun v w' => ∃ x y : Nat, v = .tuple #[iv x, iv y] ∧ (x = i ∧ y = j ∨ x = j ∧ y = i) ∧ Ar s b w'.heap xs ∧ Ct .i64 b1 w' ∧ Ch (fun q => q = b1) w w' := by
  have hd : Ch (fun q => q = b1) w w.drew := (extDrew w).mono fun _ _ h => h.elim
  refine F115_ok s i j _ w _ (ls (w := w.drew) h (by omega) (by omega) (by omega) (by omega) (IfB.intro (fun _ => ?_) (fun _ => ⟨i, j, rfl, .inl ⟨rfl, rfl⟩, h, hc, hd⟩)))
  obtain ⟨T, n, hn⟩ := hc
  refine ⟨b1, 0, rfl, n, by rw [cell_of (w := w.drew) hn]; rfl, b1, 0, rfl, rfl, store_one (w := w.drew) hn (by simp) rfl fun w2 h2 => ⟨j, i, rfl, .inr ⟨rfl, rfl⟩, ?_, ⟨T, _, h2.new⟩, hd.trans h2.ch⟩⟩
  exact Ar.ch (w := w.drew) h h2.ch (Ne.symm hne)
theorem c110 {s : Sl} {b b1 : Nat} {w : World} {xs : List Int} {i j k : Nat} (h : Ar s b w.heap xs) (hc : Ct .i64 b1 w) (hne : b1 ≠ b) (hi : i < xs.length) (hj : j < xs.length) (hk : k < xs.length) :
    CW Try.prog 110 #[slV s, iv i, iv j, iv k, .pointer (some ⟨b1, 0, none⟩)] w fun v w' => ∃ x : Nat, v = iv x ∧ (x = i ∨ x = j ∨ x = k) ∧ Ar s b w'.heap xs ∧ Ct .i64 b1 w' ∧ Ch (fun q => q = b1) w w' := by
  refine F110_ok s i j k _ w _ ((c115 h hc hne hi hj).use ?_)
  rintro _ w2 ⟨x1, y1, rfl, e1, h2, k2, l2⟩
  refine ⟨((x1 : Int), (y1 : Int)), rfl, (c115 h2 k2 hne (by omega) hk).use ?_⟩
  rintro _ w3 ⟨x2, y2, rfl, e2, h3, k3, l3⟩
  refine ⟨((x2 : Int), (y2 : Int)), rfl, (c115 h3 k3 hne (by omega) (by omega)).use ?_⟩
  rintro _ w4 ⟨x3, y3, rfl, e3, h4, k4, l4⟩
  exact ⟨((x3 : Int), (y3 : Int)), rfl, y3, rfl, by omega, h4, k4, (l2.trans l3).trans l4⟩
theorem c109 {s : Sl} {b b1 : Nat} {w : World} {xs : List Int} {i : Nat} (h : Ar s b w.heap xs) (hc : Ct .i64 b1 w) (hne : b1 ≠ b) (h0 : 0 < i) (hi : i + 1 < xs.length) :
    CW Try.prog 109 #[slV s, iv i, .pointer (some ⟨b1, 0, none⟩)] w fun v w' => ∃ x : Nat, v = iv x ∧ (i ≤ x + 1 ∧ x ≤ i + 1) ∧ Ar s b w'.heap xs ∧ Ct .i64 b1 w' ∧ Ch (fun q => q = b1) w w' := by
  have hl := h.2.2.1
  refine F109_ok s i _ w _ ?_
  unfold F109
  rw [wm1 (by omega) (by omega), wp1 (by omega)]
  refine (c110 h hc hne (by omega) (by omega) hi).use ?_
  rintro _ w2 ⟨x, rfl, e, h2, k2, l2⟩
  exact ⟨_, rfl, x, rfl, by omega, h2, k2, l2⟩
theorem wmul {i : Nat} {k : Int} {m : Nat} (hk : k = (m : Int)) (hm : m ≤ 4) (hi : i ≤ 1000000) : IntKind.i64.wrap ((i : Int) * k) = ((i * m : Nat) : Int) := by
  subst hk
  have : i * m ≤ 4000000 := Nat.le_trans (Nat.mul_le_mul hi hm) (by decide)
  rw [← Int.natCast_mul, wrap_of (by omega) (by omega)]
theorem c89 {s : Sl} {b : Nat} {w : World} {xs : List Int} {a e : Nat} (h : Ar s b w.heap xs) (he : e ≤ xs.length) (ha : a + 12 < e) :
    CW Try.prog 89 #[slV s, iv a, iv e] w fun v w' => ∃ (p : Nat) (t : Int), v = .tuple #[iv p, iv t] ∧ (a ≤ p ∧ p < e) ∧ Ar s b w'.heap xs ∧ Ext w w' := by
  have hl := h.2.2.1
  have hlt := h.lt
  refine F89_ok s a e w _ ?_
  intro b1 w2 h2
  have e2 : Ext w w2 := h2.ch _
  have p2 := h2.here
  have hA2 := h.ch e2 id
  have hc2 : Ct .i64 b1 w2 := ⟨_, _, h2.new⟩
  have hne : b1 ≠ b := by omega
  have hq : IntKind.i64.wrap ((IntKind.i64.wrap ((e : Int) - (a : Int))).tdiv (4 : Int)) = (((e - a) / 4 : Nat) : Int) := by
    rw [wsb (by omega) (by omega), Int.tdiv_eq_ediv_of_nonneg (by omega), wrap_of (by omega) (by omega)]; omega
  rw [hq, wmul (k := (1 : Int)) (m := 1) rfl (by omega) (by omega), wmul (k := (2 : Int)) (m := 2) rfl (by omega) (by omega), wmul (k := (3 : Int)) (m := 3) rfl (by omega) (by omega), wad (by omega), wad (by omega), wad (by omega), wsb (by omega) (by omega)]
  generalize hqq : (e - a) / 4 = q
  have hx : ∀ {w' : World}, Ch (fun i => i = b1) w2 w' → Ext w w' := fun hc => e2.then hc fun i hi h => by omega
  refine ⟨by decide, by decide, by decide, fun x W => ∃ p : Nat, x = (p : Int) ∧ (a ≤ p ∧ p < e) ∧ Ar s b W.heap xs ∧ Ct .i64 b1 W ∧ Ch (fun i => i = b1) w2 W, ?_, ?_⟩
  · refine IfB.yes (decide_eq_true (by omega)) ⟨fun x W => ∃ i j k : Nat, x = ((i : Int), (j : Int), (k : Int)) ∧ (a ≤ i ∧ i < e) ∧ (a ≤ j ∧ j < e) ∧ (a ≤ k ∧ k < e) ∧ Ar s b W.heap xs ∧ Ct .i64 b1 W ∧ Ch (fun i => i = b1) w2 W, ?_, ?_⟩
    · refine IfB.dec (fun h50 => ?_) (fun _ => ⟨rfl, _, _, _, rfl, by omega, by omega, by omega, hA2, hc2, Ch.refl _ _⟩)
      have h50 : 50 ≤ e - a := by omega
      refine (c109 hA2 hc2 hne (by omega) (by omega)).use ?_
      rintro _ w6 ⟨i, rfl, hi, h6, k6, l6⟩
      refine ⟨_, rfl, (c109 h6 k6 hne (by omega) (by omega)).use ?_⟩
      rintro _ w9 ⟨j, rfl, hj, h9, k9, l9⟩
      refine ⟨_, rfl, (c109 h9 k9 hne (by omega) (by omega)).use ?_⟩
      rintro _ w12 ⟨k, rfl, hk, h12, k12, l12⟩
      exact ⟨_, rfl, rfl, i, j, k, rfl, by omega, by omega, by omega, h12, k12, (l6.trans l9).trans l12⟩
    · rintro _ w15 _ ⟨i, j, k, rfl, hi, hj, hk, h15, k15, l15⟩
      refine (c110 h15 k15 hne (by omega) (by omega) (by omega)).use ?_
      rintro _ w19 ⟨x, rfl, hx, h19, k19, l19⟩
      exact ⟨_, rfl, rfl, x, rfl, by omega, h19, k19, l15.trans l19⟩
  · rintro _ w22 _ ⟨p, rfl, hp, h22, ⟨T, n, hn⟩, l22⟩
    refine ⟨n, by rw [cell_of hn]; rfl, IfB.intro (fun _ => ⟨p, 1, rfl, hp, h22, hx l22⟩) fun _ => IfB.intro (fun _ => ⟨p, 2, rfl, hp, h22, hx l22⟩) fun _ => ⟨p, 0, rfl, hp, h22, hx l22⟩⟩
end Go.Proofs.Ytmmhbjbaallkfaa.Gx
namespace Go.Proofs.Ytmmhbjbaallkfaa.Gx
open Go
set_option linter.unusedSimpArgs false
set_option linter.unusedVariables false
structure Pt (a e : Nat) (xs ys : List Int) (v : Int) (Lo : Int → Prop) (i j : Nat) : Prop where
  pi : PI a e xs ys
  len : e ≤ xs.length
  v : g ys a = v
  ai : a + 1 ≤ i
  ij : i ≤ j + 1
  je : j + 1 ≤ e
  lo : ∀ k, a < k → k < i → Lo (g ys k)
  hi : ∀ k, j < k → k < e → ¬ Lo (g ys k)
theorem Pt.up {a e i j : Nat} {xs ys : List Int} {v : Int} {Lo : Int → Prop} (h : Pt a e xs ys v Lo i j) (hij : i ≤ j) (hl : Lo (g ys i)) : Pt a e xs ys v Lo (i + 1) j := by
  have h1 := h.ai
  refine ⟨h.pi, h.len, h.v, by omega, by omega, h.je, fun k h1 h2 => ?_, h.hi⟩
  by_cases hk : k = i
  · subst hk; exact hl
  · exact h.lo k h1 (by omega)
theorem Pt.dn {a e i j : Nat} {xs ys : List Int} {v : Int} {Lo : Int → Prop} (h : Pt a e xs ys v Lo i j) (hij : i ≤ j) (hl : ¬ Lo (g ys j)) : Pt a e xs ys v Lo i (j - 1) := by
  have h1 := h.ai; have h2 := h.je
  refine ⟨h.pi, h.len, h.v, h1, by omega, by omega, h.lo, fun k h1 h2 => ?_⟩
  by_cases hk : k = j
  · subst hk; exact hl
  · exact h.hi k (by omega) h2
theorem Pt.sw {a e i j : Nat} {xs ys : List Int} {v : Int} {Lo : Int → Prop} (h : Pt a e xs ys v Lo i j) (hij : i ≤ j) (h1 : ¬ Lo (g ys i)) (h2 : Lo (g ys j)) : Pt a e xs (swp ys i j) v Lo (i + 1) (j - 1) := by
  have hne : i ≠ j := fun e => h1 (e ▸ h2)
  have hl := h.pi.len; have h3 := h.len; have h4 := h.ai; have h5 := h.je
  refine ⟨.step h.pi (by omega) (by omega) (by omega) (by omega) (by omega), h3, ?_, by omega, by omega, by omega, fun k h6 h7 => ?_, fun k h6 h7 => ?_⟩
  · rw [g_swo (by omega) (by omega) (by omega) (by omega)]; exact h.v
  · by_cases hk : k = i
    · subst hk; rw [g_swl (by omega) (by omega)]; exact h2
    · rw [g_swo (by omega) (by omega) (by omega) (by omega)]; exact h.lo k h6 (by omega)
  · by_cases hk : k = j
    · subst hk; rw [g_swq (by omega) (by omega)]; exact h1
    · rw [g_swo (by omega) (by omega) (by omega) (by omega)]; exact h.hi k (by omega) h7
theorem upPart {s : Sl} {b a e i j : Nat} {w : World} {xs ys : List Int} {v : Int} {y : Int → World → Prop} (hP : Pt a e xs ys v (fun x => x < v) i j) (hA : Ar s b w.heap ys)
    (hy : ∀ (i' : Nat) (w' : World), Pt a e xs ys v (fun x => x < v) i' j → (j < i' ∨ ¬ g ys i' < v) → i ≤ i' → Ext w w' → y (i' : Int) w') :
    ∃ y14 : Nat → Int → World → Prop, (∃ b15, y14 b15 (i : Int) w) ∧ ∀ (b16 : Nat) (n17 : Int) (w18 : World) (_ : Nat → Value), y14 b16 n17 w18 → IfB (decide (n17 ≤ (j : Int))) (F94k2 s n17 w18 a b16 y14 y) (([] : List Nat) = [] ∧ y n17 w18.drew) := by
  refine ⟨fun n x W => ∃ i' : Nat, n = j + 1 - i' ∧ x = (i' : Int) ∧ i ≤ i' ∧ Pt a e xs ys v (fun x => x < v) i' j ∧ Ext w W, ⟨_, i, rfl, rfl, Nat.le_refl _, hP, Ch.refl _ _⟩, ?_⟩
  rintro _ _ W _ ⟨i', rfl, rfl, hii, hP', hW⟩
  have hl := hP'.pi.len; have h3 := hP'.len; have h4 := hP'.ai; have h5 := hP'.je; have h6 := hA.2.2.1
  have hd := hW.trans (extDrew W)
  refine IfB.dec (fun hle => ?_) (fun hgt => ⟨rfl, hy i' _ hP' (.inl (by omega)) hii hd⟩)
  have hle : i' ≤ j := by omega
  refine ls (w := W.drew) (hA.ch hd id) (by omega) (by omega) (by omega) (by omega) (IfB.dec (fun hl1 => ?_) (fun hl1 => ⟨rfl, hy i' _ hP' (.inr ?_) hii hd⟩))
  · rw [Int.toNat_natCast, Int.toNat_natCast, hP'.v] at hl1
    exact ⟨rfl, _, by omega, i' + 1, rfl, wp1 (by omega), by omega, hP'.up hle hl1, hd⟩
  · rw [Int.toNat_natCast, Int.toNat_natCast, hP'.v] at hl1; exact hl1
theorem dnPart {s : Sl} {b a e i j : Nat} {w : World} {xs ys : List Int} {v : Int} {y : Int → World → Prop} (hP : Pt a e xs ys v (fun x => x < v) i j) (hA : Ar s b w.heap ys)
    (hy : ∀ (j' : Nat) (w' : World), Pt a e xs ys v (fun x => x < v) i j' → (j' < i ∨ g ys j' < v) → j' ≤ j → Ext w w' → y (j' : Int) w') :
    ∃ y14 : Nat → Int → World → Prop, (∃ b15, y14 b15 (j : Int) w) ∧ ∀ (b16 : Nat) (n17 : Int) (w18 : World) (_ : Nat → Value), y14 b16 n17 w18 → IfB (decide ((i : Int) ≤ n17)) (F94k1 s n17 w18 a b16 y14 y) (([] : List Nat) = [] ∧ y n17 w18.drew) := by
  refine ⟨fun n x W => ∃ j' : Nat, j' = n ∧ x = (j' : Int) ∧ j' ≤ j ∧ Pt a e xs ys v (fun x => x < v) i j' ∧ Ext w W, ⟨_, j, rfl, rfl, Nat.le_refl _, hP, Ch.refl _ _⟩, ?_⟩
  rintro _ _ W _ ⟨j', rfl, rfl, hjj, hP', hW⟩
  have hl := hP'.pi.len; have h3 := hP'.len; have h4 := hP'.ai; have h5 := hP'.je; have h6 := hA.2.2.1
  have hd := hW.trans (extDrew W)
  refine IfB.dec (fun hle => ?_) (fun hgt => ⟨rfl, hy j' _ hP' (.inl (by omega)) hjj hd⟩)
  have hle : i ≤ j' := by omega
  refine ls (w := W.drew) (hA.ch hd id) (by omega) (by omega) (by omega) (by omega) (IfB.intro (fun hl1 => ?_) (fun hl1 => ⟨rfl, hy j' _ hP' (.inr ?_) hjj hd⟩))
  · simp only [Int.toNat_natCast, hP'.v, Bool.not_eq_true', decide_eq_false_iff_not] at hl1
    exact ⟨rfl, j' - 1, by omega, j' - 1, rfl, wm1 (by omega) (by omega), by omega, hP'.dn hle hl1, hd⟩
  · simp only [Int.toNat_natCast, hP'.v, Bool.not_eq_false', decide_eq_true_eq] at hl1; exact hl1
theorem c94 {s : Sl} {b : Nat} {w : World} {xs : List Int} {a e p : Nat} (h : Ar s b w.heap xs) (he : e ≤ xs.length) (hp : a ≤ p ∧ p < e) :
    CW Try.prog 94 #[slV s, iv a, iv e, iv p] w fun v w' => ∃ (m : Nat) (t : Bool), v = .tuple #[iv m, .bool t] ∧ (a ≤ m ∧ m < e) ∧ ∃ ys, PI a e xs ys ∧ (∀ k, a ≤ k → k < m → g ys k < g ys m) ∧ (∀ k, m < k → k < e → g ys m ≤ g ys k) ∧ Ar s b w'.heap ys ∧ CB b w w' := by
  have hl := h.2.2.1
  refine F94_ok s a e p w _ ?_
  have hCd : CB b w w.drew := (extDrew w).mono fun _ _ h => h.elim
  refine sw (w := w.drew) h (by omega) (by omega) (by omega) (by omega) fun w12 h12 C12 => ?_
  rw [Int.toNat_natCast, Int.toNat_natCast] at h12
  have C12 := hCd.trans C12
  have hP0 : Pt a e xs (swp xs a p) (g (swp xs a p) a) (fun x => x < g (swp xs a p) a) (a + 1) (e - 1) :=
    ⟨.step .refl (by omega) (by omega) (by omega) (by omega) he, he, rfl, by omega, by omega, by omega, fun k h1 h2 => by omega, fun k h1 h2 => by omega⟩
  generalize swp xs a p = ys0 at hP0 h12
  generalize g ys0 a = v at hP0
  have fin : ∀ {ys : List Int} {j : Nat} {W : World} {t : Bool}, Pt a e xs ys v (fun x => x < v) (j + 1) j → Ar s b W.heap ys → CB b w W →
      ∀ W2 : World, Ar s b W2.heap (swp ys j a) → CB b W W2 → ∃ (m : Nat) (t' : Bool), Value.tuple #[iv j, .bool t] = .tuple #[iv m, .bool t'] ∧ (a ≤ m ∧ m < e) ∧ ∃ ys, PI a e xs ys ∧ (∀ k, a ≤ k → k < m → g ys k < g ys m) ∧ (∀ k, m < k → k < e → g ys m ≤ g ys k) ∧ Ar s b W2.heap ys ∧ CB b w W2 := by
    intro ys j W t hP hA hC W2 hA2 hC2
    have hyl := hP.pi.len; have h4 := hP.ai; have h5 := hP.je
    have gj : g (swp ys j a) j = v := by rw [g_swl (by omega) (by omega)]; exact hP.v
    refine ⟨j, t, rfl, by omega, _, .step hP.pi (by omega) (by omega) (by omega) (by omega) (by omega), fun k h1 h2 => ?_, fun k h1 h2 => ?_, hA2, hC.trans hC2⟩
    · rw [gj]
      by_cases hk : k = a
      · subst hk; rw [g_swq (by omega) (by omega)]; exact hP.lo j (by omega) (by omega)
      · rw [g_swo (by omega) (by omega) (by omega) (by omega)]; exact hP.lo k (by omega) (by omega)
    · rw [gj, g_swo (by omega) (by omega) (by omega) (by omega)]
      have := hP.hi k h1 h2
      omega
  refine ⟨fun x W => ∃ i : Nat, x = (i : Int) ∧ Pt a e xs ys0 v (fun x => x < v) i (e - 1) ∧ (e - 1 < i ∨ ¬ g ys0 i < v) ∧ Ar s b W.heap ys0 ∧ CB b w W, ?_, ?_⟩
  · unfold F94j1
    rw [wp1 (by omega), wm1 (by omega) (by omega)]
    exact upPart hP0 h12 fun i' w' h1 h2 _ h3 => ⟨i', rfl, h1, h2, h12.ch h3 id, C12.then h3 fun _ _ h => h.elim⟩
  rintro _ W _ ⟨i, rfl, hP, hi, hA, hC⟩
  refine ⟨fun x W' => ∃ j : Nat, x = (j : Int) ∧ Pt a e xs ys0 v (fun x => x < v) i j ∧ (j < i ∨ g ys0 j < v) ∧ (j < i ∨ ¬ g ys0 i < v) ∧ Ar s b W'.heap ys0 ∧ CB b w W', ?_, ?_⟩
  · unfold F94j3
    rw [wm1 (by omega) (by omega)]
    exact dnPart hP hA fun j' w' h1 h2 h3 h4 => ⟨j', rfl, h1, h2, by omega, hA.ch h4 id, hC.then h4 fun _ _ h => h.elim⟩
  rintro _ W1 _ ⟨j, rfl, hP1, hj1, hj2, hA1, hC1⟩
  have hyl := hP1.pi.len; have h4 := hP1.ai; have h5 := hP1.je; have h6 := hP1.ij
  have hC1d : CB b w W1.drew := hC1.then (extDrew W1) fun _ _ h => h.elim
  unfold F94j4
  refine IfB.dec (fun hlt => ?_) (fun hge => ?_)
  · have hij : i = j + 1 := by omega
    subst hij
    refine sw (w := W1.drew) hA1 (by omega) (by omega) (by omega) (by omega) fun W2 h2 C2 => ?_
    rw [Int.toNat_natCast, Int.toNat_natCast] at h2
    exact fin (W := W1.drew) hP1 hA1 hC1d W2 h2 C2
  · have hij : i ≤ j := by omega
    refine sw (w := W1.drew) hA1 (by omega) (by omega) (by omega) (by omega) fun W2 h2 C2 => ?_
    rw [Int.toNat_natCast, Int.toNat_natCast] at h2
    have hP2 := hP1.sw hij (by omega) (by omega)
    have C2 := hC1d.trans C2
    refine ⟨fun n x W => ∃ (i j : Nat) (ys : List Int), n = j + 1 - i ∧ x = ((i : Int), (j : Int)) ∧ Pt a e xs ys v (fun x => x < v) i j ∧ Ar s b W.heap ys ∧ CB b w W, ⟨_, i + 1, j - 1, _, rfl, by rw [wp1 (by omega), wm1 (by omega) (by omega)], hP2, h2, C2⟩, ?_⟩
    rintro _ _ W3 _ ⟨i3, j3, ys3, rfl, rfl, hP3, hA3, hC3⟩
    unfold F94j5
    refine ⟨fun x W => ∃ i : Nat, x = (i : Int) ∧ i3 ≤ i ∧ Pt a e xs ys3 v (fun x => x < v) i j3 ∧ (j3 < i ∨ ¬ g ys3 i < v) ∧ Ar s b W.heap ys3 ∧ CB b w W, ?_, ?_⟩
    · exact upPart hP3 hA3 fun i' w' h1 h2 h3 h4 => ⟨i', rfl, h3, h1, h2, hA3.ch h4 id, hC3.then h4 fun _ _ h => h.elim⟩
    rintro _ W4 _ ⟨i4, rfl, hi34, hP4, hi4, hA4, hC4⟩
    refine ⟨fun x W' => ∃ j : Nat, x = (j : Int) ∧ j ≤ j3 ∧ Pt a e xs ys3 v (fun x => x < v) i4 j ∧ (j < i4 ∨ g ys3 j < v) ∧ (j < i4 ∨ ¬ g ys3 i4 < v) ∧ Ar s b W'.heap ys3 ∧ CB b w W', ?_, ?_⟩
    · exact dnPart hP4 hA4 fun j' w' h1 h2 h3 h4 => ⟨j', rfl, h3, h1, h2, by omega, hA4.ch h4 id, hC4.then h4 fun _ _ h => h.elim⟩
    rintro _ W5 _ ⟨j5, rfl, hj5, hP5, hj51, hj52, hA5, hC5⟩
    have hyl := hP5.pi.len; have h4 := hP5.ai; have h5 := hP5.je; have h6 := hP5.ij
    have hC5d : CB b w W5.drew := hC5.then (extDrew W5) fun _ _ h => h.elim
    unfold F94j9
    refine IfB.dec (fun hlt => ?_) (fun hge => ?_)
    · have hij : i4 = j5 + 1 := by omega
      subst hij
      refine sw (w := W5.drew) hA5 (by omega) (by omega) (by omega) (by omega) fun W6 h6 C6 => ?_
      rw [Int.toNat_natCast, Int.toNat_natCast] at h6
      exact fin (W := W5.drew) hP5 hA5 hC5d W6 h6 C6
    · have hij : i4 ≤ j5 := by omega
      refine sw (w := W5.drew) hA5 (by omega) (by omega) (by omega) (by omega) fun W6 h6 C6 => ?_
      rw [Int.toNat_natCast, Int.toNat_natCast] at h6
      exact ⟨rfl, _, by omega, i4 + 1, j5 - 1, _, rfl, by rw [wp1 (by omega), wm1 (by omega) (by omega)], hP5.sw hij (by omega) (by omega), h6, hC5d.trans C6⟩
end Go.Proofs.Ytmmhbjbaallkfaa.Gx
namespace Go.Proofs.Ytmmhbjbaallkfaa.Gx
open Go
set_option linter.unusedSimpArgs false
set_option linter.unusedVariables false
theorem c93 {s : Sl} {b : Nat} {w : World} {xs : List Int} {a e p : Nat} (h : Ar s b w.heap xs) (he : e ≤ xs.length) (hp : a ≤ p ∧ p < e) :
    CW Try.prog 93 #[slV s, iv a, iv e, iv p] w fun v w' => ∃ m : Nat, v = iv m ∧ (a < m ∧ m ≤ e) ∧ ∃ ys, PI a e xs ys ∧ g ys a = g xs p ∧ (∀ k, a ≤ k → k < m → ¬ g xs p < g ys k) ∧ (∀ k, m ≤ k → k < e → g xs p < g ys k) ∧ Ar s b w'.heap ys ∧ CB b w w' := by
  have hl := h.2.2.1
  refine F93_ok s a e p w _ ?_
  have hCd : CB b w w.drew := (extDrew w).mono fun _ _ h => h.elim
  refine sw (w := w.drew) h (by omega) (by omega) (by omega) (by omega) fun w12 h12 C12 => ?_
  rw [Int.toNat_natCast, Int.toNat_natCast] at h12
  have C12 := hCd.trans C12
  have hv : g (swp xs a p) a = g xs p := g_swl (by omega) (by omega)
  have hP0 : Pt a e xs (swp xs a p) (g xs p) (fun x => ¬ g xs p < x) (a + 1) (e - 1) :=
    ⟨.step .refl (by omega) (by omega) (by omega) (by omega) he, he, hv, by omega, by omega, by omega, fun k h1 h2 => by omega, fun k h1 h2 => by omega⟩
  generalize swp xs a p = ys0 at hP0 h12
  clear hv
  generalize g xs p = v at hP0
  refine ⟨fun n x W => ∃ (i j : Nat) (ys : List Int), n = j + 1 - i ∧ x = ((i : Int), (j : Int)) ∧ Pt a e xs ys v (fun x => ¬ v < x) i j ∧ Ar s b W.heap ys ∧ CB b w W, ⟨_, a + 1, e - 1, _, rfl, by rw [wp1 (by omega), wm1 (by omega) (by omega)], hP0, h12, C12⟩, ?_⟩
  rintro _ _ W3 _ ⟨i3, j3, ys3, rfl, rfl, hP3, hA3, hC3⟩
  unfold F93j1
  refine ⟨fun x W => ∃ i : Nat, x = (i : Int) ∧ i3 ≤ i ∧ Pt a e xs ys3 v (fun x => ¬ v < x) i j3 ∧ (j3 < i ∨ v < g ys3 i) ∧ Ar s b W.heap ys3 ∧ CB b w W, ?_, ?_⟩
  · refine ⟨fun n x W => ∃ i : Nat, n = j3 + 1 - i ∧ x = (i : Int) ∧ i3 ≤ i ∧ Pt a e xs ys3 v (fun x => ¬ v < x) i j3 ∧ Ar s b W.heap ys3 ∧ CB b w W, ⟨_, i3, rfl, rfl, Nat.le_refl _, hP3, hA3, hC3⟩, ?_⟩
    rintro _ _ W _ ⟨i, rfl, rfl, hii, hP, hA, hC⟩
    have hyl := hP.pi.len; have h4 := hP.ai; have h5 := hP.je; have h6 := hP.ij
    have hd : CB b w W.drew := hC.then (extDrew W) fun _ _ h => h.elim
    unfold F93j2
    refine IfB.dec (fun hle => ?_) (fun hgt => ⟨rfl, i, rfl, hii, hP, .inl ?_, hA, hd⟩)
    · have hle : i ≤ j3 := by
        have : (i : Int) ≤ (j3 : Int) := hle
        omega
      refine ls (w := W.drew) hA (by omega) (by omega) (by omega) (by omega) (IfB.intro (fun hl1 => ?_) (fun hl1 => ⟨rfl, i, rfl, hii, hP, .inr ?_, hA, hd⟩))
      · simp only [Int.toNat_natCast, hP.v, Bool.not_eq_true', decide_eq_false_iff_not] at hl1
        exact ⟨rfl, _, by omega, i + 1, rfl, wp1 (by omega), by omega, hP.up hle hl1, hA, hd⟩
      · simp only [Int.toNat_natCast, hP.v, Bool.not_eq_false', decide_eq_true_eq] at hl1; exact hl1
    · have : ¬ (i : Int) ≤ (j3 : Int) := hgt
      omega
  rintro _ W4 _ ⟨i4, rfl, hi34, hP4, hi4, hA4, hC4⟩
  refine ⟨fun x W' => ∃ j : Nat, x = (j : Int) ∧ j ≤ j3 ∧ Pt a e xs ys3 v (fun x => ¬ v < x) i4 j ∧ (j < i4 ∨ ¬ v < g ys3 j) ∧ (j < i4 ∨ v < g ys3 i4) ∧ Ar s b W'.heap ys3 ∧ CB b w W', ?_, ?_⟩
  · refine ⟨fun n x W => ∃ j : Nat, j = n ∧ x = (j : Int) ∧ j ≤ j3 ∧ Pt a e xs ys3 v (fun x => ¬ v < x) i4 j ∧ (j < i4 ∨ v < g ys3 i4) ∧ Ar s b W.heap ys3 ∧ CB b w W, ⟨_, j3, rfl, rfl, Nat.le_refl _, hP4, by omega, hA4, hC4⟩, ?_⟩
    rintro _ _ W _ ⟨j, rfl, rfl, hjj, hP, hi, hA, hC⟩
    have hyl := hP.pi.len; have h4 := hP.ai; have h5 := hP.je; have h6 := hP.ij
    have hd : CB b w W.drew := hC.then (extDrew W) fun _ _ h => h.elim
    unfold F93j4
    refine IfB.dec (fun hle => ?_) (fun hgt => ⟨rfl, j, rfl, hjj, hP, .inl (by omega), hi, hA, hd⟩)
    have hle : i4 ≤ j := by omega
    refine ls (w := W.drew) hA (by omega) (by omega) (by omega) (by omega) (IfB.dec (fun hl1 => ?_) (fun hl1 => ⟨rfl, j, rfl, hjj, hP, .inr ?_, hi, hA, hd⟩))
    · rw [Int.toNat_natCast, Int.toNat_natCast, hP.v] at hl1
      exact ⟨rfl, j - 1, by omega, j - 1, rfl, wm1 (by omega) (by omega), by omega, hP.dn hle (by omega), by omega, hA, hd⟩
    · rw [Int.toNat_natCast, Int.toNat_natCast, hP.v] at hl1; exact hl1
  rintro _ W5 _ ⟨j5, rfl, hj5, hP5, hj51, hj52, hA5, hC5⟩
  have hyl := hP5.pi.len; have h4 := hP5.ai; have h5 := hP5.je; have h6 := hP5.ij
  have hC5d : CB b w W5.drew := hC5.then (extDrew W5) fun _ _ h => h.elim
  unfold F93j5
  refine IfB.dec (fun hlt => ?_) (fun hge => ?_)
  · refine ⟨i4, rfl, by omega, ys3, hP5.pi, hP5.v, fun k h1 h2 => ?_, fun k h1 h2 => ?_, hA5, hC5⟩
    · by_cases hk : k = a
      · subst hk; rw [hP5.v]; omega
      · exact hP5.lo k (by omega) h2
    · have := hP5.hi k (by omega) h2
      omega
  · have hij : i4 ≤ j5 := by omega
    refine sw (w := W5.drew) hA5 (by omega) (by omega) (by omega) (by omega) fun W6 h6 C6 => ?_
    rw [Int.toNat_natCast, Int.toNat_natCast] at h6
    exact ⟨rfl, _, by omega, i4 + 1, j5 - 1, _, rfl, by rw [wp1 (by omega), wm1 (by omega) (by omega)], hP5.sw hij (by omega) (by omega), h6, hC5d.trans C6⟩
end Go.Proofs.Ytmmhbjbaallkfaa.Gx
namespace Go.Proofs.Ytmmhbjbaallkfaa.Gx
open Go
set_option linter.unusedSimpArgs false
set_option linter.unusedVariables false
theorem CB.drew {b : Nat} {w W : World} (h : CB b w W) : CB b w W.drew := Ch.then h (extDrew W) fun _ _ h => h.elim
theorem c91 {s : Sl} {b : Nat} {w : World} {xs : List Int} {a e : Nat} (h : Ar s b w.heap xs) (he : e ≤ xs.length) (ha : a < e) (hb : 0 < a → ∀ k, a ≤ k → k < e → g xs (a - 1) ≤ g xs k) :
    CW Try.prog 91 #[slV s, iv a, iv e] w fun v w' => ∃ t, v = .bool t ∧ ∃ ys, PI a e xs ys ∧ (t = true → SO ys a e) ∧ Ar s b w'.heap ys ∧ CB b w w' := by
  have hl := h.2.2.1
  have lb : ∀ {ys}, PI a e xs ys → 0 < a → ∀ k, a ≤ k → k < e → g ys (a - 1) ≤ g ys k := fun {ys} hP h0 k h1 h2 => by
    rw [hP.out (.inl (by omega))]
    exact hP.all (Q := fun v => g xs (a - 1) ≤ v) (fun i h3 h4 => hb h0 i h3 h4) k h1 h2
  refine F91_ok s a e w _ ⟨fun n x W => ∃ (i j : Nat) (ys : List Int), n = 5 - j ∧ x = ((i : Int), (j : Int)) ∧ j ≤ 5 ∧ (a + 1 ≤ i ∧ i ≤ e) ∧ PI a e xs ys ∧ SO ys a i ∧ Ar s b W.heap ys ∧ CB b w W, ⟨_, a + 1, 0, xs, rfl, by rw [wp1 (by omega)]; rfl, by omega, by omega, .refl, fun p q _ _ _ => by omega, h, Ch.refl _ _⟩, ?_⟩
  rintro _ _ W _ ⟨i0, j0, ys, rfl, rfl, hj0, hi0, hP, hS0, hA, hC⟩
  have hyl := hP.len
  refine IfB.dec (fun hlt => ?_) (fun hge => ⟨false, rfl, ys, hP, (fun h => by cases h), hA, hC⟩)
  have hj5 : j0 < 5 := by
    have : (j0 : Int) < 5 := hlt
    omega
  refine ⟨fun x W => ∃ i : Nat, x = (i : Int) ∧ (a + 1 ≤ i ∧ i ≤ e) ∧ SO ys a i ∧ Ar s b W.heap ys ∧ CB b w W, ?_, ?_⟩
  · refine ⟨fun n x W => ∃ i : Nat, n = e - i ∧ x = (i : Int) ∧ (a + 1 ≤ i ∧ i ≤ e) ∧ SO ys a i ∧ Ar s b W.heap ys ∧ CB b w W, ⟨_, i0, rfl, rfl, hi0, hS0, hA, hC⟩, ?_⟩
    rintro _ _ W1 _ ⟨i, rfl, rfl, hi, hS, hA1, hC1⟩
    unfold F91j2
    refine IfB.dec (fun hlt => ?_) (fun hge => ⟨rfl, i, rfl, hi, hS, hA1, hC1.drew⟩)
    rw [wm1 (by omega) (by omega)]
    refine ls (w := W1.drew) hA1 (by omega) (by omega) (by omega) (by omega) (IfB.intro (fun hl1 => ?_) (fun hl1 => ⟨rfl, i, rfl, hi, hS, hA1, hC1.drew⟩))
    simp only [Int.toNat_natCast, Bool.not_eq_true', decide_eq_false_iff_not] at hl1
    refine ⟨rfl, _, by omega, i + 1, rfl, wp1 (by omega), by omega, fun p q h1 h2 h3 => ?_, hA1, hC1.drew⟩
    by_cases hq : q = i
    · subst hq
      by_cases hp : p = q - 1
      · subst hp; omega
      · have := hS p (q - 1) h1 (by omega) (by omega)
        omega
    · exact hS p q h1 h2 (by omega)
  rintro _ W2 _ ⟨i, rfl, hi, hS, hA2, hC2⟩
  unfold F91j3
  refine IfB.intro (fun hi3 => ?_) (fun hi3 => ?_)
  · have hi3 : (i : Int) = (e : Int) := by simpa using hi3
    have : i = e := by omega
    subst this
    exact ⟨true, rfl, ys, hP, fun _ => hS, hA2, hC2⟩
  have hie : i < e := by
    have : (i : Int) ≠ (e : Int) := by simpa using hi3
    omega
  rw [wsb (by omega) (by omega)]
  refine @IfB.dec (((e - a : Nat) : Int) < (50 : Int)) _ _ _ (fun _ => ⟨false, rfl, ys, hP, (fun h => by cases h), hA2, hC2⟩) (fun _ => ?_)
  rw [wm1 (by omega) (by omega)]
  refine sw (w := W2.drew) hA2 (by omega) (by omega) (by omega) (by omega) fun W3 hA3 hC3 => ?_
  rw [Int.toNat_natCast, Int.toNat_natCast] at hA3
  have hP3 : PI a e xs (swp ys i (i - 1)) := .step hP (by omega) (by omega) (by omega) (by omega) (by omega)
  have hC3 := (CB.drew hC2).trans hC3
  rw [wsb (by omega) (by omega)]
  refine ⟨fun _ W => ∃ zs, PI a e xs zs ∧ SO zs a i ∧ Ar s b W.heap zs ∧ CB b w W, ?_, ?_⟩
  · refine IfB.dec (fun h2 => ?_) (fun h2 => ⟨rfl, _, hP3, fun p q _ _ _ => by omega, hA3, hC3⟩)
    refine ⟨fun n x W => ∃ (j : Nat) (zs : List Int), j = n ∧ x = (j : Int) ∧ (a ≤ j ∧ j ≤ i - 1) ∧ PI a e xs zs ∧ (∀ p q, a ≤ p → p < q → q < i → q ≠ j → g zs p ≤ g zs q) ∧ Ar s b W.heap zs ∧ CB b w W, ⟨_, i - 1, _, rfl, rfl, by omega, hP3, fun p q h1 h2 h3 h4 => ?_, hA3, hC3⟩, ?_⟩
    · rw [g_swo (by omega) (by omega) (by omega) (by omega), g_swo (by omega) (by omega) (by omega) (by omega)]
      exact hS p q h1 h2 h3
    rintro _ _ W4 _ ⟨j, zs, rfl, rfl, hj, hP4, hS4, hA4, hC4⟩
    have hzl := hP4.len
    unfold F91j4
    refine IfB.dec (fun hj1 => ?_) (fun hj1 => ⟨rfl, zs, hP4, fun p q h1 h2 h3 => hS4 p q h1 h2 h3 (by omega), hA4, hC4⟩)
    rw [wm1 (by omega) (by omega)]
    refine ls (w := W4.drew) hA4 (by omega) (by omega) (by omega) (by omega) (IfB.intro (fun hl1 => ?_) (fun hl1 => ?_))
    · simp only [Int.toNat_natCast, Bool.not_eq_true', decide_eq_false_iff_not] at hl1
      refine ⟨rfl, zs, hP4, fun p q h1 h2 h3 => ?_, hA4, hC4.drew⟩
      by_cases hq : q = j
      · subst hq
        by_cases hp : p = q - 1
        · subst hp; omega
        · have := hS4 p (q - 1) h1 (by omega) (by omega) (by omega)
          omega
      · exact hS4 p q h1 h2 h3 hq
    · simp only [Int.toNat_natCast, Bool.not_eq_false', decide_eq_true_eq] at hl1
      have haj : a < j := by
        rcases Nat.lt_or_ge a j with h | h
        · exact h
        · have : a = j := by omega
          subst this
          have := lb hP4 (by omega) a (Nat.le_refl _) (by omega)
          omega
      refine sw (w := W4.drew.drew) hA4 (by omega) (by omega) (by omega) (by omega) fun W5 hA5 hC5 => ?_
      rw [Int.toNat_natCast, Int.toNat_natCast] at hA5
      refine ⟨rfl, j - 1, by omega, j - 1, _, rfl, rfl, by omega, .step hP4 (by omega) (by omega) (by omega) (by omega) (by omega), fun p q h1 h2 h3 h4 => ?_, hA5, (CB.drew (CB.drew hC4)).trans hC5⟩
      rw [g_swp (by omega) (by omega), g_swp (by omega) (by omega)]
      have A1 := hS4 p (j - 1) h1
      have A2 := hS4 p q h1 h2 h3
      have A3 := hS4 j q (by omega)
      have A4 := hS4 (j - 1) q (by omega)
      split <;> split <;> (try split) <;> (try split) <;> first | omega | skip
  rintro _ W6 _ ⟨zs, hP6, hS6, hA6, hC6⟩
  have hzl := hP6.len
  have next : ∀ {us : List Int} {W : World}, PI a e xs us → SO us a i → Ar s b W.heap us → CB b w W → ([] : List Nat) = [] ∧ ∃ b112, b112 < 5 - j0 ∧ ∃ (i' j' : Nat) (ys : List Int), b112 = 5 - j' ∧ ((i : Int), IntKind.i64.wrap ((j0 : Int) + (1 : Int))) = ((i' : Int), (j' : Int)) ∧ j' ≤ 5 ∧ (a + 1 ≤ i' ∧ i' ≤ e) ∧ PI a e xs ys ∧ SO ys a i' ∧ Ar s b W.heap ys ∧ CB b w W :=
    fun h1 h2 h3 h4 => ⟨rfl, 5 - (j0 + 1), by omega, i, j0 + 1, _, rfl, by rw [wp1 (by omega)], by omega, by omega, h1, h2, h3, h4⟩
  unfold F91j5
  refine ⟨fun t W => W = W6, ⟨rfl, rfl⟩, ?_⟩
  rintro t _ _ rfl
  refine IfB.intro (fun _ => ?_) (fun _ => next hP6 hS6 hA6 hC6)
  refine ⟨fun n x W => ∃ (j : Nat) (us : List Int), n = e - j ∧ x = (j : Int) ∧ (i + 1 ≤ j ∧ j ≤ e) ∧ PI a e xs us ∧ SO us a i ∧ Ar s b W.heap us ∧ CB b w W, ⟨_, i + 1, zs, rfl, wp1 (by omega), by omega, hP6, hS6, hA6, hC6⟩, ?_⟩
  rintro _ _ W7 _ ⟨j, us, rfl, rfl, hj, hP7, hS7, hA7, hC7⟩
  have hul := hP7.len
  unfold F91j7
  refine IfB.dec (fun hlt => ?_) (fun _ => next hP7 hS7 hA7 hC7)
  rw [wm1 (by omega) (by omega)]
  refine ls (w := W7.drew) hA7 (by omega) (by omega) (by omega) (by omega) (IfB.intro (fun _ => next hP7 hS7 hA7 hC7.drew) (fun _ => ?_))
  refine sw (w := W7.drew.drew) hA7 (by omega) (by omega) (by omega) (by omega) fun W8 hA8 hC8 => ?_
  rw [Int.toNat_natCast, Int.toNat_natCast] at hA8
  refine ⟨rfl, _, by omega, j + 1, _, rfl, wp1 (by omega), by omega, .step hP7 (by omega) (by omega) (by omega) (by omega) (by omega), fun p q h1 h2 h3 => ?_, hA8, (CB.drew (CB.drew hC7)).trans hC8⟩
  rw [g_swo (by omega) (by omega) (by omega) (by omega), g_swo (by omega) (by omega) (by omega) (by omega)]
  exact hS7 p q h1 h2 h3
end Go.Proofs.Ytmmhbjbaallkfaa.Gx
namespace Go.Proofs.Ytmmhbjbaallkfaa.Gx
open Go
set_option linter.unusedSimpArgs false
set_option linter.unusedVariables false
theorem tab_all : ((List.range 256).all fun i => match GxLSby0[i]? with | some y => decide (i < 2 ^ y.toNat) && (decide (i = 0) || decide (2 ^ (y.toNat - 1) ≤ i)) && decide (y.toNat ≤ 8) && (decide (i = 0) || decide (1 ≤ y.toNat)) | none => false) = true := by kernel_rfl
theorem tab_get {i : Nat} (hi : i < 256) : ∃ y, GxLSby0[i]? = some y ∧ i < 2 ^ y.toNat ∧ (0 < i → 2 ^ (y.toNat - 1) ≤ i ∧ 1 ≤ y.toNat) ∧ y.toNat ≤ 8 := by
  have h := List.all_eq_true.1 tab_all i (List.mem_range.2 hi)
  cases hy : GxLSby0[i]? with
  | none => rw [hy] at h; cases h
  | some y =>
    rw [hy] at h
    simp only [Bool.and_eq_true, Bool.or_eq_true, decide_eq_true_eq] at h
    exact ⟨y, rfl, h.1.1.1, fun h0 => ⟨by omega, by omega⟩, h.1.2⟩
theorem wu8 {i : Nat} (h : i < 256) : IntKind.u8.wrap (i : Int) = (i : Int) := by
  unfold IntKind.wrap; simp [IntKind.signed, IntKind.bits]; omega
/-- How many bits: L with x < 2 ^ L, and 2 ^ (L - 1) <= x. -/
def LenIs (x L : Nat) : Prop := x < 2 ^ L ∧ (0 < x → 2 ^ (L - 1) ≤ x ∧ 1 ≤ L) ∧ L ≤ 24
theorem LenIs.shift {x L k : Nat} (h : LenIs (x / 2 ^ k) L) (h0 : 0 < x / 2 ^ k) (hL : L + k ≤ 24) : LenIs x (k + L) := by
  obtain ⟨h1, h2, h3⟩ := h
  obtain ⟨h4, h5⟩ := h2 h0
  have hp : 0 < 2 ^ k := Nat.pow_pos (by decide)
  refine ⟨?_, fun _ => ⟨?_, by omega⟩, by omega⟩
  · rw [Nat.pow_add, Nat.mul_comm]; exact (Nat.div_lt_iff_lt_mul hp).1 h1
  · rw [show k + L - 1 = (L - 1) + k by omega, Nat.pow_add]
    exact (Nat.le_div_iff_mul_le hp).1 h4
theorem fdv {x k : Nat} {n : Int} (hk : min (Int.toNat n) IntKind.u64.bits = k) : (x : Int).fdiv ((2 : Int) ^ min (Int.toNat n) IntKind.u64.bits) = ((x / 2 ^ k : Nat) : Int) := by
  rw [hk, Int.fdiv_eq_ediv_of_nonneg _ (Int.pow_nonneg (by decide))]
  simp
theorem c84 {x : Nat} (hx : x ≤ 1000000) (w : World) : CW Try.prog 84 #[.int .u64 x] w fun v w' => ∃ L : Nat, v = iv L ∧ LenIs x L ∧ w = w' := by
  refine F84_ok _ _ _ (IfB.no (decide_eq_false (by omega)) (IfB.dec (fun h1 => ⟨by decide, ?_⟩) (fun h1 => IfB.dec (fun h2 => ?_) (fun h2 => ?_))))
  · rw [fdv (n := (16 : Int)) (k := 16) rfl]
    refine IfB.no (decide_eq_false (by omega)) ?_
    unfold F84k3
    rw [fdv (n := (16 : Int)) (k := 16) rfl, wu8 (by omega)]
    obtain ⟨y, hy, h3, h4, h5⟩ := tab_get (i := x / 2 ^ 16) (by omega)
    refine ⟨y, by omega, by rw [Int.toNat_natCast]; exact hy, 16 + y.toNat, ?_, LenIs.shift ⟨h3, h4, by omega⟩ (by omega) (by omega), rfl⟩
    rw [wrap_of (n := ((y.toNat : Nat) : Int)) (by omega) (by omega), wrap_of (n := (0 : Int) + 16) (by omega) (by omega), wrap_of (by omega) (by omega)]; rfl
  · unfold F84k4
    rw [fdv (n := (8 : Int)) (k := 8) rfl, wu8 (by omega)]
    obtain ⟨y, hy, h3, h4, h5⟩ := tab_get (i := x / 2 ^ 8) (by omega)
    refine ⟨by decide, y, by omega, by rw [Int.toNat_natCast]; exact hy, 8 + y.toNat, ?_, LenIs.shift ⟨h3, h4, by omega⟩ (by omega) (by omega), rfl⟩
    rw [wrap_of (n := ((y.toNat : Nat) : Int)) (by omega) (by omega), wrap_of (n := (0 : Int) + 8) (by omega) (by omega), wrap_of (by omega) (by omega)]; rfl
  · unfold F84k1
    rw [wu8 (by omega)]
    obtain ⟨y, hy, h3, h4, h5⟩ := tab_get (i := x) (by omega)
    refine ⟨y, by omega, by rw [Int.toNat_natCast]; exact hy, y.toNat, ?_, ⟨h3, h4, by omega⟩, rfl⟩
    rw [wrap_of (n := ((y.toNat : Nat) : Int)) (by omega) (by omega), wrap_of (by omega) (by omega)]; simp
theorem c62 {x : Nat} (hx : x ≤ 1000000) (w : World) : CW Try.prog 62 #[.int .u64 x] w fun v w' => ∃ L : Nat, v = iv L ∧ LenIs x L ∧ w = w' := by
  refine F62_ok _ _ _ ((c84 hx w).use ?_)
  rintro _ _ ⟨L, rfl, hL, rfl⟩
  exact ⟨_, rfl, L, rfl, hL, rfl⟩
theorem wu64 {i : Nat} (h : i < 2 ^ 64) : IntKind.u64.wrap (i : Int) = (i : Int) := by
  unfold IntKind.wrap; simp [IntKind.signed, IntKind.bits]; omega
theorem c104 {x : Nat} (hx : x ≤ 1000000) (w : World) : CW Try.prog 104 #[iv x] w fun v w' => ∃ L : Nat, v = .int .u64 ((2 ^ L : Nat) : Int) ∧ LenIs x L ∧ w = w' := by
  refine F104_ok _ _ _ ?_
  unfold F104
  rw [wu64 (by omega)]
  refine (c62 hx w).use ?_
  rintro _ _ ⟨L, rfl, hL, rfl⟩
  refine ⟨_, rfl, by omega, L, ?_, hL, rfl⟩
  have h24 := hL.2.2
  rw [Int.toNat_natCast, show min L IntKind.u64.bits = L from Nat.min_eq_left (by show L ≤ 64; omega), Int.one_mul]
  have : 2 ^ L < 2 ^ 64 := Nat.pow_lt_pow_right (by decide) (by omega)
  rw [← wu64 this]; simp
theorem c105 {b1 : Nat} {w : World} (h : Ct .u64 b1 w) : CW Try.prog 105 #[.pointer (some ⟨b1, 0, none⟩)] w fun v w' => ∃ n, v = .int .u64 n ∧ Ct .u64 b1 w' ∧ Ch (fun q => q = b1) w w' := by
  obtain ⟨T, n, hn⟩ := h
  refine F105_ok _ w _ ⟨b1, 0, rfl, n, by rw [cell_of (w := w.drew) hn]; rfl, b1, 0, rfl, n, by rw [cell_of (w := w.drew) hn]; rfl, by decide, b1, 0, rfl, rfl, store_one (w := w.drew) hn (by simp) rfl fun w9 h9 => ?_⟩
  have hn9 := h9.new
  refine ⟨b1, 0, rfl, _, by rw [cell_of (w := w9.drew) hn9]; rfl, b1, 0, rfl, _, by rw [cell_of (w := w9.drew) hn9]; rfl, by decide, b1, 0, rfl, rfl, store_one (w := w9.drew) hn9 (by simp) rfl fun w18 h18 => ?_⟩
  have hn18 := h18.new
  refine ⟨b1, 0, rfl, _, by rw [cell_of (w := w18.drew) hn18]; rfl, b1, 0, rfl, _, by rw [cell_of (w := w18.drew) hn18]; rfl, by decide, b1, 0, rfl, rfl, store_one (w := w18.drew) hn18 (by simp) rfl fun w27 h27 => ?_⟩
  have hn27 := h27.new
  exact ⟨b1, 0, rfl, _, by rw [cell_of hn27]; rfl, _, rfl, ⟨T, _, hn27⟩, ((CB.drew (CB.drew (CB.drew (Ch.refl _ w) |>.trans h9.ch) |>.trans h18.ch)).trans h27.ch)⟩
theorem and_le {n : Int} {m : Nat} (hm : m < 2 ^ 64) : ∃ k : Nat, bitsI BinOp.and IntKind.u64 n (m : Int) = (k : Int) ∧ k ≤ m := by
  refine ⟨(BitVec.ofInt 64 n &&& BitVec.ofInt 64 (m : Int)).toNat, ?_, ?_⟩
  · show IntKind.u64.wrap _ = _
    exact wu64 (BitVec.isLt _)
  · rw [BitVec.toNat_and]
    refine Nat.le_trans Nat.and_le_right ?_
    rw [BitVec.ofInt_natCast, BitVec.toNat_ofNat, Nat.mod_eq_of_lt hm]
    exact Nat.le_refl _
end Go.Proofs.Ytmmhbjbaallkfaa.Gx
namespace Go.Proofs.Ytmmhbjbaallkfaa.Gx
open Go
set_option linter.unusedSimpArgs false
set_option linter.unusedVariables false
theorem c88 {s : Sl} {b : Nat} {w : World} {xs : List Int} {a e : Nat} (h : Ar s b w.heap xs) (he : e ≤ xs.length) (ha : a + 12 < e) :
    CW Try.prog 88 #[slV s, iv a, iv e] w fun v w' => v = .tuple #[] ∧ ∃ ys, PI a e xs ys ∧ Ar s b w'.heap ys ∧ CB b w w' := by
  have hl := h.2.2.1
  have hlt := h.lt
  refine F88_ok s a e w _ ?_
  unfold F88
  rw [wsb (by omega) (by omega)]
  refine IfB.yes (decide_eq_true (by omega)) ?_
  intro b1 w2 h2
  have p2 := h2.here; have z2 := h2.size
  rw [wu64 (by omega)]
  refine ⟨rfl, store_all h2.new rfl (by intro u hu; simp at hu; subst hu; rfl) fun w3 h3 => ?_⟩
  have e3 : Ext w w3 := Ext.fresh h2 h3
  have hne : b1 ≠ b := by omega
  refine (c104 (x := e - a) (by omega) w3).use ?_
  rintro _ _ ⟨L, rfl, hL, rfl⟩
  have hq : IntKind.i64.wrap ((((e - a : Nat) : Int)).tdiv (4 : Int)) = (((e - a) / 4 : Nat) : Int) := by
    rw [Int.tdiv_eq_ediv_of_nonneg (by omega), wrap_of (by omega) (by omega)]; omega
  obtain ⟨hL1, hL2, hL3⟩ := hL
  obtain ⟨hL4, hL5⟩ := hL2 (by omega)
  have h2L : 2 ^ L ≤ 2 * (e - a) := by
    have : 2 ^ L = 2 ^ (L - 1) * 2 := by rw [← Nat.pow_succ]; congr 1; omega
    omega
  have hLpos : 0 < 2 ^ L := Nat.pow_pos (by decide)
  generalize 2 ^ L = M at *
  rw [hq, wmul (k := (2 : Int)) (m := 2) rfl (by omega) (by omega), wad (by omega), wm1 (by omega) (by omega)]
  generalize hqq : (e - a) / 4 = q at *
  refine ⟨_, rfl, by decide, fun n x W => ∃ (i : Nat) (ys : List Int), n = a + q * 2 + 2 - i ∧ x = (i : Int) ∧ (a + q * 2 - 1 ≤ i ∧ i ≤ a + q * 2 + 2) ∧ PI a e xs ys ∧ Ar s b W.heap ys ∧ Ct .u64 b1 W ∧ CB b w W, ⟨_, _, xs, rfl, rfl, by omega, .refl, h.ch e3 id, ⟨_, _, h3.new⟩, e3.mono fun _ _ h => h.elim⟩, ?_⟩
  rintro _ _ W _ ⟨i, ys, rfl, rfl, hi, hP, hA, hK, hC⟩
  have hyl := hP.len
  unfold F88j1
  rw [wsb (by omega) (by omega), hq, wmul (k := (2 : Int)) (m := 2) rfl (by omega) (by omega), wad (by omega), wp1 (by omega)]
  refine ⟨by decide, IfB.dec (fun hle => ?_) (fun hgt => ⟨rfl, ys, hP, hA, hC⟩)⟩
  refine (c105 hK).use ?_
  rintro _ w15 ⟨n16, rfl, hK2, hC2⟩
  have hA2 := hA.ch hC2 (Ne.symm hne)
  have hC3 : CB b w w15 := hC.then hC2 fun j hj h => by omega
  have hm : IntKind.u64.wrap ((M : Int) - (1 : Int)) = ((M - 1 : Nat) : Int) := by
    rw [show ((M : Int) - (1 : Int)) = ((M - 1 : Nat) : Int) by omega, wu64 (by omega)]
  obtain ⟨k, hk, hkM⟩ := and_le (n := n16) (m := M - 1) (by omega)
  refine ⟨n16, rfl, fun x W => ∃ t : Nat, x = (t : Int) ∧ t < e - a ∧ w15 = W, ?_, ?_⟩
  · rw [hm, hk, wrap_of (n := (k : Int)) (by omega) (by omega)]
    refine IfB.dec (fun h1 => ⟨rfl, k - (e - a), wsb (by omega) (by omega), by omega, rfl⟩) (fun h1 => ⟨rfl, k, rfl, by omega, rfl⟩)
  rintro _ _ _ ⟨t, rfl, ht, rfl⟩
  unfold F88j2
  rw [wad (by omega)]
  refine sw (w := w15.drew) hA2 (by omega) (by omega) (by omega) (by omega) fun W5 hA5 hC5 => ?_
  rw [Int.toNat_natCast, Int.toNat_natCast] at hA5
  exact ⟨rfl, _, by omega, i + 1, _, rfl, wp1 (by omega), by omega, .step hP (by omega) (by omega) (by omega) (by omega) (by omega), hA5, by
    obtain ⟨T, n, hn⟩ := hK2
    exact ⟨T, n, hC5.at (w := w15.drew) hn hne⟩, hC3.drew.trans hC5⟩
theorem SO.split {ys : List Int} {a m e : Nat} (h1 : SO ys a m) (h2 : SO ys (m + 1) e) (hl : ∀ k, a ≤ k → k < m → g ys k ≤ g ys m) (hr : ∀ k, m < k → k < e → g ys m ≤ g ys k) : SO ys a e := by
  intro p q hp hpq hq
  rcases Nat.lt_trichotomy p m with h | h | h
  · rcases Nat.lt_trichotomy q m with k | k | k
    · exact h1 p q hp hpq k
    · subst k; exact hl p hp h
    · have := hl p hp h; have := hr q k hq; omega
  · subst h; exact hr q hpq hq
  · exact h2 p q (by omega) hpq hq
theorem PI.trans' {a b a' b' : Nat} {xs ys zs : List Int} (h : PI a b xs ys) (k : PI a' b' ys zs) (h1 : a ≤ a') (h2 : b' ≤ b) (h3 : b ≤ xs.length) : PI a b xs zs :=
  h.trans (k.mono h1 h2 (by rw [h.len]; exact h3))
/-- Nothing of [a, e) is less than what stands ahead of a. -/
def LB (xs : List Int) (a e : Nat) : Prop := 0 < a → ∀ k, a ≤ k → k < e → g xs (a - 1) ≤ g xs k
theorem LB.pi {xs ys : List Int} {a e : Nat} (h : LB xs a e) (hP : PI a e xs ys) : LB ys a e := fun h0 k h1 h2 => by
  rw [hP.out (.inl (by omega))]
  exact hP.all (Q := fun v => g xs (a - 1) ≤ v) (fun i h3 h4 => h h0 i h3 h4) k h1 h2
/-- Parted at m. -/
def Pd (ys : List Int) (a m e : Nat) : Prop := (∀ k, a ≤ k → k < m → g ys k ≤ g ys m) ∧ (∀ k, m < k → k < e → g ys m ≤ g ys k)
theorem Pd.left {ys zs : List Int} {a m e : Nat} (h : Pd ys a m e) (hP : PI a m ys zs) : Pd zs a m e := by
  have em : g zs m = g ys m := hP.out (.inr (Nat.le_refl _))
  refine ⟨fun k h1 h2 => ?_, fun k h1 h2 => ?_⟩
  · rw [em]; exact hP.all (Q := fun v => v ≤ g ys m) (fun i h3 h4 => h.1 i h3 h4) k h1 h2
  · rw [em, hP.out (.inr (by omega))]; exact h.2 k h1 h2
theorem Pd.right {ys zs : List Int} {a m e : Nat} (h : Pd ys a m e) (hP : PI (m + 1) e ys zs) : Pd zs a m e := by
  have em : g zs m = g ys m := hP.out (.inl (by omega))
  refine ⟨fun k h1 h2 => ?_, fun k h1 h2 => ?_⟩
  · rw [em, hP.out (.inl (by omega))]; exact h.1 k h1 h2
  · rw [em]; exact hP.all (Q := fun v => g ys m ≤ v) (fun i h3 h4 => h.2 i (by omega) h4) k (by omega) h2
theorem SO.keep {ys zs : List Int} {a e a' e' : Nat} (h : SO ys a e) (hP : PI a' e' ys zs) (hd : e ≤ a' ∨ e' ≤ a) : SO zs a e := by
  intro p q h1 h2 h3
  rw [hP.out (by omega), hP.out (by omega)]
  exact h p q h1 h2 h3
theorem c68 (n : Nat) : ∀ {s : Sl} {b : Nat} {w : World} {xs : List Int} {a e : Nat} (lim : Int), e - a = n → Ar s b w.heap xs → e ≤ xs.length → a ≤ e → LB xs a e →
    CW Try.prog 68 #[slV s, iv a, iv e, iv lim] w fun v w' => v = .tuple #[] ∧ ∃ ys, PI a e xs ys ∧ SO ys a e ∧ Ar s b w'.heap ys ∧ CB b w w' := by
  induction n using Nat.strongRecOn with
  | _ n ih =>
  intro s b w xs a e lim hn h he hae hLB
  have hl := h.2.2.1
  refine F68_ok s a e lim w _ ⟨fun k x W => ∃ (a' e' : Nat) (lm : Int) (wb wp : Bool) (ys : List Int), k = e' - a' ∧ x = ((a' : Int), (e' : Int), lm, wb, wp) ∧ (a ≤ a' ∧ a' ≤ e' ∧ e' ≤ e) ∧ PI a e xs ys ∧ LB ys a' e' ∧
    (∀ zs, PI a' e' ys zs → SO zs a' e' → SO zs a e) ∧ Ar s b W.heap ys ∧ CB b w W, ⟨_, a, e, lim, true, true, xs, rfl, rfl, by omega, .refl, hLB, fun _ _ h => h, h, Ch.refl _ _⟩, ?_⟩
  rintro _ _ W _ ⟨a', e', lm, wb, wp, ys, rfl, rfl, hae', hP, hB, hG, hA, hC⟩
  have hyl := hP.len
  have up : ∀ {zs}, PI a' e' ys zs → PI a e xs zs := fun k => hP.trans' k (by omega) (by omega) he
  unfold F68j1
  dsimp only
  rw [wsb (by omega) (by omega)]
  refine IfB.dec (fun h12 => ?_) (fun h12 => ?_)
  · refine (c86 hA (by omega) (by omega)).use ?_
    rintro _ W2 ⟨rfl, zs, hP2, hS2, hA2, hC2⟩
    exact ⟨(), rfl, rfl, zs, up hP2, hG zs hP2 hS2, hA2, hC.trans hC2⟩
  have hbig : a' + 12 < e' := by omega
  refine IfB.intro (fun _ => ?_) (fun _ => ?_)
  · refine (c87 hA (by omega) (by omega)).use ?_
    rintro _ W2 ⟨rfl, zs, hP2, hS2, hA2, hC2⟩
    exact ⟨(), rfl, rfl, zs, up hP2, hG zs hP2 hS2, hA2, hC.trans hC2⟩
  refine ⟨fun _ W => ∃ zs, PI a' e' ys zs ∧ Ar s b W.heap zs ∧ CB b w W, ?_, ?_⟩
  · refine IfB.intro (fun _ => ?_) (fun _ => ⟨rfl, ys, .refl, hA, hC⟩)
    refine (c88 hA (by omega) hbig).use ?_
    rintro _ W2 ⟨rfl, zs, hP2, hA2, hC2⟩
    exact ⟨(), rfl, rfl, zs, hP2, hA2, hC.trans hC2⟩
  rintro lm2 W2 _ ⟨zs, hP2, hA2, hC2⟩
  have hzl := hP2.len
  unfold F68j2
  dsimp only
  refine (c89 hA2 (by omega) hbig).use ?_
  rintro _ W3 ⟨p, t, rfl, hp, hA3, e3⟩
  have hC3 : CB b w W3 := hC2.then e3 fun _ _ h => h.elim
  refine ⟨((p : Int), t), rfl, fun x W => ∃ (p : Nat) (us : List Int), x.1 = (p : Int) ∧ (a' ≤ p ∧ p < e') ∧ PI a' e' ys us ∧ Ar s b W.heap us ∧ CB b w W, ?_, ?_⟩
  · refine IfB.intro (fun _ => ?_) (fun _ => ⟨rfl, p, zs, rfl, hp, hP2, hA3, hC3⟩)
    refine (c90 hA3 (by omega) (by omega)).use ?_
    rintro _ W4 ⟨rfl, us, hP4, hA4, hC4⟩
    refine ⟨(), rfl, rfl, e' - 1 - (p - a'), us, ?_, by omega, hP2.trans hP4, hA4, hC3.trans hC4⟩
    show IntKind.i64.wrap (IntKind.i64.wrap ((e' : Int) - 1) - IntKind.i64.wrap ((p : Int) - (a' : Int))) = _
    rw [wm1 (by omega) (by omega), wsb (by omega) (by omega), wsb (by omega) (by omega)]
  rintro ⟨_, t2⟩ W5 _ ⟨p, us, rfl, hp, hP5, hA5, hC5⟩
  have hul := hP5.len
  unfold F68j3
  dsimp only
  refine ⟨fun _ W => ∃ us, PI a' e' ys us ∧ Ar s b W.heap us ∧ CB b w W, ?_, ?_⟩
  · refine IfB.intro (fun _ => IfB.intro (fun _ => IfB.intro (fun _ => ?_) (fun _ => ⟨rfl, us, hP5, hA5, hC5⟩)) (fun _ => ⟨rfl, us, hP5, hA5, hC5⟩)) (fun _ => ⟨rfl, us, hP5, hA5, hC5⟩)
    refine (c91 hA5 (by omega) (by omega) (hB.pi hP5)).use ?_
    rintro _ W6 ⟨t, rfl, vs, hP6, hS6, hA6, hC6⟩
    exact ⟨t, rfl, IfB.intro (fun ht => ⟨rfl, vs, up (hP5.trans hP6), hG vs (hP5.trans hP6) (hS6 ht), hA6, hC5.trans hC6⟩) (fun _ => ⟨rfl, vs, hP5.trans hP6, hA6, hC5.trans hC6⟩)⟩
  rintro _ W7 _ ⟨us, hP7, hA7, hC7⟩
  have hul := hP7.len
  have hB7 := hB.pi hP7
  have hG7 : ∀ zs, PI a' e' us zs → SO zs a' e' → SO zs a e := fun zs k => hG zs (hP7.trans k)
  have part : ∀ {W8 : World}, W8.heap = W7.heap → CB b w W8 → CX Try.prog 94 #[slV s, iv a', iv e', iv p] W8 fun v65 w66 => ∃ x67 : Int × Bool, v65 = .tuple #[.int .i64 x67.1, .bool x67.2] ∧ ¬(8 : Int) = 0 ∧
      IfB (decide (IntKind.i64.wrap (x67.fst - (a' : Int)) < IntKind.i64.wrap ((e' : Int) - x67.fst))) (F68k2 s ((a' : Int), (e' : Int), lm, wb, wp) x67 lm2 w66 (e' - a') (fun k x W => ∃ (a' e' : Nat) (lm : Int) (wb wp : Bool) (ys : List Int), k = e' - a' ∧ x = ((a' : Int), (e' : Int), lm, wb, wp) ∧ (a ≤ a' ∧ a' ≤ e' ∧ e' ≤ e) ∧ PI a e xs ys ∧ LB ys a' e' ∧
    (∀ zs, PI a' e' ys zs → SO zs a' e' → SO zs a e) ∧ Ar s b W.heap ys ∧ CB b w W))
       (F68k1 s x67 ((a' : Int), (e' : Int), lm, wb, wp) lm2 w66 (e' - a') (fun k x W => ∃ (a' e' : Nat) (lm : Int) (wb wp : Bool) (ys : List Int), k = e' - a' ∧ x = ((a' : Int), (e' : Int), lm, wb, wp) ∧ (a ≤ a' ∧ a' ≤ e' ∧ e' ≤ e) ∧ PI a e xs ys ∧ LB ys a' e' ∧
    (∀ zs, PI a' e' ys zs → SO zs a' e' → SO zs a e) ∧ Ar s b W.heap ys ∧ CB b w W)) := by
    intro W8 hW8 hC8
    have hA8 : Ar s b W8.heap us := by rw [hW8]; exact hA7
    refine (c94 hA8 (by omega) hp).use ?_
    rintro _ W9 ⟨m, t, rfl, hm, vs, hP9, h1, h2, hA9, hC9⟩
    have hvl := hP9.len
    have hPd : Pd vs a' m e' := ⟨fun k h3 h4 => Int.le_of_lt (h1 k h3 h4), h2⟩
    have hB9 := hB7.pi hP9
    have hC9 := hC8.trans hC9
    refine ⟨((m : Int), t), rfl, by decide, IfB.intro (fun _ => ?_) (fun _ => ?_)⟩
    · unfold F68k2
      refine (ih (m - a') (by omega) lm2 rfl hA9 (by omega) (by omega) fun h0 k h3 h4 => hB9 h0 k h3 (by omega)).use ?_
      rintro _ W10 ⟨rfl, ts, hP10, hS10, hA10, hC10⟩
      have hPd2 := hPd.left hP10
      refine ⟨(), rfl, rfl, e' - (m + 1), by omega, m + 1, e', _, _, _, ts, rfl, by rw [wp1 (by omega)], by omega, hP.trans' (hP7.trans (hP9.trans' hP10 (by omega) (by omega) (by omega))) (by omega) (by omega) he, fun _ k h3 h4 => hPd2.2 k (by omega) h4, fun zs hz hSz => ?_, hA10, hC9.trans hC10⟩
      have hPz : PI a' e' us zs := (hP9.trans' hP10 (by omega) (by omega) (by omega)).trans' hz (by omega) (by omega) (by omega)
      have hPd3 := hPd2.right hz
      exact hG7 zs hPz ((hS10.keep hz (.inl (by omega))).split hSz hPd3.1 hPd3.2)
    · unfold F68k1
      dsimp only
      rw [wp1 (by omega)]
      refine (ih (e' - (m + 1)) (by omega) lm2 rfl hA9 (by omega) (by omega) fun h0 k h3 h4 => hPd.2 k (by omega) h4).use ?_
      rintro _ W10 ⟨rfl, ts, hP10, hS10, hA10, hC10⟩
      have hPd2 := hPd.right hP10
      have hB10 : LB ts a' m := fun h0 k h3 h4 => by
        rw [hP10.out (.inl (by omega)), hP10.out (.inl (by omega))]
        exact hB9 h0 k h3 (by omega)
      refine ⟨(), rfl, rfl, m - a', by omega, a', m, _, _, _, ts, rfl, rfl, by omega, hP.trans' (hP7.trans (hP9.trans' hP10 (by omega) (by omega) (by omega))) (by omega) (by omega) he, hB10, fun zs hz hSz => ?_, hA10, hC9.trans hC10⟩
      have hPz : PI a' e' us zs := (hP9.trans' hP10 (by omega) (by omega) (by omega)).trans' hz (by omega) (by omega) (by omega)
      have hPd3 := hPd2.left hz
      exact hG7 zs hPz (hSz.split (hS10.keep hz (.inr (by omega))) hPd3.1 hPd3.2)
  unfold F68j4
  dsimp only
  refine IfB.dec (fun h0 => ?_) (fun h0 => part rfl hC7.drew)
  have h0 : 0 < a' := by omega
  rw [wm1 (by omega) (by omega)]
  refine ls (w := W7.drew) hA7 (by omega) (by omega) (by omega) (by omega) (IfB.intro (fun hl1 => ?_) (fun _ => part rfl hC7.drew))
  simp only [Int.toNat_natCast, Bool.not_eq_true', decide_eq_false_iff_not] at hl1
  refine (c93 (w := W7.drew) hA7 (by omega) hp).use ?_
  rintro _ W8 ⟨m, rfl, hm, vs, hP8, hv, h1, h2, hA8, hC8⟩
  have hvl := hP8.len
  have hB8 := hB7.pi hP8
  have ho : g vs (a' - 1) = g us (a' - 1) := hP8.out (.inl (by omega))
  have hv1 : ∀ k, a' ≤ k → k < m → g vs k = g us p := fun k h3 h4 => by
    have := h1 k h3 h4
    have := hB8 h0 k h3 (by omega)
    omega
  refine ⟨_, rfl, rfl, e' - m, by omega, m, e', lm2, wb, wp, vs, rfl, rfl, by omega, up (hP7.trans hP8), fun _ k h3 h4 => ?_, fun zs hz hSz => ?_, hA8, hC7.drew.trans hC8⟩
  · rw [hv1 (m - 1) (by omega) (by omega)]
    have := h2 k h3 h4
    omega
  · have hlow : ∀ k, a' ≤ k → k < m → g zs k = g us p := fun k h3 h4 => by rw [hz.out (.inl h4)]; exact hv1 k h3 h4
    have hhigh : ∀ k, m ≤ k → k < e' → g us p < g zs k := hz.all (Q := fun v => g us p < v) h2
    refine hG7 zs (hP8.trans' hz (by omega) (by omega) (by omega)) fun i j h3 h4 h5 => ?_
    by_cases hj : j < m
    · rw [hlow i h3 (by omega), hlow j (by omega) hj]; exact Int.le_refl _
    · by_cases hi : i < m
      · rw [hlow i h3 hi]
        have := hhigh j (by omega) h5
        omega
      · exact hSz i j (by omega) h4 h5
/-- slices.Sort -/
theorem SO.sorted {ys : List Int} (h : SO ys 0 ys.length) : ys.Pairwise (· ≤ ·) := by
  rw [List.pairwise_iff_getElem]
  intro i j hi hj hij
  have := h i j (Nat.zero_le _) hij hj
  have e1 := g_eq hi; have e2 := g_eq hj
  rw [List.getElem?_eq_getElem hi] at e1
  rw [List.getElem?_eq_getElem hj] at e2
  rw [Option.some.injEq] at e1 e2
  rw [e1, e2]; exact this
theorem c125e (s : Sl) (w : World) : CW Try.prog 86 #[slV s, iv 0, iv 0] w fun v w' => v = .tuple #[] ∧ w = w' := by
  refine F86_ok s (0 : Int) (0 : Int) w _ ⟨fun k x W' => x = (1 : Int) ∧ w = W', ⟨0, by decide, rfl⟩, ?_⟩
  rintro k _ _ _ ⟨rfl, rfl⟩
  exact IfB.no (by decide) ⟨rfl, rfl⟩
theorem c120e (s : Sl) (L : Int) (w : World) : CW Try.prog 68 #[slV s, iv 0, iv 0, iv L] w fun v w' => v = .tuple #[] ∧ w = w' := by
  refine F68_ok s (0 : Int) (0 : Int) L w _ ⟨fun k x W => x = ((0 : Int), (0 : Int), L, true, true) ∧ w = W, ⟨0, rfl, rfl⟩, ?_⟩
  rintro k _ _ _ ⟨rfl, rfl⟩
  unfold F68j1
  refine IfB.yes (show decide (IntKind.i64.wrap ((0 : Int) - (0 : Int)) ≤ (12 : Int)) = true by decide) ((c125e s w).use ?_)
  rintro _ _ ⟨rfl, rfl⟩
  exact ⟨(), rfl, rfl, rfl⟩
theorem c49 {w : World} {s : Sl} {xs : List Int} (h : OwS w s 1 (xs.map iv)) (hl : xs.length ≤ 1000000) :
    CW Try.prog 49 #[slV s] w fun v w' => v = .tuple #[] ∧ ∃ ys : List Int, ys.Perm xs ∧ ys.Pairwise (· ≤ ·) ∧ OwS w' s 1 (ys.map iv) ∧ Ch (fun i => i ∈ blk s) w w' := by
  have hn := h.len1
  rw [List.length_map] at hn
  refine F49_ok s w _ ?_
  unfold F49
  rw [show (s.2 : Int) = ((xs.length : Nat) : Int) by show (s.n : Int) = _; rw [hn], wu64 (by omega)]
  refine (c62 hl w).use ?_
  rintro _ _ ⟨L, rfl, hL, rfl⟩
  refine ⟨_, rfl, ?_⟩
  by_cases h0 : xs.length = 0
  · have : xs = [] := List.length_eq_zero_iff.1 h0
    subst this
    refine (c120e s L w).use ?_
    rintro _ _ ⟨rfl, rfl⟩
    exact ⟨(), rfl, rfl, [], .refl _, .nil, h, Ch.refl _ _⟩
  · obtain ⟨b, hA, hb⟩ := Ar.of h (by omega) hl
    refine (c68 _ (L : Int) rfl hA (Nat.le_refl _) (Nat.zero_le _) (fun h0 => absurd h0 (by decide))).use ?_
    rintro _ W2 ⟨rfl, ys, hP, hS, hA2, hC2⟩
    have hyl := hP.len
    exact ⟨(), rfl, rfl, ys, hP.perm, SO.sorted (by rw [hyl]; exact hS), hA2.own, hC2.mono fun i _ hi => by rw [hb]; simpa using hi⟩
end Go.Proofs.Ytmmhbjbaallkfaa.Gx

/- Relations: what comes of what by a way; without a circle somebody waits for those alone that don't. Lists without neighbours that are the same. -/
namespace Go.Proofs.Ytmmhbjbaallkfaa.Gx
open Go
set_option linter.unusedSimpArgs false
set_option linter.unusedVariables false
section
variable {α : Type} {E E' : α → α → Prop}
end
def cmp1 : Int → List Int → List Int
  | _, [] => []
  | p, y :: l => if y = p then cmp1 y l else y :: cmp1 y l
def compactL : List Int → List Int
  | [] => []
  | x :: l => x :: cmp1 x l
theorem cmp1_mem : ∀ {l : List Int} {p x : Int}, x ∈ p :: cmp1 p l ↔ x ∈ p :: l
  | [], p, x => Iff.rfl
  | y :: l, p, x => by
    unfold cmp1
    have ih := cmp1_mem (l := l) (p := y) (x := x)
    simp only [List.mem_cons] at ih
    by_cases h : y = p
    · rw [if_pos h]
      subst h
      simp only [List.mem_cons, ih]
      constructor
      · rintro (h | h) <;> simp [h]
      · rintro (h | h | h) <;> simp [h]
    · rw [if_neg h]
      simp only [List.mem_cons, ih]
theorem compactL_mem {l : List Int} {x : Int} : x ∈ compactL l ↔ x ∈ l := by
  cases l with
  | nil => rfl
  | cons y l => exact cmp1_mem
theorem cmp1_sorted : ∀ {l : List Int} {p : Int}, (p :: l).Pairwise (· ≤ ·) → (p :: cmp1 p l).Pairwise (· < ·)
  | [], p, _ => by simp [cmp1]
  | y :: l, p, h => by
    obtain ⟨h1, h2⟩ := List.pairwise_cons.1 h
    unfold cmp1
    have ih := cmp1_sorted h2
    by_cases he : y = p
    · rw [if_pos he]; subst he; exact ih
    · rw [if_neg he]
      refine List.pairwise_cons.2 ⟨fun z hz => ?_, ih⟩
      have hpy := h1 y (by simp)
      have hyz := cmp1_mem.1 hz
      rcases List.mem_cons.1 hyz with rfl | hz'
      · omega
      · have := (List.pairwise_cons.1 h2).1 z hz'; omega
theorem compactL_sorted {l : List Int} (h : l.Pairwise (· ≤ ·)) : (compactL l).Pairwise (· < ·) := by
  cases l with
  | nil => exact .nil
  | cons x l => exact cmp1_sorted h
theorem cmp1_len : ∀ (l : List Int) (p : Int), (cmp1 p l).length ≤ l.length
  | [], _ => Nat.le_refl _
  | y :: l, p => by
    unfold cmp1
    have := cmp1_len l y
    split
    · rw [List.length_cons]; omega
    · rw [List.length_cons, List.length_cons]; omega
theorem compactL_len (l : List Int) : (compactL l).length ≤ l.length := by
  cases l with
  | nil => exact Nat.le_refl _
  | cons x l => have := cmp1_len l x; simp only [compactL, List.length_cons]; omega
/-- One more at the end. -/
theorem cmp1_append : ∀ (l : List Int) (p y : Int), cmp1 p (l ++ [y]) = cmp1 p l ++ if (p :: l).getLast? = some y then [] else [y]
  | [], p, y => by
    simp only [List.nil_append, cmp1, List.getLast?_singleton, Option.some.injEq]
    by_cases h : y = p
    · rw [if_pos h, if_pos h.symm]
    · rw [if_neg h, if_neg fun e => h e.symm]
  | x :: l, p, y => by
    rw [List.cons_append]
    unfold cmp1
    rw [cmp1_append l x y, List.getLast?_cons_cons]
    split <;> rfl
theorem compactL_append {l : List Int} {y : Int} : compactL (l ++ [y]) = compactL l ++ if l.getLast? = some y then [] else [y] := by
  cases l with
  | nil => rfl
  | cons x l =>
    show x :: cmp1 x (l ++ [y]) = (x :: cmp1 x l) ++ _
    rw [cmp1_append]; rfl
end Go.Proofs.Ytmmhbjbaallkfaa.Gx

/- Package slices, of any elements: DeleteFunc; of ints: Compact. -/
namespace Go.Proofs.Ytmmhbjbaallkfaa.Gx
open Go
set_option linter.unusedSimpArgs false
set_option linter.unusedVariables false
section
variable {δ : Type} {sv : δ → List Value} {sz : Nat}
theorem flatLen (h : ∀ x, (sv x).length = sz) : ∀ l : List δ, (l.flatMap sv).length = l.length * sz
  | [] => by simp
  | x :: l => by rw [List.flatMap_cons, List.length_append, flatLen h l, h, List.length_cons, Nat.add_mul]; omega
theorem flatTake (h : ∀ x, (sv x).length = sz) : ∀ (l : List δ) (i : Nat), (l.flatMap sv).take (i * sz) = (l.take i).flatMap sv
  | [], i => by simp
  | x :: l, 0 => by simp
  | x :: l, i + 1 => by
    rw [List.flatMap_cons, List.take_succ_cons, List.flatMap_cons, ← flatTake h l i, Nat.add_mul, Nat.one_mul, Nat.add_comm, ← h x, List.take_length_add_append]
theorem flatDrop (h : ∀ x, (sv x).length = sz) : ∀ (l : List δ) (i : Nat), (l.flatMap sv).drop (i * sz) = (l.drop i).flatMap sv
  | [], i => by simp
  | x :: l, 0 => by simp
  | x :: l, i + 1 => by
    rw [List.flatMap_cons, List.drop_succ_cons, ← flatDrop h l i, Nat.add_mul, Nat.one_mul, Nat.add_comm, ← h x, List.drop_length_add_append]
theorem flatSet (h : ∀ x, (sv x).length = sz) {l : List δ} {i : Nat} {x : δ} (hi : i < l.length) : (l.flatMap sv).take (i * sz) ++ sv x ++ (l.flatMap sv).drop (i * sz + sz) = (l.set i x).flatMap sv := by
  rw [List.set_eq_take_append_cons_drop, if_pos hi, List.flatMap_append, List.flatMap_cons, flatTake h, show i * sz + sz = (i + 1) * sz by rw [Nat.add_mul, Nat.one_mul], flatDrop h]
  simp
theorem flatGet (h : ∀ x, (sv x).length = sz) {l : List δ} {i : Nat} {x : δ} (hx : l[i]? = some x) : ((l.flatMap sv).drop (i * sz)).take sz = sv x := by
  obtain ⟨hi, rfl⟩ := List.getElem?_eq_some_iff.1 hx
  rw [flatDrop h, List.drop_eq_getElem_cons hi, List.flatMap_cons, ← h l[i], List.take_append_of_le_length (Nat.le_refl _), List.take_length]
theorem flatOne (h : ∀ x, One (sv x)) (l : List δ) : One (l.flatMap sv) := by
  intro v hv
  obtain ⟨x, _, hx⟩ := List.mem_flatMap.1 hv
  exact h x v hx
theorem owsN {w : World} {t : Sl} {l : List δ} (h : ∀ x, (sv x).length = sz) (hz : 0 < sz) (ho : OwS w t sz (l.flatMap sv)) : t.n = l.length := by
  have := ho.len
  rw [flatLen h] at this
  exact (Nat.eq_of_mul_eq_mul_right hz this).symm
theorem rdN {w : World} {t : Sl} {l : List δ} (h : ∀ x, (sv x).length = sz) (hz : 0 < sz) (ho : Rd w t sz (l.flatMap sv)) : t.n = l.length := by
  have := ho.1
  rw [flatLen h] at this
  exact (Nat.eq_of_mul_eq_mul_right hz this).symm
end
theorem takeFilter {α : Type} {p : α → Bool} {l : List α} {i : Nat} {x : α} (h : l[i]? = some x) : (l.take (i + 1)).filter p = (l.take i).filter p ++ if p x then [x] else [] := by
  rw [take_succ_get h, List.filter_append]
  cases hp : p x <;> simp [hp]
end Go.Proofs.Ytmmhbjbaallkfaa.Gx

/- slices.SortFunc of spans: by a key of each, which what compares tells. Written by mksrf.py, mksrf2.py out of XSrt. -/
namespace Go.Proofs.Ytmmhbjbaallkfaa.Gx.SfS
open Go Go.Proofs.Ytmmhbjbaallkfaa.Gx
set_option linter.unusedSimpArgs false
set_option linter.unusedVariables false
abbrev El := Int × Int
abbrev sv (x : El) : List Value := [.int .i64 x.1, .int .i64 x.2]
theorem sv_len (x : El) : (sv x).length = 2 := rfl
theorem sv_one (x : El) : One (sv x) := by intro v hv; simp at hv; rcases hv with rfl | rfl <;> rfl
/-- What is compared. -/
def key (x : El) : Int := x.1
def ge (xs : List El) (i : Nat) : El := xs.getD i (0, 0)
def g (xs : List El) (i : Nat) : Int := key (ge xs i)
def swp (xs : List El) (p q : Nat) : List El := (xs.set p (ge xs q)).set q (ge xs p)
theorem swp_len (xs : List El) (p q : Nat) : (swp xs p q).length = xs.length := by simp [swp]
theorem ge_eq {xs : List El} {i : Nat} (h : i < xs.length) : xs[i]? = some (ge xs i) := by
  unfold ge; rw [List.getElem?_eq_getElem h, List.getElem_eq_getD (fallback := (0, 0))]
theorem ge_swp {xs : List El} {p q : Nat} (hp : p < xs.length) (hcp : q < xs.length) (i : Nat) : ge (swp xs p q) i = if i = q then ge xs p else if i = p then ge xs q else ge xs i := by
  show ((xs.set p (ge xs q)).set q (ge xs p)).getD i (0, 0) = _
  rw [List.getD_eq_getElem?_getD, List.getElem?_set, List.getElem?_set]
  by_cases h1 : q = i
  · subst h1; simp [hcp]
  · by_cases h2 : p = i
    · subst h2; simp [h1, hp, Ne.symm h1]
    · simp only [if_neg h1, if_neg h2, if_neg (Ne.symm h1), if_neg (Ne.symm h2)]
      unfold ge; rw [List.getD_eq_getElem?_getD]
theorem g_swp {xs : List El} {p q : Nat} (hp : p < xs.length) (hcp : q < xs.length) (i : Nat) : g (swp xs p q) i = if i = q then g xs p else if i = p then g xs q else g xs i := by
  unfold g; rw [ge_swp hp hcp]
  split
  · rfl
  · split <;> rfl
theorem g_swq {xs : List El} {p q : Nat} (hp : p < xs.length) (hcp : q < xs.length) : g (swp xs p q) q = g xs p := by rw [g_swp hp hcp, if_pos rfl]
theorem g_swl {xs : List El} {p q : Nat} (hp : p < xs.length) (hcp : q < xs.length) : g (swp xs p q) p = g xs q := by
  rw [g_swp hp hcp]
  split
  · rename_i h; rw [h]
  · rw [if_pos rfl]
theorem g_swo {xs : List El} {p q i : Nat} (hp : p < xs.length) (hcp : q < xs.length) (h1 : i ≠ p) (h2 : i ≠ q) : g (swp xs p q) i = g xs i := by rw [g_swp hp hcp, if_neg h2, if_neg h1]
theorem swp_perm {xs : List El} {p q : Nat} (hp : p < xs.length) (hcp : q < xs.length) : (swp xs p q).Perm xs := by
  have h := (Array.swap_perm (xs := xs.toArray) (i := p) (j := q) (by simpa using hp) (by simpa using hcp)).toList
  have e : (xs.toArray.swap p q (by simpa using hp) (by simpa using hcp)).toList = swp xs p q := by
    apply List.ext_getElem?
    intro i
    simp only [Array.swap, swp, Array.toList_set, List.getElem_toArray, ge, List.getD_eq_getElem?_getD, List.getElem?_eq_getElem hp, List.getElem?_eq_getElem hcp, Option.getD_some]
  rw [e] at h
  exact h
/-- Turned inside [a, b) alone, by swaps. -/
inductive PI (a b : Nat) (xs : List El) : List El → Prop
  | refl : PI a b xs xs
  | step {ys : List El} {p q : Nat} : PI a b xs ys → a ≤ p → p < b → a ≤ q → q < b → b ≤ ys.length → PI a b xs (swp ys p q)
theorem PI.len {a b : Nat} {xs ys : List El} (h : PI a b xs ys) : ys.length = xs.length := by
  induction h with
  | refl => rfl
  | step _ _ _ _ _ _ ih => rw [swp_len, ih]
theorem PI.perm {a b : Nat} {xs ys : List El} (h : PI a b xs ys) : ys.Perm xs := by
  induction h with
  | refl => exact .refl _
  | step _ _ h2 _ h4 h5 ih => exact (swp_perm (by omega) (by omega)).trans ih
theorem PI.out {a b : Nat} {xs ys : List El} (h : PI a b xs ys) {i : Nat} (hi : i < a ∨ b ≤ i) : g ys i = g xs i := by
  induction h with
  | refl => rfl
  | step _ h1 h2 h3 h4 h5 ih => rw [g_swp (by omega) (by omega), if_neg (by omega), if_neg (by omega), ih]
theorem PI.all {a b : Nat} {xs ys : List El} (h : PI a b xs ys) {Q : Int → Prop} (hq : ∀ i, a ≤ i → i < b → Q (g xs i)) : ∀ i, a ≤ i → i < b → Q (g ys i) := by
  induction h with
  | refl => exact hq
  | step _ h1 h2 h3 h4 h5 ih =>
    intro i hi hi2
    rw [g_swp (by omega) (by omega)]
    split
    · exact ih _ h1 h2
    · split
      · exact ih _ h3 h4
      · exact ih _ hi hi2
theorem PI.mono {a b a' b' : Nat} {xs ys : List El} (h : PI a b xs ys) (ha : a' ≤ a) (hb : b ≤ b') (hl : b' ≤ xs.length) : PI a' b' xs ys := by
  induction h with
  | refl => exact .refl
  | step h h1 h2 h3 h4 h5 ih => exact .step ih (by omega) (by omega) (by omega) (by omega) (by rw [h.len]; exact hl)
theorem PI.trans {a b : Nat} {xs ys zs : List El} (h : PI a b xs ys) (k : PI a b ys zs) : PI a b xs zs := by
  induction k with
  | refl => exact h
  | step _ h1 h2 h3 h4 h5 ih => exact .step ih h1 h2 h3 h4 h5
/-- Sorted from a, ahead of b. -/
def SO (xs : List El) (a b : Nat) : Prop := ∀ i j, a ≤ i → i < j → j < b → g xs i ≤ g xs j
def Ar (s : Sl) (b : Nat) (H : Array Obj) (xs : List El) : Prop :=
  s.p = some ⟨b, 0, none⟩ ∧ s.n = xs.length ∧ xs.length ≤ 1000000 ∧ ∃ arr T, H[b]? = some (.cells arr T (0, 0)) ∧ arr.size = s.c * 2 ∧ s.n ≤ s.c ∧ arr.toList.take (s.n * 2) = xs.flatMap sv
theorem Ar.own {s : Sl} {b : Nat} {w : World} {xs : List El} (h : Ar s b w.heap xs) : OwS w s 2 (xs.flatMap sv) := by
  obtain ⟨h1, h2, _, arr, T, h3, h4, h5, h6⟩ := h
  exact .inr ⟨b, arr, T, h1, h3, h4, h5, h6⟩
theorem Ar.ofp {s : Sl} {b : Nat} {w : World} {xs : List El} (h : OwS w s 2 (xs.flatMap sv)) (hp : s.p = some ⟨b, 0, none⟩) (hl : xs.length ≤ 1000000) : Ar s b w.heap xs := by
  have hn := owsN sv_len (by omega) h
  rcases h with ⟨rfl, _⟩ | ⟨b', arr, T, h1, h3, h4, h5, h6⟩
  · cases hp
  · rw [h1] at hp; cases hp
    exact ⟨h1, hn, hl, arr, T, h3, h4, h5, h6⟩
theorem Ar.of {s : Sl} {w : World} {xs : List El} (h : OwS w s 2 (xs.flatMap sv)) (h0 : 0 < xs.length) (hl : xs.length ≤ 1000000) : ∃ b, Ar s b w.heap xs ∧ blk s = [b] := by
  have hn := owsN sv_len (by omega) h
  obtain ⟨b, hp⟩ := h.ptr (by omega)
  exact ⟨b, Ar.ofp h hp hl, by simp [blk, hp]⟩
theorem Ar.lt {s : Sl} {b : Nat} {w : World} {xs : List El} (h : Ar s b w.heap xs) : b < w.heap.size := by
  obtain ⟨_, _, _, _, _, h3, _⟩ := h
  exact heap_lt h3
theorem rd {s : Sl} {b : Nat} {w : World} {xs : List El} (h : Ar s b w.heap xs) {i : Int} (h0 : 0 ≤ i) (h1 : i < xs.length) {K : El → Prop} (k : K (ge xs i.toNat)) :
    ∃ b1 b2 : Nat, s.1 = some ⟨b1, b2, none⟩ ∧ ((0 : Int) ≤ i ∧ i < (s.2 : Int)) ∧ ∃ n : El, CellsAt w b1 (b2 + i.toNat * 2) [.int .i64 n.1, .int .i64 n.2] ∧ K n := by
  have e2 := h.2.1
  obtain ⟨b', hp, hc⟩ := h.own.elem (i := i.toNat) (by omega) (flatGet sv_len (ge_eq (xs := xs) (i := i.toNat) (by omega)))
  exact ⟨b', 0, hp, ⟨h0, by show i < (s.n : Int); omega⟩, _, by rw [Nat.zero_add]; exact hc, k⟩
theorem wr {s : Sl} {b : Nat} {w : World} {xs : List El} (h : Ar s b w.heap xs) {i : Int} {x : El} (h0 : 0 ≤ i) (h1 : i < xs.length) {K : World → Prop} (k : ∀ w', Ar s b w'.heap (xs.set i.toNat x) → CB b w w' → K w') :
    ∃ b1 b2 : Nat, s.1 = some ⟨b1, b2, none⟩ ∧ ((0 : Int) ≤ i ∧ i < (s.2 : Int)) ∧ #[Value.int .i64 x.1, Value.int .i64 x.2].size = 2 ∧ StoreP w b1 (b2 + i.toNat * 2) [.int .i64 x.1, .int .i64 x.2] K := by
  have e1 := h.1; have e2 := h.2.1; have el := h.2.2.1
  refine ⟨b, 0, e1, ⟨h0, by show i < (s.n : Int); omega⟩, rfl, ?_⟩
  rw [Nat.zero_add]
  refine h.own.store (vs := sv x) e1 (by rw [sv_len]; omega) (sv_one x) fun w' ho hc => k w' (Ar.ofp ?_ e1 (by rw [List.length_set]; exact el)) hc
  rw [sv_len, flatSet sv_len (by omega)] at ho
  exact ho
/-- data[p], data[q] = data[q], data[p] -/
theorem sw {s : Sl} {b : Nat} {w : World} {xs : List El} (h : Ar s b w.heap xs) {p q : Int} (hp0 : 0 ≤ p) (hp1 : p < xs.length) (hq0 : 0 ≤ q) (hq1 : q < xs.length) {K : World → Prop} (k : ∀ w', Ar s b w'.heap (swp xs p.toNat q.toNat) → CB b w w' → K w') :
    ∃ b1 b2 : Nat, s.1 = some ⟨b1, b2, none⟩ ∧ ((0 : Int) ≤ q ∧ q < (s.2 : Int)) ∧ ∃ n : El, CellsAt w b1 (b2 + q.toNat * 2) [.int .i64 n.1, .int .i64 n.2] ∧
    ∃ b3 b4 : Nat, s.1 = some ⟨b3, b4, none⟩ ∧ ((0 : Int) ≤ p ∧ p < (s.2 : Int)) ∧ ∃ m : El, CellsAt w b3 (b4 + p.toNat * 2) [.int .i64 m.1, .int .i64 m.2] ∧
    ∃ b5 b6 : Nat, s.1 = some ⟨b5, b6, none⟩ ∧ ((0 : Int) ≤ p ∧ p < (s.2 : Int)) ∧ #[Value.int .i64 n.1, Value.int .i64 n.2].size = 2 ∧ StoreP w b5 (b6 + p.toNat * 2) [.int .i64 n.1, .int .i64 n.2] fun w1 =>
    ∃ b7 b8 : Nat, s.1 = some ⟨b7, b8, none⟩ ∧ ((0 : Int) ≤ q ∧ q < (s.2 : Int)) ∧ #[Value.int .i64 m.1, Value.int .i64 m.2].size = 2 ∧ StoreP w1 b7 (b8 + q.toNat * 2) [.int .i64 m.1, .int .i64 m.2] K := by
  refine rd h hq0 hq1 (rd h hp0 hp1 (wr h hp0 hp1 fun w1 h1 c1 => wr h1 hq0 (by rw [List.length_set]; exact hq1) fun w2 h2 c2 => k w2 h2 (c1.trans c2)))
/-- What compares: by its sign, and leaves what was there. -/
def CmpP (cl : Nat × Array Value) : Prop := ∀ (x y : El) (W : World), CW Try.prog cl.1 { toList := Value.agg (sv x).toArray :: Value.agg (sv y).toArray :: cl.2.toList } W fun v w' => ∃ n : Int, v = iv n ∧ (n < 0 ↔ key x < key y) ∧ Ext W w'
theorem ls {cl : Nat × Array Value} (hcp : CmpP cl) {s : Sl} {b : Nat} {w : World} {xs : List El} (h : Ar s b w.heap xs) {i j : Int} (hi0 : 0 ≤ i) (hi1 : i < xs.length) (hj0 : 0 ≤ j) (hj1 : j < xs.length) {K : Int → World → Prop} (k : ∀ (nn : Int) (ww : World), (nn < 0 ↔ g xs i.toNat < g xs j.toNat) → Ext w ww → K nn ww) :
    ∃ b1 b2 : Nat, s.1 = some ⟨b1, b2, none⟩ ∧ ((0 : Int) ≤ i ∧ i < (s.2 : Int)) ∧ ∃ n : El, CellsAt w b1 (b2 + i.toNat * 2) [.int .i64 n.1, .int .i64 n.2] ∧
    ∃ b3 b4 : Nat, s.1 = some ⟨b3, b4, none⟩ ∧ ((0 : Int) ≤ j ∧ j < (s.2 : Int)) ∧ ∃ m : El, CellsAt w b3 (b4 + j.toNat * 2) [.int .i64 m.1, .int .i64 m.2] ∧
    CX Try.prog cl.1 { toList := Value.agg #[.int .i64 n.1, .int .i64 n.2] :: Value.agg #[.int .i64 m.1, .int .i64 m.2] :: cl.2.1 } w fun v w' => ∃ n : Int, v = .int .i64 n ∧ K n w' := by
  refine rd h hi0 hi1 (rd h hj0 hj1 ((hcp _ _ w).use ?_))
  rintro _ ww ⟨n, rfl, hn, e⟩
  exact ⟨n, rfl, k n ww hn e⟩
theorem decC {n : Int} {P : Prop} [Decidable P] {A B : Prop} (hn : n < 0 ↔ P) (h : P → A) (k : ¬ P → B) : IfB (decide (n < 0)) A B := IfB.dec (fun h' => h (hn.1 h')) fun h' => k fun hp => h' (hn.2 hp)
theorem introC {n : Int} {P : Prop} [Decidable P] {A B : Prop} (hn : n < 0 ↔ P) (h : (!decide P) = true → A) (k : (!decide P) = false → B) : IfB (!decide (n < 0)) A B := by
  rw [show decide (n < 0) = decide P from decide_eq_decide.2 hn]
  exact IfB.intro h k
theorem Ar.ch {F : Nat → Prop} {s : Sl} {b : Nat} {w w' : World} {xs : List El} (h : Ar s b w.heap xs) (hc : Ch F w w') (hF : ¬ F b) : Ar s b w'.heap xs := by
  obtain ⟨e1, e2, e3, arr, T, e4, e5⟩ := h
  exact ⟨e1, e2, e3, arr, T, hc.at e4 hF, e5⟩
theorem CBe {b : Nat} {w W W' : World} (h : CB b w W) (e : Ext W W') : CB b w W' := Ch.then h e fun _ _ h => h.elim
theorem c116 {cl : Nat × Array Value} (hcp : CmpP cl) {s : Sl} {b : Nat} {w : World} {xs : List El} {a e : Nat} (h : Ar s b w.heap xs) (he : e ≤ xs.length) (ha : a ≤ xs.length) :
    CW Try.prog 116 #[slV s, iv a, iv e, .func (.func cl.1) #[] cl.2] w fun v w' => v = .tuple #[] ∧ ∃ ys, PI a e xs ys ∧ SO ys a e ∧ Ar s b w'.heap ys ∧ CB b w w' := by
  have hl : xs.length ≤ 1000000 := h.2.2.1
  refine F116_ok s a e cl w _ ⟨fun n x W => ∃ (i : Nat) (ys : List El), n = e + 1 - i ∧ x = (i : Int) ∧ a + 1 ≤ i ∧ (i = a + 1 ∨ i ≤ e) ∧ PI a e xs ys ∧ SO ys a i ∧ Ar s b W.heap ys ∧ CB b w W, ⟨_, a + 1, xs, rfl, wp1 (by omega), Nat.le_refl _, .inl rfl, .refl, fun i j _ _ _ => by omega, h, Ch.refl _ _⟩, ?_⟩
  rintro n _ W _ ⟨i, ys, rfl, rfl, hai, hi, hP, hS, hA, hC⟩
  have hyl := hP.len
  refine IfB.dec (fun hlt => ?_) (fun hge => ⟨rfl, ys, hP, fun p q h1 h2 h3 => hS p q h1 h2 (by omega), hA, hC⟩)
  have hie : i < e := by omega
  refine ⟨fun m x W' => ∃ (j : Nat) (zs : List El), j = m ∧ x = (j : Int) ∧ a ≤ j ∧ j ≤ i ∧ PI a e xs zs ∧ (∀ p q, a ≤ p → p < q → q ≤ i → q ≠ j → g zs p ≤ g zs q) ∧ Ar s b W'.heap zs ∧ CB b w W', ⟨_, i, ys, rfl, rfl, by omega, Nat.le_refl _, hP, fun p q h1 h2 h3 h4 => hS p q h1 h2 (by omega), hA, hC⟩, ?_⟩
  rintro m _ W1 _ ⟨j, zs, rfl, rfl, haj, hji, hP1, hS1, hA1, hC1⟩
  have hzl := hP1.len
  have hCd : CB b w W1.drew := hC1.then (extDrew W1) fun _ _ h => h.elim
  have done : (∀ p, a ≤ p → p < j → g zs p ≤ g zs j) → ∀ W2 : World, Ar s b W2.heap zs → CB b w W2 → ([] : List Nat) = [] ∧ ∃ b38, b38 < e + 1 - i ∧ ∃ (i' : Nat) (ys : List El), b38 = e + 1 - i' ∧ IntKind.i64.wrap ((i : Int) + (1 : Int)) = (i' : Int) ∧ a + 1 ≤ i' ∧ (i' = a + 1 ∨ i' ≤ e) ∧ PI a e xs ys ∧ SO ys a i' ∧ Ar s b W2.heap ys ∧ CB b w W2 := by
    rintro hj W2 hA1 hCd
    refine ⟨rfl, e + 1 - (i + 1), by omega, i + 1, zs, rfl, wp1 (by omega), by omega, .inr (by omega), hP1, fun p q h1 h2 h3 => ?_, hA1, hCd⟩
    by_cases hq : q = j
    · subst hq; exact hj p h1 h2
    · exact hS1 p q h1 h2 (by omega) hq
  unfold F116j2
  refine IfB.dec (fun hlt2 => ?_) (fun hge2 => done (fun p h1 h2 => by omega) W1.drew hA1 hCd)
  have hj : a < j := by omega
  have hw := wm1 (i := j) (by omega) (by omega)
  rw [hw]
  refine ls hcp (w := W1.drew) hA1 (by omega) (by omega) (by omega) (by omega) (fun nn ww hn eC => have hA1 := Ar.ch (w := W1.drew) hA1 eC id; have hCd := CBe hCd eC; decC hn (fun hl1 => ?_) (fun hl1 => done (fun p h1 h2 => ?_) ww hA1 hCd))
  · rw [Int.toNat_natCast, Int.toNat_natCast] at hl1
    refine sw (w := ww.drew) hA1 (by omega) (by omega) (by omega) (by omega) fun W3 hA3 hC3 => ⟨rfl, j - 1, by omega, j - 1, _, rfl, rfl, by omega, by omega, .step hP1 (p := j) (q := j - 1) (by omega) (by omega) (by omega) (by omega) (by omega), ?_, hA3, (hCd.then (extDrew _) fun _ _ h => h.elim).trans hC3⟩
    intro p q h1 h2 h3 h4
    rw [g_swp (by omega) (by omega), g_swp (by omega) (by omega)]
    have A1 := hS1 p (j - 1) h1
    have A2 := hS1 p q h1 h2 h3
    have A3 := hS1 j q (by omega)
    have A4 := hS1 (j - 1) q (by omega)
    split <;> split <;> (try split) <;> (try split) <;> first | omega | skip
  · rw [Int.toNat_natCast, Int.toNat_natCast] at hl1
    have := hS1 p (j - 1) h1
    by_cases hp : p = j - 1
    · subst hp; omega
    · have := this (by omega) (by omega) (by omega)
      omega
/-- From k on none of the children of a node of the heap at f is more than it. -/
def HpAt (xs : List El) (f hi k : Nat) : Prop := ∀ c, c = 2 * k + 1 ∨ c = 2 * k + 2 → c < hi → g xs (f + c) ≤ g xs (f + k)
theorem c124 {cl : Nat × Array Value} (hcp : CmpP cl) {s : Sl} {b : Nat} {w : World} {xs : List El} {lo hi f : Nat} (h : Ar s b w.heap xs) (hl : f + hi ≤ xs.length) (hlo : lo ≤ 1000000) (hh : ∀ k, lo < k → HpAt xs f hi k) :
    CW Try.prog 124 #[slV s, iv lo, iv hi, iv f, .func (.func cl.1) #[] cl.2] w fun v w' => v = .tuple #[] ∧ ∃ ys, PI f (f + hi) xs ys ∧ (∀ k, lo ≤ k → HpAt ys f hi k) ∧ Ar s b w'.heap ys ∧ CB b w w' := by
  have hll : xs.length ≤ 1000000 := h.2.2.1
  refine F124_ok s lo hi f cl w _ ⟨fun n x W => ∃ (r : Nat) (ys : List El), n = hi - r ∧ x = (r : Int) ∧ lo ≤ r ∧ (r = lo ∨ r < hi) ∧ PI f (f + hi) xs ys ∧ (∀ k, lo ≤ k → k ≠ r → HpAt ys f hi k) ∧
    (∀ k, lo ≤ k → r = 2 * k + 1 ∨ r = 2 * k + 2 → ∀ c, c = 2 * r + 1 ∨ c = 2 * r + 2 → c < hi → g ys (f + c) ≤ g ys (f + k)) ∧ Ar s b W.heap ys ∧ CB b w W, ⟨_, lo, xs, rfl, rfl, Nat.le_refl _, .inl rfl, .refl, fun k h1 h2 => hh k (by omega), fun k h1 h2 => by omega, h, Ch.refl _ _⟩, ?_⟩
  rintro n _ W _ ⟨r, ys, rfl, rfl, hlr, hr, hP, hH, hG, hA, hC⟩
  have hyl := hP.len
  unfold F124j1
  rw [wdb (by omega), wp1 (by omega)]
  refine IfB.dec (fun hge => ⟨rfl, ys, hP, fun k hk => ?_, hA, hC⟩) (fun hlt => ?_)
  · by_cases hkr : k = r
    · subst hkr; intro c hc1 hc2; omega
    · exact hH k hk hkr
  have hc1 : 2 * r + 1 < hi := by omega
  rw [wp1 (by omega), wad (by omega), wp1 (by omega)]
  have hCd : CB b w W.drew := hC.then (extDrew W) fun _ _ h => h.elim
  refine ⟨fun x W' => ∃ c : Nat, x = (c : Int) ∧ (c = 2 * r + 1 ∨ c = 2 * r + 2) ∧ c < hi ∧ (∀ d, d = 2 * r + 1 ∨ d = 2 * r + 2 → d < hi → g ys (f + d) ≤ g ys (f + c)) ∧ Ext W.drew W', ?_, ?_⟩
  · refine IfB.dec (fun h2 => ?_) (fun h2 => ⟨rfl, 2 * r + 1, rfl, .inl rfl, hc1, fun d hd1 hd2 => ?_, Ch.refl _ _⟩)
    · refine ls hcp (w := W.drew) hA (by omega) (by omega) (by omega) (by omega) (fun nn ww hn eC => decC hn (fun hl1 => ⟨rfl, 2 * r + 1 + 1, rfl, .inr rfl, by omega, fun d hd1 hd2 => ?_, eC⟩) (fun hl1 => ⟨rfl, 2 * r + 1, rfl, .inl rfl, hc1, fun d hd1 hd2 => ?_, eC⟩))
      · rw [Int.toNat_natCast, Int.toNat_natCast] at hl1
        rcases hd1 with rfl | rfl
        · rw [show f + (2 * r + 1 + 1) = f + (2 * r + 1) + 1 by omega]; omega
        · exact Int.le_refl _
      · rw [Int.toNat_natCast, Int.toNat_natCast] at hl1
        rcases hd1 with rfl | rfl
        · exact Int.le_refl _
        · rw [show f + (2 * r + 2) = f + (2 * r + 1) + 1 by omega]; omega
    · have : d = 2 * r + 1 := by omega
      subst this; exact Int.le_refl _
  rintro _ W' _ ⟨c, rfl, hc2, hc3, hc4, eW⟩
  have hA := Ar.ch (w := W.drew) hA eW id
  have hCd := CBe hCd eW
  unfold F124j2
  rw [wad (by omega), wad (by omega)]
  have hCd2 : CB b w W'.drew := hCd.then (extDrew _) fun _ _ h => h.elim
  refine ls hcp (w := W'.drew) hA (by omega) (by omega) (by omega) (by omega) (fun nn ww hn eC => have hA := Ar.ch (w := W'.drew) hA eC id; have hCd2 := CBe hCd2 eC; introC hn (fun hl1 => ⟨rfl, ys, hP, fun k hk => ?_, hA, hCd2⟩) fun hl1 => ?_)
  · simp only [Int.toNat_natCast, Bool.not_eq_true', decide_eq_false_iff_not] at hl1
    by_cases hkr : k = r
    · subst hkr
      intro d hd1 hd2
      have := hc4 d hd1 hd2
      omega
    · exact hH k hk hkr
  · simp only [Int.toNat_natCast, Bool.not_eq_false', decide_eq_true_eq] at hl1
    refine sw (w := ww.drew) hA (by omega) (by omega) (by omega) (by omega) fun W3 hA3 hC3 => ⟨rfl, hi - c, by omega, c, _, rfl, rfl, by omega, .inr hc3, .step hP (p := f + r) (q := f + c) (by omega) (by omega) (by omega) (by omega) (by omega), ?_, ?_, hA3, (CBe hCd2 (extDrew ww)).trans hC3⟩
    · intro k hk hkc d hd1 hd2
      by_cases hkr : k = r
      · subst hkr
        rw [g_swl (by omega) (by omega)]
        by_cases hdc : d = c
        · subst hdc; rw [g_swq (by omega) (by omega)]; omega
        · rw [g_swo (by omega) (by omega) (by omega) (by omega)]; exact hc4 d hd1 hd2
      · rw [g_swo (i := f + k) (by omega) (by omega) (by omega) (by omega)]
        by_cases hdr : d = r
        · subst hdr
          rw [g_swl (by omega) (by omega)]
          exact hG k hk hd1 c hc2 hc3
        · rw [g_swo (by omega) (by omega) (by omega) (by omega)]
          exact hH k hk hkr d hd1 hd2
    · intro k hk hck d hd1 hd2
      have hkr : k = r := by omega
      subst hkr
      rw [g_swl (by omega) (by omega), g_swo (by omega) (by omega) (by omega) (by omega)]
      exact hH c (by omega) (by omega) d hd1 hd2
theorem heap_max {xs : List El} {f hi : Nat} (h : ∀ k, HpAt xs f hi k) (p : Nat) (hp : p < hi) : g xs (f + p) ≤ g xs f := by
  induction p using Nat.strongRecOn with
  | _ p ih =>
    by_cases h0 : p = 0
    · subst h0; exact Int.le_refl _
    · have h1 := h ((p - 1) / 2) p (by omega) hp
      have h2 := ih ((p - 1) / 2) (by omega) (by omega)
      omega
theorem c117 {cl : Nat × Array Value} (hcp : CmpP cl) {s : Sl} {b : Nat} {w : World} {xs : List El} {a e : Nat} (h : Ar s b w.heap xs) (he : e ≤ xs.length) (ha : a ≤ e) :
    CW Try.prog 117 #[slV s, iv a, iv e, .func (.func cl.1) #[] cl.2] w fun v w' => v = .tuple #[] ∧ ∃ ys, PI a e xs ys ∧ SO ys a e ∧ Ar s b w'.heap ys ∧ CB b w w' := by
  have hl : xs.length ≤ 1000000 := h.2.2.1
  refine F117_ok s a e cl w _ ⟨by decide, ?_⟩
  have hea : a + (e - a) = e := by omega
  rw [wsb ha (by omega)]
  generalize hhi : e - a = hi at hea
  refine ⟨fun n x W => ∃ (i : Nat) (ys : List El), i = n ∧ x = (i : Int) - 1 ∧ i ≤ hi + 1 ∧ PI a e xs ys ∧ (∀ k, i ≤ k → HpAt ys a hi k) ∧ Ar s b W.heap ys ∧ CB b w W, ⟨_, (if hi = 0 then 1 else (hi - 1) / 2 + 1), xs, rfl, ?_, ?_, .refl, ?_, h, Ch.refl _ _⟩, ?_⟩
  · rw [wrap_of (n := (hi : Int) - 1) (by omega) (by omega)]
    split
    · rename_i h0; subst h0; decide
    · rename_i h0
      rw [Int.tdiv_eq_ediv_of_nonneg (by omega), wrap_of (by omega) (by omega)]
      omega
  · split <;> omega
  · intro k hk c hc1 hc2
    split at hk <;> omega
  rintro n _ W _ ⟨i, ys, rfl, rfl, hi1, hP, hH, hA, hC⟩
  have hyl := hP.len
  unfold F117j1
  refine IfB.dec (fun hge => ?_) (fun hlt => ?_)
  · rw [show ((i : Int) - 1) = ((i - 1 : Nat) : Int) by omega, wsb ha (by omega), hhi]
    refine (c124 hcp hA (by omega) (by omega) fun k hk => hH k (by omega)).use ?_
    rintro _ W2 ⟨rfl, zs, hP2, hH2, hA2, hC2⟩
    rw [hea] at hP2
    exact ⟨(), rfl, rfl, i - 1, by omega, i - 1, zs, rfl, by rw [wrap_of (by omega) (by omega)], by omega, hP.trans hP2, hH2, hA2, hC.trans hC2⟩
  · have hi0 : i = 0 := by omega
    subst hi0
    refine ⟨fun n x W' => ∃ (i : Nat) (zs : List El), i = n ∧ x = (i : Int) - 1 ∧ i ≤ hi ∧ PI a e xs zs ∧ (∀ k, HpAt zs a i k) ∧ (∀ p q, i ≤ p → p < q → q < hi → g zs (a + p) ≤ g zs (a + q)) ∧ (∀ p q, p < i → i ≤ q → q < hi → g zs (a + p) ≤ g zs (a + q)) ∧ Ar s b W'.heap zs ∧ CB b w W', ⟨_, hi, ys, rfl, ?_, Nat.le_refl _, hP, fun k => hH k (Nat.zero_le _), fun p q _ _ _ => by omega, fun p q _ _ _ => by omega, hA, hC⟩, ?_⟩
    · rw [wsb ha (by omega), hhi, wrap_of (by omega) (by omega)]
    rintro n _ W1 _ ⟨i, zs, rfl, rfl, hi2, hP1, hH1, hS1, hX1, hA1, hC1⟩
    have hzl := hP1.len
    unfold F117j2
    refine IfB.dec (fun hge => ?_) (fun hlt => ⟨rfl, zs, hP1, fun p q h1 h2 h3 => ?_, hA1, hC1⟩)
    · obtain ⟨m, rfl⟩ : ∃ m, i = m + 1 := ⟨i - 1, by omega⟩
      rw [show (((m + 1 : Nat) : Int) - 1) = (m : Int) by omega, wad (by omega)]
      have hCd : CB b w W1.drew := hC1.then (extDrew W1) fun _ _ h => h.elim
      refine sw (w := W1.drew) hA1 (by omega) (by omega) (by omega) (by omega) fun W2 hA2 hC2 => ?_
      rw [Int.toNat_natCast, Int.toNat_natCast] at hA2
      have hP2 : PI a e xs (swp zs a (a + m)) := .step hP1 (by omega) (by omega) (by omega) (by omega) (by omega)
      have g0 : ∀ p, 0 < p → p < m → g (swp zs a (a + m)) (a + p) = g zs (a + p) := fun p h1 h2 => g_swo (by omega) (by omega) (by omega) (by omega)
      have gm : g (swp zs a (a + m)) (a + m) = g zs a := g_swq (by omega) (by omega)
      have gz : g (swp zs a (a + m)) a = g zs (a + m) := g_swl (by omega) (by omega)
      have gb : ∀ q, m < q → g (swp zs a (a + m)) (a + q) = g zs (a + q) := fun q h1 => g_swo (by omega) (by omega) (by omega) (by omega)
      refine (c124 hcp (lo := 0) hA2 (by rw [swp_len]; omega) (by omega) fun k hk c hc1 hc2 => ?_).use ?_
      · rw [g0 k hk (by omega), g0 c (by omega) hc2]
        exact hH1 k c hc1 (by omega)
      rintro _ W3 ⟨rfl, us, hP3, hH3, hA3, hC3⟩
      have hmax := heap_max hH1
      have hP3' : PI a e (swp zs a (a + m)) us := hP3.mono (Nat.le_refl _) (by omega) (by rw [swp_len]; omega)
      have ub : ∀ q, m ≤ q → g us (a + q) = g (swp zs a (a + m)) (a + q) := fun q hq => hP3.out (.inr (by omega))
      refine ⟨(), rfl, rfl, m, by omega, m, us, rfl, by rw [wrap_of (by omega) (by omega)], by omega, hP2.trans hP3', fun k => hH3 k (Nat.zero_le _), ?_, ?_, hA3, (hCd.trans hC2).trans hC3⟩
      · intro p q h1 h2 h3
        rw [ub p h1, ub q (by omega), gb q (by omega)]
        by_cases hp : p = m
        · subst hp; rw [gm]
          have := hX1 0 q (by omega) (by omega) h3
          exact this
        · rw [gb p (by omega)]; exact hS1 p q (by omega) h2 h3
      · intro p q h1 h2 h3
        have hQ : ∀ i, a ≤ i → i < a + m → (fun v => v ≤ g us (a + q)) (g us i) := by
          refine hP3.all (Q := fun v => v ≤ g us (a + q)) fun i h4 h5 => ?_
          show _ ≤ g us (a + q)
          rw [ub q h2]
          obtain ⟨t, rfl⟩ : ∃ t, i = a + t := ⟨i - a, by omega⟩
          have h6 : g (swp zs a (a + m)) (a + t) = g zs (a + t) ∨ g (swp zs a (a + m)) (a + t) = g zs (a + m) := by
            by_cases ht : t = 0
            · subst ht; exact .inr gz
            · exact .inl (g0 t (by omega) (by omega))
          by_cases hq : q = m
          · subst hq
            rw [gm]
            have h7 := hmax t (by omega)
            have h8 := hmax q (by omega)
            rcases h6 with h6 | h6 <;> omega
          · rw [gb q (by omega)]
            have h7 := hX1 t q (by omega) (by omega) h3
            have h8 := hX1 m q (by omega) (by omega) h3
            rcases h6 with h6 | h6 <;> omega
        exact hQ _ (by omega) (by omega)
    · obtain ⟨p', rfl⟩ : ∃ t, p = a + t := ⟨p - a, by omega⟩
      obtain ⟨q', rfl⟩ : ∃ t, q = a + t := ⟨q - a, by omega⟩
      exact hS1 p' q' (by omega) (by omega) (by omega)
theorem c120 {cl : Nat × Array Value} (hcp : CmpP cl) {s : Sl} {b : Nat} {w : World} {xs : List El} {a e : Nat} (h : Ar s b w.heap xs) (he : e ≤ xs.length) (ha : a < e) :
    CW Try.prog 120 #[slV s, iv a, iv e, .func (.func cl.1) #[] cl.2] w fun v w' => v = .tuple #[] ∧ ∃ ys, PI a e xs ys ∧ Ar s b w'.heap ys ∧ CB b w w' := by
  have hl : xs.length ≤ 1000000 := h.2.2.1
  refine F120_ok s a e cl w _ ⟨fun n x W => ∃ (i j : Nat) (ys : List El), n = j ∧ x = ((i : Int), (j : Int)) ∧ a ≤ i ∧ j < e ∧ i ≤ j + 1 ∧ PI a e xs ys ∧ Ar s b W.heap ys ∧ CB b w W, ⟨_, a, e - 1, xs, rfl, by rw [wm1 (by omega) (by omega)], Nat.le_refl _, by omega, by omega, .refl, h, Ch.refl _ _⟩, ?_⟩
  rintro n _ W _ ⟨i, j, ys, rfl, rfl, hai, hje, hij, hP, hA, hC⟩
  have hyl := hP.len
  unfold F120j1
  refine IfB.dec (fun hlt => ?_) (fun hge => ⟨rfl, ys, hP, hA, hC⟩)
  have hlt : i < n := by
    have : (i : Int) < (n : Int) := hlt
    omega
  have hCd : CB b w W.drew := hC.then (extDrew W) fun _ _ h => h.elim
  refine sw (w := W.drew) hA (p := (i : Int)) (q := (n : Int)) (by omega) (by omega) (by omega) (by omega) fun W2 hA2 hC2 => ?_
  rw [Int.toNat_natCast, Int.toNat_natCast] at hA2
  exact ⟨rfl, n - 1, by omega, i + 1, n - 1, _, rfl, by rw [← wp1 (by omega), ← wm1 (by omega) (by omega)], by omega, by omega, by omega, .step hP (by omega) (by omega) (by omega) (by omega) (by omega), hA2, hCd.trans hC2⟩
theorem c127 {cl : Nat × Array Value} (hcp : CmpP cl) {s : Sl} {b b1 : Nat} {w : World} {xs : List El} {i j : Nat} (h : Ar s b w.heap xs) (hc : Ct .i64 b1 w) (hne : b1 ≠ b) (hi : i < xs.length) (hj : j < xs.length) :
    CW Try.prog 127 #[slV s, iv i, iv j, .pointer (some ⟨b1, 0, none⟩), .func (.func cl.1) #[] cl.2] w fun v w' => ∃ x y : Nat, v = .tuple #[iv x, iv y] ∧ (x = i ∧ y = j ∨ x = j ∧ y = i) ∧ Ar s b w'.heap xs ∧ Ct .i64 b1 w' ∧ Ch (fun q => q = b1) w w' := by
  have hd : Ch (fun q => q = b1) w w.drew := (extDrew w).mono fun _ _ h => h.elim
  refine F127_ok s i j _ cl w _ (ls hcp (w := w.drew) h (by omega) (by omega) (by omega) (by omega) (fun nn ww hn eC => have h := Ar.ch (w := w.drew) h eC id; have hc : Ct .i64 b1 ww := (have ⟨T, n, k⟩ := hc; ⟨T, n, Ch.at (w := w.drew) eC k id⟩); have hd := hd.then eC (fun _ _ h => h.elim); decC hn (fun _ => ?_) (fun _ => ⟨i, j, rfl, .inl ⟨rfl, rfl⟩, h, hc, hd⟩)))
  obtain ⟨T, n, hn⟩ := hc
  refine ⟨b1, 0, rfl, n, by rw [cell_of (w := ww) hn]; rfl, b1, 0, rfl, rfl, store_one (w := ww) hn (by simp) rfl fun w2 h2 => ⟨j, i, rfl, .inr ⟨rfl, rfl⟩, ?_, ⟨T, _, h2.new⟩, hd.trans h2.ch⟩⟩
  exact Ar.ch (w := ww) h h2.ch (Ne.symm hne)
theorem c126 {cl : Nat × Array Value} (hcp : CmpP cl) {s : Sl} {b b1 : Nat} {w : World} {xs : List El} {i j k : Nat} (h : Ar s b w.heap xs) (hc : Ct .i64 b1 w) (hne : b1 ≠ b) (hi : i < xs.length) (hj : j < xs.length) (hk : k < xs.length) :
    CW Try.prog 126 #[slV s, iv i, iv j, iv k, .pointer (some ⟨b1, 0, none⟩), .func (.func cl.1) #[] cl.2] w fun v w' => ∃ x : Nat, v = iv x ∧ (x = i ∨ x = j ∨ x = k) ∧ Ar s b w'.heap xs ∧ Ct .i64 b1 w' ∧ Ch (fun q => q = b1) w w' := by
  refine F126_ok s i j k _ cl w _ ((c127 hcp h hc hne hi hj).use ?_)
  rintro _ w2 ⟨x1, y1, rfl, e1, h2, k2, l2⟩
  refine ⟨((x1 : Int), (y1 : Int)), rfl, (c127 hcp h2 k2 hne (by omega) hk).use ?_⟩
  rintro _ w3 ⟨x2, y2, rfl, e2, h3, k3, l3⟩
  refine ⟨((x2 : Int), (y2 : Int)), rfl, (c127 hcp h3 k3 hne (by omega) (by omega)).use ?_⟩
  rintro _ w4 ⟨x3, y3, rfl, e3, h4, k4, l4⟩
  exact ⟨((x3 : Int), (y3 : Int)), rfl, y3, rfl, by omega, h4, k4, (l2.trans l3).trans l4⟩
theorem c125 {cl : Nat × Array Value} (hcp : CmpP cl) {s : Sl} {b b1 : Nat} {w : World} {xs : List El} {i : Nat} (h : Ar s b w.heap xs) (hc : Ct .i64 b1 w) (hne : b1 ≠ b) (h0 : 0 < i) (hi : i + 1 < xs.length) :
    CW Try.prog 125 #[slV s, iv i, .pointer (some ⟨b1, 0, none⟩), .func (.func cl.1) #[] cl.2] w fun v w' => ∃ x : Nat, v = iv x ∧ (i ≤ x + 1 ∧ x ≤ i + 1) ∧ Ar s b w'.heap xs ∧ Ct .i64 b1 w' ∧ Ch (fun q => q = b1) w w' := by
  have hl := h.2.2.1
  refine F125_ok s i _ cl w _ ?_
  unfold F125
  rw [wm1 (by omega) (by omega), wp1 (by omega)]
  refine (c126 hcp h hc hne (by omega) (by omega) hi).use ?_
  rintro _ w2 ⟨x, rfl, e, h2, k2, l2⟩
  exact ⟨_, rfl, x, rfl, by omega, h2, k2, l2⟩
theorem c119 {cl : Nat × Array Value} (hcp : CmpP cl) {s : Sl} {b : Nat} {w : World} {xs : List El} {a e : Nat} (h : Ar s b w.heap xs) (he : e ≤ xs.length) (ha : a + 12 < e) :
    CW Try.prog 119 #[slV s, iv a, iv e, .func (.func cl.1) #[] cl.2] w fun v w' => ∃ (p : Nat) (t : Int), v = .tuple #[iv p, iv t] ∧ (a ≤ p ∧ p < e) ∧ Ar s b w'.heap xs ∧ Ext w w' := by
  have hl := h.2.2.1
  have hlt := h.lt
  refine F119_ok s a e cl w _ ?_
  intro b1 w2 h2
  have e2 : Ext w w2 := h2.ch _
  have p2 := h2.here
  have hA2 := h.ch e2 id
  have hc2 : Ct .i64 b1 w2 := ⟨_, _, h2.new⟩
  have hne : b1 ≠ b := by omega
  have hq : IntKind.i64.wrap ((IntKind.i64.wrap ((e : Int) - (a : Int))).tdiv (4 : Int)) = (((e - a) / 4 : Nat) : Int) := by
    rw [wsb (by omega) (by omega), Int.tdiv_eq_ediv_of_nonneg (by omega), wrap_of (by omega) (by omega)]; omega
  rw [hq, wmul (k := (1 : Int)) (m := 1) rfl (by omega) (by omega), wmul (k := (2 : Int)) (m := 2) rfl (by omega) (by omega), wmul (k := (3 : Int)) (m := 3) rfl (by omega) (by omega), wad (by omega), wad (by omega), wad (by omega), wsb (by omega) (by omega)]
  generalize hqq : (e - a) / 4 = q
  have hx : ∀ {w' : World}, Ch (fun i => i = b1) w2 w' → Ext w w' := fun hc => e2.then hc fun i hi h => by omega
  refine ⟨by decide, by decide, by decide, fun x W => ∃ p : Nat, x = (p : Int) ∧ (a ≤ p ∧ p < e) ∧ Ar s b W.heap xs ∧ Ct .i64 b1 W ∧ Ch (fun i => i = b1) w2 W, ?_, ?_⟩
  · refine IfB.yes (decide_eq_true (by omega)) ⟨fun x W => ∃ i j k : Nat, x = ((i : Int), (j : Int), (k : Int)) ∧ (a ≤ i ∧ i < e) ∧ (a ≤ j ∧ j < e) ∧ (a ≤ k ∧ k < e) ∧ Ar s b W.heap xs ∧ Ct .i64 b1 W ∧ Ch (fun i => i = b1) w2 W, ?_, ?_⟩
    · refine IfB.dec (fun h50 => ?_) (fun _ => ⟨rfl, _, _, _, rfl, by omega, by omega, by omega, hA2, hc2, Ch.refl _ _⟩)
      have h50 : 50 ≤ e - a := by omega
      refine (c125 hcp hA2 hc2 hne (by omega) (by omega)).use ?_
      rintro _ w6 ⟨i, rfl, hi, h6, k6, l6⟩
      refine ⟨_, rfl, (c125 hcp h6 k6 hne (by omega) (by omega)).use ?_⟩
      rintro _ w9 ⟨j, rfl, hj, h9, k9, l9⟩
      refine ⟨_, rfl, (c125 hcp h9 k9 hne (by omega) (by omega)).use ?_⟩
      rintro _ w12 ⟨k, rfl, hk, h12, k12, l12⟩
      exact ⟨_, rfl, rfl, i, j, k, rfl, by omega, by omega, by omega, h12, k12, (l6.trans l9).trans l12⟩
    · rintro _ w15 _ ⟨i, j, k, rfl, hi, hj, hk, h15, k15, l15⟩
      refine (c126 hcp h15 k15 hne (by omega) (by omega) (by omega)).use ?_
      rintro _ w19 ⟨x, rfl, hx, h19, k19, l19⟩
      exact ⟨_, rfl, rfl, x, rfl, by omega, h19, k19, l15.trans l19⟩
  · rintro _ w22 _ ⟨p, rfl, hp, h22, ⟨T, n, hn⟩, l22⟩
    refine ⟨n, by rw [cell_of hn]; rfl, IfB.intro (fun _ => ⟨p, 1, rfl, hp, h22, hx l22⟩) fun _ => IfB.intro (fun _ => ⟨p, 2, rfl, hp, h22, hx l22⟩) fun _ => ⟨p, 0, rfl, hp, h22, hx l22⟩⟩
structure Pt (a e : Nat) (xs ys : List El) (v : Int) (Lo : Int → Prop) (i j : Nat) : Prop where
  pi : PI a e xs ys
  len : e ≤ xs.length
  v : g ys a = v
  ai : a + 1 ≤ i
  ij : i ≤ j + 1
  je : j + 1 ≤ e
  lo : ∀ k, a < k → k < i → Lo (g ys k)
  hi : ∀ k, j < k → k < e → ¬ Lo (g ys k)
theorem Pt.up {a e i j : Nat} {xs ys : List El} {v : Int} {Lo : Int → Prop} (h : Pt a e xs ys v Lo i j) (hij : i ≤ j) (hl : Lo (g ys i)) : Pt a e xs ys v Lo (i + 1) j := by
  have h1 := h.ai
  refine ⟨h.pi, h.len, h.v, by omega, by omega, h.je, fun k h1 h2 => ?_, h.hi⟩
  by_cases hk : k = i
  · subst hk; exact hl
  · exact h.lo k h1 (by omega)
theorem Pt.dn {a e i j : Nat} {xs ys : List El} {v : Int} {Lo : Int → Prop} (h : Pt a e xs ys v Lo i j) (hij : i ≤ j) (hl : ¬ Lo (g ys j)) : Pt a e xs ys v Lo i (j - 1) := by
  have h1 := h.ai; have h2 := h.je
  refine ⟨h.pi, h.len, h.v, h1, by omega, by omega, h.lo, fun k h1 h2 => ?_⟩
  by_cases hk : k = j
  · subst hk; exact hl
  · exact h.hi k (by omega) h2
theorem Pt.sw {a e i j : Nat} {xs ys : List El} {v : Int} {Lo : Int → Prop} (h : Pt a e xs ys v Lo i j) (hij : i ≤ j) (h1 : ¬ Lo (g ys i)) (h2 : Lo (g ys j)) : Pt a e xs (swp ys i j) v Lo (i + 1) (j - 1) := by
  have hne : i ≠ j := fun e => h1 (e ▸ h2)
  have hl := h.pi.len; have h3 := h.len; have h4 := h.ai; have h5 := h.je
  refine ⟨.step h.pi (by omega) (by omega) (by omega) (by omega) (by omega), h3, ?_, by omega, by omega, by omega, fun k h6 h7 => ?_, fun k h6 h7 => ?_⟩
  · rw [g_swo (by omega) (by omega) (by omega) (by omega)]; exact h.v
  · by_cases hk : k = i
    · subst hk; rw [g_swl (by omega) (by omega)]; exact h2
    · rw [g_swo (by omega) (by omega) (by omega) (by omega)]; exact h.lo k h6 (by omega)
  · by_cases hk : k = j
    · subst hk; rw [g_swq (by omega) (by omega)]; exact h1
    · rw [g_swo (by omega) (by omega) (by omega) (by omega)]; exact h.hi k (by omega) h7
theorem upPart {cl : Nat × Array Value} (hcp : CmpP cl) {s : Sl} {b a e i j : Nat} {w : World} {xs ys : List El} {v : Int} {y : Int → World → Prop} (hP : Pt a e xs ys v (fun x => x < v) i j) (hA : Ar s b w.heap ys)
    (hy : ∀ (i' : Nat) (w' : World), Pt a e xs ys v (fun x => x < v) i' j → (j < i' ∨ ¬ g ys i' < v) → i ≤ i' → Ext w w' → y (i' : Int) w') :
    ∃ y14 : Nat → Int → World → Prop, (∃ b15, y14 b15 (i : Int) w) ∧ ∀ (b16 : Nat) (n17 : Int) (w18 : World) (_ : Nat → Value), y14 b16 n17 w18 → F123j6 s a cl ((0 : Int), (j : Int)) y y14 b16 n17 w18 := by
  refine ⟨fun n x W => ∃ i' : Nat, n = j + 1 - i' ∧ x = (i' : Int) ∧ i ≤ i' ∧ Pt a e xs ys v (fun x => x < v) i' j ∧ Ext w W, ⟨_, i, rfl, rfl, Nat.le_refl _, hP, Ch.refl _ _⟩, ?_⟩
  rintro _ _ W _ ⟨i', rfl, rfl, hii, hP', hW⟩
  have hl := hP'.pi.len; have h3 := hP'.len; have h4 := hP'.ai; have h5 := hP'.je; have h6 := hA.2.2.1
  have hd := hW.trans (extDrew W)
  refine IfB.dec (fun hle => ?_) (fun hgt => ⟨rfl, hy i' _ hP' (.inl (by omega)) hii hd⟩)
  have hle : i' ≤ j := by omega
  refine ls hcp (w := W.drew) (hA.ch hd id) (by omega) (by omega) (by omega) (by omega) (fun nn ww hn eC => have hd := hd.trans eC; decC hn (fun hl1 => ?_) (fun hl1 => ⟨rfl, hy i' _ hP' (.inr ?_) hii hd⟩))
  · rw [Int.toNat_natCast, Int.toNat_natCast, hP'.v] at hl1
    exact ⟨rfl, _, by omega, i' + 1, rfl, wp1 (by omega), by omega, hP'.up hle hl1, hd⟩
  · rw [Int.toNat_natCast, Int.toNat_natCast, hP'.v] at hl1; exact hl1
theorem dnPart {cl : Nat × Array Value} (hcp : CmpP cl) {s : Sl} {b a e i j : Nat} {w : World} {xs ys : List El} {v : Int} {y : Int → World → Prop} (hP : Pt a e xs ys v (fun x => x < v) i j) (hA : Ar s b w.heap ys)
    (hy : ∀ (j' : Nat) (w' : World), Pt a e xs ys v (fun x => x < v) i j' → (j' < i ∨ g ys j' < v) → j' ≤ j → Ext w w' → y (j' : Int) w') :
    ∃ y14 : Nat → Int → World → Prop, (∃ b15, y14 b15 (j : Int) w) ∧ ∀ (b16 : Nat) (n17 : Int) (w18 : World) (_ : Nat → Value), y14 b16 n17 w18 → F123j8 s a cl (i : Int) y y14 b16 n17 w18 := by
  refine ⟨fun n x W => ∃ j' : Nat, j' = n ∧ x = (j' : Int) ∧ j' ≤ j ∧ Pt a e xs ys v (fun x => x < v) i j' ∧ Ext w W, ⟨_, j, rfl, rfl, Nat.le_refl _, hP, Ch.refl _ _⟩, ?_⟩
  rintro _ _ W _ ⟨j', rfl, rfl, hjj, hP', hW⟩
  have hl := hP'.pi.len; have h3 := hP'.len; have h4 := hP'.ai; have h5 := hP'.je; have h6 := hA.2.2.1
  have hd := hW.trans (extDrew W)
  refine IfB.dec (fun hle => ?_) (fun hgt => ⟨rfl, hy j' _ hP' (.inl (by omega)) hjj hd⟩)
  have hle : i ≤ j' := by omega
  refine ls hcp (w := W.drew) (hA.ch hd id) (by omega) (by omega) (by omega) (by omega) (fun nn ww hn eC => have hd := hd.trans eC; introC hn (fun hl1 => ?_) (fun hl1 => ⟨rfl, hy j' _ hP' (.inr ?_) hjj hd⟩))
  · simp only [Int.toNat_natCast, hP'.v, Bool.not_eq_true', decide_eq_false_iff_not] at hl1
    exact ⟨rfl, j' - 1, by omega, j' - 1, rfl, wm1 (by omega) (by omega), by omega, hP'.dn hle hl1, hd⟩
  · simp only [Int.toNat_natCast, hP'.v, Bool.not_eq_false', decide_eq_true_eq] at hl1; exact hl1
theorem c123 {cl : Nat × Array Value} (hcp : CmpP cl) {s : Sl} {b : Nat} {w : World} {xs : List El} {a e p : Nat} (h : Ar s b w.heap xs) (he : e ≤ xs.length) (hp : a ≤ p ∧ p < e) :
    CW Try.prog 123 #[slV s, iv a, iv e, iv p, .func (.func cl.1) #[] cl.2] w fun v w' => ∃ (m : Nat) (t : Bool), v = .tuple #[iv m, .bool t] ∧ (a ≤ m ∧ m < e) ∧ ∃ ys, PI a e xs ys ∧ (∀ k, a ≤ k → k < m → g ys k < g ys m) ∧ (∀ k, m < k → k < e → g ys m ≤ g ys k) ∧ Ar s b w'.heap ys ∧ CB b w w' := by
  have hl := h.2.2.1
  refine F123_ok s a e p cl w _ ?_
  have hCd : CB b w w.drew := (extDrew w).mono fun _ _ h => h.elim
  refine sw (w := w.drew) h (by omega) (by omega) (by omega) (by omega) fun w12 h12 C12 => ?_
  rw [Int.toNat_natCast, Int.toNat_natCast] at h12
  have C12 := hCd.trans C12
  have hP0 : Pt a e xs (swp xs a p) (g (swp xs a p) a) (fun x => x < g (swp xs a p) a) (a + 1) (e - 1) :=
    ⟨.step .refl (by omega) (by omega) (by omega) (by omega) he, he, rfl, by omega, by omega, by omega, fun k h1 h2 => by omega, fun k h1 h2 => by omega⟩
  generalize swp xs a p = ys0 at hP0 h12
  generalize g ys0 a = v at hP0
  have fin : ∀ {ys : List El} {j : Nat} {W : World} {t : Bool}, Pt a e xs ys v (fun x => x < v) (j + 1) j → Ar s b W.heap ys → CB b w W →
      ∀ W2 : World, Ar s b W2.heap (swp ys j a) → CB b W W2 → ∃ (m : Nat) (t' : Bool), Value.tuple #[iv j, .bool t] = .tuple #[iv m, .bool t'] ∧ (a ≤ m ∧ m < e) ∧ ∃ ys, PI a e xs ys ∧ (∀ k, a ≤ k → k < m → g ys k < g ys m) ∧ (∀ k, m < k → k < e → g ys m ≤ g ys k) ∧ Ar s b W2.heap ys ∧ CB b w W2 := by
    intro ys j W t hP hA hC W2 hA2 hC2
    have hyl := hP.pi.len; have h4 := hP.ai; have h5 := hP.je
    have gj : g (swp ys j a) j = v := by rw [g_swl (by omega) (by omega)]; exact hP.v
    refine ⟨j, t, rfl, by omega, _, .step hP.pi (by omega) (by omega) (by omega) (by omega) (by omega), fun k h1 h2 => ?_, fun k h1 h2 => ?_, hA2, hC.trans hC2⟩
    · rw [gj]
      by_cases hk : k = a
      · subst hk; rw [g_swq (by omega) (by omega)]; exact hP.lo j (by omega) (by omega)
      · rw [g_swo (by omega) (by omega) (by omega) (by omega)]; exact hP.lo k (by omega) (by omega)
    · rw [gj, g_swo (by omega) (by omega) (by omega) (by omega)]
      have := hP.hi k h1 h2
      omega
  refine ⟨fun x W => ∃ i : Nat, x = (i : Int) ∧ Pt a e xs ys0 v (fun x => x < v) i (e - 1) ∧ (e - 1 < i ∨ ¬ g ys0 i < v) ∧ Ar s b W.heap ys0 ∧ CB b w W, ?_, ?_⟩
  · unfold F123j1
    rw [wp1 (by omega), wm1 (by omega) (by omega)]
    exact upPart hcp hP0 h12 fun i' w' h1 h2 _ h3 => ⟨i', rfl, h1, h2, h12.ch h3 id, C12.then h3 fun _ _ h => h.elim⟩
  rintro _ W _ ⟨i, rfl, hP, hi, hA, hC⟩
  refine ⟨fun x W' => ∃ j : Nat, x = (j : Int) ∧ Pt a e xs ys0 v (fun x => x < v) i j ∧ (j < i ∨ g ys0 j < v) ∧ (j < i ∨ ¬ g ys0 i < v) ∧ Ar s b W'.heap ys0 ∧ CB b w W', ?_, ?_⟩
  · unfold F123j3
    rw [wm1 (by omega) (by omega)]
    exact dnPart hcp hP hA fun j' w' h1 h2 h3 h4 => ⟨j', rfl, h1, h2, by omega, hA.ch h4 id, hC.then h4 fun _ _ h => h.elim⟩
  rintro _ W1 _ ⟨j, rfl, hP1, hj1, hj2, hA1, hC1⟩
  have hyl := hP1.pi.len; have h4 := hP1.ai; have h5 := hP1.je; have h6 := hP1.ij
  have hC1d : CB b w W1.drew := hC1.then (extDrew W1) fun _ _ h => h.elim
  unfold F123j4
  refine IfB.dec (fun hlt => ?_) (fun hge => ?_)
  · have hij : i = j + 1 := by omega
    subst hij
    refine sw (w := W1.drew) hA1 (by omega) (by omega) (by omega) (by omega) fun W2 h2 C2 => ?_
    rw [Int.toNat_natCast, Int.toNat_natCast] at h2
    exact fin (W := W1.drew) hP1 hA1 hC1d W2 h2 C2
  · have hij : i ≤ j := by omega
    refine sw (w := W1.drew) hA1 (by omega) (by omega) (by omega) (by omega) fun W2 h2 C2 => ?_
    rw [Int.toNat_natCast, Int.toNat_natCast] at h2
    have hP2 := hP1.sw hij (by omega) (by omega)
    have C2 := hC1d.trans C2
    refine ⟨fun n x W => ∃ (i j : Nat) (ys : List El), n = j + 1 - i ∧ x = ((i : Int), (j : Int)) ∧ Pt a e xs ys v (fun x => x < v) i j ∧ Ar s b W.heap ys ∧ CB b w W, ⟨_, i + 1, j - 1, _, rfl, by rw [wp1 (by omega), wm1 (by omega) (by omega)], hP2, h2, C2⟩, ?_⟩
    rintro _ _ W3 _ ⟨i3, j3, ys3, rfl, rfl, hP3, hA3, hC3⟩
    unfold F123j5
    refine ⟨fun x W => ∃ i : Nat, x = (i : Int) ∧ i3 ≤ i ∧ Pt a e xs ys3 v (fun x => x < v) i j3 ∧ (j3 < i ∨ ¬ g ys3 i < v) ∧ Ar s b W.heap ys3 ∧ CB b w W, ?_, ?_⟩
    · exact upPart hcp hP3 hA3 fun i' w' h1 h2 h3 h4 => ⟨i', rfl, h3, h1, h2, hA3.ch h4 id, hC3.then h4 fun _ _ h => h.elim⟩
    rintro _ W4 _ ⟨i4, rfl, hi34, hP4, hi4, hA4, hC4⟩
    refine ⟨fun x W' => ∃ j : Nat, x = (j : Int) ∧ j ≤ j3 ∧ Pt a e xs ys3 v (fun x => x < v) i4 j ∧ (j < i4 ∨ g ys3 j < v) ∧ (j < i4 ∨ ¬ g ys3 i4 < v) ∧ Ar s b W'.heap ys3 ∧ CB b w W', ?_, ?_⟩
    · exact dnPart hcp hP4 hA4 fun j' w' h1 h2 h3 h4 => ⟨j', rfl, h3, h1, h2, by omega, hA4.ch h4 id, hC4.then h4 fun _ _ h => h.elim⟩
    rintro _ W5 _ ⟨j5, rfl, hj5, hP5, hj51, hj52, hA5, hC5⟩
    have hyl := hP5.pi.len; have h4 := hP5.ai; have h5 := hP5.je; have h6 := hP5.ij
    have hC5d : CB b w W5.drew := hC5.then (extDrew W5) fun _ _ h => h.elim
    unfold F123j9
    refine IfB.dec (fun hlt => ?_) (fun hge => ?_)
    · have hij : i4 = j5 + 1 := by omega
      subst hij
      refine sw (w := W5.drew) hA5 (by omega) (by omega) (by omega) (by omega) fun W6 h6 C6 => ?_
      rw [Int.toNat_natCast, Int.toNat_natCast] at h6
      exact fin (W := W5.drew) hP5 hA5 hC5d W6 h6 C6
    · have hij : i4 ≤ j5 := by omega
      refine sw (w := W5.drew) hA5 (by omega) (by omega) (by omega) (by omega) fun W6 h6 C6 => ?_
      rw [Int.toNat_natCast, Int.toNat_natCast] at h6
      exact ⟨rfl, _, by omega, i4 + 1, j5 - 1, _, rfl, by rw [wp1 (by omega), wm1 (by omega) (by omega)], hP5.sw hij (by omega) (by omega), h6, hC5d.trans C6⟩
theorem c122 {cl : Nat × Array Value} (hcp : CmpP cl) {s : Sl} {b : Nat} {w : World} {xs : List El} {a e p : Nat} (h : Ar s b w.heap xs) (he : e ≤ xs.length) (hp : a ≤ p ∧ p < e) :
    CW Try.prog 122 #[slV s, iv a, iv e, iv p, .func (.func cl.1) #[] cl.2] w fun v w' => ∃ m : Nat, v = iv m ∧ (a < m ∧ m ≤ e) ∧ ∃ ys, PI a e xs ys ∧ g ys a = g xs p ∧ (∀ k, a ≤ k → k < m → ¬ g xs p < g ys k) ∧ (∀ k, m ≤ k → k < e → g xs p < g ys k) ∧ Ar s b w'.heap ys ∧ CB b w w' := by
  have hl := h.2.2.1
  refine F122_ok s a e p cl w _ ?_
  have hCd : CB b w w.drew := (extDrew w).mono fun _ _ h => h.elim
  refine sw (w := w.drew) h (by omega) (by omega) (by omega) (by omega) fun w12 h12 C12 => ?_
  rw [Int.toNat_natCast, Int.toNat_natCast] at h12
  have C12 := hCd.trans C12
  have hv : g (swp xs a p) a = g xs p := g_swl (by omega) (by omega)
  have hP0 : Pt a e xs (swp xs a p) (g xs p) (fun x => ¬ g xs p < x) (a + 1) (e - 1) :=
    ⟨.step .refl (by omega) (by omega) (by omega) (by omega) he, he, hv, by omega, by omega, by omega, fun k h1 h2 => by omega, fun k h1 h2 => by omega⟩
  generalize swp xs a p = ys0 at hP0 h12
  clear hv
  generalize g xs p = v at hP0
  refine ⟨fun n x W => ∃ (i j : Nat) (ys : List El), n = j + 1 - i ∧ x = ((i : Int), (j : Int)) ∧ Pt a e xs ys v (fun x => ¬ v < x) i j ∧ Ar s b W.heap ys ∧ CB b w W, ⟨_, a + 1, e - 1, _, rfl, by rw [wp1 (by omega), wm1 (by omega) (by omega)], hP0, h12, C12⟩, ?_⟩
  rintro _ _ W3 _ ⟨i3, j3, ys3, rfl, rfl, hP3, hA3, hC3⟩
  unfold F122j1
  refine ⟨fun x W => ∃ i : Nat, x = (i : Int) ∧ i3 ≤ i ∧ Pt a e xs ys3 v (fun x => ¬ v < x) i j3 ∧ (j3 < i ∨ v < g ys3 i) ∧ Ar s b W.heap ys3 ∧ CB b w W, ?_, ?_⟩
  · refine ⟨fun n x W => ∃ i : Nat, n = j3 + 1 - i ∧ x = (i : Int) ∧ i3 ≤ i ∧ Pt a e xs ys3 v (fun x => ¬ v < x) i j3 ∧ Ar s b W.heap ys3 ∧ CB b w W, ⟨_, i3, rfl, rfl, Nat.le_refl _, hP3, hA3, hC3⟩, ?_⟩
    rintro _ _ W _ ⟨i, rfl, rfl, hii, hP, hA, hC⟩
    have hyl := hP.pi.len; have h4 := hP.ai; have h5 := hP.je; have h6 := hP.ij
    have hd : CB b w W.drew := hC.then (extDrew W) fun _ _ h => h.elim
    unfold F122j2
    refine IfB.dec (fun hle => ?_) (fun hgt => ⟨rfl, i, rfl, hii, hP, .inl ?_, hA, hd⟩)
    · have hle : i ≤ j3 := by
        have : (i : Int) ≤ (j3 : Int) := hle
        omega
      refine ls hcp (w := W.drew) hA (by omega) (by omega) (by omega) (by omega) (fun nn ww hn eC => have hA := Ar.ch (w := W.drew) hA eC id; have hd := CBe hd eC; introC hn (fun hl1 => ?_) (fun hl1 => ⟨rfl, i, rfl, hii, hP, .inr ?_, hA, hd⟩))
      · simp only [Int.toNat_natCast, hP.v, Bool.not_eq_true', decide_eq_false_iff_not] at hl1
        exact ⟨rfl, _, by omega, i + 1, rfl, wp1 (by omega), by omega, hP.up hle hl1, hA, hd⟩
      · simp only [Int.toNat_natCast, hP.v, Bool.not_eq_false', decide_eq_true_eq] at hl1; exact hl1
    · have : ¬ (i : Int) ≤ (j3 : Int) := hgt
      omega
  rintro _ W4 _ ⟨i4, rfl, hi34, hP4, hi4, hA4, hC4⟩
  refine ⟨fun x W' => ∃ j : Nat, x = (j : Int) ∧ j ≤ j3 ∧ Pt a e xs ys3 v (fun x => ¬ v < x) i4 j ∧ (j < i4 ∨ ¬ v < g ys3 j) ∧ (j < i4 ∨ v < g ys3 i4) ∧ Ar s b W'.heap ys3 ∧ CB b w W', ?_, ?_⟩
  · refine ⟨fun n x W => ∃ j : Nat, j = n ∧ x = (j : Int) ∧ j ≤ j3 ∧ Pt a e xs ys3 v (fun x => ¬ v < x) i4 j ∧ (j < i4 ∨ v < g ys3 i4) ∧ Ar s b W.heap ys3 ∧ CB b w W, ⟨_, j3, rfl, rfl, Nat.le_refl _, hP4, by omega, hA4, hC4⟩, ?_⟩
    rintro _ _ W _ ⟨j, rfl, rfl, hjj, hP, hi, hA, hC⟩
    have hyl := hP.pi.len; have h4 := hP.ai; have h5 := hP.je; have h6 := hP.ij
    have hd : CB b w W.drew := hC.then (extDrew W) fun _ _ h => h.elim
    unfold F122j4
    refine IfB.dec (fun hle => ?_) (fun hgt => ⟨rfl, j, rfl, hjj, hP, .inl (by omega), hi, hA, hd⟩)
    have hle : i4 ≤ j := by omega
    refine ls hcp (w := W.drew) hA (by omega) (by omega) (by omega) (by omega) (fun nn ww hn eC => have hA := Ar.ch (w := W.drew) hA eC id; have hd := CBe hd eC; decC hn (fun hl1 => ?_) (fun hl1 => ⟨rfl, j, rfl, hjj, hP, .inr ?_, hi, hA, hd⟩))
    · rw [Int.toNat_natCast, Int.toNat_natCast, hP.v] at hl1
      exact ⟨rfl, j - 1, by omega, j - 1, rfl, wm1 (by omega) (by omega), by omega, hP.dn hle (by omega), by omega, hA, hd⟩
    · rw [Int.toNat_natCast, Int.toNat_natCast, hP.v] at hl1; exact hl1
  rintro _ W5 _ ⟨j5, rfl, hj5, hP5, hj51, hj52, hA5, hC5⟩
  have hyl := hP5.pi.len; have h4 := hP5.ai; have h5 := hP5.je; have h6 := hP5.ij
  have hC5d : CB b w W5.drew := hC5.then (extDrew W5) fun _ _ h => h.elim
  unfold F122j5
  refine IfB.dec (fun hlt => ?_) (fun hge => ?_)
  · refine ⟨i4, rfl, by omega, ys3, hP5.pi, hP5.v, fun k h1 h2 => ?_, fun k h1 h2 => ?_, hA5, hC5⟩
    · by_cases hk : k = a
      · subst hk; rw [hP5.v]; omega
      · exact hP5.lo k (by omega) h2
    · have := hP5.hi k (by omega) h2
      omega
  · have hij : i4 ≤ j5 := by omega
    refine sw (w := W5.drew) hA5 (by omega) (by omega) (by omega) (by omega) fun W6 h6 C6 => ?_
    rw [Int.toNat_natCast, Int.toNat_natCast] at h6
    exact ⟨rfl, _, by omega, i4 + 1, j5 - 1, _, rfl, by rw [wp1 (by omega), wm1 (by omega) (by omega)], hP5.sw hij (by omega) (by omega), h6, hC5d.trans C6⟩
theorem c121 {cl : Nat × Array Value} (hcp : CmpP cl) {s : Sl} {b : Nat} {w : World} {xs : List El} {a e : Nat} (h : Ar s b w.heap xs) (he : e ≤ xs.length) (ha : a < e) (hb : 0 < a → ∀ k, a ≤ k → k < e → g xs (a - 1) ≤ g xs k) :
    CW Try.prog 121 #[slV s, iv a, iv e, .func (.func cl.1) #[] cl.2] w fun v w' => ∃ t, v = .bool t ∧ ∃ ys, PI a e xs ys ∧ (t = true → SO ys a e) ∧ Ar s b w'.heap ys ∧ CB b w w' := by
  have hl := h.2.2.1
  have lb : ∀ {ys}, PI a e xs ys → 0 < a → ∀ k, a ≤ k → k < e → g ys (a - 1) ≤ g ys k := fun {ys} hP h0 k h1 h2 => by
    rw [hP.out (.inl (by omega))]
    exact hP.all (Q := fun v => g xs (a - 1) ≤ v) (fun i h3 h4 => hb h0 i h3 h4) k h1 h2
  refine F121_ok s a e cl w _ ⟨fun n x W => ∃ (i j : Nat) (ys : List El), n = 5 - j ∧ x = ((i : Int), (j : Int)) ∧ j ≤ 5 ∧ (a + 1 ≤ i ∧ i ≤ e) ∧ PI a e xs ys ∧ SO ys a i ∧ Ar s b W.heap ys ∧ CB b w W, ⟨_, a + 1, 0, xs, rfl, by rw [wp1 (by omega)]; rfl, by omega, by omega, .refl, fun p q _ _ _ => by omega, h, Ch.refl _ _⟩, ?_⟩
  rintro _ _ W _ ⟨i0, j0, ys, rfl, rfl, hj0, hi0, hP, hS0, hA, hC⟩
  have hyl := hP.len
  refine IfB.dec (fun hlt => ?_) (fun hge => ⟨false, rfl, ys, hP, (fun h => by cases h), hA, hC⟩)
  have hj5 : j0 < 5 := by
    have : (j0 : Int) < 5 := hlt
    omega
  refine ⟨fun x W => ∃ i : Nat, x = (i : Int) ∧ (a + 1 ≤ i ∧ i ≤ e) ∧ SO ys a i ∧ Ar s b W.heap ys ∧ CB b w W, ?_, ?_⟩
  · refine ⟨fun n x W => ∃ i : Nat, n = e - i ∧ x = (i : Int) ∧ (a + 1 ≤ i ∧ i ≤ e) ∧ SO ys a i ∧ Ar s b W.heap ys ∧ CB b w W, ⟨_, i0, rfl, rfl, hi0, hS0, hA, hC⟩, ?_⟩
    rintro _ _ W1 _ ⟨i, rfl, rfl, hi, hS, hA1, hC1⟩
    unfold F121j2
    refine IfB.dec (fun hlt => ?_) (fun hge => ⟨rfl, i, rfl, hi, hS, hA1, hC1.drew⟩)
    rw [wm1 (by omega) (by omega)]
    refine ls hcp (w := W1.drew) hA1 (by omega) (by omega) (by omega) (by omega) (fun nn ww hn eC => have hA1 := Ar.ch (w := W1.drew) hA1 eC id; have hC1 := CBe (CB.drew hC1) eC; introC hn (fun hl1 => ?_) (fun hl1 => ⟨rfl, i, rfl, hi, hS, hA1, hC1⟩))
    simp only [Int.toNat_natCast, Bool.not_eq_true', decide_eq_false_iff_not] at hl1
    refine ⟨rfl, _, by omega, i + 1, rfl, wp1 (by omega), by omega, fun p q h1 h2 h3 => ?_, hA1, hC1⟩
    by_cases hq : q = i
    · subst hq
      by_cases hp : p = q - 1
      · subst hp; omega
      · have := hS p (q - 1) h1 (by omega) (by omega)
        omega
    · exact hS p q h1 h2 (by omega)
  rintro _ W2 _ ⟨i, rfl, hi, hS, hA2, hC2⟩
  unfold F121j3
  refine IfB.intro (fun hi3 => ?_) (fun hi3 => ?_)
  · have hi3 : (i : Int) = (e : Int) := by simpa using hi3
    have : i = e := by omega
    subst this
    exact ⟨true, rfl, ys, hP, fun _ => hS, hA2, hC2⟩
  have hie : i < e := by
    have : (i : Int) ≠ (e : Int) := by simpa using hi3
    omega
  rw [wsb (by omega) (by omega)]
  refine @IfB.dec (((e - a : Nat) : Int) < (50 : Int)) _ _ _ (fun _ => ⟨false, rfl, ys, hP, (fun h => by cases h), hA2, hC2⟩) (fun _ => ?_)
  rw [wm1 (by omega) (by omega)]
  refine sw (w := W2.drew) hA2 (by omega) (by omega) (by omega) (by omega) fun W3 hA3 hC3 => ?_
  rw [Int.toNat_natCast, Int.toNat_natCast] at hA3
  have hP3 : PI a e xs (swp ys i (i - 1)) := .step hP (by omega) (by omega) (by omega) (by omega) (by omega)
  have hC3 := (CB.drew hC2).trans hC3
  rw [wsb (by omega) (by omega)]
  refine ⟨fun _ W => ∃ zs, PI a e xs zs ∧ SO zs a i ∧ Ar s b W.heap zs ∧ CB b w W, ?_, ?_⟩
  · refine IfB.dec (fun h2 => ?_) (fun h2 => ⟨rfl, _, hP3, fun p q _ _ _ => by omega, hA3, hC3⟩)
    refine ⟨fun n x W => ∃ (j : Nat) (zs : List El), j = n ∧ x = (j : Int) ∧ (a ≤ j ∧ j ≤ i - 1) ∧ PI a e xs zs ∧ (∀ p q, a ≤ p → p < q → q < i → q ≠ j → g zs p ≤ g zs q) ∧ Ar s b W.heap zs ∧ CB b w W, ⟨_, i - 1, _, rfl, rfl, by omega, hP3, fun p q h1 h2 h3 h4 => ?_, hA3, hC3⟩, ?_⟩
    · rw [g_swo (by omega) (by omega) (by omega) (by omega), g_swo (by omega) (by omega) (by omega) (by omega)]
      exact hS p q h1 h2 h3
    rintro _ _ W4 _ ⟨j, zs, rfl, rfl, hj, hP4, hS4, hA4, hC4⟩
    have hzl := hP4.len
    unfold F121j4
    refine IfB.dec (fun hj1 => ?_) (fun hj1 => ⟨rfl, zs, hP4, fun p q h1 h2 h3 => hS4 p q h1 h2 h3 (by omega), hA4, hC4⟩)
    rw [wm1 (by omega) (by omega)]
    refine ls hcp (w := W4.drew) hA4 (by omega) (by omega) (by omega) (by omega) (fun nn ww hn eC => have hA4 := Ar.ch (w := W4.drew) hA4 eC id; have hC4 := CBe (CB.drew hC4) eC; introC hn (fun hl1 => ?_) (fun hl1 => ?_))
    · simp only [Int.toNat_natCast, Bool.not_eq_true', decide_eq_false_iff_not] at hl1
      refine ⟨rfl, zs, hP4, fun p q h1 h2 h3 => ?_, hA4, hC4⟩
      by_cases hq : q = j
      · subst hq
        by_cases hp : p = q - 1
        · subst hp; omega
        · have := hS4 p (q - 1) h1 (by omega) (by omega) (by omega)
          omega
      · exact hS4 p q h1 h2 h3 hq
    · simp only [Int.toNat_natCast, Bool.not_eq_false', decide_eq_true_eq] at hl1
      have haj : a < j := by
        rcases Nat.lt_or_ge a j with h | h
        · exact h
        · have : a = j := by omega
          subst this
          have := lb hP4 (by omega) a (Nat.le_refl _) (by omega)
          omega
      refine sw (w := ww.drew) hA4 (by omega) (by omega) (by omega) (by omega) fun W5 hA5 hC5 => ?_
      rw [Int.toNat_natCast, Int.toNat_natCast] at hA5
      refine ⟨rfl, j - 1, by omega, j - 1, _, rfl, rfl, by omega, .step hP4 (by omega) (by omega) (by omega) (by omega) (by omega), fun p q h1 h2 h3 h4 => ?_, hA5, (CB.drew hC4).trans hC5⟩
      rw [g_swp (by omega) (by omega), g_swp (by omega) (by omega)]
      have A1 := hS4 p (j - 1) h1
      have A2 := hS4 p q h1 h2 h3
      have A3 := hS4 j q (by omega)
      have A4 := hS4 (j - 1) q (by omega)
      split <;> split <;> (try split) <;> (try split) <;> first | omega | skip
  rintro _ W6 _ ⟨zs, hP6, hS6, hA6, hC6⟩
  have hzl := hP6.len
  have next : ∀ {us : List El} {W : World}, PI a e xs us → SO us a i → Ar s b W.heap us → CB b w W → ([] : List Nat) = [] ∧ ∃ b112, b112 < 5 - j0 ∧ ∃ (i' j' : Nat) (ys : List El), b112 = 5 - j' ∧ ((i : Int), IntKind.i64.wrap ((j0 : Int) + (1 : Int))) = ((i' : Int), (j' : Int)) ∧ j' ≤ 5 ∧ (a + 1 ≤ i' ∧ i' ≤ e) ∧ PI a e xs ys ∧ SO ys a i' ∧ Ar s b W.heap ys ∧ CB b w W :=
    fun h1 h2 h3 h4 => ⟨rfl, 5 - (j0 + 1), by omega, i, j0 + 1, _, rfl, by rw [wp1 (by omega)], by omega, by omega, h1, h2, h3, h4⟩
  unfold F121j5
  refine ⟨fun t W => W = W6, ⟨rfl, rfl⟩, ?_⟩
  rintro t _ _ rfl
  refine IfB.intro (fun _ => ?_) (fun _ => next hP6 hS6 hA6 hC6)
  refine ⟨fun n x W => ∃ (j : Nat) (us : List El), n = e - j ∧ x = (j : Int) ∧ (i + 1 ≤ j ∧ j ≤ e) ∧ PI a e xs us ∧ SO us a i ∧ Ar s b W.heap us ∧ CB b w W, ⟨_, i + 1, zs, rfl, wp1 (by omega), by omega, hP6, hS6, hA6, hC6⟩, ?_⟩
  rintro _ _ W7 _ ⟨j, us, rfl, rfl, hj, hP7, hS7, hA7, hC7⟩
  have hul := hP7.len
  unfold F121j7
  refine IfB.dec (fun hlt => ?_) (fun _ => next hP7 hS7 hA7 hC7)
  rw [wm1 (by omega) (by omega)]
  refine ls hcp (w := W7.drew) hA7 (by omega) (by omega) (by omega) (by omega) (fun nn ww hn eC => have hA7 := Ar.ch (w := W7.drew) hA7 eC id; have hC7 := CBe (CB.drew hC7) eC; introC hn (fun _ => next hP7 hS7 hA7 hC7) (fun _ => ?_))
  refine sw (w := ww.drew) hA7 (by omega) (by omega) (by omega) (by omega) fun W8 hA8 hC8 => ?_
  rw [Int.toNat_natCast, Int.toNat_natCast] at hA8
  refine ⟨rfl, _, by omega, j + 1, _, rfl, wp1 (by omega), by omega, .step hP7 (by omega) (by omega) (by omega) (by omega) (by omega), fun p q h1 h2 h3 => ?_, hA8, (CB.drew hC7).trans hC8⟩
  rw [g_swo (by omega) (by omega) (by omega) (by omega), g_swo (by omega) (by omega) (by omega) (by omega)]
  exact hS7 p q h1 h2 h3
theorem c118 {cl : Nat × Array Value} (hcp : CmpP cl) {s : Sl} {b : Nat} {w : World} {xs : List El} {a e : Nat} (h : Ar s b w.heap xs) (he : e ≤ xs.length) (ha : a + 12 < e) :
    CW Try.prog 118 #[slV s, iv a, iv e, .func (.func cl.1) #[] cl.2] w fun v w' => v = .tuple #[] ∧ ∃ ys, PI a e xs ys ∧ Ar s b w'.heap ys ∧ CB b w w' := by
  have hl := h.2.2.1
  have hlt := h.lt
  refine F118_ok s a e cl w _ ?_
  unfold F118
  rw [wsb (by omega) (by omega)]
  refine IfB.yes (decide_eq_true (by omega)) ?_
  intro b1 w2 h2
  have p2 := h2.here; have z2 := h2.size
  rw [wu64 (by omega)]
  refine ⟨rfl, store_all h2.new rfl (by intro u hu; simp at hu; subst hu; rfl) fun w3 h3 => ?_⟩
  have e3 : Ext w w3 := Ext.fresh h2 h3
  have hne : b1 ≠ b := by omega
  refine (c104 (x := e - a) (by omega) w3).use ?_
  rintro _ _ ⟨L, rfl, hL, rfl⟩
  have hq : IntKind.i64.wrap ((((e - a : Nat) : Int)).tdiv (4 : Int)) = (((e - a) / 4 : Nat) : Int) := by
    rw [Int.tdiv_eq_ediv_of_nonneg (by omega), wrap_of (by omega) (by omega)]; omega
  obtain ⟨hL1, hL2, hL3⟩ := hL
  obtain ⟨hL4, hL5⟩ := hL2 (by omega)
  have h2L : 2 ^ L ≤ 2 * (e - a) := by
    have : 2 ^ L = 2 ^ (L - 1) * 2 := by rw [← Nat.pow_succ]; congr 1; omega
    omega
  have hLpos : 0 < 2 ^ L := Nat.pow_pos (by decide)
  generalize 2 ^ L = M at *
  rw [hq, wmul (k := (2 : Int)) (m := 2) rfl (by omega) (by omega), wad (by omega), wm1 (by omega) (by omega)]
  generalize hqq : (e - a) / 4 = q at *
  refine ⟨_, rfl, by decide, fun n x W => ∃ (i : Nat) (ys : List El), n = a + q * 2 + 2 - i ∧ x = (i : Int) ∧ (a + q * 2 - 1 ≤ i ∧ i ≤ a + q * 2 + 2) ∧ PI a e xs ys ∧ Ar s b W.heap ys ∧ Ct .u64 b1 W ∧ CB b w W, ⟨_, _, xs, rfl, rfl, by omega, .refl, h.ch e3 id, ⟨_, _, h3.new⟩, e3.mono fun _ _ h => h.elim⟩, ?_⟩
  rintro _ _ W _ ⟨i, ys, rfl, rfl, hi, hP, hA, hK, hC⟩
  have hyl := hP.len
  unfold F118j1
  rw [wsb (by omega) (by omega), hq, wmul (k := (2 : Int)) (m := 2) rfl (by omega) (by omega), wad (by omega), wp1 (by omega)]
  refine ⟨by decide, IfB.dec (fun hle => ?_) (fun hgt => ⟨rfl, ys, hP, hA, hC⟩)⟩
  refine (c105 hK).use ?_
  rintro _ w15 ⟨n16, rfl, hK2, hC2⟩
  have hA2 := hA.ch hC2 (Ne.symm hne)
  have hC3 : CB b w w15 := hC.then hC2 fun j hj h => by omega
  have hm : IntKind.u64.wrap ((M : Int) - (1 : Int)) = ((M - 1 : Nat) : Int) := by
    rw [show ((M : Int) - (1 : Int)) = ((M - 1 : Nat) : Int) by omega, wu64 (by omega)]
  obtain ⟨k, hk, hkM⟩ := and_le (n := n16) (m := M - 1) (by omega)
  refine ⟨n16, rfl, fun x W => ∃ t : Nat, x = (t : Int) ∧ t < e - a ∧ w15 = W, ?_, ?_⟩
  · rw [hm, hk, wrap_of (n := (k : Int)) (by omega) (by omega)]
    refine IfB.dec (fun h1 => ⟨rfl, k - (e - a), wsb (by omega) (by omega), by omega, rfl⟩) (fun h1 => ⟨rfl, k, rfl, by omega, rfl⟩)
  rintro _ _ _ ⟨t, rfl, ht, rfl⟩
  unfold F118j2
  rw [wad (by omega)]
  refine sw (w := w15.drew) hA2 (by omega) (by omega) (by omega) (by omega) fun W5 hA5 hC5 => ?_
  rw [Int.toNat_natCast, Int.toNat_natCast] at hA5
  exact ⟨rfl, _, by omega, i + 1, _, rfl, wp1 (by omega), by omega, .step hP (by omega) (by omega) (by omega) (by omega) (by omega), hA5, by
    obtain ⟨T, n, hn⟩ := hK2
    exact ⟨T, n, hC5.at (w := w15.drew) hn hne⟩, hC3.drew.trans hC5⟩
theorem SO.split {ys : List El} {a m e : Nat} (h1 : SO ys a m) (h2 : SO ys (m + 1) e) (hl : ∀ k, a ≤ k → k < m → g ys k ≤ g ys m) (hr : ∀ k, m < k → k < e → g ys m ≤ g ys k) : SO ys a e := by
  intro p q hp hpq hq
  rcases Nat.lt_trichotomy p m with h | h | h
  · rcases Nat.lt_trichotomy q m with k | k | k
    · exact h1 p q hp hpq k
    · subst k; exact hl p hp h
    · have := hl p hp h; have := hr q k hq; omega
  · subst h; exact hr q hpq hq
  · exact h2 p q (by omega) hpq hq
theorem PI.trans' {a b a' b' : Nat} {xs ys zs : List El} (h : PI a b xs ys) (k : PI a' b' ys zs) (h1 : a ≤ a') (h2 : b' ≤ b) (h3 : b ≤ xs.length) : PI a b xs zs :=
  h.trans (k.mono h1 h2 (by rw [h.len]; exact h3))
/-- Nothing of [a, e) is less than what stands ahead of a. -/
def LB (xs : List El) (a e : Nat) : Prop := 0 < a → ∀ k, a ≤ k → k < e → g xs (a - 1) ≤ g xs k
theorem LB.pi {xs ys : List El} {a e : Nat} (h : LB xs a e) (hP : PI a e xs ys) : LB ys a e := fun h0 k h1 h2 => by
  rw [hP.out (.inl (by omega))]
  exact hP.all (Q := fun v => g xs (a - 1) ≤ v) (fun i h3 h4 => h h0 i h3 h4) k h1 h2
/-- Parted at m. -/
def Pd (ys : List El) (a m e : Nat) : Prop := (∀ k, a ≤ k → k < m → g ys k ≤ g ys m) ∧ (∀ k, m < k → k < e → g ys m ≤ g ys k)
theorem Pd.left {ys zs : List El} {a m e : Nat} (h : Pd ys a m e) (hP : PI a m ys zs) : Pd zs a m e := by
  have em : g zs m = g ys m := hP.out (.inr (Nat.le_refl _))
  refine ⟨fun k h1 h2 => ?_, fun k h1 h2 => ?_⟩
  · rw [em]; exact hP.all (Q := fun v => v ≤ g ys m) (fun i h3 h4 => h.1 i h3 h4) k h1 h2
  · rw [em, hP.out (.inr (by omega))]; exact h.2 k h1 h2
theorem Pd.right {ys zs : List El} {a m e : Nat} (h : Pd ys a m e) (hP : PI (m + 1) e ys zs) : Pd zs a m e := by
  have em : g zs m = g ys m := hP.out (.inl (by omega))
  refine ⟨fun k h1 h2 => ?_, fun k h1 h2 => ?_⟩
  · rw [em, hP.out (.inl (by omega))]; exact h.1 k h1 h2
  · rw [em]; exact hP.all (Q := fun v => g ys m ≤ v) (fun i h3 h4 => h.2 i (by omega) h4) k (by omega) h2
theorem SO.keep {ys zs : List El} {a e a' e' : Nat} (h : SO ys a e) (hP : PI a' e' ys zs) (hd : e ≤ a' ∨ e' ≤ a) : SO zs a e := by
  intro p q h1 h2 h3
  rw [hP.out (by omega), hP.out (by omega)]
  exact h p q h1 h2 h3
theorem c113 {cl : Nat × Array Value} (hcp : CmpP cl) (n : Nat) : ∀ {s : Sl} {b : Nat} {w : World} {xs : List El} {a e : Nat} (lim : Int), e - a = n → Ar s b w.heap xs → e ≤ xs.length → a ≤ e → LB xs a e →
    CW Try.prog 113 #[slV s, iv a, iv e, iv lim, .func (.func cl.1) #[] cl.2] w fun v w' => v = .tuple #[] ∧ ∃ ys, PI a e xs ys ∧ SO ys a e ∧ Ar s b w'.heap ys ∧ CB b w w' := by
  induction n using Nat.strongRecOn with
  | _ n ih =>
  intro s b w xs a e lim hn h he hae hLB
  have hl := h.2.2.1
  refine F113_ok s a e lim cl w _ ⟨fun k x W => ∃ (a' e' : Nat) (lm : Int) (wb wp : Bool) (ys : List El), k = e' - a' ∧ x = ((a' : Int), (e' : Int), lm, wb, wp) ∧ (a ≤ a' ∧ a' ≤ e' ∧ e' ≤ e) ∧ PI a e xs ys ∧ LB ys a' e' ∧
    (∀ zs, PI a' e' ys zs → SO zs a' e' → SO zs a e) ∧ Ar s b W.heap ys ∧ CB b w W, ⟨_, a, e, lim, true, true, xs, rfl, rfl, by omega, .refl, hLB, fun _ _ h => h, h, Ch.refl _ _⟩, ?_⟩
  rintro _ _ W _ ⟨a', e', lm, wb, wp, ys, rfl, rfl, hae', hP, hB, hG, hA, hC⟩
  have hyl := hP.len
  have up : ∀ {zs}, PI a' e' ys zs → PI a e xs zs := fun k => hP.trans' k (by omega) (by omega) he
  unfold F113j1
  dsimp only
  rw [wsb (by omega) (by omega)]
  refine IfB.dec (fun h12 => ?_) (fun h12 => ?_)
  · refine (c116 hcp hA (by omega) (by omega)).use ?_
    rintro _ W2 ⟨rfl, zs, hP2, hS2, hA2, hC2⟩
    exact ⟨(), rfl, rfl, zs, up hP2, hG zs hP2 hS2, hA2, hC.trans hC2⟩
  have hbig : a' + 12 < e' := by omega
  refine IfB.intro (fun _ => ?_) (fun _ => ?_)
  · refine (c117 hcp hA (by omega) (by omega)).use ?_
    rintro _ W2 ⟨rfl, zs, hP2, hS2, hA2, hC2⟩
    exact ⟨(), rfl, rfl, zs, up hP2, hG zs hP2 hS2, hA2, hC.trans hC2⟩
  refine ⟨fun _ W => ∃ zs, PI a' e' ys zs ∧ Ar s b W.heap zs ∧ CB b w W, ?_, ?_⟩
  · refine IfB.intro (fun _ => ?_) (fun _ => ⟨rfl, ys, .refl, hA, hC⟩)
    refine (c118 hcp hA (by omega) hbig).use ?_
    rintro _ W2 ⟨rfl, zs, hP2, hA2, hC2⟩
    exact ⟨(), rfl, rfl, zs, hP2, hA2, hC.trans hC2⟩
  rintro lm2 W2 _ ⟨zs, hP2, hA2, hC2⟩
  have hzl := hP2.len
  unfold F113j2
  dsimp only
  refine (c119 hcp hA2 (by omega) hbig).use ?_
  rintro _ W3 ⟨p, t, rfl, hp, hA3, e3⟩
  have hC3 : CB b w W3 := hC2.then e3 fun _ _ h => h.elim
  refine ⟨((p : Int), t), rfl, fun x W => ∃ (p : Nat) (us : List El), x.1 = (p : Int) ∧ (a' ≤ p ∧ p < e') ∧ PI a' e' ys us ∧ Ar s b W.heap us ∧ CB b w W, ?_, ?_⟩
  · refine IfB.intro (fun _ => ?_) (fun _ => ⟨rfl, p, zs, rfl, hp, hP2, hA3, hC3⟩)
    refine (c120 hcp hA3 (by omega) (by omega)).use ?_
    rintro _ W4 ⟨rfl, us, hP4, hA4, hC4⟩
    refine ⟨(), rfl, rfl, e' - 1 - (p - a'), us, ?_, by omega, hP2.trans hP4, hA4, hC3.trans hC4⟩
    show IntKind.i64.wrap (IntKind.i64.wrap ((e' : Int) - 1) - IntKind.i64.wrap ((p : Int) - (a' : Int))) = _
    rw [wm1 (by omega) (by omega), wsb (by omega) (by omega), wsb (by omega) (by omega)]
  rintro ⟨_, t2⟩ W5 _ ⟨p, us, rfl, hp, hP5, hA5, hC5⟩
  have hul := hP5.len
  unfold F113j3
  dsimp only
  refine ⟨fun _ W => ∃ us, PI a' e' ys us ∧ Ar s b W.heap us ∧ CB b w W, ?_, ?_⟩
  · refine IfB.intro (fun _ => IfB.intro (fun _ => IfB.intro (fun _ => ?_) (fun _ => ⟨rfl, us, hP5, hA5, hC5⟩)) (fun _ => ⟨rfl, us, hP5, hA5, hC5⟩)) (fun _ => ⟨rfl, us, hP5, hA5, hC5⟩)
    refine (c121 hcp hA5 (by omega) (by omega) (hB.pi hP5)).use ?_
    rintro _ W6 ⟨t, rfl, vs, hP6, hS6, hA6, hC6⟩
    exact ⟨t, rfl, IfB.intro (fun ht => ⟨rfl, vs, up (hP5.trans hP6), hG vs (hP5.trans hP6) (hS6 ht), hA6, hC5.trans hC6⟩) (fun _ => ⟨rfl, vs, hP5.trans hP6, hA6, hC5.trans hC6⟩)⟩
  rintro _ W7 _ ⟨us, hP7, hA7, hC7⟩
  have hul := hP7.len
  have hB7 := hB.pi hP7
  have hG7 : ∀ zs, PI a' e' us zs → SO zs a' e' → SO zs a e := fun zs k => hG zs (hP7.trans k)
  have part : ∀ {W8 : World}, Ar s b W8.heap us → CB b w W8 → CX Try.prog 123 #[slV s, iv a', iv e', iv p, .func (.func cl.1) #[] cl.2] W8 fun v65 w66 => ∃ x67 : Int × Bool, v65 = .tuple #[.int .i64 x67.1, .bool x67.2] ∧ ¬(8 : Int) = 0 ∧
      IfB (decide (IntKind.i64.wrap (x67.fst - (a' : Int)) < IntKind.i64.wrap ((e' : Int) - x67.fst))) (F113k2 s ((a' : Int), (e' : Int), lm, wb, wp) x67 lm2 cl w66 (e' - a') (fun k x W => ∃ (a' e' : Nat) (lm : Int) (wb wp : Bool) (ys : List El), k = e' - a' ∧ x = ((a' : Int), (e' : Int), lm, wb, wp) ∧ (a ≤ a' ∧ a' ≤ e' ∧ e' ≤ e) ∧ PI a e xs ys ∧ LB ys a' e' ∧
    (∀ zs, PI a' e' ys zs → SO zs a' e' → SO zs a e) ∧ Ar s b W.heap ys ∧ CB b w W))
       (F113k1 s x67 ((a' : Int), (e' : Int), lm, wb, wp) lm2 cl w66 (e' - a') (fun k x W => ∃ (a' e' : Nat) (lm : Int) (wb wp : Bool) (ys : List El), k = e' - a' ∧ x = ((a' : Int), (e' : Int), lm, wb, wp) ∧ (a ≤ a' ∧ a' ≤ e' ∧ e' ≤ e) ∧ PI a e xs ys ∧ LB ys a' e' ∧
    (∀ zs, PI a' e' ys zs → SO zs a' e' → SO zs a e) ∧ Ar s b W.heap ys ∧ CB b w W)) := by
    intro W8 hA8 hC8
    refine (c123 hcp hA8 (by omega) hp).use ?_
    rintro _ W9 ⟨m, t, rfl, hm, vs, hP9, h1, h2, hA9, hC9⟩
    have hvl := hP9.len
    have hPd : Pd vs a' m e' := ⟨fun k h3 h4 => Int.le_of_lt (h1 k h3 h4), h2⟩
    have hB9 := hB7.pi hP9
    have hC9 := hC8.trans hC9
    refine ⟨((m : Int), t), rfl, by decide, IfB.intro (fun _ => ?_) (fun _ => ?_)⟩
    · unfold F113k2
      refine (ih (m - a') (by omega) lm2 rfl hA9 (by omega) (by omega) fun h0 k h3 h4 => hB9 h0 k h3 (by omega)).use ?_
      rintro _ W10 ⟨rfl, ts, hP10, hS10, hA10, hC10⟩
      have hPd2 := hPd.left hP10
      refine ⟨(), rfl, rfl, e' - (m + 1), by omega, m + 1, e', _, _, _, ts, rfl, by rw [wp1 (by omega)], by omega, hP.trans' (hP7.trans (hP9.trans' hP10 (by omega) (by omega) (by omega))) (by omega) (by omega) he, fun _ k h3 h4 => hPd2.2 k (by omega) h4, fun zs hz hSz => ?_, hA10, hC9.trans hC10⟩
      have hPz : PI a' e' us zs := (hP9.trans' hP10 (by omega) (by omega) (by omega)).trans' hz (by omega) (by omega) (by omega)
      have hPd3 := hPd2.right hz
      exact hG7 zs hPz ((hS10.keep hz (.inl (by omega))).split hSz hPd3.1 hPd3.2)
    · unfold F113k1
      dsimp only
      rw [wp1 (by omega)]
      refine (ih (e' - (m + 1)) (by omega) lm2 rfl hA9 (by omega) (by omega) fun h0 k h3 h4 => hPd.2 k (by omega) h4).use ?_
      rintro _ W10 ⟨rfl, ts, hP10, hS10, hA10, hC10⟩
      have hPd2 := hPd.right hP10
      have hB10 : LB ts a' m := fun h0 k h3 h4 => by
        rw [hP10.out (.inl (by omega)), hP10.out (.inl (by omega))]
        exact hB9 h0 k h3 (by omega)
      refine ⟨(), rfl, rfl, m - a', by omega, a', m, _, _, _, ts, rfl, rfl, by omega, hP.trans' (hP7.trans (hP9.trans' hP10 (by omega) (by omega) (by omega))) (by omega) (by omega) he, hB10, fun zs hz hSz => ?_, hA10, hC9.trans hC10⟩
      have hPz : PI a' e' us zs := (hP9.trans' hP10 (by omega) (by omega) (by omega)).trans' hz (by omega) (by omega) (by omega)
      have hPd3 := hPd2.left hz
      exact hG7 zs hPz (hSz.split (hS10.keep hz (.inr (by omega))) hPd3.1 hPd3.2)
  unfold F113j4
  dsimp only
  refine IfB.dec (fun h0 => ?_) (fun h0 => part (W8 := W7.drew) hA7 hC7.drew)
  have h0 : 0 < a' := by omega
  rw [wm1 (by omega) (by omega)]
  refine ls hcp (w := W7.drew) hA7 (by omega) (by omega) (by omega) (by omega) (fun nn ww hn eC => have hA7 := Ar.ch (w := W7.drew) hA7 eC id; have hC7 := CBe (CB.drew hC7) eC; introC hn (fun hl1 => ?_) (fun _ => part hA7 hC7))
  simp only [Int.toNat_natCast, Bool.not_eq_true', decide_eq_false_iff_not] at hl1
  refine (c122 hcp (w := ww) hA7 (by omega) hp).use ?_
  rintro _ W8 ⟨m, rfl, hm, vs, hP8, hv, h1, h2, hA8, hC8⟩
  have hvl := hP8.len
  have hB8 := hB7.pi hP8
  have ho : g vs (a' - 1) = g us (a' - 1) := hP8.out (.inl (by omega))
  have hv1 : ∀ k, a' ≤ k → k < m → g vs k = g us p := fun k h3 h4 => by
    have := h1 k h3 h4
    have := hB8 h0 k h3 (by omega)
    omega
  refine ⟨_, rfl, rfl, e' - m, by omega, m, e', lm2, wb, wp, vs, rfl, rfl, by omega, up (hP7.trans hP8), fun _ k h3 h4 => ?_, fun zs hz hSz => ?_, hA8, hC7.trans hC8⟩
  · rw [hv1 (m - 1) (by omega) (by omega)]
    have := h2 k h3 h4
    omega
  · have hlow : ∀ k, a' ≤ k → k < m → g zs k = g us p := fun k h3 h4 => by rw [hz.out (.inl h4)]; exact hv1 k h3 h4
    have hhigh : ∀ k, m ≤ k → k < e' → g us p < g zs k := hz.all (Q := fun v => g us p < v) h2
    refine hG7 zs (hP8.trans' hz (by omega) (by omega) (by omega)) fun i j h3 h4 h5 => ?_
    by_cases hj : j < m
    · rw [hlow i h3 (by omega), hlow j (by omega) hj]; exact Int.le_refl _
    · by_cases hi : i < m
      · rw [hlow i h3 hi]
        have := hhigh j (by omega) h5
        omega
      · exact hSz i j (by omega) h4 h5
/-- slices.Sort -/
theorem SO.sorted {ys : List El} (h : SO ys 0 ys.length) : ys.Pairwise (fun x y => key x ≤ key y) := by
  rw [List.pairwise_iff_getElem]
  intro i j hi hj hij
  have := h i j (Nat.zero_le _) hij hj
  have e1 := ge_eq hi; have e2 := ge_eq hj
  rw [List.getElem?_eq_getElem hi] at e1
  rw [List.getElem?_eq_getElem hj] at e2
  rw [Option.some.injEq] at e1 e2
  rw [e1, e2]; exact this
theorem c125e (cl : Nat × Array Value) (s : Sl) (w : World) : CW Try.prog 116 #[slV s, iv 0, iv 0, .func (.func cl.1) #[] cl.2] w fun v w' => v = .tuple #[] ∧ w = w' := by
  refine F116_ok s (0 : Int) (0 : Int) cl w _ ⟨fun k x W' => x = (1 : Int) ∧ w = W', ⟨0, by decide, rfl⟩, ?_⟩
  rintro k _ _ _ ⟨rfl, rfl⟩
  exact IfB.no (by decide) ⟨rfl, rfl⟩
theorem c120e (cl : Nat × Array Value) (s : Sl) (L : Int) (w : World) : CW Try.prog 113 #[slV s, iv 0, iv 0, iv L, .func (.func cl.1) #[] cl.2] w fun v w' => v = .tuple #[] ∧ w = w' := by
  refine F113_ok s (0 : Int) (0 : Int) L cl w _ ⟨fun k x W => x = ((0 : Int), (0 : Int), L, true, true) ∧ w = W, ⟨0, rfl, rfl⟩, ?_⟩
  rintro k _ _ _ ⟨rfl, rfl⟩
  unfold F113j1
  refine IfB.yes (show decide (IntKind.i64.wrap ((0 : Int) - (0 : Int)) ≤ (12 : Int)) = true by decide) ((c125e cl s w).use ?_)
  rintro _ _ ⟨rfl, rfl⟩
  exact ⟨(), rfl, rfl, rfl⟩
theorem c101 {cl : Nat × Array Value} (hcp : CmpP cl) {w : World} {s : Sl} {xs : List El} (h : OwS w s 2 (xs.flatMap sv)) (hl : xs.length ≤ 1000000) :
    CW Try.prog 101 #[slV s, .func (.func cl.1) #[] cl.2] w fun v w' => v = .tuple #[] ∧ ∃ ys : List El, ys.Perm xs ∧ ys.Pairwise (fun x y => key x ≤ key y) ∧ OwS w' s 2 (ys.flatMap sv) ∧ Ch (fun i => i ∈ blk s) w w' := by
  have hn := owsN sv_len (by omega) h
  refine F101_ok s cl w _ ?_
  unfold F101
  rw [show (s.2 : Int) = ((xs.length : Nat) : Int) by show (s.n : Int) = _; rw [hn], wu64 (by omega)]
  refine (c62 hl w).use ?_
  rintro _ _ ⟨L, rfl, hL, rfl⟩
  refine ⟨_, rfl, ?_⟩
  by_cases h0 : xs.length = 0
  · have : xs = [] := List.length_eq_zero_iff.1 h0
    subst this
    refine (c120e cl s L w).use ?_
    rintro _ _ ⟨rfl, rfl⟩
    exact ⟨(), rfl, rfl, [], .refl _, .nil, h, Ch.refl _ _⟩
  · obtain ⟨b, hA, hb⟩ := Ar.of h (by omega) hl
    refine (c113 hcp _ (L : Int) rfl hA (Nat.le_refl _) (Nat.zero_le _) (fun h0 => absurd h0 (by decide))).use ?_
    rintro _ W2 ⟨rfl, ys, hP, hS, hA2, hC2⟩
    have hyl := hP.len
    exact ⟨(), rfl, rfl, ys, hP.perm, SO.sorted (by rw [hyl]; exact hS), hA2.own, hC2.mono fun i _ hi => by rw [hb]; simpa using hi⟩
end Go.Proofs.Ytmmhbjbaallkfaa.Gx.SfS

/- Ranges over iterators that have boxes of their own between two rounds. Written by mkgxu.py out of XGxA. -/
namespace Go.Proofs.Ytmmhbjbaallkfaa.Gx
open Go
set_option linter.unusedSimpArgs false
set_option linter.unusedVariables false
/-- What is from n on, and not in U, is as it was; U grows by new blocks alone. -/
structure Kp (U : World → Nat → Prop) (n : Nat) (W W' : World) : Prop where
  at' : ∀ i : Nat, n ≤ i → i < W.heap.size → ¬ U W i → W'.heap[i]? = W.heap[i]?
  own : ∀ i : Nat, U W' i → U W i ∨ W.heap.size ≤ i
theorem Kp.upd {U : World → Nat → Prop} {n l : Nat} {W A B : World} {o : Obj} (h : Kp U n W A) (hu : IsUpd A l o B) (hl : l < n) (hU : ∀ i, U B i → U A i) : Kp U n W B :=
  ⟨fun i h1 h2 h3 => (hu.old i (by omega)).trans (h.at' i h1 h2 h3), fun i hi => h.own i (hU i hi)⟩
/-- The contract of an iterator with boxes of its own. 'U': what belongs to who ranges. -/
def IterU {α : Type} (P : Program) (g : FuncId) (lb : Array Value) (enc : α → Array Value) (bnd : Bool) (Nxt : List α → α → Prop) (Fin : List α → Prop) (Inv : World → Prop) : Prop :=
  Entr P g ∧ ∀ (l : Nat) (J Jx : List α → World → Prop) (U : World → Nat → Prop) (W : World), Abid W.heap.size J → Abid W.heap.size Jx → (∀ pre W', J pre W' → Inv W') → (∀ pre W', J pre W' → W.heap.size ≤ W'.heap.size) →
    (bnd = true → ∃ B, ∀ pre W', J pre W' → pre.length ≤ B) →
    (∀ A B, Stb W.heap.size A B → ∀ i, U B i → U A i) → (∀ pre W', J pre W' → ∀ i, U W' i → i < W'.heap.size) →
    (∀ pre x W1, J pre W1 → Nxt pre x → YW P l (enc x) W1 fun b W' => match b with | true => J (pre ++ [x]) W' ∧ Its W1 W' ∧ Kp U W.heap.size W1 W' | false => Jx (pre ++ [x]) W') → J [] W →
    CW P g (#[.func (.yield l) #[] #[]] ++ lb) W fun _ W' => (∃ xs, Fin xs ∧ J xs W') ∨ (∃ pre, Jx pre W')
section
variable {P : Program} {tb : Tab}
/-- A range over a function, outside of every other one. -/
theorem range_noneU (hT : tb.Ok P) (hm : P.follows .mixedOrders = true) {α : Type} {N : Nat} {an : An} {g : Operand} {ps : Array Tmp} {assign body : Code} {f : Fr} {ds : List Nat} {w : World} {Kn Kr : List Nat → World → Prop} {Kx : Nat → List Nat → World → Prop}
    {gf : FuncId} {lb : Array Value} (hg : ev f g = .func (.func gf) #[] lb) {enc : α → Array Value} {bnd : Bool} {Nxt : List α → α → Prop} {Fin : List α → Prop} {Inv : World → Prop} (spec : IterU P gf lb enc bnd Nxt Fin Inv)
    (hok1 : okC tb N assign .nil = true) (hok2 : okC tb N body an = true) (hps : ps.toList.all (fun p => Nat.blt p N) = true) (henc : ∀ x, (enc x).size = ps.size)
    (U : World → Nat → Prop) (hU : ∀ W W', Stb w.heap.size W W' → ∀ i, U W' i → U W i) (I : List α → World → Prop) (Ix : Code → List α → World → Prop) (hI : Abid w.heap.size I) (hIx : ∀ c, Abid w.heap.size (Ix c)) (hInv : ∀ pre W, I pre W → Inv W)
    (hbnd : bnd = true → ∃ B, ∀ pre W, I pre W → pre.length ≤ B) (hU1 : ∀ pre W, I pre W → ∀ i, U W i → i < W.heap.size) (h0 : I [] w)
    (hbody : ∀ pre x W, I pre W → Nxt pre x → w.heap.size + 1 < W.heap.size → BodyP P tb N (w.heap.size + 1) w.heap.size w.heap.size an ps assign body f (fun W' => I (pre ++ [x]) W' ∧ Its W W' ∧ Kp U (w.heap.size + 2) W W') (fun c => Ix c (pre ++ [x])) (enc x).toList W)
    (hdone : ∀ xs W, Fin xs → I xs W → W.heap[w.heap.size]? = some (.deferred (some [])) → Kn (w.heap.size :: ds) W)
    (hstop : ∀ c pre W, Ix c pre W → W.heap[w.heap.size]? = some (.deferred (some [])) → jumpQ Kr Kx (w.heap.size :: ds) W c) :
    RangeP P tb N none an g ps assign body f ds w Kn Kr Kx := by
  intro a hR
  refine wpIn_rangeFunc ?_
  intro fn _
  obtain ⟨rec, hrec⟩ : ∃ rec : Loop, rec = { state := .ready, pending := none, fn, tmps := a.tmps, params := ps, assign, body, defers := w.heap.size } := ⟨_, rfl⟩
  obtain ⟨W1, hW1⟩ : ∃ W1, (w.alloc (.deferred (some []))).alloc (.loop rec) = W1 := ⟨_, rfl⟩
  have e1 : IsAlloc w (.deferred (some [])) w.heap.size (w.alloc (.deferred (some []))) := isAlloc_push w _ w.drawn
  have e2 : IsAlloc (w.alloc (.deferred (some []))) (.loop rec) (w.heap.size + 1) W1 := by
    have := isAlloc_push (w.alloc (.deferred (some []))) (.loop rec) (w.alloc (.deferred (some []))).drawn
    rw [e1.size] at this
    rw [← hW1]; exact this
  have hL1 : W1.heap[w.heap.size + 1]? = some (.loop rec) := e2.new
  have hK1 : W1.heap[w.heap.size]? = some (.deferred (some [])) := by rw [e2.old _ (by rw [e1.size]; omega)]; exact e1.new
  have hS1 : Stb w.heap.size w W1 := (Stb.alloc e1 (Nat.le_refl _)).trans (Stb.alloc e2 (by rw [e1.size]; omega))
  have hsz1 : W1.heap.size = w.heap.size + 2 := by rw [e2.size, e1.size]
  have hev : a.eval g = .func (.func gf) #[] lb := by rw [hR.eval]; exact hg
  have hpsN : ∀ p ∈ ps.toList, p < N := fun p hp => by have := List.all_eq_true.1 hps p hp; rw [Nat.blt_eq] at this; exact this
  refine ⟨w.heap.size + 1, [{ target := .collected w.heap.size, args := #[] }], W1, { target := .fn (.func gf) lb, args := #[.func (.yield (w.heap.size + 1)) #[] #[]] }, W1, gf,
    #[.func (.yield (w.heap.size + 1)) #[] #[]] ++ lb, W1, ?_, ?_, fun f' _ => trivial, ?_, fz_depth none, ?_⟩
  · rw [← hW1, hrec]; exact run_enterLoop_outer _ _ _ _ _
  · simp only [resolve]
    rw [hev]
    simp [Deferred.ofValue, Act.eval]
  · simp only [invoke]
    exact spec.1 _ _
  · refine fz_callsIn.2 ?_
    have hc := spec.2 (w.heap.size + 1)
      (fun pre W => I pre W ∧ W.heap[w.heap.size + 1]? = some (.loop rec) ∧ W.heap[w.heap.size]? = some (.deferred (some [])))
      (fun pre W => ∃ c, Ix c pre W ∧ W.heap[w.heap.size + 1]? = some (.loop { rec with state := .done, pending := some c }) ∧ W.heap[w.heap.size]? = some (.deferred (some [])))
      U W1
      (fun s A B hs hS => ⟨hI s A B hs.1 (hS.mono (by omega)), (hS.low _ (by omega)).trans hs.2.1, (hS.low _ (by omega)).trans hs.2.2⟩)
      (fun s A B hs hS => by obtain ⟨c, hc, h1, h2⟩ := hs; exact ⟨c, hIx c s A B hc (hS.mono (by omega)), (hS.low _ (by omega)).trans h1, (hS.low _ (by omega)).trans h2⟩)
      (fun pre W h => hInv pre W h.1)
      (fun pre W h => by have : w.heap.size + 1 < W.heap.size := (Array.getElem?_eq_some_iff.1 h.2.1).1; omega)
      (fun hb => by obtain ⟨B, hB⟩ := hbnd hb; exact ⟨B, fun pre W h => hB pre W h.1⟩)
      (fun A B hS => hU A B (hS.mono (by omega)))
      (fun pre W h => hU1 pre W h.1)
      (fun pre x W h hx => by
        have hlt : w.heap.size + 1 < W.heap.size := (Array.getElem?_eq_some_iff.1 h.2.1).1
        refine (round_of hT hm (l := w.heap.size + 1) (D := w.heap.size) (n₀ := w.heap.size) hR.size hR.val hpsN hok1 hok2 (henc x) (by omega) hrec h.2.1 hI hIx (E := fun W' => Its W W' ∧ Kp U (w.heap.size + 2) W W') (fun A B o hE hu hl => by obtain ⟨rc, hl⟩ := hl; exact ⟨hE.1.trans (Its.upd hu hl (by simp)), hE.2.upd hu (by omega) (hU _ _ (Stb.upd hu hl rfl (by omega)))⟩) (hbody pre x W h.1 hx hlt)).mono ?_
        rintro b W' ⟨hD, hb⟩
        cases b with
        | true => exact ⟨⟨hb.2.1, hb.1, (hD (by omega)).trans h.2.2⟩, hb.2.2.1, by rw [hsz1]; exact hb.2.2.2⟩
        | false => obtain ⟨c, h1, h2⟩ := hb; exact ⟨c, h2, h1, (hD (by omega)).trans h.2.2⟩)
      ⟨hI _ _ _ h0 hS1, hL1, hK1⟩
    refine hc.2.mono ?_
    rintro e W2 ⟨v, rfl, h⟩
    have hds : ∀ (a' : Act), a' = { a with defers := [{ target := .collected w.heap.size, args := #[] }] ++ a.defers } → Rel N a' f (w.heap.size :: ds) := fun a' e => by
      subst e
      exact ⟨hR.size, hR.val, by rw [hR.defers]; rfl⟩
    rcases h with ⟨xs, hF, hi, hl, hk⟩ | ⟨pre, c, hi, hl, hk⟩
    · obtain ⟨w4, o4, hr4, hu⟩ : ∃ w4 o4, (Instr.endLoop (w.heap.size + 1)).run P W2 = .ok rec.pending w4 ∧ IsUpd W2 (w.heap.size + 1) o4 w4 :=
        ⟨_, _, run_endLoop (P := P) hl (by rw [hrec]; simp), isUpd_putObj hl _⟩
      have hp : rec.pending = none := by rw [hrec]
      rw [hp] at hr4
      refine ⟨none, w4, hr4, ?_⟩
      exact ⟨f, w.heap.size :: ds, hds _ rfl, rfl, hdone xs _ hF (hI _ _ _ hi (Stb.upd hu hl rfl (by omega))) ((hu.old _ (by omega)).trans hk)⟩
    · have hu := isUpd_putObj hl (.loop { rec with state := .exhausted, pending := some c })
      refine ⟨some c, _, by have := run_endLoop (P := P) hl (by simp); exact this, ?_⟩
      have hj := hstop c pre _ (hIx c _ _ _ hi (Stb.upd hu hl rfl (by omega))) ((hu.old _ (by omega)).trans hk)
      unfold jumpQ at hj
      split at hj
      · exact wpIn_ret ⟨f, w.heap.size :: ds, hds _ rfl, rfl, hj⟩
      · exact wpIn_exit ⟨f, w.heap.size :: ds, hds _ rfl, rfl, hj⟩
      · exact hj.elim
end
end Go.Proofs.Ytmmhbjbaallkfaa.Gx

/- Package keys: which spans may be, and slices of spans: Concat, DeleteFunc. -/
namespace Go.Proofs.Ytmmhbjbaallkfaa.Gx
open Go
set_option linter.unusedSimpArgs false
set_option linter.unusedVariables false
abbrev Spn := Int × Int
abbrev sv (x : Spn) : List Value := [.int .i64 x.1, .int .i64 x.2]
theorem sv_len (x : Spn) : (sv x).length = 2 := rfl
theorem sv_one (x : Spn) : One (sv x) := by intro v hv; simp at hv; rcases hv with rfl | rfl <;> rfl
abbrev spV (x : Spn) : Value := .agg #[.int .i64 x.1, .int .i64 x.2]
/-- A box for a struct. -/
theorem boxCells {w : World} {vs : List Value} {n : Nat} {z : Array Value} {T : TypeId} (hn : vs.length = n) (h1 : One vs) (hz : z.size = n) {K : Nat → World → Prop} (hK : ∀ b w', w.heap.size = b → w'.heap.size = b + 1 → w'.heap[b]? = some (.cells vs.toArray T (0, 0)) → Ext w w' → (∀ n, n ≤ w.heap.size → Stb n w w') → K b w') :
    AllocP w (.cells z T) fun b w2 => vs.toArray.size = n ∧ StoreP w2 b 0 vs (K b) := by
  intro b w2 h2
  refine ⟨by simpa using hn, store_all (vs := vs) h2.new (by rw [hz, hn]) h1 fun w3 h3 => hK b w3 h2.here.symm ?_ h3.new (Ext.fresh h2 h3) fun n hn => Stb.fresh h2 h3 hn⟩
  have := h2.here; have := h2.size; have := h3.size; omega
/-- A span in a box of its own. -/
theorem boxSp {w : World} {x : Spn} {z : Array Value} {T : TypeId} (hz : z.size = 2) {K : Nat → World → Prop} (hK : ∀ b w', w.heap.size = b → w'.heap.size = b + 1 → w'.heap[b]? = some (.cells #[.int .i64 x.1, .int .i64 x.2] T (0, 0)) → Ext w w' → (∀ n, n ≤ w.heap.size → Stb n w w') → K b w') :
    AllocP w (.cells z T) fun b w2 => #[Value.int .i64 x.1, Value.int .i64 x.2].size = 2 ∧ StoreP w2 b 0 [.int .i64 x.1, .int .i64 x.2] (K b) :=
  boxCells (vs := sv x) rfl (sv_one x) hz hK
def mayS (x : Spn) : Prop := 0 ≤ x.1 ∧ x.1 ≤ x.2 ∧ x.2 ≤ 999
instance (x : Spn) : Decidable (mayS x) := inferInstanceAs (Decidable (_ ∧ _))
def hasS (l : List Spn) (k : Int) : Prop := ∃ x ∈ l, mayS x ∧ x.1 ≤ k ∧ k ≤ x.2
theorem c46 (x y : Int) (w : World) : CW Try.prog 46 #[.int .i64 x, .int .i64 y] w fun v w' => ∃ n : Int, v = iv n ∧ (n < 0 ↔ x < y) ∧ w = w' := by
  refine F46_ok _ _ _ _ ((c63 x w).use ?_)
  rintro _ _ ⟨rfl, rfl⟩
  refine ⟨false, rfl, (c63 y w).use ?_⟩
  rintro _ _ ⟨rfl, rfl⟩
  refine ⟨false, rfl, IfB.no rfl (IfB.no rfl (IfB.dec (fun h => ⟨_, rfl, by simp; omega, rfl⟩) fun h => IfB.dec (fun h' => ⟨_, rfl, by simp; omega, rfl⟩) fun h' => ⟨_, rfl, by simp; omega, rfl⟩))⟩
theorem c100 (x : Spn) (w : World) : CW Try.prog 100 #[spV x] w fun v w' => v = .bool (decide (mayS x)) ∧ Ext w w' := by
  refine F100_ok x w _ fun b w2 h2 => ?_
  have p0 : w2.cell? ⟨b, 0 + 0, none⟩ = some (.int .i64 x.1) := by rw [cell_of h2.new]; rfl
  have p1 : w2.cell? ⟨b, 0 + 1, none⟩ = some (.int .i64 x.2) := by rw [cell_of h2.new]; rfl
  have e : Ext w w2 := h2.ch _
  refine ⟨_, p0, IfB.dec (fun h0 => ⟨_, p0, _, p1, IfB.dec (fun h1 => ⟨_, p1, ?_, e⟩) fun h1 => ⟨?_, e⟩⟩) fun h0 => ⟨?_, e⟩⟩
  · have : (x.2 ≤ 999) ↔ mayS x := by unfold mayS; omega
    rw [decide_eq_decide.2 this]
  · have : ¬ mayS x := by unfold mayS; omega
    simp [this]
  · have : ¬ mayS x := by unfold mayS; omega
    simp [this]
theorem c99 (x : Spn) (w : World) : CW Try.prog 99 #[spV x] w fun v w' => v = .bool (!decide (mayS x)) ∧ Ext w w' := by
  refine F99_ok x w _ fun b w2 h2 => ⟨x, cellsAt_of h2.new fun i v hv => by simpa using hv, (c100 x w2).use ?_⟩
  rintro _ w3 ⟨rfl, e3⟩
  exact ⟨_, rfl, rfl, (h2.ch _).trans e3⟩
theorem c102 : SfS.CmpP (102, #[]) := by
  intro x y w
  refine F102_ok x y w _ fun b1 w2 h2 b3 w4 h4 => ?_
  refine ⟨x.1, by rw [cell_of (h4.at h2.new)]; rfl, y.1, by rw [cell_of h4.new]; rfl, (c46 _ _ w4).use ?_⟩
  rintro _ _ ⟨n, rfl, hn, rfl⟩
  exact ⟨n, rfl, n, rfl, hn, (h2.ch _).trans (h4.ch _)⟩
theorem c111 {w : World} {t : Sl} {xs : List Spn} {t1 : Nat × Array Value} {q : Spn → Bool} (h : Rd w t 2 (xs.flatMap sv)) (hl : xs.length ≤ 1000000)
    (hq : ∀ (x : Spn) (W : World), x ∈ xs → Ext w W → ∀ R' : Value → World → Prop, (∀ w', Ext W w' → R' (.bool (q x)) w') → CX Try.prog t1.1 { toList := spV x :: t1.2.toList } W R') :
    CW Try.prog 111 #[slV t, .func (.func t1.1) #[] t1.2] w fun v w' => v = iv (idxV (xs.findIdx? q)) ∧ Ext w w' := by
  refine F111_ok t t1 w _ ?_
  have hn := rdN sv_len (by omega) h
  have e : F111 t t1 w (fun v w' => v = iv (idxV (xs.findIdx? q)) ∧ Ext w w') = IndexF Try.prog (fun W b o i (x : Spn) => CellsAt W b (o + i * 2) [.int .i64 x.1, .int .i64 x.2]) spV t t1 w (fun v w' => v = iv (idxV (xs.findIdx? q)) ∧ Ext w w') := rfl
  rw [e]
  refine IndexF_of xs id q hn (by omega) (fun i x W hx e => ?_) (fun i x W hx e R' hR => hq x W (List.mem_of_getElem? hx) e R' hR) fun w' e => ⟨rfl, e⟩
  obtain ⟨hi, _⟩ := List.getElem?_eq_some_iff.1 hx
  obtain ⟨b, o, hp, hc⟩ := (h.ext e).elem (i := i) (by omega) (by omega) (flatGet sv_len hx)
  exact ⟨b, o, hp, hc⟩
/-- DeleteFunc where each element is put into a box first. -/
theorem c97 {w : World} {t0 : Sl} {xs : List Spn} {t1 : Nat × Array Value} {q : Spn → Bool} (ho : OwS w t0 2 (xs.flatMap sv)) (hn : xs.length ≤ 1000000)
    (hq : ∀ (x : Spn) (W : World), x ∈ xs → Ch (fun i => i ∈ blk t0) w W → ∀ R' : Value → World → Prop, (∀ w', Ext W w' → R' (.bool (q x)) w') → CX Try.prog t1.1 { toList := spV x :: t1.2.toList } W R') :
    CW Try.prog 97 #[slV t0, .func (.func t1.1) #[] t1.2] w fun v w' => ∃ t', v = slV t' ∧ OwS w' t' 2 ((xs.filter fun x => !q x).flatMap sv) ∧ t'.p = t0.p ∧ Ch (fun i => i ∈ blk t0) w w' := by
  have htn := owsN sv_len (by omega) ho
  have hl := sv_len
  refine F97_ok t0 t1 w _ ((c111 ho.rd hn fun x W hx e => hq x W hx (e.mono fun _ _ h => h.elim)).use ?_)
  rintro _ w2 ⟨rfl, e2⟩
  refine ⟨_, rfl, ?_⟩
  cases hf : xs.findIdx? q with
  | none =>
    refine IfB.yes rfl ?_
    have : (xs.filter fun x => !q x) = xs := List.filter_eq_self.2 fun x hx => by rw [List.findIdx?_eq_none_iff.1 hf x hx]; rfl
    exact ⟨t0, rfl, by rw [this]; exact ho.ext e2, rfl, e2.mono fun _ _ h => h.elim⟩
  | some i0 =>
    obtain ⟨hi0, hqi, hlow⟩ := List.findIdx?_eq_some_iff_getElem.1 hf
    refine IfB.no (by simp [idxV]) ?_
    have hx0 : xs[i0]? = some xs[i0] := List.getElem?_eq_getElem hi0
    have hkeep0 : (xs.take i0).filter (fun x => !q x) = xs.take i0 := List.filter_eq_self.2 fun x hx => by
      obtain ⟨j, hj, rfl⟩ := List.getElem_of_mem hx
      rw [List.length_take] at hj
      rw [List.getElem_take]
      have := hlow j (by omega)
      simpa using this
    have hkeep1 : (xs.take (i0 + 1)).filter (fun x => !q x) = xs.take i0 := by rw [takeFilter hx0, hkeep0, hqi]; simp
    refine ⟨fun n x W => ∃ (j : Nat) (gs : List Spn), gs ≠ [] ∧ n + j = xs.length ∧ ((xs.take j).filter fun x => !q x).length + gs.length = j ∧ j ≤ xs.length ∧ x = ((((xs.take j).filter fun x => !q x).length : Int), (j : Int)) ∧ OwS W t0 2 ((((xs.take j).filter fun x => !q x) ++ gs ++ xs.drop j).flatMap sv) ∧ Ch (fun i => i ∈ blk t0) w W,
      ⟨xs.length - (i0 + 1), i0 + 1, [xs[i0]], by simp, by omega, by rw [hkeep1, List.length_take]; simp; omega, by omega, ?_, ?_, e2.mono fun _ _ h => h.elim⟩, ?_⟩
    · rw [hkeep1, List.length_take, Nat.min_eq_left (by omega)]
      show ((i0 : Int), IntKind.i64.wrap ((i0 : Int) + 1)) = _
      rw [wrap_of (by omega) (by omega)]; rfl
    · rw [hkeep1]
      have : xs.take i0 ++ [xs[i0]] ++ xs.drop (i0 + 1) = xs := by
        rw [List.append_assoc, List.singleton_append, ← List.drop_eq_getElem_cons hi0, List.take_append_drop]
      rw [this]
      exact ho.ext e2
    · rintro n _ W g ⟨j, gs, hgs, hnj, hlen, hj, rfl, hO, hC⟩
      generalize hkd : (xs.take j).filter (fun x => !q x) = kd at hlen hO
      have hg0 : 0 < gs.length := List.length_pos_iff.2 hgs
      have hcap := ho.cap
      obtain ⟨b, hp⟩ := ho.ptr (by omega)
      have hbl : b < w.heap.size := ho.lt b (by simp [blk, hp])
      unfold F97j1
      refine IfB.dec (fun hlt => ?_) fun hge => ?_
      · have hj' : j < xs.length := by dsimp only at hlt; omega
        have hx : xs[j]? = some xs[j] := List.getElem?_eq_getElem hj'
        have hxm := List.mem_of_getElem? hx
        have htf := takeFilter (p := fun x => !q x) hx
        rw [hkd] at htf
        have hdrop : xs.drop j = xs[j] :: xs.drop (j + 1) := List.drop_eq_getElem_cons hj'
        generalize xs[j] = x at hx hxm htf hdrop
        have hLx : (kd ++ gs ++ xs.drop j)[j]? = some x := by
          rw [List.getElem?_append_right (by rw [List.length_append]; omega), List.length_append, show j - (kd.length + gs.length) = 0 by omega, hdrop]; rfl
        obtain ⟨b', hp', hc⟩ := hO.elem (i := j) (by omega) (flatGet hl hLx)
        rw [hp] at hp'; cases hp'
        refine ⟨b, 0, hp, ⟨by dsimp only; omega, hlt⟩, x, ?_, boxSp rfl fun b14 w16 hb14 hs16 h16 e16 _ => ⟨x, cellsAt_of h16 fun i v hv => by simpa using hv, hq x w16 hxm (hC.then e16 fun _ _ h => h.elim) _ fun w19 e19 => ⟨q x, rfl, ?_⟩⟩⟩
        · dsimp only
          rw [Int.toNat_natCast, Nat.zero_add]
          exact hc
        · have e15 : Ext W w19 := e16.trans e19
          have h19 := e19.at h16
          have hO15 := hO.ext e15
          have hC15 := hC.then e15 fun _ _ h => h.elim
          refine IfB.intro (fun hk => ?_) fun hk => ?_
          · have hqx : q x = false := by simpa using hk
            rw [hqx] at htf
            simp only [Bool.not_false, if_true] at htf
            refine ⟨x, cellsAt_of h19 fun i v hv => by simpa using hv, b, 0, hp, ⟨by dsimp only; omega, by show (kd.length : Int) < (t0.n : Int); omega⟩, rfl, ?_⟩
            dsimp only
            rw [Int.toNat_natCast, Nat.zero_add]
            have hLl : (kd ++ gs ++ xs.drop j).length = xs.length := by rw [List.length_append, List.length_append, List.length_drop]; omega
            refine hO15.store (vs := sv x) hp (by rw [hl]; omega) (sv_one x) fun w19 hO19 hC19 => ⟨rfl, n - 1, by omega, j + 1, gs.tail ++ [x], by simp, by omega, ?_, by omega, ?_, ?_, hC15.then hC19 fun i _ e => by simp [blk, hp, e]⟩
            · rw [htf]; simp; omega
            · rw [htf, wrap_of (by omega) (by omega), wrap_of (by omega) (by omega)]; simp
            · rw [hl, flatSet hl (by omega)] at hO19
              rw [htf]
              have : (kd ++ gs ++ xs.drop j).set kd.length x = kd ++ [x] ++ (gs.tail ++ [x]) ++ xs.drop (j + 1) := by
                rw [hdrop]
                cases gs with
                | nil => exact absurd rfl hgs
                | cons g0 gs => simp
              rw [← this]; exact hO19
          · have hqx : q x = true := by simpa using hk
            rw [hqx] at htf
            simp only [Bool.not_true, Bool.false_eq_true, if_false, List.append_nil] at htf
            refine ⟨rfl, n - 1, by omega, j + 1, gs ++ [x], by simp, by omega, by rw [htf]; simp; omega, by omega, ?_, ?_, hC15⟩
            · rw [htf]; dsimp only; rw [wrap_of (by omega) (by omega)]; rfl
            · rw [htf]
              rw [hdrop] at hO15
              simpa using hO15
      · have hjn : j = xs.length := by dsimp only at hge; omega
        subst hjn
        rw [List.take_length] at hkd
        rw [List.drop_length, List.append_nil] at hO
        have hkl : kd.length < t0.n := by omega
        refine ⟨⟨by dsimp only; omega, by show (kd.length : Int) ≤ (t0.n : Int); omega⟩, ?_⟩
        dsimp only
        rw [Int.toNat_natCast, hp, slAddr_some]
        have hcut := hO.cut (k := kd.length) (by omega)
        rw [flatTake hl, List.take_append_of_le_length (Nat.le_refl _), List.take_length] at hcut
        dsimp only
        rw [if_neg (by omega), Nat.zero_add]
        refine hcut.storeTail hp (Nat.le_refl _) (by rw [zc_len]; show kd.length * 2 + (t0.n - kd.length) * 2 ≤ t0.c * 2; omega) (zc_one (by intro y hy; simp at hy; rcases hy with rfl | rfl <;> rfl) _) fun w25 hO25 hC25 => ⟨⟨by omega, by omega⟩, ⟨t0.p, kd.length, t0.c⟩, ?_, by rw [hkd]; exact hO25, hp, hC.then hC25 fun i _ e => by simp [blk, hp, e]⟩
        rw [← hp, slAddr_zero]
theorem F112_eq (t0 : Sl) (t1 : Int) (w : World) (R : Value → World → Prop) : F112 t0 t1 w R = GrowF tt51 51 2 t0 t1 w R := by kernel_rfl
theorem c112 {k : Nat} (hk : k ≤ 1000000) (w : World) : CW Try.prog 112 #[.slice none 0 0, .int .i64 k] w fun v w' => ∃ t', v = slV t' ∧ OwS w' t' 2 [] ∧ t'.n = 0 ∧ Ext w w' ∧ ∀ j ∈ blk t', w.heap.size ≤ j := by
  refine F112_ok ⟨none, 0, 0⟩ k w _ ?_
  rw [F112_eq]
  refine GrowF_nil rfl rfl (by intro y hy; simp [Value.cells] at hy; rcases hy with rfl | rfl <;> rfl) ⟨by omega, by dsimp only; omega⟩ (by decide) (by omega) ?_
  intro s' w' ho hn he hb
  exact ⟨s', rfl, ho, hn, he, hb⟩
/-- A list of spans with its slice. -/
abbrev SpL := Sl × List Spn
abbrev hS (x : SpL) : Value := slV x.1
def sumS (xs : List SpL) : Nat := (xs.flatMap (·.2)).length
theorem sumS_take {xs : List SpL} {i : Nat} {x : SpL} (h : xs[i]? = some x) : sumS (xs.take (i + 1)) = sumS (xs.take i) + x.2.length := by
  unfold sumS; rw [take_succ_get h]; simp
theorem sumS_le (xs : List SpL) (i : Nat) : sumS (xs.take i) ≤ sumS xs := by
  unfold sumS
  conv => rhs; rw [← List.take_append_drop i xs]
  rw [List.flatMap_append, List.length_append]; omega
theorem c98 {w : World} {t : Sl} {xs : List SpL} (h : Rd w t 1 (xs.map hS)) (hx : ∀ x ∈ xs, Rd w x.1 2 (x.2.flatMap sv)) (hl : sumS xs ≤ 1000000) (hn : xs.length ≤ 1000) :
    CW Try.prog 98 #[slV t] w fun v w' => ∃ t', v = slV t' ∧ OwS w' t' 2 ((xs.flatMap (·.2)).flatMap sv) ∧ Ext w w' ∧ ∀ j ∈ blk t', w.heap.size ≤ j := by
  have htn : t.n = xs.length := by rw [h.len1, List.length_map]
  have elem : ∀ (i : Nat) (w5 : World), Ext w w5 → i < xs.length → ∃ x a o, xs[i]? = some x ∧ t.p = some ⟨a, o, none⟩ ∧ w5.cell? ⟨a, o + i, none⟩ = some (slV x.1) ∧ Rd w5 x.1 2 (x.2.flatMap sv) ∧ x.1.n = x.2.length := by
    intro i w5 e hi
    have hxi : xs[i]? = some xs[i] := List.getElem?_eq_getElem hi
    obtain ⟨a, o, ha, hc⟩ := (h.ext e).elem1 (i := i) (v := hS xs[i]) (by rw [List.getElem?_map, hxi]; rfl)
    have ho := (hx xs[i] (List.getElem_mem hi)).ext e
    exact ⟨xs[i], a, o, hxi, ha, hc, ho, rdN sv_len (by omega) ho⟩
  refine F98_ok t w _ ?_
  refine ⟨fun n x w5 => ∃ i : Nat, i ≤ xs.length ∧ n + i = xs.length ∧ x = ((sumS (xs.take i) : Int), (i : Int)) ∧ w5 = w, ⟨xs.length, 0, Nat.zero_le _, rfl, rfl, rfl⟩, ?_⟩
  rintro n x w5 g ⟨i, hi, hni, rfl, rfl⟩
  unfold F98j1
  refine IfB.dec (fun hlt => ?_) (fun hge => ?_)
  · have hi' : i < xs.length := by
      have : (i : Int) < (t.n : Int) := hlt
      omega
    obtain ⟨y, a, o, hy, ha, hc, ho, hyn⟩ := elem i w5 (Ch.refl _ _) hi'
    have h1 := sumS_take hy
    have h2 := sumS_le xs (i + 1)
    have e1 : IntKind.i64.wrap ((sumS (xs.take i) : Int) + (y.1.n : Int)) = (sumS (xs.take (i + 1)) : Int) := by rw [wrap_of (by omega) (by omega)]; omega
    refine ⟨a, o, ha, (⟨by omega, by omega⟩ : (0 : Int) ≤ (i : Int) ∧ (i : Int) < (t.n : Int)), y.1, by rw [Int.toNat_natCast]; exact hc, ?_⟩
    dsimp only
    rw [e1]
    refine IfB.no (by simp) ⟨rfl, n - 1, by omega, i + 1, hi', by omega, ?_, rfl⟩
    rw [wrap_of (by omega) (by omega)]; rfl
  · have hi' : i = xs.length := by
      have : ¬ (i : Int) < (t.n : Int) := hge
      omega
    subst hi'
    have hT : sumS (xs.take xs.length) = sumS xs := by rw [List.take_length]
    dsimp only
    rw [hT]
    refine (c112 hl w5).use ?_
    rintro _ w13 ⟨t1, rfl, ho1, hn1, e13, hb1⟩
    refine ⟨t1, rfl, fun n x w19 => ∃ i t2, i ≤ xs.length ∧ n + i = xs.length ∧ x = (t2, (i : Int)) ∧ OwS w19 t2 2 (((xs.take i).flatMap (·.2)).flatMap sv) ∧ Ext w5 w19 ∧ ∀ j ∈ blk t2, w5.heap.size ≤ j, ⟨xs.length, 0, t1, Nat.zero_le _, rfl, rfl, ho1, e13, hb1⟩, ?_⟩
    rintro n x w19 g ⟨i, t2, hi, hni, rfl, ho2, e19, hb2⟩
    unfold F98j2
    refine IfB.dec (fun hlt => ?_) (fun hge => ?_)
    · have hi' : i < xs.length := by
        have : (i : Int) < (t.n : Int) := hlt
        omega
      obtain ⟨y, a, o, hy, ha, hc, ho, hyn⟩ := elem i w19 e19 hi'
      have h1 := sumS_take hy
      have h2 := sumS_le xs (i + 1)
      have ht2 : t2.n = sumS (xs.take i) := owsN sv_len (by omega) ho2
      refine ⟨a, o, ha, (⟨by omega, by omega⟩ : (0 : Int) ≤ (i : Int) ∧ (i : Int) < (t.n : Int)), y.1, by rw [Int.toNat_natCast]; exact hc, y.2.flatMap sv, ho.2, ?_⟩
      refine ho2.append (cnt := y.1.n) rfl rfl ho.1 (flatOne sv_one _) ⟨by omega, by dsimp only; omega⟩ ?_
      intro s' w' ho' hn' hc' hb' _
      refine ⟨rfl, n - 1, by omega, i + 1, s', hi', by omega, ?_, ?_, ?_, ?_⟩
      · rw [wrap_of (by dsimp only; omega) (by dsimp only; omega)]; rfl
      · rw [take_succ_get hy, List.flatMap_append, List.flatMap_append]
        simpa using ho'
      · exact e19.then hc' fun j hj hjb => by have := hb2 j hjb; omega
      · intro j hj
        rcases hb' j hj with h | h
        · exact hb2 j h
        · have := e19.size; omega
    · have hi' : i = xs.length := by
        have : ¬ (i : Int) < (t.n : Int) := hge
        omega
      subst hi'
      rw [List.take_length] at ho2
      exact ⟨t2, rfl, ho2, e19, hb2⟩
end Go.Proofs.Ytmmhbjbaallkfaa.Gx

/- Package keys: plain. -/
namespace Go.Proofs.Ytmmhbjbaallkfaa.Gx
open Go
set_option linter.unusedSimpArgs false
set_option linter.unusedVariables false
def NormS (l : List Spn) : Prop := l.Pairwise (fun a b => a.2 + 1 < b.1) ∧ ∀ x ∈ l, mayS x
structure PlI (os ds : List Spn) : Prop where
  norm : NormS os
  has : ∀ k, hasS os k ↔ hasS ds k
  lo : ∀ y ∈ os, ∃ d ∈ ds, y.1 = d.1
  len : os.length ≤ ds.length
theorem PlI.nil : PlI [] [] := ⟨⟨.nil, by simp⟩, fun k => Iff.rfl, by simp, Nat.le_refl _⟩
theorem hasS_append (a b : List Spn) (k : Int) : hasS (a ++ b) k ↔ hasS a k ∨ hasS b k := by
  unfold hasS
  constructor
  · rintro ⟨x, hx, h⟩
    rcases List.mem_append.1 hx with hx | hx
    · exact .inl ⟨x, hx, h⟩
    · exact .inr ⟨x, hx, h⟩
  · rintro (⟨x, hx, h⟩ | ⟨x, hx, h⟩)
    · exact ⟨x, List.mem_append.2 (.inl hx), h⟩
    · exact ⟨x, List.mem_append.2 (.inr hx), h⟩
theorem hasS_one (s : Spn) (k : Int) : hasS [s] k ↔ mayS s ∧ s.1 ≤ k ∧ k ≤ s.2 := by simp [hasS]
theorem PlI.add {os ds : List Spn} {s : Spn} (h : PlI os ds) (hs : mayS s) (hb : ∀ y ∈ os, y.2 + 1 < s.1) : PlI (os ++ [s]) (ds ++ [s]) := by
  refine ⟨⟨List.pairwise_append.2 ⟨h.norm.1, by simp, fun a ha b hb' => ?_⟩, fun x hx => ?_⟩, fun k => ?_, fun y hy => ?_, ?_⟩
  · rw [List.mem_singleton.1 hb']; exact hb a ha
  · rcases List.mem_append.1 hx with hx | hx
    · exact h.norm.2 x hx
    · rw [List.mem_singleton.1 hx]; exact hs
  · rw [hasS_append, hasS_append, h.has]
  · rcases List.mem_append.1 hy with hy | hy
    · obtain ⟨d, hd, e⟩ := h.lo y hy
      exact ⟨d, List.mem_append.2 (.inl hd), e⟩
    · exact ⟨y, List.mem_append.2 (.inr hy), rfl⟩
  · have := h.len; simp; omega
theorem PlI.grow {pre ds : List Spn} {l s : Spn} {m : Int} (h : PlI (pre ++ [l]) ds) (hs : mayS s) (hd : ∀ d ∈ ds, d.1 ≤ s.1) (hb : s.1 ≤ l.2 + 1) (hm : m = if l.2 < s.2 then s.2 else l.2) : PlI (pre ++ [(l.1, m)]) (ds ++ [s]) := by
  obtain ⟨d0, hd0, e0⟩ := h.lo l (by simp)
  have hls : l.1 ≤ s.1 := by rw [e0]; exact hd d0 hd0
  have hml := h.norm.2 l (by simp)
  obtain ⟨p1, _, p3⟩ := List.pairwise_append.1 h.norm.1
  have hm1 : l.2 ≤ m := by subst hm; split <;> omega
  have hm2 : s.2 ≤ m := by subst hm; split <;> omega
  have hm3 : m = s.2 ∨ m = l.2 := by subst hm; split <;> simp
  have hmm : mayS (l.1, m) := by unfold mayS at *; dsimp only; omega
  refine ⟨⟨List.pairwise_append.2 ⟨p1, by simp, fun a ha b hb' => ?_⟩, fun x hx => ?_⟩, fun k => ?_, fun y hy => ?_, ?_⟩
  · rw [List.mem_singleton.1 hb']; exact p3 a ha l (by simp)
  · rcases List.mem_append.1 hx with hx | hx
    · exact h.norm.2 x (by simp [hx])
    · rw [List.mem_singleton.1 hx]; exact hmm
  · rw [hasS_append, hasS_append, ← h.has, hasS_append, hasS_one, hasS_one, hasS_one, or_assoc]
    refine or_congr Iff.rfl ?_
    unfold mayS at *
    dsimp only at *
    omega
  · rcases List.mem_append.1 hy with hy | hy
    · obtain ⟨d, hd, e⟩ := h.lo y (by simp [hy])
      exact ⟨d, List.mem_append.2 (.inl hd), e⟩
    · rw [List.mem_singleton.1 hy]
      exact ⟨d0, List.mem_append.2 (.inl hd0), e0⟩
  · have := h.len; simp at this ⊢; omega
theorem hasS_filter (xs : List Spn) (k : Int) : hasS (xs.filter fun x => !!decide (mayS x)) k ↔ hasS xs k := by
  unfold hasS
  constructor
  · rintro ⟨x, hx, h⟩; exact ⟨x, (List.mem_filter.1 hx).1, h⟩
  · rintro ⟨x, hx, h⟩; exact ⟨x, List.mem_filter.2 ⟨hx, by simp [h.1]⟩, h⟩
theorem hasS_perm {xs ys : List Spn} (h : xs.Perm ys) (k : Int) : hasS xs k ↔ hasS ys k := by
  unfold hasS
  exact ⟨fun ⟨x, hx, r⟩ => ⟨x, h.mem_iff.1 hx, r⟩, fun ⟨x, hx, r⟩ => ⟨x, h.mem_iff.2 hx, r⟩⟩
theorem last_split {os : List Spn} (h : 0 < os.length) : ∃ pre l, os = pre ++ [l] := by
  have hne : os ≠ [] := List.length_pos_iff.1 h
  exact ⟨os.dropLast, os.getLast hne, (List.dropLast_concat_getLast hne).symm⟩
theorem c74 {w : World} {t : Sl} {xs : List SpL} (h : Rd w t 1 (xs.map hS)) (hx : ∀ x ∈ xs, Rd w x.1 2 (x.2.flatMap sv)) (hl : sumS xs ≤ 1000000) (hn : xs.length ≤ 1000) :
    CW Try.prog 74 #[slV t] w fun v w' => ∃ t' os, v = slV t' ∧ NormS os ∧ (∀ k, hasS os k ↔ hasS (xs.flatMap (·.2)) k) ∧ OwS w' t' 2 (os.flatMap sv) ∧ os.length ≤ sumS xs ∧ Ext w w' ∧ ∀ j ∈ blk t', w.heap.size ≤ j := by
  refine F74_ok t w _ ((c98 h hx hl hn).use ?_)
  rintro _ w2 ⟨s3, rfl, ho3, e2, hb3⟩
  obtain ⟨all, hall⟩ : ∃ all, all = xs.flatMap (·.2) := ⟨_, rfl⟩
  have hal : all.length = sumS xs := by rw [hall]; rfl
  rw [← hall] at ho3 ⊢
  refine ⟨s3, rfl, (c97 (t1 := (99, #[])) (q := fun x => !decide (mayS x)) ho3 (by omega) fun x W hx hC R' hR => (c99 x W).use fun v w' ⟨hv, e⟩ => hv ▸ hR w' e).use ?_⟩
  rintro _ w5 ⟨s6, rfl, ho6, hp6, hC5⟩
  have hb6 : blk s6 = blk s3 := by simp [blk, hp6]
  have e5 : Ext w w5 := e2.then hC5 fun i hi h => by have := hb3 i h; omega
  have hfl := List.length_filter_le (fun x : Spn => !!decide (mayS x)) all
  refine ⟨s6, rfl, (SfS.c101 c102 ho6 (by omega)).use ?_⟩
  rintro _ w8 ⟨rfl, zs, hperm, hsort, ho8, hC8⟩
  have e8 : Ext w w8 := e5.then hC8 fun i hi h => by rw [hb6] at h; have := hb3 i h; omega
  have hzl : zs.length ≤ sumS xs := by have := hperm.length_eq; omega
  have hzm : ∀ x ∈ zs, mayS x := fun x hx => by
    have := (List.mem_filter.1 (hperm.mem_iff.1 hx)).2
    simpa using this
  have hzk : ∀ k, hasS zs k ↔ hasS all k := fun k => (hasS_perm hperm k).trans (hasS_filter all k)
  have hzn := owsN sv_len (by omega) ho8
  have hzs : ∀ i (hi : i < zs.length), ∀ d ∈ zs.take i, d.1 ≤ zs[i].1 := fun i hi d hd => by
    obtain ⟨j, hj, rfl⟩ := List.getElem_of_mem hd
    rw [List.length_take] at hj
    rw [List.getElem_take]
    exact List.pairwise_iff_getElem.1 hsort j i (by omega) hi (by omega)
  have hR8 := ho8.rd
  refine ⟨(), rfl, fun n x W => ∃ (i : Nat) (so : Sl) (os : List Spn), i ≤ zs.length ∧ n + i = zs.length ∧ x = (so, (i : Int)) ∧ PlI os (zs.take i) ∧ OwS W so 2 (os.flatMap sv) ∧ Ext w8 W ∧ ∀ j ∈ blk so, w8.heap.size ≤ j,
    ⟨zs.length, 0, ⟨none, 0, 0⟩, [], Nat.zero_le _, rfl, rfl, .nil, .nil _ _, Ch.refl _ _, by simp [blk]⟩, ?_⟩
  rintro n _ W g ⟨i, so, os, hi, hni, rfl, hI, ho, hE, hbo⟩
  have hon := owsN sv_len (by omega) ho
  have hol := hI.len
  rw [List.length_take] at hol
  unfold F74j1
  refine IfB.dec (fun hlt => ?_) fun hge => ?_
  · have hi' : i < zs.length := by
      have : (i : Int) < (s6.n : Int) := hlt
      omega
    have hz : zs[i]? = some zs[i] := List.getElem?_eq_getElem hi'
    have hms := hzm _ (List.getElem_mem hi')
    have hds := hzs i hi'
    generalize zs[i] = s at hz hms hds
    obtain ⟨a, o, hp, hc⟩ := (hR8.ext hE).elem (i := i) (by omega) (by omega) (flatGet sv_len hz)
    have htk := take_succ_get hz
    refine ⟨a, o, hp, (⟨by omega, by omega⟩ : (0 : Int) ≤ (i : Int) ∧ (i : Int) < (s6.n : Int)), s, by rw [Int.toNat_natCast]; exact hc, boxSp rfl fun b20 w22 hb20 hs22 h22 e22 _ => ?_⟩
    have ho22 := ho.ext e22
    have hi1 : IntKind.i64.wrap ((i : Int) + 1) = ((i + 1 : Nat) : Int) := by rw [wrap_of (by omega) (by omega)]; rfl
    -- a span more
    have app : (∀ y ∈ os, y.2 + 1 < s.1) → ∀ (w2 : World), Ext w22 w2 → ∃ (x42 : Int × Int), CellsAt w2 b20 0 [.int .i64 x42.1, .int .i64 x42.2] ∧ 1 * 2 ≤ 16777216 ∧
        AllocP w2 (.cells #[.int .i64 x42.1, .int .i64 x42.2] 51) fun b43 w44 => ∃ l45, ReadC w44 (some ⟨b43, 0, none⟩) (1 * 2) l45 ∧
        AppendP tt51 51 w44 so.1 so.2 so.3 1 l45 fun s46 w47 => ([] : List Nat) = [] ∧ ∃ b48, b48 < n ∧ ∃ (i' : Nat) (so' : Sl) (os : List Spn), i' ≤ zs.length ∧ b48 + i' = zs.length ∧ (({ p := s46.1, n := s46.2, c := s46.3 } : Sl), IntKind.i64.wrap ((i : Int) + 1)) = (so', (i' : Int)) ∧ PlI os (zs.take i') ∧ OwS w47 so' 2 (os.flatMap sv) ∧ Ext w8 w47 ∧ ∀ j ∈ blk so', w8.heap.size ≤ j := by
      intro hb w2 e2
      refine ⟨s, cellsAt_of (e2.at h22) fun i v hv => by simpa using hv, by decide, fun b43 w44 h44 => ?_⟩
      have e44 : Ext w22 w44 := e2.trans (h44.ch _)
      refine (ho22.ext e44).lit (new := sv s) (T' := 51) h44.new rfl (sv_one s) rfl rfl (by omega) (by decide) fun s' w' ho' hn' hC' hb' => ⟨rfl, n - 1, by omega, i + 1, s', os ++ [s], hi', by omega, by rw [hi1], ?_, ?_, ?_, ?_⟩
      · rw [htk]; exact hI.add hms hb
      · rw [List.flatMap_append]; simpa using ho'
      · exact (hE.trans (e22.trans e44)).then hC' fun j hj h => by have := hbo j h; omega
      · intro j hj
        rcases hb' j hj with h | h
        · exact hbo j h
        · have := hE.size; have := (e22.trans e44).size; omega
    refine IfB.dec (fun h0 => ?_) fun h0 => ?_
    · have h0' : 0 < os.length := by
        have : (0 : Int) < (so.n : Int) := h0
        omega
      obtain ⟨pre, l, hos⟩ := last_split h0'
      have hol' : os.length = pre.length + 1 := by rw [hos]; simp
      have hgl : os[pre.length]? = some l := by rw [hos]; simp
      have hml : mayS l := hI.norm.2 l (by rw [hos]; simp)
      have hd : ∀ W2, Ext w22 W2 → ∃ a2, so.p = some ⟨a2, 0, none⟩ ∧ CellsAt W2 a2 (pre.length * 2) [.int .i64 l.1, .int .i64 l.2] := fun W2 e => (ho22.ext e).elem (i := pre.length) (by omega) (flatGet sv_len hgl)
      have ed := extDrew w22
      have edd := ed.trans (extDrew w22.drew)
      obtain ⟨a2, hp2, hc2⟩ := hd _ ed
      obtain ⟨a3, hp3, hc3⟩ := hd _ edd
      rw [hp2] at hp3; cases hp3
      have hwn : IntKind.i64.wrap ((so.n : Int) - 1) = ((pre.length : Nat) : Int) := by rw [wrap_of (by omega) (by omega)]; omega
      have hw2 : IntKind.i64.wrap (l.2 + 1) = l.2 + 1 := by unfold mayS at hml; rw [wrap_of (by omega) (by omega)]
      have q0 : ∀ W2, Ext w22 W2 → W2.cell? ⟨b20, 0 + 0, none⟩ = some (.int .i64 s.1) := fun W2 e => by rw [cell_of (e.at h22)]; rfl
      have q1 : ∀ W2, Ext w22 W2 → W2.cell? ⟨b20, 0 + 1, none⟩ = some (.int .i64 s.2) := fun W2 e => by rw [cell_of (e.at h22)]; rfl
      refine ⟨s.1, q0 _ ed, a2, 0, hp2, ?_, l.2, ?_, ?_⟩
      · dsimp only; rw [hwn]; omega
      · dsimp only; rw [hwn, Int.toNat_natCast, Nat.zero_add]; exact hc2.snd
      · rw [hw2]
        refine IfB.dec (fun hle => ?_) fun hgt => ?_
        · refine ⟨a2, 0, hp2, ?_, l.2, ?_, s.2, q1 _ edd, a2, 0, hp2, ?_, rfl, ?_⟩
          · dsimp only; rw [hwn]; omega
          · dsimp only; rw [hwn, Int.toNat_natCast, Nat.zero_add]; exact hc3.snd
          · dsimp only; rw [hwn]; omega
          · dsimp only; rw [hwn, Int.toNat_natCast, Nat.zero_add]
            refine (ho22.ext edd).store (vs := [.int .i64 (if l.2 < s.2 then s.2 else l.2)]) hp2 (by simp; omega) (by intro v hv; rw [List.mem_singleton.1 hv]; rfl) fun w33 ho33 hC33 => ?_
            refine ⟨rfl, n - 1, by omega, i + 1, so, pre ++ [(l.1, if l.2 < s.2 then s.2 else l.2)], hi', by omega, by rw [hi1], ?_, ?_, ?_, hbo⟩
            · rw [htk]; exact PlI.grow (hos ▸ hI) hms hds hle rfl
            · have e1 : (os.flatMap sv) = (pre.flatMap sv ++ [.int .i64 l.1]) ++ [.int .i64 l.2] := by rw [hos]; simp
              have e2 : (pre.flatMap sv ++ [Value.int .i64 l.1]).length = pre.length * 2 + 1 := by simp [flatLen sv_len]
              rw [e1, ← e2, List.take_append_of_le_length (Nat.le_refl _), List.take_length, List.drop_of_length_le (by simp)] at ho33
              simpa using ho33
            · exact (hE.trans (e22.trans edd)).then hC33 fun j hj e => by have := hbo j (by simp [blk, hp2, e]); omega
        · unfold F74k1
          refine app (fun y hy => ?_) _ ed
          have hgt' : l.2 + 1 < s.1 := by omega
          rw [hos] at hy
          rcases List.mem_append.1 hy with hy | hy
          · have := (List.pairwise_append.1 (hos ▸ hI.norm.1)).2.2 y hy l (by simp)
            unfold mayS at hml; omega
          · rw [List.mem_singleton.1 hy]; exact hgt'
    · have h0' : os = [] := List.length_eq_zero_iff.1 (by
        have : ¬ (0 : Int) < (so.n : Int) := h0
        omega)
      unfold F74k1
      exact app (by rw [h0']; simp) _ (extDrew _)
  · have hi' : i = zs.length := by
      have : ¬ (i : Int) < (s6.n : Int) := hge
      omega
    subst hi'
    rw [List.take_length] at hI
    exact ⟨so, os, rfl, hI.norm, fun k => (hI.has k).trans (hzk k), ho, by omega, e8.trans hE, fun j hj => by have := hbo j hj; have := e8.size; omega⟩
end Go.Proofs.Ytmmhbjbaallkfaa.Gx

/- Package keys: meets, Meet. -/
namespace Go.Proofs.Ytmmhbjbaallkfaa.Gx
open Go
set_option linter.unusedSimpArgs false
set_option linter.unusedVariables false
def bothS (x y : Spn) : Spn := (if x.1 < y.1 then y.1 else x.1, if y.2 < x.2 then y.2 else x.2)
def meetRow (x : Spn) (bs : List Spn) : List Spn := (bs.map (bothS x)).filter fun s => decide (s.1 ≤ s.2)
def meetL (ls bs : List Spn) : List Spn := ls.flatMap fun x => meetRow x bs
theorem meetRow_take {x y : Spn} {bs : List Spn} {j : Nat} (h : bs[j]? = some y) : meetRow x (bs.take (j + 1)) = meetRow x (bs.take j) ++ if (bothS x y).1 ≤ (bothS x y).2 then [bothS x y] else [] := by
  unfold meetRow
  rw [take_succ_get h, List.map_append, List.filter_append]
  congr 1
  by_cases hc : (bothS x y).1 ≤ (bothS x y).2 <;> simp [hc]
theorem meetL_take {ls bs : List Spn} {i : Nat} {x : Spn} (h : ls[i]? = some x) : meetL (ls.take (i + 1)) bs = meetL (ls.take i) bs ++ meetRow x bs := by
  unfold meetL; rw [take_succ_get h, List.flatMap_append]; simp
structure InvM (b1 b3 : Nat) (sa sb : Sl) (ls bs : List Spn) (W : World) : Prop where
  a : ∃ T, W.heap[b1]? = some (.cells #[slV sa] T (0, 0))
  b : ∃ T, W.heap[b3]? = some (.cells #[slV sb] T (0, 0))
  ra : Rd W sa 2 (ls.flatMap sv)
  rb : Rd W sb 2 (bs.flatMap sv)
theorem InvM.stb {n b1 b3 : Nat} {sa sb : Sl} {ls bs : List Spn} {W W' : World} (h : InvM b1 b3 sa sb ls bs W) (hS : Stb n W W') : InvM b1 b3 sa sb ls bs W' := by
  obtain ⟨⟨T, h1⟩, ⟨T', h2⟩, h3, h4⟩ := h
  exact ⟨⟨T, hS.keep _ _ h1 rfl⟩, ⟨T', hS.keep _ _ h2 rfl⟩, rd_stb h3 hS, rd_stb h4 hS⟩
abbrev spA (x : Spn) : Array Value := #[spV x]
theorem itM (b1 b3 : Nat) (sa sb : Sl) (ls bs : List Spn) (hla : ls.length ≤ 1000000) (hlb : bs.length ≤ 1000000) :
    IterU Try.prog 96 #[.pointer (some ⟨b1, 0, none⟩), .pointer (some ⟨b3, 0, none⟩)] spA false (fun pre x => ∃ post, pre ++ x :: post = meetL ls bs) (fun xs => xs = meetL ls bs) (InvM b1 b3 sa sb ls bs) := by
  refine ⟨en96, fun l J Jx U W hJ hJx hInv hSz _ hU hU1 hstep h0 => ?_⟩
  have hI0 := hInv _ _ h0
  have han := rdN sv_len (by omega) hI0.ra
  have hbn := rdN sv_len (by omega) hI0.rb
  obtain ⟨T1, hT1⟩ := hI0.a
  refine F96_ok l b1 b3 W _ ⟨sa, by rw [cell_of hT1]; rfl, fun n x w6 => ∃ i : Nat, i ≤ ls.length ∧ n + i = ls.length ∧ x = (i : Int) ∧ J (meetL (ls.take i) bs) w6, ⟨ls.length, 0, Nat.zero_le _, rfl, rfl, h0⟩, ?_⟩
  rintro n _ w6 g ⟨i, hi, hni, rfl, hj⟩
  have hw6 := hSz _ _ hj
  unfold F96j1
  refine IfB.dec (fun hlt => ?_) fun hge => ?_
  · have hi' : i < ls.length := by omega
    have hx : ls[i]? = some ls[i] := List.getElem?_eq_getElem hi'
    have hmt := meetL_take (bs := bs) hx
    have hsplit : ∀ (q : List Spn), (∃ r, q ++ r = meetRow ls[i] bs) → ∃ r, meetL (ls.take i) bs ++ q ++ r = meetL ls bs := fun q ⟨r, hr⟩ => by
      refine ⟨r ++ meetL (ls.drop (i + 1)) bs, ?_⟩
      have : meetL ls bs = meetL (ls.take (i + 1)) bs ++ meetL (ls.drop (i + 1)) bs := by
        unfold meetL; rw [← List.flatMap_append, List.take_append_drop]
      rw [this, hmt, ← hr]; simp
    generalize ls[i] = x at hx hmt hsplit
    obtain ⟨a, o, hp, hc⟩ := (hInv _ _ hj).ra.elem (i := i) (by omega) (by omega) (flatGet sv_len hx)
    refine ⟨a, o, hp, ⟨by omega, hlt⟩, x, by rw [Int.toNat_natCast]; exact hc, boxSp rfl fun b12 w14 hb12 hs14 h14 e14 hS14 => ?_⟩
    have hj14 := hJ _ _ _ hj (hS14 _ hw6)
    have hI14 := hInv _ _ hj14
    obtain ⟨T2, hT2⟩ := hI14.b
    have hn12 : ¬ U w14 b12 := fun h => by
      have := hU1 _ _ hj _ (hU _ _ (hS14 _ hw6) _ h)
      omega
    refine ⟨sb, by rw [cell_of hT2]; rfl, fun m y w20 => ∃ j : Nat, j ≤ bs.length ∧ m + j = bs.length ∧ y = (j : Int) ∧ J (meetL (ls.take i) bs ++ meetRow x (bs.take j)) w20 ∧ (∃ T, w20.heap[b12]? = some (.cells #[.int .i64 x.1, .int .i64 x.2] T (0, 0))) ∧ ¬ U w20 b12,
      ⟨bs.length, 0, Nat.zero_le _, rfl, rfl, by simpa [meetRow] using hj14, ⟨_, h14⟩, hn12⟩, ?_⟩
    rintro m _ w20 g ⟨j, hj1, hmj, rfl, hJ20, ⟨T3, h20⟩, hn20⟩
    have hw20 := hSz _ _ hJ20
    unfold F96j2
    refine IfB.dec (fun hlt2 => ?_) fun hge2 => ?_
    · have hj' : j < bs.length := by omega
      have hy : bs[j]? = some bs[j] := List.getElem?_eq_getElem hj'
      have hmr := meetRow_take (x := x) hy
      have hrest : ∃ r, meetRow x (bs.take (j + 1)) ++ r = meetRow x bs := ⟨meetRow x (bs.drop (j + 1)), by
        unfold meetRow; rw [← List.filter_append, ← List.map_append, List.take_append_drop]⟩
      generalize bs[j] = y at hy hmr
      obtain ⟨a2, o2, hp2, hc2⟩ := (hInv _ _ hJ20).rb.elem (i := j) (by omega) (by omega) (flatGet sv_len hy)
      have hi1 : IntKind.i64.wrap ((j : Int) + 1) = ((j + 1 : Nat) : Int) := by rw [wrap_of (by omega) (by omega)]; rfl
      have hlt12 := heap_lt h20
      refine ⟨a2, o2, hp2, ⟨by omega, hlt2⟩, y, by rw [Int.toNat_natCast]; exact hc2, boxSp rfl fun b26 w28 hb26 hs28 h28 e28 hS28 => ?_⟩
      have k28 := e28.at h20
      refine ⟨x.1, by rw [cell_of k28]; rfl, y.1, by rw [cell_of h28]; rfl, x.2, by rw [cell_of k28]; rfl, y.2, by rw [cell_of h28]; rfl, boxSp (x := bothS x y) rfl fun b33 w35 hb33 hs35 h35 e35 hS35 => ?_⟩
      have hS : ∀ n, n ≤ w20.heap.size → Stb n w20 w35 := fun n hn => (hS28 n hn).trans (hS35 n (by omega))
      have hJ35 := hJ _ _ _ hJ20 (hS _ hw20)
      have k35 := e35.at k28
      have hn35 : ¬ U w35 b12 := fun h => hn20 (hU _ _ (hS _ hw20) _ h)
      refine ⟨(bothS x y).1, by rw [cell_of h35]; rfl, (bothS x y).2, by rw [cell_of h35]; rfl, IfB.dec (fun hne => ?_) fun hne => ?_⟩
      · rw [if_pos hne] at hmr
        refine ⟨bothS x y, cellsAt_of h35 fun i v hv => by simpa using hv, (hstep _ (bothS x y) w35 hJ35 ?_).mono fun t w40 ht => ?_⟩
        · obtain ⟨r, hr⟩ := hsplit _ hrest
          exact ⟨r, by rw [← hr, hmr]; simp⟩
        · cases t with
          | false => exact IfB.yes rfl (.inr ⟨_, ht⟩)
          | true =>
            obtain ⟨hJ40, _, hK⟩ := ht
            refine IfB.no rfl ⟨rfl, m - 1, by omega, j + 1, hj', by omega, hi1, ?_, ⟨T3, ?_⟩, fun h => ?_⟩
            · rw [hmr, ← List.append_assoc]; exact hJ40
            · rw [hK.at' b12 (by omega) (by omega) hn35]; exact k35
            · rcases hK.own _ h with h | h
              · exact hn35 h
              · omega
      · rw [if_neg hne, List.append_nil] at hmr
        exact ⟨rfl, m - 1, by omega, j + 1, hj', by omega, hi1, by rw [hmr]; exact hJ35, ⟨T3, k35⟩, hn35⟩
    · have hj' : j = bs.length := by omega
      subst hj'
      rw [List.take_length] at hJ20
      exact ⟨rfl, n - 1, by omega, i + 1, hi', by omega, by rw [wrap_of (by omega) (by omega)]; rfl, by rw [hmt]; exact hJ20⟩
  · have hi' : i = ls.length := by omega
    subst hi'
    rw [List.take_length] at hj
    exact .inl ⟨_, rfl, hj⟩
theorem c73 (sa sb : Sl) (w : World) : CW Try.prog 73 #[slV sa, slV sb] w fun v w' => ∃ b1 b3, v = .func (.func 96) #[] #[.pointer (some ⟨b1, 0, none⟩), .pointer (some ⟨b3, 0, none⟩)] ∧
    (∃ T, w'.heap[b1]? = some (.cells #[slV sa] T (0, 0))) ∧ (∃ T, w'.heap[b3]? = some (.cells #[slV sb] T (0, 0))) ∧ w.heap.size ≤ b1 ∧ w.heap.size ≤ b3 ∧ Ext w w' :=
  F73_ok sa sb w _ fun b1 w2 h2 b3 w4 h4 => ⟨b1, b3, rfl, ⟨_, h4.at h2.new⟩, ⟨_, h4.new⟩, Nat.le_of_eq h2.here.symm, by rw [h4.here, h2.size]; omega, (h2.ch _).trans (h4.ch _)⟩
theorem meetL_iff {ls bs : List Spn} (ha : ∀ x ∈ ls, mayS x) (hb : ∀ x ∈ bs, mayS x) : meetL ls bs ≠ [] ↔ ∃ k, hasS ls k ∧ hasS bs k := by
  constructor
  · intro h
    obtain ⟨s, hs⟩ := List.exists_mem_of_ne_nil _ h
    obtain ⟨x, hx, hs⟩ := List.mem_flatMap.1 hs
    obtain ⟨hs, hd⟩ := List.mem_filter.1 hs
    obtain ⟨y, hy, rfl⟩ := List.mem_map.1 hs
    have hd : (bothS x y).1 ≤ (bothS x y).2 := by simpa using hd
    refine ⟨(bothS x y).1, ⟨x, hx, ha x hx, ?_⟩, ⟨y, hy, hb y hy, ?_⟩⟩
    · unfold bothS at hd ⊢; dsimp only at hd ⊢; split <;> split at hd <;> omega
    · unfold bothS at hd ⊢; dsimp only at hd ⊢; split <;> split at hd <;> omega
  · rintro ⟨k, ⟨x, hx, _, h1, h2⟩, ⟨y, hy, _, h3, h4⟩⟩ he
    have : bothS x y ∈ meetL ls bs := by
      refine List.mem_flatMap.2 ⟨x, hx, List.mem_filter.2 ⟨List.mem_map.2 ⟨y, hy, rfl⟩, ?_⟩⟩
      simp only [decide_eq_true_eq]
      unfold bothS; dsimp only; split <;> split <;> omega
    rw [he] at this
    cases this
theorem sumS_one (s : Sl) (l : List Spn) : sumS [(s, l)] = l.length := by simp [sumS]
/-- plain of one list, ls Meet calls it. -/
theorem plain1 {w : World} {s : Sl} {xs : List Spn} (h : Rd w s 2 (xs.flatMap sv)) (hl : xs.length ≤ 1000000) {K : Value → World → Prop}
    (hK : ∀ t' os w', NormS os → (∀ k, hasS os k ↔ hasS xs k) → OwS w' t' 2 (os.flatMap sv) → os.length ≤ xs.length → Ext w w' → (∀ j ∈ blk t', w.heap.size ≤ j) → K (slV t') w') {T : TypeId} :
    AllocP w (.cells #[slV s] T) fun b w2 => CX Try.prog 74 #[.slice (some ⟨b, 0, none⟩) 1 1] w2 K := by
  intro b w2 h2
  have e2 : Ext w w2 := h2.ch _
  have hR : Rd w2 ⟨some ⟨b, 0, none⟩, 1, 1⟩ 1 ([(s, xs)].map hS) := (OwS.new (cs := [slV s]) (n := 1) (sz := 1) h2 rfl).rd
  refine (c74 hR (fun x hx => by rw [List.mem_singleton.1 hx]; exact h.ext e2) (by rw [sumS_one]; exact hl) (by simp)).use ?_
  rintro _ w' ⟨t', os, rfl, h1, h3, h4, h5, h6, h7⟩
  rw [sumS_one] at h5
  simp only [List.flatMap_cons, List.flatMap_nil, List.append_nil] at h3
  exact hK t' os w' h1 h3 h4 h5 (e2.trans h6) fun j hj => by have := h7 j hj; have := e2.size; omega
theorem c60 {w : World} {s t : Sl} {xs ys : List Spn} (hs : Rd w s 2 (xs.flatMap sv)) (ht : Rd w t 2 (ys.flatMap sv)) (hxl : xs.length ≤ 1000000) (hyl : ys.length ≤ 1000000) :
    CW Try.prog 60 #[slV s, slV t] w fun v w' => ∃ r, v = .bool r ∧ (r = true ↔ ∃ k, hasS xs k ∧ hasS ys k) ∧ Ext w w' := by
  refine F60_ok s t w _ fun b1 w2 h2 => ⟨by decide, ?_⟩
  have e2 : Ext w w2 := h2.ch _
  refine plain1 (hs.ext e2) hxl fun s7 os1 w6 hN1 hk1 ho1 hl1 e6 hb7 => ⟨s7, rfl, by decide, ?_⟩
  refine plain1 (ht.ext (e2.trans e6)) hyl fun s12 os2 w11 hN2 hk2 ho2 hl2 e11 hb12 => ⟨s12, rfl, ?_⟩
  refine (c73 s7 s12 w11).use ?_
  rintro _ w14 ⟨p1, p3, rfl, hp1, hp3, hp1', hp3', e14⟩
  have hiff := meetL_iff hN1.2 hN2.2
  have hall : meetL os1 os2 ≠ [] ↔ ∃ k, hasS xs k ∧ hasS ys k := by
    rw [hiff]; exact exists_congr fun k => and_congr (hk1 k) (hk2 k)
  refine ⟨(96, #[.pointer (some ⟨p1, 0, none⟩), .pointer (some ⟨p3, 0, none⟩)]), rfl, fun g => ?_⟩
  have E14 : Ext w w14 := ((e2.trans e6).trans e11).trans e14
  have H1 : w14.heap[b1]? = some (.cells #[.bool false] 4 (0, 0)) := e14.at (e11.at (e6.at h2.new))
  have hI : InvM p1 p3 s7 s12 os1 os2 w14 := ⟨hp1, hp3, ((ho1.ext e11).ext e14).rd, (ho2.ext e14).rd⟩
  have hb1 : b1 < w14.heap.size := heap_lt H1
  have hb1' : w.heap.size = b1 := h2.here.symm
  refine range_noneU tbOk mixed (gf := 96) (lb := #[.pointer (some ⟨p1, 0, none⟩), .pointer (some ⟨p3, 0, none⟩)]) rfl (itM p1 p3 s7 s12 os1 os2 (by omega) (by omega)) R60_0ok1 R60_0ok2 R60_0okp (fun _ => rfl)
    (fun _ _ => False) (fun _ _ _ _ h => h)
    (fun pre W => pre = [] ∧ InvM p1 p3 s7 s12 os1 os2 W ∧ W.heap[b1]? = some (.cells #[.bool false] 4 (0, 0)) ∧ Ch (fun i => w.heap.size ≤ i) w W)
    (fun c pre W => c = .ret ∧ meetL os1 os2 ≠ [] ∧ W.heap[b1]? = some (.cells #[.bool true] 4 (0, 0)) ∧ Ch (fun i => w.heap.size ≤ i) w W) ?_ ?_ ?_ (fun h => by cases h) (fun _ _ _ _ h => h.elim) ?_ ?_ ?_ ?_
  · rintro pre A B ⟨h1, h2, h3, h4⟩ hS
    exact ⟨h1, h2.stb hS, hS.keep _ _ h3 rfl, h4.then (.ofStb hS) fun i _ hi => by omega⟩
  · rintro c pre A B ⟨h1, h2, h3, h4⟩ hS
    exact ⟨h1, h2, hS.keep _ _ h3 rfl, h4.then (.ofStb hS) fun i _ hi => by omega⟩
  · rintro pre W ⟨_, h, _⟩; exact h
  · exact ⟨rfl, hI, H1, E14.mono fun _ _ h => h.elim⟩
  · rintro pre x W ⟨rfl, hM, hB, hC⟩ hx hW
    refine F60b0_ok b1 (96, #[.pointer (some ⟨p1, 0, none⟩), .pointer (some ⟨p3, 0, none⟩)]) (spV x) _ _ _ _ _ W ?_
    refine ⟨rfl, ⟨rfl, rfl⟩, fun w9 hS _ _ => ⟨rfl, store_one (hS.keep _ _ hB rfl) (by simp) rfl fun w16 h16 => ?_⟩⟩
    refine ⟨⟨h16.old _ (by omega), h16.old _ (by omega)⟩, rfl, ?_, h16.new, (hC.then (.ofStb hS) fun i _ hi => by omega).then h16.ch fun i _ e => by omega⟩
    obtain ⟨post, hp⟩ := hx
    rw [← hp]; simp
  · rintro xs' W rfl ⟨hnil, _, hB, hC⟩ hD
    refine ⟨rfl, store_one hB (by simp) rfl fun w19 h19 => ?_⟩
    refine marks_one (h19.at hD (by omega)) fun w' hu => ⟨false, ?_, false, rfl, ?_, ?_⟩
    · rw [cell_of (hu.at h19.new (by omega))]; rfl
    · rw [← hall, hnil]; simp
    · have h := (hC.then h19.ch fun i _ e => (by omega : w.heap.size ≤ i)).then hu.ch fun i _ e => (by omega : w.heap.size ≤ i)
      exact h.mono fun i hi h => by omega
  · rintro c pre W ⟨rfl, hne, hB, hC⟩ hD
    refine marks_one hD fun w' hu => ⟨true, ?_, true, rfl, ?_, ?_⟩
    · rw [cell_of (hu.at hB (by omega))]; rfl
    · rw [← hall]; simp [hne]
    · have h := hC.then hu.ch fun i _ e => (by omega : w.heap.size ≤ i)
      exact h.mono fun i hi h => by omega
end Go.Proofs.Ytmmhbjbaallkfaa.Gx

/- Written by mkf.py: what is to be shown of functions, as Gx reckons it from their code. -/
namespace Go.Proofs.Ytmmhbjbaallkfaa.Gx
open Go
set_option linter.unusedVariables false
set_option maxRecDepth 100000
def F42 (t0 : (Leaf.int IntKind.i64).den × dens [Leaf.int IntKind.i64, Leaf.int IntKind.i64, Leaf.bool, Leaf.sl, Leaf.sl]) (t1 : (Leaf.int IntKind.i64).den × dens [Leaf.int IntKind.i64, Leaf.int IntKind.i64, Leaf.bool, Leaf.sl, Leaf.sl]) (w : World) (R : Value → World → Prop) : Prop :=
 AllocP w
 (Obj.cells
 #[Value.int IntKind.i64 t0.1, Value.int IntKind.i64 t0.snd.1, Value.int IntKind.i64 t0.snd.snd.1, Value.bool t0.snd.snd.snd.1,
 Value.slice t0.snd.snd.snd.snd.fst.1 t0.snd.snd.snd.snd.fst.2 t0.snd.snd.snd.snd.fst.3, Value.slice t0.snd.snd.snd.snd.snd.1 t0.snd.snd.snd.snd.snd.2 t0.snd.snd.snd.snd.snd.3]
 (27 : Nat))
 fun (b1 : Nat) (w2 : World) =>
 AllocP w2
 (Obj.cells
 #[Value.int IntKind.i64 t1.1, Value.int IntKind.i64 t1.snd.1, Value.int IntKind.i64 t1.snd.snd.1, Value.bool t1.snd.snd.snd.1,
 Value.slice t1.snd.snd.snd.snd.fst.1 t1.snd.snd.snd.snd.fst.2 t1.snd.snd.snd.snd.fst.3, Value.slice t1.snd.snd.snd.snd.snd.1 t1.snd.snd.snd.snd.snd.2 t1.snd.snd.snd.snd.snd.3]
 (27 : Nat))
 fun (b3 : Nat) (w4 : World) =>
 ∃ (n5 : Int),
 w4.cell? ({ block := b1, off := (0 : Nat) + (0 : Nat) } : Addr) = some (Value.int IntKind.i64 n5) ∧
 ∃ (n6 : Int),
 w4.cell? ({ block := b3, off := (0 : Nat) + (0 : Nat) } : Addr) = some (Value.int IntKind.i64 n6) ∧
 IfB (n5 != n6)
 (∃ (s7 : Sl),
 w4.cell? ({ block := b1, off := (0 : Nat) + (5 : Nat) } : Addr) = some (Value.slice s7.1 s7.2 s7.3) ∧
 ∃ (s8 : Sl),
 w4.cell? ({ block := b3, off := (0 : Nat) + (4 : Nat) } : Addr) = some (Value.slice s8.1 s8.2 s8.3) ∧
 CX Try.prog (60 : Nat) #[Value.slice s7.1 s7.2 s7.3, Value.slice s8.1 s8.2 s8.3] w4 fun (v9 : Value) (w10 : World) =>
 ∃ (t11 : Bool),
 v9 = Value.bool t11 ∧
 IfB t11 (R (Value.bool true) w10)
 (∃ (s12 : Sl),
 w10.cell? ({ block := b1, off := (0 : Nat) + (5 : Nat) } : Addr) = some (Value.slice s12.1 s12.2 s12.3) ∧
 ∃ (s13 : Sl),
 w10.cell? ({ block := b3, off := (0 : Nat) + (5 : Nat) } : Addr) = some (Value.slice s13.1 s13.2 s13.3) ∧
 CX Try.prog (60 : Nat) #[Value.slice s12.1 s12.2 s12.3, Value.slice s13.1 s13.2 s13.3] w10 fun (v14 : Value) (w15 : World) =>
 ∃ (t16 : Bool),
 v14 = Value.bool t16 ∧
 IfB t16 (R (Value.bool true) w15)
 (∃ (s17 : Sl),
 w15.cell? ({ block := b1, off := (0 : Nat) + (4 : Nat) } : Addr) = some (Value.slice s17.1 s17.2 s17.3) ∧
 ∃ (s18 : Sl),
 w15.cell? ({ block := b3, off := (0 : Nat) + (5 : Nat) } : Addr) = some (Value.slice s18.1 s18.2 s18.3) ∧
 CX Try.prog (60 : Nat) #[Value.slice s17.1 s17.2 s17.3, Value.slice s18.1 s18.2 s18.3] w15 fun (v19 : Value) (w20 : World) =>
 ∃ (t21 : Bool), v19 = Value.bool t21 ∧ R (Value.bool t21) w20)))
 (R (Value.bool false) w4)
theorem F42_ok (t0 : (Leaf.int IntKind.i64).den × dens [Leaf.int IntKind.i64, Leaf.int IntKind.i64, Leaf.bool, Leaf.sl, Leaf.sl]) (t1 : (Leaf.int IntKind.i64).den × dens [Leaf.int IntKind.i64, Leaf.int IntKind.i64, Leaf.bool, Leaf.sl, Leaf.sl]) (w : World) (R : Value → World → Prop) (h : F42 t0 t1 w R) : CW Try.prog 42 #[Value.agg #[Value.int IntKind.i64 t0.1, Value.int IntKind.i64 t0.snd.1, Value.int IntKind.i64 t0.snd.snd.1, Value.bool t0.snd.snd.snd.1, Value.slice t0.snd.snd.snd.snd.fst.1 t0.snd.snd.snd.snd.fst.2 t0.snd.snd.snd.snd.fst.3, Value.slice t0.snd.snd.snd.snd.snd.1 t0.snd.snd.snd.snd.snd.2 t0.snd.snd.snd.snd.snd.3], Value.agg #[Value.int IntKind.i64 t1.1, Value.int IntKind.i64 t1.snd.1, Value.int IntKind.i64 t1.snd.snd.1, Value.bool t1.snd.snd.snd.1, Value.slice t1.snd.snd.snd.snd.fst.1 t1.snd.snd.snd.snd.fst.2 t1.snd.snd.snd.snd.fst.3, Value.slice t1.snd.snd.snd.snd.snd.1 t1.snd.snd.snd.snd.snd.2 t1.snd.snd.snd.snd.snd.3]] w R :=
  call_of tbOk mixed en42 Try.func42 rfl (.nil) (by kernel_rfl) (Nat.le_of_ble_eq_true (by kernel_rfl)) (Eq.mp (α := F42 t0 t1 w R) (by kernel_rfl) h)
end Go.Proofs.Ytmmhbjbaallkfaa.Gx

/- Written by mkf.py: what is to be shown of functions, as Gx reckons it from their code. -/
namespace Go.Proofs.Ytmmhbjbaallkfaa.Gx
open Go
set_option linter.unusedVariables false
set_option maxRecDepth 100000
end Go.Proofs.Ytmmhbjbaallkfaa.Gx

/- Package slices: what an iterator of ints tells, in a slice, sorted; the iterators of a slice's elements and of a map's keys. -/
namespace Go.Proofs.Ytmmhbjbaallkfaa.Gx
open Go
set_option linter.unusedSimpArgs false
set_option linter.unusedVariables false
theorem oneIv (x : Int) : One [iv x] := by intro v hv; rw [List.mem_singleton.1 hv]; rfl
end Go.Proofs.Ytmmhbjbaallkfaa.Gx

/- Slices of ints. -/
namespace Go.Proofs.Ytmmhbjbaallkfaa.Gx
open Go
set_option linter.unusedSimpArgs false
set_option linter.unusedVariables false
theorem owsI {w : World} {t : Sl} {l : List Int} (h : OwS w t 1 (l.map iv)) : t.n = l.length := by have := h.len1; rw [List.length_map] at this; exact this
theorem rdI {w : World} {t : Sl} {l : List Int} (h : Rd w t 1 (l.map iv)) : t.n = l.length := by have := h.len1; rw [List.length_map] at this; exact this
theorem owsI_get {w : World} {t : Sl} {l : List Int} (h : OwS w t 1 (l.map iv)) {i : Nat} {x : Int} (hx : l[i]? = some x) : ∃ a, t.p = some ⟨a, 0, none⟩ ∧ w.cell? ⟨a, 0 + i, none⟩ = some (iv x) := by
  obtain ⟨a, ha, hc⟩ := h.elem1 (i := i) (v := iv x) (by rw [List.getElem?_map, hx]; rfl)
  exact ⟨a, ha, by rw [Nat.zero_add]; exact hc⟩
theorem rdI_get {w : World} {t : Sl} {l : List Int} (h : Rd w t 1 (l.map iv)) {i : Nat} {x : Int} (hx : l[i]? = some x) : ∃ a o, t.p = some ⟨a, o, none⟩ ∧ w.cell? ⟨a, o + i, none⟩ = some (iv x) :=
  h.elem1 (i := i) (v := iv x) (by rw [List.getElem?_map, hx]; rfl)
theorem setI {l : List Int} {i : Nat} {x : Int} (hi : i < l.length) : (l.map iv).take i ++ [iv x] ++ (l.map iv).drop (i + 1) = (l.set i x).map iv := by
  rw [List.map_set, List.set_eq_take_append_cons_drop, if_pos (by rw [List.length_map]; exact hi)]; simp
end Go.Proofs.Ytmmhbjbaallkfaa.Gx

/- Written by mkf.py: what is to be shown of functions, as Gx reckons it from their code. -/
namespace Go.Proofs.Ytmmhbjbaallkfaa.Gx
open Go
set_option linter.unusedVariables false
set_option maxRecDepth 100000
end Go.Proofs.Ytmmhbjbaallkfaa.Gx

/- The keys of a map of ints to bools. -/
namespace Go.Proofs.Ytmmhbjbaallkfaa.Gx
open Go
set_option linter.unusedSimpArgs false
set_option linter.unusedVariables false
end Go.Proofs.Ytmmhbjbaallkfaa.Gx

/- Queues (a slice that is cut at its beginning, and appended to); what is taken out of a map; maps that may be none. -/
namespace Go.Proofs.Ytmmhbjbaallkfaa.Gx
open Go
set_option linter.unusedSimpArgs false
set_option linter.unusedVariables false
section
variable {β : Type} {enc : β → Value}
end
end Go.Proofs.Ytmmhbjbaallkfaa.Gx

/- Packages units and deps: conflicts of nodes, what a node directly depends on; Backward of nodes. -/
namespace Go.Proofs.Ytmmhbjbaallkfaa.Gx
open Go
set_option linter.unusedSimpArgs false
set_option linter.unusedVariables false
abbrev NdV := Int × Int × Int × Bool × Sl × Sl
abbrev nC (x : NdV) : List Value := [.int .i64 x.1, .int .i64 x.2.1, .int .i64 x.2.2.1, .bool x.2.2.2.1, .slice x.2.2.2.2.1.1 x.2.2.2.2.1.2 x.2.2.2.2.1.3, .slice x.2.2.2.2.2.1 x.2.2.2.2.2.2 x.2.2.2.2.2.3]
abbrev ndV (x : NdV) : Value := .agg #[.int .i64 x.1, .int .i64 x.2.1, .int .i64 x.2.2.1, .bool x.2.2.2.1, .slice x.2.2.2.2.1.1 x.2.2.2.2.1.2 x.2.2.2.2.1.3, .slice x.2.2.2.2.2.1 x.2.2.2.2.2.2 x.2.2.2.2.2.3]
theorem nC_len (x : NdV) : (nC x).length = 6 := rfl
theorem nC_one (x : NdV) : One (nC x) := by intro v hv; simp at hv; rcases hv with rfl | rfl | rfl | rfl | rfl | rfl <;> rfl
/-- A node, with the spans that its slices have. -/
structure Nd where
  v : NdV
  rs : List Spn
  ws : List Spn
abbrev nL (x : Nd) : List Value := nC x.v
theorem nL_len (x : Nd) : (nL x).length = 6 := rfl
theorem nL_one (x : Nd) : One (nL x) := nC_one x.v
structure NdOk (w : World) (n : Nd) : Prop where
  rs : Rd w n.v.2.2.2.2.1 2 (n.rs.flatMap sv)
  ws : Rd w n.v.2.2.2.2.2 2 (n.ws.flatMap sv)
  rl : n.rs.length ≤ 1000000
  wl : n.ws.length ≤ 1000000
theorem NdOk.ext {w w' : World} {n : Nd} (h : NdOk w n) (e : Ext w w') : NdOk w' n := ⟨h.rs.ext e, h.ws.ext e, h.rl, h.wl⟩
theorem Ch.chN {F : Nat → Prop} {w W W' : World} (e : Ext w W) (hC : Ch F W W') (hF : ∀ i, F i → w.heap.size ≤ i) : Ext w W' := e.then hC fun i hi h => by have := hF i h; omega
/-- A node in a box of its own. -/
theorem boxNd {w : World} {x : NdV} {z : Array Value} {T : TypeId} (hz : z.size = 6) {K : Nat → World → Prop} (hK : ∀ b w', w.heap.size = b → w'.heap.size = b + 1 → w'.heap[b]? = some (.cells (nC x).toArray T (0, 0)) → Ext w w' → (∀ n, n ≤ w.heap.size → Stb n w w') → K b w') :
    AllocP w (.cells z T) fun b w2 => #[Value.int .i64 x.1, .int .i64 x.2.1, .int .i64 x.2.2.1, .bool x.2.2.2.1, .slice x.2.2.2.2.1.1 x.2.2.2.2.1.2 x.2.2.2.2.1.3, .slice x.2.2.2.2.2.1 x.2.2.2.2.2.2 x.2.2.2.2.2.3].size = 6 ∧ StoreP w2 b 0 (nC x) (K b) :=
  boxCells (vs := nC x) rfl (nC_one x) hz hK
def mtP (xs ys : List Spn) : Prop := ∃ k, hasS xs k ∧ hasS ys k
def cnfP (a b : Nd) : Prop := a.v.1 ≠ b.v.1 ∧ (mtP a.ws b.rs ∨ mtP a.ws b.ws ∨ mtP a.rs b.ws)
theorem c42 {w : World} {a b : Nd} (ha : NdOk w a) (hb : NdOk w b) :
    CW Try.prog 42 #[ndV a.v, ndV b.v] w fun v w' => ∃ r, v = .bool r ∧ (r = true ↔ cnfP a b) ∧ Ext w w' := by
  refine F42_ok a.v b.v w _ fun b1 w2 h2 b3 w4 h4 => ?_
  have e4 : Ext w w4 := (h2.ch _).trans (h4.ch _)
  have H1 := h4.at h2.new
  have H3 := h4.new
  have q1 : ∀ {W : World} (o : Nat), Ext w4 W → W.cell? ⟨b1, 0 + o, none⟩ = (nC a.v)[o]? := fun o e => by rw [cell_of (e.at H1), Nat.zero_add]; exact List.getElem?_toArray ..
  have q3 : ∀ {W : World} (o : Nat), Ext w4 W → W.cell? ⟨b3, 0 + o, none⟩ = (nC b.v)[o]? := fun o e => by rw [cell_of (e.at H3), Nat.zero_add]; exact List.getElem?_toArray ..
  refine ⟨_, q1 0 (Ch.refl _ _), _, q3 0 (Ch.refl _ _), IfB.intro (fun hne => ?_) fun he => ?_⟩
  · have hne : a.v.1 ≠ b.v.1 := by simpa using hne
    refine ⟨_, q1 5 (Ch.refl _ _), _, q3 4 (Ch.refl _ _), (c60 (ha.ws.ext e4) (hb.rs.ext e4) ha.wl hb.rl).use ?_⟩
    rintro _ w10 ⟨r1, rfl, hr1, e10⟩
    refine ⟨r1, rfl, IfB.intro (fun h => ⟨true, rfl, ?_, e4.trans e10⟩) fun h => ?_⟩
    · exact ⟨fun _ => ⟨hne, .inl (hr1.1 h)⟩, fun _ => rfl⟩
    have n1 : ¬ mtP a.ws b.rs := fun h' => by rw [hr1.2 h'] at h; cases h
    have e410 := e4.trans e10
    refine ⟨_, q1 5 e10, _, q3 5 e10, (c60 (ha.ws.ext e410) (hb.ws.ext e410) ha.wl hb.wl).use ?_⟩
    rintro _ w15 ⟨r2, rfl, hr2, e15⟩
    refine ⟨r2, rfl, IfB.intro (fun h => ⟨true, rfl, ?_, e410.trans e15⟩) fun h => ?_⟩
    · exact ⟨fun _ => ⟨hne, .inr (.inl (hr2.1 h))⟩, fun _ => rfl⟩
    have n2 : ¬ mtP a.ws b.ws := fun h' => by rw [hr2.2 h'] at h; cases h
    have e415 := e410.trans e15
    refine ⟨_, q1 4 (e10.trans e15), _, q3 5 (e10.trans e15), (c60 (ha.rs.ext e415) (hb.ws.ext e415) ha.rl hb.wl).use ?_⟩
    rintro _ w20 ⟨r3, rfl, hr3, e20⟩
    refine ⟨r3, rfl, r3, rfl, ?_, e415.trans e20⟩
    rw [hr3]
    exact ⟨fun h => ⟨hne, .inr (.inr h)⟩, fun h => by
      rcases h.2 with h | h | h
      · exact absurd h n1
      · exact absurd h n2
      · exact h⟩
  · have he : a.v.1 = b.v.1 := by simpa using he
    exact ⟨false, rfl, ⟨fun h => (by cases h), fun h => absurd he h.1⟩, e4⟩
structure Hst (w : World) (t : Sl) (hs : List Nd) : Prop where
  rd : Rd w t 6 (hs.flatMap nL)
  ok : ∀ n ∈ hs, NdOk w n
  len : hs.length ≤ 1000000
  cap : t.n ≤ t.c
theorem Hst.ext {w w' : World} {t : Sl} {hs : List Nd} (h : Hst w t hs) (e : Ext w w') : Hst w' t hs := ⟨h.rd.ext e, fun n hn => (h.ok n hn).ext e, h.len, h.cap⟩
theorem Hst.n {w : World} {t : Sl} {hs : List Nd} (h : Hst w t hs) : t.n = hs.length := rdN nL_len (by omega) h.rd
theorem Hst.at {w : World} {t : Sl} {hs : List Nd} (h : Hst w t hs) {i : Nat} {x : Nd} (hx : hs[i]? = some x) : ∃ b o, t.p = some ⟨b, o, none⟩ ∧ CellsAt w b (o + i * 6) (nC x.v) :=
  h.rd.elem (i := i) (by have := h.n; have := (List.getElem?_eq_some_iff.1 hx).1; omega) (by omega) (flatGet nL_len hx)
theorem Hst.get {w : World} {t : Sl} {hs : List Nd} (h : Hst w t hs) {i : Nat} {x : Nd} (hx : hs[i]? = some x) : NdOk w x := h.ok x (List.mem_of_getElem? hx)
theorem Hst.cut {w : World} {t : Sl} {hs : List Nd} (h : Hst w t hs) {k : Nat} (hk : k ≤ hs.length) : Hst w ⟨t.p, k, t.c⟩ (hs.take k) := by
  refine ⟨?_, fun n hn => h.ok n (List.mem_of_mem_take hn), by rw [List.length_take]; have := h.len; omega, by have := h.cap; have := h.n; dsimp only; omega⟩
  have := h.rd.cut (k := k) (by have := h.n; omega)
  rw [flatTake nL_len] at this
  exact this
end Go.Proofs.Ytmmhbjbaallkfaa.Gx

/- Written by mkf.py: what is to be shown of functions, as Gx reckons it from their code. -/
namespace Go.Proofs.Ytmmhbjbaallkfaa.Gx
open Go
set_option linter.unusedVariables false
set_option maxRecDepth 100000
def F48j1 (R : Value → World → Prop) (s8 : Sl) (y9 : Nat → Int → World → Prop) (b11 : Nat) (n12 : Int) (w13 : World) : Prop :=
 IfB (decide (n12 < (s8.n : Int)))
 (∃ (b16 : Nat),
 ∃ (b17 : Nat),
 s8.1 = some ({ block := b16, off := b17 } : Addr) ∧
 ((0 : Int) ≤ n12 ∧ n12 < (s8.2 : Int)) ∧
 ∃ (x18 : Int × Int × Int × Bool × Sl × Sl),
 CellsAt w13 b16 (b17 + n12.toNat * (6 : Nat))
 [Value.int IntKind.i64 x18.1, Value.int IntKind.i64 x18.snd.1, Value.int IntKind.i64 x18.snd.snd.1, Value.bool x18.snd.snd.snd.1,
 Value.slice x18.snd.snd.snd.snd.fst.1 x18.snd.snd.snd.snd.fst.2 x18.snd.snd.snd.snd.fst.3, Value.slice x18.snd.snd.snd.snd.snd.1 x18.snd.snd.snd.snd.snd.2 x18.snd.snd.snd.snd.snd.3] ∧
 AllocP w13
 (Obj.cells
 #[Value.int IntKind.i64 (0 : Int), Value.int IntKind.i64 (0 : Int), Value.int IntKind.i64 (0 : Int), Value.bool false, Value.slice none (0 : Nat) (0 : Nat), Value.slice none (0 : Nat) (0 : Nat)]
 (27 : Nat))
 fun (b19 : Nat) (w20 : World) =>
 #[Value.int IntKind.i64 x18.1, Value.int IntKind.i64 x18.snd.1, Value.int IntKind.i64 x18.snd.snd.1, Value.bool x18.snd.snd.snd.1,
 Value.slice x18.snd.snd.snd.snd.fst.1 x18.snd.snd.snd.snd.fst.2 x18.snd.snd.snd.snd.fst.3, Value.slice x18.snd.snd.snd.snd.snd.1 x18.snd.snd.snd.snd.snd.2 x18.snd.snd.snd.snd.snd.3].size =
 (6 : Nat) ∧
 StoreP w20 b19 (0 : Nat)
 [Value.int IntKind.i64 x18.1, Value.int IntKind.i64 x18.snd.1, Value.int IntKind.i64 x18.snd.snd.1, Value.bool x18.snd.snd.snd.1,
 Value.slice x18.snd.snd.snd.snd.fst.1 x18.snd.snd.snd.snd.fst.2 x18.snd.snd.snd.snd.fst.3, Value.slice x18.snd.snd.snd.snd.snd.1 x18.snd.snd.snd.snd.snd.2 x18.snd.snd.snd.snd.snd.3]
 fun (w21 : World) =>
 ∃ (s22 : Sl),
 w21.drew.cell? ({ block := b19, off := (0 : Nat) + (4 : Nat) } : Addr) = some (Value.slice s22.1 s22.2 s22.3) ∧
 ∃ (s23 : Sl),
 w21.drew.cell? ({ block := b19, off := (0 : Nat) + (5 : Nat) } : Addr) = some (Value.slice s23.1 s23.2 s23.3) ∧
 CX Try.prog (67 : Nat) #[Value.slice s22.1 s22.2 s22.3] w21.drew fun (v24 : Value) (w25 : World) =>
 ∃ (s26 : Sl),
 v24 = Value.slice s26.1 s26.2 s26.3 ∧
 w25.cell? ({ block := b19, off := (0 : Nat) + (5 : Nat) } : Addr) = some (Value.slice s23.1 s23.2 s23.3) ∧
 CX Try.prog (67 : Nat) #[Value.slice s23.1 s23.2 s23.3] w25 fun (v27 : Value) (w28 : World) =>
 ∃ (s29 : Sl),
 v27 = Value.slice s29.1 s29.2 s29.3 ∧
 ∃ (b30 : Nat),
 ∃ (b31 : Nat),
 s8.1 = some ({ block := b30, off := b31 } : Addr) ∧
 ((0 : Int) ≤ n12 ∧ n12 < (s8.2 : Int)) ∧
 #[Value.slice s26.1 s26.2 s26.3].size = (1 : Nat) ∧
 StoreP w28 b30 (b31 + n12.toNat * (6 : Nat) + (4 : Nat)) [Value.slice s26.1 s26.2 s26.3] fun (w32 : World) =>
 ∃ (b33 : Nat),
 ∃ (b34 : Nat),
 s8.1 = some ({ block := b33, off := b34 } : Addr) ∧
 ((0 : Int) ≤ n12 ∧ n12 < (s8.2 : Int)) ∧
 #[Value.slice s29.1 s29.2 s29.3].size = (1 : Nat) ∧
 StoreP w32 b33 (b34 + n12.toNat * (6 : Nat) + (5 : Nat)) [Value.slice s29.1 s29.2 s29.3] fun (w35 : World) => ([] : List Nat) = [] ∧ ∃ (b36 : Nat), b36 < b11 ∧ y9 b36 (IntKind.i64.wrap (n12 + (1 : Int))) w35)
 (R (Value.slice s8.1 s8.2 s8.3) w13)
def F48 (t0 : Sl) (t1 : Int) (w : World) (R : Value → World → Prop) : Prop :=
 AllocP w (Obj.cells #[Value.int IntKind.i64 t1] (3 : Nat)) fun (b1 : Nat) (w2 : World) =>
 CX Try.prog (65 : Nat) #[Value.slice t0.1 t0.2 t0.3] w2 fun (v3 : Value) (w4 : World) =>
 ∃ (s5 : Sl),
 v3 = Value.slice s5.1 s5.2 s5.3 ∧
 CX Try.prog (64 : Nat) #[Value.slice s5.1 s5.2 s5.3, Value.func (Fn.func (66 : Nat)) #[] #[Value.pointer (some ({ block := b1, off := (0 : Nat) } : Addr))]] w4
 fun (v6 : Value) (w7 : World) =>
 ∃ (s8 : Sl),
 v6 = Value.slice s8.1 s8.2 s8.3 ∧
 ∃ (y9 : Nat → Int → World → Prop),
 (∃ (b10 : Nat), y9 b10 (0 : Int) w7) ∧
 ∀ (b11 : Nat) (n12 : Int) (w13 : World) (y14 : Nat → Value),
 y9 b11 n12 w13 →
 (F48j1 R s8 y9 b11 n12 w13)
theorem F48_ok (t0 : Sl) (t1 : Int) (w : World) (R : Value → World → Prop) (h : F48 t0 t1 w R) : CW Try.prog 48 #[Value.slice t0.1 t0.2 t0.3, Value.int IntKind.i64 t1] w R :=
  call_of tbOk mixed en48 Try.func48 rfl (.node (.nil) (.node (.nil) (.node (.node (.nil) (.loop [(14, .one (.int .i64))] [15, 16, 17, 18, 7, 6, 19, 20, 21, 22, 23, 24, 25, 26, 27, 28, 29, 30, 31, 32, 33, 14] (.node (.nil) (.node (.nil) (.node (.node (.nil) (.draw (.st 0 (.st 1 (.st 2 (.st 3 (.st 4 (.st 5 (.st 7 (.st 8 (.ac 6 [8, 7, 3, 2, 1, 0] (.ac 9 [3, 2, 1, 0] (.st 10 (.st 11 (.ac 12 [3, 2] (.st 13 (.st 14 (.ac 15 [] (.fin) (.non)))) (.non)))) (.non)) (.non)))))))))))) (.nil)))))) (.nil)))) (by kernel_rfl) (Nat.le_of_ble_eq_true (by kernel_rfl)) (Eq.mp (α := F48 t0 t1 w R) (by kernel_rfl) h)
def F66 (t0 : (Leaf.int IntKind.i64).den × dens [Leaf.int IntKind.i64, Leaf.int IntKind.i64, Leaf.bool, Leaf.sl, Leaf.sl]) (t1 : Nat) (w : World) (R : Value → World → Prop) : Prop :=
 AllocP w
 (Obj.cells
 #[Value.int IntKind.i64 t0.1, Value.int IntKind.i64 t0.snd.1, Value.int IntKind.i64 t0.snd.snd.1, Value.bool t0.snd.snd.snd.1,
 Value.slice t0.snd.snd.snd.snd.fst.1 t0.snd.snd.snd.snd.fst.2 t0.snd.snd.snd.snd.fst.3, Value.slice t0.snd.snd.snd.snd.snd.1 t0.snd.snd.snd.snd.snd.2 t0.snd.snd.snd.snd.snd.3]
 (27 : Nat))
 fun (b1 : Nat) (w2 : World) =>
 ∃ (n3 : Int),
 w2.cell? ({ block := b1, off := (0 : Nat) + (0 : Nat) } : Addr) = some (Value.int IntKind.i64 n3) ∧
 ∃ (n4 : Int), w2.cell? ({ block := t1, off := (0 : Nat) } : Addr) = some (Value.int IntKind.i64 n4) ∧ R (Value.bool (n3 != n4)) w2
theorem F66_ok (t0 : (Leaf.int IntKind.i64).den × dens [Leaf.int IntKind.i64, Leaf.int IntKind.i64, Leaf.bool, Leaf.sl, Leaf.sl]) (t1 : Nat) (w : World) (R : Value → World → Prop) (h : F66 t0 t1 w R) : CW Try.prog 66 #[Value.agg #[Value.int IntKind.i64 t0.1, Value.int IntKind.i64 t0.snd.1, Value.int IntKind.i64 t0.snd.snd.1, Value.bool t0.snd.snd.snd.1, Value.slice t0.snd.snd.snd.snd.fst.1 t0.snd.snd.snd.snd.fst.2 t0.snd.snd.snd.snd.fst.3, Value.slice t0.snd.snd.snd.snd.snd.1 t0.snd.snd.snd.snd.snd.2 t0.snd.snd.snd.snd.snd.3], Value.pointer (some ({ block := t1, off := 0 } : Addr))] w R :=
  call_of tbOk mixed en66 Try.func66 rfl (.nil) (by kernel_rfl) (Nat.le_of_ble_eq_true (by kernel_rfl)) (Eq.mp (α := F66 t0 t1 w R) (by kernel_rfl) h)
def F64k1 (t0 : Sl) (x7 : Int × Int) (w8 : World) (t1 : Nat × Array Value) (b6 : Nat) (y4 : Nat → Int × Int → World → Prop) : Prop :=
 ∃ (b11 : Nat),
 ∃ (b12 : Nat),
 t0.1 = some ({ block := b11, off := b12 } : Addr) ∧
 ((0 : Int) ≤ x7.2 ∧ x7.2 < (t0.2 : Int)) ∧
 ∃ (x13 : Int × Int × Int × Bool × Sl × Sl),
 CellsAt w8 b11 (b12 + x7.2.toNat * (6 : Nat))
 [Value.int IntKind.i64 x13.1, Value.int IntKind.i64 x13.snd.1, Value.int IntKind.i64 x13.snd.snd.1, Value.bool x13.snd.snd.snd.1,
 Value.slice x13.snd.snd.snd.snd.fst.1 x13.snd.snd.snd.snd.fst.2 x13.snd.snd.snd.snd.fst.3, Value.slice x13.snd.snd.snd.snd.snd.1 x13.snd.snd.snd.snd.snd.2 x13.snd.snd.snd.snd.snd.3] ∧
 AllocP w8
 (Obj.cells
 #[Value.int IntKind.i64 (0 : Int), Value.int IntKind.i64 (0 : Int), Value.int IntKind.i64 (0 : Int), Value.bool false, Value.slice none (0 : Nat) (0 : Nat), Value.slice none (0 : Nat) (0 : Nat)]
 (27 : Nat))
 fun (b14 : Nat) (w15 : World) =>
 #[Value.int IntKind.i64 x13.1, Value.int IntKind.i64 x13.snd.1, Value.int IntKind.i64 x13.snd.snd.1, Value.bool x13.snd.snd.snd.1,
 Value.slice x13.snd.snd.snd.snd.fst.1 x13.snd.snd.snd.snd.fst.2 x13.snd.snd.snd.snd.fst.3, Value.slice x13.snd.snd.snd.snd.snd.1 x13.snd.snd.snd.snd.snd.2 x13.snd.snd.snd.snd.snd.3].size =
 (6 : Nat) ∧
 StoreP w15 b14 (0 : Nat)
 [Value.int IntKind.i64 x13.1, Value.int IntKind.i64 x13.snd.1, Value.int IntKind.i64 x13.snd.snd.1, Value.bool x13.snd.snd.snd.1,
 Value.slice x13.snd.snd.snd.snd.fst.1 x13.snd.snd.snd.snd.fst.2 x13.snd.snd.snd.snd.fst.3, Value.slice x13.snd.snd.snd.snd.snd.1 x13.snd.snd.snd.snd.snd.2 x13.snd.snd.snd.snd.snd.3]
 fun (w16 : World) =>
 ∃ (x17 : Int × Int × Int × Bool × Sl × Sl),
 CellsAt w16 b14 (0 : Nat)
 [Value.int IntKind.i64 x17.1, Value.int IntKind.i64 x17.snd.1, Value.int IntKind.i64 x17.snd.snd.1, Value.bool x17.snd.snd.snd.1,
 Value.slice x17.snd.snd.snd.snd.fst.1 x17.snd.snd.snd.snd.fst.2 x17.snd.snd.snd.snd.fst.3, Value.slice x17.snd.snd.snd.snd.snd.1 x17.snd.snd.snd.snd.snd.2 x17.snd.snd.snd.snd.snd.3] ∧
 CX Try.prog t1.1
 { toList := Value.agg #[Value.int IntKind.i64 x17.1, Value.int IntKind.i64 x17.snd.1, Value.int IntKind.i64 x17.snd.snd.1, Value.bool x17.snd.snd.snd.1, Value.slice x17.snd.snd.snd.snd.fst.1 x17.snd.snd.snd.snd.fst.2 x17.snd.snd.snd.snd.fst.3, Value.slice x17.snd.snd.snd.snd.snd.1 x17.snd.snd.snd.snd.snd.2 x17.snd.snd.snd.snd.snd.3] :: t1.snd.1 }
 w16 fun (v18 : Value) (w19 : World) =>
 ∃ (t20 : Bool),
 v18 = Value.bool t20 ∧
 IfB (!t20)
 (∃ (x21 : Int × Int × Int × Bool × Sl × Sl),
 CellsAt w19 b14 (0 : Nat)
 [Value.int IntKind.i64 x21.1, Value.int IntKind.i64 x21.snd.1, Value.int IntKind.i64 x21.snd.snd.1, Value.bool x21.snd.snd.snd.1,
 Value.slice x21.snd.snd.snd.snd.fst.1 x21.snd.snd.snd.snd.fst.2 x21.snd.snd.snd.snd.fst.3, Value.slice x21.snd.snd.snd.snd.snd.1 x21.snd.snd.snd.snd.snd.2 x21.snd.snd.snd.snd.snd.3] ∧
 ∃ (b22 : Nat),
 ∃ (b23 : Nat),
 t0.1 = some ({ block := b22, off := b23 } : Addr) ∧
 ((0 : Int) ≤ x7.1 ∧ x7.1 < (t0.2 : Int)) ∧
 #[Value.int IntKind.i64 x21.1, Value.int IntKind.i64 x21.snd.1, Value.int IntKind.i64 x21.snd.snd.1, Value.bool x21.snd.snd.snd.1,
 Value.slice x21.snd.snd.snd.snd.fst.1 x21.snd.snd.snd.snd.fst.2 x21.snd.snd.snd.snd.fst.3, Value.slice x21.snd.snd.snd.snd.snd.1 x21.snd.snd.snd.snd.snd.2 x21.snd.snd.snd.snd.snd.3].size =
 (6 : Nat) ∧
 StoreP w19 b22 (b23 + x7.1.toNat * (6 : Nat))
 [Value.int IntKind.i64 x21.1, Value.int IntKind.i64 x21.snd.1, Value.int IntKind.i64 x21.snd.snd.1, Value.bool x21.snd.snd.snd.1,
 Value.slice x21.snd.snd.snd.snd.fst.1 x21.snd.snd.snd.snd.fst.2 x21.snd.snd.snd.snd.fst.3, Value.slice x21.snd.snd.snd.snd.snd.1 x21.snd.snd.snd.snd.snd.2 x21.snd.snd.snd.snd.snd.3]
 fun (w24 : World) => ([] : List Nat) = [] ∧ ∃ (b25 : Nat), b25 < b6 ∧ y4 b25 (IntKind.i64.wrap (x7.1 + (1 : Int)), IntKind.i64.wrap (x7.2 + (1 : Int))) w24)
 (([] : List Nat) = [] ∧ ∃ (b26 : Nat), b26 < b6 ∧ y4 b26 (x7.1, IntKind.i64.wrap (x7.2 + (1 : Int))) w19)
def F64j1 (t0 : Sl) (t1 : Nat × Array Value) (R : Value → World → Prop) (y4 : Nat → Int × Int → World → Prop) (b6 : Nat) (x7 : Int × Int) (w8 : World) : Prop :=
 IfB (decide (x7.snd < (t0.n : Int)))
 (F64k1 t0 x7 w8 t1 b6 y4)
 (((0 : Int) ≤ x7.1 ∧ x7.1 ≤ (t0.2 : Int)) ∧
 match slAddr t0.1 t0.3 x7.1.toNat (6 : Nat) with
 | none => ((0 : Int) ≤ x7.1 ∧ x7.1 ≤ (t0.3 : Int)) ∧ R (Value.slice (slAddr t0.1 t0.3 (0 : Nat) (6 : Nat)) x7.1.toNat t0.3) w8
 | some ({ block := b28, off := b29, spot := none } : Addr) => StoreP w8 b28 b29 (zc #[Value.int IntKind.i64 (0 : Int), Value.int IntKind.i64 (0 : Int), Value.int IntKind.i64 (0 : Int), Value.bool false, Value.slice none (0 : Nat) (0 : Nat), Value.slice none (0 : Nat) (0 : Nat)] (t0.2 - x7.1.toNat)) fun (w30 : World) => ((0 : Int) ≤ x7.1 ∧ x7.1 ≤ (t0.3 : Int)) ∧ R (Value.slice (slAddr t0.1 t0.3 (0 : Nat) (6 : Nat)) x7.1.toNat t0.3) w30
 | some y31 => False)
def F64 (t0 : Sl) (t1 : Nat × Array Value) (w : World) (R : Value → World → Prop) : Prop :=
 CX Try.prog (85 : Nat) #[Value.slice t0.1 t0.2 t0.3, Value.func (Fn.func t1.1) #[] t1.2] w fun (v1 : Value) (w2 : World) =>
 ∃ (n3 : Int),
 v1 = Value.int IntKind.i64 n3 ∧
 IfB (n3 == (-1 : Int)) (R (Value.slice t0.1 t0.2 t0.3) w2)
 (∃ (y4 : Nat → Int × Int → World → Prop),
 (∃ (b5 : Nat), y4 b5 (n3, IntKind.i64.wrap (n3 + (1 : Int))) w2) ∧
 ∀ (b6 : Nat) (x7 : Int × Int) (w8 : World) (y9 : Nat → Value),
 y4 b6 x7 w8 →
 (F64j1 t0 t1 R y4 b6 x7 w8))
theorem F64_ok (t0 : Sl) (t1 : Nat × Array Value) (w : World) (R : Value → World → Prop) (h : F64 t0 t1 w R) : CW Try.prog 64 #[Value.slice t0.1 t0.2 t0.3, Value.func (Fn.func t1.1) #[] t1.2] w R :=
  call_of tbOk mixed en64 Try.func64 rfl (.node (.nil) (.node (.nil) (.node (.nil) (.node (.node (.nil) (.loop [(5, .one (.int .i64)), (6, .one (.int .i64))] [16, 17, 18, 19, 22, 23, 24, 25, 7, 26, 27, 28, 29, 30, 31, 32, 33, 34, 35, 5, 20, 21, 6] (.nil))) (.nil))))) (by kernel_rfl) (Nat.le_of_ble_eq_true (by kernel_rfl)) (Eq.mp (α := F64 t0 t1 w R) (by kernel_rfl) h)
def F85j1 (t0 : Sl) (t1 : Nat × Array Value) (R : Value → World → Prop) (y1 : Nat → Int → World → Prop) (b3 : Nat) (n4 : Int) (w5 : World) : Prop :=
 IfB (decide (n4 < (t0.n : Int)))
 (∃ (b8 : Nat),
 ∃ (b9 : Nat),
 t0.1 = some ({ block := b8, off := b9 } : Addr) ∧
 ((0 : Int) ≤ n4 ∧ n4 < (t0.2 : Int)) ∧
 ∃ (x10 : Int × Int × Int × Bool × Sl × Sl),
 CellsAt w5 b8 (b9 + n4.toNat * (6 : Nat))
 [Value.int IntKind.i64 x10.1, Value.int IntKind.i64 x10.snd.1, Value.int IntKind.i64 x10.snd.snd.1, Value.bool x10.snd.snd.snd.1,
 Value.slice x10.snd.snd.snd.snd.fst.1 x10.snd.snd.snd.snd.fst.2 x10.snd.snd.snd.snd.fst.3, Value.slice x10.snd.snd.snd.snd.snd.1 x10.snd.snd.snd.snd.snd.2 x10.snd.snd.snd.snd.snd.3] ∧
 CX Try.prog t1.1
 { toList := Value.agg #[Value.int IntKind.i64 x10.1, Value.int IntKind.i64 x10.snd.1, Value.int IntKind.i64 x10.snd.snd.1, Value.bool x10.snd.snd.snd.1, Value.slice x10.snd.snd.snd.snd.fst.1 x10.snd.snd.snd.snd.fst.2 x10.snd.snd.snd.snd.fst.3, Value.slice x10.snd.snd.snd.snd.snd.1 x10.snd.snd.snd.snd.snd.2 x10.snd.snd.snd.snd.snd.3] :: t1.snd.1 }
 w5 fun (v11 : Value) (w12 : World) =>
 ∃ (t13 : Bool), v11 = Value.bool t13 ∧ IfB t13 (R (Value.int IntKind.i64 n4) w12) (([] : List Nat) = [] ∧ ∃ (b14 : Nat), b14 < b3 ∧ y1 b14 (IntKind.i64.wrap (n4 + (1 : Int))) w12))
 (R (Value.int IntKind.i64 (-1 : Int)) w5)
def F85 (t0 : Sl) (t1 : Nat × Array Value) (w : World) (R : Value → World → Prop) : Prop :=
 ∃ (y1 : Nat → Int → World → Prop),
 (∃ (b2 : Nat), y1 b2 (0 : Int) w) ∧
 ∀ (b3 : Nat) (n4 : Int) (w5 : World) (y6 : Nat → Value),
 y1 b3 n4 w5 →
 (F85j1 t0 t1 R y1 b3 n4 w5)
theorem F85_ok (t0 : Sl) (t1 : Nat × Array Value) (w : World) (R : Value → World → Prop) (h : F85 t0 t1 w R) : CW Try.prog 85 #[Value.slice t0.1 t0.2 t0.3, Value.func (Fn.func t1.1) #[] t1.2] w R :=
  call_of tbOk mixed en85 Try.func85 rfl (.node (.nil) (.node (.node (.nil) (.loop [(8, .one (.int .i64))] [9, 10, 5, 11, 12, 13, 14, 15, 16, 17, 4, 18, 8] (.nil))) (.nil))) (by kernel_rfl) (Nat.le_of_ble_eq_true (by kernel_rfl)) (Eq.mp (α := F85 t0 t1 w R) (by kernel_rfl) h)
def F65 (t0 : Sl) (w : World) (R : Value → World → Prop) : Prop :=
 IfB t0.1.isNone (R (Value.slice none (0 : Nat) (0 : Nat)) w)
 ((0 : Nat) * (6 : Nat) ≤ (16777216 : Nat) ∧
 AllocP w (Obj.cells #[] (27 : Nat)) fun (b1 : Nat) (w2 : World) =>
 ∃ (l3 : List Value),
 ReadC w2 t0.1 (t0.2 * (6 : Nat)) l3 ∧
 AppendP tt27 (27 : Nat) w2 (some ({ block := b1, off := (0 : Nat) } : Addr)) (0 : Nat) (0 : Nat) t0.2 l3 fun (s4 : Sl) (w5 : World) => R (Value.slice s4.1 s4.2 s4.3) w5)
theorem F65_ok (t0 : Sl) (w : World) (R : Value → World → Prop) (h : F65 t0 w R) : CW Try.prog 65 #[Value.slice t0.1 t0.2 t0.3] w R :=
  call_of tbOk mixed en65 Try.func65 rfl (.nil) (by kernel_rfl) (Nat.le_of_ble_eq_true (by kernel_rfl)) (Eq.mp (α := F65 t0 w R) (by kernel_rfl) h)
def F67 (t0 : Sl) (w : World) (R : Value → World → Prop) : Prop :=
 IfB t0.1.isNone (R (Value.slice none (0 : Nat) (0 : Nat)) w)
 ((0 : Nat) * (2 : Nat) ≤ (16777216 : Nat) ∧
 AllocP w (Obj.cells #[] (51 : Nat)) fun (b1 : Nat) (w2 : World) =>
 ∃ (l3 : List Value),
 ReadC w2 t0.1 (t0.2 * (2 : Nat)) l3 ∧
 AppendP tt51 (51 : Nat) w2 (some ({ block := b1, off := (0 : Nat) } : Addr)) (0 : Nat) (0 : Nat) t0.2 l3 fun (s4 : Sl) (w5 : World) => R (Value.slice s4.1 s4.2 s4.3) w5)
theorem F67_ok (t0 : Sl) (w : World) (R : Value → World → Prop) (h : F67 t0 w R) : CW Try.prog 67 #[Value.slice t0.1 t0.2 t0.3] w R :=
  call_of tbOk mixed en67 Try.func67 rfl (.nil) (by kernel_rfl) (Nat.le_of_ble_eq_true (by kernel_rfl)) (Eq.mp (α := F67 t0 w R) (by kernel_rfl) h)
def F28j1 (t0 : Sl) (t1 : Sl) (R : Value → World → Prop) (y1 : Nat → Sl × Int → World → Prop) (b3 : Nat) (x4 : Sl × Int) (w5 : World) : Prop :=
 IfB (decide (x4.snd < (t1.n : Int)))
 (∃ (b8 : Nat),
 ∃ (b9 : Nat),
 t1.1 = some ({ block := b8, off := b9 } : Addr) ∧
 ((0 : Int) ≤ x4.2 ∧ x4.2 < (t1.2 : Int)) ∧
 ∃ (n10 : Int),
 w5.cell? ({ block := b8, off := b9 + x4.2.toNat } : Addr) = some (Value.int IntKind.i64 n10) ∧
 ((0 : Int) ≤ x4.2 ∧ x4.2 ≤ (t1.3 : Int)) ∧
 CX Try.prog (39 : Nat) #[Value.slice (slAddr t1.1 t1.3 (0 : Nat) (1 : Nat)) x4.2.toNat t1.3, Value.int IntKind.i64 n10] w5 fun (v11 : Value) (w12 : World) =>
 ∃ (t13 : Bool),
 v11 = Value.bool t13 ∧
 IfB (!t13)
 (CX Try.prog (48 : Nat) #[Value.slice t0.1 t0.2 t0.3, Value.int IntKind.i64 n10] w12 fun (v14 : Value) (w15 : World) =>
 ∃ (s16 : Sl),
 v14 = Value.slice s16.1 s16.2 s16.3 ∧
 ∃ (l17 : List Value),
 ReadC w15 s16.1 (s16.2 * (6 : Nat)) l17 ∧
 AppendP tt27 (27 : Nat) w15 x4.fst.1 x4.fst.2 x4.fst.3 s16.2 l17 fun (s18 : Sl) (w19 : World) =>
 ([] : List Nat) = [] ∧ ∃ (b20 : Nat), b20 < b3 ∧ y1 b20 ({ p := s18.1, n := s18.2, c := s18.3 }, IntKind.i64.wrap (x4.2 + (1 : Int))) w19)
 (([] : List Nat) = [] ∧ ∃ (b21 : Nat), b21 < b3 ∧ y1 b21 ({ p := x4.fst.1, n := x4.fst.2, c := x4.fst.3 }, IntKind.i64.wrap (x4.2 + (1 : Int))) w12))
 (R (Value.slice x4.fst.1 x4.fst.2 x4.fst.3) w5)
def F28 (t0 : Sl) (t1 : Sl) (w : World) (R : Value → World → Prop) : Prop :=
 ∃ (y1 : Nat → Sl × Int → World → Prop),
 (∃ (b2 : Nat), y1 b2 ({ p := none, n := (0 : Nat), c := (0 : Nat) }, (0 : Int)) w) ∧
 ∀ (b3 : Nat) (x4 : Sl × Int) (w5 : World) (y6 : Nat → Value),
 y1 b3 x4 w5 →
 (F28j1 t0 t1 R y1 b3 x4 w5)
theorem F28_ok (t0 : Sl) (t1 : Sl) (w : World) (R : Value → World → Prop) (h : F28 t0 t1 w R) : CW Try.prog 28 #[Value.slice t0.1 t0.2 t0.3, Value.slice t1.1 t1.2 t1.3] w R :=
  call_of tbOk mixed en28 Try.func28 rfl (.node (.nil) (.node (.nil) (.node (.node (.nil) (.loop [(5, .one (.sl)), (10, .one (.int .i64))] [11, 12, 13, 14, 6, 7, 15, 16, 17, 18, 19, 20, 21, 22, 23, 24, 25, 5, 26, 10] (.nil))) (.nil)))) (by kernel_rfl) (Nat.le_of_ble_eq_true (by kernel_rfl)) (Eq.mp (α := F28 t0 t1 w R) (by kernel_rfl) h)
end Go.Proofs.Ytmmhbjbaallkfaa.Gx

/- slices.IndexFunc, DeleteFunc, Clone of nodes; Clone of spans. Written by mksere.py out of XKeyA. -/
namespace Go.Proofs.Ytmmhbjbaallkfaa.Gx
open Go
set_option linter.unusedSimpArgs false
set_option linter.unusedVariables false
theorem c85 {w : World} {t : Sl} {xs : List NdV} {t1 : Nat × Array Value} {q : NdV → Bool} (h : Rd w t 6 (xs.flatMap nC)) (hl : xs.length ≤ 1000000)
    (hq : ∀ (x : NdV) (W : World), x ∈ xs → Ext w W → ∀ R' : Value → World → Prop, (∀ w', Ext W w' → R' (.bool (q x)) w') → CX Try.prog t1.1 { toList := ndV x :: t1.2.toList } W R') :
    CW Try.prog 85 #[slV t, .func (.func t1.1) #[] t1.2] w fun v w' => v = iv (idxV (xs.findIdx? q)) ∧ Ext w w' := by
  refine F85_ok t t1 w _ ?_
  have hn := rdN nC_len (by omega) h
  have e : F85 t t1 w (fun v w' => v = iv (idxV (xs.findIdx? q)) ∧ Ext w w') = IndexF Try.prog (fun W b o i (x : NdV) => CellsAt W b (o + i * 6) (nC x)) ndV t t1 w (fun v w' => v = iv (idxV (xs.findIdx? q)) ∧ Ext w w') := rfl
  rw [e]
  refine IndexF_of xs id q hn (by omega) (fun i x W hx e => ?_) (fun i x W hx e R' hR => hq x W (List.mem_of_getElem? hx) e R' hR) fun w' e => ⟨rfl, e⟩
  obtain ⟨hi, _⟩ := List.getElem?_eq_some_iff.1 hx
  obtain ⟨b, o, hp, hc⟩ := (h.ext e).elem (i := i) (by omega) (by omega) (flatGet nC_len hx)
  exact ⟨b, o, hp, hc⟩
/-- DeleteFunc where each element is put into a box first. -/
theorem c64 {w : World} {t0 : Sl} {xs : List NdV} {t1 : Nat × Array Value} {q : NdV → Bool} (ho : OwS w t0 6 (xs.flatMap nC)) (hn : xs.length ≤ 1000000)
    (hq : ∀ (x : NdV) (W : World), x ∈ xs → Ch (fun i => i ∈ blk t0) w W → ∀ R' : Value → World → Prop, (∀ w', Ext W w' → R' (.bool (q x)) w') → CX Try.prog t1.1 { toList := ndV x :: t1.2.toList } W R') :
    CW Try.prog 64 #[slV t0, .func (.func t1.1) #[] t1.2] w fun v w' => ∃ t', v = slV t' ∧ OwS w' t' 6 ((xs.filter fun x => !q x).flatMap nC) ∧ t'.p = t0.p ∧ Ch (fun i => i ∈ blk t0) w w' := by
  have htn := owsN nC_len (by omega) ho
  have hl := nC_len
  refine F64_ok t0 t1 w _ ((c85 ho.rd hn fun x W hx e => hq x W hx (e.mono fun _ _ h => h.elim)).use ?_)
  rintro _ w2 ⟨rfl, e2⟩
  refine ⟨_, rfl, ?_⟩
  cases hf : xs.findIdx? q with
  | none =>
    refine IfB.yes rfl ?_
    have : (xs.filter fun x => !q x) = xs := List.filter_eq_self.2 fun x hx => by rw [List.findIdx?_eq_none_iff.1 hf x hx]; rfl
    exact ⟨t0, rfl, by rw [this]; exact ho.ext e2, rfl, e2.mono fun _ _ h => h.elim⟩
  | some i0 =>
    obtain ⟨hi0, hqi, hlow⟩ := List.findIdx?_eq_some_iff_getElem.1 hf
    refine IfB.no (by simp [idxV]) ?_
    have hx0 : xs[i0]? = some xs[i0] := List.getElem?_eq_getElem hi0
    have hkeep0 : (xs.take i0).filter (fun x => !q x) = xs.take i0 := List.filter_eq_self.2 fun x hx => by
      obtain ⟨j, hj, rfl⟩ := List.getElem_of_mem hx
      rw [List.length_take] at hj
      rw [List.getElem_take]
      have := hlow j (by omega)
      simpa using this
    have hkeep1 : (xs.take (i0 + 1)).filter (fun x => !q x) = xs.take i0 := by rw [takeFilter hx0, hkeep0, hqi]; simp
    refine ⟨fun n x W => ∃ (j : Nat) (gs : List NdV), gs ≠ [] ∧ n + j = xs.length ∧ ((xs.take j).filter fun x => !q x).length + gs.length = j ∧ j ≤ xs.length ∧ x = ((((xs.take j).filter fun x => !q x).length : Int), (j : Int)) ∧ OwS W t0 6 ((((xs.take j).filter fun x => !q x) ++ gs ++ xs.drop j).flatMap nC) ∧ Ch (fun i => i ∈ blk t0) w W,
      ⟨xs.length - (i0 + 1), i0 + 1, [xs[i0]], by simp, by omega, by rw [hkeep1, List.length_take]; simp; omega, by omega, ?_, ?_, e2.mono fun _ _ h => h.elim⟩, ?_⟩
    · rw [hkeep1, List.length_take, Nat.min_eq_left (by omega)]
      show ((i0 : Int), IntKind.i64.wrap ((i0 : Int) + 1)) = _
      rw [wrap_of (by omega) (by omega)]; rfl
    · rw [hkeep1]
      have : xs.take i0 ++ [xs[i0]] ++ xs.drop (i0 + 1) = xs := by
        rw [List.append_assoc, List.singleton_append, ← List.drop_eq_getElem_cons hi0, List.take_append_drop]
      rw [this]
      exact ho.ext e2
    · rintro n _ W g ⟨j, gs, hgs, hnj, hlen, hj, rfl, hO, hC⟩
      generalize hkd : (xs.take j).filter (fun x => !q x) = kd at hlen hO
      have hg0 : 0 < gs.length := List.length_pos_iff.2 hgs
      have hcap := ho.cap
      obtain ⟨b, hp⟩ := ho.ptr (by omega)
      have hbl : b < w.heap.size := ho.lt b (by simp [blk, hp])
      unfold F64j1
      refine IfB.dec (fun hlt => ?_) fun hge => ?_
      · have hj' : j < xs.length := by dsimp only at hlt; omega
        have hx : xs[j]? = some xs[j] := List.getElem?_eq_getElem hj'
        have hxm := List.mem_of_getElem? hx
        have htf := takeFilter (p := fun x => !q x) hx
        rw [hkd] at htf
        have hdrop : xs.drop j = xs[j] :: xs.drop (j + 1) := List.drop_eq_getElem_cons hj'
        generalize xs[j] = x at hx hxm htf hdrop
        have hLx : (kd ++ gs ++ xs.drop j)[j]? = some x := by
          rw [List.getElem?_append_right (by rw [List.length_append]; omega), List.length_append, show j - (kd.length + gs.length) = 0 by omega, hdrop]; rfl
        obtain ⟨b', hp', hc⟩ := hO.elem (i := j) (by omega) (flatGet hl hLx)
        rw [hp] at hp'; cases hp'
        refine ⟨b, 0, hp, ⟨by dsimp only; omega, hlt⟩, x, ?_, boxNd rfl fun b14 w16 hb14 hs16 h16 e16 _ => ⟨x, cellsAt_of h16 fun i v hv => by simpa using hv, hq x w16 hxm (hC.then e16 fun _ _ h => h.elim) _ fun w19 e19 => ⟨q x, rfl, ?_⟩⟩⟩
        · dsimp only
          rw [Int.toNat_natCast, Nat.zero_add]
          exact hc
        · have e15 : Ext W w19 := e16.trans e19
          have h19 := e19.at h16
          have hO15 := hO.ext e15
          have hC15 := hC.then e15 fun _ _ h => h.elim
          refine IfB.intro (fun hk => ?_) fun hk => ?_
          · have hqx : q x = false := by simpa using hk
            rw [hqx] at htf
            simp only [Bool.not_false, if_true] at htf
            refine ⟨x, cellsAt_of h19 fun i v hv => by simpa using hv, b, 0, hp, ⟨by dsimp only; omega, by show (kd.length : Int) < (t0.n : Int); omega⟩, rfl, ?_⟩
            dsimp only
            rw [Int.toNat_natCast, Nat.zero_add]
            have hLl : (kd ++ gs ++ xs.drop j).length = xs.length := by rw [List.length_append, List.length_append, List.length_drop]; omega
            refine hO15.store (vs := nC x) hp (by rw [hl]; omega) (nC_one x) fun w19 hO19 hC19 => ⟨rfl, n - 1, by omega, j + 1, gs.tail ++ [x], by simp, by omega, ?_, by omega, ?_, ?_, hC15.then hC19 fun i _ e => by simp [blk, hp, e]⟩
            · rw [htf]; simp; omega
            · rw [htf, wrap_of (by omega) (by omega), wrap_of (by omega) (by omega)]; simp
            · rw [hl, flatSet hl (by omega)] at hO19
              rw [htf]
              have : (kd ++ gs ++ xs.drop j).set kd.length x = kd ++ [x] ++ (gs.tail ++ [x]) ++ xs.drop (j + 1) := by
                rw [hdrop]
                cases gs with
                | nil => exact absurd rfl hgs
                | cons g0 gs => simp
              rw [← this]; exact hO19
          · have hqx : q x = true := by simpa using hk
            rw [hqx] at htf
            simp only [Bool.not_true, Bool.false_eq_true, if_false, List.append_nil] at htf
            refine ⟨rfl, n - 1, by omega, j + 1, gs ++ [x], by simp, by omega, by rw [htf]; simp; omega, by omega, ?_, ?_, hC15⟩
            · rw [htf]; dsimp only; rw [wrap_of (by omega) (by omega)]; rfl
            · rw [htf]
              rw [hdrop] at hO15
              simpa using hO15
      · have hjn : j = xs.length := by dsimp only at hge; omega
        subst hjn
        rw [List.take_length] at hkd
        rw [List.drop_length, List.append_nil] at hO
        have hkl : kd.length < t0.n := by omega
        refine ⟨⟨by dsimp only; omega, by show (kd.length : Int) ≤ (t0.n : Int); omega⟩, ?_⟩
        dsimp only
        rw [Int.toNat_natCast, hp, slAddr_some]
        have hcut := hO.cut (k := kd.length) (by omega)
        rw [flatTake hl, List.take_append_of_le_length (Nat.le_refl _), List.take_length] at hcut
        dsimp only
        rw [if_neg (by omega), Nat.zero_add]
        refine hcut.storeTail hp (Nat.le_refl _) (by rw [zc_len]; show kd.length * 6 + (t0.n - kd.length) * 6 ≤ t0.c * 6; omega) (zc_one (by intro y hy; simp at hy; rcases hy with rfl | rfl | rfl | rfl | rfl | rfl <;> rfl) _) fun w25 hO25 hC25 => ⟨⟨by omega, by omega⟩, ⟨t0.p, kd.length, t0.c⟩, ?_, by rw [hkd]; exact hO25, hp, hC.then hC25 fun i _ e => by simp [blk, hp, e]⟩
        rw [← hp, slAddr_zero]
theorem c65 {w : World} {t : Sl} {xs : List NdV} (h : Rd w t 6 (xs.flatMap nC)) (hl : xs.length ≤ 1000000) : CW Try.prog 65 #[slV t] w fun v w' => ∃ t', v = slV t' ∧ OwS w' t' 6 (xs.flatMap nC) ∧ Ext w w' ∧ ∀ i ∈ blk t', w.heap.size ≤ i := by
  have hn := rdN nC_len (by omega) h
  refine F65_ok t w _ ?_
  have e : ∀ R, F65 t w R = CloneF tt27 27 6 t w R := fun _ => rfl
  rw [e]
  refine CloneF_of h rfl rfl (flatOne nC_one _) ⟨by omega, ?_⟩ (fun s' w' h1 h2 h3 h4 => ⟨s', rfl, h1, h3, h4⟩) fun hp => ?_
  · show 2 * t.n * 80 ≤ _
    omega
  · have h2 := h.2
    rw [hp] at h2
    have : xs.flatMap nC = [] := h2
    have h3 := h.1
    rw [this] at h3
    simp at h3; omega
theorem c67 {w : World} {t : Sl} {xs : List Spn} (h : Rd w t 2 (xs.flatMap sv)) (hl : xs.length * 16 ≤ 140737488355328) : CW Try.prog 67 #[slV t] w fun v w' => ∃ t', v = slV t' ∧ OwS w' t' 2 (xs.flatMap sv) ∧ Ext w w' ∧ ∀ i ∈ blk t', w.heap.size ≤ i := by
  have hn := rdN sv_len (by omega) h
  refine F67_ok t w _ ?_
  have e : ∀ R, F67 t w R = CloneF tt51 51 2 t w R := fun _ => rfl
  rw [e]
  refine CloneF_of h rfl rfl (flatOne sv_one _) ⟨by omega, ?_⟩ (fun s' w' h1 h2 h3 h4 => ⟨s', rfl, h1, h3, h4⟩) fun hp => ?_
  · show 2 * t.n * 16 ≤ _
    omega
  · have h2 := h.2
    rw [hp] at h2
    have : xs.flatMap sv = [] := h2
    have h3 := h.1
    rw [this] at h3
    simp at h3; omega
end Go.Proofs.Ytmmhbjbaallkfaa.Gx

/- Package deps: on, Of. -/
namespace Go.Proofs.Ytmmhbjbaallkfaa.Gx
open Go
set_option linter.unusedSimpArgs false
set_option linter.unusedVariables false
theorem sorted_ext : ∀ {xs ys : List Int}, xs.Pairwise (· < ·) → ys.Pairwise (· < ·) → (∀ k, k ∈ xs ↔ k ∈ ys) → xs = ys
  | [], [], _, _, _ => rfl
  | [], y :: ys, _, _, h => by have := (h y).2 (by simp); cases this
  | x :: xs, [], _, _, h => by have := (h x).1 (by simp); cases this
  | x :: xs, y :: ys, hx, hy, h => by
    rw [List.pairwise_cons] at hx hy
    have e : x = y := by
      rcases List.mem_cons.1 ((h x).1 (by simp)) with e | e
      · exact e
      · rcases List.mem_cons.1 ((h y).2 (by simp)) with e' | e'
        · exact e'.symm
        · have := hx.1 _ e'; have := hy.1 _ e; omega
    subst e
    refine congrArg _ (sorted_ext hx.2 hy.2 fun k => ?_)
    constructor
    · intro hk
      rcases List.mem_cons.1 ((h k).1 (List.mem_cons_of_mem _ hk)) with e | e
      · have := hx.1 _ hk; omega
      · exact e
    · intro hk
      rcases List.mem_cons.1 ((h k).2 (List.mem_cons_of_mem _ hk)) with e | e
      · have := hy.1 _ hk; omega
      · exact e
end Go.Proofs.Ytmmhbjbaallkfaa.Gx

/- Written by mkf.py: what is to be shown of functions, as Gx reckons it from their code. -/
namespace Go.Proofs.Ytmmhbjbaallkfaa.Gx
open Go
set_option linter.unusedVariables false
set_option maxRecDepth 100000
def F41 (t0 : Sl) (w : World) (R : Value → World → Prop) : Prop :=
 IfB t0.1.isNone (R (Value.slice none (0 : Nat) (0 : Nat)) w)
 ((0 : Nat) * (1 : Nat) ≤ (16777216 : Nat) ∧
 AllocP w (Obj.cells #[] (3 : Nat)) fun (b1 : Nat) (w2 : World) =>
 ∃ (l3 : List Value),
 ReadC w2 t0.1 (t0.2 * (1 : Nat)) l3 ∧
 AppendP tt3 (3 : Nat) w2
 (some ({ block := b1, off := (0 : Nat) } : Addr)) (0 : Nat) (0 : Nat) t0.2 l3 fun (s4 : Sl) (w5 : World) => R (Value.slice s4.1 s4.2 s4.3) w5)
theorem F41_ok (t0 : Sl) (w : World) (R : Value → World → Prop) (h : F41 t0 w R) : CW Try.prog 41 #[Value.slice t0.1 t0.2 t0.3] w R :=
  call_of tbOk mixed en41 Try.func41 rfl (.nil) (by kernel_rfl) (Nat.le_of_ble_eq_true (by kernel_rfl)) (Eq.mp (α := F41 t0 w R) (by kernel_rfl) h)
end Go.Proofs.Ytmmhbjbaallkfaa.Gx

/- slices.Clone of ints. -/
namespace Go.Proofs.Ytmmhbjbaallkfaa.Gx
open Go
set_option linter.unusedSimpArgs false
set_option linter.unusedVariables false
theorem c41 {w : World} {t : Sl} {xs : List Int} (h : Rd w t 1 (xs.map iv)) (hl : xs.length ≤ 1000000) : CW Try.prog 41 #[slV t] w fun v w' => ∃ t', v = slV t' ∧ OwS w' t' 1 (xs.map iv) ∧ Ext w w' ∧ ∀ i ∈ blk t', w.heap.size ≤ i := by
  have hn := rdI h
  refine F41_ok t w _ ?_
  have e : ∀ R, F41 t w R = CloneF tt3 3 1 t w R := fun _ => rfl
  rw [e]
  refine CloneF_of h rfl rfl (fun v hv => by obtain ⟨x, _, rfl⟩ := List.mem_map.1 hv; rfl) ⟨by omega, ?_⟩ (fun s' w' h1 h2 h3 h4 => ⟨s', rfl, h1, h3, h4⟩) fun hp => ?_
  · show 2 * t.n * 8 ≤ _
    omega
  · have h2 := h.2
    rw [hp] at h2
    have : xs.map iv = [] := h2
    rw [hn, List.map_eq_nil_iff.1 this]; rfl
end Go.Proofs.Ytmmhbjbaallkfaa.Gx

/- Written by mkf.py: what is to be shown of functions, as Gx reckons it from their code. -/
namespace Go.Proofs.Ytmmhbjbaallkfaa.Gx
open Go
set_option linter.unusedVariables false
set_option maxRecDepth 100000
def F59j1 (t0 : Sl) (t1 : Int) (R : Value → World → Prop) (y1 : Nat → Int → World → Prop) (b3 : Nat) (n4 : Int) (w5 : World) : Prop :=
 IfB (decide (n4 < (t0.n : Int)))
 (∃ (b8 : Nat),
 ∃ (b9 : Nat),
 t0.1 = some ({ block := b8, off := b9 } : Addr) ∧
 ((0 : Int) ≤ n4 ∧ n4 < (t0.2 : Int)) ∧
 ∃ (n10 : Int),
 w5.cell? ({ block := b8, off := b9 + n4.toNat } : Addr) = some (Value.int IntKind.i64 n10) ∧
 IfB (t1 == n10) (R (Value.int IntKind.i64 n4) w5) (([] : List Nat) = [] ∧ ∃ (b11 : Nat), b11 < b3 ∧ y1 b11 (IntKind.i64.wrap (n4 + (1 : Int))) w5))
 (R (Value.int IntKind.i64 (-1 : Int)) w5)
def F59 (t0 : Sl) (t1 : Int) (w : World) (R : Value → World → Prop) : Prop :=
 ∃ (y1 : Nat → Int → World → Prop),
 (∃ (b2 : Nat), y1 b2 (0 : Int) w) ∧
 ∀ (b3 : Nat) (n4 : Int) (w5 : World) (y6 : Nat → Value),
 y1 b3 n4 w5 →
 (F59j1 t0 t1 R y1 b3 n4 w5)
theorem F59_ok (t0 : Sl) (t1 : Int) (w : World) (R : Value → World → Prop) (h : F59 t0 t1 w R) : CW Try.prog 59 #[Value.slice t0.1 t0.2 t0.3, Value.int IntKind.i64 t1] w R :=
  call_of tbOk mixed en59 Try.func59 rfl (.node (.nil) (.node (.node (.nil) (.loop [(8, .one (.int .i64))] [9, 10, 5, 11, 12, 13, 14, 15, 16, 17, 4, 18, 8] (.nil))) (.nil))) (by kernel_rfl) (Nat.le_of_ble_eq_true (by kernel_rfl)) (Eq.mp (α := F59 t0 t1 w R) (by kernel_rfl) h)
def F39 (t0 : Sl) (t1 : Int) (w : World) (R : Value → World → Prop) : Prop :=
 CX Try.prog (59 : Nat) #[Value.slice t0.1 t0.2 t0.3, Value.int IntKind.i64 t1] w fun (v1 : Value) (w2 : World) =>
 ∃ (n3 : Int), v1 = Value.int IntKind.i64 n3 ∧ R (Value.bool (decide ((0 : Int) ≤ n3))) w2
theorem F39_ok (t0 : Sl) (t1 : Int) (w : World) (R : Value → World → Prop) (h : F39 t0 t1 w R) : CW Try.prog 39 #[Value.slice t0.1 t0.2 t0.3, Value.int IntKind.i64 t1] w R :=
  call_of tbOk mixed en39 Try.func39 rfl (.nil) (by kernel_rfl) (Nat.le_of_ble_eq_true (by kernel_rfl)) (Eq.mp (α := F39 t0 t1 w R) (by kernel_rfl) h)
end Go.Proofs.Ytmmhbjbaallkfaa.Gx

/- slices.Index, Contains of ints. -/
namespace Go.Proofs.Ytmmhbjbaallkfaa.Gx
open Go
set_option linter.unusedSimpArgs false
set_option linter.unusedVariables false
theorem c59 {w : World} {t : Sl} {xs : List Int} (h : Rd w t 1 (xs.map iv)) (hl : xs.length ≤ 1000000) (x : Int) : CW Try.prog 59 #[slV t, iv x] w fun v w' => v = iv (idxV (xs.findIdx? fun y => x == y)) ∧ w = w' := by
  have hn := rdI h
  refine F59_ok t x w _ ⟨fun k n W => ∃ i : Nat, n = (i : Int) ∧ k + i = xs.length ∧ W = w ∧ ∀ j < i, ∀ y, xs[j]? = some y → (x == y) = false, ⟨xs.length, 0, rfl, rfl, rfl, fun j hj => absurd hj (Nat.not_lt_zero _)⟩, ?_⟩
  rintro k _ W g ⟨i, rfl, hk, rfl, hlow⟩
  unfold F59j1
  refine IfB.dec (fun hlt => ?_) fun hge => ?_
  · have hi : i < xs.length := by omega
    have hx : xs[i]? = some xs[i] := List.getElem?_eq_getElem hi
    obtain ⟨a, o, ha, hc⟩ := rdI_get h hx
    refine ⟨a, o, ha, ⟨by omega, hlt⟩, xs[i], by rw [Int.toNat_natCast]; exact hc, IfB.intro (fun he => ⟨?_, rfl⟩) fun he => ⟨rfl, k - 1, by omega, i + 1, wp1 (by omega), by omega, rfl, fun j hj y hy => ?_⟩⟩
    · have : xs.findIdx? (fun y => x == y) = some i := by
        rw [List.findIdx?_eq_some_iff_getElem]
        exact ⟨hi, he, fun j hj => by have := hlow j hj _ (List.getElem?_eq_getElem (by omega)); rw [this]; simp⟩
      rw [this]; rfl
    · by_cases hji : j < i
      · exact hlow j hji y hy
      · have : j = i := by omega
        subst this; rw [hx] at hy; cases hy; exact he
  · have : xs.findIdx? (fun y => x == y) = none := by
      rw [List.findIdx?_eq_none_iff]
      intro y hy
      obtain ⟨j, hj, rfl⟩ := List.getElem_of_mem hy
      exact hlow j (by omega) _ (List.getElem?_eq_getElem hj)
    rw [this]; exact ⟨rfl, rfl⟩
theorem idx_contains (xs : List Int) (x : Int) : decide ((0 : Int) ≤ idxV (xs.findIdx? fun y => x == y)) = decide (x ∈ xs) := by
  refine decide_eq_decide.2 ?_
  cases h : xs.findIdx? (fun y => x == y) with
  | none =>
    rw [List.findIdx?_eq_none_iff] at h
    refine ⟨fun h0 => absurd h0 (by simp [idxV]), fun hm => ?_⟩
    have := h x hm
    simp at this
  | some i =>
    obtain ⟨hi, he, _⟩ := List.findIdx?_eq_some_iff_getElem.1 h
    refine ⟨fun _ => ?_, fun _ => by simp [idxV]⟩
    have : x = xs[i] := by simpa using he
    rw [this]; exact List.getElem_mem hi
theorem c39 {w : World} {t : Sl} {xs : List Int} (h : Rd w t 1 (xs.map iv)) (hl : xs.length ≤ 1000000) (x : Int) : CW Try.prog 39 #[slV t, iv x] w fun v w' => v = .bool (decide (x ∈ xs)) ∧ w = w' := by
  refine F39_ok t x w _ ((c59 h hl x).use ?_)
  rintro _ _ ⟨rfl, rfl⟩
  exact ⟨_, rfl, by rw [idx_contains], rfl⟩
end Go.Proofs.Ytmmhbjbaallkfaa.Gx

/- Package deps: Of, Depends, Apart, Add. -/
namespace Go.Proofs.Ytmmhbjbaallkfaa.Gx
open Go
set_option linter.unusedSimpArgs false
set_option linter.unusedVariables false
end Go.Proofs.Ytmmhbjbaallkfaa.Gx
