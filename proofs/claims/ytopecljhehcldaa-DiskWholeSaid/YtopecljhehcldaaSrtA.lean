/- Sorting of ints (slices.Sort): the area, swaps, comparisons. -/
import Derived.Test.YtopecljhehcldaaGxFS
import Derived.Test.YtopecljhehcldaaGxU
namespace Go.Proofs.Ytopecljhehcldaa.Gx
open Go
set_option linter.unusedSimpArgs false
set_option linter.unusedVariables false

abbrev iv (n : Int) : Value := .int .i64 n
def g (xs : List Int) (i : Nat) : Int := xs.getD i 0
def swp (xs : List Int) (p q : Nat) : List Int := (xs.set p (g xs q)).set q (g xs p)

theorem swp_len (xs : List Int) (p q : Nat) : (swp xs p q).length = xs.length := by simp [swp]
theorem g_eq {xs : List Int} {i : Nat} (h : i < xs.length) : xs[i]? = some (g xs i) := by
  unfold g; rw [List.getElem?_eq_getElem h, List.getElem_eq_getD (fallback := 0)]
theorem g_of {xs : List Int} {i : Nat} {x : Int} (h : xs[i]? = some x) : g xs i = x := by
  unfold g; rw [List.getD_eq_getElem?_getD, h]; rfl
theorem g_swp {xs : List Int} {p q : Nat} (hp : p < xs.length) (hq : q < xs.length) (i : Nat) : g (swp xs p q) i = if i = q then g xs p else if i = p then g xs q else g xs i := by
  show ((xs.set p (g xs q)).set q (g xs p)).getD i 0 = _
  rw [List.getD_eq_getElem?_getD, List.getElem?_set, List.getElem?_set]
  by_cases h1 : q = i
  · subst h1; simp [hq]
  · by_cases h2 : p = i
    · subst h2; simp [h1, hp, Ne.symm h1]
    · simp only [if_neg h1, if_neg h2, if_neg (Ne.symm h1), if_neg (Ne.symm h2)]
      unfold g; rw [List.getD_eq_getElem?_getD]
theorem g_swq {xs : List Int} {p q : Nat} (hp : p < xs.length) (hq : q < xs.length) : g (swp xs p q) q = g xs p := by rw [g_swp hp hq, if_pos rfl]
theorem g_swl {xs : List Int} {p q : Nat} (hp : p < xs.length) (hq : q < xs.length) : g (swp xs p q) p = g xs q := by
  rw [g_swp hp hq]
  split
  · rename_i h; rw [h]
  · rw [if_pos rfl]
theorem g_swo {xs : List Int} {p q i : Nat} (hp : p < xs.length) (hq : q < xs.length) (h1 : i ≠ p) (h2 : i ≠ q) : g (swp xs p q) i = g xs i := by rw [g_swp hp hq, if_neg h2, if_neg h1]
theorem swp_perm {xs : List Int} {p q : Nat} (hp : p < xs.length) (hq : q < xs.length) : (swp xs p q).Perm xs := by
  have h := (Array.swap_perm (xs := xs.toArray) (i := p) (j := q) (by simpa using hp) (by simpa using hq)).toList
  have e : (xs.toArray.swap p q (by simpa using hp) (by simpa using hq)).toList = swp xs p q := by
    apply List.ext_getElem?
    intro i
    simp only [Array.swap, swp, Array.toList_set, List.getElem_toArray, g, List.getD_eq_getElem?_getD, List.getElem?_eq_getElem hp, List.getElem?_eq_getElem hq, Option.getD_some]
  rw [e] at h
  exact h

/-- Turned inside [a, b) alone, by swaps. -/
inductive PI (a b : Nat) (xs : List Int) : List Int → Prop
  | refl : PI a b xs xs
  | step {ys : List Int} {p q : Nat} : PI a b xs ys → a ≤ p → p < b → a ≤ q → q < b → b ≤ ys.length → PI a b xs (swp ys p q)

theorem PI.len {a b : Nat} {xs ys : List Int} (h : PI a b xs ys) : ys.length = xs.length := by
  induction h with
  | refl => rfl
  | step _ _ _ _ _ _ ih => rw [swp_len, ih]
theorem PI.perm {a b : Nat} {xs ys : List Int} (h : PI a b xs ys) : ys.Perm xs := by
  induction h with
  | refl => exact .refl _
  | step _ _ h2 _ h4 h5 ih => exact (swp_perm (by omega) (by omega)).trans ih
theorem PI.out {a b : Nat} {xs ys : List Int} (h : PI a b xs ys) {i : Nat} (hi : i < a ∨ b ≤ i) : g ys i = g xs i := by
  induction h with
  | refl => rfl
  | step _ h1 h2 h3 h4 h5 ih => rw [g_swp (by omega) (by omega), if_neg (by omega), if_neg (by omega), ih]
theorem PI.all {a b : Nat} {xs ys : List Int} (h : PI a b xs ys) {Q : Int → Prop} (hq : ∀ i, a ≤ i → i < b → Q (g xs i)) : ∀ i, a ≤ i → i < b → Q (g ys i) := by
  induction h with
  | refl => exact hq
  | step _ h1 h2 h3 h4 h5 ih =>
    intro i hi hi2
    rw [g_swp (by omega) (by omega)]
    split
    · exact ih _ h1 h2
    · split
      · exact ih _ h3 h4
      · exact ih _ hi hi2
theorem PI.mono {a b a' b' : Nat} {xs ys : List Int} (h : PI a b xs ys) (ha : a' ≤ a) (hb : b ≤ b') (hl : b' ≤ xs.length) : PI a' b' xs ys := by
  induction h with
  | refl => exact .refl
  | step h h1 h2 h3 h4 h5 ih => exact .step ih (by omega) (by omega) (by omega) (by omega) (by rw [h.len]; exact hl)
theorem PI.trans {a b : Nat} {xs ys zs : List Int} (h : PI a b xs ys) (k : PI a b ys zs) : PI a b xs zs := by
  induction k with
  | refl => exact h
  | step _ h1 h2 h3 h4 h5 ih => exact .step ih h1 h2 h3 h4 h5

/-- Sorted from a, ahead of b. -/
def SO (xs : List Int) (a b : Nat) : Prop := ∀ i j, a ≤ i → i < j → j < b → g xs i ≤ g xs j

/-! ### In memory -/
def Ar (s : Sl) (b : Nat) (H : Array Obj) (xs : List Int) : Prop :=
  s.p = some ⟨b, 0, none⟩ ∧ s.n = xs.length ∧ xs.length ≤ 1000000 ∧ ∃ arr T, H[b]? = some (.cells arr T (0, 0)) ∧ arr.size = s.c ∧ s.n ≤ s.c ∧ arr.toList.take s.n = xs.map iv
abbrev CB (b : Nat) (w w' : World) : Prop := Ch (fun i => i = b) w w'

theorem Ar.own {s : Sl} {b : Nat} {w : World} {xs : List Int} (h : Ar s b w.heap xs) : OwS w s 1 (xs.map iv) := by
  obtain ⟨h1, h2, _, arr, T, h3, h4, h5, h6⟩ := h
  exact .inr ⟨b, arr, T, h1, h3, by omega, h5, by rw [Nat.mul_one]; exact h6⟩
theorem Ar.of {s : Sl} {w : World} {xs : List Int} (h : OwS w s 1 (xs.map iv)) (h0 : 0 < xs.length) (hl : xs.length ≤ 1000000) : ∃ b, Ar s b w.heap xs ∧ blk s = [b] := by
  have hn := h.len1
  rw [List.length_map] at hn
  rcases h with ⟨rfl, h⟩ | ⟨b, arr, T, h1, h3, h4, h5, h6⟩
  · rw [List.map_eq_nil_iff] at h; subst h; cases h0
  · exact ⟨b, ⟨h1, hn, hl, arr, T, h3, by omega, h5, by rw [Nat.mul_one] at h6; exact h6⟩, by simp [blk, h1]⟩
theorem Ar.lt {s : Sl} {b : Nat} {w : World} {xs : List Int} (h : Ar s b w.heap xs) : b < w.heap.size := by
  obtain ⟨_, _, _, _, _, h3, _⟩ := h
  exact heap_lt h3

theorem rd {s : Sl} {b : Nat} {w : World} {xs : List Int} (h : Ar s b w.heap xs) {i : Int} (h0 : 0 ≤ i) (h1 : i < xs.length) {K : Int → Prop} (k : K (g xs i.toNat)) :
    ∃ b1 b2 : Nat, s.1 = some ⟨b1, b2, none⟩ ∧ ((0 : Int) ≤ i ∧ i < (s.2 : Int)) ∧ ∃ n, w.cell? ⟨b1, b2 + i.toNat, none⟩ = some (.int .i64 n) ∧ K n := by
  obtain ⟨e1, e2, _, arr, T, e3, e4, e5, e6⟩ := h
  refine ⟨b, 0, e1, ⟨h0, by show i < (s.n : Int); omega⟩, _, ?_, k⟩
  rw [cell_of e3, Nat.zero_add, ← Array.getElem?_toList]
  have : (arr.toList.take s.n)[i.toNat]? = some (iv (g xs i.toNat)) := by rw [e6, List.getElem?_map, g_eq (by omega)]; rfl
  rw [List.getElem?_take, if_pos (by omega)] at this
  exact this

theorem wr {s : Sl} {b : Nat} {w : World} {xs : List Int} (h : Ar s b w.heap xs) {i x : Int} (h0 : 0 ≤ i) (h1 : i < xs.length) {K : World → Prop} (k : ∀ w', Ar s b w'.heap (xs.set i.toNat x) → CB b w w' → K w') :
    ∃ b1 b2 : Nat, s.1 = some ⟨b1, b2, none⟩ ∧ ((0 : Int) ≤ i ∧ i < (s.2 : Int)) ∧ #[Value.int .i64 x].size = 1 ∧ StoreP w b1 (b2 + i.toNat) [.int .i64 x] K := by
  obtain ⟨e1, e2, el, arr, T, e3, e4, e5, e6⟩ := h
  refine ⟨b, 0, e1, ⟨h0, by show i < (s.n : Int); omega⟩, rfl, store_one e3 (by omega) rfl fun w' hw => k w' ⟨e1, by rw [List.length_set]; exact e2, by rw [List.length_set]; exact el, _, T, hw.new, by rw [Array.size_setIfInBounds]; exact e4, e5, ?_⟩ hw.ch⟩
  rw [Nat.zero_add, Array.toList_setIfInBounds, List.take_set, e6, List.map_set]

/-- data[p], data[q] = data[q], data[p] -/
theorem sw {s : Sl} {b : Nat} {w : World} {xs : List Int} (h : Ar s b w.heap xs) {p q : Int} (hp0 : 0 ≤ p) (hp1 : p < xs.length) (hq0 : 0 ≤ q) (hq1 : q < xs.length) {K : World → Prop} (k : ∀ w', Ar s b w'.heap (swp xs p.toNat q.toNat) → CB b w w' → K w') :
    ∃ b1 b2 : Nat, s.1 = some ⟨b1, b2, none⟩ ∧ ((0 : Int) ≤ q ∧ q < (s.2 : Int)) ∧ ∃ n, w.cell? ⟨b1, b2 + q.toNat, none⟩ = some (.int .i64 n) ∧
    ∃ b3 b4 : Nat, s.1 = some ⟨b3, b4, none⟩ ∧ ((0 : Int) ≤ p ∧ p < (s.2 : Int)) ∧ ∃ m, w.cell? ⟨b3, b4 + p.toNat, none⟩ = some (.int .i64 m) ∧
    ∃ b5 b6 : Nat, s.1 = some ⟨b5, b6, none⟩ ∧ ((0 : Int) ≤ p ∧ p < (s.2 : Int)) ∧ #[Value.int .i64 n].size = 1 ∧ StoreP w b5 (b6 + p.toNat) [.int .i64 n] fun w1 =>
    ∃ b7 b8 : Nat, s.1 = some ⟨b7, b8, none⟩ ∧ ((0 : Int) ≤ q ∧ q < (s.2 : Int)) ∧ #[Value.int .i64 m].size = 1 ∧ StoreP w1 b7 (b8 + q.toNat) [.int .i64 m] K := by
  refine rd h hq0 hq1 (rd h hp0 hp1 (wr h hp0 hp1 fun w1 h1 c1 => wr h1 hq0 (by rw [List.length_set]; exact hq1) fun w2 h2 c2 => k w2 h2 (c1.trans c2)))

theorem c141 (x : Int) (w : World) : CW Try.prog 141 #[.int .i64 x] w fun v w' => v = .bool false ∧ w = w' :=
  F141_ok _ _ _ ⟨by simp, rfl⟩
theorem c131 (x y : Int) (w : World) : CW Try.prog 131 #[.int .i64 x, .int .i64 y] w fun v w' => v = .bool (decide (x < y)) ∧ w = w' := by
  refine F131_ok _ _ _ _ ((c141 x w).use ?_)
  rintro _ _ ⟨rfl, rfl⟩
  exact ⟨false, rfl, IfB.no rfl ⟨rfl, rfl⟩⟩

/-- cmp.Less(data[i], data[j]) -/
theorem ls {s : Sl} {b : Nat} {w : World} {xs : List Int} (h : Ar s b w.heap xs) {i j : Int} (hi0 : 0 ≤ i) (hi1 : i < xs.length) (hj0 : 0 ≤ j) (hj1 : j < xs.length) {K : Bool → World → Prop} (k : K (decide (g xs i.toNat < g xs j.toNat)) w) :
    ∃ b1 b2 : Nat, s.1 = some ⟨b1, b2, none⟩ ∧ ((0 : Int) ≤ i ∧ i < (s.2 : Int)) ∧ ∃ n, w.cell? ⟨b1, b2 + i.toNat, none⟩ = some (.int .i64 n) ∧
    ∃ b3 b4 : Nat, s.1 = some ⟨b3, b4, none⟩ ∧ ((0 : Int) ≤ j ∧ j < (s.2 : Int)) ∧ ∃ m, w.cell? ⟨b3, b4 + j.toNat, none⟩ = some (.int .i64 m) ∧
    CX Try.prog 131 #[.int .i64 n, .int .i64 m] w fun v w' => ∃ t, v = .bool t ∧ K t w' := by
  refine rd h hi0 hi1 (rd h hj0 hj1 ((c131 _ _ w).use ?_))
  rintro _ _ ⟨rfl, rfl⟩
  exact ⟨_, rfl, k⟩
end Go.Proofs.Ytopecljhehcldaa.Gx
