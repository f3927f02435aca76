/- Merged by pack.py: SrP, PrM, GxNU, SerA, GxLP, IntP, SerB, SerF, SerG, SerH, GxNR, DepD, GxNY, SerI, SerJ, SerK, SerL, GxNV, SerC, MxA, GxNT, DepE. -/
import Derived.Test.YtmmhbjbaallkfaaPc1
import Derived.Test.YtmmhbjbaallkfaaPc2
import Derived.Test.YtmmhbjbaallkfaaPc3
import Derived.Test.YtmmhbjbaallkfaaPc4

/- slices.SortFunc of pairs of ints. Written by mksrp.py out of XSrS. -/
namespace Go.Proofs.Ytmmhbjbaallkfaa.Gx.SfP
open Go Go.Proofs.Ytmmhbjbaallkfaa.Gx
set_option linter.unusedSimpArgs false
set_option linter.unusedVariables false
abbrev El := Int × Int
abbrev sv (x : El) : List Value := [.int .i64 x.1, .int .i64 x.2]
theorem sv_len (x : El) : (sv x).length = 2 := rfl
theorem sv_one (x : El) : One (sv x) := by intro v hv; simp at hv; rcases hv with rfl | rfl <;> rfl
/-- What is compared. -/
def key (x : El) : Int := x.1 * 18446744073709551616 + x.2
/-- What may be compared. -/
def Q (x : El) : Prop := (-9223372036854775808 ≤ x.1 ∧ x.1 ≤ 9223372036854775807) ∧ -9223372036854775808 ≤ x.2 ∧ x.2 ≤ 9223372036854775807
def ge (xs : List El) (i : Nat) : El := xs.getD i (0, 0)
def g (xs : List El) (i : Nat) : Int := key (ge xs i)
def swp (xs : List El) (p q : Nat) : List El := (xs.set p (ge xs q)).set q (ge xs p)
theorem swp_len (xs : List El) (p q : Nat) : (swp xs p q).length = xs.length := by simp [swp]
theorem ge_eq {xs : List El} {i : Nat} (h : i < xs.length) : xs[i]? = some (ge xs i) := by
  unfold ge; rw [List.getElem?_eq_getElem h, List.getElem_eq_getD (fallback := (0, 0))]
theorem ge_swp {xs : List El} {p q : Nat} (hp : p < xs.length) (hcp : q < xs.length) (i : Nat) : ge (swp xs p q) i = if i = q then ge xs p else if i = p then ge xs q else ge xs i := by
  show ((xs.set p (ge xs q)).set q (ge xs p)).getD i (0, 0) = _
  rw [List.getD_eq_getElem?_getD, List.getElem?_set, List.getElem?_set]
  by_cases h1 : q = i
  · subst h1; simp [hcp]
  · by_cases h2 : p = i
    · subst h2; simp [h1, hp, Ne.symm h1]
    · simp only [if_neg h1, if_neg h2, if_neg (Ne.symm h1), if_neg (Ne.symm h2)]
      unfold ge; rw [List.getD_eq_getElem?_getD]
theorem g_swp {xs : List El} {p q : Nat} (hp : p < xs.length) (hcp : q < xs.length) (i : Nat) : g (swp xs p q) i = if i = q then g xs p else if i = p then g xs q else g xs i := by
  unfold g; rw [ge_swp hp hcp]
  split
  · rfl
  · split <;> rfl
theorem g_swq {xs : List El} {p q : Nat} (hp : p < xs.length) (hcp : q < xs.length) : g (swp xs p q) q = g xs p := by rw [g_swp hp hcp, if_pos rfl]
theorem g_swl {xs : List El} {p q : Nat} (hp : p < xs.length) (hcp : q < xs.length) : g (swp xs p q) p = g xs q := by
  rw [g_swp hp hcp]
  split
  · rename_i h; rw [h]
  · rw [if_pos rfl]
theorem g_swo {xs : List El} {p q i : Nat} (hp : p < xs.length) (hcp : q < xs.length) (h1 : i ≠ p) (h2 : i ≠ q) : g (swp xs p q) i = g xs i := by rw [g_swp hp hcp, if_neg h2, if_neg h1]
theorem swp_perm {xs : List El} {p q : Nat} (hp : p < xs.length) (hcp : q < xs.length) : (swp xs p q).Perm xs := by
  have h := (Array.swap_perm (xs := xs.toArray) (i := p) (j := q) (by simpa using hp) (by simpa using hcp)).toList
  have e : (xs.toArray.swap p q (by simpa using hp) (by simpa using hcp)).toList = swp xs p q := by
    apply List.ext_getElem?
    intro i
    simp only [Array.swap, swp, Array.toList_set, List.getElem_toArray, ge, List.getD_eq_getElem?_getD, List.getElem?_eq_getElem hp, List.getElem?_eq_getElem hcp, Option.getD_some]
  rw [e] at h
  exact h
/-- Turned inside [a, b) alone, by swaps. -/
inductive PI (a b : Nat) (xs : List El) : List El → Prop
  | refl : PI a b xs xs
  | step {ys : List El} {p q : Nat} : PI a b xs ys → a ≤ p → p < b → a ≤ q → q < b → b ≤ ys.length → PI a b xs (swp ys p q)
theorem PI.len {a b : Nat} {xs ys : List El} (h : PI a b xs ys) : ys.length = xs.length := by
  induction h with
  | refl => rfl
  | step _ _ _ _ _ _ ih => rw [swp_len, ih]
theorem PI.perm {a b : Nat} {xs ys : List El} (h : PI a b xs ys) : ys.Perm xs := by
  induction h with
  | refl => exact .refl _
  | step _ _ h2 _ h4 h5 ih => exact (swp_perm (by omega) (by omega)).trans ih
theorem PI.out {a b : Nat} {xs ys : List El} (h : PI a b xs ys) {i : Nat} (hi : i < a ∨ b ≤ i) : g ys i = g xs i := by
  induction h with
  | refl => rfl
  | step _ h1 h2 h3 h4 h5 ih => rw [g_swp (by omega) (by omega), if_neg (by omega), if_neg (by omega), ih]
theorem PI.all {a b : Nat} {xs ys : List El} (h : PI a b xs ys) {Q : Int → Prop} (hq : ∀ i, a ≤ i → i < b → Q (g xs i)) : ∀ i, a ≤ i → i < b → Q (g ys i) := by
  induction h with
  | refl => exact hq
  | step _ h1 h2 h3 h4 h5 ih =>
    intro i hi hi2
    rw [g_swp (by omega) (by omega)]
    split
    · exact ih _ h1 h2
    · split
      · exact ih _ h3 h4
      · exact ih _ hi hi2
theorem PI.mono {a b a' b' : Nat} {xs ys : List El} (h : PI a b xs ys) (ha : a' ≤ a) (hb : b ≤ b') (hl : b' ≤ xs.length) : PI a' b' xs ys := by
  induction h with
  | refl => exact .refl
  | step h h1 h2 h3 h4 h5 ih => exact .step ih (by omega) (by omega) (by omega) (by omega) (by rw [h.len]; exact hl)
theorem PI.trans {a b : Nat} {xs ys zs : List El} (h : PI a b xs ys) (k : PI a b ys zs) : PI a b xs zs := by
  induction k with
  | refl => exact h
  | step _ h1 h2 h3 h4 h5 ih => exact .step ih h1 h2 h3 h4 h5
/-- Sorted from a, ahead of b. -/
def SO (xs : List El) (a b : Nat) : Prop := ∀ i j, a ≤ i → i < j → j < b → g xs i ≤ g xs j
def Ar (s : Sl) (b : Nat) (H : Array Obj) (xs : List El) : Prop :=
  s.p = some ⟨b, 0, none⟩ ∧ s.n = xs.length ∧ xs.length ≤ 1000000 ∧ ∃ arr T, H[b]? = some (.cells arr T (0, 0)) ∧ arr.size = s.c * 2 ∧ s.n ≤ s.c ∧ arr.toList.take (s.n * 2) = xs.flatMap sv ∧ ∀ x ∈ xs, Q x
theorem Ar.q {s : Sl} {b : Nat} {H : Array Obj} {xs : List El} (h : Ar s b H xs) : ∀ x ∈ xs, Q x := by
  obtain ⟨h1, h2, _, arr, T, h3, h4, h5, h6, h7⟩ := h
  exact h7
theorem Ar.own {s : Sl} {b : Nat} {w : World} {xs : List El} (h : Ar s b w.heap xs) : OwS w s 2 (xs.flatMap sv) := by
  obtain ⟨h1, h2, _, arr, T, h3, h4, h5, h6, _⟩ := h
  exact .inr ⟨b, arr, T, h1, h3, h4, h5, h6⟩
theorem Ar.ofp {s : Sl} {b : Nat} {w : World} {xs : List El} (h : OwS w s 2 (xs.flatMap sv)) (hp : s.p = some ⟨b, 0, none⟩) (hl : xs.length ≤ 1000000) (hq : ∀ x ∈ xs, Q x) : Ar s b w.heap xs := by
  have hn := owsN sv_len (by omega) h
  rcases h with ⟨rfl, _⟩ | ⟨b', arr, T, h1, h3, h4, h5, h6⟩
  · cases hp
  · rw [h1] at hp; cases hp
    exact ⟨h1, hn, hl, arr, T, h3, h4, h5, h6, hq⟩
theorem Ar.of {s : Sl} {w : World} {xs : List El} (h : OwS w s 2 (xs.flatMap sv)) (h0 : 0 < xs.length) (hl : xs.length ≤ 1000000) (hq : ∀ x ∈ xs, Q x) : ∃ b, Ar s b w.heap xs ∧ blk s = [b] := by
  have hn := owsN sv_len (by omega) h
  obtain ⟨b, hp⟩ := h.ptr (by omega)
  exact ⟨b, Ar.ofp h hp hl hq, by simp [blk, hp]⟩
theorem Ar.lt {s : Sl} {b : Nat} {w : World} {xs : List El} (h : Ar s b w.heap xs) : b < w.heap.size := by
  obtain ⟨_, _, _, _, _, h3, _⟩ := h
  exact heap_lt h3
theorem ge_q {xs : List El} (h : ∀ x ∈ xs, Q x) {i : Nat} (hi : i < xs.length) : Q (ge xs i) := h _ (List.mem_of_getElem? (ge_eq hi))
theorem rd {s : Sl} {b : Nat} {w : World} {xs : List El} (h : Ar s b w.heap xs) {i : Int} (h0 : 0 ≤ i) (h1 : i < xs.length) {K : El → Prop} (k : K (ge xs i.toNat)) :
    ∃ b1 b2 : Nat, s.1 = some ⟨b1, b2, none⟩ ∧ ((0 : Int) ≤ i ∧ i < (s.2 : Int)) ∧ ∃ n : El, CellsAt w b1 (b2 + i.toNat * 2) [.int .i64 n.1, .int .i64 n.2] ∧ K n := by
  have e2 := h.2.1
  obtain ⟨b', hp, hc⟩ := h.own.elem (i := i.toNat) (by omega) (flatGet sv_len (ge_eq (xs := xs) (i := i.toNat) (by omega)))
  exact ⟨b', 0, hp, ⟨h0, by show i < (s.n : Int); omega⟩, _, by rw [Nat.zero_add]; exact hc, k⟩
theorem wr {s : Sl} {b : Nat} {w : World} {xs : List El} (h : Ar s b w.heap xs) {i : Int} {x : El} (h0 : 0 ≤ i) (h1 : i < xs.length) (hx : Q x) {K : World → Prop} (k : ∀ w', Ar s b w'.heap (xs.set i.toNat x) → CB b w w' → K w') :
    ∃ b1 b2 : Nat, s.1 = some ⟨b1, b2, none⟩ ∧ ((0 : Int) ≤ i ∧ i < (s.2 : Int)) ∧ #[Value.int .i64 x.1, Value.int .i64 x.2].size = 2 ∧ StoreP w b1 (b2 + i.toNat * 2) [.int .i64 x.1, .int .i64 x.2] K := by
  have e1 := h.1; have e2 := h.2.1; have el := h.2.2.1
  refine ⟨b, 0, e1, ⟨h0, by show i < (s.n : Int); omega⟩, rfl, ?_⟩
  rw [Nat.zero_add]
  refine h.own.store (vs := sv x) e1 (by rw [sv_len]; omega) (sv_one x) fun w' ho hc => k w' (Ar.ofp ?_ e1 (by rw [List.length_set]; exact el) fun y hy => (List.mem_or_eq_of_mem_set hy).elim (h.q y) fun e => e ▸ hx) hc
  rw [sv_len, flatSet sv_len (by omega)] at ho
  exact ho
/-- data[p], data[q] = data[q], data[p] -/
theorem sw {s : Sl} {b : Nat} {w : World} {xs : List El} (h : Ar s b w.heap xs) {p q : Int} (hp0 : 0 ≤ p) (hp1 : p < xs.length) (hq0 : 0 ≤ q) (hq1 : q < xs.length) {K : World → Prop} (k : ∀ w', Ar s b w'.heap (swp xs p.toNat q.toNat) → CB b w w' → K w') :
    ∃ b1 b2 : Nat, s.1 = some ⟨b1, b2, none⟩ ∧ ((0 : Int) ≤ q ∧ q < (s.2 : Int)) ∧ ∃ n : El, CellsAt w b1 (b2 + q.toNat * 2) [.int .i64 n.1, .int .i64 n.2] ∧
    ∃ b3 b4 : Nat, s.1 = some ⟨b3, b4, none⟩ ∧ ((0 : Int) ≤ p ∧ p < (s.2 : Int)) ∧ ∃ m : El, CellsAt w b3 (b4 + p.toNat * 2) [.int .i64 m.1, .int .i64 m.2] ∧
    ∃ b5 b6 : Nat, s.1 = some ⟨b5, b6, none⟩ ∧ ((0 : Int) ≤ p ∧ p < (s.2 : Int)) ∧ #[Value.int .i64 n.1, Value.int .i64 n.2].size = 2 ∧ StoreP w b5 (b6 + p.toNat * 2) [.int .i64 n.1, .int .i64 n.2] fun w1 =>
    ∃ b7 b8 : Nat, s.1 = some ⟨b7, b8, none⟩ ∧ ((0 : Int) ≤ q ∧ q < (s.2 : Int)) ∧ #[Value.int .i64 m.1, Value.int .i64 m.2].size = 2 ∧ StoreP w1 b7 (b8 + q.toNat * 2) [.int .i64 m.1, .int .i64 m.2] K := by
  refine rd h hq0 hq1 (rd h hp0 hp1 (wr h hp0 hp1 (ge_q h.q (by omega)) fun w1 h1 c1 => wr h1 hq0 (by rw [List.length_set]; exact hq1) (ge_q h.q (by omega)) fun w2 h2 c2 => k w2 h2 (c1.trans c2)))
/-- What compares: by its sign, and leaves what was there. -/
def CmpP (cl : Nat × Array Value) : Prop := ∀ (x y : El) (W : World), Q x → Q y → CW Try.prog cl.1 { toList := Value.agg (sv x).toArray :: Value.agg (sv y).toArray :: cl.2.toList } W fun v w' => ∃ n : Int, v = iv n ∧ (n < 0 ↔ key x < key y) ∧ Ext W w'
theorem ls {cl : Nat × Array Value} (hcp : CmpP cl) {s : Sl} {b : Nat} {w : World} {xs : List El} (h : Ar s b w.heap xs) {i j : Int} (hi0 : 0 ≤ i) (hi1 : i < xs.length) (hj0 : 0 ≤ j) (hj1 : j < xs.length) {K : Int → World → Prop} (k : ∀ (nn : Int) (ww : World), (nn < 0 ↔ g xs i.toNat < g xs j.toNat) → Ext w ww → K nn ww) :
    ∃ b1 b2 : Nat, s.1 = some ⟨b1, b2, none⟩ ∧ ((0 : Int) ≤ i ∧ i < (s.2 : Int)) ∧ ∃ n : El, CellsAt w b1 (b2 + i.toNat * 2) [.int .i64 n.1, .int .i64 n.2] ∧
    ∃ b3 b4 : Nat, s.1 = some ⟨b3, b4, none⟩ ∧ ((0 : Int) ≤ j ∧ j < (s.2 : Int)) ∧ ∃ m : El, CellsAt w b3 (b4 + j.toNat * 2) [.int .i64 m.1, .int .i64 m.2] ∧
    CX Try.prog cl.1 { toList := Value.agg #[.int .i64 n.1, .int .i64 n.2] :: Value.agg #[.int .i64 m.1, .int .i64 m.2] :: cl.2.1 } w fun v w' => ∃ n : Int, v = .int .i64 n ∧ K n w' := by
  refine rd h hi0 hi1 (rd h hj0 hj1 ((hcp _ _ w (ge_q h.q (by omega)) (ge_q h.q (by omega))).use ?_))
  rintro _ ww ⟨n, rfl, hn, e⟩
  exact ⟨n, rfl, k n ww hn e⟩
theorem decC {n : Int} {P : Prop} [Decidable P] {A B : Prop} (hn : n < 0 ↔ P) (h : P → A) (k : ¬ P → B) : IfB (decide (n < 0)) A B := IfB.dec (fun h' => h (hn.1 h')) fun h' => k fun hp => h' (hn.2 hp)
theorem introC {n : Int} {P : Prop} [Decidable P] {A B : Prop} (hn : n < 0 ↔ P) (h : (!decide P) = true → A) (k : (!decide P) = false → B) : IfB (!decide (n < 0)) A B := by
  rw [show decide (n < 0) = decide P from decide_eq_decide.2 hn]
  exact IfB.intro h k
theorem Ar.ch {F : Nat → Prop} {s : Sl} {b : Nat} {w w' : World} {xs : List El} (h : Ar s b w.heap xs) (hc : Ch F w w') (hF : ¬ F b) : Ar s b w'.heap xs := by
  obtain ⟨e1, e2, e3, arr, T, e4, e5⟩ := h
  exact ⟨e1, e2, e3, arr, T, hc.at e4 hF, e5⟩
theorem CBe {b : Nat} {w W W' : World} (h : CB b w W) (e : Ext W W') : CB b w W' := Ch.then h e fun _ _ h => h.elim
theorem c75 {cl : Nat × Array Value} (hcp : CmpP cl) {s : Sl} {b : Nat} {w : World} {xs : List El} {a e : Nat} (h : Ar s b w.heap xs) (he : e ≤ xs.length) (ha : a ≤ xs.length) :
    CW Try.prog 75 #[slV s, iv a, iv e, .func (.func cl.1) #[] cl.2] w fun v w' => v = .tuple #[] ∧ ∃ ys, PI a e xs ys ∧ SO ys a e ∧ Ar s b w'.heap ys ∧ CB b w w' := by
  have hl : xs.length ≤ 1000000 := h.2.2.1
  refine F75_ok s a e cl w _ ⟨fun n x W => ∃ (i : Nat) (ys : List El), n = e + 1 - i ∧ x = (i : Int) ∧ a + 1 ≤ i ∧ (i = a + 1 ∨ i ≤ e) ∧ PI a e xs ys ∧ SO ys a i ∧ Ar s b W.heap ys ∧ CB b w W, ⟨_, a + 1, xs, rfl, wp1 (by omega), Nat.le_refl _, .inl rfl, .refl, fun i j _ _ _ => by omega, h, Ch.refl _ _⟩, ?_⟩
  rintro n _ W _ ⟨i, ys, rfl, rfl, hai, hi, hP, hS, hA, hC⟩
  have hyl := hP.len
  refine IfB.dec (fun hlt => ?_) (fun hge => ⟨rfl, ys, hP, fun p q h1 h2 h3 => hS p q h1 h2 (by omega), hA, hC⟩)
  have hie : i < e := by omega
  refine ⟨fun m x W' => ∃ (j : Nat) (zs : List El), j = m ∧ x = (j : Int) ∧ a ≤ j ∧ j ≤ i ∧ PI a e xs zs ∧ (∀ p q, a ≤ p → p < q → q ≤ i → q ≠ j → g zs p ≤ g zs q) ∧ Ar s b W'.heap zs ∧ CB b w W', ⟨_, i, ys, rfl, rfl, by omega, Nat.le_refl _, hP, fun p q h1 h2 h3 h4 => hS p q h1 h2 (by omega), hA, hC⟩, ?_⟩
  rintro m _ W1 _ ⟨j, zs, rfl, rfl, haj, hji, hP1, hS1, hA1, hC1⟩
  have hzl := hP1.len
  have hCd : CB b w W1.drew := hC1.then (extDrew W1) fun _ _ h => h.elim
  have done : (∀ p, a ≤ p → p < j → g zs p ≤ g zs j) → ∀ W2 : World, Ar s b W2.heap zs → CB b w W2 → ([] : List Nat) = [] ∧ ∃ b38, b38 < e + 1 - i ∧ ∃ (i' : Nat) (ys : List El), b38 = e + 1 - i' ∧ IntKind.i64.wrap ((i : Int) + (1 : Int)) = (i' : Int) ∧ a + 1 ≤ i' ∧ (i' = a + 1 ∨ i' ≤ e) ∧ PI a e xs ys ∧ SO ys a i' ∧ Ar s b W2.heap ys ∧ CB b w W2 := by
    rintro hj W2 hA1 hCd
    refine ⟨rfl, e + 1 - (i + 1), by omega, i + 1, zs, rfl, wp1 (by omega), by omega, .inr (by omega), hP1, fun p q h1 h2 h3 => ?_, hA1, hCd⟩
    by_cases hq : q = j
    · subst hq; exact hj p h1 h2
    · exact hS1 p q h1 h2 (by omega) hq
  unfold F75j2
  refine IfB.dec (fun hlt2 => ?_) (fun hge2 => done (fun p h1 h2 => by omega) W1.drew hA1 hCd)
  have hj : a < j := by omega
  have hw := wm1 (i := j) (by omega) (by omega)
  rw [hw]
  refine ls hcp (w := W1.drew) hA1 (by omega) (by omega) (by omega) (by omega) (fun nn ww hn eC => have hA1 := Ar.ch (w := W1.drew) hA1 eC id; have hCd := CBe hCd eC; decC hn (fun hl1 => ?_) (fun hl1 => done (fun p h1 h2 => ?_) ww hA1 hCd))
  · rw [Int.toNat_natCast, Int.toNat_natCast] at hl1
    refine sw (w := ww.drew) hA1 (by omega) (by omega) (by omega) (by omega) fun W3 hA3 hC3 => ⟨rfl, j - 1, by omega, j - 1, _, rfl, rfl, by omega, by omega, .step hP1 (p := j) (q := j - 1) (by omega) (by omega) (by omega) (by omega) (by omega), ?_, hA3, (hCd.then (extDrew _) fun _ _ h => h.elim).trans hC3⟩
    intro p q h1 h2 h3 h4
    rw [g_swp (by omega) (by omega), g_swp (by omega) (by omega)]
    have A1 := hS1 p (j - 1) h1
    have A2 := hS1 p q h1 h2 h3
    have A3 := hS1 j q (by omega)
    have A4 := hS1 (j - 1) q (by omega)
    split <;> split <;> (try split) <;> (try split) <;> first | omega | skip
  · rw [Int.toNat_natCast, Int.toNat_natCast] at hl1
    have := hS1 p (j - 1) h1
    by_cases hp : p = j - 1
    · subst hp; omega
    · have := this (by omega) (by omega) (by omega)
      omega
/-- From k on none of the children of a node of the heap at f is more than it. -/
def HpAt (xs : List El) (f hi k : Nat) : Prop := ∀ c, c = 2 * k + 1 ∨ c = 2 * k + 2 → c < hi → g xs (f + c) ≤ g xs (f + k)
theorem c103 {cl : Nat × Array Value} (hcp : CmpP cl) {s : Sl} {b : Nat} {w : World} {xs : List El} {lo hi f : Nat} (h : Ar s b w.heap xs) (hl : f + hi ≤ xs.length) (hlo : lo ≤ 1000000) (hh : ∀ k, lo < k → HpAt xs f hi k) :
    CW Try.prog 103 #[slV s, iv lo, iv hi, iv f, .func (.func cl.1) #[] cl.2] w fun v w' => v = .tuple #[] ∧ ∃ ys, PI f (f + hi) xs ys ∧ (∀ k, lo ≤ k → HpAt ys f hi k) ∧ Ar s b w'.heap ys ∧ CB b w w' := by
  have hll : xs.length ≤ 1000000 := h.2.2.1
  refine F103_ok s lo hi f cl w _ ⟨fun n x W => ∃ (r : Nat) (ys : List El), n = hi - r ∧ x = (r : Int) ∧ lo ≤ r ∧ (r = lo ∨ r < hi) ∧ PI f (f + hi) xs ys ∧ (∀ k, lo ≤ k → k ≠ r → HpAt ys f hi k) ∧
    (∀ k, lo ≤ k → r = 2 * k + 1 ∨ r = 2 * k + 2 → ∀ c, c = 2 * r + 1 ∨ c = 2 * r + 2 → c < hi → g ys (f + c) ≤ g ys (f + k)) ∧ Ar s b W.heap ys ∧ CB b w W, ⟨_, lo, xs, rfl, rfl, Nat.le_refl _, .inl rfl, .refl, fun k h1 h2 => hh k (by omega), fun k h1 h2 => by omega, h, Ch.refl _ _⟩, ?_⟩
  rintro n _ W _ ⟨r, ys, rfl, rfl, hlr, hr, hP, hH, hG, hA, hC⟩
  have hyl := hP.len
  unfold F103j1
  rw [wdb (by omega), wp1 (by omega)]
  refine IfB.dec (fun hge => ⟨rfl, ys, hP, fun k hk => ?_, hA, hC⟩) (fun hlt => ?_)
  · by_cases hkr : k = r
    · subst hkr; intro c hc1 hc2; omega
    · exact hH k hk hkr
  have hc1 : 2 * r + 1 < hi := by omega
  rw [wp1 (by omega), wad (by omega), wp1 (by omega)]
  have hCd : CB b w W.drew := hC.then (extDrew W) fun _ _ h => h.elim
  refine ⟨fun x W' => ∃ c : Nat, x = (c : Int) ∧ (c = 2 * r + 1 ∨ c = 2 * r + 2) ∧ c < hi ∧ (∀ d, d = 2 * r + 1 ∨ d = 2 * r + 2 → d < hi → g ys (f + d) ≤ g ys (f + c)) ∧ Ext W.drew W', ?_, ?_⟩
  · refine IfB.dec (fun h2 => ?_) (fun h2 => ⟨rfl, 2 * r + 1, rfl, .inl rfl, hc1, fun d hd1 hd2 => ?_, Ch.refl _ _⟩)
    · refine ls hcp (w := W.drew) hA (by omega) (by omega) (by omega) (by omega) (fun nn ww hn eC => decC hn (fun hl1 => ⟨rfl, 2 * r + 1 + 1, rfl, .inr rfl, by omega, fun d hd1 hd2 => ?_, eC⟩) (fun hl1 => ⟨rfl, 2 * r + 1, rfl, .inl rfl, hc1, fun d hd1 hd2 => ?_, eC⟩))
      · rw [Int.toNat_natCast, Int.toNat_natCast] at hl1
        rcases hd1 with rfl | rfl
        · rw [show f + (2 * r + 1 + 1) = f + (2 * r + 1) + 1 by omega]; omega
        · exact Int.le_refl _
      · rw [Int.toNat_natCast, Int.toNat_natCast] at hl1
        rcases hd1 with rfl | rfl
        · exact Int.le_refl _
        · rw [show f + (2 * r + 2) = f + (2 * r + 1) + 1 by omega]; omega
    · have : d = 2 * r + 1 := by omega
      subst this; exact Int.le_refl _
  rintro _ W' _ ⟨c, rfl, hc2, hc3, hc4, eW⟩
  have hA := Ar.ch (w := W.drew) hA eW id
  have hCd := CBe hCd eW
  unfold F103j2
  rw [wad (by omega), wad (by omega)]
  have hCd2 : CB b w W'.drew := hCd.then (extDrew _) fun _ _ h => h.elim
  refine ls hcp (w := W'.drew) hA (by omega) (by omega) (by omega) (by omega) (fun nn ww hn eC => have hA := Ar.ch (w := W'.drew) hA eC id; have hCd2 := CBe hCd2 eC; introC hn (fun hl1 => ⟨rfl, ys, hP, fun k hk => ?_, hA, hCd2⟩) fun hl1 => ?_)
  · simp only [Int.toNat_natCast, Bool.not_eq_true', decide_eq_false_iff_not] at hl1
    by_cases hkr : k = r
    · subst hkr
      intro d hd1 hd2
      have := hc4 d hd1 hd2
      omega
    · exact hH k hk hkr
  · simp only [Int.toNat_natCast, Bool.not_eq_false', decide_eq_true_eq] at hl1
    refine sw (w := ww.drew) hA (by omega) (by omega) (by omega) (by omega) fun W3 hA3 hC3 => ⟨rfl, hi - c, by omega, c, _, rfl, rfl, by omega, .inr hc3, .step hP (p := f + r) (q := f + c) (by omega) (by omega) (by omega) (by omega) (by omega), ?_, ?_, hA3, (CBe hCd2 (extDrew ww)).trans hC3⟩
    · intro k hk hkc d hd1 hd2
      by_cases hkr : k = r
      · subst hkr
        rw [g_swl (by omega) (by omega)]
        by_cases hdc : d = c
        · subst hdc; rw [g_swq (by omega) (by omega)]; omega
        · rw [g_swo (by omega) (by omega) (by omega) (by omega)]; exact hc4 d hd1 hd2
      · rw [g_swo (i := f + k) (by omega) (by omega) (by omega) (by omega)]
        by_cases hdr : d = r
        · subst hdr
          rw [g_swl (by omega) (by omega)]
          exact hG k hk hd1 c hc2 hc3
        · rw [g_swo (by omega) (by omega) (by omega) (by omega)]
          exact hH k hk hkr d hd1 hd2
    · intro k hk hck d hd1 hd2
      have hkr : k = r := by omega
      subst hkr
      rw [g_swl (by omega) (by omega), g_swo (by omega) (by omega) (by omega) (by omega)]
      exact hH c (by omega) (by omega) d hd1 hd2
theorem heap_max {xs : List El} {f hi : Nat} (h : ∀ k, HpAt xs f hi k) (p : Nat) (hp : p < hi) : g xs (f + p) ≤ g xs f := by
  induction p using Nat.strongRecOn with
  | _ p ih =>
    by_cases h0 : p = 0
    · subst h0; exact Int.le_refl _
    · have h1 := h ((p - 1) / 2) p (by omega) hp
      have h2 := ih ((p - 1) / 2) (by omega) (by omega)
      omega
theorem c76 {cl : Nat × Array Value} (hcp : CmpP cl) {s : Sl} {b : Nat} {w : World} {xs : List El} {a e : Nat} (h : Ar s b w.heap xs) (he : e ≤ xs.length) (ha : a ≤ e) :
    CW Try.prog 76 #[slV s, iv a, iv e, .func (.func cl.1) #[] cl.2] w fun v w' => v = .tuple #[] ∧ ∃ ys, PI a e xs ys ∧ SO ys a e ∧ Ar s b w'.heap ys ∧ CB b w w' := by
  have hl : xs.length ≤ 1000000 := h.2.2.1
  refine F76_ok s a e cl w _ ⟨by decide, ?_⟩
  have hea : a + (e - a) = e := by omega
  rw [wsb ha (by omega)]
  generalize hhi : e - a = hi at hea
  refine ⟨fun n x W => ∃ (i : Nat) (ys : List El), i = n ∧ x = (i : Int) - 1 ∧ i ≤ hi + 1 ∧ PI a e xs ys ∧ (∀ k, i ≤ k → HpAt ys a hi k) ∧ Ar s b W.heap ys ∧ CB b w W, ⟨_, (if hi = 0 then 1 else (hi - 1) / 2 + 1), xs, rfl, ?_, ?_, .refl, ?_, h, Ch.refl _ _⟩, ?_⟩
  · rw [wrap_of (n := (hi : Int) - 1) (by omega) (by omega)]
    split
    · rename_i h0; subst h0; decide
    · rename_i h0
      rw [Int.tdiv_eq_ediv_of_nonneg (by omega), wrap_of (by omega) (by omega)]
      omega
  · split <;> omega
  · intro k hk c hc1 hc2
    split at hk <;> omega
  rintro n _ W _ ⟨i, ys, rfl, rfl, hi1, hP, hH, hA, hC⟩
  have hyl := hP.len
  unfold F76j1
  refine IfB.dec (fun hge => ?_) (fun hlt => ?_)
  · rw [show ((i : Int) - 1) = ((i - 1 : Nat) : Int) by omega, wsb ha (by omega), hhi]
    refine (c103 hcp hA (by omega) (by omega) fun k hk => hH k (by omega)).use ?_
    rintro _ W2 ⟨rfl, zs, hP2, hH2, hA2, hC2⟩
    rw [hea] at hP2
    exact ⟨(), rfl, rfl, i - 1, by omega, i - 1, zs, rfl, by rw [wrap_of (by omega) (by omega)], by omega, hP.trans hP2, hH2, hA2, hC.trans hC2⟩
  · have hi0 : i = 0 := by omega
    subst hi0
    refine ⟨fun n x W' => ∃ (i : Nat) (zs : List El), i = n ∧ x = (i : Int) - 1 ∧ i ≤ hi ∧ PI a e xs zs ∧ (∀ k, HpAt zs a i k) ∧ (∀ p q, i ≤ p → p < q → q < hi → g zs (a + p) ≤ g zs (a + q)) ∧ (∀ p q, p < i → i ≤ q → q < hi → g zs (a + p) ≤ g zs (a + q)) ∧ Ar s b W'.heap zs ∧ CB b w W', ⟨_, hi, ys, rfl, ?_, Nat.le_refl _, hP, fun k => hH k (Nat.zero_le _), fun p q _ _ _ => by omega, fun p q _ _ _ => by omega, hA, hC⟩, ?_⟩
    · rw [wsb ha (by omega), hhi, wrap_of (by omega) (by omega)]
    rintro n _ W1 _ ⟨i, zs, rfl, rfl, hi2, hP1, hH1, hS1, hX1, hA1, hC1⟩
    have hzl := hP1.len
    unfold F76j2
    refine IfB.dec (fun hge => ?_) (fun hlt => ⟨rfl, zs, hP1, fun p q h1 h2 h3 => ?_, hA1, hC1⟩)
    · obtain ⟨m, rfl⟩ : ∃ m, i = m + 1 := ⟨i - 1, by omega⟩
      rw [show (((m + 1 : Nat) : Int) - 1) = (m : Int) by omega, wad (by omega)]
      have hCd : CB b w W1.drew := hC1.then (extDrew W1) fun _ _ h => h.elim
      refine sw (w := W1.drew) hA1 (by omega) (by omega) (by omega) (by omega) fun W2 hA2 hC2 => ?_
      rw [Int.toNat_natCast, Int.toNat_natCast] at hA2
      have hP2 : PI a e xs (swp zs a (a + m)) := .step hP1 (by omega) (by omega) (by omega) (by omega) (by omega)
      have g0 : ∀ p, 0 < p → p < m → g (swp zs a (a + m)) (a + p) = g zs (a + p) := fun p h1 h2 => g_swo (by omega) (by omega) (by omega) (by omega)
      have gm : g (swp zs a (a + m)) (a + m) = g zs a := g_swq (by omega) (by omega)
      have gz : g (swp zs a (a + m)) a = g zs (a + m) := g_swl (by omega) (by omega)
      have gb : ∀ q, m < q → g (swp zs a (a + m)) (a + q) = g zs (a + q) := fun q h1 => g_swo (by omega) (by omega) (by omega) (by omega)
      refine (c103 hcp (lo := 0) hA2 (by rw [swp_len]; omega) (by omega) fun k hk c hc1 hc2 => ?_).use ?_
      · rw [g0 k hk (by omega), g0 c (by omega) hc2]
        exact hH1 k c hc1 (by omega)
      rintro _ W3 ⟨rfl, us, hP3, hH3, hA3, hC3⟩
      have hmax := heap_max hH1
      have hP3' : PI a e (swp zs a (a + m)) us := hP3.mono (Nat.le_refl _) (by omega) (by rw [swp_len]; omega)
      have ub : ∀ q, m ≤ q → g us (a + q) = g (swp zs a (a + m)) (a + q) := fun q hq => hP3.out (.inr (by omega))
      refine ⟨(), rfl, rfl, m, by omega, m, us, rfl, by rw [wrap_of (by omega) (by omega)], by omega, hP2.trans hP3', fun k => hH3 k (Nat.zero_le _), ?_, ?_, hA3, (hCd.trans hC2).trans hC3⟩
      · intro p q h1 h2 h3
        rw [ub p h1, ub q (by omega), gb q (by omega)]
        by_cases hp : p = m
        · subst hp; rw [gm]
          have := hX1 0 q (by omega) (by omega) h3
          exact this
        · rw [gb p (by omega)]; exact hS1 p q (by omega) h2 h3
      · intro p q h1 h2 h3
        have hQ : ∀ i, a ≤ i → i < a + m → (fun v => v ≤ g us (a + q)) (g us i) := by
          refine hP3.all (Q := fun v => v ≤ g us (a + q)) fun i h4 h5 => ?_
          show _ ≤ g us (a + q)
          rw [ub q h2]
          obtain ⟨t, rfl⟩ : ∃ t, i = a + t := ⟨i - a, by omega⟩
          have h6 : g (swp zs a (a + m)) (a + t) = g zs (a + t) ∨ g (swp zs a (a + m)) (a + t) = g zs (a + m) := by
            by_cases ht : t = 0
            · subst ht; exact .inr gz
            · exact .inl (g0 t (by omega) (by omega))
          by_cases hq : q = m
          · subst hq
            rw [gm]
            have h7 := hmax t (by omega)
            have h8 := hmax q (by omega)
            rcases h6 with h6 | h6 <;> omega
          · rw [gb q (by omega)]
            have h7 := hX1 t q (by omega) (by omega) h3
            have h8 := hX1 m q (by omega) (by omega) h3
            rcases h6 with h6 | h6 <;> omega
        exact hQ _ (by omega) (by omega)
    · obtain ⟨p', rfl⟩ : ∃ t, p = a + t := ⟨p - a, by omega⟩
      obtain ⟨q', rfl⟩ : ∃ t, q = a + t := ⟨q - a, by omega⟩
      exact hS1 p' q' (by omega) (by omega) (by omega)
theorem c79 {cl : Nat × Array Value} (hcp : CmpP cl) {s : Sl} {b : Nat} {w : World} {xs : List El} {a e : Nat} (h : Ar s b w.heap xs) (he : e ≤ xs.length) (ha : a < e) :
    CW Try.prog 79 #[slV s, iv a, iv e, .func (.func cl.1) #[] cl.2] w fun v w' => v = .tuple #[] ∧ ∃ ys, PI a e xs ys ∧ Ar s b w'.heap ys ∧ CB b w w' := by
  have hl : xs.length ≤ 1000000 := h.2.2.1
  refine F79_ok s a e cl w _ ⟨fun n x W => ∃ (i j : Nat) (ys : List El), n = j ∧ x = ((i : Int), (j : Int)) ∧ a ≤ i ∧ j < e ∧ i ≤ j + 1 ∧ PI a e xs ys ∧ Ar s b W.heap ys ∧ CB b w W, ⟨_, a, e - 1, xs, rfl, by rw [wm1 (by omega) (by omega)], Nat.le_refl _, by omega, by omega, .refl, h, Ch.refl _ _⟩, ?_⟩
  rintro n _ W _ ⟨i, j, ys, rfl, rfl, hai, hje, hij, hP, hA, hC⟩
  have hyl := hP.len
  unfold F79j1
  refine IfB.dec (fun hlt => ?_) (fun hge => ⟨rfl, ys, hP, hA, hC⟩)
  have hlt : i < n := by
    have : (i : Int) < (n : Int) := hlt
    omega
  have hCd : CB b w W.drew := hC.then (extDrew W) fun _ _ h => h.elim
  refine sw (w := W.drew) hA (p := (i : Int)) (q := (n : Int)) (by omega) (by omega) (by omega) (by omega) fun W2 hA2 hC2 => ?_
  rw [Int.toNat_natCast, Int.toNat_natCast] at hA2
  exact ⟨rfl, n - 1, by omega, i + 1, n - 1, _, rfl, by rw [← wp1 (by omega), ← wm1 (by omega) (by omega)], by omega, by omega, by omega, .step hP (by omega) (by omega) (by omega) (by omega) (by omega), hA2, hCd.trans hC2⟩
theorem c114 {cl : Nat × Array Value} (hcp : CmpP cl) {s : Sl} {b b1 : Nat} {w : World} {xs : List El} {i j : Nat} (h : Ar s b w.heap xs) (hc : Ct .i64 b1 w) (hne : b1 ≠ b) (hi : i < xs.length) (hj : j < xs.length) :
    CW Try.prog 114 #[slV s, iv i, iv j, .pointer (some ⟨b1, 0, none⟩), .func (.func cl.1) #[] cl.2] w fun v w' => ∃ x y : Nat, v = .tuple #[iv x, iv y] ∧ (x = i ∧ y = j ∨ x = j ∧ y = i) ∧ Ar s b w'.heap xs ∧ Ct .i64 b1 w' ∧ Ch (fun q => q = b1) w w' := by
  have hd : Ch (fun q => q = b1) w w.drew := (extDrew w).mono fun _ _ h => h.elim
  refine F114_ok s i j _ cl w _ (ls hcp (w := w.drew) h (by omega) (by omega) (by omega) (by omega) (fun nn ww hn eC => have h := Ar.ch (w := w.drew) h eC id; have hc : Ct .i64 b1 ww := (have ⟨T, n, k⟩ := hc; ⟨T, n, Ch.at (w := w.drew) eC k id⟩); have hd := hd.then eC (fun _ _ h => h.elim); decC hn (fun _ => ?_) (fun _ => ⟨i, j, rfl, .inl ⟨rfl, rfl⟩, h, hc, hd⟩)))
  obtain ⟨T, n, hn⟩ := hc
  refine ⟨b1, 0, rfl, n, by rw [cell_of (w := ww) hn]; rfl, b1, 0, rfl, rfl, store_one (w := ww) hn (by simp) rfl fun w2 h2 => ⟨j, i, rfl, .inr ⟨rfl, rfl⟩, ?_, ⟨T, _, h2.new⟩, hd.trans h2.ch⟩⟩
  exact Ar.ch (w := ww) h h2.ch (Ne.symm hne)
theorem c107 {cl : Nat × Array Value} (hcp : CmpP cl) {s : Sl} {b b1 : Nat} {w : World} {xs : List El} {i j k : Nat} (h : Ar s b w.heap xs) (hc : Ct .i64 b1 w) (hne : b1 ≠ b) (hi : i < xs.length) (hj : j < xs.length) (hk : k < xs.length) :
    CW Try.prog 107 #[slV s, iv i, iv j, iv k, .pointer (some ⟨b1, 0, none⟩), .func (.func cl.1) #[] cl.2] w fun v w' => ∃ x : Nat, v = iv x ∧ (x = i ∨ x = j ∨ x = k) ∧ Ar s b w'.heap xs ∧ Ct .i64 b1 w' ∧ Ch (fun q => q = b1) w w' := by
  refine F107_ok s i j k _ cl w _ ((c114 hcp h hc hne hi hj).use ?_)
  rintro _ w2 ⟨x1, y1, rfl, e1, h2, k2, l2⟩
  refine ⟨((x1 : Int), (y1 : Int)), rfl, (c114 hcp h2 k2 hne (by omega) hk).use ?_⟩
  rintro _ w3 ⟨x2, y2, rfl, e2, h3, k3, l3⟩
  refine ⟨((x2 : Int), (y2 : Int)), rfl, (c114 hcp h3 k3 hne (by omega) (by omega)).use ?_⟩
  rintro _ w4 ⟨x3, y3, rfl, e3, h4, k4, l4⟩
  exact ⟨((x3 : Int), (y3 : Int)), rfl, y3, rfl, by omega, h4, k4, (l2.trans l3).trans l4⟩
theorem c106 {cl : Nat × Array Value} (hcp : CmpP cl) {s : Sl} {b b1 : Nat} {w : World} {xs : List El} {i : Nat} (h : Ar s b w.heap xs) (hc : Ct .i64 b1 w) (hne : b1 ≠ b) (h0 : 0 < i) (hi : i + 1 < xs.length) :
    CW Try.prog 106 #[slV s, iv i, .pointer (some ⟨b1, 0, none⟩), .func (.func cl.1) #[] cl.2] w fun v w' => ∃ x : Nat, v = iv x ∧ (i ≤ x + 1 ∧ x ≤ i + 1) ∧ Ar s b w'.heap xs ∧ Ct .i64 b1 w' ∧ Ch (fun q => q = b1) w w' := by
  have hl := h.2.2.1
  refine F106_ok s i _ cl w _ ?_
  unfold F106
  rw [wm1 (by omega) (by omega), wp1 (by omega)]
  refine (c107 hcp h hc hne (by omega) (by omega) hi).use ?_
  rintro _ w2 ⟨x, rfl, e, h2, k2, l2⟩
  exact ⟨_, rfl, x, rfl, by omega, h2, k2, l2⟩
theorem c78 {cl : Nat × Array Value} (hcp : CmpP cl) {s : Sl} {b : Nat} {w : World} {xs : List El} {a e : Nat} (h : Ar s b w.heap xs) (he : e ≤ xs.length) (ha : a + 12 < e) :
    CW Try.prog 78 #[slV s, iv a, iv e, .func (.func cl.1) #[] cl.2] w fun v w' => ∃ (p : Nat) (t : Int), v = .tuple #[iv p, iv t] ∧ (a ≤ p ∧ p < e) ∧ Ar s b w'.heap xs ∧ Ext w w' := by
  have hl := h.2.2.1
  have hlt := h.lt
  refine F78_ok s a e cl w _ ?_
  intro b1 w2 h2
  have e2 : Ext w w2 := h2.ch _
  have p2 := h2.here
  have hA2 := h.ch e2 id
  have hc2 : Ct .i64 b1 w2 := ⟨_, _, h2.new⟩
  have hne : b1 ≠ b := by omega
  have hq : IntKind.i64.wrap ((IntKind.i64.wrap ((e : Int) - (a : Int))).tdiv (4 : Int)) = (((e - a) / 4 : Nat) : Int) := by
    rw [wsb (by omega) (by omega), Int.tdiv_eq_ediv_of_nonneg (by omega), wrap_of (by omega) (by omega)]; omega
  rw [hq, wmul (k := (1 : Int)) (m := 1) rfl (by omega) (by omega), wmul (k := (2 : Int)) (m := 2) rfl (by omega) (by omega), wmul (k := (3 : Int)) (m := 3) rfl (by omega) (by omega), wad (by omega), wad (by omega), wad (by omega), wsb (by omega) (by omega)]
  generalize hqq : (e - a) / 4 = q
  have hx : ∀ {w' : World}, Ch (fun i => i = b1) w2 w' → Ext w w' := fun hc => e2.then hc fun i hi h => by omega
  refine ⟨by decide, by decide, by decide, fun x W => ∃ p : Nat, x = (p : Int) ∧ (a ≤ p ∧ p < e) ∧ Ar s b W.heap xs ∧ Ct .i64 b1 W ∧ Ch (fun i => i = b1) w2 W, ?_, ?_⟩
  · refine IfB.yes (decide_eq_true (by omega)) ⟨fun x W => ∃ i j k : Nat, x = ((i : Int), (j : Int), (k : Int)) ∧ (a ≤ i ∧ i < e) ∧ (a ≤ j ∧ j < e) ∧ (a ≤ k ∧ k < e) ∧ Ar s b W.heap xs ∧ Ct .i64 b1 W ∧ Ch (fun i => i = b1) w2 W, ?_, ?_⟩
    · refine IfB.dec (fun h50 => ?_) (fun _ => ⟨rfl, _, _, _, rfl, by omega, by omega, by omega, hA2, hc2, Ch.refl _ _⟩)
      have h50 : 50 ≤ e - a := by omega
      refine (c106 hcp hA2 hc2 hne (by omega) (by omega)).use ?_
      rintro _ w6 ⟨i, rfl, hi, h6, k6, l6⟩
      refine ⟨_, rfl, (c106 hcp h6 k6 hne (by omega) (by omega)).use ?_⟩
      rintro _ w9 ⟨j, rfl, hj, h9, k9, l9⟩
      refine ⟨_, rfl, (c106 hcp h9 k9 hne (by omega) (by omega)).use ?_⟩
      rintro _ w12 ⟨k, rfl, hk, h12, k12, l12⟩
      exact ⟨_, rfl, rfl, i, j, k, rfl, by omega, by omega, by omega, h12, k12, (l6.trans l9).trans l12⟩
    · rintro _ w15 _ ⟨i, j, k, rfl, hi, hj, hk, h15, k15, l15⟩
      refine (c107 hcp h15 k15 hne (by omega) (by omega) (by omega)).use ?_
      rintro _ w19 ⟨x, rfl, hx, h19, k19, l19⟩
      exact ⟨_, rfl, rfl, x, rfl, by omega, h19, k19, l15.trans l19⟩
  · rintro _ w22 _ ⟨p, rfl, hp, h22, ⟨T, n, hn⟩, l22⟩
    refine ⟨n, by rw [cell_of hn]; rfl, IfB.intro (fun _ => ⟨p, 1, rfl, hp, h22, hx l22⟩) fun _ => IfB.intro (fun _ => ⟨p, 2, rfl, hp, h22, hx l22⟩) fun _ => ⟨p, 0, rfl, hp, h22, hx l22⟩⟩
structure Pt (a e : Nat) (xs ys : List El) (v : Int) (Lo : Int → Prop) (i j : Nat) : Prop where
  pi : PI a e xs ys
  len : e ≤ xs.length
  v : g ys a = v
  ai : a + 1 ≤ i
  ij : i ≤ j + 1
  je : j + 1 ≤ e
  lo : ∀ k, a < k → k < i → Lo (g ys k)
  hi : ∀ k, j < k → k < e → ¬ Lo (g ys k)
theorem Pt.up {a e i j : Nat} {xs ys : List El} {v : Int} {Lo : Int → Prop} (h : Pt a e xs ys v Lo i j) (hij : i ≤ j) (hl : Lo (g ys i)) : Pt a e xs ys v Lo (i + 1) j := by
  have h1 := h.ai
  refine ⟨h.pi, h.len, h.v, by omega, by omega, h.je, fun k h1 h2 => ?_, h.hi⟩
  by_cases hk : k = i
  · subst hk; exact hl
  · exact h.lo k h1 (by omega)
theorem Pt.dn {a e i j : Nat} {xs ys : List El} {v : Int} {Lo : Int → Prop} (h : Pt a e xs ys v Lo i j) (hij : i ≤ j) (hl : ¬ Lo (g ys j)) : Pt a e xs ys v Lo i (j - 1) := by
  have h1 := h.ai; have h2 := h.je
  refine ⟨h.pi, h.len, h.v, h1, by omega, by omega, h.lo, fun k h1 h2 => ?_⟩
  by_cases hk : k = j
  · subst hk; exact hl
  · exact h.hi k (by omega) h2
theorem Pt.sw {a e i j : Nat} {xs ys : List El} {v : Int} {Lo : Int → Prop} (h : Pt a e xs ys v Lo i j) (hij : i ≤ j) (h1 : ¬ Lo (g ys i)) (h2 : Lo (g ys j)) : Pt a e xs (swp ys i j) v Lo (i + 1) (j - 1) := by
  have hne : i ≠ j := fun e => h1 (e ▸ h2)
  have hl := h.pi.len; have h3 := h.len; have h4 := h.ai; have h5 := h.je
  refine ⟨.step h.pi (by omega) (by omega) (by omega) (by omega) (by omega), h3, ?_, by omega, by omega, by omega, fun k h6 h7 => ?_, fun k h6 h7 => ?_⟩
  · rw [g_swo (by omega) (by omega) (by omega) (by omega)]; exact h.v
  · by_cases hk : k = i
    · subst hk; rw [g_swl (by omega) (by omega)]; exact h2
    · rw [g_swo (by omega) (by omega) (by omega) (by omega)]; exact h.lo k h6 (by omega)
  · by_cases hk : k = j
    · subst hk; rw [g_swq (by omega) (by omega)]; exact h1
    · rw [g_swo (by omega) (by omega) (by omega) (by omega)]; exact h.hi k (by omega) h7
theorem upPart {cl : Nat × Array Value} (hcp : CmpP cl) {s : Sl} {b a e i j : Nat} {w : World} {xs ys : List El} {v : Int} {y : Int → World → Prop} (hP : Pt a e xs ys v (fun x => x < v) i j) (hA : Ar s b w.heap ys)
    (hy : ∀ (i' : Nat) (w' : World), Pt a e xs ys v (fun x => x < v) i' j → (j < i' ∨ ¬ g ys i' < v) → i ≤ i' → Ext w w' → y (i' : Int) w') :
    ∃ y14 : Nat → Int → World → Prop, (∃ b15, y14 b15 (i : Int) w) ∧ ∀ (b16 : Nat) (n17 : Int) (w18 : World) (_ : Nat → Value), y14 b16 n17 w18 → F82j6 s a cl ((0 : Int), (j : Int)) y y14 b16 n17 w18 := by
  refine ⟨fun n x W => ∃ i' : Nat, n = j + 1 - i' ∧ x = (i' : Int) ∧ i ≤ i' ∧ Pt a e xs ys v (fun x => x < v) i' j ∧ Ext w W, ⟨_, i, rfl, rfl, Nat.le_refl _, hP, Ch.refl _ _⟩, ?_⟩
  rintro _ _ W _ ⟨i', rfl, rfl, hii, hP', hW⟩
  have hl := hP'.pi.len; have h3 := hP'.len; have h4 := hP'.ai; have h5 := hP'.je; have h6 := hA.2.2.1
  have hd := hW.trans (extDrew W)
  refine IfB.dec (fun hle => ?_) (fun hgt => ⟨rfl, hy i' _ hP' (.inl (by omega)) hii hd⟩)
  have hle : i' ≤ j := by omega
  refine ls hcp (w := W.drew) (hA.ch hd id) (by omega) (by omega) (by omega) (by omega) (fun nn ww hn eC => have hd := hd.trans eC; decC hn (fun hl1 => ?_) (fun hl1 => ⟨rfl, hy i' _ hP' (.inr ?_) hii hd⟩))
  · rw [Int.toNat_natCast, Int.toNat_natCast, hP'.v] at hl1
    exact ⟨rfl, _, by omega, i' + 1, rfl, wp1 (by omega), by omega, hP'.up hle hl1, hd⟩
  · rw [Int.toNat_natCast, Int.toNat_natCast, hP'.v] at hl1; exact hl1
theorem dnPart {cl : Nat × Array Value} (hcp : CmpP cl) {s : Sl} {b a e i j : Nat} {w : World} {xs ys : List El} {v : Int} {y : Int → World → Prop} (hP : Pt a e xs ys v (fun x => x < v) i j) (hA : Ar s b w.heap ys)
    (hy : ∀ (j' : Nat) (w' : World), Pt a e xs ys v (fun x => x < v) i j' → (j' < i ∨ g ys j' < v) → j' ≤ j → Ext w w' → y (j' : Int) w') :
    ∃ y14 : Nat → Int → World → Prop, (∃ b15, y14 b15 (j : Int) w) ∧ ∀ (b16 : Nat) (n17 : Int) (w18 : World) (_ : Nat → Value), y14 b16 n17 w18 → F82j8 s a cl (i : Int) y y14 b16 n17 w18 := by
  refine ⟨fun n x W => ∃ j' : Nat, j' = n ∧ x = (j' : Int) ∧ j' ≤ j ∧ Pt a e xs ys v (fun x => x < v) i j' ∧ Ext w W, ⟨_, j, rfl, rfl, Nat.le_refl _, hP, Ch.refl _ _⟩, ?_⟩
  rintro _ _ W _ ⟨j', rfl, rfl, hjj, hP', hW⟩
  have hl := hP'.pi.len; have h3 := hP'.len; have h4 := hP'.ai; have h5 := hP'.je; have h6 := hA.2.2.1
  have hd := hW.trans (extDrew W)
  refine IfB.dec (fun hle => ?_) (fun hgt => ⟨rfl, hy j' _ hP' (.inl (by omega)) hjj hd⟩)
  have hle : i ≤ j' := by omega
  refine ls hcp (w := W.drew) (hA.ch hd id) (by omega) (by omega) (by omega) (by omega) (fun nn ww hn eC => have hd := hd.trans eC; introC hn (fun hl1 => ?_) (fun hl1 => ⟨rfl, hy j' _ hP' (.inr ?_) hjj hd⟩))
  · simp only [Int.toNat_natCast, hP'.v, Bool.not_eq_true', decide_eq_false_iff_not] at hl1
    exact ⟨rfl, j' - 1, by omega, j' - 1, rfl, wm1 (by omega) (by omega), by omega, hP'.dn hle hl1, hd⟩
  · simp only [Int.toNat_natCast, hP'.v, Bool.not_eq_false', decide_eq_true_eq] at hl1; exact hl1
theorem c82 {cl : Nat × Array Value} (hcp : CmpP cl) {s : Sl} {b : Nat} {w : World} {xs : List El} {a e p : Nat} (h : Ar s b w.heap xs) (he : e ≤ xs.length) (hp : a ≤ p ∧ p < e) :
    CW Try.prog 82 #[slV s, iv a, iv e, iv p, .func (.func cl.1) #[] cl.2] w fun v w' => ∃ (m : Nat) (t : Bool), v = .tuple #[iv m, .bool t] ∧ (a ≤ m ∧ m < e) ∧ ∃ ys, PI a e xs ys ∧ (∀ k, a ≤ k → k < m → g ys k < g ys m) ∧ (∀ k, m < k → k < e → g ys m ≤ g ys k) ∧ Ar s b w'.heap ys ∧ CB b w w' := by
  have hl := h.2.2.1
  refine F82_ok s a e p cl w _ ?_
  have hCd : CB b w w.drew := (extDrew w).mono fun _ _ h => h.elim
  refine sw (w := w.drew) h (by omega) (by omega) (by omega) (by omega) fun w12 h12 C12 => ?_
  rw [Int.toNat_natCast, Int.toNat_natCast] at h12
  have C12 := hCd.trans C12
  have hP0 : Pt a e xs (swp xs a p) (g (swp xs a p) a) (fun x => x < g (swp xs a p) a) (a + 1) (e - 1) :=
    ⟨.step .refl (by omega) (by omega) (by omega) (by omega) he, he, rfl, by omega, by omega, by omega, fun k h1 h2 => by omega, fun k h1 h2 => by omega⟩
  generalize swp xs a p = ys0 at hP0 h12
  generalize g ys0 a = v at hP0
  have fin : ∀ {ys : List El} {j : Nat} {W : World} {t : Bool}, Pt a e xs ys v (fun x => x < v) (j + 1) j → Ar s b W.heap ys → CB b w W →
      ∀ W2 : World, Ar s b W2.heap (swp ys j a) → CB b W W2 → ∃ (m : Nat) (t' : Bool), Value.tuple #[iv j, .bool t] = .tuple #[iv m, .bool t'] ∧ (a ≤ m ∧ m < e) ∧ ∃ ys, PI a e xs ys ∧ (∀ k, a ≤ k → k < m → g ys k < g ys m) ∧ (∀ k, m < k → k < e → g ys m ≤ g ys k) ∧ Ar s b W2.heap ys ∧ CB b w W2 := by
    intro ys j W t hP hA hC W2 hA2 hC2
    have hyl := hP.pi.len; have h4 := hP.ai; have h5 := hP.je
    have gj : g (swp ys j a) j = v := by rw [g_swl (by omega) (by omega)]; exact hP.v
    refine ⟨j, t, rfl, by omega, _, .step hP.pi (by omega) (by omega) (by omega) (by omega) (by omega), fun k h1 h2 => ?_, fun k h1 h2 => ?_, hA2, hC.trans hC2⟩
    · rw [gj]
      by_cases hk : k = a
      · subst hk; rw [g_swq (by omega) (by omega)]; exact hP.lo j (by omega) (by omega)
      · rw [g_swo (by omega) (by omega) (by omega) (by omega)]; exact hP.lo k (by omega) (by omega)
    · rw [gj, g_swo (by omega) (by omega) (by omega) (by omega)]
      have := hP.hi k h1 h2
      omega
  refine ⟨fun x W => ∃ i : Nat, x = (i : Int) ∧ Pt a e xs ys0 v (fun x => x < v) i (e - 1) ∧ (e - 1 < i ∨ ¬ g ys0 i < v) ∧ Ar s b W.heap ys0 ∧ CB b w W, ?_, ?_⟩
  · unfold F82j1
    rw [wp1 (by omega), wm1 (by omega) (by omega)]
    exact upPart hcp hP0 h12 fun i' w' h1 h2 _ h3 => ⟨i', rfl, h1, h2, h12.ch h3 id, C12.then h3 fun _ _ h => h.elim⟩
  rintro _ W _ ⟨i, rfl, hP, hi, hA, hC⟩
  refine ⟨fun x W' => ∃ j : Nat, x = (j : Int) ∧ Pt a e xs ys0 v (fun x => x < v) i j ∧ (j < i ∨ g ys0 j < v) ∧ (j < i ∨ ¬ g ys0 i < v) ∧ Ar s b W'.heap ys0 ∧ CB b w W', ?_, ?_⟩
  · unfold F82j3
    rw [wm1 (by omega) (by omega)]
    exact dnPart hcp hP hA fun j' w' h1 h2 h3 h4 => ⟨j', rfl, h1, h2, by omega, hA.ch h4 id, hC.then h4 fun _ _ h => h.elim⟩
  rintro _ W1 _ ⟨j, rfl, hP1, hj1, hj2, hA1, hC1⟩
  have hyl := hP1.pi.len; have h4 := hP1.ai; have h5 := hP1.je; have h6 := hP1.ij
  have hC1d : CB b w W1.drew := hC1.then (extDrew W1) fun _ _ h => h.elim
  unfold F82j4
  refine IfB.dec (fun hlt => ?_) (fun hge => ?_)
  · have hij : i = j + 1 := by omega
    subst hij
    refine sw (w := W1.drew) hA1 (by omega) (by omega) (by omega) (by omega) fun W2 h2 C2 => ?_
    rw [Int.toNat_natCast, Int.toNat_natCast] at h2
    exact fin (W := W1.drew) hP1 hA1 hC1d W2 h2 C2
  · have hij : i ≤ j := by omega
    refine sw (w := W1.drew) hA1 (by omega) (by omega) (by omega) (by omega) fun W2 h2 C2 => ?_
    rw [Int.toNat_natCast, Int.toNat_natCast] at h2
    have hP2 := hP1.sw hij (by omega) (by omega)
    have C2 := hC1d.trans C2
    refine ⟨fun n x W => ∃ (i j : Nat) (ys : List El), n = j + 1 - i ∧ x = ((i : Int), (j : Int)) ∧ Pt a e xs ys v (fun x => x < v) i j ∧ Ar s b W.heap ys ∧ CB b w W, ⟨_, i + 1, j - 1, _, rfl, by rw [wp1 (by omega), wm1 (by omega) (by omega)], hP2, h2, C2⟩, ?_⟩
    rintro _ _ W3 _ ⟨i3, j3, ys3, rfl, rfl, hP3, hA3, hC3⟩
    unfold F82j5
    refine ⟨fun x W => ∃ i : Nat, x = (i : Int) ∧ i3 ≤ i ∧ Pt a e xs ys3 v (fun x => x < v) i j3 ∧ (j3 < i ∨ ¬ g ys3 i < v) ∧ Ar s b W.heap ys3 ∧ CB b w W, ?_, ?_⟩
    · exact upPart hcp hP3 hA3 fun i' w' h1 h2 h3 h4 => ⟨i', rfl, h3, h1, h2, hA3.ch h4 id, hC3.then h4 fun _ _ h => h.elim⟩
    rintro _ W4 _ ⟨i4, rfl, hi34, hP4, hi4, hA4, hC4⟩
    refine ⟨fun x W' => ∃ j : Nat, x = (j : Int) ∧ j ≤ j3 ∧ Pt a e xs ys3 v (fun x => x < v) i4 j ∧ (j < i4 ∨ g ys3 j < v) ∧ (j < i4 ∨ ¬ g ys3 i4 < v) ∧ Ar s b W'.heap ys3 ∧ CB b w W', ?_, ?_⟩
    · exact dnPart hcp hP4 hA4 fun j' w' h1 h2 h3 h4 => ⟨j', rfl, h3, h1, h2, by omega, hA4.ch h4 id, hC4.then h4 fun _ _ h => h.elim⟩
    rintro _ W5 _ ⟨j5, rfl, hj5, hP5, hj51, hj52, hA5, hC5⟩
    have hyl := hP5.pi.len; have h4 := hP5.ai; have h5 := hP5.je; have h6 := hP5.ij
    have hC5d : CB b w W5.drew := hC5.then (extDrew W5) fun _ _ h => h.elim
    unfold F82j9
    refine IfB.dec (fun hlt => ?_) (fun hge => ?_)
    · have hij : i4 = j5 + 1 := by omega
      subst hij
      refine sw (w := W5.drew) hA5 (by omega) (by omega) (by omega) (by omega) fun W6 h6 C6 => ?_
      rw [Int.toNat_natCast, Int.toNat_natCast] at h6
      exact fin (W := W5.drew) hP5 hA5 hC5d W6 h6 C6
    · have hij : i4 ≤ j5 := by omega
      refine sw (w := W5.drew) hA5 (by omega) (by omega) (by omega) (by omega) fun W6 h6 C6 => ?_
      rw [Int.toNat_natCast, Int.toNat_natCast] at h6
      exact ⟨rfl, _, by omega, i4 + 1, j5 - 1, _, rfl, by rw [wp1 (by omega), wm1 (by omega) (by omega)], hP5.sw hij (by omega) (by omega), h6, hC5d.trans C6⟩
theorem c81 {cl : Nat × Array Value} (hcp : CmpP cl) {s : Sl} {b : Nat} {w : World} {xs : List El} {a e p : Nat} (h : Ar s b w.heap xs) (he : e ≤ xs.length) (hp : a ≤ p ∧ p < e) :
    CW Try.prog 81 #[slV s, iv a, iv e, iv p, .func (.func cl.1) #[] cl.2] w fun v w' => ∃ m : Nat, v = iv m ∧ (a < m ∧ m ≤ e) ∧ ∃ ys, PI a e xs ys ∧ g ys a = g xs p ∧ (∀ k, a ≤ k → k < m → ¬ g xs p < g ys k) ∧ (∀ k, m ≤ k → k < e → g xs p < g ys k) ∧ Ar s b w'.heap ys ∧ CB b w w' := by
  have hl := h.2.2.1
  refine F81_ok s a e p cl w _ ?_
  have hCd : CB b w w.drew := (extDrew w).mono fun _ _ h => h.elim
  refine sw (w := w.drew) h (by omega) (by omega) (by omega) (by omega) fun w12 h12 C12 => ?_
  rw [Int.toNat_natCast, Int.toNat_natCast] at h12
  have C12 := hCd.trans C12
  have hv : g (swp xs a p) a = g xs p := g_swl (by omega) (by omega)
  have hP0 : Pt a e xs (swp xs a p) (g xs p) (fun x => ¬ g xs p < x) (a + 1) (e - 1) :=
    ⟨.step .refl (by omega) (by omega) (by omega) (by omega) he, he, hv, by omega, by omega, by omega, fun k h1 h2 => by omega, fun k h1 h2 => by omega⟩
  generalize swp xs a p = ys0 at hP0 h12
  clear hv
  generalize g xs p = v at hP0
  refine ⟨fun n x W => ∃ (i j : Nat) (ys : List El), n = j + 1 - i ∧ x = ((i : Int), (j : Int)) ∧ Pt a e xs ys v (fun x => ¬ v < x) i j ∧ Ar s b W.heap ys ∧ CB b w W, ⟨_, a + 1, e - 1, _, rfl, by rw [wp1 (by omega), wm1 (by omega) (by omega)], hP0, h12, C12⟩, ?_⟩
  rintro _ _ W3 _ ⟨i3, j3, ys3, rfl, rfl, hP3, hA3, hC3⟩
  unfold F81j1
  refine ⟨fun x W => ∃ i : Nat, x = (i : Int) ∧ i3 ≤ i ∧ Pt a e xs ys3 v (fun x => ¬ v < x) i j3 ∧ (j3 < i ∨ v < g ys3 i) ∧ Ar s b W.heap ys3 ∧ CB b w W, ?_, ?_⟩
  · refine ⟨fun n x W => ∃ i : Nat, n = j3 + 1 - i ∧ x = (i : Int) ∧ i3 ≤ i ∧ Pt a e xs ys3 v (fun x => ¬ v < x) i j3 ∧ Ar s b W.heap ys3 ∧ CB b w W, ⟨_, i3, rfl, rfl, Nat.le_refl _, hP3, hA3, hC3⟩, ?_⟩
    rintro _ _ W _ ⟨i, rfl, rfl, hii, hP, hA, hC⟩
    have hyl := hP.pi.len; have h4 := hP.ai; have h5 := hP.je; have h6 := hP.ij
    have hd : CB b w W.drew := hC.then (extDrew W) fun _ _ h => h.elim
    unfold F81j2
    refine IfB.dec (fun hle => ?_) (fun hgt => ⟨rfl, i, rfl, hii, hP, .inl ?_, hA, hd⟩)
    · have hle : i ≤ j3 := by
        have : (i : Int) ≤ (j3 : Int) := hle
        omega
      refine ls hcp (w := W.drew) hA (by omega) (by omega) (by omega) (by omega) (fun nn ww hn eC => have hA := Ar.ch (w := W.drew) hA eC id; have hd := CBe hd eC; introC hn (fun hl1 => ?_) (fun hl1 => ⟨rfl, i, rfl, hii, hP, .inr ?_, hA, hd⟩))
      · simp only [Int.toNat_natCast, hP.v, Bool.not_eq_true', decide_eq_false_iff_not] at hl1
        exact ⟨rfl, _, by omega, i + 1, rfl, wp1 (by omega), by omega, hP.up hle hl1, hA, hd⟩
      · simp only [Int.toNat_natCast, hP.v, Bool.not_eq_false', decide_eq_true_eq] at hl1; exact hl1
    · have : ¬ (i : Int) ≤ (j3 : Int) := hgt
      omega
  rintro _ W4 _ ⟨i4, rfl, hi34, hP4, hi4, hA4, hC4⟩
  refine ⟨fun x W' => ∃ j : Nat, x = (j : Int) ∧ j ≤ j3 ∧ Pt a e xs ys3 v (fun x => ¬ v < x) i4 j ∧ (j < i4 ∨ ¬ v < g ys3 j) ∧ (j < i4 ∨ v < g ys3 i4) ∧ Ar s b W'.heap ys3 ∧ CB b w W', ?_, ?_⟩
  · refine ⟨fun n x W => ∃ j : Nat, j = n ∧ x = (j : Int) ∧ j ≤ j3 ∧ Pt a e xs ys3 v (fun x => ¬ v < x) i4 j ∧ (j < i4 ∨ v < g ys3 i4) ∧ Ar s b W.heap ys3 ∧ CB b w W, ⟨_, j3, rfl, rfl, Nat.le_refl _, hP4, by omega, hA4, hC4⟩, ?_⟩
    rintro _ _ W _ ⟨j, rfl, rfl, hjj, hP, hi, hA, hC⟩
    have hyl := hP.pi.len; have h4 := hP.ai; have h5 := hP.je; have h6 := hP.ij
    have hd : CB b w W.drew := hC.then (extDrew W) fun _ _ h => h.elim
    unfold F81j4
    refine IfB.dec (fun hle => ?_) (fun hgt => ⟨rfl, j, rfl, hjj, hP, .inl (by omega), hi, hA, hd⟩)
    have hle : i4 ≤ j := by omega
    refine ls hcp (w := W.drew) hA (by omega) (by omega) (by omega) (by omega) (fun nn ww hn eC => have hA := Ar.ch (w := W.drew) hA eC id; have hd := CBe hd eC; decC hn (fun hl1 => ?_) (fun hl1 => ⟨rfl, j, rfl, hjj, hP, .inr ?_, hi, hA, hd⟩))
    · rw [Int.toNat_natCast, Int.toNat_natCast, hP.v] at hl1
      exact ⟨rfl, j - 1, by omega, j - 1, rfl, wm1 (by omega) (by omega), by omega, hP.dn hle (by omega), by omega, hA, hd⟩
    · rw [Int.toNat_natCast, Int.toNat_natCast, hP.v] at hl1; exact hl1
  rintro _ W5 _ ⟨j5, rfl, hj5, hP5, hj51, hj52, hA5, hC5⟩
  have hyl := hP5.pi.len; have h4 := hP5.ai; have h5 := hP5.je; have h6 := hP5.ij
  have hC5d : CB b w W5.drew := hC5.then (extDrew W5) fun _ _ h => h.elim
  unfold F81j5
  refine IfB.dec (fun hlt => ?_) (fun hge => ?_)
  · refine ⟨i4, rfl, by omega, ys3, hP5.pi, hP5.v, fun k h1 h2 => ?_, fun k h1 h2 => ?_, hA5, hC5⟩
    · by_cases hk : k = a
      · subst hk; rw [hP5.v]; omega
      · exact hP5.lo k (by omega) h2
    · have := hP5.hi k (by omega) h2
      omega
  · have hij : i4 ≤ j5 := by omega
    refine sw (w := W5.drew) hA5 (by omega) (by omega) (by omega) (by omega) fun W6 h6 C6 => ?_
    rw [Int.toNat_natCast, Int.toNat_natCast] at h6
    exact ⟨rfl, _, by omega, i4 + 1, j5 - 1, _, rfl, by rw [wp1 (by omega), wm1 (by omega) (by omega)], hP5.sw hij (by omega) (by omega), h6, hC5d.trans C6⟩
theorem c80 {cl : Nat × Array Value} (hcp : CmpP cl) {s : Sl} {b : Nat} {w : World} {xs : List El} {a e : Nat} (h : Ar s b w.heap xs) (he : e ≤ xs.length) (ha : a < e) (hb : 0 < a → ∀ k, a ≤ k → k < e → g xs (a - 1) ≤ g xs k) :
    CW Try.prog 80 #[slV s, iv a, iv e, .func (.func cl.1) #[] cl.2] w fun v w' => ∃ t, v = .bool t ∧ ∃ ys, PI a e xs ys ∧ (t = true → SO ys a e) ∧ Ar s b w'.heap ys ∧ CB b w w' := by
  have hl := h.2.2.1
  have lb : ∀ {ys}, PI a e xs ys → 0 < a → ∀ k, a ≤ k → k < e → g ys (a - 1) ≤ g ys k := fun {ys} hP h0 k h1 h2 => by
    rw [hP.out (.inl (by omega))]
    exact hP.all (Q := fun v => g xs (a - 1) ≤ v) (fun i h3 h4 => hb h0 i h3 h4) k h1 h2
  refine F80_ok s a e cl w _ ⟨fun n x W => ∃ (i j : Nat) (ys : List El), n = 5 - j ∧ x = ((i : Int), (j : Int)) ∧ j ≤ 5 ∧ (a + 1 ≤ i ∧ i ≤ e) ∧ PI a e xs ys ∧ SO ys a i ∧ Ar s b W.heap ys ∧ CB b w W, ⟨_, a + 1, 0, xs, rfl, by rw [wp1 (by omega)]; rfl, by omega, by omega, .refl, fun p q _ _ _ => by omega, h, Ch.refl _ _⟩, ?_⟩
  rintro _ _ W _ ⟨i0, j0, ys, rfl, rfl, hj0, hi0, hP, hS0, hA, hC⟩
  have hyl := hP.len
  refine IfB.dec (fun hlt => ?_) (fun hge => ⟨false, rfl, ys, hP, (fun h => by cases h), hA, hC⟩)
  have hj5 : j0 < 5 := by
    have : (j0 : Int) < 5 := hlt
    omega
  refine ⟨fun x W => ∃ i : Nat, x = (i : Int) ∧ (a + 1 ≤ i ∧ i ≤ e) ∧ SO ys a i ∧ Ar s b W.heap ys ∧ CB b w W, ?_, ?_⟩
  · refine ⟨fun n x W => ∃ i : Nat, n = e - i ∧ x = (i : Int) ∧ (a + 1 ≤ i ∧ i ≤ e) ∧ SO ys a i ∧ Ar s b W.heap ys ∧ CB b w W, ⟨_, i0, rfl, rfl, hi0, hS0, hA, hC⟩, ?_⟩
    rintro _ _ W1 _ ⟨i, rfl, rfl, hi, hS, hA1, hC1⟩
    unfold F80j2
    refine IfB.dec (fun hlt => ?_) (fun hge => ⟨rfl, i, rfl, hi, hS, hA1, hC1.drew⟩)
    rw [wm1 (by omega) (by omega)]
    refine ls hcp (w := W1.drew) hA1 (by omega) (by omega) (by omega) (by omega) (fun nn ww hn eC => have hA1 := Ar.ch (w := W1.drew) hA1 eC id; have hC1 := CBe (CB.drew hC1) eC; introC hn (fun hl1 => ?_) (fun hl1 => ⟨rfl, i, rfl, hi, hS, hA1, hC1⟩))
    simp only [Int.toNat_natCast, Bool.not_eq_true', decide_eq_false_iff_not] at hl1
    refine ⟨rfl, _, by omega, i + 1, rfl, wp1 (by omega), by omega, fun p q h1 h2 h3 => ?_, hA1, hC1⟩
    by_cases hq : q = i
    · subst hq
      by_cases hp : p = q - 1
      · subst hp; omega
      · have := hS p (q - 1) h1 (by omega) (by omega)
        omega
    · exact hS p q h1 h2 (by omega)
  rintro _ W2 _ ⟨i, rfl, hi, hS, hA2, hC2⟩
  unfold F80j3
  refine IfB.intro (fun hi3 => ?_) (fun hi3 => ?_)
  · have hi3 : (i : Int) = (e : Int) := by simpa using hi3
    have : i = e := by omega
    subst this
    exact ⟨true, rfl, ys, hP, fun _ => hS, hA2, hC2⟩
  have hie : i < e := by
    have : (i : Int) ≠ (e : Int) := by simpa using hi3
    omega
  rw [wsb (by omega) (by omega)]
  refine @IfB.dec (((e - a : Nat) : Int) < (50 : Int)) _ _ _ (fun _ => ⟨false, rfl, ys, hP, (fun h => by cases h), hA2, hC2⟩) (fun _ => ?_)
  rw [wm1 (by omega) (by omega)]
  refine sw (w := W2.drew) hA2 (by omega) (by omega) (by omega) (by omega) fun W3 hA3 hC3 => ?_
  rw [Int.toNat_natCast, Int.toNat_natCast] at hA3
  have hP3 : PI a e xs (swp ys i (i - 1)) := .step hP (by omega) (by omega) (by omega) (by omega) (by omega)
  have hC3 := (CB.drew hC2).trans hC3
  rw [wsb (by omega) (by omega)]
  refine ⟨fun _ W => ∃ zs, PI a e xs zs ∧ SO zs a i ∧ Ar s b W.heap zs ∧ CB b w W, ?_, ?_⟩
  · refine IfB.dec (fun h2 => ?_) (fun h2 => ⟨rfl, _, hP3, fun p q _ _ _ => by omega, hA3, hC3⟩)
    refine ⟨fun n x W => ∃ (j : Nat) (zs : List El), j = n ∧ x = (j : Int) ∧ (a ≤ j ∧ j ≤ i - 1) ∧ PI a e xs zs ∧ (∀ p q, a ≤ p → p < q → q < i → q ≠ j → g zs p ≤ g zs q) ∧ Ar s b W.heap zs ∧ CB b w W, ⟨_, i - 1, _, rfl, rfl, by omega, hP3, fun p q h1 h2 h3 h4 => ?_, hA3, hC3⟩, ?_⟩
    · rw [g_swo (by omega) (by omega) (by omega) (by omega), g_swo (by omega) (by omega) (by omega) (by omega)]
      exact hS p q h1 h2 h3
    rintro _ _ W4 _ ⟨j, zs, rfl, rfl, hj, hP4, hS4, hA4, hC4⟩
    have hzl := hP4.len
    unfold F80j4
    refine IfB.dec (fun hj1 => ?_) (fun hj1 => ⟨rfl, zs, hP4, fun p q h1 h2 h3 => hS4 p q h1 h2 h3 (by omega), hA4, hC4⟩)
    rw [wm1 (by omega) (by omega)]
    refine ls hcp (w := W4.drew) hA4 (by omega) (by omega) (by omega) (by omega) (fun nn ww hn eC => have hA4 := Ar.ch (w := W4.drew) hA4 eC id; have hC4 := CBe (CB.drew hC4) eC; introC hn (fun hl1 => ?_) (fun hl1 => ?_))
    · simp only [Int.toNat_natCast, Bool.not_eq_true', decide_eq_false_iff_not] at hl1
      refine ⟨rfl, zs, hP4, fun p q h1 h2 h3 => ?_, hA4, hC4⟩
      by_cases hq : q = j
      · subst hq
        by_cases hp : p = q - 1
        · subst hp; omega
        · have := hS4 p (q - 1) h1 (by omega) (by omega) (by omega)
          omega
      · exact hS4 p q h1 h2 h3 hq
    · simp only [Int.toNat_natCast, Bool.not_eq_false', decide_eq_true_eq] at hl1
      have haj : a < j := by
        rcases Nat.lt_or_ge a j with h | h
        · exact h
        · have : a = j := by omega
          subst this
          have := lb hP4 (by omega) a (Nat.le_refl _) (by omega)
          omega
      refine sw (w := ww.drew) hA4 (by omega) (by omega) (by omega) (by omega) fun W5 hA5 hC5 => ?_
      rw [Int.toNat_natCast, Int.toNat_natCast] at hA5
      refine ⟨rfl, j - 1, by omega, j - 1, _, rfl, rfl, by omega, .step hP4 (by omega) (by omega) (by omega) (by omega) (by omega), fun p q h1 h2 h3 h4 => ?_, hA5, (CB.drew hC4).trans hC5⟩
      rw [g_swp (by omega) (by omega), g_swp (by omega) (by omega)]
      have A1 := hS4 p (j - 1) h1
      have A2 := hS4 p q h1 h2 h3
      have A3 := hS4 j q (by omega)
      have A4 := hS4 (j - 1) q (by omega)
      split <;> split <;> (try split) <;> (try split) <;> first | omega | skip
  rintro _ W6 _ ⟨zs, hP6, hS6, hA6, hC6⟩
  have hzl := hP6.len
  have next : ∀ {us : List El} {W : World}, PI a e xs us → SO us a i → Ar s b W.heap us → CB b w W → ([] : List Nat) = [] ∧ ∃ b112, b112 < 5 - j0 ∧ ∃ (i' j' : Nat) (ys : List El), b112 = 5 - j' ∧ ((i : Int), IntKind.i64.wrap ((j0 : Int) + (1 : Int))) = ((i' : Int), (j' : Int)) ∧ j' ≤ 5 ∧ (a + 1 ≤ i' ∧ i' ≤ e) ∧ PI a e xs ys ∧ SO ys a i' ∧ Ar s b W.heap ys ∧ CB b w W :=
    fun h1 h2 h3 h4 => ⟨rfl, 5 - (j0 + 1), by omega, i, j0 + 1, _, rfl, by rw [wp1 (by omega)], by omega, by omega, h1, h2, h3, h4⟩
  unfold F80j5
  refine ⟨fun t W => W = W6, ⟨rfl, rfl⟩, ?_⟩
  rintro t _ _ rfl
  refine IfB.intro (fun _ => ?_) (fun _ => next hP6 hS6 hA6 hC6)
  refine ⟨fun n x W => ∃ (j : Nat) (us : List El), n = e - j ∧ x = (j : Int) ∧ (i + 1 ≤ j ∧ j ≤ e) ∧ PI a e xs us ∧ SO us a i ∧ Ar s b W.heap us ∧ CB b w W, ⟨_, i + 1, zs, rfl, wp1 (by omega), by omega, hP6, hS6, hA6, hC6⟩, ?_⟩
  rintro _ _ W7 _ ⟨j, us, rfl, rfl, hj, hP7, hS7, hA7, hC7⟩
  have hul := hP7.len
  unfold F80j7
  refine IfB.dec (fun hlt => ?_) (fun _ => next hP7 hS7 hA7 hC7)
  rw [wm1 (by omega) (by omega)]
  refine ls hcp (w := W7.drew) hA7 (by omega) (by omega) (by omega) (by omega) (fun nn ww hn eC => have hA7 := Ar.ch (w := W7.drew) hA7 eC id; have hC7 := CBe (CB.drew hC7) eC; introC hn (fun _ => next hP7 hS7 hA7 hC7) (fun _ => ?_))
  refine sw (w := ww.drew) hA7 (by omega) (by omega) (by omega) (by omega) fun W8 hA8 hC8 => ?_
  rw [Int.toNat_natCast, Int.toNat_natCast] at hA8
  refine ⟨rfl, _, by omega, j + 1, _, rfl, wp1 (by omega), by omega, .step hP7 (by omega) (by omega) (by omega) (by omega) (by omega), fun p q h1 h2 h3 => ?_, hA8, (CB.drew hC7).trans hC8⟩
  rw [g_swo (by omega) (by omega) (by omega) (by omega), g_swo (by omega) (by omega) (by omega) (by omega)]
  exact hS7 p q h1 h2 h3
theorem c77 {cl : Nat × Array Value} (hcp : CmpP cl) {s : Sl} {b : Nat} {w : World} {xs : List El} {a e : Nat} (h : Ar s b w.heap xs) (he : e ≤ xs.length) (ha : a + 12 < e) :
    CW Try.prog 77 #[slV s, iv a, iv e, .func (.func cl.1) #[] cl.2] w fun v w' => v = .tuple #[] ∧ ∃ ys, PI a e xs ys ∧ Ar s b w'.heap ys ∧ CB b w w' := by
  have hl := h.2.2.1
  have hlt := h.lt
  refine F77_ok s a e cl w _ ?_
  unfold F77
  rw [wsb (by omega) (by omega)]
  refine IfB.yes (decide_eq_true (by omega)) ?_
  intro b1 w2 h2
  have p2 := h2.here; have z2 := h2.size
  rw [wu64 (by omega)]
  refine ⟨rfl, store_all h2.new rfl (by intro u hu; simp at hu; subst hu; rfl) fun w3 h3 => ?_⟩
  have e3 : Ext w w3 := Ext.fresh h2 h3
  have hne : b1 ≠ b := by omega
  refine (c104 (x := e - a) (by omega) w3).use ?_
  rintro _ _ ⟨L, rfl, hL, rfl⟩
  have hq : IntKind.i64.wrap ((((e - a : Nat) : Int)).tdiv (4 : Int)) = (((e - a) / 4 : Nat) : Int) := by
    rw [Int.tdiv_eq_ediv_of_nonneg (by omega), wrap_of (by omega) (by omega)]; omega
  obtain ⟨hL1, hL2, hL3⟩ := hL
  obtain ⟨hL4, hL5⟩ := hL2 (by omega)
  have h2L : 2 ^ L ≤ 2 * (e - a) := by
    have : 2 ^ L = 2 ^ (L - 1) * 2 := by rw [← Nat.pow_succ]; congr 1; omega
    omega
  have hLpos : 0 < 2 ^ L := Nat.pow_pos (by decide)
  generalize 2 ^ L = M at *
  rw [hq, wmul (k := (2 : Int)) (m := 2) rfl (by omega) (by omega), wad (by omega), wm1 (by omega) (by omega)]
  generalize hqq : (e - a) / 4 = q at *
  refine ⟨_, rfl, by decide, fun n x W => ∃ (i : Nat) (ys : List El), n = a + q * 2 + 2 - i ∧ x = (i : Int) ∧ (a + q * 2 - 1 ≤ i ∧ i ≤ a + q * 2 + 2) ∧ PI a e xs ys ∧ Ar s b W.heap ys ∧ Ct .u64 b1 W ∧ CB b w W, ⟨_, _, xs, rfl, rfl, by omega, .refl, h.ch e3 id, ⟨_, _, h3.new⟩, e3.mono fun _ _ h => h.elim⟩, ?_⟩
  rintro _ _ W _ ⟨i, ys, rfl, rfl, hi, hP, hA, hK, hC⟩
  have hyl := hP.len
  unfold F77j1
  rw [wsb (by omega) (by omega), hq, wmul (k := (2 : Int)) (m := 2) rfl (by omega) (by omega), wad (by omega), wp1 (by omega)]
  refine ⟨by decide, IfB.dec (fun hle => ?_) (fun hgt => ⟨rfl, ys, hP, hA, hC⟩)⟩
  refine (c105 hK).use ?_
  rintro _ w15 ⟨n16, rfl, hK2, hC2⟩
  have hA2 := hA.ch hC2 (Ne.symm hne)
  have hC3 : CB b w w15 := hC.then hC2 fun j hj h => by omega
  have hm : IntKind.u64.wrap ((M : Int) - (1 : Int)) = ((M - 1 : Nat) : Int) := by
    rw [show ((M : Int) - (1 : Int)) = ((M - 1 : Nat) : Int) by omega, wu64 (by omega)]
  obtain ⟨k, hk, hkM⟩ := and_le (n := n16) (m := M - 1) (by omega)
  refine ⟨n16, rfl, fun x W => ∃ t : Nat, x = (t : Int) ∧ t < e - a ∧ w15 = W, ?_, ?_⟩
  · rw [hm, hk, wrap_of (n := (k : Int)) (by omega) (by omega)]
    refine IfB.dec (fun h1 => ⟨rfl, k - (e - a), wsb (by omega) (by omega), by omega, rfl⟩) (fun h1 => ⟨rfl, k, rfl, by omega, rfl⟩)
  rintro _ _ _ ⟨t, rfl, ht, rfl⟩
  unfold F77j2
  rw [wad (by omega)]
  refine sw (w := w15.drew) hA2 (by omega) (by omega) (by omega) (by omega) fun W5 hA5 hC5 => ?_
  rw [Int.toNat_natCast, Int.toNat_natCast] at hA5
  exact ⟨rfl, _, by omega, i + 1, _, rfl, wp1 (by omega), by omega, .step hP (by omega) (by omega) (by omega) (by omega) (by omega), hA5, by
    obtain ⟨T, n, hn⟩ := hK2
    exact ⟨T, n, hC5.at (w := w15.drew) hn hne⟩, hC3.drew.trans hC5⟩
theorem SO.split {ys : List El} {a m e : Nat} (h1 : SO ys a m) (h2 : SO ys (m + 1) e) (hl : ∀ k, a ≤ k → k < m → g ys k ≤ g ys m) (hr : ∀ k, m < k → k < e → g ys m ≤ g ys k) : SO ys a e := by
  intro p q hp hpq hq
  rcases Nat.lt_trichotomy p m with h | h | h
  · rcases Nat.lt_trichotomy q m with k | k | k
    · exact h1 p q hp hpq k
    · subst k; exact hl p hp h
    · have := hl p hp h; have := hr q k hq; omega
  · subst h; exact hr q hpq hq
  · exact h2 p q (by omega) hpq hq
theorem PI.trans' {a b a' b' : Nat} {xs ys zs : List El} (h : PI a b xs ys) (k : PI a' b' ys zs) (h1 : a ≤ a') (h2 : b' ≤ b) (h3 : b ≤ xs.length) : PI a b xs zs :=
  h.trans (k.mono h1 h2 (by rw [h.len]; exact h3))
/-- Nothing of [a, e) is less than what stands ahead of a. -/
def LB (xs : List El) (a e : Nat) : Prop := 0 < a → ∀ k, a ≤ k → k < e → g xs (a - 1) ≤ g xs k
theorem LB.pi {xs ys : List El} {a e : Nat} (h : LB xs a e) (hP : PI a e xs ys) : LB ys a e := fun h0 k h1 h2 => by
  rw [hP.out (.inl (by omega))]
  exact hP.all (Q := fun v => g xs (a - 1) ≤ v) (fun i h3 h4 => h h0 i h3 h4) k h1 h2
/-- Parted at m. -/
def Pd (ys : List El) (a m e : Nat) : Prop := (∀ k, a ≤ k → k < m → g ys k ≤ g ys m) ∧ (∀ k, m < k → k < e → g ys m ≤ g ys k)
theorem Pd.left {ys zs : List El} {a m e : Nat} (h : Pd ys a m e) (hP : PI a m ys zs) : Pd zs a m e := by
  have em : g zs m = g ys m := hP.out (.inr (Nat.le_refl _))
  refine ⟨fun k h1 h2 => ?_, fun k h1 h2 => ?_⟩
  · rw [em]; exact hP.all (Q := fun v => v ≤ g ys m) (fun i h3 h4 => h.1 i h3 h4) k h1 h2
  · rw [em, hP.out (.inr (by omega))]; exact h.2 k h1 h2
theorem Pd.right {ys zs : List El} {a m e : Nat} (h : Pd ys a m e) (hP : PI (m + 1) e ys zs) : Pd zs a m e := by
  have em : g zs m = g ys m := hP.out (.inl (by omega))
  refine ⟨fun k h1 h2 => ?_, fun k h1 h2 => ?_⟩
  · rw [em, hP.out (.inl (by omega))]; exact h.1 k h1 h2
  · rw [em]; exact hP.all (Q := fun v => g ys m ≤ v) (fun i h3 h4 => h.2 i (by omega) h4) k (by omega) h2
theorem SO.keep {ys zs : List El} {a e a' e' : Nat} (h : SO ys a e) (hP : PI a' e' ys zs) (hd : e ≤ a' ∨ e' ≤ a) : SO zs a e := by
  intro p q h1 h2 h3
  rw [hP.out (by omega), hP.out (by omega)]
  exact h p q h1 h2 h3
theorem c61 {cl : Nat × Array Value} (hcp : CmpP cl) (n : Nat) : ∀ {s : Sl} {b : Nat} {w : World} {xs : List El} {a e : Nat} (lim : Int), e - a = n → Ar s b w.heap xs → e ≤ xs.length → a ≤ e → LB xs a e →
    CW Try.prog 61 #[slV s, iv a, iv e, iv lim, .func (.func cl.1) #[] cl.2] w fun v w' => v = .tuple #[] ∧ ∃ ys, PI a e xs ys ∧ SO ys a e ∧ Ar s b w'.heap ys ∧ CB b w w' := by
  induction n using Nat.strongRecOn with
  | _ n ih =>
  intro s b w xs a e lim hn h he hae hLB
  have hl := h.2.2.1
  refine F61_ok s a e lim cl w _ ⟨fun k x W => ∃ (a' e' : Nat) (lm : Int) (wb wp : Bool) (ys : List El), k = e' - a' ∧ x = ((a' : Int), (e' : Int), lm, wb, wp) ∧ (a ≤ a' ∧ a' ≤ e' ∧ e' ≤ e) ∧ PI a e xs ys ∧ LB ys a' e' ∧
    (∀ zs, PI a' e' ys zs → SO zs a' e' → SO zs a e) ∧ Ar s b W.heap ys ∧ CB b w W, ⟨_, a, e, lim, true, true, xs, rfl, rfl, by omega, .refl, hLB, fun _ _ h => h, h, Ch.refl _ _⟩, ?_⟩
  rintro _ _ W _ ⟨a', e', lm, wb, wp, ys, rfl, rfl, hae', hP, hB, hG, hA, hC⟩
  have hyl := hP.len
  have up : ∀ {zs}, PI a' e' ys zs → PI a e xs zs := fun k => hP.trans' k (by omega) (by omega) he
  unfold F61j1
  dsimp only
  rw [wsb (by omega) (by omega)]
  refine IfB.dec (fun h12 => ?_) (fun h12 => ?_)
  · refine (c75 hcp hA (by omega) (by omega)).use ?_
    rintro _ W2 ⟨rfl, zs, hP2, hS2, hA2, hC2⟩
    exact ⟨(), rfl, rfl, zs, up hP2, hG zs hP2 hS2, hA2, hC.trans hC2⟩
  have hbig : a' + 12 < e' := by omega
  refine IfB.intro (fun _ => ?_) (fun _ => ?_)
  · refine (c76 hcp hA (by omega) (by omega)).use ?_
    rintro _ W2 ⟨rfl, zs, hP2, hS2, hA2, hC2⟩
    exact ⟨(), rfl, rfl, zs, up hP2, hG zs hP2 hS2, hA2, hC.trans hC2⟩
  refine ⟨fun _ W => ∃ zs, PI a' e' ys zs ∧ Ar s b W.heap zs ∧ CB b w W, ?_, ?_⟩
  · refine IfB.intro (fun _ => ?_) (fun _ => ⟨rfl, ys, .refl, hA, hC⟩)
    refine (c77 hcp hA (by omega) hbig).use ?_
    rintro _ W2 ⟨rfl, zs, hP2, hA2, hC2⟩
    exact ⟨(), rfl, rfl, zs, hP2, hA2, hC.trans hC2⟩
  rintro lm2 W2 _ ⟨zs, hP2, hA2, hC2⟩
  have hzl := hP2.len
  unfold F61j2
  dsimp only
  refine (c78 hcp hA2 (by omega) hbig).use ?_
  rintro _ W3 ⟨p, t, rfl, hp, hA3, e3⟩
  have hC3 : CB b w W3 := hC2.then e3 fun _ _ h => h.elim
  refine ⟨((p : Int), t), rfl, fun x W => ∃ (p : Nat) (us : List El), x.1 = (p : Int) ∧ (a' ≤ p ∧ p < e') ∧ PI a' e' ys us ∧ Ar s b W.heap us ∧ CB b w W, ?_, ?_⟩
  · refine IfB.intro (fun _ => ?_) (fun _ => ⟨rfl, p, zs, rfl, hp, hP2, hA3, hC3⟩)
    refine (c79 hcp hA3 (by omega) (by omega)).use ?_
    rintro _ W4 ⟨rfl, us, hP4, hA4, hC4⟩
    refine ⟨(), rfl, rfl, e' - 1 - (p - a'), us, ?_, by omega, hP2.trans hP4, hA4, hC3.trans hC4⟩
    show IntKind.i64.wrap (IntKind.i64.wrap ((e' : Int) - 1) - IntKind.i64.wrap ((p : Int) - (a' : Int))) = _
    rw [wm1 (by omega) (by omega), wsb (by omega) (by omega), wsb (by omega) (by omega)]
  rintro ⟨_, t2⟩ W5 _ ⟨p, us, rfl, hp, hP5, hA5, hC5⟩
  have hul := hP5.len
  unfold F61j3
  dsimp only
  refine ⟨fun _ W => ∃ us, PI a' e' ys us ∧ Ar s b W.heap us ∧ CB b w W, ?_, ?_⟩
  · refine IfB.intro (fun _ => IfB.intro (fun _ => IfB.intro (fun _ => ?_) (fun _ => ⟨rfl, us, hP5, hA5, hC5⟩)) (fun _ => ⟨rfl, us, hP5, hA5, hC5⟩)) (fun _ => ⟨rfl, us, hP5, hA5, hC5⟩)
    refine (c80 hcp hA5 (by omega) (by omega) (hB.pi hP5)).use ?_
    rintro _ W6 ⟨t, rfl, vs, hP6, hS6, hA6, hC6⟩
    exact ⟨t, rfl, IfB.intro (fun ht => ⟨rfl, vs, up (hP5.trans hP6), hG vs (hP5.trans hP6) (hS6 ht), hA6, hC5.trans hC6⟩) (fun _ => ⟨rfl, vs, hP5.trans hP6, hA6, hC5.trans hC6⟩)⟩
  rintro _ W7 _ ⟨us, hP7, hA7, hC7⟩
  have hul := hP7.len
  have hB7 := hB.pi hP7
  have hG7 : ∀ zs, PI a' e' us zs → SO zs a' e' → SO zs a e := fun zs k => hG zs (hP7.trans k)
  have part : ∀ {W8 : World}, Ar s b W8.heap us → CB b w W8 → CX Try.prog 82 #[slV s, iv a', iv e', iv p, .func (.func cl.1) #[] cl.2] W8 fun v65 w66 => ∃ x67 : Int × Bool, v65 = .tuple #[.int .i64 x67.1, .bool x67.2] ∧ ¬(8 : Int) = 0 ∧
      IfB (decide (IntKind.i64.wrap (x67.fst - (a' : Int)) < IntKind.i64.wrap ((e' : Int) - x67.fst))) (F61k2 s ((a' : Int), (e' : Int), lm, wb, wp) x67 lm2 cl w66 (e' - a') (fun k x W => ∃ (a' e' : Nat) (lm : Int) (wb wp : Bool) (ys : List El), k = e' - a' ∧ x = ((a' : Int), (e' : Int), lm, wb, wp) ∧ (a ≤ a' ∧ a' ≤ e' ∧ e' ≤ e) ∧ PI a e xs ys ∧ LB ys a' e' ∧
    (∀ zs, PI a' e' ys zs → SO zs a' e' → SO zs a e) ∧ Ar s b W.heap ys ∧ CB b w W))
       (F61k1 s x67 ((a' : Int), (e' : Int), lm, wb, wp) lm2 cl w66 (e' - a') (fun k x W => ∃ (a' e' : Nat) (lm : Int) (wb wp : Bool) (ys : List El), k = e' - a' ∧ x = ((a' : Int), (e' : Int), lm, wb, wp) ∧ (a ≤ a' ∧ a' ≤ e' ∧ e' ≤ e) ∧ PI a e xs ys ∧ LB ys a' e' ∧
    (∀ zs, PI a' e' ys zs → SO zs a' e' → SO zs a e) ∧ Ar s b W.heap ys ∧ CB b w W)) := by
    intro W8 hA8 hC8
    refine (c82 hcp hA8 (by omega) hp).use ?_
    rintro _ W9 ⟨m, t, rfl, hm, vs, hP9, h1, h2, hA9, hC9⟩
    have hvl := hP9.len
    have hPd : Pd vs a' m e' := ⟨fun k h3 h4 => Int.le_of_lt (h1 k h3 h4), h2⟩
    have hB9 := hB7.pi hP9
    have hC9 := hC8.trans hC9
    refine ⟨((m : Int), t), rfl, by decide, IfB.intro (fun _ => ?_) (fun _ => ?_)⟩
    · unfold F61k2
      refine (ih (m - a') (by omega) lm2 rfl hA9 (by omega) (by omega) fun h0 k h3 h4 => hB9 h0 k h3 (by omega)).use ?_
      rintro _ W10 ⟨rfl, ts, hP10, hS10, hA10, hC10⟩
      have hPd2 := hPd.left hP10
      refine ⟨(), rfl, rfl, e' - (m + 1), by omega, m + 1, e', _, _, _, ts, rfl, by rw [wp1 (by omega)], by omega, hP.trans' (hP7.trans (hP9.trans' hP10 (by omega) (by omega) (by omega))) (by omega) (by omega) he, fun _ k h3 h4 => hPd2.2 k (by omega) h4, fun zs hz hSz => ?_, hA10, hC9.trans hC10⟩
      have hPz : PI a' e' us zs := (hP9.trans' hP10 (by omega) (by omega) (by omega)).trans' hz (by omega) (by omega) (by omega)
      have hPd3 := hPd2.right hz
      exact hG7 zs hPz ((hS10.keep hz (.inl (by omega))).split hSz hPd3.1 hPd3.2)
    · unfold F61k1
      dsimp only
      rw [wp1 (by omega)]
      refine (ih (e' - (m + 1)) (by omega) lm2 rfl hA9 (by omega) (by omega) fun h0 k h3 h4 => hPd.2 k (by omega) h4).use ?_
      rintro _ W10 ⟨rfl, ts, hP10, hS10, hA10, hC10⟩
      have hPd2 := hPd.right hP10
      have hB10 : LB ts a' m := fun h0 k h3 h4 => by
        rw [hP10.out (.inl (by omega)), hP10.out (.inl (by omega))]
        exact hB9 h0 k h3 (by omega)
      refine ⟨(), rfl, rfl, m - a', by omega, a', m, _, _, _, ts, rfl, rfl, by omega, hP.trans' (hP7.trans (hP9.trans' hP10 (by omega) (by omega) (by omega))) (by omega) (by omega) he, hB10, fun zs hz hSz => ?_, hA10, hC9.trans hC10⟩
      have hPz : PI a' e' us zs := (hP9.trans' hP10 (by omega) (by omega) (by omega)).trans' hz (by omega) (by omega) (by omega)
      have hPd3 := hPd2.left hz
      exact hG7 zs hPz (hSz.split (hS10.keep hz (.inr (by omega))) hPd3.1 hPd3.2)
  unfold F61j4
  dsimp only
  refine IfB.dec (fun h0 => ?_) (fun h0 => part (W8 := W7.drew) hA7 hC7.drew)
  have h0 : 0 < a' := by omega
  rw [wm1 (by omega) (by omega)]
  refine ls hcp (w := W7.drew) hA7 (by omega) (by omega) (by omega) (by omega) (fun nn ww hn eC => have hA7 := Ar.ch (w := W7.drew) hA7 eC id; have hC7 := CBe (CB.drew hC7) eC; introC hn (fun hl1 => ?_) (fun _ => part hA7 hC7))
  simp only [Int.toNat_natCast, Bool.not_eq_true', decide_eq_false_iff_not] at hl1
  refine (c81 hcp (w := ww) hA7 (by omega) hp).use ?_
  rintro _ W8 ⟨m, rfl, hm, vs, hP8, hv, h1, h2, hA8, hC8⟩
  have hvl := hP8.len
  have hB8 := hB7.pi hP8
  have ho : g vs (a' - 1) = g us (a' - 1) := hP8.out (.inl (by omega))
  have hv1 : ∀ k, a' ≤ k → k < m → g vs k = g us p := fun k h3 h4 => by
    have := h1 k h3 h4
    have := hB8 h0 k h3 (by omega)
    omega
  refine ⟨_, rfl, rfl, e' - m, by omega, m, e', lm2, wb, wp, vs, rfl, rfl, by omega, up (hP7.trans hP8), fun _ k h3 h4 => ?_, fun zs hz hSz => ?_, hA8, hC7.trans hC8⟩
  · rw [hv1 (m - 1) (by omega) (by omega)]
    have := h2 k h3 h4
    omega
  · have hlow : ∀ k, a' ≤ k → k < m → g zs k = g us p := fun k h3 h4 => by rw [hz.out (.inl h4)]; exact hv1 k h3 h4
    have hhigh : ∀ k, m ≤ k → k < e' → g us p < g zs k := hz.all (Q := fun v => g us p < v) h2
    refine hG7 zs (hP8.trans' hz (by omega) (by omega) (by omega)) fun i j h3 h4 h5 => ?_
    by_cases hj : j < m
    · rw [hlow i h3 (by omega), hlow j (by omega) hj]; exact Int.le_refl _
    · by_cases hi : i < m
      · rw [hlow i h3 hi]
        have := hhigh j (by omega) h5
        omega
      · exact hSz i j (by omega) h4 h5
/-- slices.Sort -/
theorem SO.sorted {ys : List El} (h : SO ys 0 ys.length) : ys.Pairwise (fun x y => key x ≤ key y) := by
  rw [List.pairwise_iff_getElem]
  intro i j hi hj hij
  have := h i j (Nat.zero_le _) hij hj
  have e1 := ge_eq hi; have e2 := ge_eq hj
  rw [List.getElem?_eq_getElem hi] at e1
  rw [List.getElem?_eq_getElem hj] at e2
  rw [Option.some.injEq] at e1 e2
  rw [e1, e2]; exact this
theorem c125e (cl : Nat × Array Value) (s : Sl) (w : World) : CW Try.prog 75 #[slV s, iv 0, iv 0, .func (.func cl.1) #[] cl.2] w fun v w' => v = .tuple #[] ∧ w = w' := by
  refine F75_ok s (0 : Int) (0 : Int) cl w _ ⟨fun k x W' => x = (1 : Int) ∧ w = W', ⟨0, by decide, rfl⟩, ?_⟩
  rintro k _ _ _ ⟨rfl, rfl⟩
  exact IfB.no (by decide) ⟨rfl, rfl⟩
theorem c120e (cl : Nat × Array Value) (s : Sl) (L : Int) (w : World) : CW Try.prog 61 #[slV s, iv 0, iv 0, iv L, .func (.func cl.1) #[] cl.2] w fun v w' => v = .tuple #[] ∧ w = w' := by
  refine F61_ok s (0 : Int) (0 : Int) L cl w _ ⟨fun k x W => x = ((0 : Int), (0 : Int), L, true, true) ∧ w = W, ⟨0, rfl, rfl⟩, ?_⟩
  rintro k _ _ _ ⟨rfl, rfl⟩
  unfold F61j1
  refine IfB.yes (show decide (IntKind.i64.wrap ((0 : Int) - (0 : Int)) ≤ (12 : Int)) = true by decide) ((c125e cl s w).use ?_)
  rintro _ _ ⟨rfl, rfl⟩
  exact ⟨(), rfl, rfl, rfl⟩
theorem c43 {cl : Nat × Array Value} (hcp : CmpP cl) {w : World} {s : Sl} {xs : List El} (h : OwS w s 2 (xs.flatMap sv)) (hl : xs.length ≤ 1000000) (hq : ∀ x ∈ xs, Q x) :
    CW Try.prog 43 #[slV s, .func (.func cl.1) #[] cl.2] w fun v w' => v = .tuple #[] ∧ ∃ ys : List El, ys.Perm xs ∧ ys.Pairwise (fun x y => key x ≤ key y) ∧ OwS w' s 2 (ys.flatMap sv) ∧ Ch (fun i => i ∈ blk s) w w' := by
  have hn := owsN sv_len (by omega) h
  refine F43_ok s cl w _ ?_
  unfold F43
  rw [show (s.2 : Int) = ((xs.length : Nat) : Int) by show (s.n : Int) = _; rw [hn], wu64 (by omega)]
  refine (c62 hl w).use ?_
  rintro _ _ ⟨L, rfl, hL, rfl⟩
  refine ⟨_, rfl, ?_⟩
  by_cases h0 : xs.length = 0
  · have : xs = [] := List.length_eq_zero_iff.1 h0
    subst this
    refine (c120e cl s L w).use ?_
    rintro _ _ ⟨rfl, rfl⟩
    exact ⟨(), rfl, rfl, [], .refl _, .nil, h, Ch.refl _ _⟩
  · obtain ⟨b, hA, hb⟩ := Ar.of h (by omega) hl hq
    refine (c61 hcp _ (L : Int) rfl hA (Nat.le_refl _) (Nat.zero_le _) (fun h0 => absurd h0 (by decide))).use ?_
    rintro _ W2 ⟨rfl, ys, hP, hS, hA2, hC2⟩
    have hyl := hP.len
    exact ⟨(), rfl, rfl, ys, hP.perm, SO.sorted (by rw [hyl]; exact hS), hA2.own, hC2.mono fun i _ hi => by rw [hb]; simpa using hi⟩
end Go.Proofs.Ytmmhbjbaallkfaa.Gx.SfP

/- Maps whose keys are pairs of ints. -/
namespace Go.Proofs.Ytmmhbjbaallkfaa.Gx
open Go
set_option linter.unusedSimpArgs false
set_option linter.unusedVariables false
section
variable {P : Program} {kt e : TypeId} {k : IntKind} {w : World}
abbrev prV (x : Int × Int) : Value := .agg #[.int .i64 x.1, .int .i64 x.2]
theorem part_int {i : TI} (hi : i.Ok P e) (hk : i.kd.isAgg = false) (hs : i.size = 1) (x y : Value) (w : World) : (part e #[x, y] 0).run P w = .ok x w ∧ (part e #[x, y] 1).run P w = .ok y w := by
  constructor <;> simp [part, run_isAgg_of hi, hk]
theorem check_pair {i : TI} (hi : i.Ok P e) (hk : i.kd.isAgg = false) (hs : i.size = 1) (hu : P.underlying kt = some (.array 2 e)) (he : P.underlying e = some (.int .i64)) (x : Int × Int) (b : Bool) (n : Nat) (w : World) : (Instr.checkKey b (n + 2) kt (prV x)).run P w = .ok () w := by
  obtain ⟨h1, h2⟩ := part_int hi hk hs (.int .i64 x.1) (.int .i64 x.2) w
  have h3 : ∀ v, (Instr.checkKey b (n + 1) e (.int .i64 v)).run P w = .ok () w := fun v => by rw [Instr.checkKey]; simp [run_underlying_of he]
  show (Instr.checkKey b ((n + 1) + 1) kt (prV x)).run P w = .ok () w
  rw [Instr.checkKey]
  simp [run_underlying_of hu, run_sizeOf_of hi, hs, Std.Legacy.Range.forIn_eq_forIn_range', List.range', h1, h2, h3]
theorem equal_pair {i : TI} (hi : i.Ok P e) (hk : i.kd.isAgg = false) (hs : i.size = 1) (hu : P.underlying kt = some (.array 2 e)) (he : P.underlying e = some (.int .i64)) (x y : Int × Int) (w : World) : (Op.equal kt (prV x) (prV y)).run P w = .ok (decide (x = y)) w := by
  obtain ⟨h1, h2⟩ := part_int hi hk hs (.int .i64 x.1) (.int .i64 x.2) w
  obtain ⟨h4, h5⟩ := part_int hi hk hs (.int .i64 y.1) (.int .i64 y.2) w
  have h3 : ∀ a b, (Op.equalIn 9999 e (.int .i64 a) (.int .i64 b)).run P w = .ok (a == b) w := fun a b => by
    show (Op.equalIn (9998 + 1) e (.int .i64 a) (.int .i64 b)).run P w = .ok (a == b) w
    exact run_equalIn_int w 9998 e .i64 .i64 a b he
  obtain ⟨x1, x2⟩ := x
  obtain ⟨y1, y2⟩ := y
  show (Op.equalIn (9999 + 1) kt _ _).run P w = _
  rw [Op.equalIn]
  simp only [Sem.run_bind, run_underlying_of hu, Result.andThen_ok, run_sizeOf_of hi, hs]
  simp only [Std.Legacy.Range.forIn_eq_forIn_range', Std.Legacy.Range.size, Nat.sub_zero, Nat.add_sub_cancel, Nat.div_one, List.range'_succ, List.range'_zero, List.forIn_cons, List.forIn_nil]
  simp only [Sem.run_bind, Sem.run_pure, Result.andThen_ok, Nat.mul_one, Nat.zero_add, h1, h2, h3, h4, h5]
  by_cases hx : x1 = y1
  · subst hx
    by_cases hy : x2 = y2
    · subst hy; simp [h2, h3]
    · simp [h2, h5, h3, hy]
  · simp [hx]
/-- What finding does. -/
def fndP (x : Int × Int) : List (Int × Int) → Nat → Option Nat
  | [], _ => none
  | y :: l, n => if x = y then some n else fndP x l (n + 1)
theorem fndP_none {x : Int × Int} : ∀ {l : List (Int × Int)} {n : Nat}, x ∉ l → fndP x l n = none
  | [], _, _ => rfl
  | y :: l, n, h => by
    unfold fndP
    rw [if_neg (fun e => h (by simp [e])), fndP_none fun h' => h (List.mem_cons_of_mem _ h')]
theorem fndP_some {x : Int × Int} : ∀ {l : List (Int × Int)} {n : Nat}, x ∈ l → ∃ i, fndP x l n = some (n + i) ∧ l[i]? = some x
  | y :: l, n, h => by
    unfold fndP
    by_cases e : x = y
    · exact ⟨0, by rw [if_pos e]; rfl, by rw [e]; rfl⟩
    · obtain ⟨i, h1, h2⟩ := fndP_some (n := n + 1) ((List.mem_cons.1 h).resolve_left e)
      exact ⟨i + 1, by rw [if_neg e, h1]; congr 1; omega, by simpa using h2⟩
structure PairT (P : Program) (kt e : TypeId) : Prop where
  ok : ∃ i : TI, i.Ok P e ∧ i.kd.isAgg = false ∧ i.size = 1
  arr : P.underlying kt = some (.array 2 e)
  elt : P.underlying e = some (.int .i64)
theorem asking_pair (h : PairT P kt e) (x : Int × Int) (w : World) : ∀ (es : List MapEntry) (S : List (Int × Int)) (n : Nat), es.map (·.key) = S.map prV → (Instr.findAsking kt (prV x) es n).run P w = .ok ((fndP x S n).bind fun i => (es[i - n]?).map fun m => (i, m.val)) w
  | [], [], n, _ => by simp [Instr.findAsking, fndP]
  | [], _ :: _, _, h' => by simp at h'
  | _ :: _, [], _, h' => by simp at h'
  | m :: es, y :: S, n, h' => by
    obtain ⟨i, hi, hk, hs⟩ := h.ok
    simp only [List.map_cons, List.cons.injEq] at h'
    have ih := asking_pair h x w es S (n + 1) h'.2
    rw [Instr.findAsking]
    simp only [Sem.run_bind, h'.1, equal_pair hi hk hs h.arr h.elt, Result.andThen_ok]
    unfold fndP
    by_cases he : x = y
    · simp [he]
    · simp only [decide_eq_false he, Bool.false_eq_true, if_false, if_neg he, ih]
      congr 1
      by_cases hx : x ∈ S
      · obtain ⟨j, hj, _⟩ := fndP_some (n := n + 1) hx
        rw [hj]
        simp only [Option.bind_some]
        rw [show n + 1 + j - n = (n + 1 + j - (n + 1)) + 1 by omega, List.getElem?_cons_succ]
      · rw [fndP_none hx]; rfl
theorem find_pair (h : PairT P kt e) (x : Int × Int) (w : World) (es : List MapEntry) (S : List (Int × Int)) (hes : es.map (·.key) = S.map prV) : (Instr.findKey kt (prV x) es).run P w = .ok ((fndP x S 0).bind fun i => (es[i]?).map fun m => (i, m.val)) w := by
  have ha := asking_pair h x w es S 0 hes
  cases es with
  | nil =>
    have : S = [] := by simpa using hes.symm
    subst this
    simp [Instr.findKey, run_underlying_of h.arr, Instr.findNow, fndP]
  | cons m es =>
    have hn : Instr.findNow (.array 2 e) (prV x) (m :: es) 0 = none := by
      cases S with
      | nil => simp at hes
      | cons y S =>
        simp only [List.map_cons, List.cons.injEq] at hes
        simp [Instr.findNow, hes.1, Instr.sameNow]
    simp only [Instr.findKey, Sem.run_bind, run_underlying_of h.arr, Result.andThen_ok, hn]
    simpa using ha
/-- A map of pairs to bools, all of them true. -/
def PrS (w : World) (r : Nat) (S : List (Int × Int)) : Prop := ∃ es ck, w.heap[r]? = some (.map es ck) ∧ es.toList.map (·.key) = S.map prV ∧ ∀ m ∈ es.toList, m.val = .bool true
theorem PrS.ch {F : Nat → Prop} {w w' : World} {r : Nat} {S : List (Int × Int)} (h : PrS w r S) (hc : Ch F w w') (hF : ¬ F r) : PrS w' r S := by
  obtain ⟨es, ck, h1, h2⟩ := h
  exact ⟨es, ck, hc.at h1 hF, h2⟩
theorem PrS.ext {w w' : World} {r : Nat} {S : List (Int × Int)} (h : PrS w r S) (hc : Ext w w') : PrS w' r S := h.ch hc id
theorem PrS.new {w w' : World} {r : Nat} (h : IsAlloc w (.map #[] 0) r w') : PrS w' r [] := ⟨_, _, h.new, rfl, by simp⟩
theorem PrS.lt {w : World} {r : Nat} {S : List (Int × Int)} (h : PrS w r S) : r < w.heap.size := by
  obtain ⟨es, ck, h1, _⟩ := h
  exact heap_lt h1
theorem PrS.get (hT : PairT P kt e) {r : Nat} {S : List (Int × Int)} (h : PrS w r S) (x : Int × Int) {K : Value → Bool → Prop} (h1 : x ∈ S → K (.bool true) true) (h0 : x ∉ S → K (.bool false) false) :
    MapGetG P kt w (.map (some r)) (prV x) (.bool false) K := by
  obtain ⟨es, ck, hr, hk, hv⟩ := h
  obtain ⟨i, hi, hk', hs⟩ := hT.ok
  refine ⟨es.toList, ⟨es, ck, hr, rfl⟩, fun b => check_pair hi hk' hs hT.arr hT.elt x b 9998 w, _, find_pair hT x w es.toList S hk, ?_⟩
  by_cases hx : x ∈ S
  · obtain ⟨j, hj, hg⟩ := fndP_some (n := 0) hx
    rw [Nat.zero_add] at hj
    have hlen : es.toList.length = S.length := by simpa using congrArg List.length hk
    have hjl := (List.getElem?_eq_some_iff.1 hg).1
    have he : es.toList[j]? = some (es.toList[j]'(by omega)) := List.getElem?_eq_getElem (by omega)
    rw [hj]
    simp only [Option.bind_some, he, Option.map_some]
    rw [hv _ (List.getElem_mem _)]
    exact h1 hx
  · rw [fndP_none hx]
    exact h0 hx
theorem PrS.put (hT : PairT P kt e) {r : Nat} {S : List (Int × Int)} (h : PrS w r S) {x : Int × Int} (hx : x ∉ S) {K : World → Prop} (hK : ∀ w', PrS w' r (S ++ [x]) → Ch (fun i => i = r) w w' → K w') :
    MapSetG P kt w (.map (some r)) (prV x) (.bool true) K := by
  obtain ⟨es, ck, hr, hk, hv⟩ := h
  obtain ⟨i, hi, hk', hs⟩ := hT.ok
  refine ⟨r, rfl, es, ck, hr, fun b => check_pair hi hk' hs hT.arr hT.elt x b 9998 w, _, find_pair hT x w es.toList S hk, ?_⟩
  rw [fndP_none hx]
  refine fun w' hu => hK w' ⟨_, _, hu.new, ?_, ?_⟩ hu.ch
  · rw [Array.toList_push, List.map_append, hk, List.map_append]; rfl
  · intro m hm
    rw [Array.toList_push] at hm
    rcases List.mem_append.1 hm with h | h
    · exact hv m h
    · rw [List.mem_singleton.1 h]
end
end Go.Proofs.Ytmmhbjbaallkfaa.Gx

/- Written by mkf.py: what is to be shown of functions, as Gx reckons it from their code. -/
namespace Go.Proofs.Ytmmhbjbaallkfaa.Gx
open Go
set_option linter.unusedVariables false
set_option maxRecDepth 100000
def F21k1 (t0 : Sl) (x19 : Sl × Int) (x6 : Sl × Int) (w20 : World) (b13 : Nat) (b1 : Nat) (b18 : Nat) (y16 : Nat → Sl × Int → World → Prop) : Prop :=
 ∃ (b23 : Nat),
 ∃ (b24 : Nat),
 slAddr t0.1 t0.3 (0 : Nat) (6 : Nat) = some ({ block := b23, off := b24 } : Addr) ∧
 ((0 : Int) ≤ x19.2 ∧ x19.2 < (x6.2.toNat : Int)) ∧
 ∃ (x25 : Int × Int × Int × Bool × Sl × Sl),
 CellsAt w20 b23 (b24 + x19.2.toNat * (6 : Nat))
 [Value.int IntKind.i64 x25.1, Value.int IntKind.i64 x25.snd.1, Value.int IntKind.i64 x25.snd.snd.1, Value.bool x25.snd.snd.snd.1,
 Value.slice x25.snd.snd.snd.snd.fst.1 x25.snd.snd.snd.snd.fst.2 x25.snd.snd.snd.snd.fst.3, Value.slice x25.snd.snd.snd.snd.snd.1 x25.snd.snd.snd.snd.snd.2 x25.snd.snd.snd.snd.snd.3] ∧
 AllocP w20
 (Obj.cells
 #[Value.int IntKind.i64 (0 : Int), Value.int IntKind.i64 (0 : Int), Value.int IntKind.i64 (0 : Int), Value.bool false, Value.slice none (0 : Nat) (0 : Nat), Value.slice none (0 : Nat) (0 : Nat)]
 (27 : Nat))
 fun (b26 : Nat) (w27 : World) =>
 #[Value.int IntKind.i64 x25.1, Value.int IntKind.i64 x25.snd.1, Value.int IntKind.i64 x25.snd.snd.1, Value.bool x25.snd.snd.snd.1,
 Value.slice x25.snd.snd.snd.snd.fst.1 x25.snd.snd.snd.snd.fst.2 x25.snd.snd.snd.snd.fst.3, Value.slice x25.snd.snd.snd.snd.snd.1 x25.snd.snd.snd.snd.snd.2 x25.snd.snd.snd.snd.snd.3].size =
 (6 : Nat) ∧
 StoreP w27 b26 (0 : Nat)
 [Value.int IntKind.i64 x25.1, Value.int IntKind.i64 x25.snd.1, Value.int IntKind.i64 x25.snd.snd.1, Value.bool x25.snd.snd.snd.1,
 Value.slice x25.snd.snd.snd.snd.fst.1 x25.snd.snd.snd.snd.fst.2 x25.snd.snd.snd.snd.fst.3, Value.slice x25.snd.snd.snd.snd.snd.1 x25.snd.snd.snd.snd.snd.2 x25.snd.snd.snd.snd.snd.3]
 fun (w28 : World) =>
 ∃ (n29 : Int),
 w28.cell? ({ block := b26, off := (0 : Nat) + (0 : Nat) } : Addr) = some (Value.int IntKind.i64 n29) ∧
 ∃ (n30 : Int),
 w28.cell? ({ block := b13, off := (0 : Nat) + (0 : Nat) } : Addr) = some (Value.int IntKind.i64 n30) ∧
 AllocP w28 (Obj.cells #[Value.int IntKind.i64 (0 : Int), Value.int IntKind.i64 (0 : Int)] (44 : Nat)) fun (b31 : Nat) (w32 : World) =>
 #[Value.int IntKind.i64 n29, Value.int IntKind.i64 n30].size = (2 : Nat) ∧
 StoreP w32 b31 (0 : Nat) [Value.int IntKind.i64 n29, Value.int IntKind.i64 n30] fun (w33 : World) =>
 ∃ (x34 : Int × Int),
 CellsAt w33 b31 (0 : Nat) [Value.int IntKind.i64 x34.1, Value.int IntKind.i64 x34.2] ∧
 MapGetG Try.prog (44 : Nat) w33 (Value.map (some b1)) (Value.agg #[Value.int IntKind.i64 x34.1, Value.int IntKind.i64 x34.2]) (Value.bool false) fun (v35 : Value) (t36 : Bool) =>
 ∃ (t37 : Bool),
 v35 = Value.bool t37 ∧
 IfB (!t37)
 (∃ (x38 : Int × Int × Int × Bool × Sl × Sl),
 CellsAt w33 b26 (0 : Nat)
 [Value.int IntKind.i64 x38.1, Value.int IntKind.i64 x38.snd.1, Value.int IntKind.i64 x38.snd.snd.1, Value.bool x38.snd.snd.snd.1,
 Value.slice x38.snd.snd.snd.snd.fst.1 x38.snd.snd.snd.snd.fst.2 x38.snd.snd.snd.snd.fst.3, Value.slice x38.snd.snd.snd.snd.snd.1 x38.snd.snd.snd.snd.snd.2 x38.snd.snd.snd.snd.snd.3] ∧
 ∃ (x39 : Int × Int × Int × Bool × Sl × Sl),
 CellsAt w33 b13 (0 : Nat)
 [Value.int IntKind.i64 x39.1, Value.int IntKind.i64 x39.snd.1, Value.int IntKind.i64 x39.snd.snd.1, Value.bool x39.snd.snd.snd.1,
 Value.slice x39.snd.snd.snd.snd.fst.1 x39.snd.snd.snd.snd.fst.2 x39.snd.snd.snd.snd.fst.3, Value.slice x39.snd.snd.snd.snd.snd.1 x39.snd.snd.snd.snd.snd.2 x39.snd.snd.snd.snd.snd.3] ∧
 CX Try.prog (42 : Nat)
 #[Value.agg
 #[Value.int IntKind.i64 x38.1, Value.int IntKind.i64 x38.snd.1, Value.int IntKind.i64 x38.snd.snd.1, Value.bool x38.snd.snd.snd.1,
 Value.slice x38.snd.snd.snd.snd.fst.1 x38.snd.snd.snd.snd.fst.2 x38.snd.snd.snd.snd.fst.3, Value.slice x38.snd.snd.snd.snd.snd.1 x38.snd.snd.snd.snd.snd.2 x38.snd.snd.snd.snd.snd.3],
 Value.agg
 #[Value.int IntKind.i64 x39.1, Value.int IntKind.i64 x39.snd.1, Value.int IntKind.i64 x39.snd.snd.1, Value.bool x39.snd.snd.snd.1,
 Value.slice x39.snd.snd.snd.snd.fst.1 x39.snd.snd.snd.snd.fst.2 x39.snd.snd.snd.snd.fst.3, Value.slice x39.snd.snd.snd.snd.snd.1 x39.snd.snd.snd.snd.snd.2 x39.snd.snd.snd.snd.snd.3]]
 w33 fun (v40 : Value) (w41 : World) =>
 ∃ (t42 : Bool),
 v40 = Value.bool t42 ∧
 IfB t42
 (∃ (x43 : Int × Int),
 CellsAt w41 b31 (0 : Nat) [Value.int IntKind.i64 x43.1, Value.int IntKind.i64 x43.2] ∧
 MapSetG Try.prog (44 : Nat) w41 (Value.map (some b1)) (Value.agg #[Value.int IntKind.i64 x43.1, Value.int IntKind.i64 x43.2]) (Value.bool true) fun (w44 : World) =>
 ∃ (x45 : Int × Int),
 CellsAt w44 b31 (0 : Nat) [Value.int IntKind.i64 x45.1, Value.int IntKind.i64 x45.2] ∧
 (1 : Nat) * (2 : Nat) ≤ (16777216 : Nat) ∧
 AllocP w44 (Obj.cells #[Value.int IntKind.i64 x45.1, Value.int IntKind.i64 x45.2] (44 : Nat)) fun (b46 : Nat) (w47 : World) =>
 ∃ (l48 : List Value),
 ReadC w47 (some ({ block := b46, off := (0 : Nat) } : Addr)) ((1 : Nat) * (2 : Nat)) l48 ∧
 AppendP tt44 (44 : Nat) w47 x19.fst.1 x19.fst.2 x19.fst.3 (1 : Nat) l48 fun (s49 : Sl) (w50 : World) =>
 ([] : List Nat) = [] ∧ ∃ (b51 : Nat), b51 < b18 ∧ y16 b51 ({ p := s49.1, n := s49.2, c := s49.3 }, IntKind.i64.wrap (x19.2 + (1 : Int))) w50)
 (([] : List Nat) = [] ∧ ∃ (b52 : Nat), b52 < b18 ∧ y16 b52 ({ p := x19.fst.1, n := x19.fst.2, c := x19.fst.3 }, IntKind.i64.wrap (x19.2 + (1 : Int))) w41))
 (([] : List Nat) = [] ∧ ∃ (b53 : Nat), b53 < b18 ∧ y16 b53 ({ p := x19.fst.1, n := x19.fst.2, c := x19.fst.3 }, IntKind.i64.wrap (x19.2 + (1 : Int))) w33)
def F21j2 (t0 : Sl) (b1 : Nat) (y3 : Nat → Sl × Int → World → Prop) (b5 : Nat) (x6 : Sl × Int) (b13 : Nat) (y16 : Nat → Sl × Int → World → Prop) (b18 : Nat) (x19 : Sl × Int) (w20 : World) : Prop :=
 IfB (decide (x19.snd < (((Int.toNat x6.snd : Nat) : Int) : Int)))
 (F21k1 t0 x19 x6 w20 b13 b1 b18 y16)
 (([] : List Nat) = [] ∧ ∃ (b54 : Nat), b54 < b5 ∧ y3 b54 ({ p := x19.fst.1, n := x19.fst.2, c := x19.fst.3 }, IntKind.i64.wrap (x6.2 + (1 : Int))) w20)
def F21j1 (t0 : Sl) (R : Value → World → Prop) (b1 : Nat) (y3 : Nat → Sl × Int → World → Prop) (b5 : Nat) (x6 : Sl × Int) (w7 : World) : Prop :=
 IfB (decide (x6.snd < (t0.n : Int)))
 (∃ (b10 : Nat),
 ∃ (b11 : Nat),
 t0.1 = some ({ block := b10, off := b11 } : Addr) ∧
 ((0 : Int) ≤ x6.2 ∧ x6.2 < (t0.2 : Int)) ∧
 ∃ (x12 : Int × Int × Int × Bool × Sl × Sl),
 CellsAt w7 b10 (b11 + x6.2.toNat * (6 : Nat))
 [Value.int IntKind.i64 x12.1, Value.int IntKind.i64 x12.snd.1, Value.int IntKind.i64 x12.snd.snd.1, Value.bool x12.snd.snd.snd.1,
 Value.slice x12.snd.snd.snd.snd.fst.1 x12.snd.snd.snd.snd.fst.2 x12.snd.snd.snd.snd.fst.3, Value.slice x12.snd.snd.snd.snd.snd.1 x12.snd.snd.snd.snd.snd.2 x12.snd.snd.snd.snd.snd.3] ∧
 AllocP w7
 (Obj.cells
 #[Value.int IntKind.i64 (0 : Int), Value.int IntKind.i64 (0 : Int), Value.int IntKind.i64 (0 : Int), Value.bool false, Value.slice none (0 : Nat) (0 : Nat), Value.slice none (0 : Nat) (0 : Nat)]
 (27 : Nat))
 fun (b13 : Nat) (w14 : World) =>
 #[Value.int IntKind.i64 x12.1, Value.int IntKind.i64 x12.snd.1, Value.int IntKind.i64 x12.snd.snd.1, Value.bool x12.snd.snd.snd.1,
 Value.slice x12.snd.snd.snd.snd.fst.1 x12.snd.snd.snd.snd.fst.2 x12.snd.snd.snd.snd.fst.3, Value.slice x12.snd.snd.snd.snd.snd.1 x12.snd.snd.snd.snd.snd.2 x12.snd.snd.snd.snd.snd.3].size =
 (6 : Nat) ∧
 StoreP w14 b13 (0 : Nat)
 [Value.int IntKind.i64 x12.1, Value.int IntKind.i64 x12.snd.1, Value.int IntKind.i64 x12.snd.snd.1, Value.bool x12.snd.snd.snd.1,
 Value.slice x12.snd.snd.snd.snd.fst.1 x12.snd.snd.snd.snd.fst.2 x12.snd.snd.snd.snd.fst.3, Value.slice x12.snd.snd.snd.snd.snd.1 x12.snd.snd.snd.snd.snd.2 x12.snd.snd.snd.snd.snd.3]
 fun (w15 : World) =>
 ((0 : Int) ≤ x6.2 ∧ x6.2 ≤ (t0.3 : Int)) ∧
 ∃ (y16 : Nat → Sl × Int → World → Prop),
 (∃ (b17 : Nat), y16 b17 ({ p := x6.fst.1, n := x6.fst.2, c := x6.fst.3 }, (0 : Int)) w15) ∧
 ∀ (b18 : Nat) (x19 : Sl × Int) (w20 : World) (y21 : Nat → Value),
 y16 b18 x19 w20 →
 (F21j2 t0 b1 y3 b5 x6 b13 y16 b18 x19 w20))
 (CX Try.prog (43 : Nat) #[Value.slice x6.fst.1 x6.fst.2 x6.fst.3, Value.func (Fn.func (44 : Nat)) #[] #[]] w7 fun (v55 : Value) (w56 : World) =>
 ∃ (y57 : Unit), v55 = Value.tuple #[] ∧ R (Value.slice x6.fst.1 x6.fst.2 x6.fst.3) w56)
def F21 (t0 : Sl) (w : World) (R : Value → World → Prop) : Prop :=
 AllocP w (Obj.map #[] (0 : Nat)) fun (b1 : Nat) (w2 : World) =>
 ∃ (y3 : Nat → Sl × Int → World → Prop),
 (∃ (b4 : Nat), y3 b4 ({ p := none, n := (0 : Nat), c := (0 : Nat) }, (0 : Int)) w2) ∧
 ∀ (b5 : Nat) (x6 : Sl × Int) (w7 : World) (y8 : Nat → Value),
 y3 b5 x6 w7 →
 (F21j1 t0 R b1 y3 b5 x6 w7)
theorem F21_ok (t0 : Sl) (w : World) (R : Value → World → Prop) (h : F21 t0 w R) : CW Try.prog 21 #[Value.slice t0.1 t0.2 t0.3] w R :=
  call_of tbOk mixed en21 Try.func21 rfl (.node (.nil) (.node (.nil) (.node (.nil) (.node (.node (.nil) (.loop [(4, .one (.sl)), (13, .one (.int .i64))] [14, 15, 16, 17, 6, 5, 18, 19, 20, 21, 22, 23, 24, 25, 8, 26, 27, 28, 29, 30, 9, 31, 32, 33, 34, 35, 36, 37, 38, 39, 40, 41, 42, 43, 44, 45, 4, 46, 47, 13] (.node (.nil) (.node (.nil) (.node (.node (.nil) (.node (.nil) (.loop [(4, .one (.sl)), (22, .one (.int .i64))] [23, 24, 25, 8, 26, 27, 28, 29, 30, 9, 31, 32, 33, 34, 35, 36, 37, 38, 39, 40, 41, 42, 43, 44, 45, 4, 46, 22] (.nil)))) (.nil)))))) (.nil))))) (by kernel_rfl) (Nat.le_of_ble_eq_true (by kernel_rfl)) (Eq.mp (α := F21 t0 w R) (by kernel_rfl) h)
def F44 (t0 : (Leaf.int IntKind.i64).den × dens [Leaf.int IntKind.i64]) (t1 : (Leaf.int IntKind.i64).den × dens [Leaf.int IntKind.i64]) (w : World) (R : Value → World → Prop) : Prop :=
 AllocP w (Obj.cells #[Value.int IntKind.i64 t0.1, Value.int IntKind.i64 t0.2] (44 : Nat)) fun (b1 : Nat) (w2 : World) =>
 AllocP w2 (Obj.cells #[Value.int IntKind.i64 t1.1, Value.int IntKind.i64 t1.2] (44 : Nat)) fun (b3 : Nat) (w4 : World) =>
 ((0 : Int) ≤ (0 : Int) ∧ (0 : Int) < ((2 : Nat) : Int)) ∧
 ∃ (n5 : Int),
 w4.drew.cell? ({ block := b1, off := (0 : Nat) + Int.toNat (0 : Int) } : Addr) = some (Value.int IntKind.i64 n5) ∧
 ((0 : Int) ≤ (0 : Int) ∧ (0 : Int) < ((2 : Nat) : Int)) ∧
 ∃ (n6 : Int),
 w4.drew.cell? ({ block := b3, off := (0 : Nat) + Int.toNat (0 : Int) } : Addr) = some (Value.int IntKind.i64 n6) ∧
 ((0 : Int) ≤ (1 : Int) ∧ (1 : Int) < ((2 : Nat) : Int)) ∧
 ∃ (n7 : Int),
 w4.drew.cell? ({ block := b1, off := (0 : Nat) + Int.toNat (1 : Int) } : Addr) = some (Value.int IntKind.i64 n7) ∧
 ((0 : Int) ≤ (1 : Int) ∧ (1 : Int) < ((2 : Nat) : Int)) ∧
 ∃ (n8 : Int),
 w4.drew.cell? ({ block := b3, off := (0 : Nat) + Int.toNat (1 : Int) } : Addr) = some (Value.int IntKind.i64 n8) ∧
 CX Try.prog (46 : Nat) #[Value.int IntKind.i64 n5, Value.int IntKind.i64 n6] w4.drew fun (v9 : Value) (w10 : World) =>
 ∃ (n11 : Int),
 v9 = Value.int IntKind.i64 n11 ∧
 w10.cell? ({ block := b3, off := (0 : Nat) + Int.toNat (1 : Int) } : Addr) = some (Value.int IntKind.i64 n8) ∧
 w10.cell? ({ block := b1, off := (0 : Nat) + Int.toNat (1 : Int) } : Addr) = some (Value.int IntKind.i64 n7) ∧
 CX Try.prog (46 : Nat) #[Value.int IntKind.i64 n7, Value.int IntKind.i64 n8] w10 fun (v12 : Value) (w13 : World) =>
 ∃ (n14 : Int),
 v12 = Value.int IntKind.i64 n14 ∧
 (2 : Nat) * (1 : Nat) ≤ (16777216 : Nat) ∧
 AllocP w13 (Obj.cells #[Value.int IntKind.i64 n11, Value.int IntKind.i64 n14] (3 : Nat)) fun (b15 : Nat) (w16 : World) =>
 CX Try.prog (45 : Nat) #[Value.slice (some ({ block := b15, off := (0 : Nat) } : Addr)) (2 : Nat) (2 : Nat)] w16 fun (v17 : Value) (w18 : World) =>
 ∃ (n19 : Int), v17 = Value.int IntKind.i64 n19 ∧ R (Value.int IntKind.i64 n19) w18
theorem F44_ok (t0 : (Leaf.int IntKind.i64).den × dens [Leaf.int IntKind.i64]) (t1 : (Leaf.int IntKind.i64).den × dens [Leaf.int IntKind.i64]) (w : World) (R : Value → World → Prop) (h : F44 t0 t1 w R) : CW Try.prog 44 #[Value.agg #[Value.int IntKind.i64 t0.1, Value.int IntKind.i64 t0.2], Value.agg #[Value.int IntKind.i64 t1.1, Value.int IntKind.i64 t1.2]] w R :=
  call_of tbOk mixed en44 Try.func44 rfl (.node (.nil) (.node (.draw (.st 0 (.st 1 (.st 2 (.st 3 (.st 5 (.st 6 (.st 7 (.st 8 (.ac 4 [8, 7, 6, 5] (.ac 9 [] (.ac 10 [] (.ac 11 [] (.st 12 (.fin)) (.non)) (.non)) (.non)) (.non))))))))))) (.nil))) (by kernel_rfl) (Nat.le_of_ble_eq_true (by kernel_rfl)) (Eq.mp (α := F44 t0 t1 w R) (by kernel_rfl) h)
def F45j1 (t0 : Sl) (R : Value → World → Prop) (y1 : Nat → Int → World → Prop) (b3 : Nat) (n4 : Int) (w5 : World) : Prop :=
 IfB (decide (n4 < (t0.n : Int)))
 (∃ (b8 : Nat),
 ∃ (b9 : Nat),
 t0.1 = some ({ block := b8, off := b9 } : Addr) ∧
 ((0 : Int) ≤ n4 ∧ n4 < (t0.2 : Int)) ∧
 ∃ (n10 : Int),
 w5.cell? ({ block := b8, off := b9 + n4.toNat } : Addr) = some (Value.int IntKind.i64 n10) ∧
 IfB (n10 != (0 : Int)) (R (Value.int IntKind.i64 n10) w5) (([] : List Nat) = [] ∧ ∃ (b11 : Nat), b11 < b3 ∧ y1 b11 (IntKind.i64.wrap (n4 + (1 : Int))) w5))
 (R (Value.int IntKind.i64 (0 : Int)) w5)
def F45 (t0 : Sl) (w : World) (R : Value → World → Prop) : Prop :=
 ∃ (y1 : Nat → Int → World → Prop),
 (∃ (b2 : Nat), y1 b2 (0 : Int) w) ∧
 ∀ (b3 : Nat) (n4 : Int) (w5 : World) (y6 : Nat → Value),
 y1 b3 n4 w5 →
 (F45j1 t0 R y1 b3 n4 w5)
theorem F45_ok (t0 : Sl) (w : World) (R : Value → World → Prop) (h : F45 t0 w R) : CW Try.prog 45 #[Value.slice t0.1 t0.2 t0.3] w R :=
  call_of tbOk mixed en45 Try.func45 rfl (.node (.nil) (.node (.nil) (.node (.node (.nil) (.loop [(8, .one (.int .i64))] [9, 10, 11, 5, 12, 13, 14, 15, 2, 16, 8] (.nil))) (.nil)))) (by kernel_rfl) (Nat.le_of_ble_eq_true (by kernel_rfl)) (Eq.mp (α := F45 t0 w R) (by kernel_rfl) h)
def F26j1 (t0 : Sl) (R : Value → World → Prop) (y1 : Nat → Sl × Int → World → Prop) (b3 : Nat) (x4 : Sl × Int) (w5 : World) : Prop :=
 IfB (decide (x4.snd < (t0.n : Int)))
 (∃ (b8 : Nat),
 ∃ (b9 : Nat),
 t0.1 = some ({ block := b8, off := b9 } : Addr) ∧
 ((0 : Int) ≤ x4.2 ∧ x4.2 < (t0.2 : Int)) ∧
 ∃ (x10 : Int × Int × Int × Bool × Sl × Sl),
 CellsAt w5 b8 (b9 + x4.2.toNat * (6 : Nat))
 [Value.int IntKind.i64 x10.1, Value.int IntKind.i64 x10.snd.1, Value.int IntKind.i64 x10.snd.snd.1, Value.bool x10.snd.snd.snd.1,
 Value.slice x10.snd.snd.snd.snd.fst.1 x10.snd.snd.snd.snd.fst.2 x10.snd.snd.snd.snd.fst.3, Value.slice x10.snd.snd.snd.snd.snd.1 x10.snd.snd.snd.snd.snd.2 x10.snd.snd.snd.snd.snd.3] ∧
 AllocP w5
 (Obj.cells
 #[Value.int IntKind.i64 (0 : Int), Value.int IntKind.i64 (0 : Int), Value.int IntKind.i64 (0 : Int), Value.bool false, Value.slice none (0 : Nat) (0 : Nat), Value.slice none (0 : Nat) (0 : Nat)]
 (27 : Nat))
 fun (b11 : Nat) (w12 : World) =>
 #[Value.int IntKind.i64 x10.1, Value.int IntKind.i64 x10.snd.1, Value.int IntKind.i64 x10.snd.snd.1, Value.bool x10.snd.snd.snd.1,
 Value.slice x10.snd.snd.snd.snd.fst.1 x10.snd.snd.snd.snd.fst.2 x10.snd.snd.snd.snd.fst.3, Value.slice x10.snd.snd.snd.snd.snd.1 x10.snd.snd.snd.snd.snd.2 x10.snd.snd.snd.snd.snd.3].size =
 (6 : Nat) ∧
 StoreP w12 b11 (0 : Nat)
 [Value.int IntKind.i64 x10.1, Value.int IntKind.i64 x10.snd.1, Value.int IntKind.i64 x10.snd.snd.1, Value.bool x10.snd.snd.snd.1,
 Value.slice x10.snd.snd.snd.snd.fst.1 x10.snd.snd.snd.snd.fst.2 x10.snd.snd.snd.snd.fst.3, Value.slice x10.snd.snd.snd.snd.snd.1 x10.snd.snd.snd.snd.snd.2 x10.snd.snd.snd.snd.snd.3]
 fun (w13 : World) =>
 ∃ (n14 : Int),
 w13.cell? ({ block := b11, off := (0 : Nat) + (0 : Nat) } : Addr) = some (Value.int IntKind.i64 n14) ∧
 (1 : Nat) * (1 : Nat) ≤ (16777216 : Nat) ∧
 AllocP w13 (Obj.cells #[Value.int IntKind.i64 n14] (3 : Nat)) fun (b15 : Nat) (w16 : World) =>
 ∃ (l17 : List Value),
 ReadC w16 (some ({ block := b15, off := (0 : Nat) } : Addr)) ((1 : Nat) * (1 : Nat)) l17 ∧
 AppendP tt3 (3 : Nat) w16 x4.fst.1 x4.fst.2 x4.fst.3
 (1 : Nat) l17 fun (s18 : Sl) (w19 : World) => ([] : List Nat) = [] ∧ ∃ (b20 : Nat), b20 < b3 ∧ y1 b20 ({ p := s18.1, n := s18.2, c := s18.3 }, IntKind.i64.wrap (x4.2 + (1 : Int))) w19)
 (CX Try.prog (49 : Nat) #[Value.slice x4.fst.1 x4.fst.2 x4.fst.3] w5 fun (v21 : Value) (w22 : World) =>
 ∃ (y23 : Unit),
 v21 = Value.tuple #[] ∧
 CX Try.prog (50 : Nat) #[Value.slice x4.fst.1 x4.fst.2 x4.fst.3] w22 fun (v24 : Value) (w25 : World) =>
 ∃ (s26 : Sl), v24 = Value.slice s26.1 s26.2 s26.3 ∧ R (Value.slice s26.1 s26.2 s26.3) w25)
def F26 (t0 : Sl) (w : World) (R : Value → World → Prop) : Prop :=
 ∃ (y1 : Nat → Sl × Int → World → Prop),
 (∃ (b2 : Nat), y1 b2 ({ p := none, n := (0 : Nat), c := (0 : Nat) }, (0 : Int)) w) ∧
 ∀ (b3 : Nat) (x4 : Sl × Int) (w5 : World) (y6 : Nat → Value),
 y1 b3 x4 w5 →
 (F26j1 t0 R y1 b3 x4 w5)
theorem F26_ok (t0 : Sl) (w : World) (R : Value → World → Prop) (h : F26 t0 w R) : CW Try.prog 26 #[Value.slice t0.1 t0.2 t0.3] w R :=
  call_of tbOk mixed en26 Try.func26 rfl (.node (.nil) (.node (.nil) (.node (.node (.nil) (.loop [(3, .one (.sl)), (8, .one (.int .i64))] [9, 10, 11, 5, 12, 13, 14, 15, 16, 3, 17, 8] (.nil))) (.nil)))) (by kernel_rfl) (Nat.le_of_ble_eq_true (by kernel_rfl)) (Eq.mp (α := F26 t0 w R) (by kernel_rfl) h)
def F52 (t0 : (Leaf.int IntKind.i64).den × dens [Leaf.int IntKind.i64]) (t1 : Nat) (t2 : Nat) (w : World) (R : Value → World → Prop) : Prop :=
 AllocP w (Obj.cells #[Value.int IntKind.i64 t0.1, Value.int IntKind.i64 t0.2] (44 : Nat)) fun (b1 : Nat) (w2 : World) =>
 ((0 : Int) ≤ (1 : Int) ∧ (1 : Int) < ((2 : Nat) : Int)) ∧
 ∃ (n3 : Int),
 w2.cell? ({ block := b1, off := (0 : Nat) + Int.toNat (1 : Int) } : Addr) = some (Value.int IntKind.i64 n3) ∧
 ∃ (n4 : Int),
 w2.cell? ({ block := t1, off := (0 : Nat) } : Addr) = some (Value.int IntKind.i64 n4) ∧
 IfB (n3 == n4)
 (∃ (s5 : Sl),
 w2.cell? ({ block := t2, off := (0 : Nat) } : Addr) = some (Value.slice s5.1 s5.2 s5.3) ∧
 ((0 : Int) ≤ (0 : Int) ∧ (0 : Int) < ((2 : Nat) : Int)) ∧
 ∃ (n6 : Int),
 w2.cell? ({ block := b1, off := (0 : Nat) + Int.toNat (0 : Int) } : Addr) = some (Value.int IntKind.i64 n6) ∧
 CX Try.prog (39 : Nat) #[Value.slice s5.1 s5.2 s5.3, Value.int IntKind.i64 n6] w2 fun (v7 : Value) (w8 : World) => ∃ (t9 : Bool), v7 = Value.bool t9 ∧ R (Value.bool t9) w8)
 (R (Value.bool false) w2)
theorem F52_ok (t0 : (Leaf.int IntKind.i64).den × dens [Leaf.int IntKind.i64]) (t1 : Nat) (t2 : Nat) (w : World) (R : Value → World → Prop) (h : F52 t0 t1 t2 w R) : CW Try.prog 52 #[Value.agg #[Value.int IntKind.i64 t0.1, Value.int IntKind.i64 t0.2], Value.pointer (some ({ block := t1, off := 0 } : Addr)), Value.pointer (some ({ block := t2, off := 0 } : Addr))] w R :=
  call_of tbOk mixed en52 Try.func52 rfl (.nil) (by kernel_rfl) (Nat.le_of_ble_eq_true (by kernel_rfl)) (Eq.mp (α := F52 t0 t1 t2 w R) (by kernel_rfl) h)
def F53 (t0 : Sl) (t1 : Nat × Array Value) (w : World) (R : Value → World → Prop) : Prop :=
 CX Try.prog (69 : Nat) #[Value.slice t0.1 t0.2 t0.3, Value.func (Fn.func t1.1) #[] t1.2] w fun (v1 : Value) (w2 : World) =>
 ∃ (n3 : Int), v1 = Value.int IntKind.i64 n3 ∧ R (Value.bool (decide ((0 : Int) ≤ n3))) w2
theorem F53_ok (t0 : Sl) (t1 : Nat × Array Value) (w : World) (R : Value → World → Prop) (h : F53 t0 t1 w R) : CW Try.prog 53 #[Value.slice t0.1 t0.2 t0.3, Value.func (Fn.func t1.1) #[] t1.2] w R :=
  call_of tbOk mixed en53 Try.func53 rfl (.nil) (by kernel_rfl) (Nat.le_of_ble_eq_true (by kernel_rfl)) (Eq.mp (α := F53 t0 t1 w R) (by kernel_rfl) h)
def F69j1 (t0 : Sl) (t1 : Nat × Array Value) (R : Value → World → Prop) (y1 : Nat → Int → World → Prop) (b3 : Nat) (n4 : Int) (w5 : World) : Prop :=
 IfB (decide (n4 < (t0.n : Int)))
 (∃ (b8 : Nat),
 ∃ (b9 : Nat),
 t0.1 = some ({ block := b8, off := b9 } : Addr) ∧
 ((0 : Int) ≤ n4 ∧ n4 < (t0.2 : Int)) ∧
 ∃ (x10 : Int × Int),
 CellsAt w5 b8 (b9 + n4.toNat * (2 : Nat)) [Value.int IntKind.i64 x10.1, Value.int IntKind.i64 x10.2] ∧
 CX Try.prog t1.1 { toList := Value.agg #[Value.int IntKind.i64 x10.1, Value.int IntKind.i64 x10.2] :: t1.snd.1 } w5 fun (v11 : Value) (w12 : World) =>
 ∃ (t13 : Bool), v11 = Value.bool t13 ∧ IfB t13 (R (Value.int IntKind.i64 n4) w12) (([] : List Nat) = [] ∧ ∃ (b14 : Nat), b14 < b3 ∧ y1 b14 (IntKind.i64.wrap (n4 + (1 : Int))) w12))
 (R (Value.int IntKind.i64 (-1 : Int)) w5)
def F69 (t0 : Sl) (t1 : Nat × Array Value) (w : World) (R : Value → World → Prop) : Prop :=
 ∃ (y1 : Nat → Int → World → Prop),
 (∃ (b2 : Nat), y1 b2 (0 : Int) w) ∧
 ∀ (b3 : Nat) (n4 : Int) (w5 : World) (y6 : Nat → Value),
 y1 b3 n4 w5 →
 (F69j1 t0 t1 R y1 b3 n4 w5)
theorem F69_ok (t0 : Sl) (t1 : Nat × Array Value) (w : World) (R : Value → World → Prop) (h : F69 t0 t1 w R) : CW Try.prog 69 #[Value.slice t0.1 t0.2 t0.3, Value.func (Fn.func t1.1) #[] t1.2] w R :=
  call_of tbOk mixed en69 Try.func69 rfl (.node (.nil) (.node (.node (.nil) (.loop [(8, .one (.int .i64))] [9, 10, 5, 11, 12, 13, 14, 15, 16, 17, 4, 18, 8] (.nil))) (.nil))) (by kernel_rfl) (Nat.le_of_ble_eq_true (by kernel_rfl)) (Eq.mp (α := F69 t0 t1 w R) (by kernel_rfl) h)
def F54 (t0 : Sl) (t1 : Int) (t2 : Int) (w : World) (R : Value → World → Prop) : Prop :=
 ((0 : Int) ≤ t1 ∧ t1 ≤ t2 ∧ t2 ≤ (t0.2 : Int) ∧ (t0.2 : Int) ≤ (t0.3 : Int)) ∧
 IfB (t1 == t2) (R (Value.slice t0.1 t0.2 t0.3) w)
 (((0 : Int) ≤ t1 ∧ t1 ≤ (t0.3 : Int)) ∧
 ((0 : Int) ≤ t2 ∧ t2 ≤ (t0.2 : Int)) ∧
 ∃ (l1 : List Value),
 ReadC w.drew (slAddr t0.1 t0.3 t2.toNat (1 : Nat)) ((t0.2 - t2.toNat) * (1 : Nat)) l1 ∧
 AppendP tt3 (3 : Nat) w.drew
 (slAddr t0.1 t0.3 (0 : Nat) (1 : Nat)) t1.toNat t0.3 (t0.2 - t2.toNat) l1 fun (s2 : Sl) (w3 : World) =>
 ((0 : Int) ≤ (s2.2 : Int) ∧ (s2.2 : Int) ≤ (t0.2 : Int) ∧ (t0.2 : Int) ≤ (s2.3 : Int)) ∧
 match slAddr s2.1 s2.3 ((s2.2 : Int)).toNat (1 : Nat) with
 | none => R (Value.slice s2.1 s2.2 s2.3) w3
 | some ({ block := b5, off := b6, spot := none } : Addr) => StoreP w3 b5 b6 (zc #[Value.int IntKind.i64 (0 : Int)] (((t0.2 : Int)).toNat - ((s2.2 : Int)).toNat)) fun (w7 : World) => R (Value.slice s2.1 s2.2 s2.3) w7
 | some y8 => False)
theorem F54_ok (t0 : Sl) (t1 : Int) (t2 : Int) (w : World) (R : Value → World → Prop) (h : F54 t0 t1 t2 w R) : CW Try.prog 54 #[Value.slice t0.1 t0.2 t0.3, Value.int IntKind.i64 t1, Value.int IntKind.i64 t2] w R :=
  call_of tbOk mixed en54 Try.func54 rfl (.node (.nil) (.node (.nil) (.node (.nil) (.node (.nil) (.node (.draw (.st 0 (.st 1 (.st 2 (.st 3 (.st 4 (.st 5 (.ac 6 [] (.st 7 (.fin)) (.non))))))))) (.nil)))))) (by kernel_rfl) (Nat.le_of_ble_eq_true (by kernel_rfl)) (Eq.mp (α := F54 t0 t1 t2 w R) (by kernel_rfl) h)
def F32 (t0 : Sl) (w : World) (R : Value → World → Prop) : Prop :=
 CX Try.prog (30 : Nat) #[Value.slice t0.1 t0.2 t0.3] w fun (v1 : Value) (w2 : World) =>
 ∃ (x3 : Sl × Bool), v1 = Value.tuple #[Value.slice x3.fst.1 x3.fst.2 x3.fst.3, Value.bool x3.2] ∧ R (Value.bool x3.2) w2
theorem F32_ok (t0 : Sl) (w : World) (R : Value → World → Prop) (h : F32 t0 w R) : CW Try.prog 32 #[Value.slice t0.1 t0.2 t0.3] w R :=
  call_of tbOk mixed en32 Try.func32 rfl (.nil) (by kernel_rfl) (Nat.le_of_ble_eq_true (by kernel_rfl)) (Eq.mp (α := F32 t0 w R) (by kernel_rfl) h)
def F33j2 (R : Value → World → Prop) (b1 : Nat) (y3 : Nat → Int → World → Prop) (b5 : Nat) (n6 : Int) (b13 : Nat) (t21 : Bool) (w22 : World) : Prop :=
 IfB t21 (([] : List Nat) = [] ∧ ∃ (b25 : Nat), b25 < b5 ∧ y3 b25 (IntKind.i64.wrap (n6 + (1 : Int))) w22)
 (∃ (n26 : Int),
 w22.cell? ({ block := b13, off := (0 : Nat) + (0 : Nat) } : Addr) = some (Value.int IntKind.i64 n26) ∧
 MapGetP (TypeDesc.int IntKind.i64) w22 (Value.map (some b1)) (Value.int IntKind.i64 n26) (Value.bool false) fun (v27 : Value) (t28 : Bool) =>
 ∃ (t29 : Bool),
 v27 = Value.bool t29 ∧
 IfB t29 (R (Value.bool false) w22)
 (∃ (n30 : Int),
 w22.cell? ({ block := b13, off := (0 : Nat) + (0 : Nat) } : Addr) = some (Value.int IntKind.i64 n30) ∧
 MapSetP (TypeDesc.int IntKind.i64) w22 (Value.map (some b1)) (Value.int IntKind.i64 n30) (Value.bool true) fun (w31 : World) =>
 ([] : List Nat) = [] ∧ ∃ (b32 : Nat), b32 < b5 ∧ y3 b32 (IntKind.i64.wrap (n6 + (1 : Int))) w31))
def F33j1 (t0 : Sl) (R : Value → World → Prop) (b1 : Nat) (y3 : Nat → Int → World → Prop) (b5 : Nat) (n6 : Int) (w7 : World) : Prop :=
 IfB (decide (n6 < (t0.n : Int)))
 (∃ (b10 : Nat),
 ∃ (b11 : Nat),
 t0.1 = some ({ block := b10, off := b11 } : Addr) ∧
 ((0 : Int) ≤ n6 ∧ n6 < (t0.2 : Int)) ∧
 ∃ (x12 : Int × Int × Int × Bool × Sl × Sl),
 CellsAt w7 b10 (b11 + n6.toNat * (6 : Nat))
 [Value.int IntKind.i64 x12.1, Value.int IntKind.i64 x12.snd.1, Value.int IntKind.i64 x12.snd.snd.1, Value.bool x12.snd.snd.snd.1,
 Value.slice x12.snd.snd.snd.snd.fst.1 x12.snd.snd.snd.snd.fst.2 x12.snd.snd.snd.snd.fst.3, Value.slice x12.snd.snd.snd.snd.snd.1 x12.snd.snd.snd.snd.snd.2 x12.snd.snd.snd.snd.snd.3] ∧
 AllocP w7
 (Obj.cells
 #[Value.int IntKind.i64 (0 : Int), Value.int IntKind.i64 (0 : Int), Value.int IntKind.i64 (0 : Int), Value.bool false, Value.slice none (0 : Nat) (0 : Nat), Value.slice none (0 : Nat) (0 : Nat)]
 (27 : Nat))
 fun (b13 : Nat) (w14 : World) =>
 #[Value.int IntKind.i64 x12.1, Value.int IntKind.i64 x12.snd.1, Value.int IntKind.i64 x12.snd.snd.1, Value.bool x12.snd.snd.snd.1,
 Value.slice x12.snd.snd.snd.snd.fst.1 x12.snd.snd.snd.snd.fst.2 x12.snd.snd.snd.snd.fst.3, Value.slice x12.snd.snd.snd.snd.snd.1 x12.snd.snd.snd.snd.snd.2 x12.snd.snd.snd.snd.snd.3].size =
 (6 : Nat) ∧
 StoreP w14 b13 (0 : Nat)
 [Value.int IntKind.i64 x12.1, Value.int IntKind.i64 x12.snd.1, Value.int IntKind.i64 x12.snd.snd.1, Value.bool x12.snd.snd.snd.1,
 Value.slice x12.snd.snd.snd.snd.fst.1 x12.snd.snd.snd.snd.fst.2 x12.snd.snd.snd.snd.fst.3, Value.slice x12.snd.snd.snd.snd.snd.1 x12.snd.snd.snd.snd.snd.2 x12.snd.snd.snd.snd.snd.3]
 fun (w15 : World) =>
 ∃ (y16 : Bool → World → Prop),
 IfB (decide ((0 : Int) < n6))
 (∃ (b17 : Nat),
 ∃ (b18 : Nat),
 t0.1 = some ({ block := b17, off := b18 } : Addr) ∧
 ((0 : Int) ≤ IntKind.i64.wrap (n6 - (1 : Int)) ∧ IntKind.i64.wrap (n6 - (1 : Int)) < (t0.2 : Int)) ∧
 ∃ (n19 : Int),
 w15.drew.cell? ({ block := b17, off := b18 + (IntKind.i64.wrap (n6 - (1 : Int))).toNat * (6 : Nat) + (0 : Nat) } : Addr) = some (Value.int IntKind.i64 n19) ∧
 ∃ (n20 : Int), w15.drew.cell? ({ block := b13, off := (0 : Nat) + (0 : Nat) } : Addr) = some (Value.int IntKind.i64 n20) ∧ ([] : List Nat) = [] ∧ y16 (n19 == n20) w15.drew)
 (([] : List Nat) = [] ∧ y16 false w15.drew) ∧
 ∀ (t21 : Bool) (w22 : World) (y23 : Nat → Value),
 y16 t21 w22 →
 (F33j2 R b1 y3 b5 n6 b13 t21 w22))
 (R (Value.bool true) w7)
def F33 (t0 : Sl) (w : World) (R : Value → World → Prop) : Prop :=
 AllocP w (Obj.map #[] (0 : Nat)) fun (b1 : Nat) (w2 : World) =>
 ∃ (y3 : Nat → Int → World → Prop),
 (∃ (b4 : Nat), y3 b4 (0 : Int) w2) ∧
 ∀ (b5 : Nat) (n6 : Int) (w7 : World) (y8 : Nat → Value),
 y3 b5 n6 w7 →
 (F33j1 t0 R b1 y3 b5 n6 w7)
theorem F33_ok (t0 : Sl) (w : World) (R : Value → World → Prop) (h : F33 t0 w R) : CW Try.prog 33 #[Value.slice t0.1 t0.2 t0.3] w R :=
  call_of tbOk mixed en33 Try.func33 rfl (.node (.nil) (.node (.nil) (.node (.node (.nil) (.loop [(9, .one (.int .i64))] [10, 11, 12, 13, 5, 4, 14, 15, 16, 17, 18, 19, 20, 21, 22, 23, 24, 25, 26, 27, 28, 29, 30, 2, 31, 32, 33, 34, 9] (.node (.nil) (.node (.nil) (.node (.node (.nil) (.node (.join [(26, .one (.bool))] [14, 15, 16, 17, 18, 19, 20, 21, 22, 23, 24, 25, 26] (.draw (.st 0 (.st 1 (.st 2 (.st 3 (.st 4 (.st 5 (.st 6 (.st 7 (.st 8 (.st 9 (.st 10 (.st 11 (.st 12 (.fin))))))))))))))) (.nil)) (.nil))) (.nil)))))) (.nil)))) (by kernel_rfl) (Nat.le_of_ble_eq_true (by kernel_rfl)) (Eq.mp (α := F33 t0 w R) (by kernel_rfl) h)
def F20 (w : World) (R : Value → World → Prop) : Prop :=
 (1 : Nat) * (2 : Nat) ≤ (16777216 : Nat) ∧
 AllocP w (Obj.cells #[Value.int IntKind.i64 (5 : Int), Value.int IntKind.i64 (5 : Int)] (51 : Nat)) fun (b1 : Nat) (w2 : World) =>
 (1 : Nat) * (2 : Nat) ≤ (16777216 : Nat) ∧
 AllocP w2 (Obj.cells #[Value.int IntKind.i64 (6 : Int), Value.int IntKind.i64 (6 : Int)] (51 : Nat)) fun (b3 : Nat) (w4 : World) =>
 (4 : Nat) * (6 : Nat) ≤ (16777216 : Nat) ∧
 AllocP w4
 (Obj.cells
 #[Value.int IntKind.i64 (1 : Int), Value.int IntKind.i64 (0 : Int), Value.int IntKind.i64 (0 : Int), Value.bool false, Value.slice none (0 : Nat) (0 : Nat),
 Value.slice (some ({ block := b1, off := (0 : Nat) } : Addr)) (1 : Nat) (1 : Nat), Value.int IntKind.i64 (2 : Int), Value.int IntKind.i64 (0 : Int), Value.int IntKind.i64 (0 : Int), Value.bool false,
 Value.slice none (0 : Nat) (0 : Nat), Value.slice (some ({ block := b1, off := (0 : Nat) } : Addr)) (1 : Nat) (1 : Nat), Value.int IntKind.i64 (2 : Int), Value.int IntKind.i64 (0 : Int),
 Value.int IntKind.i64 (0 : Int), Value.bool false, Value.slice none (0 : Nat) (0 : Nat), Value.slice (some ({ block := b3, off := (0 : Nat) } : Addr)) (1 : Nat) (1 : Nat), Value.int IntKind.i64 (1 : Int),
 Value.int IntKind.i64 (0 : Int), Value.int IntKind.i64 (0 : Int), Value.bool false, Value.slice none (0 : Nat) (0 : Nat), Value.slice (some ({ block := b3, off := (0 : Nat) } : Addr)) (1 : Nat) (1 : Nat)]
 (27 : Nat))
 fun (b5 : Nat) (w6 : World) =>
 CX Try.prog (21 : Nat) #[Value.slice (some ({ block := b5, off := (0 : Nat) } : Addr)) (4 : Nat) (4 : Nat)] w6 fun (v7 : Value) (w8 : World) =>
 ∃ (s9 : Sl),
 v7 = Value.slice s9.1 s9.2 s9.3 ∧
 IfB ((s9.2 : Int) == (2 : Int))
 (CX Try.prog (32 : Nat) #[Value.slice (some ({ block := b5, off := (0 : Nat) } : Addr)) (4 : Nat) (4 : Nat)] w8 fun (v10 : Value) (w11 : World) =>
 ∃ (t12 : Bool),
 v10 = Value.bool t12 ∧
 IfB (!t12)
 (((0 : Int) ≤ (3 : Int) ∧ (3 : Int) ≤ ((4 : Nat) : Int)) ∧
 CX Try.prog (32 : Nat) #[Value.slice (slAddr (some ({ block := b5, off := (0 : Nat) } : Addr)) (4 : Nat) (0 : Nat) (6 : Nat)) (Int.toNat (3 : Int)) (4 : Nat)] w11
 fun (v13 : Value) (w14 : World) => ∃ (t15 : Bool), v13 = Value.bool t15 ∧ R (Value.bool t15) w14)
 (R (Value.bool false) w11))
 (R (Value.bool false) w8)
theorem F20_ok (w : World) (R : Value → World → Prop) (h : F20  w R) : CW Try.prog 20 #[] w R :=
  call_of tbOk mixed en20 Try.func20 rfl (.nil) (by kernel_rfl) (Nat.le_of_ble_eq_true (by kernel_rfl)) (Eq.mp (α := F20  w R) (by kernel_rfl) h)
end Go.Proofs.Ytmmhbjbaallkfaa.Gx

/- Package serial: Ahead. -/
namespace Go.Proofs.Ytmmhbjbaallkfaa.Gx
open Go
set_option linter.unusedSimpArgs false
set_option linter.unusedVariables false
theorem pairT : PairT Try.prog 44 3 := ⟨⟨tt3, tbOk 3 tt3 rfl, rfl, rfl⟩, Try.underlying44, Try.underlying3⟩
/-- What cmp.Compare tells. -/
def cmpV (x y : Int) : Int := if x < y then -1 else if y < x then 1 else 0
theorem cmpC (x y : Int) (w : World) : CW Try.prog 46 #[.int .i64 x, .int .i64 y] w fun v w' => v = iv (cmpV x y) ∧ w = w' := by
  refine F46_ok _ _ _ _ ((c63 x w).use ?_)
  rintro _ _ ⟨rfl, rfl⟩
  refine ⟨false, rfl, (c63 y w).use ?_⟩
  rintro _ _ ⟨rfl, rfl⟩
  refine ⟨false, rfl, IfB.no rfl (IfB.no rfl (IfB.dec (fun h => ⟨?_, rfl⟩) fun h => IfB.dec (fun h' => ⟨?_, rfl⟩) fun h' => ⟨?_, rfl⟩))⟩
  · unfold cmpV; rw [if_pos h]
  · unfold cmpV; rw [if_neg h, if_pos h']
  · unfold cmpV; rw [if_neg h, if_neg h']
theorem c45 {w : World} {t : Sl} {a b : Int} (h : Rd w t 1 ([a, b].map iv)) : CW Try.prog 45 #[slV t] w fun v w' => v = iv (if a ≠ 0 then a else b) ∧ w = w' := by
  have hn : t.n = 2 := by rw [h.len1]; rfl
  obtain ⟨b0, o0, hp0, hc0⟩ := h.elem1 (i := 0) (v := iv a) rfl
  obtain ⟨b1, o1, hp1, hc1⟩ := h.elem1 (i := 1) (v := iv b) rfl
  refine F45_ok t w _ ⟨fun m x W => w = W ∧ ((x = 0 ∧ m = 2) ∨ (x = 1 ∧ m = 1 ∧ a = 0) ∨ (x = 2 ∧ m = 0 ∧ a = 0 ∧ b = 0)), ⟨2, rfl, .inl ⟨rfl, rfl⟩⟩, ?_⟩
  rintro m x _ g ⟨rfl, h'⟩
  unfold F45j1
  rcases h' with ⟨rfl, rfl⟩ | ⟨rfl, rfl, ha⟩ | ⟨rfl, rfl, ha, hb⟩
  · refine IfB.yes (by simp [hn]) ⟨b0, o0, hp0, ⟨by omega, by omega⟩, a, hc0, IfB.intro (fun hne => ⟨?_, rfl⟩) fun he => ⟨rfl, 1, by omega, rfl, .inr (.inl ⟨rfl, rfl, ?_⟩)⟩⟩
    · rw [if_pos (by simpa using hne)]
    · simpa using he
  · refine IfB.yes (by simp [hn]) ⟨b1, o1, hp1, ⟨by omega, by omega⟩, b, hc1, IfB.intro (fun hne => ⟨?_, rfl⟩) fun he => ⟨rfl, 0, by omega, rfl, .inr (.inr ⟨rfl, rfl, ha, ?_⟩)⟩⟩
    · rw [if_neg (by simpa using ha)]
    · simpa using he
  · refine IfB.no (by simp [hn]) ⟨?_, rfl⟩
    rw [if_neg (by simpa using ha), hb]
theorem c44 : SfP.CmpP (44, #[]) := by
  intro x y w hx hy
  refine F44_ok x y w _ fun b1 w2 h2 b3 w4 h4 => ?_
  have ed := extDrew w4
  have H1 := ed.at (h4.at h2.new)
  have H3 := ed.at h4.new
  refine ⟨by omega, x.1, by rw [cell_of H1]; rfl, by omega, y.1, by rw [cell_of H3]; rfl, by omega, x.2, by rw [cell_of H1]; rfl, by omega, y.2, by rw [cell_of H3]; rfl, (cmpC _ _ _).use ?_⟩
  rintro _ _ ⟨rfl, rfl⟩
  refine ⟨_, rfl, by rw [cell_of H3]; rfl, by rw [cell_of H1]; rfl, (cmpC _ _ _).use ?_⟩
  rintro _ _ ⟨rfl, rfl⟩
  refine ⟨_, rfl, by decide, fun b15 w16 a16 => (c45 (a := cmpV x.1 y.1) (b := cmpV x.2 y.2) (OwS.new (cs := [iv (cmpV x.1 y.1), iv (cmpV x.2 y.2)]) (n := 2) (sz := 1) a16 rfl).rd).use ?_⟩
  rintro _ _ ⟨rfl, rfl⟩
  refine ⟨_, rfl, _, rfl, ?_, ((h2.ch _).trans (h4.ch _)).trans (ed.trans (a16.ch _))⟩
  unfold SfP.key cmpV
  unfold SfP.Q at hx hy
  split <;> (repeat' split at *) <;> omega
/-- One saga is ahead of another one, as far as the loops came. -/
def ahQ (hs : List Nd) (i kk : Nat) (p : Int × Int) : Prop := ∃ (k j : Nat) (a b : Nd), k < j ∧ (j < i ∨ (j = i ∧ k < kk)) ∧ hs[k]? = some a ∧ hs[j]? = some b ∧ p = (a.v.1, b.v.1) ∧ cnfP a b
def AhP (hs : List Nd) (p : Int × Int) : Prop := ∃ (k j : Nat) (a b : Nd), k < j ∧ hs[k]? = some a ∧ hs[j]? = some b ∧ p = (a.v.1, b.v.1) ∧ cnfP a b
theorem ahQ_zero {hs : List Nd} (p : Int × Int) : ¬ ahQ hs 0 0 p := by
  rintro ⟨k, j, a, b, h1, h2, _⟩; omega
theorem ahQ_row {hs : List Nd} {i : Nat} (p : Int × Int) : ahQ hs (i + 1) 0 p ↔ ahQ hs i i p := by
  constructor
  · rintro ⟨k, j, a, b, h1, h2, h3⟩; exact ⟨k, j, a, b, h1, by omega, h3⟩
  · rintro ⟨k, j, a, b, h1, h2, h3⟩; exact ⟨k, j, a, b, h1, by omega, h3⟩
theorem ahQ_all {hs : List Nd} (p : Int × Int) : ahQ hs hs.length 0 p ↔ AhP hs p := by
  constructor
  · rintro ⟨k, j, a, b, h1, _, h3⟩; exact ⟨k, j, a, b, h1, h3⟩
  · rintro ⟨k, j, a, b, h1, h3, h4, h5⟩
    have := (List.getElem?_eq_some_iff.1 h4).1
    exact ⟨k, j, a, b, h1, by omega, h3, h4, h5⟩
theorem ahQ_step {hs : List Nd} {i k : Nat} {a b : Nd} (hk : k < i) (ha : hs[k]? = some a) (hb : hs[i]? = some b) (p : Int × Int) : ahQ hs i (k + 1) p ↔ ahQ hs i k p ∨ (p = (a.v.1, b.v.1) ∧ cnfP a b) := by
  constructor
  · rintro ⟨k', j, a', b', h1, h2, h3, h4, h5⟩
    by_cases he : j = i ∧ k' = k
    · obtain ⟨rfl, rfl⟩ := he
      rw [ha] at h3; rw [hb] at h4
      cases h3; cases h4
      exact .inr h5
    · exact .inl ⟨k', j, a', b', h1, by omega, h3, h4, h5⟩
  · rintro (⟨k', j, a', b', h1, h2, h3⟩ | h)
    · exact ⟨k', j, a', b', h1, by omega, h3⟩
    · exact ⟨k, i, a, b, hk, by omega, ha, hb, h⟩
/-- Sagas are numbers of the machine. -/
def SgR (hs : List Nd) : Prop := ∀ n ∈ hs, -9223372036854775808 ≤ n.v.1 ∧ n.v.1 ≤ 9223372036854775807
theorem AhP.q {hs : List Nd} (hq : SgR hs) {p : Int × Int} (h : AhP hs p) : SfP.Q p := by
  obtain ⟨k, j, a, b, _, h1, h2, rfl, _⟩ := h
  exact ⟨hq a (List.mem_of_getElem? h1), hq b (List.mem_of_getElem? h2)⟩
theorem c21 {w : World} {t : Sl} {hs : List Nd} (hH : Hst w t hs) (hl : hs.length ≤ 1000) (hq : SgR hs) :
    CW Try.prog 21 #[slV t] w fun v w' => ∃ t', ∃ xs : List (Int × Int), v = slV t' ∧ xs.Pairwise (fun x y => SfP.key x < SfP.key y) ∧ (∀ p, p ∈ xs ↔ AhP hs p) ∧ xs.length ≤ 1000000 ∧ OwS w' t' 2 (xs.flatMap sv) ∧ Ext w w' ∧ ∀ j ∈ blk t', w.heap.size ≤ j := by
  have htn := hH.n
  refine F21_ok t w _ fun b1 w2 a2 => ?_
  have e2 : Ext w w2 := a2.ch _
  have p2 := a2.here
  have hL : hs.length * hs.length ≤ 1000000 := Nat.le_trans (Nat.mul_le_mul hl hl) (by decide)
  -- what holds in both loops
  let I : Nat → Nat → Sl → List (Int × Int) → World → Prop := fun i kk so xs W => OwS W so 2 (xs.flatMap sv) ∧ PrS W b1 xs ∧ xs.Nodup ∧ (∀ p, p ∈ xs ↔ ahQ hs i kk p) ∧ xs.length ≤ i * hs.length + kk ∧ Ext w W ∧ (∀ j ∈ blk so, w.heap.size < j)
  refine ⟨fun m x W => ∃ (i : Nat) (so : Sl) (xs : List (Int × Int)), i ≤ hs.length ∧ m + i = hs.length ∧ x = (so, (i : Int)) ∧ I i 0 so xs W, ⟨hs.length, 0, ⟨none, 0, 0⟩, [], Nat.zero_le _, rfl, rfl, .nil _ _, .new a2, .nil, fun p => ⟨fun h => (by cases h), fun h => absurd h (ahQ_zero p)⟩, by simp, e2, by simp [blk]⟩, ?_⟩
  rintro m _ W g ⟨i, so, xs, hi, hmi, rfl, hO, hM, hnd, hmem, hxl, hE, hb⟩
  unfold F21j1
  refine IfB.dec (fun hlt => ?_) fun hge => ?_
  · have hi' : i < hs.length := by dsimp only at hlt; omega
    have hiL : (i + 1) * hs.length = i * hs.length + hs.length := Nat.succ_mul _ _
    have hiL2 : (i + 1) * hs.length ≤ 1000000 := Nat.le_trans (Nat.mul_le_mul_right _ hi') hL
    have hx : hs[i]? = some hs[i] := List.getElem?_eq_getElem hi'
    generalize hs[i] = nb at hx
    obtain ⟨a, o, hp, hc⟩ := (hH.ext hE).at hx
    refine ⟨a, o, hp, (⟨by omega, by omega⟩ : (0 : Int) ≤ (i : Int) ∧ (i : Int) < (t.n : Int)), nb.v, by rw [Int.toNat_natCast]; exact hc, boxNd rfl fun b13 w15 hb13 hs15 h15 e15 _ => ⟨(⟨by omega, by have := hH.cap; omega⟩ : (0 : Int) ≤ (i : Int) ∧ (i : Int) ≤ (t.c : Int)), ?_⟩⟩
    refine ⟨fun n x W' => ∃ (k : Nat) (so : Sl) (xs : List (Int × Int)), k ≤ i ∧ n + k = i ∧ x = (so, (k : Int)) ∧ I i k so xs W' ∧ W'.heap[b13]? = some (.cells (nC nb.v).toArray 27 (0, 0)) ∧ (∀ j ∈ blk so, j ≠ b13),
      ⟨i, 0, so, xs, Nat.zero_le _, rfl, rfl, ⟨hO.ext e15, hM.ext e15, hnd, hmem, hxl, hE.trans e15, hb⟩, h15, fun j hj e => by have := hO.lt j hj; omega⟩, ?_⟩
    rintro n _ w20 g ⟨k, so', ys, hk, hnk, rfl, ⟨hO', hM', hnd', hmem', hyl, hE', hb'⟩, h13, hb13'⟩
    have hon := owsN sv_len (by omega) hO'
    unfold F21j2
    dsimp only
    rw [Int.toNat_natCast]
    refine IfB.dec (fun hlt2 => ?_) fun hge2 => ?_
    · have hk' : k < i := by omega
      have hy : hs[k]? = some hs[k] := List.getElem?_eq_getElem (by omega)
      generalize hs[k] = na at hy
      have hW := hH.ext hE'
      obtain ⟨a2', o2, hp2, hc2⟩ := hW.at hy
      have hstep := ahQ_step hk' hy hx
      have w1 : IntKind.i64.wrap ((k : Int) + 1) = ((k + 1 : Nat) : Int) := by rw [wrap_of (by omega) (by omega)]; rfl
      unfold F21k1
      dsimp only
      rw [slAddr_zero, Int.toNat_natCast]
      refine ⟨a2', o2, hp2, ⟨by omega, hlt2⟩, na.v, by rw [Int.toNat_natCast]; exact hc2, boxNd rfl fun b26 w28 hb26 hs28 h28 e28 _ => ⟨na.v.1, by rw [cell_of h28]; rfl, nb.v.1, by rw [cell_of (e28.at h13)]; rfl, boxSp (x := (na.v.1, nb.v.1)) rfl fun b31 w33 hb31 hs33 h33 e33 _ => ⟨(na.v.1, nb.v.1), cellsAt_of h33 fun q v hv => by simpa using hv, ?_⟩⟩⟩
      have e2033 : Ext w20 w33 := e28.trans e33
      have stay : ∀ {W' : World}, Ext w20 W' → (∀ p, p ∈ ys ↔ ahQ hs i (k + 1) p) → ∃ b53, b53 < n ∧ ∃ (k' : Nat) (so : Sl) (xs : List (Int × Int)), k' ≤ i ∧ b53 + k' = i ∧ (({ p := so'.1, n := so'.2, c := so'.3 } : Sl), IntKind.i64.wrap ((k : Int) + 1)) = (so, (k' : Int)) ∧ I i k' so xs W' ∧ W'.heap[b13]? = some (.cells (nC nb.v).toArray 27 (0, 0)) ∧ (∀ j ∈ blk so, j ≠ b13) := fun {W'} e hm =>
        ⟨n - 1, by omega, k + 1, so', ys, hk', by omega, by rw [w1], ⟨hO'.ext e, hM'.ext e, hnd', hm, by omega, hE'.trans e, hb'⟩, e.at h13, hb13'⟩
      refine (hM'.ext e2033).get pairT (na.v.1, nb.v.1) (fun hin => ⟨true, rfl, IfB.no rfl ⟨rfl, stay e2033 fun p => ?_⟩⟩) fun hno => ⟨false, rfl, IfB.yes rfl ⟨na.v, cellsAt_of (e33.at h28) fun q v hv => by simpa using hv, nb.v, cellsAt_of (e2033.at h13) fun q v hv => by simpa using hv, (c42 ((hW.get hy).ext e2033) ((hW.get hx).ext e2033)).use ?_⟩⟩
      · rw [hstep, ← hmem']
        exact ⟨.inl, fun h => h.elim id fun h => h.1 ▸ hin⟩
      · rintro _ w41 ⟨r, rfl, hr, e41⟩
        have e2041 : Ext w20 w41 := e2033.trans e41
        refine ⟨r, rfl, IfB.intro (fun h => ⟨(na.v.1, nb.v.1), cellsAt_of (e41.at h33) fun q v hv => by simpa using hv, ?_⟩) fun h => ⟨rfl, stay e2041 fun p => ?_⟩⟩
        · refine (hM'.ext e2041).put pairT hno fun w44 hM44 hC44 => ?_
          have hb1l := (hM'.ext e2041).lt
          have z1 := e2041.size; have z2 := hE'.size
          have x44 : Ext w w44 := (hE'.trans e2041).chN hC44 fun j e => by omega
          have n31 : b31 ≠ b1 := by have := hM'.lt; have := e28.size; omega
          refine ⟨(na.v.1, nb.v.1), cellsAt_of (hC44.at (e41.at h33) n31) fun q v hv => by simpa using hv, by decide, fun b46 w47 a47 => ?_⟩
          have e47 : Ext w44 w47 := a47.ch _
          have z47 := e47.size; have z44 := hC44.size
          have hO47 := ((hO'.ext e2041).ch hC44 fun j hj e => by have := hb' j hj; omega).ext e47
          refine hO47.lit (new := sv (na.v.1, nb.v.1)) (T' := 44) a47.new rfl (sv_one _) rfl rfl (by omega) (by decide) fun s' w' ho' hn' hC' hbk => ⟨rfl, n - 1, by omega, k + 1, s', ys ++ [(na.v.1, nb.v.1)], hk', by omega, by rw [w1], ⟨?_, ?_, ?_, fun p => ?_, by rw [List.length_append, List.length_singleton]; omega, (x44.trans e47).chN hC' fun j hj => by have := hb' j hj; omega, ?_⟩, ?_, ?_⟩
          · rw [List.flatMap_append]; simpa using ho'
          · exact (hM44.ext e47).ch hC' fun hj => by have := hb' b1 hj; omega
          · rw [List.nodup_append]
            exact ⟨hnd', by simp, fun x hx' y hy' e => hno (by rw [List.mem_singleton.1 hy'] at e; rw [← e]; exact hx')⟩
          · rw [List.mem_append, List.mem_singleton, hmem', hstep]
            exact or_congr Iff.rfl ⟨fun e => ⟨e, hr.1 h⟩, fun e => e.1⟩
          · intro j hj
            rcases hbk j hj with h' | h'
            · exact hb' j h'
            · omega
          · have n13 : b13 ≠ b1 := by have := hM.lt; omega
            exact hC'.at (e47.at (hC44.at (e2041.at h13) n13)) fun hj => hb13' b13 hj rfl
          · intro j hj
            rcases hbk j hj with h' | h'
            · exact hb13' j h'
            · have := heap_lt h13; omega
        · rw [hstep, ← hmem']
          refine ⟨.inl, fun h' => h'.elim id fun h' => ?_⟩
          rw [hr.2 h'.2] at h; cases h
    · have hk' : k = i := by omega
      subst hk'
      exact ⟨rfl, m - 1, by omega, k + 1, so', ys, hi', by omega, by rw [wrap_of (by omega) (by omega)]; rfl, hO', hM', hnd', fun p => (hmem' p).trans (ahQ_row p).symm, by omega, hE', hb'⟩
  · have hi' : i = hs.length := by dsimp only at hge; omega
    subst hi'
    have hm : ∀ p, p ∈ xs ↔ AhP hs p := fun p => (hmem p).trans (ahQ_all p)
    refine (SfP.c43 c44 hO (by omega) fun x hx => ((hm x).1 hx).q hq).use ?_
    rintro _ w56 ⟨rfl, ys, hperm, hsort, hO56, hC56⟩
    refine ⟨(), rfl, so, ys, rfl, ?_, fun p => hperm.mem_iff.trans (hm p), by rw [hperm.length_eq]; omega, hO56, hE.chN hC56 fun j hj => by have := hb j hj; omega, fun j hj => by have := hb j hj; omega⟩
    have hnd2 : ys.Nodup := hperm.nodup_iff.2 hnd
    refine (hsort.and (List.pairwise_iff_forall_sublist.2 ?_)).imp (R := fun x y => SfP.key x ≤ SfP.key y ∧ SfP.key x ≠ SfP.key y) fun ⟨h1, h2⟩ => by omega
    intro x y hxy he
    have hxm : x ∈ ys := hxy.subset (by simp)
    have hym : y ∈ ys := hxy.subset (by simp)
    have q1 := ((hm x).1 (hperm.mem_iff.1 hxm)).q hq
    have q2 := ((hm y).1 (hperm.mem_iff.1 hym)).q hq
    have hxe : x = y := by
      unfold SfP.key at he
      unfold SfP.Q at q1 q2
      rw [Prod.ext_iff]; omega
    have := (List.pairwise_iff_forall_sublist.1 hnd2) hxy
    exact this hxe
end Go.Proofs.Ytmmhbjbaallkfaa.Gx

/- Written by mkf.py: what is to be shown of functions, as Gx reckons it from their code. -/
namespace Go.Proofs.Ytmmhbjbaallkfaa.Gx
open Go
set_option linter.unusedVariables false
set_option maxRecDepth 100000
def F50j2 (t0 : Sl) (R : Value → World → Prop) (n4 : Int) (y14 : Nat → Int × Int → World → Prop) (b16 : Nat) (x17 : Int × Int) (w18 : World) : Prop :=
 IfB (decide (x17.snd < (((t0.n - n4.toNat : Nat) : Int) : Int)))
 (∃ (b21 : Nat),
 ∃ (b22 : Nat),
 slAddr t0.1 t0.3 n4.toNat (1 : Nat) = some ({ block := b21, off := b22 } : Addr) ∧
 ((0 : Int) ≤ x17.2 ∧ x17.2 < ((t0.2 - n4.toNat : Nat) : Int)) ∧
 ∃ (n23 : Int),
 w18.drew.cell? ({ block := b21, off := b22 + x17.2.toNat } : Addr) = some (Value.int IntKind.i64 n23) ∧
 ∃ (b24 : Nat),
 ∃ (b25 : Nat),
 slAddr t0.1 t0.3 n4.toNat (1 : Nat) = some ({ block := b24, off := b25 } : Addr) ∧
 ((0 : Int) ≤ IntKind.i64.wrap (x17.2 - (1 : Int)) ∧ IntKind.i64.wrap (x17.2 - (1 : Int)) < ((t0.2 - n4.toNat : Nat) : Int)) ∧
 ∃ (n26 : Int),
 w18.drew.cell? ({ block := b24, off := b25 + (IntKind.i64.wrap (x17.2 - (1 : Int))).toNat } : Addr) = some (Value.int IntKind.i64 n26) ∧
 IfB (n23 != n26)
 (∃ (b27 : Nat),
 ∃ (b28 : Nat),
 slAddr t0.1 t0.3 n4.toNat (1 : Nat) = some ({ block := b27, off := b28 } : Addr) ∧
 ((0 : Int) ≤ x17.2 ∧ x17.2 < ((t0.2 - n4.toNat : Nat) : Int)) ∧
 ∃ (n29 : Int),
 w18.drew.cell? ({ block := b27, off := b28 + x17.2.toNat } : Addr) = some (Value.int IntKind.i64 n29) ∧
 ∃ (b30 : Nat),
 ∃ (b31 : Nat),
 t0.1 = some ({ block := b30, off := b31 } : Addr) ∧
 ((0 : Int) ≤ x17.1 ∧ x17.1 < (t0.2 : Int)) ∧
 #[Value.int IntKind.i64 n29].size = (1 : Nat) ∧
 StoreP w18.drew b30 (b31 + x17.1.toNat) [Value.int IntKind.i64 n29] fun (w32 : World) =>
 ([] : List Nat) = [] ∧ ∃ (b33 : Nat), b33 < b16 ∧ y14 b33 (IntKind.i64.wrap (x17.1 + (1 : Int)), IntKind.i64.wrap (x17.2 + (1 : Int))) w32)
 (([] : List Nat) = [] ∧ ∃ (b34 : Nat), b34 < b16 ∧ y14 b34 (x17.1, IntKind.i64.wrap (x17.2 + (1 : Int))) w18.drew))
 (((0 : Int) ≤ x17.1 ∧ x17.1 ≤ (t0.2 : Int)) ∧
 match slAddr t0.1 t0.3 x17.1.toNat (1 : Nat) with
 | none => ((0 : Int) ≤ x17.1 ∧ x17.1 ≤ (t0.3 : Int)) ∧ R (Value.slice (slAddr t0.1 t0.3 (0 : Nat) (1 : Nat)) x17.1.toNat t0.3) w18
 | some ({ block := b36, off := b37, spot := none } : Addr) => StoreP w18 b36 b37 (zc #[Value.int IntKind.i64 (0 : Int)] (t0.2 - x17.1.toNat)) fun (w38 : World) => ((0 : Int) ≤ x17.1 ∧ x17.1 ≤ (t0.3 : Int)) ∧ R (Value.slice (slAddr t0.1 t0.3 (0 : Nat) (1 : Nat)) x17.1.toNat t0.3) w38
 | some y39 => False)
def F50j1 (t0 : Sl) (R : Value → World → Prop) (y1 : Nat → Int → World → Prop) (b3 : Nat) (n4 : Int) (w5 : World) : Prop :=
 IfB (decide (n4 < (t0.n : Int)))
 (∃ (b8 : Nat),
 ∃ (b9 : Nat),
 t0.1 = some ({ block := b8, off := b9 } : Addr) ∧
 ((0 : Int) ≤ n4 ∧ n4 < (t0.2 : Int)) ∧
 ∃ (n10 : Int),
 w5.drew.cell? ({ block := b8, off := b9 + n4.toNat } : Addr) = some (Value.int IntKind.i64 n10) ∧
 ∃ (b11 : Nat),
 ∃ (b12 : Nat),
 t0.1 = some ({ block := b11, off := b12 } : Addr) ∧
 ((0 : Int) ≤ IntKind.i64.wrap (n4 - (1 : Int)) ∧ IntKind.i64.wrap (n4 - (1 : Int)) < (t0.2 : Int)) ∧
 ∃ (n13 : Int),
 w5.drew.cell? ({ block := b11, off := b12 + (IntKind.i64.wrap (n4 - (1 : Int))).toNat } : Addr) = some (Value.int IntKind.i64 n13) ∧
 IfB (n10 == n13)
 (((0 : Int) ≤ n4 ∧ n4 ≤ (t0.2 : Int)) ∧
 ∃ (y14 : Nat → Int × Int → World → Prop),
 (∃ (b15 : Nat), y14 b15 (n4, (1 : Int)) w5.drew) ∧
 ∀ (b16 : Nat) (x17 : Int × Int) (w18 : World) (y19 : Nat → Value),
 y14 b16 x17 w18 →
 (F50j2 t0 R n4 y14 b16 x17 w18))
 (([] : List Nat) = [] ∧ ∃ (b40 : Nat), b40 < b3 ∧ y1 b40 (IntKind.i64.wrap (n4 + (1 : Int))) w5.drew))
 (R (Value.slice t0.1 t0.2 t0.3) w5)
def F50 (t0 : Sl) (w : World) (R : Value → World → Prop) : Prop :=
 IfB (decide ((t0.n : Int) < (2 : Int))) (R (Value.slice t0.1 t0.2 t0.3) w)
 (∃ (y1 : Nat → Int → World → Prop),
 (∃ (b2 : Nat), y1 b2 (1 : Int) w) ∧
 ∀ (b3 : Nat) (n4 : Int) (w5 : World) (y6 : Nat → Value),
 y1 b3 n4 w5 →
 (F50j1 t0 R y1 b3 n4 w5))
theorem F50_ok (t0 : Sl) (w : World) (R : Value → World → Prop) (h : F50 t0 w R) : CW Try.prog 50 #[Value.slice t0.1 t0.2 t0.3] w R :=
  call_of tbOk mixed en50 Try.func50 rfl (.node (.nil) (.node (.nil) (.node (.node (.nil) (.loop [(3, .one (.int .i64))] [10, 11, 12, 13, 16, 17, 18, 19, 20, 21, 22, 23, 24, 25, 26, 27, 28, 4, 5, 29, 30, 31, 32, 35, 36, 37, 38, 39, 40, 41, 42, 43, 44, 45, 46, 47, 48, 49, 50, 51, 52, 53, 3, 33, 34, 54, 55, 56, 57, 58, 59, 2, 14, 15] (.node (.nil) (.node (.node (.draw (.st 0 (.st 1 (.st 2 (.st 3 (.st 4 (.st 5 (.st 6 (.st 7 (.st 8 (.st 9 (.fin)))))))))))) (.node (.node (.nil) (.node (.node (.nil) (.loop [(3, .one (.int .i64)), (5, .one (.int .i64))] [29, 30, 31, 32, 35, 36, 37, 38, 39, 40, 41, 42, 43, 44, 45, 46, 47, 48, 49, 50, 51, 52, 53, 3, 33, 34, 5] (.node (.nil) (.node (.node (.draw (.st 0 (.st 1 (.st 2 (.st 3 (.st 4 (.st 5 (.st 6 (.st 7 (.st 8 (.st 9 (.fin)))))))))))) (.nil)) (.nil))))) (.nil))) (.nil))) (.nil))))) (.nil)))) (by kernel_rfl) (Nat.le_of_ble_eq_true (by kernel_rfl)) (Eq.mp (α := F50 t0 w R) (by kernel_rfl) h)
end Go.Proofs.Ytmmhbjbaallkfaa.Gx

/- slices.Compact of ints. -/
namespace Go.Proofs.Ytmmhbjbaallkfaa.Gx
open Go
set_option linter.unusedSimpArgs false
set_option linter.unusedVariables false
theorem c50 {w : World} {t : Sl} {xs : List Int} (ho : OwS w t 1 (xs.map iv)) (hl : xs.length ≤ 1000000) : CW Try.prog 50 #[slV t] w fun v w' => ∃ t', v = slV t' ∧ OwS w' t' 1 ((compactL xs).map iv) ∧ t'.p = t.p ∧ Ch (fun i => i ∈ blk t) w w' := by
  have hn := owsI ho
  have hcap := ho.cap
  refine F50_ok t w _ (IfB.dec (fun h2 => ?_) fun h2 => ?_)
  · have : compactL xs = xs := by
      match xs, hn with
      | [], _ => rfl
      | [x], _ => rfl
      | x :: y :: l, hn => simp at hn; omega
    exact ⟨t, rfl, by rw [this]; exact ho, rfl, Ch.refl _ _⟩
  · have hx2 : 2 ≤ xs.length := by omega
    obtain ⟨b, hp⟩ := ho.ptr (by omega)
    have hbk : blk t = [b] := by simp [blk, hp]
    have last_take : ∀ {m : Nat} {x : Int}, xs[m]? = some x → (xs.take (m + 1)).getLast? = some x := fun h => by rw [take_succ_get h, List.getLast?_append]; rfl
    have step : ∀ {m : Nat} {x y : Int}, xs[m]? = some x → xs[m + 1]? = some y → compactL (xs.take (m + 2)) = compactL (xs.take (m + 1)) ++ if x = y then [] else [y] := fun hx hy => by
      rw [take_succ_get hy, compactL_append, last_take hx]
      simp
    refine ⟨fun n x W => ∃ k : Nat, x = (k : Int) ∧ 1 ≤ k ∧ n + k = xs.length ∧ compactL (xs.take k) = xs.take k ∧ Ext w W, ⟨xs.length - 1, 1, rfl, by omega, by omega, ?_, Ch.refl _ _⟩, ?_⟩
    · match xs, hx2 with
      | x :: y :: l, _ => rfl
    · rintro n _ W g ⟨k, rfl, hk1, hnk, hcp, eW⟩
      unfold F50j1
      refine IfB.dec (fun hlt => ?_) fun hge => ?_
      · have hk : k < xs.length := by omega
        obtain ⟨m, rfl⟩ : ∃ m, k = m + 1 := ⟨k - 1, by omega⟩
        have hy : xs[m + 1]? = some xs[m + 1] := List.getElem?_eq_getElem hk
        have hx : xs[m]? = some (xs[m]'(by omega)) := List.getElem?_eq_getElem _
        generalize xs[m + 1] = y at hy
        generalize xs[m]'(by omega) = x at hx
        have hst := step hx hy
        have ed := extDrew W
        have eW' := eW.trans ed
        obtain ⟨a, ha, hcy⟩ := owsI_get (ho.ext eW') hy
        obtain ⟨a', ha', hcx⟩ := owsI_get (ho.ext eW') hx
        rw [hp] at ha ha'; cases ha; cases ha'
        have hm1 : IntKind.i64.wrap (((m + 1 : Nat) : Int) - (1 : Int)) = (m : Int) := by rw [wrap_of (by omega) (by omega)]; omega
        rw [hm1]
        refine ⟨b, 0, hp, ⟨by omega, hlt⟩, y, by rw [Int.toNat_natCast]; exact hcy, b, 0, hp, ⟨by omega, by omega⟩, x, by rw [Int.toNat_natCast]; exact hcx, IfB.intro (fun he => ?_) fun he => ?_⟩
        · have he : y = x := by simpa using he
          subst he
          rw [if_pos rfl, List.append_nil, hcp] at hst
          refine ⟨⟨by omega, by omega⟩, ?_⟩
          -- K = m + 1; j from 1
          refine ⟨fun n' x' W' => ∃ (j : Nat) (gs : List Int), 1 ≤ j ∧ n' + (m + 1 + j) = xs.length ∧ (compactL (xs.take (m + 1 + j))).length + gs.length = m + j ∧ x' = (((compactL (xs.take (m + 1 + j))).length : Int), (j : Int)) ∧ OwS W' t 1 ((compactL (xs.take (m + 1 + j)) ++ gs ++ xs.drop (m + j)).map iv) ∧ Ch (fun i => i ∈ blk t) w W',
            ⟨xs.length - (m + 2), 1, [], by omega, by omega, ?_, ?_, ?_, eW'.mono fun _ _ h => h.elim⟩, ?_⟩
          · rw [hst, List.length_take]; simp; omega
          · rw [hst, List.length_take, Nat.min_eq_left (by omega)]; rfl
          · rw [hst, List.append_nil, List.take_append_drop]; exact ho.ext eW'
          · rintro n' _ W' g' ⟨j, gs, hj1, hnj, hlen, rfl, hO, hC⟩
            generalize hkd : compactL (xs.take (m + 1 + j)) = kd at hlen hO
            have hsa : slAddr t.p t.c (((m + 1 : Nat) : Int)).toNat 1 = some ⟨b, m + 1, none⟩ := by
              rw [Int.toNat_natCast, hp, slAddr_some, if_neg (by omega)]; simp
            unfold F50j2
            refine IfB.dec (fun hlt' => ?_) fun hge' => ?_
            · rw [Int.toNat_natCast] at hlt'
              have hlt'' : m + 1 + j < xs.length := by dsimp only at hlt'; omega
              have hz : xs[m + 1 + j]? = some xs[m + 1 + j] := List.getElem?_eq_getElem hlt''
              have hv : xs[m + j]? = some (xs[m + j]'(by omega)) := List.getElem?_eq_getElem _
              have hd1 : xs.drop (m + j) = xs[m + j]'(by omega) :: xs.drop (m + 1 + j) := by rw [show m + 1 + j = m + j + 1 by omega]; exact List.drop_eq_getElem_cons _
              have hd2 : xs.drop (m + 1 + j) = xs[m + 1 + j] :: xs.drop (m + 1 + (j + 1)) := by rw [show m + 1 + (j + 1) = m + 1 + j + 1 by omega]; exact List.drop_eq_getElem_cons _
              generalize xs[m + 1 + j] = z at hz hd2
              generalize xs[m + j]'(by omega) = v at hv hd1
              have hst2 : compactL (xs.take (m + 1 + (j + 1))) = kd ++ if v = z then [] else [z] := by
                have := step (m := m + j) hv (by rw [show m + j + 1 = m + 1 + j by omega]; exact hz)
                rw [show m + j + 2 = m + 1 + (j + 1) by omega, show m + j + 1 = m + 1 + j by omega, hkd] at this
                exact this
              have hLz : (kd ++ gs ++ xs.drop (m + j))[m + 1 + j]? = some z := by
                rw [List.getElem?_append_right (by rw [List.length_append]; omega), List.length_append, show m + 1 + j - (kd.length + gs.length) = 1 by omega, hd1, hd2]; rfl
              have hLv : (kd ++ gs ++ xs.drop (m + j))[m + j]? = some v := by
                rw [List.getElem?_append_right (by rw [List.length_append]; omega), List.length_append, show m + j - (kd.length + gs.length) = 0 by omega, hd1]; rfl
              have ed' := extDrew W'
              have hOd := hO.ext ed'
              obtain ⟨a, ha, hcz⟩ := owsI_get hOd hLz
              obtain ⟨a', ha', hcv⟩ := owsI_get hOd hLv
              rw [hp] at ha ha'; cases ha; cases ha'
              have hj1' : IntKind.i64.wrap ((j : Int) - (1 : Int)) = ((j - 1 : Nat) : Int) := wm1 (by omega) (by omega)
              have hL : (kd ++ gs ++ xs.drop (m + j)).length = xs.length := by rw [List.length_append, List.length_append, List.length_drop]; omega
              dsimp only
              rw [hj1', hsa]
              simp only [Int.toNat_natCast]
              have hzc : W'.drew.cell? ⟨b, m + 1 + j, none⟩ = some (iv z) := by rw [Nat.zero_add] at hcz; exact hcz
              have hvc : W'.drew.cell? ⟨b, m + 1 + (j - 1), none⟩ = some (iv v) := by rw [Nat.zero_add] at hcv; rw [show m + 1 + (j - 1) = m + j by omega]; exact hcv
              refine ⟨b, m + 1, rfl, ⟨by omega, by omega⟩, z, hzc, b, m + 1, rfl, ⟨by omega, by omega⟩, v, hvc, IfB.intro (fun hne => ?_) fun heq => ?_⟩
              · have hne : z ≠ v := by simpa using hne
                rw [if_neg (fun h => hne h.symm)] at hst2
                refine ⟨b, m + 1, rfl, ⟨by omega, by omega⟩, z, hzc, b, 0, hp, ⟨by omega, by show (kd.length : Int) < (t.n : Int); omega⟩, rfl, ?_⟩
                rw [Nat.zero_add]
                refine hOd.store hp (by show _ + 1 ≤ _; omega) (oneIv z) fun w32 hO32 hC32 => ⟨trivial, n' - 1, by omega, j + 1, (gs ++ [v]).tail, by omega, by omega, ?_, ?_, ?_, (hC.then ed' fun _ _ h => h.elim).then hC32 fun i _ e => by rw [hbk, e]; simp⟩
                · rw [hst2]; simp; omega
                · rw [hst2, wp1 (by omega), wp1 (by omega)]; simp
                · rw [show ([iv z]).length = 1 from rfl, setI (by omega)] at hO32
                  rw [hst2]
                  have : (kd ++ gs ++ xs.drop (m + j)).set kd.length z = kd ++ [z] ++ (gs ++ [v]).tail ++ xs.drop (m + (j + 1)) := by
                    rw [hd1, show m + (j + 1) = m + 1 + j by omega]
                    cases gs with
                    | nil => simp
                    | cons g0 gs => simp
                  rw [← this]; exact hO32
              · have heq : z = v := by simpa using heq
                subst heq
                rw [if_pos rfl, List.append_nil] at hst2
                refine ⟨trivial, n' - 1, by omega, j + 1, gs ++ [z], by omega, by omega, by rw [hst2]; simp; omega, ?_, ?_, hC.then ed' fun _ _ h => h.elim⟩
                · rw [hst2, wp1 (by omega)]
                · rw [hst2]
                  rw [hd1] at hOd
                  rw [show m + (j + 1) = m + 1 + j by omega]
                  simpa using hOd
            · rw [Int.toNat_natCast] at hge'
              dsimp only at hge'
              have hjn : m + 1 + j = xs.length := by omega
              rw [hjn, List.take_length] at hkd
              have hkl : kd.length < t.n := by omega
              refine ⟨⟨by dsimp only; omega, by show (kd.length : Int) ≤ (t.n : Int); omega⟩, ?_⟩
              dsimp only
              rw [Int.toNat_natCast, hp, slAddr_some]
              have hcut := hO.cut (k := kd.length) (by omega)
              rw [Nat.mul_one, ← List.map_take, List.append_assoc, List.take_append_of_le_length (Nat.le_refl _), List.take_length] at hcut
              dsimp only
              rw [if_neg (by omega), Nat.zero_add, Nat.mul_one]
              refine hcut.storeTail hp (by dsimp only; omega) (by rw [zc_len]; show kd.length + (t.n - kd.length) * 1 ≤ t.c * 1; omega) (zc_one (by intro x hx; simp at hx; subst hx; rfl) _) fun w25 hO25 hC25 => ⟨⟨by omega, by omega⟩, ?_⟩
              rw [← hp, slAddr_zero]
              exact ⟨⟨t.p, kd.length, t.c⟩, rfl, by rw [hkd]; exact hO25, rfl, hC.then hC25 fun i _ e => by rw [hbk, e]; simp⟩
        · have hne : x ≠ y := by intro h; subst h; simp at he
          rw [if_neg hne] at hst
          refine ⟨rfl, n - 1, by omega, m + 2, wp1 (by omega), by omega, by omega, ?_, eW'⟩
          rw [hst, hcp, take_succ_get hy]
      · have : k = xs.length := by omega
        subst this
        rw [List.take_length] at hcp
        exact ⟨t, rfl, by rw [hcp]; exact ho.ext eW, rfl, eW.mono fun _ _ h => h.elim⟩
end Go.Proofs.Ytmmhbjbaallkfaa.Gx

/- Package serial: Sagas, Whole; slices of pairs. -/
namespace Go.Proofs.Ytmmhbjbaallkfaa.Gx
open Go
set_option linter.unusedSimpArgs false
set_option linter.unusedVariables false
/-- The sagas of a history, each once, in their order. -/
structure SgL (hs : List Nd) (l : List Int) : Prop where
  srt : l.Pairwise (· < ·)
  mem : ∀ k, k ∈ l ↔ ∃ n ∈ hs, n.v.1 = k
theorem c26 {w : World} {t : Sl} {hs : List Nd} (hH : Hst w t hs) :
    CW Try.prog 26 #[slV t] w fun v w' => ∃ t', ∃ l : List Int, v = slV t' ∧ SgL hs l ∧ l.length ≤ hs.length ∧ OwS w' t' 1 (l.map iv) ∧ Ext w w' ∧ ∀ j ∈ blk t', w.heap.size ≤ j := by
  have htn := hH.n
  have hlen := hH.len
  refine F26_ok t w _ ⟨fun m x W => ∃ (i : Nat) (so : Sl), i ≤ hs.length ∧ m + i = hs.length ∧ x = (so, (i : Int)) ∧ OwS W so 1 (((hs.take i).map fun n => n.v.1).map iv) ∧ Ext w W ∧ ∀ j ∈ blk so, w.heap.size ≤ j, ⟨hs.length, 0, ⟨none, 0, 0⟩, Nat.zero_le _, rfl, rfl, .nil _ _, Ch.refl _ _, by simp [blk]⟩, ?_⟩
  rintro m _ W g ⟨i, so, hi, hmi, rfl, hO, hE, hb⟩
  have hon := hO.len1
  rw [List.length_map, List.length_map, List.length_take, Nat.min_eq_left hi] at hon
  unfold F26j1
  refine IfB.dec (fun hlt => ?_) fun hge => ?_
  · have hi' : i < hs.length := by dsimp only at hlt; omega
    have hx : hs[i]? = some hs[i] := List.getElem?_eq_getElem hi'
    have htk := take_succ_get hx
    generalize hs[i] = n at hx htk
    obtain ⟨a, o, hp, hc⟩ := (hH.ext hE).at hx
    refine ⟨a, o, hp, (⟨by omega, by omega⟩ : (0 : Int) ≤ (i : Int) ∧ (i : Int) < (t.n : Int)), n.v, by rw [Int.toNat_natCast]; exact hc, boxNd rfl fun b11 w13 hb11 hs13 h13 e13 _ => ⟨n.v.1, by rw [cell_of h13]; rfl, by decide, fun b15 w16 a16 => ?_⟩⟩
    have e16 : Ext W w16 := e13.trans (a16.ch _)
    refine (hO.ext e16).lit (new := [iv n.v.1]) (T' := 3) a16.new rfl (oneIv _) rfl rfl (by omega) (by decide) fun s' w' ho' hn' hC' hbk => ⟨rfl, m - 1, by omega, i + 1, s', hi', by omega, by rw [wrap_of (by omega) (by omega)]; rfl, ?_, (hE.trans e16).chN hC' hb, fun j hj => ?_⟩
    · rw [htk, List.map_append, List.map_append]; exact ho'
    · rcases hbk j hj with h | h
      · exact hb j h
      · have := hE.size; have := e16.size; omega
  · have hi' : i = hs.length := by dsimp only at hge; omega
    subst hi'
    rw [List.take_length] at hO
    refine (c49 hO (by rw [List.length_map]; exact hlen)).use ?_
    rintro _ w22 ⟨rfl, xs, hp, hs', hO22, hC22⟩
    have hxl : xs.length = hs.length := by rw [hp.length_eq, List.length_map]
    refine ⟨(), rfl, (c50 hO22 (by omega)).use ?_⟩
    rintro _ w25 ⟨s26, rfl, hO25, hp25, hC25⟩
    have hcl := compactL_len xs
    refine ⟨s26, rfl, s26, compactL xs, rfl, ⟨compactL_sorted hs', fun k => ?_⟩, by omega, hO25, (hE.chN hC22 hb).chN hC25 hb, fun j hj => hb j (by unfold blk at hj ⊢; rw [hp25] at hj; exact hj)⟩
    rw [compactL_mem, hp.mem_iff, List.mem_map]
theorem c69 {w : World} {t : Sl} {xs : List (Int × Int)} {t1 : Nat × Array Value} {q : Int × Int → Bool} (h : Rd w t 2 (xs.flatMap sv)) (hl : xs.length ≤ 1000000)
    (hq : ∀ (x : Int × Int) (W : World), x ∈ xs → Ext w W → ∀ R' : Value → World → Prop, (∀ w', Ext W w' → R' (.bool (q x)) w') → CX Try.prog t1.1 { toList := prV x :: t1.2.toList } W R') :
    CW Try.prog 69 #[slV t, .func (.func t1.1) #[] t1.2] w fun v w' => v = iv (idxV (xs.findIdx? q)) ∧ Ext w w' := by
  refine F69_ok t t1 w _ ?_
  have hn := rdN sv_len (by omega) h
  have e : F69 t t1 w (fun v w' => v = iv (idxV (xs.findIdx? q)) ∧ Ext w w') = IndexF Try.prog (fun W b o i (x : Int × Int) => CellsAt W b (o + i * 2) [.int .i64 x.1, .int .i64 x.2]) prV t t1 w (fun v w' => v = iv (idxV (xs.findIdx? q)) ∧ Ext w w') := rfl
  rw [e]
  refine IndexF_of xs id q hn (by omega) (fun i x W hx e => ?_) (fun i x W hx e R' hR => hq x W (List.mem_of_getElem? hx) e R' hR) fun w' e => ⟨rfl, e⟩
  obtain ⟨hi, _⟩ := List.getElem?_eq_some_iff.1 hx
  obtain ⟨b, o, hp, hc⟩ := (h.ext e).elem (i := i) (by omega) (by omega) (flatGet sv_len hx)
  exact ⟨b, o, hp, hc⟩
theorem c53 {w : World} {t : Sl} {xs : List (Int × Int)} {t1 : Nat × Array Value} {q : Int × Int → Bool} (h : Rd w t 2 (xs.flatMap sv)) (hl : xs.length ≤ 1000000)
    (hq : ∀ (x : Int × Int) (W : World), x ∈ xs → Ext w W → ∀ R' : Value → World → Prop, (∀ w', Ext W w' → R' (.bool (q x)) w') → CX Try.prog t1.1 { toList := prV x :: t1.2.toList } W R') :
    CW Try.prog 53 #[slV t, .func (.func t1.1) #[] t1.2] w fun v w' => v = .bool (xs.any q) ∧ Ext w w' := by
  refine F53_ok t t1 w _ ((c69 h hl hq).use ?_)
  rintro _ w2 ⟨rfl, e2⟩
  refine ⟨_, rfl, ?_, e2⟩
  congr 1
  cases hf : xs.findIdx? q with
  | none =>
    have := List.findIdx?_eq_none_iff.1 hf
    rw [show xs.any q = false from by rw [List.any_eq_false]; intro x hx; rw [this x hx]; simp]
    simp [idxV]
  | some i =>
    obtain ⟨hi, hqi, _⟩ := List.findIdx?_eq_some_iff_getElem.1 hf
    rw [show xs.any q = true from List.any_eq_true.2 ⟨_, List.getElem_mem hi, hqi⟩]
    simp [idxV]
/-- What waits for the saga s: one of left is ahead of it. -/
def waitB (left : List Int) (s : Int) (p : Int × Int) : Bool := p.2 == s && decide (p.1 ∈ left)
theorem c52 {w : World} {b1 b2 : Nat} {tl : Sl} {left : List Int} {s : Int} (p : Int × Int) (h1 : ∃ T, w.heap[b1]? = some (.cells #[iv s] T (0, 0))) (h2 : ∃ T, w.heap[b2]? = some (.cells #[slV tl] T (0, 0))) (hr : Rd w tl 1 (left.map iv)) (hl : left.length ≤ 1000000) :
    CW Try.prog 52 #[prV p, .pointer (some ⟨b1, 0, none⟩), .pointer (some ⟨b2, 0, none⟩)] w fun v w' => v = .bool (waitB left s p) ∧ Ext w w' := by
  obtain ⟨T1, h1⟩ := h1
  obtain ⟨T2, h2⟩ := h2
  refine F52_ok p b1 b2 w _ fun b w2 a2 => ?_
  have e2 : Ext w w2 := a2.ch _
  refine ⟨by omega, p.2, by rw [cell_of a2.new]; rfl, s, by rw [cell_of (e2.at h1)]; rfl, IfB.intro (fun he => ⟨tl, by rw [cell_of (e2.at h2)]; rfl, by omega, p.1, by rw [cell_of a2.new]; rfl, (c39 (hr.ext e2) hl p.1).use ?_⟩) fun hne => ⟨?_, e2⟩⟩
  · rintro _ _ ⟨rfl, rfl⟩
    refine ⟨_, rfl, ?_, e2⟩
    unfold waitB; rw [he]; rfl
  · unfold waitB; rw [hne]; rfl
end Go.Proofs.Ytmmhbjbaallkfaa.Gx

/- Package serial: own, Put, Count. -/
namespace Go.Proofs.Ytmmhbjbaallkfaa.Gx
open Go
set_option linter.unusedSimpArgs false
set_option linter.unusedVariables false
/-- What a node says, wherever its spans lie. -/
def dOf (n : Nd) : Int × Int × Int × Bool × List Spn × List Spn := (n.v.1, n.v.2.1, n.v.2.2.1, n.v.2.2.2.1, n.rs, n.ws)
theorem flat_map_v (hs : List Nd) : hs.flatMap nL = (hs.map (·.v)).flatMap nC := by rw [List.flatMap_map]
def ownL (hs : List Nd) (sa : Int) : List Nd := hs.filter fun n => n.v.1 == sa
theorem c66 {w : World} {b : Nat} {sa : Int} (x : NdV) (hb : ∃ T, w.heap[b]? = some (.cells #[iv sa] T (0, 0))) :
    CW Try.prog 66 #[ndV x, .pointer (some ⟨b, 0, none⟩)] w fun v w' => v = .bool (x.1 != sa) ∧ Ext w w' := by
  obtain ⟨T, hT⟩ := hb
  refine F66_ok x b w _ fun b1 w2 a2 => ?_
  have e2 : Ext w w2 := a2.ch _
  exact ⟨x.1, by rw [cell_of a2.new]; rfl, sa, by rw [cell_of (e2.at hT)]; rfl, rfl, e2⟩
/-- A node whose spans may be copied. -/
structure NdK (w : World) (n : Nd) : Prop where
  rs : Rd w n.v.2.2.2.2.1 2 (n.rs.flatMap sv)
  ws : Rd w n.v.2.2.2.2.2 2 (n.ws.flatMap sv)
  rl : n.rs.length * 16 ≤ 140737488355328
  wl : n.ws.length * 16 ≤ 140737488355328
theorem NdK.ext {w w' : World} {n : Nd} (h : NdK w n) (e : Ext w w') : NdK w' n := ⟨h.rs.ext e, h.ws.ext e, h.rl, h.wl⟩
theorem NdOk.k {w : World} {n : Nd} (h : NdOk w n) : NdK w n := ⟨h.rs, h.ws, by have := h.rl; omega, by have := h.wl; omega⟩
structure HsK (w : World) (t : Sl) (hs : List Nd) : Prop where
  rd : Rd w t 6 (hs.flatMap nL)
  ok : ∀ n ∈ hs, NdK w n
  len : hs.length ≤ 1000000
theorem HsK.ext {w w' : World} {t : Sl} {hs : List Nd} (h : HsK w t hs) (e : Ext w w') : HsK w' t hs := ⟨h.rd.ext e, fun n hn => (h.ok n hn).ext e, h.len⟩
theorem Hst.k {w : World} {t : Sl} {hs : List Nd} (h : Hst w t hs) : HsK w t hs := ⟨h.rd, fun n hn => (h.ok n hn).k, h.len⟩
theorem HsK.n {w : World} {t : Sl} {hs : List Nd} (h : HsK w t hs) : t.n = hs.length := rdN nL_len (by omega) h.rd
/-- A node whose spans are one's own, apart from blocks bs. -/
structure NdF (w : World) (m : Nat) (bs : List Nat) (n : Nd) : Prop where
  rs : OwS w n.v.2.2.2.2.1 2 (n.rs.flatMap sv)
  ws : OwS w n.v.2.2.2.2.2 2 (n.ws.flatMap sv)
  rn : ∀ j ∈ blk n.v.2.2.2.2.1, m ≤ j ∧ j ∉ bs
  wn : ∀ j ∈ blk n.v.2.2.2.2.2, m ≤ j ∧ j ∉ bs
theorem NdF.ch {F : Nat → Prop} {w w' : World} {m : Nat} {bs : List Nat} {n : Nd} (h : NdF w m bs n) (hc : Ch F w w') (hF : ∀ j, F j → m ≤ j → j ∈ bs) : NdF w' m bs n :=
  ⟨h.rs.ch hc fun j hj e => (h.rn j hj).2 (hF j e (h.rn j hj).1), h.ws.ch hc fun j hj e => (h.wn j hj).2 (hF j e (h.wn j hj).1), h.rn, h.wn⟩
theorem NdF.ext {w w' : World} {m : Nat} {bs : List Nat} {n : Nd} (h : NdF w m bs n) (e : Ext w w') : NdF w' m bs n := h.ch e fun _ h => h.elim
/-- Nodes of a slice of one's own, whose spans are one's own, too. -/
structure OwN (w : World) (m : Nat) (t : Sl) (ns : List Nd) : Prop where
  own : OwS w t 6 (ns.flatMap nL)
  ok : ∀ n ∈ ns, NdF w m (blk t) n
  new : ∀ j ∈ blk t, m ≤ j
theorem c48 {w : World} {t : Sl} {hs : List Nd} (hH : HsK w t hs) (sa : Int) :
    CW Try.prog 48 #[slV t, iv sa] w fun v w' => ∃ t' ns, v = slV t' ∧ ns.map dOf = (ownL hs sa).map dOf ∧ OwN w' w.heap.size t' ns ∧ Ext w w' := by
  have htn := hH.n
  have hlen := hH.len
  refine F48_ok t sa w _ fun b1 w2 a2 => ?_
  have e2 : Ext w w2 := a2.ch _
  have hrd := (hH.ext e2).rd
  rw [flat_map_v] at hrd
  refine (c65 hrd (by rw [List.length_map]; exact hlen)).use ?_
  rintro _ w4 ⟨s5, rfl, ho5, e4, hb5⟩
  have B4 := e4.at a2.new
  refine ⟨s5, rfl, (c64 (t1 := (66, #[.pointer (some ⟨b1, 0, none⟩)])) (q := fun x => x.1 != sa) ho5 (by rw [List.length_map]; exact hlen) fun x W _ hC R' hR => (c66 x ⟨_, hC.at B4 fun h => by have := hb5 b1 h; have := heap_lt a2.new; omega⟩).use fun v w' ⟨hv, e⟩ => hv ▸ hR w' e).use ?_⟩
  rintro _ w7 ⟨s8, rfl, ho8, hp8, hC8⟩
  obtain ⟨fs, hfs⟩ : ∃ fs, fs = ownL hs sa := ⟨_, rfl⟩
  have hfm : ((hs.map (·.v)).filter fun x => !(x.1 != sa)) = fs.map (·.v) := by
    rw [hfs, ownL, List.filter_map]
    congr 1
    apply List.filter_congr
    intro n _
    simp [Function.comp, bne]
  rw [hfm, ← flat_map_v] at ho8
  have hb8 : ∀ j ∈ blk s8, w2.heap.size ≤ j := fun j hj => hb5 j (by unfold blk at hj ⊢; rw [hp8] at hj; exact hj)
  have z2 := e2.size; have z4 := e4.size; have z8 := hC8.size
  have x7 : Ext w w7 := (e2.trans e4).chN hC8 fun j hj => by have := hb5 j hj; omega
  have hfl : fs.length ≤ hs.length := by rw [hfs]; exact List.length_filter_le _ _
  have hfok : ∀ {W}, Ext w W → ∀ n ∈ fs, NdK W n := fun e n hn => (hH.ok n (by rw [hfs] at hn; exact (List.mem_filter.1 hn).1)).ext e
  have h8n := owsN nL_len (by omega) ho8
  refine ⟨s8, rfl, fun m x W => ∃ (i : Nat) (ds : List Nd), i ≤ fs.length ∧ m + i = fs.length ∧ x = (i : Int) ∧ ds.map dOf = (fs.take i).map dOf ∧ OwS W s8 6 ((ds ++ fs.drop i).flatMap nL) ∧ (∀ n ∈ ds, NdF W w.heap.size (blk s8) n) ∧ Ext w W ∧ w7.heap.size ≤ W.heap.size,
    ⟨fs.length, 0, [], Nat.zero_le _, rfl, rfl, rfl, ho8, by simp, x7, Nat.le_refl _⟩, ?_⟩
  rintro m _ W g ⟨i, ds, hi, hmi, rfl, hds, hO, hok, hE, hz⟩
  have hdl : ds.length = i := by
    have := congrArg List.length hds
    rw [List.length_map, List.length_map, List.length_take] at this; omega
  unfold F48j1
  refine IfB.dec (fun hlt => ?_) fun hge => ?_
  · have hi' : i < fs.length := by omega
    have hx : fs[i]? = some fs[i] := List.getElem?_eq_getElem hi'
    have hdrop : fs.drop i = fs[i] :: fs.drop (i + 1) := List.drop_eq_getElem_cons hi'
    have htk := take_succ_get hx
    generalize fs[i] = n at hx hdrop htk
    have hnok := hfok hE n (List.mem_of_getElem? hx)
    rw [hdrop] at hO
    obtain ⟨b, hp⟩ := hO.ptr (by omega)
    obtain ⟨b', hp', hc⟩ := hO.elem (i := i) (by omega) (flatGet (x := n) nL_len (by rw [List.getElem?_append_right (by omega), hdl, Nat.sub_self]; rfl))
    rw [hp] at hp'; cases hp'
    have hbn : (0 : Int) ≤ (i : Int) ∧ (i : Int) < (s8.n : Int) := ⟨by omega, hlt⟩
    have hblk : b ∈ blk s8 := by simp [blk, hp]
    refine ⟨b, 0, hp, hbn, n.v, by rw [Int.toNat_natCast, Nat.zero_add]; exact hc, boxNd rfl fun b19 w21 hb19 hs21 h21 e21 _ => ?_⟩
    have ed := extDrew w21
    have q : ∀ {W' : World} (o : Nat), Ext w21 W' → W'.cell? ⟨b19, 0 + o, none⟩ = (nC n.v)[o]? := fun o e => by rw [cell_of (e.at h21), Nat.zero_add]; exact List.getElem?_toArray ..
    have e21d : Ext W w21.drew := e21.trans ed
    refine ⟨_, q 4 ed, _, q 5 ed, (c67 (hnok.ext e21d).rs hnok.rl).use ?_⟩
    rintro _ w25 ⟨s26, rfl, ho26, e25, hb26⟩
    refine ⟨s26, rfl, q 5 (ed.trans e25), (c67 ((hnok.ext e21d).ext e25).ws hnok.wl).use ?_⟩
    rintro _ w28 ⟨s29, rfl, ho29, e28, hb29⟩
    have eA : Ext W w28 := (e21d.trans e25).trans e28
    have z21 := e21d.size; have z25 := e25.size; have z28 := e28.size
    have bW : ∀ j ∈ blk s8, j < W.heap.size := hO.lt
    have n26 : ∀ j ∈ blk s26, j ∉ blk s8 := fun j hj h => by have := hb26 j hj; have := bW j h; omega
    have n29 : ∀ j ∈ blk s29, j ∉ blk s8 := fun j hj h => by have := hb29 j hj; have := bW j h; omega
    have hOA := hO.ext eA
    have hcut : ∀ (c0 : List Value) (c1 v : Value) (c2 : List Value) (k : Nat), c0.length = k → (c0 ++ c1 :: c2).take k ++ [v] ++ (c0 ++ c1 :: c2).drop (k + 1) = c0 ++ v :: c2 := fun c0 c1 v c2 k hk => by
      subst hk
      rw [List.take_append_of_le_length (Nat.le_refl _), List.take_length, List.drop_length_add_append]
      simp
    let c4 : List Value := [.int .i64 n.v.1, .int .i64 n.v.2.1, .int .i64 n.v.2.2.1, .bool n.v.2.2.2.1]
    let n' : Nd := ⟨(n.v.1, n.v.2.1, n.v.2.2.1, n.v.2.2.2.1, s26, s29), n.rs, n.ws⟩
    have hdf : (ds.flatMap nL).length = i * 6 := by rw [flatLen nL_len, hdl]
    have e1 : (ds ++ n :: fs.drop (i + 1)).flatMap nL = (ds.flatMap nL ++ c4) ++ slV n.v.2.2.2.2.1 :: (slV n.v.2.2.2.2.2 :: (fs.drop (i + 1)).flatMap nL) := by
      rw [List.flatMap_append, List.flatMap_cons]; simp [c4]
    have e2' : (ds.flatMap nL ++ c4) ++ slV s26 :: (slV n.v.2.2.2.2.2 :: (fs.drop (i + 1)).flatMap nL) = (ds.flatMap nL ++ c4 ++ [slV s26]) ++ slV n.v.2.2.2.2.2 :: (fs.drop (i + 1)).flatMap nL := by simp
    have e3 : (ds.flatMap nL ++ c4 ++ [slV s26]) ++ slV s29 :: (fs.drop (i + 1)).flatMap nL = ((ds ++ [n']) ++ fs.drop (i + 1)).flatMap nL := by
      rw [List.flatMap_append, List.flatMap_append]; simp [c4, n']
    refine ⟨s29, rfl, b, 0, hp, hbn, rfl, ?_⟩
    rw [Int.toNat_natCast, Nat.zero_add]
    refine hOA.store (vs := [slV s26]) hp (by simp; omega) (by intro v hv; rw [List.mem_singleton.1 hv]; rfl) fun w32 hO32 hC32 => ⟨b, 0, hp, hbn, rfl, ?_⟩
    rw [show [slV s26].length = 1 from rfl, e1, hcut _ _ _ _ _ (by rw [List.length_append, hdf]; rfl), e2'] at hO32
    rw [Nat.zero_add]
    refine hO32.store (vs := [slV s29]) hp (by simp; omega) (by intro v hv; rw [List.mem_singleton.1 hv]; rfl) fun w35 hO35 hC35 => ?_
    rw [show [slV s29].length = 1 from rfl, hcut _ _ _ _ _ (by rw [List.length_append, List.length_append, hdf]; rfl), e3] at hO35
    have hC : Ch (fun j => j = b) w28 w35 := hC32.trans hC35
    have hX : Ext w w35 := (hE.trans eA).chN hC fun j e => by subst e; have := hb8 j hblk; omega
    have keep : ∀ {s : Sl} {l : List Spn}, OwS w28 s 2 (l.flatMap sv) → (∀ j ∈ blk s, j ∉ blk s8) → OwS w35 s 2 (l.flatMap sv) := fun h hn => h.ch hC fun j hj e => hn j hj (e ▸ hblk)
    have zE := hE.size
    refine ⟨rfl, m - 1, by omega, i + 1, ds ++ [n'], hi', by omega, by rw [wrap_of (by omega) (by omega)]; rfl, ?_, hO35, fun x hx' => ?_, hX, by have := hC.size; omega⟩
    · rw [htk, List.map_append, List.map_append, hds]; rfl
    · rcases List.mem_append.1 hx' with h | h
      · exact ((hok x h).ext eA).ch hC fun j e _ => e ▸ hblk
      · rw [List.mem_singleton.1 h]
        exact ⟨keep (ho26.ext e28) n26, keep ho29 n29, fun j hj => ⟨by have := hb26 j hj; omega, n26 j hj⟩, fun j hj => ⟨by have := hb29 j hj; omega, n29 j hj⟩⟩
  · have hi' : i = fs.length := by omega
    subst hi'
    rw [List.take_length] at hds
    rw [List.drop_length, List.append_nil] at hO
    exact ⟨s8, ds, rfl, by rw [hds, hfs], ⟨hO, hok, fun j hj => by have := hb8 j hj; omega⟩, hE⟩
end Go.Proofs.Ytmmhbjbaallkfaa.Gx

/- Package serial: Count, Put. -/
namespace Go.Proofs.Ytmmhbjbaallkfaa.Gx
open Go
set_option linter.unusedSimpArgs false
set_option linter.unusedVariables false
theorem ownL_len (hs : List Nd) (sa : Int) : (ownL hs sa).length ≤ hs.length := List.length_filter_le _ _
end Go.Proofs.Ytmmhbjbaallkfaa.Gx

/- Package serial: Whole. -/
namespace Go.Proofs.Ytmmhbjbaallkfaa.Gx
open Go
set_option linter.unusedSimpArgs false
set_option linter.unusedVariables false
/-- Sagas stand together, as far as i. -/
def WhT (hs : List Nd) (i : Nat) : Prop := ∀ (k m j : Nat) (a b c : Nd), k < m → m < j → j < i → hs[k]? = some a → hs[m]? = some b → hs[j]? = some c → a.v.1 = c.v.1 → b.v.1 = c.v.1
def WhP (hs : List Nd) : Prop := WhT hs hs.length
theorem Fnd.set {W : World} {r : Nat} {P : Int → Prop} (h : Fnd W r P) (k : Int) {K : World → Prop} (hK : ∀ w', Fnd w' r (fun k' => P k' ∨ k' = k) → Ch (fun i => i = r) W w' → K w') : MapSetP (.int .i64) W (.map (some r)) (.int .i64 k) (.bool true) K := by
  obtain ⟨f, h1, h2⟩ := h
  refine Mp.set (enc := encB) (v := true) h1 fun f' w' hf' hM hC => hK w' ⟨f', hM, fun k' => ?_⟩ hC
  rw [hf']
  by_cases hk : k = k'
  · rw [if_pos hk]; exact .inl ⟨rfl, .inr hk.symm⟩
  · rw [if_neg hk]
    exact (h2 k').imp (fun h => ⟨h.1, .inl h.2⟩) fun h => ⟨h.1, fun h' => h'.elim h.2 fun e => hk e.symm⟩
theorem Fnd.get {W : World} {r : Nat} {P : Int → Prop} (h : Fnd W r P) (k : Int) {K : Value → Bool → Prop} (h1 : P k → K (.bool true) true) (h0 : ¬ P k → K (.bool false) false) : MapGetP (.int .i64) W (.map (some r)) (.int .i64 k) (.bool false) K := by
  obtain ⟨f, hM, hf⟩ := h
  refine hM.get ?_
  rcases hf k with ⟨hg, hP⟩ | ⟨hg, hP⟩
  · rw [hg]; exact h1 hP
  · rw [hg]; exact h0 hP
theorem c33 {w : World} {t : Sl} {hs : List Nd} (hH : Hst w t hs) :
    CW Try.prog 33 #[slV t] w fun v w' => ∃ r, v = .bool r ∧ (r = true ↔ WhP hs) ∧ Ext w w' := by
  have htn := hH.n
  have hlen := hH.len
  refine F33_ok t w _ fun b1 w2 a2 => ?_
  have p2 := a2.here
  refine ⟨fun m x W => ∃ i : Nat, i ≤ hs.length ∧ m + i = hs.length ∧ x = (i : Int) ∧ Fnd W b1 (fun s => ∃ n ∈ hs.take i, n.v.1 = s) ∧ WhT hs i ∧ Ext w W, ⟨hs.length, 0, Nat.zero_le _, rfl, rfl, ⟨[], .new a2, fun k => .inr ⟨rfl, by simp⟩⟩, fun k m j a b c h1 h2 h3 => by omega, a2.ch _⟩, ?_⟩
  rintro m _ W g ⟨i, hi, hmi, rfl, hF, hW, hE⟩
  unfold F33j1
  refine IfB.dec (fun hlt => ?_) fun hge => ?_
  case refine_2 =>
    have hie : i = hs.length := by omega
    subst hie
    exact ⟨true, rfl, ⟨fun _ => hW, fun _ => rfl⟩, hE⟩
  have hi' : i < hs.length := by omega
  have hx : hs[i]? = some hs[i] := List.getElem?_eq_getElem hi'
  have htk := take_succ_get hx
  generalize hs[i] = n at hx htk
  obtain ⟨a, o, hp, hc⟩ := (hH.ext hE).at hx
  have w1 : IntKind.i64.wrap ((i : Int) + 1) = ((i + 1 : Nat) : Int) := by rw [wrap_of (by omega) (by omega)]; rfl
  refine ⟨a, o, hp, ⟨by omega, hlt⟩, n.v, by rw [Int.toNat_natCast]; exact hc, boxNd rfl fun b13 w15 hb13 hs15 h15 e15 _ => ?_⟩
  have ed := extDrew w15
  have e15d : Ext W w15.drew := e15.trans ed
  have hb1 : b1 < W.heap.size := by obtain ⟨f, hM, _⟩ := hF; exact hM.lt
  refine ⟨fun r W' => Ext w15 W' ∧ (r = true ↔ 0 < i ∧ ∃ p, hs[i - 1]? = some p ∧ p.v.1 = n.v.1), IfB.dec (fun h0 => ?_) fun h0 => ⟨rfl, ed, ⟨fun h => (by cases h), fun h => by omega⟩⟩, ?_⟩
  · have hy : hs[i - 1]? = some (hs[i - 1]'(by omega)) := List.getElem?_eq_getElem (by omega)
    generalize hs[i - 1]'_ = p at hy
    obtain ⟨a', o', hp', hc'⟩ := ((hH.ext hE).ext e15d).at hy
    have hw : IntKind.i64.wrap ((i : Int) - 1) = ((i - 1 : Nat) : Int) := by rw [wrap_of (by omega) (by omega)]; omega
    rw [hw]
    refine ⟨a', o', hp', ⟨by omega, by omega⟩, p.v.1, by rw [Int.toNat_natCast]; exact hc' 0 _ rfl, n.v.1, by rw [cell_of (ed.at h15)]; rfl, rfl, ed, ?_⟩
    rw [beq_iff_eq]
    exact ⟨fun h => ⟨by omega, p, hy, h⟩, fun ⟨_, p', hp', h⟩ => by rw [hy] at hp'; cases hp'; exact h⟩
  · rintro r w22 g ⟨e22, hr⟩
    have eW : Ext W w22 := e15.trans e22
    unfold F33j2
    refine IfB.intro (fun h => ?_) fun h => ?_
    · obtain ⟨hi0, p, hp1, hpn⟩ := hr.1 h
      refine ⟨rfl, m - 1, by omega, i + 1, hi', by omega, w1, (hF.ext eW).iff fun s => ?_, fun k m' j a b c h1 h2 h3 ha hb hcc hac => ?_, hE.trans eW⟩
      · rw [htk]
        constructor
        · rintro ⟨x, hx', rfl⟩
          rcases List.mem_append.1 hx' with h' | h'
          · exact ⟨x, h', rfl⟩
          · rw [List.mem_singleton.1 h']
            exact ⟨p, List.mem_of_getElem? (i := i - 1) (by rw [List.getElem?_take, if_pos (by omega)]; exact hp1), hpn⟩
        · rintro ⟨x, hx', rfl⟩
          exact ⟨x, List.mem_append.2 (.inl hx'), rfl⟩
      · by_cases hj : j < i
        · exact hW k m' j a b c h1 h2 hj ha hb hcc hac
        · have hji : j = i := by omega
          subst hji
          rw [hx] at hcc; cases hcc
          by_cases hm' : m' = j - 1
          · subst hm'
            rw [hp1] at hb; cases hb; exact hpn
          · rw [← hpn] at hac ⊢
            exact hW k m' (j - 1) a b p h1 (by omega) (by omega) ha hb hp1 hac
    · have hnp : ¬ (0 < i ∧ ∃ p, hs[i - 1]? = some p ∧ p.v.1 = n.v.1) := fun h' => by rw [hr.2 h'] at h; cases h
      refine ⟨n.v.1, by rw [cell_of (e22.at h15)]; rfl, (hF.ext eW).get n.v.1 (fun hin => ⟨true, rfl, IfB.yes rfl ⟨false, rfl, ⟨fun h => (by cases h), fun hWh => ?_⟩, hE.trans eW⟩⟩) fun hno => ⟨false, rfl, IfB.no rfl ⟨n.v.1, by rw [cell_of (e22.at h15)]; rfl, (hF.ext eW).set n.v.1 fun w31 hF31 hC31 => ⟨rfl, m - 1, by omega, i + 1, hi', by omega, w1, hF31.iff fun s => ?_, fun k m' j a b c h1 h2 h3 ha hb hcc hac => ?_, (hE.trans eW).chN hC31 fun j e => by omega⟩⟩⟩⟩
      · obtain ⟨x, hx', hxn⟩ := hin
        obtain ⟨k, hk, rfl⟩ := List.getElem_of_mem hx'
        rw [List.length_take] at hk
        rw [List.getElem_take] at hxn
        have hk1 : k ≠ i - 1 := fun e => hnp ⟨by omega, _, by rw [← e]; exact List.getElem?_eq_getElem (by omega), hxn⟩
        have hb : hs[i - 1]? = some (hs[i - 1]'(by omega)) := List.getElem?_eq_getElem (by omega)
        exact (hnp ⟨by omega, _, hb, hWh k (i - 1) i _ _ n (by omega) (by omega) hi' (List.getElem?_eq_getElem (by omega)) hb hx hxn⟩).elim
      · rw [htk]
        constructor
        · rintro ⟨x, hx', rfl⟩
          rcases List.mem_append.1 hx' with h' | h'
          · exact .inl ⟨x, h', rfl⟩
          · rw [List.mem_singleton.1 h']; exact .inr rfl
        · rintro (⟨x, hx', rfl⟩ | rfl)
          · exact ⟨x, List.mem_append.2 (.inl hx'), rfl⟩
          · exact ⟨n, by simp, rfl⟩
      · by_cases hj : j < i
        · exact hW k m' j a b c h1 h2 hj ha hb hcc hac
        · have hji : j = i := by omega
          subst hji
          rw [hx] at hcc; cases hcc
          exact absurd ⟨a, List.mem_of_getElem? (i := k) (by rw [List.getElem?_take, if_pos (by omega)]; exact ha), hac⟩ hno
end Go.Proofs.Ytmmhbjbaallkfaa.Gx

/- Written by mkf.py: what is to be shown of functions, as Gx reckons it from their code. -/
namespace Go.Proofs.Ytmmhbjbaallkfaa.Gx
open Go
set_option linter.unusedVariables false
set_option maxRecDepth 100000
def F35j3 (t0 : Sl) (b1 : Nat) (y3 : Nat → Int → World → Prop) (b5 : Nat) (n6 : Int) (y26 : Nat → Int → World → Prop) (b28 : Nat) (n29 : Int) (w30 : World) : Prop :=
 ∃ (b33 : Nat),
 ∃ (b34 : Nat),
 t0.1 = some ({ block := b33, off := b34 } : Addr) ∧
 ((0 : Int) ≤ n6 ∧ n6 < (t0.2 : Int)) ∧
 ∃ (n35 : Int),
 w30.cell? ({ block := b33, off := b34 + n6.toNat * (2 : Nat) + (1 : Nat) } : Addr) = some (Value.int IntKind.i64 n35) ∧
 IfB (decide (n29 ≤ n35))
 (((0 : Int) ≤ n29 ∧ n29 < ((1000 : Nat) : Int)) ∧
 #[Value.bool true].size = (1 : Nat) ∧
 StoreP w30 b1 ((0 : Nat) + n29.toNat) [Value.bool true] fun (w36 : World) => ([] : List Nat) = [] ∧ ∃ (b37 : Nat), b37 < b28 ∧ y26 b37 (IntKind.i64.wrap (n29 + (1 : Int))) w36)
 (([] : List Nat) = [] ∧ ∃ (b38 : Nat), b38 < b5 ∧ y3 b38 (IntKind.i64.wrap (n6 + (1 : Int))) w30)
def F35j2 (t0 : Sl) (b1 : Nat) (y3 : Nat → Int → World → Prop) (b5 : Nat) (n6 : Int) (w12 : World) : Prop :=
 ∃ (b15 : Nat),
 ∃ (b16 : Nat),
 t0.1 = some ({ block := b15, off := b16 } : Addr) ∧
 ((0 : Int) ≤ n6 ∧ n6 < (t0.2 : Int)) ∧
 ∃ (n17 : Int),
 w12.cell? ({ block := b15, off := b16 + n6.toNat * (2 : Nat) + (0 : Nat) } : Addr) = some (Value.int IntKind.i64 n17) ∧
 IfB (decide (n17 < (0 : Int))) (([] : List Nat) = [] ∧ ∃ (b18 : Nat), b18 < b5 ∧ y3 b18 (IntKind.i64.wrap (n6 + (1 : Int))) w12)
 (∃ (b19 : Nat),
 ∃ (b20 : Nat),
 t0.1 = some ({ block := b19, off := b20 } : Addr) ∧
 ((0 : Int) ≤ n6 ∧ n6 < (t0.2 : Int)) ∧
 ∃ (n21 : Int),
 w12.cell? ({ block := b19, off := b20 + n6.toNat * (2 : Nat) + (1 : Nat) } : Addr) = some (Value.int IntKind.i64 n21) ∧
 IfB (decide ((999 : Int) < n21)) (([] : List Nat) = [] ∧ ∃ (b22 : Nat), b22 < b5 ∧ y3 b22 (IntKind.i64.wrap (n6 + (1 : Int))) w12)
 (∃ (b23 : Nat),
 ∃ (b24 : Nat),
 t0.1 = some ({ block := b23, off := b24 } : Addr) ∧
 ((0 : Int) ≤ n6 ∧ n6 < (t0.2 : Int)) ∧
 ∃ (n25 : Int),
 w12.cell? ({ block := b23, off := b24 + n6.toNat * (2 : Nat) + (0 : Nat) } : Addr) = some (Value.int IntKind.i64 n25) ∧
 ∃ (y26 : Nat → Int → World → Prop),
 (∃ (b27 : Nat), y26 b27 n25 w12) ∧
 ∀ (b28 : Nat) (n29 : Int) (w30 : World) (y31 : Nat → Value),
 y26 b28 n29 w30 →
 (F35j3 t0 b1 y3 b5 n6 y26 b28 n29 w30)))
def F35 (t0 : Sl) (w : World) (R : Value → World → Prop) : Prop :=
 AllocP w (Obj.cells (Array.replicate (1000 : Nat) (Value.bool false)) (72 : Nat)) fun (b1 : Nat) (w2 : World) =>
 ∃ (y3 : Nat → Int → World → Prop),
 (∃ (b4 : Nat), y3 b4 (0 : Int) w2) ∧
 ∀ (b5 : Nat) (n6 : Int) (w7 : World) (y8 : Nat → Value),
 y3 b5 n6 w7 →
 ∃ (y10 : Unit → World → Prop),
 IfB (decide (n6 < (t0.n : Int))) (([] : List Nat) = [] ∧ y10 PUnit.unit w7) (R (Value.pointer (some ({ block := b1, off := (0 : Nat) } : Addr))) w7) ∧
 ∀ (y11 : Unit) (w12 : World) (y13 : Nat → Value),
 y10 y11 w12 →
 (F35j2 t0 b1 y3 b5 n6 w12)
theorem F35_ok (t0 : Sl) (w : World) (R : Value → World → Prop) (h : F35 t0 w R) : CW Try.prog 35 #[Value.slice t0.1 t0.2 t0.3] w R :=
  call_of tbOk mixed en35 Try.func35 rfl (.node (.nil) (.node (.nil) (.node (.node (.nil) (.loop [(4, .one (.int .i64))] [6, 7, 8, 9, 12, 13, 14, 15, 16, 17, 18, 19, 20, 21, 22, 23, 24, 25, 26, 27, 28, 29, 30, 5, 31, 32, 33, 34, 35, 36, 37, 40, 41, 38, 39, 10, 11, 4] (.join [] [6, 7, 8, 9] (.nil) (.node (.node (.nil) (.node (.nil) (.loop [(5, .one (.int .i64))] [31, 32, 33, 34, 35, 36, 37, 40, 41, 38, 39, 5] (.nil)))) (.nil))))) (.nil)))) (by kernel_rfl) (Nat.le_of_ble_eq_true (by kernel_rfl)) (Eq.mp (α := F35 t0 w R) (by kernel_rfl) h)
def F36j1 (t0 : Option Addr) (t1 : Option Addr) (R : Value → World → Prop) (y1 : Nat → Int → World → Prop) (b3 : Nat) (n4 : Int) (w5 : World) : Prop :=
 IfB (decide (n4 < (1000 : Int)))
 (∃ (y8 : Bool → World → Prop),
 (∃ (b9 : Nat),
 ∃ (b10 : Nat),
 t0 = some ({ block := b9, off := b10 } : Addr) ∧
 ((0 : Int) ≤ n4 ∧ n4 < ((1000 : Nat) : Int)) ∧
 ∃ (t11 : Bool),
 w5.cell? ({ block := b9, off := b10 + n4.toNat } : Addr) = some (Value.bool t11) ∧
 IfB t11
 (∃ (b12 : Nat),
 ∃ (b13 : Nat),
 t1 = some ({ block := b12, off := b13 } : Addr) ∧ ((0 : Int) ≤ n4 ∧ n4 < ((1000 : Nat) : Int)) ∧ ∃ (t14 : Bool), w5.cell? ({ block := b12, off := b13 + n4.toNat } : Addr) = some (Value.bool t14) ∧ ([] : List Nat) = [] ∧ y8 t14 w5)
 (([] : List Nat) = [] ∧ y8 false w5)) ∧
 ∀ (t15 : Bool) (w16 : World) (y17 : Nat → Value), y8 t15 w16 → IfB t15 (R (Value.bool true) w16) (([] : List Nat) = [] ∧ ∃ (b19 : Nat), b19 < b3 ∧ y1 b19 (IntKind.i64.wrap (n4 + (1 : Int))) w16))
 (R (Value.bool false) w5)
def F36 (t0 : Option Addr) (t1 : Option Addr) (w : World) (R : Value → World → Prop) : Prop :=
 ∃ (y1 : Nat → Int → World → Prop),
 (∃ (b2 : Nat), y1 b2 (0 : Int) w) ∧
 ∀ (b3 : Nat) (n4 : Int) (w5 : World) (y6 : Nat → Value),
 y1 b3 n4 w5 →
 (F36j1 t0 t1 R y1 b3 n4 w5)
theorem F36_ok (t0 : Option Addr) (t1 : Option Addr) (w : World) (R : Value → World → Prop) (h : F36 t0 t1 w R) : CW Try.prog 36 #[Value.pointer t0, Value.pointer t1] w R :=
  call_of tbOk mixed en36 Try.func36 rfl (.node (.nil) (.node (.node (.nil) (.loop [(5, .one (.int .i64))] [6, 7, 10, 11, 12, 13, 14, 15, 16, 17, 18, 19, 20, 21, 4, 8, 9, 5] (.node (.nil) (.node (.join [(21, .one (.bool))] [10, 11, 12, 13, 14, 15, 16, 17, 18, 19, 20, 21] (.nil) (.nil)) (.nil))))) (.nil))) (by kernel_rfl) (Nat.le_of_ble_eq_true (by kernel_rfl)) (Eq.mp (α := F36 t0 t1 w R) (by kernel_rfl) h)
def F12 (t0 : (Leaf.int IntKind.i64).den × dens [Leaf.int IntKind.i64, Leaf.int IntKind.i64, Leaf.bool, Leaf.sl, Leaf.sl]) (t1 : (Leaf.int IntKind.i64).den × dens [Leaf.int IntKind.i64, Leaf.int IntKind.i64, Leaf.bool, Leaf.sl, Leaf.sl]) (w : World) (R : Value → World → Prop) : Prop :=
 AllocP w
 (Obj.cells
 #[Value.int IntKind.i64 t0.1, Value.int IntKind.i64 t0.snd.1, Value.int IntKind.i64 t0.snd.snd.1, Value.bool t0.snd.snd.snd.1,
 Value.slice t0.snd.snd.snd.snd.fst.1 t0.snd.snd.snd.snd.fst.2 t0.snd.snd.snd.snd.fst.3, Value.slice t0.snd.snd.snd.snd.snd.1 t0.snd.snd.snd.snd.snd.2 t0.snd.snd.snd.snd.snd.3]
 (27 : Nat))
 fun (b1 : Nat) (w2 : World) =>
 AllocP w2
 (Obj.cells
 #[Value.int IntKind.i64 t1.1, Value.int IntKind.i64 t1.snd.1, Value.int IntKind.i64 t1.snd.snd.1, Value.bool t1.snd.snd.snd.1,
 Value.slice t1.snd.snd.snd.snd.fst.1 t1.snd.snd.snd.snd.fst.2 t1.snd.snd.snd.snd.fst.3, Value.slice t1.snd.snd.snd.snd.snd.1 t1.snd.snd.snd.snd.snd.2 t1.snd.snd.snd.snd.snd.3]
 (27 : Nat))
 fun (b3 : Nat) (w4 : World) =>
 ∃ (n5 : Int),
 w4.cell? ({ block := b1, off := (0 : Nat) + (0 : Nat) } : Addr) = some (Value.int IntKind.i64 n5) ∧
 ∃ (n6 : Int),
 w4.cell? ({ block := b3, off := (0 : Nat) + (0 : Nat) } : Addr) = some (Value.int IntKind.i64 n6) ∧
 IfB (n5 == n6) (R (Value.bool false) w4)
 (∃ (s7 : Sl),
 w4.drew.cell? ({ block := b1, off := (0 : Nat) + (4 : Nat) } : Addr) = some (Value.slice s7.1 s7.2 s7.3) ∧
 ∃ (s8 : Sl),
 w4.drew.cell? ({ block := b1, off := (0 : Nat) + (5 : Nat) } : Addr) = some (Value.slice s8.1 s8.2 s8.3) ∧
 ∃ (s9 : Sl),
 w4.drew.cell? ({ block := b3, off := (0 : Nat) + (4 : Nat) } : Addr) = some (Value.slice s9.1 s9.2 s9.3) ∧
 ∃ (s10 : Sl),
 w4.drew.cell? ({ block := b3, off := (0 : Nat) + (5 : Nat) } : Addr) = some (Value.slice s10.1 s10.2 s10.3) ∧
 CX Try.prog (35 : Nat) #[Value.slice s7.1 s7.2 s7.3] w4.drew fun (v11 : Value) (w12 : World) =>
 ∃ (p13 : Option Addr),
 v11 = Value.pointer p13 ∧
 w12.cell? ({ block := b3, off := (0 : Nat) + (5 : Nat) } : Addr) = some (Value.slice s10.1 s10.2 s10.3) ∧
 w12.cell? ({ block := b3, off := (0 : Nat) + (4 : Nat) } : Addr) = some (Value.slice s9.1 s9.2 s9.3) ∧
 w12.cell? ({ block := b1, off := (0 : Nat) + (5 : Nat) } : Addr) = some (Value.slice s8.1 s8.2 s8.3) ∧
 CX Try.prog (35 : Nat) #[Value.slice s8.1 s8.2 s8.3] w12 fun (v14 : Value) (w15 : World) =>
 ∃ (p16 : Option Addr),
 v14 = Value.pointer p16 ∧
 w15.cell? ({ block := b3, off := (0 : Nat) + (5 : Nat) } : Addr) = some (Value.slice s10.1 s10.2 s10.3) ∧
 w15.cell? ({ block := b3, off := (0 : Nat) + (4 : Nat) } : Addr) = some (Value.slice s9.1 s9.2 s9.3) ∧
 CX Try.prog (35 : Nat) #[Value.slice s9.1 s9.2 s9.3] w15 fun (v17 : Value) (w18 : World) =>
 ∃ (p19 : Option Addr),
 v17 = Value.pointer p19 ∧
 w18.cell? ({ block := b3, off := (0 : Nat) + (5 : Nat) } : Addr) = some (Value.slice s10.1 s10.2 s10.3) ∧
 CX Try.prog (35 : Nat) #[Value.slice s10.1 s10.2 s10.3] w18 fun (v20 : Value) (w21 : World) =>
 ∃ (p22 : Option Addr),
 v20 = Value.pointer p22 ∧
 CX Try.prog (36 : Nat) #[Value.pointer p16, Value.pointer p19] w21 fun (v23 : Value) (w24 : World) =>
 ∃ (t25 : Bool),
 v23 = Value.bool t25 ∧
 IfB t25 (R (Value.bool true) w24)
 (CX Try.prog (36 : Nat) #[Value.pointer p16, Value.pointer p22] w24 fun (v26 : Value) (w27 : World) =>
 ∃ (t28 : Bool),
 v26 = Value.bool t28 ∧
 IfB t28 (R (Value.bool true) w27)
 (CX Try.prog (36 : Nat) #[Value.pointer p13, Value.pointer p22] w27 fun (v29 : Value) (w30 : World) => ∃ (t31 : Bool), v29 = Value.bool t31 ∧ R (Value.bool t31) w30)))
theorem F12_ok (t0 : (Leaf.int IntKind.i64).den × dens [Leaf.int IntKind.i64, Leaf.int IntKind.i64, Leaf.bool, Leaf.sl, Leaf.sl]) (t1 : (Leaf.int IntKind.i64).den × dens [Leaf.int IntKind.i64, Leaf.int IntKind.i64, Leaf.bool, Leaf.sl, Leaf.sl]) (w : World) (R : Value → World → Prop) (h : F12 t0 t1 w R) : CW Try.prog 12 #[Value.agg #[Value.int IntKind.i64 t0.1, Value.int IntKind.i64 t0.snd.1, Value.int IntKind.i64 t0.snd.snd.1, Value.bool t0.snd.snd.snd.1, Value.slice t0.snd.snd.snd.snd.fst.1 t0.snd.snd.snd.snd.fst.2 t0.snd.snd.snd.snd.fst.3, Value.slice t0.snd.snd.snd.snd.snd.1 t0.snd.snd.snd.snd.snd.2 t0.snd.snd.snd.snd.snd.3], Value.agg #[Value.int IntKind.i64 t1.1, Value.int IntKind.i64 t1.snd.1, Value.int IntKind.i64 t1.snd.snd.1, Value.bool t1.snd.snd.snd.1, Value.slice t1.snd.snd.snd.snd.fst.1 t1.snd.snd.snd.snd.fst.2 t1.snd.snd.snd.snd.fst.3, Value.slice t1.snd.snd.snd.snd.snd.1 t1.snd.snd.snd.snd.snd.2 t1.snd.snd.snd.snd.snd.3]] w R :=
  call_of tbOk mixed en12 Try.func12 rfl (.node (.nil) (.node (.nil) (.node (.draw (.st 0 (.st 1 (.st 3 (.st 4 (.st 6 (.st 7 (.st 9 (.st 10 (.ac 2 [10, 9, 7, 6, 4, 3] (.ac 5 [10, 9, 7, 6] (.ac 8 [10, 9] (.ac 11 [] (.st 12 (.st 13 (.st 14 (.st 15 (.fin))))) (.non)) (.non)) (.non)) (.non))))))))))) (.nil)))) (by kernel_rfl) (Nat.le_of_ble_eq_true (by kernel_rfl)) (Eq.mp (α := F12 t0 t1 w R) (by kernel_rfl) h)
end Go.Proofs.Ytmmhbjbaallkfaa.Gx

/- The document's sets of keys (gimmalref04) and conflicts (gimmalref14). -/
namespace Go.Proofs.Ytmmhbjbaallkfaa.Gx
open Go
set_option linter.unusedSimpArgs false
set_option linter.unusedVariables false
abbrev st1000 (b : Nat) : Sl := ⟨some ⟨b, 0, none⟩, 1000, 1000⟩
def SetP (w : World) (b : Nat) (Q : Nat → Prop) : Prop := ∃ bs : List Bool, OwS w (st1000 b) 1 (bs.map encB) ∧ bs.length = 1000 ∧ ∀ k, k < 1000 → (bs[k]? = some true ↔ Q k)
theorem SetP.ext {w w' : World} {b : Nat} {Q : Nat → Prop} (h : SetP w b Q) (e : Ext w w') : SetP w' b Q := by
  obtain ⟨bs, h1, h2⟩ := h
  exact ⟨bs, h1.ext e, h2⟩
theorem SetP.iff {w : World} {b : Nat} {Q Q' : Nat → Prop} (h : SetP w b Q) (hq : ∀ k, k < 1000 → (Q' k ↔ Q k)) : SetP w b Q' := by
  obtain ⟨bs, h1, h2, h3⟩ := h
  exact ⟨bs, h1, h2, fun k hk => (h3 k hk).trans (hq k hk).symm⟩
theorem SetP.get {w : World} {b : Nat} {Q : Nat → Prop} (h : SetP w b Q) {k : Nat} (hk : k < 1000) : ∃ r, w.cell? ⟨b, 0 + k, none⟩ = some (.bool r) ∧ (r = true ↔ Q k) := by
  obtain ⟨bs, h1, h2, h3⟩ := h
  have hx : bs[k]? = some (bs[k]'(by omega)) := List.getElem?_eq_getElem (by omega)
  obtain ⟨b', hp, hc⟩ := h1.elem1 (i := k) (v := encB (bs[k]'(by omega))) (by rw [List.getElem?_map, hx]; rfl)
  cases hp
  refine ⟨bs[k]'(by omega), by rw [Nat.zero_add]; exact hc, ?_⟩
  rw [← h3 k hk, hx]; simp
theorem SetP.put {w : World} {b : Nat} {Q : Nat → Prop} (h : SetP w b Q) {k : Nat} (hk : k < 1000) {K : World → Prop} (hK : ∀ w', SetP w' b (fun k' => Q k' ∨ k' = k) → Ch (fun i => i = b) w w' → K w') : StoreP w b (0 + k) [.bool true] K := by
  obtain ⟨bs, h1, h2, h3⟩ := h
  rw [Nat.zero_add]
  refine h1.store (vs := [.bool true]) rfl (by simp; omega) (by intro v hv; rw [List.mem_singleton.1 hv]; rfl) fun w' ho hC => hK w' ⟨bs.set k true, ?_, by rw [List.length_set]; exact h2, fun k' hk' => ?_⟩ hC
  · have e : (bs.map encB).take k ++ [.bool true] ++ (bs.map encB).drop (k + 1) = (bs.set k true).map encB := by
      rw [List.set_eq_take_append_cons_drop, if_pos (by omega), List.map_append, List.map_cons, List.map_take, List.map_drop]
      simp [encB]
    rw [← e]; exact ho
  · rw [List.getElem?_set]
    by_cases e : k = k'
    · subst e; simp [h2, hk]
    · rw [if_neg e, h3 k' hk']; simp [Ne.symm e]
theorem c35 {w : World} {t : Sl} {xs : List Spn} (h : Rd w t 2 (xs.flatMap sv)) (hl : xs.length ≤ 1000000) :
    CW Try.prog 35 #[slV t] w fun v w' => ∃ b, v = .pointer (some ⟨b, 0, none⟩) ∧ SetP w' b (fun k => hasS xs k) ∧ w.heap.size ≤ b ∧ Ext w w' := by
  have hn := rdN sv_len (by omega) h
  refine F35_ok t w _ fun b1 w2 a2 => ?_
  have e2 : Ext w w2 := a2.ch _
  have p2 := a2.here
  have hS0 : SetP w2 b1 (fun k => hasS (xs.take 0) k) := by
    refine ⟨List.replicate 1000 false, OwS.new (w := w) (T := 72) ?_ (by rw [List.length_map, List.length_replicate]), by rw [List.length_replicate], fun k hk => ?_⟩
    · have : ((List.replicate 1000 false).map encB).toArray = Array.replicate 1000 (Value.bool false) := by rw [List.map_replicate, List.toArray_replicate]; rfl
      rw [this]; exact a2
    · rw [List.getElem?_replicate, if_pos hk]; simp [hasS]
  refine ⟨fun m x W => ∃ i : Nat, i ≤ xs.length ∧ m + i = xs.length ∧ x = (i : Int) ∧ SetP W b1 (fun k => hasS (xs.take i) k) ∧ Ch (fun j => j = b1) w2 W, ⟨xs.length, 0, Nat.zero_le _, rfl, rfl, hS0, Ch.refl _ _⟩, ?_⟩
  rintro m _ W g ⟨i, hi, hmi, rfl, hS, hC⟩
  have E : Ext w W := e2.chN hC fun j e => by omega
  refine ⟨fun _ w12 => w12 = W ∧ i < xs.length, IfB.dec (fun hlt => ⟨rfl, rfl, by omega⟩) fun hge => ?_, ?_⟩
  · have hi' : i = xs.length := by omega
    subst hi'
    rw [List.take_length] at hS
    exact ⟨b1, rfl, hS, by omega, E⟩
  rintro _ _ g ⟨rfl, hi'⟩
  have hx : xs[i]? = some xs[i] := List.getElem?_eq_getElem hi'
  have htk := take_succ_get hx
  generalize xs[i] = s at hx htk
  obtain ⟨a, o, hp, hc⟩ := (h.ext E).elem (i := i) (by omega) (by omega) (flatGet sv_len hx)
  have hb : (0 : Int) ≤ (i : Int) ∧ (i : Int) < (t.n : Int) := ⟨by omega, by omega⟩
  have hi1 : IntKind.i64.wrap ((i : Int) + 1) = ((i + 1 : Nat) : Int) := by rw [wrap_of (by omega) (by omega)]; rfl
  have skip : (s.1 < 0 ∨ 999 < s.2) → SetP _ b1 (fun k => hasS (xs.take (i + 1)) k) := fun hs => hS.iff fun k hk => by
    rw [htk, hasS_append, hasS_one]
    unfold mayS
    constructor
    · rintro (h | h)
      · exact h
      · omega
    · exact .inl
  unfold F35j2
  refine ⟨a, o, hp, hb, s.1, by rw [Int.toNat_natCast]; exact hc.fst, IfB.dec (fun h1 => ⟨rfl, m - 1, by omega, i + 1, hi', by omega, hi1, skip (.inl h1), hC⟩) fun h1 => ⟨a, o, hp, hb, s.2, by rw [Int.toNat_natCast]; exact hc.snd, IfB.dec (fun h2 => ⟨rfl, m - 1, by omega, i + 1, hi', by omega, hi1, skip (.inr h2), hC⟩) fun h2 => ?_⟩⟩
  refine ⟨a, o, hp, hb, s.1, by rw [Int.toNat_natCast]; exact hc.fst, fun n x W' => (s.1 ≤ x ∧ (x ≤ s.2 + 1 ∨ x = s.1)) ∧ n = (s.2 + 1 - x).toNat ∧ SetP W' b1 (fun k => hasS (xs.take i) k ∨ (s.1 ≤ (k : Int) ∧ (k : Int) < x)) ∧ Ch (fun j => j = b1) w2 W',
    ⟨_, ⟨by omega, .inr rfl⟩, rfl, hS.iff fun k hk => ⟨fun h => h.elim id fun h => by omega, .inl⟩, hC⟩, ?_⟩
  rintro n x W' g ⟨⟨hx1, hx2⟩, rfl, hS', hC'⟩
  have E' : Ext w W' := e2.chN hC' fun j e => by omega
  obtain ⟨a', o', hp', hc'⟩ := (h.ext E').elem (i := i) (by omega) (by omega) (flatGet sv_len hx)
  unfold F35j3
  refine ⟨a', o', hp', hb, s.2, by rw [Int.toNat_natCast]; exact hc'.snd, IfB.dec (fun h3 => ⟨⟨by omega, by omega⟩, rfl, hS'.put (k := x.toNat) (by omega) fun w3 hS3 hC3 => ⟨rfl, (s.2 + 1 - (x + 1)).toNat, by omega, ?_, ?_, ?_, hC'.trans hC3⟩⟩) fun h3 => ⟨rfl, m - 1, by omega, i + 1, hi', by omega, hi1, ?_, hC'⟩⟩
  · rw [wrap_of (by omega) (by omega)]; omega
  · rw [wrap_of (by omega) (by omega)]
  · rw [wrap_of (by omega) (by omega)]
    exact hS3.iff fun k hk => by
      rw [or_assoc]
      exact or_congr Iff.rfl (by omega)
  · refine hS'.iff fun k hk => ?_
    rw [htk, hasS_append, hasS_one]
    refine or_congr Iff.rfl ?_
    unfold mayS; omega
set_option maxRecDepth 20000 in
theorem c36 {w : World} {b1 b2 : Nat} {Q1 Q2 : Nat → Prop} (h1 : SetP w b1 Q1) (h2 : SetP w b2 Q2) :
    CW Try.prog 36 #[.pointer (some ⟨b1, 0, none⟩), .pointer (some ⟨b2, 0, none⟩)] w fun v w' => ∃ r, v = .bool r ∧ (r = true ↔ ∃ k, k < 1000 ∧ Q1 k ∧ Q2 k) ∧ w = w' := by
  refine F36_ok _ _ w _ ?_
  unfold F36
  refine ⟨fun m x W => ∃ i : Nat, i ≤ 1000 ∧ m + i = 1000 ∧ x = (i : Int) ∧ w = W ∧ ∀ k, k < i → ¬ (Q1 k ∧ Q2 k), ?_, ?_⟩
  · exact ⟨1000, 0, by omega, by omega, by omega, Eq.refl w, fun k hk => by omega⟩
  rintro m _ _ g ⟨i, hi, hmi, rfl, rfl, hno⟩
  unfold F36j1
  refine IfB.dec (fun hlt => ?_) fun hge => ⟨false, rfl, ⟨fun h => (by cases h), fun ⟨k, hk, hq⟩ => absurd hq (hno k (by omega))⟩, rfl⟩
  have hi' : i < 1000 := by omega
  obtain ⟨r1, c1, hr1⟩ := h1.get hi'
  obtain ⟨r2, c2, hr2⟩ := h2.get hi'
  have hb : (0 : Int) ≤ (i : Int) ∧ (i : Int) < ((1000 : Nat) : Int) := ⟨by omega, by omega⟩
  refine ⟨fun r W => w = W ∧ (r = true ↔ Q1 i ∧ Q2 i), ⟨b1, 0, rfl, hb, r1, by rw [Int.toNat_natCast]; exact c1, IfB.intro (fun h => ⟨b2, 0, rfl, hb, r2, by rw [Int.toNat_natCast]; exact c2, rfl, rfl, by rw [hr2]; exact ⟨fun h' => ⟨hr1.1 h, h'⟩, fun h' => h'.2⟩⟩) fun h => ⟨rfl, rfl, ⟨fun h' => (by cases h'), fun h' => by rw [hr1.2 h'.1] at h; cases h⟩⟩⟩, ?_⟩
  rintro r _ g ⟨rfl, hr⟩
  refine IfB.intro (fun h => ⟨true, rfl, ⟨fun _ => ⟨i, hi', hr.1 h⟩, fun _ => rfl⟩, rfl⟩) fun h => ⟨rfl, m - 1, by omega, i + 1, hi', by omega, by rw [wrap_of (by omega) (by omega)]; rfl, rfl, fun k hk hq => ?_⟩
  by_cases e : k = i
  · subst e; rw [hr.2 hq] at h; cases h
  · exact hno k (by omega) hq
theorem mtP_nat {xs ys : List Spn} : mtP xs ys ↔ ∃ k : Nat, k < 1000 ∧ hasS xs k ∧ hasS ys k := by
  constructor
  · rintro ⟨k, ⟨x, hx, hm, h1, h2⟩, h⟩
    have hk : 0 ≤ k ∧ k ≤ 999 := by unfold mayS at hm; omega
    obtain ⟨n, rfl⟩ : ∃ n : Nat, k = (n : Int) := ⟨k.toNat, by omega⟩
    exact ⟨n, by omega, ⟨x, hx, hm, h1, h2⟩, h⟩
  · rintro ⟨k, _, h⟩; exact ⟨k, h⟩
theorem c12 {w : World} {a b : Nd} (ha : NdOk w a) (hb : NdOk w b) :
    CW Try.prog 12 #[ndV a.v, ndV b.v] w fun v w' => ∃ r, v = .bool r ∧ (r = true ↔ cnfP a b) ∧ Ext w w' := by
  refine F12_ok a.v b.v w _ fun b1 w2 h2 b3 w4 h4 => ?_
  have e4 : Ext w w4 := (h2.ch _).trans (h4.ch _)
  have H1 := h4.at h2.new
  have H3 := h4.new
  have q1 : ∀ {W : World} (o : Nat), Ext w4 W → W.cell? ⟨b1, 0 + o, none⟩ = (nC a.v)[o]? := fun o e => by rw [cell_of (e.at H1), Nat.zero_add]; exact List.getElem?_toArray ..
  have q3 : ∀ {W : World} (o : Nat), Ext w4 W → W.cell? ⟨b3, 0 + o, none⟩ = (nC b.v)[o]? := fun o e => by rw [cell_of (e.at H3), Nat.zero_add]; exact List.getElem?_toArray ..
  refine ⟨_, q1 0 (Ch.refl _ _), _, q3 0 (Ch.refl _ _), IfB.intro (fun he => ?_) fun hne => ?_⟩
  · have he : a.v.1 = b.v.1 := by simpa using he
    exact ⟨false, rfl, ⟨fun h => (by cases h), fun h => absurd he h.1⟩, e4⟩
  · have hne : a.v.1 ≠ b.v.1 := by simpa using hne
    have ed := extDrew w4
    refine ⟨_, q1 4 ed, _, q1 5 ed, _, q3 4 ed, _, q3 5 ed, (c35 (ha.rs.ext (e4.trans ed)) ha.rl).use ?_⟩
    rintro _ w12 ⟨pa, rfl, sa, _, e12⟩
    have f12 : Ext w4 w12 := ed.trans e12
    refine ⟨_, rfl, q3 5 f12, q3 4 f12, q1 5 f12, (c35 (ha.ws.ext (e4.trans f12)) ha.wl).use ?_⟩
    rintro _ w15 ⟨pb, rfl, sb, _, e15⟩
    have f15 := f12.trans e15
    refine ⟨_, rfl, q3 5 f15, q3 4 f15, (c35 (hb.rs.ext (e4.trans f15)) hb.rl).use ?_⟩
    rintro _ w18 ⟨pc, rfl, sc, _, e18⟩
    have f18 := f15.trans e18
    refine ⟨_, rfl, q3 5 f18, (c35 (hb.ws.ext (e4.trans f18)) hb.wl).use ?_⟩
    rintro _ w21 ⟨pd, rfl, sd, _, e21⟩
    have f21 := e4.trans (f18.trans e21)
    have sa := ((sa.ext e15).ext e18).ext e21
    have sb := (sb.ext e18).ext e21
    have sc := sc.ext e21
    refine ⟨_, rfl, (c36 sb sc).use ?_⟩
    rintro _ _ ⟨r1, rfl, hr1, rfl⟩
    rw [← mtP_nat] at hr1
    refine ⟨r1, rfl, IfB.intro (fun h => ⟨true, rfl, ⟨fun _ => ⟨hne, .inl (hr1.1 h)⟩, fun _ => rfl⟩, f21⟩) fun n1 => (c36 sb sd).use ?_⟩
    rintro _ _ ⟨r2, rfl, hr2, rfl⟩
    rw [← mtP_nat] at hr2
    refine ⟨r2, rfl, IfB.intro (fun h => ⟨true, rfl, ⟨fun _ => ⟨hne, .inr (.inl (hr2.1 h))⟩, fun _ => rfl⟩, f21⟩) fun n2 => (c36 sa sd).use ?_⟩
    rintro _ _ ⟨r3, rfl, hr3, rfl⟩
    rw [← mtP_nat] at hr3
    refine ⟨r3, rfl, r3, rfl, ?_, f21⟩
    rw [hr3]
    refine ⟨fun h => ⟨hne, .inr (.inr h)⟩, fun h => ?_⟩
    rcases h.2 with h | h | h
    · rw [hr1.2 h] at n1; cases n1
    · rw [hr2.2 h] at n2; cases n2
    · exact h
end Go.Proofs.Ytmmhbjbaallkfaa.Gx

/- Written by mkf.py: what is to be shown of functions, as Gx reckons it from their code. -/
namespace Go.Proofs.Ytmmhbjbaallkfaa.Gx
open Go
set_option linter.unusedVariables false
set_option maxRecDepth 100000
def F23k1 (t0 : Sl) (x4 : Sl × Int) (w36 : World) (s30 : Sl) (n35 : Int) (b3 : Nat) (y1 : Nat → Sl × Int → World → Prop) : Prop :=
 ∃ (b59 : Nat),
 ∃ (b60 : Nat),
 t0.1 = some ({ block := b59, off := b60 } : Addr) ∧
 ((0 : Int) ≤ x4.2 ∧ x4.2 < (t0.2 : Int)) ∧
 ∃ (n61 : Int),
 w36.drew.cell? ({ block := b59, off := b60 + x4.2.toNat * (6 : Nat) + (0 : Nat) } : Addr) = some (Value.int IntKind.i64 n61) ∧
 ∃ (b62 : Nat),
 ∃ (b63 : Nat),
 s30.1 = some ({ block := b62, off := b63 } : Addr) ∧
 ((0 : Int) ≤ n35 ∧ n35 < (s30.2 : Int)) ∧
 #[Value.int IntKind.i64 n61].size = (1 : Nat) ∧
 StoreP w36.drew b62 (b63 + n35.toNat) [Value.int IntKind.i64 n61] fun (w64 : World) =>
 ([] : List Nat) = [] ∧ ∃ (b65 : Nat), b65 < b3 ∧ y1 b65 ({ p := s30.1, n := s30.2, c := s30.3 }, IntKind.i64.wrap (x4.2 + (1 : Int))) w64
def F23j3 (t0 : Sl) (y1 : Nat → Sl × Int → World → Prop) (b3 : Nat) (x4 : Sl × Int) (s30 : Sl) (y32 : Nat → Int → World → Prop) (b34 : Nat) (n35 : Int) (w36 : World) : Prop :=
 IfB (decide ((0 : Int) < n35))
 (∃ (b39 : Nat),
 ∃ (b40 : Nat),
 s30.1 = some ({ block := b39, off := b40 } : Addr) ∧
 ((0 : Int) ≤ IntKind.i64.wrap (n35 - (1 : Int)) ∧ IntKind.i64.wrap (n35 - (1 : Int)) < (s30.2 : Int)) ∧
 ∃ (n41 : Int),
 w36.drew.cell? ({ block := b39, off := b40 + (IntKind.i64.wrap (n35 - (1 : Int))).toNat } : Addr) = some (Value.int IntKind.i64 n41) ∧
 ∃ (b42 : Nat),
 ∃ (b43 : Nat),
 t0.1 = some ({ block := b42, off := b43 } : Addr) ∧
 ((0 : Int) ≤ x4.2 ∧ x4.2 < (t0.2 : Int)) ∧
 ∃ (n44 : Int),
 w36.drew.cell? ({ block := b42, off := b43 + x4.2.toNat * (6 : Nat) + (0 : Nat) } : Addr) = some (Value.int IntKind.i64 n44) ∧
 IfB (decide (n44 < n41))
 (∃ (b45 : Nat),
 ∃ (b46 : Nat),
 s30.1 = some ({ block := b45, off := b46 } : Addr) ∧
 ((0 : Int) ≤ IntKind.i64.wrap (n35 - (1 : Int)) ∧ IntKind.i64.wrap (n35 - (1 : Int)) < (s30.2 : Int)) ∧
 ∃ (n47 : Int),
 w36.drew.cell? ({ block := b45, off := b46 + (IntKind.i64.wrap (n35 - (1 : Int))).toNat } : Addr) = some (Value.int IntKind.i64 n47) ∧
 ∃ (b48 : Nat),
 ∃ (b49 : Nat),
 s30.1 = some ({ block := b48, off := b49 } : Addr) ∧
 ((0 : Int) ≤ n35 ∧ n35 < (s30.2 : Int)) ∧
 #[Value.int IntKind.i64 n47].size = (1 : Nat) ∧
 StoreP w36.drew b48 (b49 + n35.toNat) [Value.int IntKind.i64 n47] fun (w50 : World) => ([] : List Nat) = [] ∧ ∃ (b51 : Nat), b51 < b34 ∧ y32 b51 (IntKind.i64.wrap (n35 - (1 : Int))) w50)
 (F23k1 t0 x4 w36 s30 n35 b3 y1))
 (F23k1 t0 x4 w36 s30 n35 b3 y1)
def F23j2 (t0 : Sl) (y1 : Nat → Sl × Int → World → Prop) (b3 : Nat) (x4 : Sl × Int) (y8 : Nat → Bool × Int → World → Prop) (b10 : Nat) (x11 : Bool × Int) (w12 : World) : Prop :=
 IfB (decide (x11.snd < (x4.fst.n : Int)))
 (IfB x11.1 (([] : List Nat) = [] ∧ ∃ (b15 : Nat), b15 < b10 ∧ y8 b15 (true, IntKind.i64.wrap (x11.2 + (1 : Int))) w12.drew)
 (∃ (b16 : Nat),
 ∃ (b17 : Nat),
 x4.fst.1 = some ({ block := b16, off := b17 } : Addr) ∧
 ((0 : Int) ≤ x11.2 ∧ x11.2 < (x4.fst.2 : Int)) ∧
 ∃ (n18 : Int),
 w12.drew.cell? ({ block := b16, off := b17 + x11.2.toNat } : Addr) = some (Value.int IntKind.i64 n18) ∧
 ∃ (b19 : Nat),
 ∃ (b20 : Nat),
 t0.1 = some ({ block := b19, off := b20 } : Addr) ∧
 ((0 : Int) ≤ x4.2 ∧ x4.2 < (t0.2 : Int)) ∧
 ∃ (n21 : Int),
 w12.drew.cell? ({ block := b19, off := b20 + x4.2.toNat * (6 : Nat) + (0 : Nat) } : Addr) = some (Value.int IntKind.i64 n21) ∧
 ([] : List Nat) = [] ∧ ∃ (b22 : Nat), b22 < b10 ∧ y8 b22 (n18 == n21, IntKind.i64.wrap (x11.2 + (1 : Int))) w12.drew))
 (IfB x11.1 (([] : List Nat) = [] ∧ ∃ (b23 : Nat), b23 < b3 ∧ y1 b23 ({ p := x4.fst.1, n := x4.fst.2, c := x4.fst.3 }, IntKind.i64.wrap (x4.2 + (1 : Int))) w12)
 (∃ (b24 : Nat),
 ∃ (b25 : Nat),
 t0.1 = some ({ block := b24, off := b25 } : Addr) ∧
 ((0 : Int) ≤ x4.2 ∧ x4.2 < (t0.2 : Int)) ∧
 ∃ (n26 : Int),
 w12.cell? ({ block := b24, off := b25 + x4.2.toNat * (6 : Nat) + (0 : Nat) } : Addr) = some (Value.int IntKind.i64 n26) ∧
 (1 : Nat) * (1 : Nat) ≤ (16777216 : Nat) ∧
 AllocP w12 (Obj.cells #[Value.int IntKind.i64 n26] (3 : Nat)) fun (b27 : Nat) (w28 : World) =>
 ∃ (l29 : List Value),
 ReadC w28 (some ({ block := b27, off := (0 : Nat) } : Addr)) ((1 : Nat) * (1 : Nat)) l29 ∧
 AppendP tt3 (3 : Nat) w28 x4.fst.1 x4.fst.2 x4.fst.3
 (1 : Nat) l29 fun (s30 : Sl) (w31 : World) =>
 ∃ (y32 : Nat → Int → World → Prop),
 (∃ (b33 : Nat), y32 b33 ((x4.fst.2 : Int)) w31) ∧
 ∀ (b34 : Nat) (n35 : Int) (w36 : World) (y37 : Nat → Value),
 y32 b34 n35 w36 →
 (F23j3 t0 y1 b3 x4 s30 y32 b34 n35 w36)))
def F23 (t0 : Sl) (w : World) (R : Value → World → Prop) : Prop :=
 ∃ (y1 : Nat → Sl × Int → World → Prop),
 (∃ (b2 : Nat), y1 b2 ({ p := none, n := (0 : Nat), c := (0 : Nat) }, (0 : Int)) w) ∧
 ∀ (b3 : Nat) (x4 : Sl × Int) (w5 : World) (y6 : Nat → Value),
 y1 b3 x4 w5 →
 IfB (decide (x4.snd < (t0.n : Int)))
 (∃ (y8 : Nat → Bool × Int → World → Prop),
 (∃ (b9 : Nat), y8 b9 (false, (0 : Int)) w5) ∧
 ∀ (b10 : Nat) (x11 : Bool × Int) (w12 : World) (y13 : Nat → Value),
 y8 b10 x11 w12 →
 (F23j2 t0 y1 b3 x4 y8 b10 x11 w12))
 (R (Value.slice x4.fst.1 x4.fst.2 x4.fst.3) w5)
theorem F23_ok (t0 : Sl) (w : World) (R : Value → World → Prop) (h : F23 t0 w R) : CW Try.prog 23 #[Value.slice t0.1 t0.2 t0.3] w R :=
  call_of tbOk mixed en23 Try.func23 rfl (.node (.nil) (.node (.nil) (.node (.node (.nil) (.loop [(3, .one (.sl)), (4, .one (.int .i64))] [8, 9, 10, 11, 14, 15, 5, 6, 7, 16, 17, 18, 19, 22, 23, 24, 25, 26, 27, 28, 29, 30, 31, 32, 33, 34, 20, 21, 35, 36, 37, 38, 39, 40, 41, 42, 43, 3, 44, 45, 46, 47, 48, 49, 50, 51, 52, 53, 54, 55, 56, 57, 58, 59, 60, 61, 62, 63, 64, 65, 66, 67, 68, 69, 70, 71, 72, 73, 74, 75, 76, 12, 13, 4] (.node (.nil) (.node (.node (.nil) (.node (.nil) (.node (.node (.nil) (.loop [(6, .one (.bool)), (7, .one (.int .i64))] [16, 17, 18, 19, 22, 23, 24, 25, 26, 27, 28, 29, 30, 31, 32, 33, 34, 6, 20, 21, 7] (.node (.nil) (.node (.draw (.st 0 (.st 1 (.st 2 (.st 3 (.st 4 (.st 5 (.st 6 (.st 7 (.st 8 (.st 9 (.st 10 (.st 11 (.st 12 (.st 13 (.fin)))))))))))))))) (.nil))))) (.node (.nil) (.node (.nil) (.node (.loop [(5, .one (.int .i64))] [44, 45, 46, 47, 48, 49, 50, 51, 52, 53, 54, 55, 56, 57, 58, 59, 60, 61, 62, 63, 64, 65, 66, 67, 68, 5] (.node (.node (.draw (.st 0 (.st 1 (.st 2 (.st 3 (.st 4 (.st 5 (.st 6 (.st 7 (.st 8 (.st 9 (.st 10 (.st 11 (.st 12 (.st 13 (.st 14 (.fin))))))))))))))))) (.nil)) (.nil))) (.nil))))))) (.nil))))) (.nil)))) (by kernel_rfl) (Nat.le_of_ble_eq_true (by kernel_rfl)) (Eq.mp (α := F23 t0 w R) (by kernel_rfl) h)
def F47j2 (t0 : Sl) (t1 : Int) (t2 : Int) (R : Value → World → Prop) (y1 : Nat → Int → World → Prop) (b3 : Nat) (n4 : Int) (y8 : Nat → Int → World → Prop) (b10 : Nat) (n11 : Int) (w12 : World) : Prop :=
 IfB (decide (n11 < n4))
 (∃ (b15 : Nat),
 ∃ (b16 : Nat),
 t0.1 = some ({ block := b15, off := b16 } : Addr) ∧
 ((0 : Int) ≤ n11 ∧ n11 < (t0.2 : Int)) ∧
 ∃ (n17 : Int),
 w12.drew.cell? ({ block := b15, off := b16 + n11.toNat * (6 : Nat) + (0 : Nat) } : Addr) = some (Value.int IntKind.i64 n17) ∧
 IfB (n17 == t1)
 (∃ (b18 : Nat),
 ∃ (b19 : Nat),
 t0.1 = some ({ block := b18, off := b19 } : Addr) ∧
 ((0 : Int) ≤ n4 ∧ n4 < (t0.2 : Int)) ∧
 ∃ (n20 : Int),
 w12.drew.cell? ({ block := b18, off := b19 + n4.toNat * (6 : Nat) + (0 : Nat) } : Addr) = some (Value.int IntKind.i64 n20) ∧
 IfB (n20 == t2)
 (∃ (b21 : Nat),
 ∃ (b22 : Nat),
 t0.1 = some ({ block := b21, off := b22 } : Addr) ∧
 ((0 : Int) ≤ n11 ∧ n11 < (t0.2 : Int)) ∧
 ∃ (x23 : Int × Int × Int × Bool × Sl × Sl),
 CellsAt w12.drew b21 (b22 + n11.toNat * (6 : Nat))
 [Value.int IntKind.i64 x23.1, Value.int IntKind.i64 x23.snd.1, Value.int IntKind.i64 x23.snd.snd.1, Value.bool x23.snd.snd.snd.1,
 Value.slice x23.snd.snd.snd.snd.fst.1 x23.snd.snd.snd.snd.fst.2 x23.snd.snd.snd.snd.fst.3, Value.slice x23.snd.snd.snd.snd.snd.1 x23.snd.snd.snd.snd.snd.2 x23.snd.snd.snd.snd.snd.3] ∧
 ∃ (b24 : Nat),
 ∃ (b25 : Nat),
 t0.1 = some ({ block := b24, off := b25 } : Addr) ∧
 ((0 : Int) ≤ n4 ∧ n4 < (t0.2 : Int)) ∧
 ∃ (x26 : Int × Int × Int × Bool × Sl × Sl),
 CellsAt w12.drew b24 (b25 + n4.toNat * (6 : Nat))
 [Value.int IntKind.i64 x26.1, Value.int IntKind.i64 x26.snd.1, Value.int IntKind.i64 x26.snd.snd.1, Value.bool x26.snd.snd.snd.1,
 Value.slice x26.snd.snd.snd.snd.fst.1 x26.snd.snd.snd.snd.fst.2 x26.snd.snd.snd.snd.fst.3, Value.slice x26.snd.snd.snd.snd.snd.1 x26.snd.snd.snd.snd.snd.2 x26.snd.snd.snd.snd.snd.3] ∧
 CX Try.prog (12 : Nat)
 #[Value.agg
 #[Value.int IntKind.i64 x23.1, Value.int IntKind.i64 x23.snd.1, Value.int IntKind.i64 x23.snd.snd.1, Value.bool x23.snd.snd.snd.1,
 Value.slice x23.snd.snd.snd.snd.fst.1 x23.snd.snd.snd.snd.fst.2 x23.snd.snd.snd.snd.fst.3, Value.slice x23.snd.snd.snd.snd.snd.1 x23.snd.snd.snd.snd.snd.2 x23.snd.snd.snd.snd.snd.3],
 Value.agg
 #[Value.int IntKind.i64 x26.1, Value.int IntKind.i64 x26.snd.1, Value.int IntKind.i64 x26.snd.snd.1, Value.bool x26.snd.snd.snd.1,
 Value.slice x26.snd.snd.snd.snd.fst.1 x26.snd.snd.snd.snd.fst.2 x26.snd.snd.snd.snd.fst.3, Value.slice x26.snd.snd.snd.snd.snd.1 x26.snd.snd.snd.snd.snd.2 x26.snd.snd.snd.snd.snd.3]]
 w12.drew fun (v27 : Value) (w28 : World) =>
 ∃ (t29 : Bool), v27 = Value.bool t29 ∧ IfB t29 (R (Value.bool true) w28) (([] : List Nat) = [] ∧ ∃ (b30 : Nat), b30 < b10 ∧ y8 b30 (IntKind.i64.wrap (n11 + (1 : Int))) w28))
 (([] : List Nat) = [] ∧ ∃ (b31 : Nat), b31 < b10 ∧ y8 b31 (IntKind.i64.wrap (n11 + (1 : Int))) w12.drew))
 (([] : List Nat) = [] ∧ ∃ (b32 : Nat), b32 < b10 ∧ y8 b32 (IntKind.i64.wrap (n11 + (1 : Int))) w12.drew))
 (([] : List Nat) = [] ∧ ∃ (b33 : Nat), b33 < b3 ∧ y1 b33 (IntKind.i64.wrap (n4 + (1 : Int))) w12)
def F47 (t0 : Sl) (t1 : Int) (t2 : Int) (w : World) (R : Value → World → Prop) : Prop :=
 ∃ (y1 : Nat → Int → World → Prop),
 (∃ (b2 : Nat), y1 b2 (0 : Int) w) ∧
 ∀ (b3 : Nat) (n4 : Int) (w5 : World) (y6 : Nat → Value),
 y1 b3 n4 w5 →
 IfB (decide (n4 < (t0.n : Int)))
 (∃ (y8 : Nat → Int → World → Prop),
 (∃ (b9 : Nat), y8 b9 (0 : Int) w5) ∧
 ∀ (b10 : Nat) (n11 : Int) (w12 : World) (y13 : Nat → Value),
 y8 b10 n11 w12 →
 (F47j2 t0 t1 t2 R y1 b3 n4 y8 b10 n11 w12))
 (R (Value.bool false) w5)
theorem F47_ok (t0 : Sl) (t1 : Int) (t2 : Int) (w : World) (R : Value → World → Prop) (h : F47 t0 t1 t2 w R) : CW Try.prog 47 #[Value.slice t0.1 t0.2 t0.3, Value.int IntKind.i64 t1, Value.int IntKind.i64 t2] w R :=
  call_of tbOk mixed en47 Try.func47 rfl (.node (.nil) (.node (.node (.nil) (.loop [(7, .one (.int .i64))] [9, 10, 11, 12, 8, 15, 16, 17, 20, 21, 22, 23, 24, 25, 26, 27, 28, 29, 30, 31, 32, 33, 34, 35, 36, 37, 38, 39, 40, 41, 42, 43, 44, 45, 46, 6, 18, 19, 13, 14, 7] (.node (.nil) (.node (.node (.nil) (.loop [(8, .one (.int .i64))] [15, 16, 17, 20, 21, 22, 23, 24, 25, 26, 27, 28, 29, 30, 31, 32, 33, 34, 35, 36, 37, 38, 39, 40, 41, 42, 43, 44, 45, 46, 6, 18, 19, 8] (.node (.nil) (.node (.node (.draw (.st 0 (.st 1 (.st 2 (.st 3 (.st 4 (.st 5 (.st 6 (.st 7 (.st 8 (.st 9 (.st 10 (.st 11 (.st 12 (.st 13 (.st 14 (.st 15 (.st 16 (.st 17 (.st 18 (.st 19 (.st 20 (.st 21 (.st 22 (.st 23 (.st 24 (.ac 25 [] (.st 26 (.fin)) (.non)))))))))))))))))))))))))))) (.nil)) (.nil))))) (.nil))))) (.nil))) (by kernel_rfl) (Nat.le_of_ble_eq_true (by kernel_rfl)) (Eq.mp (α := F47 t0 t1 t2 w R) (by kernel_rfl) h)
def F22j2 (t0 : Sl) (s3 : Sl) (y4 : Nat → Sl × Int → World → Prop) (b6 : Nat) (x7 : Sl × Int) (y11 : Nat → Sl × Int → World → Prop) (b13 : Nat) (x14 : Sl × Int) (w15 : World) : Prop :=
 IfB (decide (x14.snd < (s3.n : Int)))
 (∃ (b18 : Nat),
 ∃ (b19 : Nat),
 s3.1 = some ({ block := b18, off := b19 } : Addr) ∧
 ((0 : Int) ≤ x7.2 ∧ x7.2 < (s3.2 : Int)) ∧
 ∃ (n20 : Int),
 w15.drew.cell? ({ block := b18, off := b19 + x7.2.toNat } : Addr) = some (Value.int IntKind.i64 n20) ∧
 ∃ (b21 : Nat),
 ∃ (b22 : Nat),
 s3.1 = some ({ block := b21, off := b22 } : Addr) ∧
 ((0 : Int) ≤ x14.2 ∧ x14.2 < (s3.2 : Int)) ∧
 ∃ (n23 : Int),
 w15.drew.cell? ({ block := b21, off := b22 + x14.2.toNat } : Addr) = some (Value.int IntKind.i64 n23) ∧
 CX Try.prog (47 : Nat) #[Value.slice t0.1 t0.2 t0.3, Value.int IntKind.i64 n20, Value.int IntKind.i64 n23] w15.drew fun (v24 : Value) (w25 : World) =>
 ∃ (t26 : Bool),
 v24 = Value.bool t26 ∧
 IfB t26
 (∃ (b27 : Nat),
 ∃ (b28 : Nat),
 s3.1 = some ({ block := b27, off := b28 } : Addr) ∧
 ((0 : Int) ≤ x7.2 ∧ x7.2 < (s3.2 : Int)) ∧
 ∃ (n29 : Int),
 w25.drew.cell? ({ block := b27, off := b28 + x7.2.toNat } : Addr) = some (Value.int IntKind.i64 n29) ∧
 ∃ (b30 : Nat),
 ∃ (b31 : Nat),
 s3.1 = some ({ block := b30, off := b31 } : Addr) ∧
 ((0 : Int) ≤ x14.2 ∧ x14.2 < (s3.2 : Int)) ∧
 ∃ (n32 : Int),
 w25.drew.cell? ({ block := b30, off := b31 + x14.2.toNat } : Addr) = some (Value.int IntKind.i64 n32) ∧
 (1 : Nat) * (2 : Nat) ≤ (16777216 : Nat) ∧
 AllocP w25.drew (Obj.cells #[Value.int IntKind.i64 n29, Value.int IntKind.i64 n32] (44 : Nat)) fun (b33 : Nat) (w34 : World) =>
 ∃ (l35 : List Value),
 ReadC w34 (some ({ block := b33, off := (0 : Nat) } : Addr)) ((1 : Nat) * (2 : Nat)) l35 ∧
 AppendP tt44 (44 : Nat) w34 x14.fst.1 x14.fst.2 x14.fst.3 (1 : Nat) l35 fun (s36 : Sl) (w37 : World) =>
 ([] : List Nat) = [] ∧ ∃ (b38 : Nat), b38 < b13 ∧ y11 b38 ({ p := s36.1, n := s36.2, c := s36.3 }, IntKind.i64.wrap (x14.2 + (1 : Int))) w37)
 (([] : List Nat) = [] ∧ ∃ (b39 : Nat), b39 < b13 ∧ y11 b39 ({ p := x14.fst.1, n := x14.fst.2, c := x14.fst.3 }, IntKind.i64.wrap (x14.2 + (1 : Int))) w25))
 (([] : List Nat) = [] ∧ ∃ (b40 : Nat), b40 < b6 ∧ y4 b40 ({ p := x14.fst.1, n := x14.fst.2, c := x14.fst.3 }, IntKind.i64.wrap (x7.2 + (1 : Int))) w15)
def F22 (t0 : Sl) (w : World) (R : Value → World → Prop) : Prop :=
 CX Try.prog (23 : Nat) #[Value.slice t0.1 t0.2 t0.3] w fun (v1 : Value) (w2 : World) =>
 ∃ (s3 : Sl),
 v1 = Value.slice s3.1 s3.2 s3.3 ∧
 ∃ (y4 : Nat → Sl × Int → World → Prop),
 (∃ (b5 : Nat), y4 b5 ({ p := none, n := (0 : Nat), c := (0 : Nat) }, (0 : Int)) w2) ∧
 ∀ (b6 : Nat) (x7 : Sl × Int) (w8 : World) (y9 : Nat → Value),
 y4 b6 x7 w8 →
 IfB (decide (x7.snd < (s3.n : Int)))
 (∃ (y11 : Nat → Sl × Int → World → Prop),
 (∃ (b12 : Nat), y11 b12 ({ p := x7.fst.1, n := x7.fst.2, c := x7.fst.3 }, (0 : Int)) w8) ∧
 ∀ (b13 : Nat) (x14 : Sl × Int) (w15 : World) (y16 : Nat → Value),
 y11 b13 x14 w15 →
 (F22j2 t0 s3 y4 b6 x7 y11 b13 x14 w15))
 (R (Value.slice x7.fst.1 x7.fst.2 x7.fst.3) w8)
theorem F22_ok (t0 : Sl) (w : World) (R : Value → World → Prop) (h : F22 t0 w R) : CW Try.prog 22 #[Value.slice t0.1 t0.2 t0.3] w R :=
  call_of tbOk mixed en22 Try.func22 rfl (.node (.nil) (.node (.nil) (.node (.nil) (.node (.node (.nil) (.loop [(4, .one (.sl)), (5, .one (.int .i64))] [9, 10, 11, 12, 6, 15, 16, 17, 18, 21, 22, 23, 24, 25, 26, 27, 28, 29, 30, 31, 32, 33, 34, 35, 36, 37, 38, 39, 40, 41, 42, 4, 19, 20, 13, 14, 5] (.node (.nil) (.node (.node (.nil) (.loop [(4, .one (.sl)), (6, .one (.int .i64))] [15, 16, 17, 18, 21, 22, 23, 24, 25, 26, 27, 28, 29, 30, 31, 32, 33, 34, 35, 36, 37, 38, 39, 40, 41, 42, 4, 19, 20, 6] (.node (.nil) (.node (.node (.draw (.st 0 (.st 1 (.st 2 (.st 3 (.st 4 (.st 5 (.st 6 (.st 7 (.st 8 (.ac 9 [] (.fin) (.non)))))))))))) (.node (.draw (.st 0 (.st 1 (.st 2 (.st 3 (.st 4 (.st 5 (.st 6 (.st 7 (.st 8 (.st 9 (.ac 10 [0] (.ac 11 [] (.st 12 (.fin)) (.non)) (.non))))))))))))) (.nil))) (.nil))))) (.nil))))) (.nil))))) (by kernel_rfl) (Nat.le_of_ble_eq_true (by kernel_rfl)) (Eq.mp (α := F22 t0 w R) (by kernel_rfl) h)
def F34j3 (t0 : Sl) (R : Value → World → Prop) (n4 : Int) (y8 : Nat → Int → World → Prop) (b10 : Nat) (n11 : Int) (y15 : Nat → Int → World → Prop) (b17 : Nat) (n18 : Int) (w19 : World) : Prop :=
 IfB (decide (n18 < n4))
 (∃ (b22 : Nat),
 ∃ (b23 : Nat),
 t0.1 = some ({ block := b22, off := b23 } : Addr) ∧
 ((0 : Int) ≤ n11 ∧ n11 < (t0.2 : Int)) ∧
 ∃ (n24 : Int),
 w19.drew.cell? ({ block := b22, off := b23 + n11.toNat * (6 : Nat) + (0 : Nat) } : Addr) = some (Value.int IntKind.i64 n24) ∧
 ∃ (b25 : Nat),
 ∃ (b26 : Nat),
 t0.1 = some ({ block := b25, off := b26 } : Addr) ∧
 ((0 : Int) ≤ n4 ∧ n4 < (t0.2 : Int)) ∧
 ∃ (n27 : Int),
 w19.drew.cell? ({ block := b25, off := b26 + n4.toNat * (6 : Nat) + (0 : Nat) } : Addr) = some (Value.int IntKind.i64 n27) ∧
 IfB (n24 == n27)
 (∃ (b28 : Nat),
 ∃ (b29 : Nat),
 t0.1 = some ({ block := b28, off := b29 } : Addr) ∧
 ((0 : Int) ≤ n18 ∧ n18 < (t0.2 : Int)) ∧
 ∃ (n30 : Int),
 w19.drew.cell? ({ block := b28, off := b29 + n18.toNat * (6 : Nat) + (0 : Nat) } : Addr) = some (Value.int IntKind.i64 n30) ∧
 ∃ (b31 : Nat),
 ∃ (b32 : Nat),
 t0.1 = some ({ block := b31, off := b32 } : Addr) ∧
 ((0 : Int) ≤ n4 ∧ n4 < (t0.2 : Int)) ∧
 ∃ (n33 : Int),
 w19.drew.cell? ({ block := b31, off := b32 + n4.toNat * (6 : Nat) + (0 : Nat) } : Addr) = some (Value.int IntKind.i64 n33) ∧
 IfB (n30 != n33) (R (Value.bool false) w19.drew) (([] : List Nat) = [] ∧ ∃ (b34 : Nat), b34 < b17 ∧ y15 b34 (IntKind.i64.wrap (n18 + (1 : Int))) w19.drew))
 (([] : List Nat) = [] ∧ ∃ (b35 : Nat), b35 < b17 ∧ y15 b35 (IntKind.i64.wrap (n18 + (1 : Int))) w19.drew))
 (([] : List Nat) = [] ∧ ∃ (b36 : Nat), b36 < b10 ∧ y8 b36 (IntKind.i64.wrap (n11 + (1 : Int))) w19)
def F34j1 (t0 : Sl) (R : Value → World → Prop) (y1 : Nat → Int → World → Prop) (b3 : Nat) (n4 : Int) (w5 : World) : Prop :=
 IfB (decide (n4 < (t0.n : Int)))
 (∃ (y8 : Nat → Int → World → Prop),
 (∃ (b9 : Nat), y8 b9 (0 : Int) w5) ∧
 ∀ (b10 : Nat) (n11 : Int) (w12 : World) (y13 : Nat → Value),
 y8 b10 n11 w12 →
 IfB (decide (n11 < n4))
 (∃ (y15 : Nat → Int → World → Prop),
 (∃ (b16 : Nat), y15 b16 (IntKind.i64.wrap (n11 + (1 : Int))) w12) ∧
 ∀ (b17 : Nat) (n18 : Int) (w19 : World) (y20 : Nat → Value),
 y15 b17 n18 w19 →
 (F34j3 t0 R n4 y8 b10 n11 y15 b17 n18 w19))
 (([] : List Nat) = [] ∧ ∃ (b37 : Nat), b37 < b3 ∧ y1 b37 (IntKind.i64.wrap (n4 + (1 : Int))) w12))
 (R (Value.bool true) w5)
def F34 (t0 : Sl) (w : World) (R : Value → World → Prop) : Prop :=
 ∃ (y1 : Nat → Int → World → Prop),
 (∃ (b2 : Nat), y1 b2 (0 : Int) w) ∧
 ∀ (b3 : Nat) (n4 : Int) (w5 : World) (y6 : Nat → Value),
 y1 b3 n4 w5 →
 (F34j1 t0 R y1 b3 n4 w5)
theorem F34_ok (t0 : Sl) (w : World) (R : Value → World → Prop) (h : F34 t0 w R) : CW Try.prog 34 #[Value.slice t0.1 t0.2 t0.3] w R :=
  call_of tbOk mixed en34 Try.func34 rfl (.node (.nil) (.node (.node (.nil) (.loop [(3, .one (.int .i64))] [6, 7, 8, 9, 4, 12, 13, 14, 17, 18, 5, 19, 20, 21, 24, 25, 26, 27, 28, 29, 30, 31, 32, 33, 34, 35, 36, 37, 38, 39, 40, 41, 42, 43, 44, 45, 46, 47, 2, 22, 23, 15, 16, 10, 11, 3] (.node (.nil) (.node (.node (.nil) (.loop [(4, .one (.int .i64))] [12, 13, 14, 17, 18, 5, 19, 20, 21, 24, 25, 26, 27, 28, 29, 30, 31, 32, 33, 34, 35, 36, 37, 38, 39, 40, 41, 42, 43, 44, 45, 46, 47, 2, 22, 23, 15, 16, 4] (.node (.nil) (.node (.node (.nil) (.loop [(5, .one (.int .i64))] [19, 20, 21, 24, 25, 26, 27, 28, 29, 30, 31, 32, 33, 34, 35, 36, 37, 38, 39, 40, 41, 42, 43, 44, 45, 46, 47, 2, 22, 23, 5] (.node (.nil) (.node (.node (.draw (.st 0 (.st 1 (.st 2 (.st 3 (.st 4 (.st 5 (.st 6 (.st 7 (.st 8 (.st 9 (.st 10 (.st 11 (.st 12 (.st 13 (.st 14 (.st 15 (.st 16 (.st 17 (.st 18 (.st 19 (.st 20 (.st 21 (.st 22 (.st 23 (.fin)))))))))))))))))))))))))) (.nil)) (.nil))))) (.nil))))) (.nil))))) (.nil))) (by kernel_rfl) (Nat.le_of_ble_eq_true (by kernel_rfl)) (Eq.mp (α := F34 t0 w R) (by kernel_rfl) h)
def F25j1 (t0 : Sl) (t1 : Sl) (R : Value → World → Prop) (y1 : Nat → Int → World → Prop) (b3 : Nat) (n4 : Int) (w5 : World) : Prop :=
 IfB (decide (n4 < (t0.n : Int)))
 (∃ (b8 : Nat),
 ∃ (b9 : Nat),
 t0.1 = some ({ block := b8, off := b9 } : Addr) ∧
 ((0 : Int) ≤ n4 ∧ n4 < (t0.2 : Int)) ∧
 ∃ (n10 : Int),
 w5.drew.cell? ({ block := b8, off := b9 + n4.toNat } : Addr) = some (Value.int IntKind.i64 n10) ∧
 ∃ (b11 : Nat),
 ∃ (b12 : Nat),
 t1.1 = some ({ block := b11, off := b12 } : Addr) ∧
 ((0 : Int) ≤ n4 ∧ n4 < (t1.2 : Int)) ∧
 ∃ (n13 : Int),
 w5.drew.cell? ({ block := b11, off := b12 + n4.toNat } : Addr) = some (Value.int IntKind.i64 n13) ∧
 IfB (n10 != n13) (R (Value.bool false) w5.drew) (([] : List Nat) = [] ∧ ∃ (b14 : Nat), b14 < b3 ∧ y1 b14 (IntKind.i64.wrap (n4 + (1 : Int))) w5.drew))
 (R (Value.bool true) w5)
def F25 (t0 : Sl) (t1 : Sl) (w : World) (R : Value → World → Prop) : Prop :=
 IfB ((t0.2 : Int) != (t1.2 : Int)) (R (Value.bool false) w)
 (∃ (y1 : Nat → Int → World → Prop),
 (∃ (b2 : Nat), y1 b2 (0 : Int) w) ∧
 ∀ (b3 : Nat) (n4 : Int) (w5 : World) (y6 : Nat → Value),
 y1 b3 n4 w5 →
 (F25j1 t0 t1 R y1 b3 n4 w5))
theorem F25_ok (t0 : Sl) (t1 : Sl) (w : World) (R : Value → World → Prop) (h : F25 t0 t1 w R) : CW Try.prog 25 #[Value.slice t0.1 t0.2 t0.3, Value.slice t1.1 t1.2 t1.3] w R :=
  call_of tbOk mixed en25 Try.func25 rfl (.node (.nil) (.node (.nil) (.node (.node (.nil) (.loop [(5, .one (.int .i64))] [11, 12, 13, 14, 17, 18, 19, 20, 21, 22, 23, 24, 25, 4, 15, 16, 5] (.node (.nil) (.node (.node (.draw (.st 0 (.st 1 (.st 2 (.st 3 (.st 4 (.st 5 (.st 6 (.st 7 (.st 8 (.fin))))))))))) (.nil)) (.nil))))) (.nil)))) (by kernel_rfl) (Nat.le_of_ble_eq_true (by kernel_rfl)) (Eq.mp (α := F25 t0 t1 w R) (by kernel_rfl) h)
end Go.Proofs.Ytmmhbjbaallkfaa.Gx

/- The document's sagas (gimmalref29): Ints, IsAhead, Whole, Sagas, Ahead. -/
namespace Go.Proofs.Ytmmhbjbaallkfaa.Gx
open Go
set_option linter.unusedSimpArgs false
set_option linter.unusedVariables false
theorem c25 {w : World} {s t : Sl} {xs ys : List Int} (hs : Rd w s 1 (xs.map iv)) (ht : Rd w t 1 (ys.map iv)) (hl : xs.length ≤ 1000000) :
    CW Try.prog 25 #[slV s, slV t] w fun v w' => v = .bool (decide (xs = ys)) ∧ Ext w w' := by
  have hsn := rdI hs
  have htn := rdI ht
  refine F25_ok s t w _ (IfB.intro (fun hne => ⟨?_, Ch.refl _ _⟩) fun he => ?_)
  · have : s.n ≠ t.n := fun e => by simp [e] at hne
    rw [decide_eq_false (fun e => this (by rw [hsn, htn, e]))]
  · have he : s.n = t.n := by simp at he; omega
    refine ⟨fun m x W => ∃ i : Nat, i ≤ xs.length ∧ m + i = xs.length ∧ x = (i : Int) ∧ Ext w W ∧ xs.take i = ys.take i, ⟨xs.length, 0, Nat.zero_le _, rfl, rfl, Ch.refl _ _, rfl⟩, ?_⟩
    rintro m _ W g ⟨i, hi, hmi, rfl, hE, hsame⟩
    unfold F25j1
    refine IfB.dec (fun hlt => ?_) fun hge => ?_
    · have hi' : i < xs.length := by omega
      have hx : xs[i]? = some xs[i] := List.getElem?_eq_getElem hi'
      have hy : ys[i]? = some (ys[i]'(by omega)) := List.getElem?_eq_getElem (by omega)
      generalize xs[i] = x at hx
      generalize ys[i]'_ = y at hy
      have ed := hE.trans (extDrew W)
      obtain ⟨b1, o1, hp1, hc1⟩ := rdI_get (hs.ext ed) hx
      obtain ⟨b2, o2, hp2, hc2⟩ := rdI_get (ht.ext ed) hy
      refine ⟨b1, o1, hp1, ⟨by omega, hlt⟩, x, by rw [Int.toNat_natCast]; exact hc1, b2, o2, hp2, ⟨by omega, by omega⟩, y, by rw [Int.toNat_natCast]; exact hc2, IfB.intro (fun hne => ⟨?_, ed⟩) fun hxy => ⟨rfl, m - 1, by omega, i + 1, hi', by omega, by rw [wrap_of (by omega) (by omega)]; rfl, ed, ?_⟩⟩
      · have hne : x ≠ y := by simpa using hne
        rw [decide_eq_false (fun e => hne (by rw [e, hy] at hx; exact (Option.some.inj hx).symm))]
      · have hxy : x = y := by simpa using hxy
        rw [take_succ_get hx, take_succ_get hy, hsame, hxy]
    · have hi' : i = xs.length := by omega
      subst hi'
      rw [List.take_length, List.take_of_length_le (by omega)] at hsame
      exact ⟨by rw [decide_eq_true hsame], hE⟩
/-- A cell of a node. -/
theorem Hst.sg {w : World} {t : Sl} {hs : List Nd} (h : Hst w t hs) {i : Nat} {x : Nd} (hx : hs[i]? = some x) : ∃ b o, t.p = some ⟨b, o, none⟩ ∧ w.cell? ⟨b, o + (i : Int).toNat * 6 + 0, none⟩ = some (.int .i64 x.v.1) := by
  obtain ⟨b, o, hp, hc⟩ := h.at hx
  exact ⟨b, o, hp, by rw [Int.toNat_natCast]; exact hc 0 _ rfl⟩
theorem c47 {w : World} {t : Sl} {hs : List Nd} (hH : Hst w t hs) (a b : Int) :
    CW Try.prog 47 #[slV t, iv a, iv b] w fun v w' => ∃ r, v = .bool r ∧ (r = true ↔ AhP hs (a, b)) ∧ Ext w w' := by
  have htn := hH.n
  have hlen := hH.len
  refine F47_ok t a b w _ ⟨fun m x W => ∃ i : Nat, i ≤ hs.length ∧ m + i = hs.length ∧ x = (i : Int) ∧ Ext w W ∧ ¬ ahQ hs i 0 (a, b), ⟨hs.length, 0, Nat.zero_le _, rfl, rfl, Ch.refl _ _, ahQ_zero _⟩, ?_⟩
  rintro m _ W g ⟨i, hi, hmi, rfl, hE, hno⟩
  refine IfB.dec (fun hlt => ?_) fun hge => ?_
  · have hi' : i < hs.length := by omega
    have hx : hs[i]? = some hs[i] := List.getElem?_eq_getElem hi'
    generalize hs[i] = nb at hx
    refine ⟨fun q x W' => ∃ k : Nat, k ≤ i ∧ q + k = i ∧ x = (k : Int) ∧ Ext w W' ∧ ¬ ahQ hs i k (a, b), ⟨i, 0, Nat.zero_le _, rfl, rfl, hE, hno⟩, ?_⟩
    rintro q _ w12 g ⟨k, hk, hqk, rfl, hE', hno'⟩
    unfold F47j2
    refine IfB.dec (fun hlt2 => ?_) fun hge2 => ?_
    · have hk' : k < i := by omega
      have hy : hs[k]? = some hs[k] := List.getElem?_eq_getElem (by omega)
      generalize hs[k] = na at hy
      have ed := hE'.trans (extDrew w12)
      have hD := hH.ext ed
      have hstep := ahQ_step hk' hy hx (a, b)
      have w1 : IntKind.i64.wrap ((k : Int) + 1) = ((k + 1 : Nat) : Int) := by rw [wrap_of (by omega) (by omega)]; rfl
      have hbk : (0 : Int) ≤ (k : Int) ∧ (k : Int) < (t.n : Int) := ⟨by omega, by omega⟩
      have hbi : (0 : Int) ≤ (i : Int) ∧ (i : Int) < (t.n : Int) := ⟨by omega, hlt⟩
      have next : ∀ {W' : World}, Ext w W' → ¬ ((a, b) = (na.v.1, nb.v.1) ∧ cnfP na nb) → ∃ b33, b33 < q ∧ ∃ k' : Nat, k' ≤ i ∧ b33 + k' = i ∧ IntKind.i64.wrap ((k : Int) + 1) = (k' : Int) ∧ Ext w W' ∧ ¬ ahQ hs i k' (a, b) := fun {W'} e h =>
        ⟨q - 1, by omega, k + 1, hk', by omega, w1, e, fun h' => (hstep.1 h').elim hno' h⟩
      obtain ⟨c1, o1, hp1, hc1⟩ := hD.sg hy
      obtain ⟨c2, o2, hp2, hc2⟩ := hD.sg hx
      obtain ⟨c3, o3, hp3, hc3⟩ := hD.at hy
      obtain ⟨c4, o4, hp4, hc4⟩ := hD.at hx
      refine ⟨c1, o1, hp1, hbk, na.v.1, hc1, IfB.intro (fun h1 => ⟨c2, o2, hp2, hbi, nb.v.1, hc2, IfB.intro (fun h2 => ⟨c3, o3, hp3, hbk, na.v, by rw [Int.toNat_natCast]; exact hc3, c4, o4, hp4, hbi, nb.v, by rw [Int.toNat_natCast]; exact hc4, (c12 (hD.get hy) (hD.get hx)).use ?_⟩) fun h2 => ⟨rfl, next ed fun h => ?_⟩⟩) fun h1 => ⟨rfl, next ed fun h => ?_⟩⟩
      · have h1 : na.v.1 = a := by simpa using h1
        have h2 : nb.v.1 = b := by simpa using h2
        rintro _ w28 ⟨r, rfl, hr, e28⟩
        refine ⟨r, rfl, IfB.intro (fun h => ⟨true, rfl, ⟨fun _ => ⟨k, i, na, nb, hk', hy, hx, by rw [h1, h2], hr.1 h⟩, fun _ => rfl⟩, ed.trans e28⟩) fun h => ⟨rfl, next (ed.trans e28) fun h' => ?_⟩⟩
        rw [hr.2 h'.2] at h; cases h
      · have := congrArg Prod.snd h.1
        simp only at this
        rw [this] at h2; simp at h2
      · have := congrArg Prod.fst h.1
        simp only at this
        rw [this] at h1; simp at h1
    · have hk' : k = i := by omega
      subst hk'
      exact ⟨rfl, m - 1, by omega, k + 1, hi', by omega, by rw [wrap_of (by omega) (by omega)]; rfl, hE', fun h => hno' ((ahQ_row _).1 h)⟩
  · have hi' : i = hs.length := by omega
    subst hi'
    exact ⟨false, rfl, ⟨fun h => (by cases h), fun h => absurd ((ahQ_all _).2 h) hno⟩, hE⟩
end Go.Proofs.Ytmmhbjbaallkfaa.Gx

/- The document's sagas (gimmalref29): Whole, Sagas. -/
namespace Go.Proofs.Ytmmhbjbaallkfaa.Gx
open Go
set_option linter.unusedSimpArgs false
set_option linter.unusedVariables false
/-- As far as the loops came: (k, m, j) before (kk, mm, i). -/
def WhU (hs : List Nd) (i kk mm : Nat) : Prop := ∀ (k m j : Nat) (a b c : Nd), k < m → m < j → (j < i ∨ (j = i ∧ (k < kk ∨ (k = kk ∧ m < mm)))) → hs[k]? = some a → hs[m]? = some b → hs[j]? = some c → a.v.1 = c.v.1 → b.v.1 = c.v.1
theorem c34 {w : World} {t : Sl} {hs : List Nd} (hH : Hst w t hs) :
    CW Try.prog 34 #[slV t] w fun v w' => ∃ r, v = .bool r ∧ (r = true ↔ WhP hs) ∧ Ext w w' := by
  have htn := hH.n
  have hlen := hH.len
  refine F34_ok t w _ ⟨fun m x W => ∃ i : Nat, i ≤ hs.length ∧ m + i = hs.length ∧ x = (i : Int) ∧ Ext w W ∧ WhU hs i 0 0, ⟨hs.length, 0, Nat.zero_le _, rfl, rfl, Ch.refl _ _, fun k m j a b c h1 h2 h3 => by omega⟩, ?_⟩
  rintro m _ W g ⟨i, hi, hmi, rfl, hE, hW⟩
  unfold F34j1
  refine IfB.dec (fun hlt => ?_) fun hge => ?_
  · have hi' : i < hs.length := by omega
    have hx : hs[i]? = some hs[i] := List.getElem?_eq_getElem hi'
    generalize hs[i] = c at hx
    have w1 : ∀ {q : Nat}, q < hs.length → IntKind.i64.wrap ((q : Int) + 1) = ((q + 1 : Nat) : Int) := fun {q} h => by rw [wrap_of (by omega) (by omega)]; rfl
    have hbi : (0 : Int) ≤ (i : Int) ∧ (i : Int) < (t.n : Int) := ⟨by omega, hlt⟩
    refine ⟨fun q x W' => ∃ k : Nat, k ≤ i ∧ q + k = i ∧ x = (k : Int) ∧ Ext w W' ∧ WhU hs i k 0, ⟨i, 0, Nat.zero_le _, rfl, rfl, hE, hW⟩, ?_⟩
    rintro q _ w12 g ⟨k, hk, hqk, rfl, hE2, hW2⟩
    refine IfB.dec (fun hlt2 => ?_) fun hge2 => ?_
    · have hk' : k < i := by omega
      have hy : hs[k]? = some hs[k] := List.getElem?_eq_getElem (by omega)
      generalize hs[k] = a at hy
      have hbk : (0 : Int) ≤ (k : Int) ∧ (k : Int) < (t.n : Int) := ⟨by omega, by omega⟩
      refine ⟨fun s x W' => ∃ m : Nat, k + 1 ≤ m ∧ m ≤ i ∧ s + m = i ∧ x = (m : Int) ∧ Ext w W' ∧ WhU hs i k m, ⟨i - (k + 1), k + 1, by omega, by omega, by omega, w1 (by omega), hE2, fun k' m' j' a' b' c' h1 h2 h3 => hW2 k' m' j' a' b' c' h1 h2 (by omega)⟩, ?_⟩
      rintro s _ w19 g ⟨p, hp1, hp2, hsp, rfl, hE3, hW3⟩
      unfold F34j3
      refine IfB.dec (fun hlt3 => ?_) fun hge3 => ?_
      · have hp' : p < i := by omega
        have hz : hs[p]? = some hs[p] := List.getElem?_eq_getElem (by omega)
        generalize hs[p] = b at hz
        have hbp : (0 : Int) ≤ (p : Int) ∧ (p : Int) < (t.n : Int) := ⟨by omega, by omega⟩
        have ed := hE3.trans (extDrew w19)
        have hD := hH.ext ed
        obtain ⟨b1, o1, q1, d1⟩ := hD.sg hy
        obtain ⟨b2, o2, q2, d2⟩ := hD.sg hx
        obtain ⟨b3, o3, q3, d3⟩ := hD.sg hz
        have next : (a.v.1 = c.v.1 → b.v.1 = c.v.1) → ∃ b34, b34 < s ∧ ∃ m : Nat, k + 1 ≤ m ∧ m ≤ i ∧ b34 + m = i ∧ IntKind.i64.wrap ((p : Int) + 1) = (m : Int) ∧ Ext w w19.drew ∧ WhU hs i k m := fun h =>
          ⟨s - 1, by omega, p + 1, by omega, hp', by omega, w1 (by omega), ed, fun k' m' j' a' b' c' h1 h2 h3 ha hb hc => by
            by_cases he : j' = i ∧ k' = k ∧ m' = p
            · obtain ⟨rfl, rfl, rfl⟩ := he
              rw [hy] at ha; rw [hz] at hb; rw [hx] at hc
              cases ha; cases hb; cases hc
              exact h
            · exact hW3 k' m' j' a' b' c' h1 h2 (by omega) ha hb hc⟩
        refine ⟨b1, o1, q1, hbk, a.v.1, d1, b2, o2, q2, hbi, c.v.1, d2, IfB.intro (fun he => ⟨b3, o3, q3, hbp, b.v.1, d3, b2, o2, q2, hbi, c.v.1, d2, IfB.intro (fun hne => ⟨false, rfl, ⟨fun h => (by cases h), fun h => ?_⟩, ed⟩) fun heq => ⟨rfl, next fun _ => by simpa using heq⟩⟩) fun hne => ⟨rfl, next fun h => ?_⟩⟩
        · have he : a.v.1 = c.v.1 := by simpa using he
          have := h k p i a b c (by omega) hp' hi' hy hz hx he
          rw [this] at hne; simp at hne
        · rw [h] at hne; simp at hne
      · have hp' : p = i := by omega
        subst hp'
        exact ⟨rfl, q - 1, by omega, k + 1, hk', by omega, w1 (by omega), hE3, fun k' m' j' a' b' c' h1 h2 h3 => hW3 k' m' j' a' b' c' h1 h2 (by omega)⟩
    · have hk' : k = i := by omega
      subst hk'
      exact ⟨rfl, m - 1, by omega, k + 1, hi', by omega, w1 hi', hE2, fun k' m' j' a' b' c' h1 h2 h3 => hW2 k' m' j' a' b' c' h1 h2 (by omega)⟩
  · have hi' : i = hs.length := by omega
    subst hi'
    exact ⟨true, rfl, ⟨fun _ k m j a b c h1 h2 h3 => hW k m j a b c h1 h2 (.inl h3), fun _ => rfl⟩, hE⟩
end Go.Proofs.Ytmmhbjbaallkfaa.Gx

/- The document's sagas (gimmalref29): Sagas. -/
namespace Go.Proofs.Ytmmhbjbaallkfaa.Gx
open Go
set_option linter.unusedSimpArgs false
set_option linter.unusedVariables false
theorem c23 {w : World} {t : Sl} {hs : List Nd} (hH : Hst w t hs) :
    CW Try.prog 23 #[slV t] w fun v w' => ∃ t', ∃ l : List Int, v = slV t' ∧ SgL hs l ∧ l.length ≤ hs.length ∧ OwS w' t' 1 (l.map iv) ∧ Ext w w' ∧ ∀ j ∈ blk t', w.heap.size ≤ j := by
  have htn := hH.n
  have hlen := hH.len
  refine F23_ok t w _ ⟨fun m x W => ∃ (i : Nat) (so : Sl) (l : List Int), i ≤ hs.length ∧ m + i = hs.length ∧ x = (so, (i : Int)) ∧ SgL (hs.take i) l ∧ l.length ≤ i ∧ OwS W so 1 (l.map iv) ∧ Ext w W ∧ ∀ j ∈ blk so, w.heap.size ≤ j,
    ⟨hs.length, 0, ⟨none, 0, 0⟩, [], Nat.zero_le _, rfl, rfl, ⟨.nil, by simp⟩, Nat.le_refl _, .nil _ _, Ch.refl _ _, by simp [blk]⟩, ?_⟩
  rintro m _ W g ⟨i, so, l, hi, hmi, rfl, hSg, hll, hO, hE, hb⟩
  have hon := owsI hO
  refine IfB.dec (fun hlt => ?_) fun hge => ?_
  · have hi' : i < hs.length := by dsimp only at hlt; omega
    have hx : hs[i]? = some hs[i] := List.getElem?_eq_getElem hi'
    have htk := take_succ_get hx
    generalize hs[i] = n at hx htk
    have hbi : (0 : Int) ≤ (i : Int) ∧ (i : Int) < (t.n : Int) := ⟨by omega, by omega⟩
    have w1 : IntKind.i64.wrap ((i : Int) + 1) = ((i + 1 : Nat) : Int) := by rw [wrap_of (by omega) (by omega)]; rfl
    have known : (∃ k ∈ l, k = n.v.1) → SgL (hs.take (i + 1)) l := fun ⟨k, hk, e⟩ => ⟨hSg.srt, fun k' => by
      rw [hSg.mem, htk]
      constructor
      · rintro ⟨x, hx', h⟩; exact ⟨x, List.mem_append.2 (.inl hx'), h⟩
      · rintro ⟨x, hx', h⟩
        rcases List.mem_append.1 hx' with h' | h'
        · exact ⟨x, h', h⟩
        · rw [List.mem_singleton.1 h'] at h
          rw [← h, ← e]
          exact (hSg.mem k).1 hk⟩
    refine ⟨fun q x W' => ∃ k : Nat, k ≤ l.length ∧ q + k = l.length ∧ x = (decide (n.v.1 ∈ l.take k), (k : Int)) ∧ Ext W W', ⟨l.length, 0, Nat.zero_le _, rfl, by simp, Ch.refl _ _⟩, ?_⟩
    rintro q _ w12 g ⟨k, hk, hqk, rfl, hE2⟩
    unfold F23j2
    refine IfB.dec (fun hlt2 => ?_) fun hge2 => ?_
    · have hk' : k < l.length := by dsimp only at hlt2; omega
      have hy : l[k]? = some l[k] := List.getElem?_eq_getElem hk'
      generalize l[k] = y at hy
      have w2 : IntKind.i64.wrap ((k : Int) + 1) = ((k + 1 : Nat) : Int) := by rw [wrap_of (by omega) (by omega)]; rfl
      have ed := hE2.trans (extDrew w12)
      have hnx : decide (n.v.1 ∈ l.take (k + 1)) = (decide (n.v.1 ∈ l.take k) || y == n.v.1) := by
        rw [take_succ_get hy, Bool.eq_iff_iff]
        simp only [decide_eq_true_eq, List.mem_append, List.mem_singleton, Bool.or_eq_true, beq_iff_eq]
        exact or_congr Iff.rfl eq_comm
      refine IfB.intro (fun h => ⟨rfl, q - 1, by omega, k + 1, hk', by omega, ?_, ed⟩) fun h => ?_
      · have h : decide (n.v.1 ∈ l.take k) = true := h
        rw [hnx, h, w2]; rfl
      · have h : decide (n.v.1 ∈ l.take k) = false := h
        obtain ⟨b1, o1, hp1, hc1⟩ := rdI_get (hO.ext ed).rd hy
        obtain ⟨b2, o2, hp2, hc2⟩ := (hH.ext (hE.trans ed)).sg hx
        refine ⟨b1, o1, hp1, (⟨by omega, by omega⟩ : (0 : Int) ≤ (k : Int) ∧ (k : Int) < (so.n : Int)), y, by dsimp only; rw [Int.toNat_natCast]; exact hc1, b2, o2, hp2, hbi, n.v.1, hc2, rfl, q - 1, by omega, k + 1, hk', by omega, ?_, ed⟩
        rw [hnx, h, w2]; rfl
    · have hk' : k = l.length := by dsimp only at hge2; omega
      subst hk'
      rw [List.take_length]
      refine IfB.intro (fun h => ⟨rfl, m - 1, by omega, i + 1, so, l, hi', by omega, by dsimp only; rw [w1], known ⟨_, of_decide_eq_true h, rfl⟩, by omega, hO.ext hE2, hE.trans hE2, hb⟩) fun h => ?_
      have hno : n.v.1 ∉ l := of_decide_eq_false h
      have X2 := hE.trans hE2
      obtain ⟨b2, o2, hp2, hc2⟩ := (hH.ext X2).sg hx
      refine ⟨b2, o2, hp2, hbi, n.v.1, hc2, by decide, fun b27 w28 a28 => ?_⟩
      have e28 : Ext w12 w28 := a28.ch _
      refine ((hO.ext hE2).ext e28).lit (new := [iv n.v.1]) (T' := 3) a28.new rfl (oneIv _) rfl rfl (by omega) (by decide) fun s30 w31 ho31 hn31 hC31 hb31 => ?_
      have X31 : Ext w w31 := (X2.trans e28).chN hC31 hb
      have hb30 : ∀ j ∈ blk s30, w.heap.size ≤ j := fun j hj => by
        rcases hb31 j hj with h | h
        · exact hb j h
        · have := X2.size; have := e28.size; omega
      obtain ⟨b, hp⟩ := ho31.ptr (by omega)
      have hbw : w.heap.size ≤ b := hb30 b (by simp [blk, hp])
      refine ⟨fun z x W' => ∃ (A B : List Int) (d : Int), l = A ++ B ∧ z = A.length ∧ x = (A.length : Int) ∧ (∀ y ∈ B, n.v.1 < y) ∧ OwS W' s30 1 ((A ++ d :: B).map iv) ∧ Ext w W', ⟨l.length, l, [], n.v.1, by simp, rfl, by dsimp only; omega, by simp, by rw [List.map_append]; exact ho31, X31⟩, ?_⟩
      rintro z _ w36 g ⟨A, B, d, hAB, rfl, rfl, hB, hO36, X36⟩
      have hABl : l.length = A.length + B.length := by rw [hAB, List.length_append]
      have ed := X36.trans (extDrew w36)
      have hOd := hO36.ext (extDrew w36)
      have fin : (∀ y ∈ A, y < n.v.1) → F23k1 t (so, (i : Int)) w36 s30 (A.length : Int) m (fun m x W => ∃ (i : Nat) (so : Sl) (l : List Int), i ≤ hs.length ∧ m + i = hs.length ∧ x = (so, (i : Int)) ∧ SgL (hs.take i) l ∧ l.length ≤ i ∧ OwS W so 1 (l.map iv) ∧ Ext w W ∧ ∀ j ∈ blk so, w.heap.size ≤ j) := fun hA => by
        unfold F23k1
        obtain ⟨b3, o3, hp3, hc3⟩ := (hH.ext ed).sg hx
        refine ⟨b3, o3, hp3, hbi, n.v.1, hc3, b, 0, hp, ⟨by omega, by show (A.length : Int) < (s30.n : Int); omega⟩, rfl, ?_⟩
        rw [Int.toNat_natCast, Nat.zero_add]
        refine hOd.store (vs := [iv n.v.1]) hp (by simp; omega) (oneIv _) fun w64 hO64 hC64 => ⟨rfl, m - 1, by omega, i + 1, s30, A ++ n.v.1 :: B, hi', by omega, by dsimp only; rw [w1], ⟨?_, fun k' => ?_⟩, by simp; omega, ?_, ed.chN hC64 fun j e => by omega, hb30⟩
        · have hs' := hSg.srt
          rw [hAB] at hs'
          obtain ⟨p1, p2, p3⟩ := List.pairwise_append.1 hs'
          refine List.pairwise_append.2 ⟨p1, List.pairwise_cons.2 ⟨hB, p2⟩, fun a ha b' hb' => ?_⟩
          rcases List.mem_cons.1 hb' with rfl | hb'
          · exact hA a ha
          · exact p3 a ha b' hb'
        · have hm := hSg.mem k'
          rw [hAB, List.mem_append] at hm
          rw [List.mem_append, List.mem_cons, htk]
          constructor
          · rintro (h' | rfl | h')
            · obtain ⟨x, hx', e⟩ := hm.1 (.inl h'); exact ⟨x, List.mem_append.2 (.inl hx'), e⟩
            · exact ⟨n, by simp, rfl⟩
            · obtain ⟨x, hx', e⟩ := hm.1 (.inr h'); exact ⟨x, List.mem_append.2 (.inl hx'), e⟩
          · rintro ⟨x, hx', e⟩
            rcases List.mem_append.1 hx' with h' | h'
            · rcases hm.2 ⟨x, h', e⟩ with h | h
              · exact .inl h
              · exact .inr (.inr h)
            · rw [List.mem_singleton.1 h'] at e; exact .inr (.inl e.symm)
        · have e : ((A ++ d :: B).map iv).take A.length ++ [iv n.v.1] ++ ((A ++ d :: B).map iv).drop (A.length + [iv n.v.1].length) = (A ++ n.v.1 :: B).map iv := by
            have hml : A.length = (A.map iv).length := (List.length_map ..).symm
            rw [List.map_append, List.map_append, hml, List.take_append_of_le_length (Nat.le_refl _), List.take_length, List.drop_length_add_append]
            simp
          rw [e] at hO64; exact hO64
      unfold F23j3
      refine IfB.dec (fun h0 => ?_) fun h0 => fin fun y hy => ?_
      · have h0' : 0 < A.length := by omega
        obtain ⟨A', a, rfl⟩ : ∃ A' a, A = A' ++ [a] := ⟨A.dropLast, A.getLast (List.length_pos_iff.1 h0'), (List.dropLast_concat_getLast _).symm⟩
        have hAl : (A' ++ [a]).length = A'.length + 1 := by simp
        have hw : IntKind.i64.wrap (((A' ++ [a]).length : Int) - 1) = (A'.length : Int) := by rw [wrap_of (by omega) (by omega)]; omega
        have hga : ((A' ++ [a]) ++ d :: B)[A'.length]? = some a := by simp
        obtain ⟨b1, hp1, hc1⟩ := hOd.elem1 (i := A'.length) (v := iv a) (by rw [List.getElem?_map, hga]; rfl)
        rw [hp] at hp1; cases hp1
        obtain ⟨b3, o3, hp3, hc3⟩ := (hH.ext ed).sg hx
        have hba : (0 : Int) ≤ (A'.length : Int) ∧ (A'.length : Int) < (s30.n : Int) := ⟨by omega, by omega⟩
        have hct : w36.drew.cell? ⟨b, 0 + (A'.length : Int).toNat, none⟩ = some (iv a) := by rw [Int.toNat_natCast, Nat.zero_add]; exact hc1
        rw [hw]
        refine ⟨b, 0, hp, hba, a, hct, b3, o3, hp3, hbi, n.v.1, hc3, IfB.dec (fun hlt3 => ⟨b, 0, hp, hba, a, hct, b, 0, hp, ⟨by omega, by omega⟩, rfl, ?_⟩) fun hge3 => fin fun y hy => ?_⟩
        · rw [Int.toNat_natCast, Nat.zero_add]
          refine hOd.store (vs := [iv a]) hp (by simp; omega) (oneIv _) fun w50 hO50 hC50 => ⟨rfl, A'.length, by omega, A', a :: B, a, by rw [hAB]; simp, rfl, rfl, fun y hy => ?_, ?_, ed.chN hC50 fun j e => by omega⟩
          · rcases List.mem_cons.1 hy with rfl | hy
            · exact hlt3
            · exact hB y hy
          · have e : (((A' ++ [a]) ++ d :: B).map iv).take (A' ++ [a]).length ++ [iv a] ++ (((A' ++ [a]) ++ d :: B).map iv).drop ((A' ++ [a]).length + [iv a].length) = (A' ++ a :: a :: B).map iv := by
              have hml : (A' ++ [a]).length = ((A' ++ [a]).map iv).length := (List.length_map ..).symm
              rw [List.map_append, hml, List.take_append_of_le_length (Nat.le_refl _), List.take_length, List.drop_length_add_append]
              simp
            rw [e] at hO50; exact hO50
        · have hs' := hSg.srt
          rw [hAB] at hs'
          have p1 := (List.pairwise_append.1 hs').1
          have han : a ≠ n.v.1 := fun e => hno (by rw [hAB, ← e]; simp)
          rcases List.mem_append.1 hy with h' | h'
          · have := (List.pairwise_append.1 p1).2.2 y h' a (by simp); omega
          · rw [List.mem_singleton.1 h']; omega
      · have : A = [] := List.length_eq_zero_iff.1 (by omega)
        subst this; cases hy
  · have hi' : i = hs.length := by dsimp only at hge; omega
    subst hi'
    rw [List.take_length] at hSg
    exact ⟨so, l, rfl, hSg, hll, hO, hE, hb⟩
end Go.Proofs.Ytmmhbjbaallkfaa.Gx

/- The document's sagas (gimmalref29): Ahead. -/
namespace Go.Proofs.Ytmmhbjbaallkfaa.Gx
open Go
set_option linter.unusedSimpArgs false
set_option linter.unusedVariables false
theorem key_lt {x y : Int × Int} (hx : SfP.Q x) (hy : SfP.Q y) : SfP.key x < SfP.key y ↔ x.1 < y.1 ∨ (x.1 = y.1 ∧ x.2 < y.2) := by
  unfold SfP.key; unfold SfP.Q at hx hy; omega
theorem SgL.q {hs : List Nd} {l : List Int} (h : SgL hs l) (hq : SgR hs) {a b : Int} (ha : a ∈ l) (hb : b ∈ l) : SfP.Q (a, b) := by
  obtain ⟨n, hn, rfl⟩ := (h.mem a).1 ha
  obtain ⟨m, hm, rfl⟩ := (h.mem b).1 hb
  exact ⟨hq n hn, hq m hm⟩
/-- What was put in so far. -/
def bfP (l : List Int) (i k : Nat) (p : Int × Int) : Prop := (p.1 ∈ l.take i ∧ p.2 ∈ l) ∨ (l[i]? = some p.1 ∧ p.2 ∈ l.take k)
theorem c22 {w : World} {t : Sl} {hs : List Nd} (hH : Hst w t hs) (hl : hs.length ≤ 1000) (hq : SgR hs) :
    CW Try.prog 22 #[slV t] w fun v w' => ∃ t', ∃ xs : List (Int × Int), v = slV t' ∧ xs.Pairwise (fun x y => SfP.key x < SfP.key y) ∧ (∀ p, p ∈ xs ↔ AhP hs p) ∧ xs.length ≤ 1000000 ∧ OwS w' t' 2 (xs.flatMap sv) ∧ Ext w w' ∧ ∀ j ∈ blk t', w.heap.size ≤ j := by
  refine F22_ok t w _ ((c23 hH).use ?_)
  rintro _ w2 ⟨s3, l, rfl, hSg, hll, ho3, e2, hb3⟩
  have h3n := owsI ho3
  have hL : l.length * l.length ≤ 1000000 := Nat.le_trans (Nat.mul_le_mul (Nat.le_trans hll hl) (Nat.le_trans hll hl)) (by decide)
  let I : Nat → Nat → Sl → List (Int × Int) → World → Prop := fun i k so ys W => OwS W so 2 (ys.flatMap sv) ∧ ys.Pairwise (fun x y => SfP.key x < SfP.key y) ∧ (∀ p, p ∈ ys ↔ bfP l i k p ∧ AhP hs p) ∧ ys.length ≤ i * l.length + k ∧ Ext w2 W ∧ ∀ j ∈ blk so, w2.heap.size ≤ j
  have w1 : ∀ {q : Nat}, q < l.length → IntKind.i64.wrap ((q : Int) + 1) = ((q + 1 : Nat) : Int) := fun {q} h => by rw [wrap_of (by omega) (by omega)]; rfl
  refine ⟨s3, rfl, fun m x W => ∃ (i : Nat) (so : Sl) (ys : List (Int × Int)), i ≤ l.length ∧ m + i = l.length ∧ x = (so, (i : Int)) ∧ I i 0 so ys W, ⟨l.length, 0, ⟨none, 0, 0⟩, [], Nat.zero_le _, rfl, rfl, .nil _ _, .nil, fun p => ⟨fun h => (by cases h), fun h => ?_⟩, by simp, Ch.refl _ _, by simp [blk]⟩, ?_⟩
  · obtain ⟨h | h, _⟩ := h
    · simp at h
    · simp at h
  rintro m _ W g ⟨i, so, ys, hi, hmi, rfl, hI⟩
  refine IfB.dec (fun hlt => ?_) fun hge => ?_
  · have hi' : i < l.length := by dsimp only at hlt; omega
    have hiL : (i + 1) * l.length = i * l.length + l.length := Nat.succ_mul _ _
    have hiL2 : (i + 1) * l.length ≤ 1000000 := Nat.le_trans (Nat.mul_le_mul_right _ hi') hL
    have hx : l[i]? = some l[i] := List.getElem?_eq_getElem hi'
    have htk := take_succ_get hx
    have hxm := List.mem_of_getElem? hx
    have hxlt : ∀ y ∈ l.take i, y < l[i] := fun y hy => by
      obtain ⟨j, hj, rfl⟩ := List.getElem_of_mem hy
      rw [List.length_take] at hj
      rw [List.getElem_take]
      exact List.pairwise_iff_getElem.1 hSg.srt j i (by omega) hi' (by omega)
    generalize l[i] = a at hx htk hxm hxlt
    refine ⟨fun q x W' => ∃ (k : Nat) (so : Sl) (ys : List (Int × Int)), k ≤ l.length ∧ q + k = l.length ∧ x = (so, (k : Int)) ∧ I i k so ys W', ⟨l.length, 0, so, ys, Nat.zero_le _, rfl, rfl, hI⟩, ?_⟩
    rintro q _ w15 g ⟨k, so', zs, hk, hqk, rfl, hO, hsrt, hmem, hzl, hE, hb⟩
    have hon := owsN sv_len (by omega) hO
    unfold F22j2
    refine IfB.dec (fun hlt2 => ?_) fun hge2 => ?_
    · have hk' : k < l.length := by dsimp only at hlt2; omega
      have hy : l[k]? = some l[k] := List.getElem?_eq_getElem hk'
      have htk2 := take_succ_get hy
      have hym := List.mem_of_getElem? hy
      have hylt : ∀ y ∈ l.take k, y < l[k] := fun y hy => by
        obtain ⟨j, hj, rfl⟩ := List.getElem_of_mem hy
        rw [List.length_take] at hj
        rw [List.getElem_take]
        exact List.pairwise_iff_getElem.1 hSg.srt j k (by omega) hk' (by omega)
      generalize l[k] = b at hy htk2 hym hylt
      have ed := extDrew w15
      have get : ∀ {W' : World} {j : Nat} {y : Int}, Ext w2 W' → l[j]? = some y → ∃ b, s3.p = some ⟨b, 0, none⟩ ∧ W'.cell? ⟨b, 0 + (j : Int).toNat, none⟩ = some (iv y) := fun {W' j y} e h => by
        obtain ⟨b, hp, hc⟩ := (ho3.ext e).elem1 (i := j) (v := iv y) (by rw [List.getElem?_map, h]; rfl)
        exact ⟨b, hp, by rw [Int.toNat_natCast, Nat.zero_add]; exact hc⟩
      have hbi : (0 : Int) ≤ (i : Int) ∧ (i : Int) < (s3.n : Int) := ⟨by omega, by omega⟩
      have hbk : (0 : Int) ≤ (k : Int) ∧ (k : Int) < (s3.n : Int) := ⟨by omega, by omega⟩
      obtain ⟨b1, q1, d1⟩ := get (hE.trans ed) hx
      obtain ⟨b2, q2, d2⟩ := get (hE.trans ed) hy
      have hbf : ∀ p, bfP l i (k + 1) p ↔ bfP l i k p ∨ p = (a, b) := fun p => by
        unfold bfP
        rw [htk2, List.mem_append, List.mem_singleton, hx, Option.some.injEq]
        constructor
        · rintro (h | ⟨h1, h2 | h2⟩)
          · exact .inl (.inl h)
          · exact .inl (.inr ⟨h1, h2⟩)
          · exact .inr (by rw [Prod.ext_iff]; exact ⟨h1.symm, h2⟩)
        · rintro ((h | h) | rfl)
          · exact .inl h
          · exact .inr ⟨h.1, .inl h.2⟩
          · exact .inr ⟨rfl, .inr rfl⟩
      refine ⟨b1, 0, q1, hbi, a, d1, b2, 0, q2, hbk, b, d2, (c47 ((hH.ext e2).ext (hE.trans ed)) a b).use ?_⟩
      rintro _ w25 ⟨r, rfl, hr, e25⟩
      have E25 := (hE.trans ed).trans e25
      have x25 : Ext w15 w25 := ed.trans e25
      refine ⟨r, rfl, IfB.intro (fun h => ?_) fun h => ⟨rfl, q - 1, by omega, k + 1, so', zs, hk', by omega, by dsimp only; rw [w1 hk'], hO.ext x25, hsrt, fun p => ?_, by omega, E25, hb⟩⟩
      · have ed25 := extDrew w25
        obtain ⟨b3, q3, d3⟩ := get (E25.trans ed25) hx
        obtain ⟨b4, q4, d4⟩ := get (E25.trans ed25) hy
        refine ⟨b3, 0, q3, hbi, a, d3, b4, 0, q4, hbk, b, d4, by decide, fun b33 w34 a34 => ?_⟩
        have x34 : Ext w15 w34 := (x25.trans ed25).trans (a34.ch _)
        refine (hO.ext x34).lit (new := sv (a, b)) (T' := 44) a34.new rfl (sv_one _) rfl rfl (by omega) (by decide) fun s' w' ho' hn' hC' hbk' => ⟨rfl, q - 1, by omega, k + 1, s', zs ++ [(a, b)], hk', by omega, by dsimp only; rw [w1 hk'], ?_, ?_, fun p => ?_, by rw [List.length_append, List.length_singleton]; omega, (hE.trans x34).chN hC' hb, fun j hj => ?_⟩
        · rw [List.flatMap_append]; simpa using ho'
        · refine List.pairwise_append.2 ⟨hsrt, by simp, fun x hx' y hy' => ?_⟩
          rw [List.mem_singleton.1 hy']
          obtain ⟨hbx, hax⟩ := (hmem x).1 hx'
          rw [key_lt (hax.q hq) (hSg.q hq hxm hym)]
          rcases hbx with ⟨h1, _⟩ | ⟨h1, h2⟩
          · exact .inl (hxlt _ h1)
          · rw [hx] at h1
            exact .inr ⟨(Option.some.inj h1).symm, hylt _ h2⟩
        · rw [List.mem_append, List.mem_singleton, hmem, hbf]
          constructor
          · rintro (h' | rfl)
            · exact ⟨.inl h'.1, h'.2⟩
            · exact ⟨.inr rfl, hr.1 h⟩
          · rintro ⟨h' | h', h2⟩
            · exact .inl ⟨h', h2⟩
            · exact .inr h'
        · rcases hbk' j hj with h' | h'
          · exact hb j h'
          · have := hE.size; have := x34.size; omega
      · rw [hmem, hbf]
        constructor
        · exact fun h' => ⟨.inl h'.1, h'.2⟩
        · rintro ⟨h' | rfl, h2⟩
          · exact ⟨h', h2⟩
          · rw [hr.2 h2] at h; cases h
    · have hk' : k = l.length := by dsimp only at hge2; omega
      subst hk'
      refine ⟨rfl, m - 1, by omega, i + 1, so', zs, hi', by omega, by dsimp only; rw [w1 hi'], hO, hsrt, fun p => ?_, by omega, hE, hb⟩
      rw [hmem]
      refine and_congr_left fun _ => ?_
      unfold bfP
      rw [List.take_length, htk, List.mem_append, List.mem_singleton, hx, Option.some.injEq]
      constructor
      · rintro (h | h)
        · exact .inl ⟨.inl h.1, h.2⟩
        · exact .inl ⟨.inr h.1.symm, h.2⟩
      · rintro (⟨h | h, h2⟩ | ⟨_, h⟩)
        · exact .inl ⟨h, h2⟩
        · exact .inr ⟨h.symm, h2⟩
        · simp at h
  · have hi' : i = l.length := by dsimp only at hge; omega
    subst hi'
    obtain ⟨hO, hsrt, hmem, hzl, hE, hb⟩ := hI
    refine ⟨so, ys, rfl, hsrt, fun p => ?_, by omega, hO, e2.trans hE, fun j hj => by have := hb j hj; have := e2.size; omega⟩
    rw [hmem]
    refine ⟨fun h => h.2, fun h => ⟨.inl ?_, h⟩⟩
    obtain ⟨k, j, a, b, _, h1, h2, rfl, _⟩ := h
    rw [List.take_length]
    exact ⟨(hSg.mem _).2 ⟨a, List.mem_of_getElem? h1, rfl⟩, (hSg.mem _).2 ⟨b, List.mem_of_getElem? h2, rfl⟩⟩
end Go.Proofs.Ytmmhbjbaallkfaa.Gx

/- Written by mkf.py: what is to be shown of functions, as Gx reckons it from their code. -/
namespace Go.Proofs.Ytmmhbjbaallkfaa.Gx
open Go
set_option linter.unusedVariables false
set_option maxRecDepth 100000
def F30j2 (R : Value → World → Prop) (s6 : Sl) (b7 : Nat) (y10 : Nat → Sl → World → Prop) (b12 : Nat) (s18 : Sl) (y19 : Nat → Sl × Int → World → Prop) (b21 : Nat) (x22 : Sl × Int) (w23 : World) : Prop :=
 IfB (decide (x22.snd < (s18.n : Int)))
 (∃ (b26 : Nat),
 ∃ (b27 : Nat),
 s18.1 = some ({ block := b26, off := b27 } : Addr) ∧
 ((0 : Int) ≤ x22.2 ∧ x22.2 < (s18.2 : Int)) ∧
 ∃ (n28 : Int),
 w23.cell? ({ block := b26, off := b27 + x22.2.toNat } : Addr) = some (Value.int IntKind.i64 n28) ∧
 AllocP w23 (Obj.cells #[Value.int IntKind.i64 (0 : Int)] (3 : Nat)) fun (b29 : Nat) (w30 : World) =>
 #[Value.int IntKind.i64 n28].size = (1 : Nat) ∧
 StoreP w30 b29 (0 : Nat) [Value.int IntKind.i64 n28] fun (w31 : World) =>
 CX Try.prog (53 : Nat)
 #[Value.slice s6.1 s6.2 s6.3,
 Value.func (Fn.func (52 : Nat)) #[] #[Value.pointer (some ({ block := b29, off := (0 : Nat) } : Addr)), Value.pointer (some ({ block := b7, off := (0 : Nat) } : Addr))]]
 w31 fun (v32 : Value) (w33 : World) =>
 ∃ (t34 : Bool),
 v32 = Value.bool t34 ∧
 IfB t34 (([] : List Nat) = [] ∧ ∃ (b35 : Nat), b35 < b21 ∧ y19 b35 ({ p := x22.fst.1, n := x22.fst.2, c := x22.fst.3 }, IntKind.i64.wrap (x22.2 + (1 : Int))) w33)
 (∃ (n36 : Int),
 w33.cell? ({ block := b29, off := (0 : Nat) } : Addr) = some (Value.int IntKind.i64 n36) ∧
 (1 : Nat) * (1 : Nat) ≤ (16777216 : Nat) ∧
 AllocP w33 (Obj.cells #[Value.int IntKind.i64 n36] (3 : Nat)) fun (b37 : Nat) (w38 : World) =>
 ∃ (l39 : List Value),
 ReadC w38 (some ({ block := b37, off := (0 : Nat) } : Addr)) ((1 : Nat) * (1 : Nat)) l39 ∧
 AppendP tt3 (3 : Nat) w38 x22.fst.1 x22.fst.2 x22.fst.3
 (1 : Nat) l39 fun (s40 : Sl) (w41 : World) =>
 ∃ (s42 : Sl),
 w41.cell? ({ block := b7, off := (0 : Nat) } : Addr) = some (Value.slice s42.1 s42.2 s42.3) ∧
 CX Try.prog (41 : Nat) #[Value.slice s42.1 s42.2 s42.3] w41 fun (v43 : Value) (w44 : World) =>
 ∃ (s45 : Sl),
 v43 = Value.slice s45.1 s45.2 s45.3 ∧
 CX Try.prog (54 : Nat) #[Value.slice s45.1 s45.2 s45.3, Value.int IntKind.i64 x22.2, Value.int IntKind.i64 (IntKind.i64.wrap (x22.2 + (1 : Int)))] w44 fun (v46 : Value) (w47 : World) =>
 ∃ (s48 : Sl),
 v46 = Value.slice s48.1 s48.2 s48.3 ∧
 #[Value.slice s48.1 s48.2 s48.3].size = (1 : Nat) ∧
 StoreP w47 b7 (0 : Nat) [Value.slice s48.1 s48.2 s48.3] fun (w49 : World) => ([] : List Nat) = [] ∧ ∃ (b50 : Nat), b50 < b12 ∧ y10 b50 { p := s40.1, n := s40.2, c := s40.3 } w49))
 (R (Value.tuple #[Value.slice none (0 : Nat) (0 : Nat), Value.bool false]) w23)
def F30j1 (R : Value → World → Prop) (s6 : Sl) (b7 : Nat) (y10 : Nat → Sl → World → Prop) (b12 : Nat) (s13 : Sl) (w14 : World) : Prop :=
 ∃ (s17 : Sl),
 w14.cell? ({ block := b7, off := (0 : Nat) } : Addr) = some (Value.slice s17.1 s17.2 s17.3) ∧
 IfB (decide ((0 : Int) < (s17.n : Int)))
 (∃ (s18 : Sl),
 w14.cell? ({ block := b7, off := (0 : Nat) } : Addr) = some (Value.slice s18.1 s18.2 s18.3) ∧
 ∃ (y19 : Nat → Sl × Int → World → Prop),
 (∃ (b20 : Nat), y19 b20 ({ p := s13.1, n := s13.2, c := s13.3 }, (0 : Int)) w14) ∧
 ∀ (b21 : Nat) (x22 : Sl × Int) (w23 : World) (y24 : Nat → Value),
 y19 b21 x22 w23 →
 (F30j2 R s6 b7 y10 b12 s18 y19 b21 x22 w23))
 (R (Value.tuple #[Value.slice s13.1 s13.2 s13.3, Value.bool true]) w14)
def F30 (t0 : Sl) (w : World) (R : Value → World → Prop) : Prop :=
 CX Try.prog (26 : Nat) #[Value.slice t0.1 t0.2 t0.3] w fun (v1 : Value) (w2 : World) =>
 ∃ (s3 : Sl),
 v1 = Value.slice s3.1 s3.2 s3.3 ∧
 CX Try.prog (21 : Nat) #[Value.slice t0.1 t0.2 t0.3] w2 fun (v4 : Value) (w5 : World) =>
 ∃ (s6 : Sl),
 v4 = Value.slice s6.1 s6.2 s6.3 ∧
 AllocP w5 (Obj.cells #[Value.slice none (0 : Nat) (0 : Nat)] (31 : Nat)) fun (b7 : Nat) (w8 : World) =>
 #[Value.slice s3.1 s3.2 s3.3].size = (1 : Nat) ∧
 StoreP w8 b7 (0 : Nat) [Value.slice s3.1 s3.2 s3.3] fun (w9 : World) =>
 ∃ (y10 : Nat → Sl → World → Prop),
 (∃ (b11 : Nat), y10 b11 { p := none, n := (0 : Nat), c := (0 : Nat) } w9) ∧
 ∀ (b12 : Nat) (s13 : Sl) (w14 : World) (y15 : Nat → Value),
 y10 b12 s13 w14 →
 (F30j1 R s6 b7 y10 b12 s13 w14)
theorem F30_ok (t0 : Sl) (w : World) (R : Value → World → Prop) (h : F30 t0 w R) : CW Try.prog 30 #[Value.slice t0.1 t0.2 t0.3] w R :=
  call_of tbOk mixed en30 Try.func30 rfl (.node (.nil) (.node (.nil) (.node (.nil) (.node (.nil) (.node (.loop [(6, .one (.sl))] [14, 15, 16, 17, 18, 19, 20, 21, 22, 23, 8, 7, 24, 9, 25, 26, 27, 28, 29, 30, 31, 6, 32, 33, 34, 35, 36, 37, 38, 2, 3] (.node (.nil) (.node (.node (.nil) (.loop [(6, .one (.sl)), (19, .one (.int .i64))] [20, 21, 22, 23, 8, 7, 24, 9, 25, 26, 27, 28, 29, 30, 31, 6, 32, 33, 34, 35, 36, 37, 38, 19] (.nil))) (.nil)))) (.nil)))))) (by kernel_rfl) (Nat.le_of_ble_eq_true (by kernel_rfl)) (Eq.mp (α := F30 t0 w R) (by kernel_rfl) h)
end Go.Proofs.Ytmmhbjbaallkfaa.Gx

/- Package serial: Order, May. -/
namespace Go.Proofs.Ytmmhbjbaallkfaa.Gx
open Go
set_option linter.unusedSimpArgs false
set_option linter.unusedVariables false
theorem c54 {w : World} {t : Sl} {xs : List Int} {i : Nat} (h : OwS w t 1 (xs.map iv)) (hi : i < xs.length) (hl : xs.length ≤ 1000000) :
    CW Try.prog 54 #[slV t, iv (i : Int), iv ((i + 1 : Nat) : Int)] w fun v w' => ∃ t', v = slV t' ∧ OwS w' t' 1 ((xs.eraseIdx i).map iv) ∧ t'.p = t.p ∧ Ch (fun j => j ∈ blk t) w w' := by
  have hn := owsI h
  refine F54_ok t (i : Int) ((i + 1 : Nat) : Int) w _ ?_
  have e : ∀ R, F54 t (i : Int) ((i + 1 : Nat) : Int) w R = DelF tt3 3 1 t (i : Int) ((i + 1 : Nat) : Int) w R := fun R => rfl
  rw [e]
  refine DelF_of h rfl rfl (fun v hv => by obtain ⟨x, _, rfl⟩ := List.mem_map.1 hv; rfl) (by intro y hy; simp [Value.cells] at hy; subst hy; rfl) (by omega) (by omega) ⟨by omega, ?_⟩ fun s' w' h1 h2 h3 h4 => ⟨s', rfl, ?_, h4, h3⟩
  · show 2 * t.n * 8 ≤ _
    omega
  · rw [Nat.mul_one, Nat.mul_one] at h1
    rw [List.eraseIdx_eq_take_drop_succ, List.map_append, List.map_take, List.map_drop]
    exact h1
/-- No saga of left is ahead of s. -/
def freeB (ah : List (Int × Int)) (left : List Int) (s : Int) : Bool := !(ah.any (waitB left s))
/-- What Order reckons. -/
def ordGo (ah : List (Int × Int)) : Nat → List Int → List Int → List Int × Bool
  | 0, _, out => (out, true)
  | n + 1, left, out => match left.findIdx? (freeB ah left) with
    | none => ([], false)
    | some i => ordGo ah n (left.eraseIdx i) (out ++ [left.getD i 0])
theorem c30 {w : World} {t : Sl} {hs : List Nd} (hH : Hst w t hs) (hl : hs.length ≤ 1000) (hq : SgR hs) :
    CW Try.prog 30 #[slV t] w fun v w' => ∃ t', ∃ l : List Int, ∃ ah : List (Int × Int), SgL hs l ∧ l.length ≤ hs.length ∧ (∀ p, p ∈ ah ↔ AhP hs p) ∧ v = .tuple #[slV t', .bool (ordGo ah l.length l []).2] ∧ OwS w' t' 1 ((ordGo ah l.length l []).1.map iv) ∧ Ext w w' ∧ ∀ j ∈ blk t', w.heap.size ≤ j := by
  refine F30_ok t w _ ((c26 hH).use ?_)
  rintro _ w2 ⟨s3, l, rfl, hSg, hll, ho3, e2, hb3⟩
  refine ⟨s3, rfl, (c21 (hH.ext e2) hl hq).use ?_⟩
  rintro _ w5 ⟨s6, ah, rfl, _, hah, hal, ho6, e5, hb6⟩
  refine ⟨s6, rfl, fun b7 w8 a8 => ⟨rfl, store_one a8.new (by simp) rfl fun w9 u9 => ?_⟩⟩
  have z2 := e2.size; have z5 := e5.size; have p8 := a8.here; have z8 := a8.size; have z9 := u9.size
  have x9 : Ext w w9 := ((e2.trans e5).trans (a8.ch _)).chN u9.ch fun j e => by omega
  have y9 : Ext w5 w9 := Ch.chN (a8.ch _) u9.ch fun j e => by omega
  have hb6l := ho6.lt
  have hb3l := ho3.lt
  refine ⟨fun m so W => ∃ (left out : List Int) (tl : Sl), m = left.length ∧ out.length + left.length = l.length ∧ OwS W so 1 (out.map iv) ∧ W.heap[b7]? = some (.cells #[slV tl] 31 (0, 0)) ∧ OwS W tl 1 (left.map iv) ∧ ordGo ah left.length left out = ordGo ah l.length l [] ∧ (Ext w W ∧ w9.heap.size ≤ W.heap.size) ∧ Rd W s6 2 (ah.flatMap sv) ∧ (∀ j ∈ blk so, w9.heap.size ≤ j ∧ j ∉ blk tl) ∧ (∀ j ∈ blk tl, w.heap.size ≤ j ∧ j ≠ b7),
    ⟨l.length, l, [], s3, rfl, by simp, .nil _ _, u9.new, (ho3.ext e5).ext y9, rfl, ⟨x9, Nat.le_refl _⟩, (ho6.ext y9).rd, by simp [blk], fun j hj => ⟨hb3 j hj, by have := hb3l j hj; omega⟩⟩, ?_⟩
  rintro m so W g ⟨left, out, tl, rfl, hlen, hO, h7, hT, hgo, ⟨hE, hz9⟩, hR6, hbo, hbt⟩
  have htn := owsI hT
  have hon := owsI hO
  unfold F30j1
  refine ⟨tl, by rw [cell_of h7]; rfl, IfB.dec (fun h0 => ?_) fun h0 => ?_⟩
  · have h0' : 0 < left.length := by omega
    obtain ⟨n', hn'⟩ : ∃ n', left.length = n' + 1 := ⟨left.length - 1, by omega⟩
    refine ⟨tl, by rw [cell_of h7]; rfl, fun q x W' => ∃ i : Nat, i ≤ left.length ∧ q + i = left.length ∧ x = (so, (i : Int)) ∧ Ext W W' ∧ ∀ j < i, ∀ s, left[j]? = some s → freeB ah left s = false, ⟨left.length, 0, Nat.zero_le _, rfl, rfl, Ch.refl _ _, fun j hj => by omega⟩, ?_⟩
    rintro q _ w23 g ⟨i, hi, hqi, rfl, e23, hno⟩
    unfold F30j2
    refine IfB.dec (fun hlt => ?_) fun hge => ?_
    · have hi' : i < left.length := by dsimp only at hlt; omega
      have hx : left[i]? = some left[i] := List.getElem?_eq_getElem hi'
      have hgd : left.getD i 0 = left[i] := by rw [List.getD_eq_getElem?_getD, hx]; rfl
      generalize left[i] = s at hx hgd
      obtain ⟨a, ha, hc⟩ := (hT.ext e23).elem1 (i := i) (v := iv s) (by rw [List.getElem?_map, hx]; rfl)
      refine ⟨a, 0, ha, (⟨by omega, by omega⟩ : (0 : Int) ≤ (i : Int) ∧ (i : Int) < (tl.n : Int)), s, by dsimp only; rw [Int.toNat_natCast, Nat.zero_add]; exact hc, fun b29 w30 a30 => ⟨rfl, store_one a30.new (by simp) rfl fun w31 u31 => ?_⟩⟩
      have p30 := a30.here; have z30 := a30.size; have z31 := u31.size
      have e31 : Ext W w31 := (e23.trans (a30.ch _)).chN u31.ch fun j e => by have := e23.size; omega
      have H7 := e31.at h7
      refine (c53 (t1 := (52, #[.pointer (some ⟨b29, 0, none⟩), .pointer (some ⟨b7, 0, none⟩)])) (q := waitB left s) (hR6.ext e31) hal fun x W' _ e' R' hR' => (c52 x ⟨_, e'.at u31.new⟩ ⟨_, e'.at H7⟩ ((hT.ext e31).ext e').rd (by omega)).use fun v w' ⟨hv, e''⟩ => hv ▸ hR' w' e'').use ?_
      rintro _ w33 ⟨rfl, e33⟩
      have e2333 : Ext w23 w33 := (Ch.chN (a30.ch _) u31.ch fun j e => by omega).trans e33
      have w1 : IntKind.i64.wrap ((i : Int) + 1) = ((i + 1 : Nat) : Int) := by rw [wrap_of (by omega) (by omega)]; rfl
      refine ⟨_, rfl, IfB.intro (fun hany => ⟨rfl, q - 1, by omega, i + 1, hi', by omega, by rw [w1], e23.trans e2333, fun j hj s' hs' => ?_⟩) fun hany => ?_⟩
      · by_cases hji : j = i
        · subst hji
          rw [hx] at hs'; cases hs'
          unfold freeB; rw [hany]; rfl
        · exact hno j (by omega) s' hs'
      · have hfree : freeB ah left s = true := by unfold freeB; rw [hany]; rfl
        have hfi : left.findIdx? (freeB ah left) = some i := by
          rw [List.findIdx?_eq_some_iff_getElem]
          refine ⟨hi', ?_, fun j hj => ?_⟩
          · rw [List.getElem?_eq_getElem hi'] at hx
            rw [Option.some.inj hx]; exact hfree
          · have := hno j hj _ (List.getElem?_eq_getElem (by omega))
            simp [this]
        have E33 : Ext W w33 := e23.trans e2333
        have X33 : Ext w w33 := hE.trans E33
        refine ⟨s, by rw [cell_of (e33.at u31.new)]; rfl, by decide, fun b37 w38 a38 => ?_⟩
        have E38 : Ext W w38 := E33.trans (a38.ch _)
        have zW := E38.size
        refine (hO.ext E38).lit (new := [iv s]) (T' := 3) a38.new rfl (oneIv s) rfl rfl (by omega) (by decide) fun s40 w41 ho41 hn41 hC41 hb41 => ?_
        have zE := hE.size; have z41 := hC41.size
        have x9s := x9.size
        have out41 : ∀ j ∈ blk s40, w9.heap.size ≤ j := fun j hj => by
          rcases hb41 j hj with h | h
          · exact (hbo j h).1
          · omega
        have X41 : Ext w w41 := (hE.trans E38).chN hC41 fun j hj => by have := (hbo j hj).1; omega
        have T41 : OwS w41 tl 1 (left.map iv) := (hT.ext E38).ch hC41 fun j hj h => (hbo j h).2 hj
        have H741 := hC41.at (E38.at h7) fun h => by have := (hbo b7 h).1; omega
        refine ⟨tl, by rw [cell_of H741]; rfl, (c41 T41.rd (by omega)).use ?_⟩
        rintro _ w44 ⟨s45, rfl, ho45, e44, hb45⟩
        dsimp only
        rw [w1]
        refine ⟨s45, rfl, (c54 ho45 hi' (by omega)).use ?_⟩
        rintro _ w47 ⟨s48, rfl, ho48, hp48, hC48⟩
        have hb48 : ∀ j ∈ blk s48, w41.heap.size ≤ j := fun j hj => hb45 j (by unfold blk at hj ⊢; rw [hp48] at hj; exact hj)
        have z44 := e44.size; have z48 := hC48.size
        have e47 : Ext w41 w47 := e44.chN hC48 fun j hj => hb45 j hj
        have hb7l := heap_lt H741
        refine ⟨s48, rfl, rfl, store_one (e47.at H741) (by simp) rfl fun w49 u49 => ⟨rfl, n', by omega, left.eraseIdx i, out ++ [s], s48, ?_, ?_, ?_, u49.new, ?_, ?_, ?_, ?_, fun j hj => ⟨out41 j hj, fun h => by have := hb48 j h; have := ho41.lt j hj; omega⟩, fun j hj => ⟨by have := hb48 j hj; have := X41.size; omega, by have := hb48 j hj; omega⟩⟩⟩
        · rw [List.length_eraseIdx, if_pos hi']; omega
        · rw [List.length_eraseIdx, if_pos hi', List.length_append, List.length_singleton]; omega
        · rw [List.map_append]
          exact (ho41.ext e47).ch u49.ch fun j hj e => by have := out41 j hj; omega
        · exact ho48.ch u49.ch fun j hj e => by have := hb48 j hj; omega
        · rw [← hgo, hn']
          show ordGo ah (left.eraseIdx i).length _ _ = match left.findIdx? (freeB ah left) with
            | none => ([], false)
            | some i => ordGo ah n' (left.eraseIdx i) (out ++ [left.getD i 0])
          rw [hfi]
          dsimp only
          rw [hgd, List.length_eraseIdx, if_pos hi', hn']; rfl
        · exact ⟨(X41.trans e47).chN u49.ch fun j e => by omega, by have := u49.size; omega⟩
        · refine (((hR6.ext E38).ch0 hC41 fun h0 j hj h => ?_).ext e47).ch0 u49.ch fun h0 j hj e => ?_
          · have := (hbo j h).1; have := hb6l j hj; omega
          · have := hb6l j hj; omega
    · have hi' : i = left.length := by dsimp only at hge; omega
      subst hi'
      have hnone : left.findIdx? (freeB ah left) = none := List.findIdx?_eq_none_iff.2 fun s hs => by
        obtain ⟨j, hj, rfl⟩ := List.getElem_of_mem hs
        exact hno j hj _ (List.getElem?_eq_getElem hj)
      have hres : ordGo ah l.length l [] = ([], false) := by
        rw [← hgo, hn']
        show (match left.findIdx? (freeB ah left) with
            | none => ([], false)
            | some i => ordGo ah n' (left.eraseIdx i) (out ++ [left.getD i 0])) = _
        rw [hnone]
      exact ⟨⟨none, 0, 0⟩, l, ah, hSg, hll, hah, by rw [hres], by rw [hres]; exact .nil _ _, hE.trans e23, by simp [blk]⟩
  · have h0' : left = [] := List.length_eq_zero_iff.1 (by omega)
    subst h0'
    have hres : ordGo ah l.length l [] = (out, true) := by rw [← hgo]; rfl
    exact ⟨so, l, ah, hSg, hll, hah, by rw [hres], by rw [hres]; exact hO, hE, fun j hj => by have := (hbo j hj).1; have := x9.size; omega⟩
theorem c32 {w : World} {t : Sl} {hs : List Nd} (hH : Hst w t hs) (hl : hs.length ≤ 1000) (hq : SgR hs) :
    CW Try.prog 32 #[slV t] w fun v w' => ∃ l : List Int, ∃ ah : List (Int × Int), SgL hs l ∧ (∀ p, p ∈ ah ↔ AhP hs p) ∧ v = .bool (ordGo ah l.length l []).2 ∧ Ext w w' := by
  refine F32_ok t w _ ((c30 hH hl hq).use ?_)
  rintro _ w2 ⟨t', l, ah, h1, _, h2, rfl, _, e2, _⟩
  exact ⟨(t', _), rfl, l, ah, h1, h2, rfl, e2⟩
end Go.Proofs.Ytmmhbjbaallkfaa.Gx

/- Tables of bools: slices of slices that are turned in place; reachability by Floyd and Warshall. -/
namespace Go.Proofs.Ytmmhbjbaallkfaa.Gx
open Go
set_option linter.unusedSimpArgs false
set_option linter.unusedVariables false
section
variable {E : Nat → Nat → Prop}
end
theorem zc_all {z : Array Value} {v : Value} (h : ∀ x ∈ z.toList, x = v) (n : Nat) : zc z n = List.replicate (n * z.size) v := by
  refine List.eq_replicate_iff.2 ⟨zc_len z n, fun x hx => ?_⟩
  unfold zc Builtin.zeroCells at hx
  rw [Array.mem_toList_iff, Array.mem_map] at hx
  obtain ⟨i, hi, rfl⟩ := hx
  rw [Array.mem_range] at hi
  have h0 : 0 < z.size := by
    rcases Nat.eq_zero_or_pos z.size with h0 | h0
    · rw [h0, Nat.mul_zero] at hi; omega
    · exact h0
  have hm := Nat.mod_lt i h0
  rw [getElem!_pos z _ hm]
  exact h _ (by simp)
abbrev MxR := Sl × List Bool
abbrev bvs (l : List Bool) : List Value := l.map Value.bool
abbrev hM (x : MxR) : Value := slV x.1
structure Mx (w : World) (n : Nat) (t : Sl) (rows : List MxR) : Prop where
  own : OwS w t 1 (rows.map hM)
  row : ∀ r ∈ rows, OwS w r.1 1 (bvs r.2)
  apart : ∀ r ∈ rows, ∀ j ∈ blk r.1, j ∉ blk t
  dist : ∀ (a b : Nat) (r s : MxR), a ≠ b → rows[a]? = some r → rows[b]? = some s → ∀ j ∈ blk r.1, j ∉ blk s.1
  new : ∀ j ∈ blk t, n ≤ j
  rnew : ∀ r ∈ rows, ∀ j ∈ blk r.1, n ≤ j
theorem Mx.n {w : World} {m : Nat} {t : Sl} {rows : List MxR} (h : Mx w m t rows) : t.n = rows.length := by rw [h.own.len1, List.length_map]
theorem Mx.slot {w : World} {m : Nat} {t : Sl} {rows : List MxR} (h : Mx w m t rows) {i : Nat} {r : MxR} (hr : rows[i]? = some r) : ∃ b, t.p = some ⟨b, 0, none⟩ ∧ w.cell? ⟨b, i, none⟩ = some (slV r.1) :=
  h.own.elem1 (i := i) (v := hM r) (by rw [List.getElem?_map, hr]; rfl)
theorem Mx.rn {w : World} {m : Nat} {t : Sl} {rows : List MxR} (h : Mx w m t rows) {r : MxR} (hr : r ∈ rows) : r.1.n = r.2.length := by rw [(h.row r hr).len1, List.length_map]
theorem Mx.cell {w : World} {m : Nat} {t : Sl} {rows : List MxR} (h : Mx w m t rows) {r : MxR} (hr : r ∈ rows) {k : Nat} {v : Bool} (hv : r.2[k]? = some v) : ∃ b, r.1.p = some ⟨b, 0, none⟩ ∧ w.cell? ⟨b, k, none⟩ = some (.bool v) :=
  (h.row r hr).elem1 (i := k) (v := .bool v) (by rw [List.getElem?_map, hv]; rfl)
/-- The place (i, k). -/
def gM (rows : List MxR) (i k : Nat) : Bool := match rows[i]? with
  | some r => r.2.getD k false
  | none => false
theorem gM_get {rows : List MxR} {i k : Nat} {r : MxR} (hr : rows[i]? = some r) (hk : k < r.2.length) : r.2[k]? = some (gM rows i k) := by
  unfold gM; rw [hr]
  dsimp only
  rw [List.getD_eq_getElem?_getD, List.getElem?_eq_getElem hk]; rfl
end Go.Proofs.Ytmmhbjbaallkfaa.Gx

/- Written by mkf.py: what is to be shown of functions, as Gx reckons it from their code. -/
namespace Go.Proofs.Ytmmhbjbaallkfaa.Gx
open Go
set_option linter.unusedVariables false
set_option maxRecDepth 100000
def F14j2 (t0 : Sl) (t1 : Sl) (R : Value → World → Prop) (y1 : Nat → Int → World → Prop) (b3 : Nat) (n4 : Int) (y8 : Nat → Int × Int → World → Prop) (b10 : Nat) (x11 : Int × Int) (w12 : World) : Prop :=
 IfB (decide (x11.snd < (t1.n : Int)))
 (∃ (b15 : Nat),
 ∃ (b16 : Nat),
 t1.1 = some ({ block := b15, off := b16 } : Addr) ∧
 ((0 : Int) ≤ n4 ∧ n4 < (t1.2 : Int)) ∧
 ∃ (s17 : Sl),
 w12.cell? ({ block := b15, off := b16 + n4.toNat } : Addr) = some (Value.slice s17.1 s17.2 s17.3) ∧
 ∃ (b18 : Nat),
 ∃ (b19 : Nat),
 s17.1 = some ({ block := b18, off := b19 } : Addr) ∧
 ((0 : Int) ≤ x11.2 ∧ x11.2 < (s17.2 : Int)) ∧
 ∃ (t20 : Bool),
 w12.cell? ({ block := b18, off := b19 + x11.2.toNat } : Addr) = some (Value.bool t20) ∧
 IfB (!t20) (([] : List Nat) = [] ∧ ∃ (b21 : Nat), b21 < b10 ∧ y8 b21 (x11.1, IntKind.i64.wrap (x11.2 + (1 : Int))) w12)
 (∃ (b22 : Nat),
 ∃ (b23 : Nat),
 t0.1 = some ({ block := b22, off := b23 } : Addr) ∧
 ((0 : Int) ≤ n4 ∧ n4 < (t0.2 : Int)) ∧
 ∃ (s24 : Sl),
 w12.cell? ({ block := b22, off := b23 + n4.toNat } : Addr) = some (Value.slice s24.1 s24.2 s24.3) ∧
 IfB (decide ((s24.n : Int) ≤ x11.fst)) (R (Value.bool false) w12)
 (∃ (b25 : Nat),
 ∃ (b26 : Nat),
 t0.1 = some ({ block := b25, off := b26 } : Addr) ∧
 ((0 : Int) ≤ n4 ∧ n4 < (t0.2 : Int)) ∧
 ∃ (s27 : Sl),
 w12.cell? ({ block := b25, off := b26 + n4.toNat } : Addr) = some (Value.slice s27.1 s27.2 s27.3) ∧
 ∃ (b28 : Nat),
 ∃ (b29 : Nat),
 s27.1 = some ({ block := b28, off := b29 } : Addr) ∧
 ((0 : Int) ≤ x11.1 ∧ x11.1 < (s27.2 : Int)) ∧
 ∃ (n30 : Int),
 w12.cell? ({ block := b28, off := b29 + x11.1.toNat } : Addr) = some (Value.int IntKind.i64 n30) ∧
 IfB (n30 != x11.2) (R (Value.bool false) w12) (([] : List Nat) = [] ∧ ∃ (b31 : Nat), b31 < b10 ∧ y8 b31 (IntKind.i64.wrap (x11.1 + (1 : Int)), IntKind.i64.wrap (x11.2 + (1 : Int))) w12))))
 (∃ (b32 : Nat),
 ∃ (b33 : Nat),
 t0.1 = some ({ block := b32, off := b33 } : Addr) ∧
 ((0 : Int) ≤ n4 ∧ n4 < (t0.2 : Int)) ∧
 ∃ (s34 : Sl),
 w12.cell? ({ block := b32, off := b33 + n4.toNat } : Addr) = some (Value.slice s34.1 s34.2 s34.3) ∧
 IfB (x11.1 != (s34.2 : Int)) (R (Value.bool false) w12) (([] : List Nat) = [] ∧ ∃ (b35 : Nat), b35 < b3 ∧ y1 b35 (IntKind.i64.wrap (n4 + (1 : Int))) w12))
def F14 (t0 : Sl) (t1 : Sl) (w : World) (R : Value → World → Prop) : Prop :=
 IfB ((t0.2 : Int) != (t1.2 : Int)) (R (Value.bool false) w)
 (∃ (y1 : Nat → Int → World → Prop),
 (∃ (b2 : Nat), y1 b2 (0 : Int) w) ∧
 ∀ (b3 : Nat) (n4 : Int) (w5 : World) (y6 : Nat → Value),
 y1 b3 n4 w5 →
 IfB (decide (n4 < (t1.n : Int)))
 (∃ (y8 : Nat → Int × Int → World → Prop),
 (∃ (b9 : Nat), y8 b9 ((0 : Int), (0 : Int)) w5) ∧
 ∀ (b10 : Nat) (x11 : Int × Int) (w12 : World) (y13 : Nat → Value),
 y8 b10 x11 w12 →
 (F14j2 t0 t1 R y1 b3 n4 y8 b10 x11 w12))
 (R (Value.bool true) w5))
theorem F14_ok (t0 : Sl) (t1 : Sl) (w : World) (R : Value → World → Prop) (h : F14 t0 t1 w R) : CW Try.prog 14 #[Value.slice t0.1 t0.2 t0.3, Value.slice t1.1 t1.2 t1.3] w R :=
  call_of tbOk mixed en14 Try.func14 rfl (.node (.nil) (.node (.nil) (.node (.node (.nil) (.loop [(5, .one (.int .i64))] [13, 14, 15, 16, 6, 7, 19, 20, 21, 22, 25, 26, 27, 28, 29, 30, 31, 32, 33, 34, 35, 36, 37, 38, 39, 40, 41, 42, 43, 44, 45, 46, 47, 48, 49, 50, 4, 51, 52, 23, 24, 53, 54, 55, 56, 57, 58, 59, 17, 18, 5] (.node (.nil) (.node (.node (.nil) (.node (.node (.nil) (.loop [(6, .one (.int .i64)), (7, .one (.int .i64))] [19, 20, 21, 22, 25, 26, 27, 28, 29, 30, 31, 32, 33, 34, 35, 36, 37, 38, 39, 40, 41, 42, 43, 44, 45, 46, 47, 48, 49, 50, 4, 51, 52, 6, 23, 24, 7] (.nil))) (.nil))) (.nil))))) (.nil)))) (by kernel_rfl) (Nat.le_of_ble_eq_true (by kernel_rfl)) (Eq.mp (α := F14 t0 t1 w R) (by kernel_rfl) h)
def F11j1 (t0 : Sl) (R : Value → World → Prop) (y1 : Nat → Int → World → Prop) (b3 : Nat) (n4 : Int) (w5 : World) : Prop :=
 IfB (decide (n4 < (t0.n : Int)))
 (∃ (b8 : Nat),
 ∃ (b9 : Nat),
 t0.1 = some ({ block := b8, off := b9 } : Addr) ∧
 ((0 : Int) ≤ n4 ∧ n4 < (t0.2 : Int)) ∧
 ∃ (s10 : Sl),
 w5.cell? ({ block := b8, off := b9 + n4.toNat * (6 : Nat) + (4 : Nat) } : Addr) = some (Value.slice s10.1 s10.2 s10.3) ∧
 IfB (decide ((40 : Int) < (s10.n : Int))) (R (Value.bool true) w5)
 (∃ (b11 : Nat),
 ∃ (b12 : Nat),
 t0.1 = some ({ block := b11, off := b12 } : Addr) ∧
 ((0 : Int) ≤ n4 ∧ n4 < (t0.2 : Int)) ∧
 ∃ (s13 : Sl),
 w5.cell? ({ block := b11, off := b12 + n4.toNat * (6 : Nat) + (5 : Nat) } : Addr) = some (Value.slice s13.1 s13.2 s13.3) ∧
 IfB (decide ((40 : Int) < (s13.n : Int))) (R (Value.bool true) w5) (([] : List Nat) = [] ∧ ∃ (b14 : Nat), b14 < b3 ∧ y1 b14 (IntKind.i64.wrap (n4 + (1 : Int))) w5)))
 (R (Value.bool (decide ((40 : Int) < (t0.n : Int)))) w5)
def F11 (t0 : Sl) (w : World) (R : Value → World → Prop) : Prop :=
 ∃ (y1 : Nat → Int → World → Prop),
 (∃ (b2 : Nat), y1 b2 (0 : Int) w) ∧
 ∀ (b3 : Nat) (n4 : Int) (w5 : World) (y6 : Nat → Value),
 y1 b3 n4 w5 →
 (F11j1 t0 R y1 b3 n4 w5)
theorem F11_ok (t0 : Sl) (w : World) (R : Value → World → Prop) (h : F11 t0 w R) : CW Try.prog 11 #[Value.slice t0.1 t0.2 t0.3] w R :=
  call_of tbOk mixed en11 Try.func11 rfl (.node (.nil) (.node (.node (.nil) (.loop [(3, .one (.int .i64))] [4, 5, 6, 7, 10, 11, 12, 13, 14, 15, 16, 17, 18, 19, 20, 21, 22, 23, 24, 25, 2, 8, 9, 3] (.nil))) (.nil))) (by kernel_rfl) (Nat.le_of_ble_eq_true (by kernel_rfl)) (Eq.mp (α := F11 t0 w R) (by kernel_rfl) h)
def F10 (w : World) (R : Value → World → Prop) : Prop :=
 (1 : Nat) * (2 : Nat) ≤ (16777216 : Nat) ∧
 AllocP w (Obj.cells #[Value.int IntKind.i64 (5 : Int), Value.int IntKind.i64 (5 : Int)] (51 : Nat)) fun (b1 : Nat) (w2 : World) =>
 (1 : Nat) * (2 : Nat) ≤ (16777216 : Nat) ∧
 AllocP w2 (Obj.cells #[Value.int IntKind.i64 (6 : Int), Value.int IntKind.i64 (6 : Int)] (51 : Nat)) fun (b3 : Nat) (w4 : World) =>
 (4 : Nat) * (6 : Nat) ≤ (16777216 : Nat) ∧
 AllocP w4
 (Obj.cells
 #[Value.int IntKind.i64 (1 : Int), Value.int IntKind.i64 (0 : Int), Value.int IntKind.i64 (0 : Int), Value.bool false, Value.slice none (0 : Nat) (0 : Nat),
 Value.slice (some ({ block := b1, off := (0 : Nat) } : Addr)) (1 : Nat) (1 : Nat), Value.int IntKind.i64 (2 : Int), Value.int IntKind.i64 (0 : Int), Value.int IntKind.i64 (0 : Int), Value.bool false,
 Value.slice (some ({ block := b1, off := (0 : Nat) } : Addr)) (1 : Nat) (1 : Nat), Value.slice none (0 : Nat) (0 : Nat), Value.int IntKind.i64 (2 : Int), Value.int IntKind.i64 (0 : Int),
 Value.int IntKind.i64 (1 : Int), Value.bool false, Value.slice none (0 : Nat) (0 : Nat), Value.slice (some ({ block := b3, off := (0 : Nat) } : Addr)) (1 : Nat) (1 : Nat), Value.int IntKind.i64 (1 : Int),
 Value.int IntKind.i64 (0 : Int), Value.int IntKind.i64 (1 : Int), Value.bool false, Value.slice (some ({ block := b3, off := (0 : Nat) } : Addr)) (1 : Nat) (1 : Nat), Value.slice none (0 : Nat) (0 : Nat)]
 (27 : Nat))
 fun (b5 : Nat) (w6 : World) =>
 CX Try.prog (13 : Nat) #[Value.slice (some ({ block := b5, off := (0 : Nat) } : Addr)) (4 : Nat) (4 : Nat)] w6 fun (v7 : Value) (w8 : World) =>
 ∃ (s9 : Sl),
 v7 = Value.slice s9.1 s9.2 s9.3 ∧
 IfB ((s9.2 : Int) == (4 : Int))
 (∃ (b10 : Nat),
 ∃ (b11 : Nat),
 s9.1 = some ({ block := b10, off := b11 } : Addr) ∧
 ((0 : Int) ≤ (3 : Int) ∧ (3 : Int) < (s9.2 : Int)) ∧
 ∃ (s12 : Sl),
 w8.cell? ({ block := b10, off := b11 + Int.toNat (3 : Int) } : Addr) = some (Value.slice s12.1 s12.2 s12.3) ∧
 IfB ((s12.2 : Int) == (3 : Int))
 (CX Try.prog (17 : Nat) #[Value.slice (some ({ block := b5, off := (0 : Nat) } : Addr)) (4 : Nat) (4 : Nat), Value.int IntKind.i64 (2 : Int), Value.int IntKind.i64 (0 : Int)] w8
 fun (v13 : Value) (w14 : World) =>
 ∃ (t15 : Bool),
 v13 = Value.bool t15 ∧
 IfB t15
 (CX Try.prog (16 : Nat) #[Value.slice (some ({ block := b5, off := (0 : Nat) } : Addr)) (4 : Nat) (4 : Nat), Value.int IntKind.i64 (2 : Int), Value.int IntKind.i64 (0 : Int)] w14
 fun (v16 : Value) (w17 : World) => ∃ (t18 : Bool), v16 = Value.bool t18 ∧ R (Value.bool !t18) w17)
 (R (Value.bool false) w14))
 (R (Value.bool false) w8))
 (R (Value.bool false) w8)
theorem F10_ok (w : World) (R : Value → World → Prop) (h : F10  w R) : CW Try.prog 10 #[] w R :=
  call_of tbOk mixed en10 Try.func10 rfl (.nil) (by kernel_rfl) (Nat.le_of_ble_eq_true (by kernel_rfl)) (Eq.mp (α := F10  w R) (by kernel_rfl) h)
end Go.Proofs.Ytmmhbjbaallkfaa.Gx

/- The document's relation of a history (gimmalref15). -/
namespace Go.Proofs.Ytmmhbjbaallkfaa.Gx
open Go
set_option linter.unusedSimpArgs false
set_option linter.unusedVariables false
/-- All rows are n long. -/
def Sqr (n : Nat) (rows : List MxR) : Prop := rows.length = n ∧ ∀ r ∈ rows, r.2.length = n
theorem Sqr.at {n i : Nat} {rows : List MxR} (h : Sqr n rows) (hi : i < n) : ∃ r, rows[i]? = some r ∧ r.2.length = n ∧ r ∈ rows := by
  have hi' : i < rows.length := by rw [h.1]; exact hi
  exact ⟨rows[i], List.getElem?_eq_getElem hi', h.2 _ (List.getElem_mem hi'), List.getElem_mem hi'⟩
end Go.Proofs.Ytmmhbjbaallkfaa.Gx
