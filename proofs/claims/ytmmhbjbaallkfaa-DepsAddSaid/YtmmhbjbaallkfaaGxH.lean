/- Package slices, of any elements: DeleteFunc; of ints: Compact. -/
import Derived.Test.YtmmhbjbaallkfaaWaitA
namespace Go.Proofs.Ytmmhbjbaallkfaa.Gx
open Go
set_option linter.unusedSimpArgs false
set_option linter.unusedVariables false

section
variable {δ : Type} {sv : δ → List Value} {sz : Nat}
theorem flatLen (h : ∀ x, (sv x).length = sz) : ∀ l : List δ, (l.flatMap sv).length = l.length * sz
  | [] => by simp
  | x :: l => by rw [List.flatMap_cons, List.length_append, flatLen h l, h, List.length_cons, Nat.add_mul]; omega
theorem flatTake (h : ∀ x, (sv x).length = sz) : ∀ (l : List δ) (i : Nat), (l.flatMap sv).take (i * sz) = (l.take i).flatMap sv
  | [], i => by simp
  | x :: l, 0 => by simp
  | x :: l, i + 1 => by
    rw [List.flatMap_cons, List.take_succ_cons, List.flatMap_cons, ← flatTake h l i, Nat.add_mul, Nat.one_mul, Nat.add_comm, ← h x, List.take_length_add_append]
theorem flatDrop (h : ∀ x, (sv x).length = sz) : ∀ (l : List δ) (i : Nat), (l.flatMap sv).drop (i * sz) = (l.drop i).flatMap sv
  | [], i => by simp
  | x :: l, 0 => by simp
  | x :: l, i + 1 => by
    rw [List.flatMap_cons, List.drop_succ_cons, ← flatDrop h l i, Nat.add_mul, Nat.one_mul, Nat.add_comm, ← h x, List.drop_length_add_append]
theorem flatSet (h : ∀ x, (sv x).length = sz) {l : List δ} {i : Nat} {x : δ} (hi : i < l.length) : (l.flatMap sv).take (i * sz) ++ sv x ++ (l.flatMap sv).drop (i * sz + sz) = (l.set i x).flatMap sv := by
  rw [List.set_eq_take_append_cons_drop, if_pos hi, List.flatMap_append, List.flatMap_cons, flatTake h, show i * sz + sz = (i + 1) * sz by rw [Nat.add_mul, Nat.one_mul], flatDrop h]
  simp
theorem flatGet (h : ∀ x, (sv x).length = sz) {l : List δ} {i : Nat} {x : δ} (hx : l[i]? = some x) : ((l.flatMap sv).drop (i * sz)).take sz = sv x := by
  obtain ⟨hi, rfl⟩ := List.getElem?_eq_some_iff.1 hx
  rw [flatDrop h, List.drop_eq_getElem_cons hi, List.flatMap_cons, ← h l[i], List.take_append_of_le_length (Nat.le_refl _), List.take_length]
theorem flatOne (h : ∀ x, One (sv x)) (l : List δ) : One (l.flatMap sv) := by
  intro v hv
  obtain ⟨x, _, hx⟩ := List.mem_flatMap.1 hv
  exact h x v hx
theorem owsN {w : World} {t : Sl} {l : List δ} (h : ∀ x, (sv x).length = sz) (hz : 0 < sz) (ho : OwS w t sz (l.flatMap sv)) : t.n = l.length := by
  have := ho.len
  rw [flatLen h] at this
  exact (Nat.eq_of_mul_eq_mul_right hz this).symm
theorem rdN {w : World} {t : Sl} {l : List δ} (h : ∀ x, (sv x).length = sz) (hz : 0 < sz) (ho : Rd w t sz (l.flatMap sv)) : t.n = l.length := by
  have := ho.1
  rw [flatLen h] at this
  exact (Nat.eq_of_mul_eq_mul_right hz this).symm
end
theorem flat_map1 {δ : Type} (f : δ → Value) (l : List δ) : (l.flatMap fun x => [f x]) = l.map f := by
  induction l with
  | nil => rfl
  | cons x l ih => simpa using ih

/-! ### DeleteFunc -/
def DFF (P : Program) {δ : Type} (E : World → Nat → Nat → Nat → δ → Prop) (V : δ → Value) (sv : δ → List Value) (off : Nat → Nat) (sz : Nat) (z : Array Value) (idx : Nat) (t0 : Sl) (t1 : Nat × Array Value) (w : World) (R : Value → World → Prop) : Prop :=
  CX P idx #[Value.slice t0.1 t0.2 t0.3, Value.func (Fn.func t1.1) #[] t1.2] w fun (v1 : Value) (w2 : World) =>
  ∃ (n3 : Int),
  v1 = Value.int IntKind.i64 n3 ∧
  IfB (n3 == (-1 : Int)) (R (Value.slice t0.1 t0.2 t0.3) w2)
  (∃ (y4 : Nat → Int × Int → World → Prop),
  (∃ (b5 : Nat), y4 b5 (n3, IntKind.i64.wrap (n3 + (1 : Int))) w2) ∧
  ∀ (b6 : Nat) (x7 : Int × Int) (w8 : World) (y9 : Nat → Value),
  y4 b6 x7 w8 →
  IfB (decide (x7.snd < (t0.n : Int)))
  (∃ (b11 : Nat),
  ∃ (b12 : Nat),
  t0.1 = some ({ block := b11, off := b12 } : Addr) ∧
  ((0 : Int) ≤ x7.2 ∧ x7.2 < (t0.2 : Int)) ∧
  ∃ (n13 : δ),
  E w8 b11 b12 x7.2.toNat n13 ∧
  CX P t1.1 { toList := V n13 :: t1.snd.1 } w8 fun (v14 : Value) (w15 : World) =>
  ∃ (t16 : Bool),
  v14 = Value.bool t16 ∧
  IfB (!t16)
  (∃ (b17 : Nat),
  ∃ (b18 : Nat),
  t0.1 = some ({ block := b17, off := b18 } : Addr) ∧
  ((0 : Int) ≤ x7.1 ∧ x7.1 < (t0.2 : Int)) ∧
  (sv n13).toArray.size = sz ∧
  StoreP w15 b17 (b18 + off x7.1.toNat) (sv n13) fun (w19 : World) =>
  ([] : List Nat) = [] ∧ ∃ (b20 : Nat), b20 < b6 ∧ y4 b20 (IntKind.i64.wrap (x7.1 + (1 : Int)), IntKind.i64.wrap (x7.2 + (1 : Int))) w19)
  (([] : List Nat) = [] ∧ ∃ (b21 : Nat), b21 < b6 ∧ y4 b21 (x7.1, IntKind.i64.wrap (x7.2 + (1 : Int))) w15))
  (((0 : Int) ≤ x7.1 ∧ x7.1 ≤ (t0.2 : Int)) ∧
  match slAddr t0.1 t0.3 x7.1.toNat sz with
  | none => ((0 : Int) ≤ x7.1 ∧ x7.1 ≤ (t0.3 : Int)) ∧ R (Value.slice (slAddr t0.1 t0.3 (0 : Nat) sz) x7.1.toNat t0.3) w8
  | some ({ block := b23, off := b24, spot := none } : Addr) =>
  StoreP w8 b23 b24 (zc z (t0.2 - x7.1.toNat)) fun (w25 : World) =>
  ((0 : Int) ≤ x7.1 ∧ x7.1 ≤ (t0.3 : Int)) ∧ R (Value.slice (slAddr t0.1 t0.3 (0 : Nat) sz) x7.1.toNat t0.3) w25
  | some y26 => False))

theorem takeFilter {α : Type} {p : α → Bool} {l : List α} {i : Nat} {x : α} (h : l[i]? = some x) : (l.take (i + 1)).filter p = (l.take i).filter p ++ if p x then [x] else [] := by
  rw [take_succ_get h, List.filter_append]
  cases hp : p x <;> simp [hp]

theorem DFF_of {P : Program} {δ : Type} {E : World → Nat → Nat → Nat → δ → Prop} {V : δ → Value} {sv : δ → List Value} {off : Nat → Nat} {sz : Nat} {z : Array Value} {idx : Nat} {t0 : Sl} {t1 : Nat × Array Value} {w : World} {R : Value → World → Prop} {xs : List δ} {q : δ → Bool}
    (ho : OwS w t0 sz (xs.flatMap sv)) (hz0 : 0 < sz) (hl : ∀ x, (sv x).length = sz) (h1 : ∀ x, One (sv x)) (hz : z.size = sz) (hz1 : One z.toList) (hoff : ∀ i, off i = i * sz) (hn : xs.length ≤ 1000000)
    (hE : ∀ (W : World) (b i : Nat) (x : δ), t0.p = some ⟨b, 0, none⟩ → CellsAt W b (0 + i * sz) (sv x) → E W b 0 i x)
    (hidx : ∀ R' : Value → World → Prop, (∀ w', Ext w w' → R' (.int .i64 (idxV (xs.findIdx? q))) w') → CX P idx #[slV t0, .func (.func t1.1) #[] t1.2] w R')
    (hq : ∀ (x : δ) (W : World), x ∈ xs → Ch (fun i => i ∈ blk t0) w W → ∀ R' : Value → World → Prop, (∀ w', Ext W w' → R' (.bool (q x)) w') → CX P t1.1 { toList := V x :: t1.2.toList } W R')
    (hK : ∀ s' w', OwS w' s' sz ((xs.filter fun x => !q x).flatMap sv) → s'.p = t0.p → s'.n ≤ t0.n → Ch (fun i => i ∈ blk t0) w w' → R (slV s') w') : DFF P E V sv off sz z idx t0 t1 w R := by
  have htn := owsN hl hz0 ho
  refine hidx _ fun w2 e2 => ⟨_, rfl, ?_⟩
  cases hf : xs.findIdx? q with
  | none =>
    refine IfB.yes rfl ?_
    have : (xs.filter fun x => !q x) = xs := List.filter_eq_self.2 fun x hx => by rw [List.findIdx?_eq_none_iff.1 hf x hx]; rfl
    refine hK t0 w2 (by rw [this]; exact ho.ext e2) rfl (Nat.le_refl _) (e2.mono fun _ _ h => h.elim)
  | some i0 =>
    obtain ⟨hi0, hqi, hlow⟩ := List.findIdx?_eq_some_iff_getElem.1 hf
    refine IfB.no (by simp [idxV]) ?_
    have hx0 : xs[i0]? = some xs[i0] := List.getElem?_eq_getElem hi0
    have hkeep0 : (xs.take i0).filter (fun x => !q x) = xs.take i0 := List.filter_eq_self.2 fun x hx => by
      obtain ⟨j, hj, rfl⟩ := List.getElem_of_mem hx
      rw [List.length_take] at hj
      rw [List.getElem_take]
      have := hlow j (by omega)
      simpa using this
    have hkeep1 : (xs.take (i0 + 1)).filter (fun x => !q x) = xs.take i0 := by rw [takeFilter hx0, hkeep0, hqi]; simp
    refine ⟨fun n x W => ∃ (j : Nat) (gs : List δ), gs ≠ [] ∧ n + j = xs.length ∧ ((xs.take j).filter fun x => !q x).length + gs.length = j ∧ j ≤ xs.length ∧ x = ((((xs.take j).filter fun x => !q x).length : Int), (j : Int)) ∧ OwS W t0 sz ((((xs.take j).filter fun x => !q x) ++ gs ++ xs.drop j).flatMap sv) ∧ Ch (fun i => i ∈ blk t0) w W,
      ⟨xs.length - (i0 + 1), i0 + 1, [xs[i0]], by simp, by omega, by rw [hkeep1, List.length_take]; simp; omega, by omega, ?_, ?_, e2.mono fun _ _ h => h.elim⟩, ?_⟩
    · rw [hkeep1, List.length_take, Nat.min_eq_left (by omega)]
      show ((i0 : Int), IntKind.i64.wrap ((i0 : Int) + 1)) = _
      rw [wrap_of (by omega) (by omega)]; rfl
    · rw [hkeep1]
      have : xs.take i0 ++ [xs[i0]] ++ xs.drop (i0 + 1) = xs := by
        rw [List.append_assoc, List.singleton_append, ← List.drop_eq_getElem_cons hi0, List.take_append_drop]
      rw [this]
      exact ho.ext e2
    · rintro n _ W g ⟨j, gs, hgs, hnj, hlen, hj, rfl, hO, hC⟩
      generalize hkd : (xs.take j).filter (fun x => !q x) = kd at hlen hO
      have hg0 : 0 < gs.length := List.length_pos_iff.2 hgs
      have hcap := ho.cap
      obtain ⟨b, hp⟩ := ho.ptr (by omega)
      refine IfB.dec (fun hlt => ?_) fun hge => ?_
      · have hj' : j < xs.length := by omega
        have hx : xs[j]? = some xs[j] := List.getElem?_eq_getElem hj'
        have hxm := List.mem_of_getElem? hx
        have htf := takeFilter (p := fun x => !q x) hx
        rw [hkd] at htf
        have hdrop : xs.drop j = xs[j] :: xs.drop (j + 1) := List.drop_eq_getElem_cons hj'
        generalize xs[j] = x at hx hxm htf hdrop
        have hLx : (kd ++ gs ++ xs.drop j)[j]? = some x := by
          rw [List.getElem?_append_right (by rw [List.length_append]; omega), List.length_append, show j - (kd.length + gs.length) = 0 by omega, hdrop]; rfl
        obtain ⟨b', hp', hc⟩ := hO.elem (i := j) (by omega) (flatGet hl hLx)
        rw [hp] at hp'; cases hp'
        refine ⟨b, 0, hp, ⟨by dsimp only; omega, hlt⟩, x, ?_, hq x W hxm hC _ fun w15 e15 => ⟨q x, rfl, ?_⟩⟩
        · dsimp only
          rw [Int.toNat_natCast]
          exact hE W b j x hp (by rw [Nat.zero_add]; exact hc)
        · have hO15 := hO.ext e15
          have hC15 := hC.then e15 fun _ _ h => h.elim
          refine IfB.intro (fun hk => ?_) fun hk => ?_
          · have hqx : q x = false := by simpa using hk
            rw [hqx] at htf
            simp only [Bool.not_false, if_true] at htf
            refine ⟨b, 0, hp, ⟨by dsimp only; omega, by show (kd.length : Int) < (t0.n : Int); omega⟩, by simp [hl], ?_⟩
            dsimp only
            rw [Int.toNat_natCast, hoff, Nat.zero_add]
            have hLl : (kd ++ gs ++ xs.drop j).length = xs.length := by rw [List.length_append, List.length_append, List.length_drop]; omega
            have hle : kd.length * sz + sz ≤ t0.n * sz := by
              rw [show kd.length * sz + sz = (kd.length + 1) * sz by rw [Nat.add_mul, Nat.one_mul]]
              exact Nat.mul_le_mul_right _ (by omega)
            refine hO15.store hp (by rw [hl]; exact hle) (h1 x) fun w19 hO19 hC19 => ⟨rfl, n - 1, by omega, j + 1, gs.tail ++ [x], by simp, by omega, ?_, by omega, ?_, ?_, hC15.then hC19 fun i _ e => by simp [blk, hp, e]⟩
            · rw [htf]; simp; omega
            · rw [htf, wrap_of (by omega) (by omega), wrap_of (by omega) (by omega)]; simp
            · rw [hl, flatSet hl (by omega)] at hO19
              rw [htf]
              have : (kd ++ gs ++ xs.drop j).set kd.length x = kd ++ [x] ++ (gs.tail ++ [x]) ++ xs.drop (j + 1) := by
                rw [hdrop]
                cases gs with
                | nil => exact absurd rfl hgs
                | cons g0 gs => simp
              rw [← this]; exact hO19
          · have hqx : q x = true := by simpa using hk
            rw [hqx] at htf
            simp only [Bool.not_true, Bool.false_eq_true, if_false, List.append_nil] at htf
            refine ⟨rfl, n - 1, by omega, j + 1, gs ++ [x], by simp, by omega, by rw [htf]; simp; omega, by omega, ?_, ?_, hC15⟩
            · rw [htf]; dsimp only; rw [wrap_of (by omega) (by omega)]; rfl
            · rw [htf]
              rw [hdrop] at hO15
              simpa using hO15
      · have hjn : j = xs.length := by dsimp only at hge; omega
        subst hjn
        rw [List.take_length] at hkd
        rw [List.drop_length, List.append_nil] at hO
        have hkl : kd.length < t0.n := by omega
        refine ⟨⟨by dsimp only; omega, by show (kd.length : Int) ≤ (t0.n : Int); omega⟩, ?_⟩
        dsimp only
        rw [Int.toNat_natCast, hp, slAddr_some]
        have hcut := hO.cut (k := kd.length) (by omega)
        rw [flatTake hl, List.take_append_of_le_length (Nat.le_refl _), List.take_length] at hcut
        dsimp only
        rw [if_neg (by omega), Nat.zero_add]
        have e1 : kd.length * sz + (t0.n - kd.length) * sz ≤ t0.c * sz := by
          rw [← Nat.add_mul]; exact Nat.mul_le_mul_right _ (by omega)
        refine hcut.storeTail hp (Nat.le_refl _) (by rw [zc_len, hz]; exact e1) (zc_one hz1 _) fun w25 hO25 hC25 => ⟨⟨by omega, by omega⟩, ?_⟩
        have := hK ⟨t0.p, kd.length, t0.c⟩ w25 (by rw [hkd]; exact hO25) rfl (by dsimp only; omega) (hC.then hC25 fun i _ e => by simp [blk, hp, e])
        rw [← hp, slAddr_zero]
        exact this
end Go.Proofs.Ytmmhbjbaallkfaa.Gx
