/- Package keys: which spans may be, and slices of spans: Concat, DeleteFunc. -/
import Derived.Test.YtmmhbjbaallkfaaGxNK
import Derived.Test.YtmmhbjbaallkfaaSrS
import Derived.Test.YtmmhbjbaallkfaaGxU
namespace Go.Proofs.Ytmmhbjbaallkfaa.Gx
open Go
set_option linter.unusedSimpArgs false
set_option linter.unusedVariables false

abbrev Spn := Int × Int
abbrev sv (x : Spn) : List Value := [.int .i64 x.1, .int .i64 x.2]
theorem sv_len (x : Spn) : (sv x).length = 2 := rfl
theorem sv_one (x : Spn) : One (sv x) := by intro v hv; simp at hv; rcases hv with rfl | rfl <;> rfl
abbrev spV (x : Spn) : Value := .agg #[.int .i64 x.1, .int .i64 x.2]

/-- A box for a struct. -/
theorem boxCells {w : World} {vs : List Value} {n : Nat} {z : Array Value} {T : TypeId} (hn : vs.length = n) (h1 : One vs) (hz : z.size = n) {K : Nat → World → Prop} (hK : ∀ b w', w.heap.size = b → w'.heap.size = b + 1 → w'.heap[b]? = some (.cells vs.toArray T (0, 0)) → Ext w w' → (∀ n, n ≤ w.heap.size → Stb n w w') → K b w') :
    AllocP w (.cells z T) fun b w2 => vs.toArray.size = n ∧ StoreP w2 b 0 vs (K b) := by
  intro b w2 h2
  refine ⟨by simpa using hn, store_all (vs := vs) h2.new (by rw [hz, hn]) h1 fun w3 h3 => hK b w3 h2.here.symm ?_ h3.new (Ext.fresh h2 h3) fun n hn => Stb.fresh h2 h3 hn⟩
  have := h2.here; have := h2.size; have := h3.size; omega

/-- A span in a box of its own. -/
theorem boxSp {w : World} {x : Spn} {z : Array Value} {T : TypeId} (hz : z.size = 2) {K : Nat → World → Prop} (hK : ∀ b w', w.heap.size = b → w'.heap.size = b + 1 → w'.heap[b]? = some (.cells #[.int .i64 x.1, .int .i64 x.2] T (0, 0)) → Ext w w' → (∀ n, n ≤ w.heap.size → Stb n w w') → K b w') :
    AllocP w (.cells z T) fun b w2 => #[Value.int .i64 x.1, Value.int .i64 x.2].size = 2 ∧ StoreP w2 b 0 [.int .i64 x.1, .int .i64 x.2] (K b) :=
  boxCells (vs := sv x) rfl (sv_one x) hz hK

def mayS (x : Spn) : Prop := 0 ≤ x.1 ∧ x.1 ≤ x.2 ∧ x.2 ≤ 999
instance (x : Spn) : Decidable (mayS x) := inferInstanceAs (Decidable (_ ∧ _))
def hasS (l : List Spn) (k : Int) : Prop := ∃ x ∈ l, mayS x ∧ x.1 ≤ k ∧ k ≤ x.2
instance (l : List Spn) (k : Int) : Decidable (hasS l k) := inferInstanceAs (Decidable (∃ x ∈ l, _))

theorem c46 (x y : Int) (w : World) : CW Try.prog 46 #[.int .i64 x, .int .i64 y] w fun v w' => ∃ n : Int, v = iv n ∧ (n < 0 ↔ x < y) ∧ w = w' := by
  refine F46_ok _ _ _ _ ((c63 x w).use ?_)
  rintro _ _ ⟨rfl, rfl⟩
  refine ⟨false, rfl, (c63 y w).use ?_⟩
  rintro _ _ ⟨rfl, rfl⟩
  refine ⟨false, rfl, IfB.no rfl (IfB.no rfl (IfB.dec (fun h => ⟨_, rfl, by simp; omega, rfl⟩) fun h => IfB.dec (fun h' => ⟨_, rfl, by simp; omega, rfl⟩) fun h' => ⟨_, rfl, by simp; omega, rfl⟩))⟩

theorem c100 (x : Spn) (w : World) : CW Try.prog 100 #[spV x] w fun v w' => v = .bool (decide (mayS x)) ∧ Ext w w' := by
  refine F100_ok x w _ fun b w2 h2 => ?_
  have p0 : w2.cell? ⟨b, 0 + 0, none⟩ = some (.int .i64 x.1) := by rw [cell_of h2.new]; rfl
  have p1 : w2.cell? ⟨b, 0 + 1, none⟩ = some (.int .i64 x.2) := by rw [cell_of h2.new]; rfl
  have e : Ext w w2 := h2.ch _
  refine ⟨_, p0, IfB.dec (fun h0 => ⟨_, p0, _, p1, IfB.dec (fun h1 => ⟨_, p1, ?_, e⟩) fun h1 => ⟨?_, e⟩⟩) fun h0 => ⟨?_, e⟩⟩
  · have : (x.2 ≤ 999) ↔ mayS x := by unfold mayS; omega
    rw [decide_eq_decide.2 this]
  · have : ¬ mayS x := by unfold mayS; omega
    simp [this]
  · have : ¬ mayS x := by unfold mayS; omega
    simp [this]

theorem c99 (x : Spn) (w : World) : CW Try.prog 99 #[spV x] w fun v w' => v = .bool (!decide (mayS x)) ∧ Ext w w' := by
  refine F99_ok x w _ fun b w2 h2 => ⟨x, cellsAt_of h2.new fun i v hv => by simpa using hv, (c100 x w2).use ?_⟩
  rintro _ w3 ⟨rfl, e3⟩
  exact ⟨_, rfl, rfl, (h2.ch _).trans e3⟩

theorem c102 : SfS.CmpP (102, #[]) := by
  intro x y w
  refine F102_ok x y w _ fun b1 w2 h2 b3 w4 h4 => ?_
  refine ⟨x.1, by rw [cell_of (h4.at h2.new)]; rfl, y.1, by rw [cell_of h4.new]; rfl, (c46 _ _ w4).use ?_⟩
  rintro _ _ ⟨n, rfl, hn, rfl⟩
  exact ⟨n, rfl, n, rfl, hn, (h2.ch _).trans (h4.ch _)⟩

/-! ### Slices of spans -/
theorem c111 {w : World} {t : Sl} {xs : List Spn} {t1 : Nat × Array Value} {q : Spn → Bool} (h : Rd w t 2 (xs.flatMap sv)) (hl : xs.length ≤ 1000000)
    (hq : ∀ (x : Spn) (W : World), x ∈ xs → Ext w W → ∀ R' : Value → World → Prop, (∀ w', Ext W w' → R' (.bool (q x)) w') → CX Try.prog t1.1 { toList := spV x :: t1.2.toList } W R') :
    CW Try.prog 111 #[slV t, .func (.func t1.1) #[] t1.2] w fun v w' => v = iv (idxV (xs.findIdx? q)) ∧ Ext w w' := by
  refine F111_ok t t1 w _ ?_
  have hn := rdN sv_len (by omega) h
  have e : F111 t t1 w (fun v w' => v = iv (idxV (xs.findIdx? q)) ∧ Ext w w') = IndexF Try.prog (fun W b o i (x : Spn) => CellsAt W b (o + i * 2) [.int .i64 x.1, .int .i64 x.2]) spV t t1 w (fun v w' => v = iv (idxV (xs.findIdx? q)) ∧ Ext w w') := rfl
  rw [e]
  refine IndexF_of xs id q hn (by omega) (fun i x W hx e => ?_) (fun i x W hx e R' hR => hq x W (List.mem_of_getElem? hx) e R' hR) fun w' e => ⟨rfl, e⟩
  obtain ⟨hi, _⟩ := List.getElem?_eq_some_iff.1 hx
  obtain ⟨b, o, hp, hc⟩ := (h.ext e).elem (i := i) (by omega) (by omega) (flatGet sv_len hx)
  exact ⟨b, o, hp, hc⟩

/-- DeleteFunc where each element is put into a box first. -/
theorem c97 {w : World} {t0 : Sl} {xs : List Spn} {t1 : Nat × Array Value} {q : Spn → Bool} (ho : OwS w t0 2 (xs.flatMap sv)) (hn : xs.length ≤ 1000000)
    (hq : ∀ (x : Spn) (W : World), x ∈ xs → Ch (fun i => i ∈ blk t0) w W → ∀ R' : Value → World → Prop, (∀ w', Ext W w' → R' (.bool (q x)) w') → CX Try.prog t1.1 { toList := spV x :: t1.2.toList } W R') :
    CW Try.prog 97 #[slV t0, .func (.func t1.1) #[] t1.2] w fun v w' => ∃ t', v = slV t' ∧ OwS w' t' 2 ((xs.filter fun x => !q x).flatMap sv) ∧ t'.p = t0.p ∧ Ch (fun i => i ∈ blk t0) w w' := by
  have htn := owsN sv_len (by omega) ho
  have hl := sv_len
  refine F97_ok t0 t1 w _ ((c111 ho.rd hn fun x W hx e => hq x W hx (e.mono fun _ _ h => h.elim)).use ?_)
  rintro _ w2 ⟨rfl, e2⟩
  refine ⟨_, rfl, ?_⟩
  cases hf : xs.findIdx? q with
  | none =>
    refine IfB.yes rfl ?_
    have : (xs.filter fun x => !q x) = xs := List.filter_eq_self.2 fun x hx => by rw [List.findIdx?_eq_none_iff.1 hf x hx]; rfl
    exact ⟨t0, rfl, by rw [this]; exact ho.ext e2, rfl, e2.mono fun _ _ h => h.elim⟩
  | some i0 =>
    obtain ⟨hi0, hqi, hlow⟩ := List.findIdx?_eq_some_iff_getElem.1 hf
    refine IfB.no (by simp [idxV]) ?_
    have hx0 : xs[i0]? = some xs[i0] := List.getElem?_eq_getElem hi0
    have hkeep0 : (xs.take i0).filter (fun x => !q x) = xs.take i0 := List.filter_eq_self.2 fun x hx => by
      obtain ⟨j, hj, rfl⟩ := List.getElem_of_mem hx
      rw [List.length_take] at hj
      rw [List.getElem_take]
      have := hlow j (by omega)
      simpa using this
    have hkeep1 : (xs.take (i0 + 1)).filter (fun x => !q x) = xs.take i0 := by rw [takeFilter hx0, hkeep0, hqi]; simp
    refine ⟨fun n x W => ∃ (j : Nat) (gs : List Spn), gs ≠ [] ∧ n + j = xs.length ∧ ((xs.take j).filter fun x => !q x).length + gs.length = j ∧ j ≤ xs.length ∧ x = ((((xs.take j).filter fun x => !q x).length : Int), (j : Int)) ∧ OwS W t0 2 ((((xs.take j).filter fun x => !q x) ++ gs ++ xs.drop j).flatMap sv) ∧ Ch (fun i => i ∈ blk t0) w W,
      ⟨xs.length - (i0 + 1), i0 + 1, [xs[i0]], by simp, by omega, by rw [hkeep1, List.length_take]; simp; omega, by omega, ?_, ?_, e2.mono fun _ _ h => h.elim⟩, ?_⟩
    · rw [hkeep1, List.length_take, Nat.min_eq_left (by omega)]
      show ((i0 : Int), IntKind.i64.wrap ((i0 : Int) + 1)) = _
      rw [wrap_of (by omega) (by omega)]; rfl
    · rw [hkeep1]
      have : xs.take i0 ++ [xs[i0]] ++ xs.drop (i0 + 1) = xs := by
        rw [List.append_assoc, List.singleton_append, ← List.drop_eq_getElem_cons hi0, List.take_append_drop]
      rw [this]
      exact ho.ext e2
    · rintro n _ W g ⟨j, gs, hgs, hnj, hlen, hj, rfl, hO, hC⟩
      generalize hkd : (xs.take j).filter (fun x => !q x) = kd at hlen hO
      have hg0 : 0 < gs.length := List.length_pos_iff.2 hgs
      have hcap := ho.cap
      obtain ⟨b, hp⟩ := ho.ptr (by omega)
      have hbl : b < w.heap.size := ho.lt b (by simp [blk, hp])
      unfold F97j1
      refine IfB.dec (fun hlt => ?_) fun hge => ?_
      · have hj' : j < xs.length := by dsimp only at hlt; omega
        have hx : xs[j]? = some xs[j] := List.getElem?_eq_getElem hj'
        have hxm := List.mem_of_getElem? hx
        have htf := takeFilter (p := fun x => !q x) hx
        rw [hkd] at htf
        have hdrop : xs.drop j = xs[j] :: xs.drop (j + 1) := List.drop_eq_getElem_cons hj'
        generalize xs[j] = x at hx hxm htf hdrop
        have hLx : (kd ++ gs ++ xs.drop j)[j]? = some x := by
          rw [List.getElem?_append_right (by rw [List.length_append]; omega), List.length_append, show j - (kd.length + gs.length) = 0 by omega, hdrop]; rfl
        obtain ⟨b', hp', hc⟩ := hO.elem (i := j) (by omega) (flatGet hl hLx)
        rw [hp] at hp'; cases hp'
        refine ⟨b, 0, hp, ⟨by dsimp only; omega, hlt⟩, x, ?_, boxSp rfl fun b14 w16 hb14 hs16 h16 e16 _ => ⟨x, cellsAt_of h16 fun i v hv => by simpa using hv, hq x w16 hxm (hC.then e16 fun _ _ h => h.elim) _ fun w19 e19 => ⟨q x, rfl, ?_⟩⟩⟩
        · dsimp only
          rw [Int.toNat_natCast, Nat.zero_add]
          exact hc
        · have e15 : Ext W w19 := e16.trans e19
          have h19 := e19.at h16
          have hO15 := hO.ext e15
          have hC15 := hC.then e15 fun _ _ h => h.elim
          refine IfB.intro (fun hk => ?_) fun hk => ?_
          · have hqx : q x = false := by simpa using hk
            rw [hqx] at htf
            simp only [Bool.not_false, if_true] at htf
            refine ⟨x, cellsAt_of h19 fun i v hv => by simpa using hv, b, 0, hp, ⟨by dsimp only; omega, by show (kd.length : Int) < (t0.n : Int); omega⟩, rfl, ?_⟩
            dsimp only
            rw [Int.toNat_natCast, Nat.zero_add]
            have hLl : (kd ++ gs ++ xs.drop j).length = xs.length := by rw [List.length_append, List.length_append, List.length_drop]; omega
            refine hO15.store (vs := sv x) hp (by rw [hl]; omega) (sv_one x) fun w19 hO19 hC19 => ⟨rfl, n - 1, by omega, j + 1, gs.tail ++ [x], by simp, by omega, ?_, by omega, ?_, ?_, hC15.then hC19 fun i _ e => by simp [blk, hp, e]⟩
            · rw [htf]; simp; omega
            · rw [htf, wrap_of (by omega) (by omega), wrap_of (by omega) (by omega)]; simp
            · rw [hl, flatSet hl (by omega)] at hO19
              rw [htf]
              have : (kd ++ gs ++ xs.drop j).set kd.length x = kd ++ [x] ++ (gs.tail ++ [x]) ++ xs.drop (j + 1) := by
                rw [hdrop]
                cases gs with
                | nil => exact absurd rfl hgs
                | cons g0 gs => simp
              rw [← this]; exact hO19
          · have hqx : q x = true := by simpa using hk
            rw [hqx] at htf
            simp only [Bool.not_true, Bool.false_eq_true, if_false, List.append_nil] at htf
            refine ⟨rfl, n - 1, by omega, j + 1, gs ++ [x], by simp, by omega, by rw [htf]; simp; omega, by omega, ?_, ?_, hC15⟩
            · rw [htf]; dsimp only; rw [wrap_of (by omega) (by omega)]; rfl
            · rw [htf]
              rw [hdrop] at hO15
              simpa using hO15
      · have hjn : j = xs.length := by dsimp only at hge; omega
        subst hjn
        rw [List.take_length] at hkd
        rw [List.drop_length, List.append_nil] at hO
        have hkl : kd.length < t0.n := by omega
        refine ⟨⟨by dsimp only; omega, by show (kd.length : Int) ≤ (t0.n : Int); omega⟩, ?_⟩
        dsimp only
        rw [Int.toNat_natCast, hp, slAddr_some]
        have hcut := hO.cut (k := kd.length) (by omega)
        rw [flatTake hl, List.take_append_of_le_length (Nat.le_refl _), List.take_length] at hcut
        dsimp only
        rw [if_neg (by omega), Nat.zero_add]
        refine hcut.storeTail hp (Nat.le_refl _) (by rw [zc_len]; show kd.length * 2 + (t0.n - kd.length) * 2 ≤ t0.c * 2; omega) (zc_one (by intro y hy; simp at hy; rcases hy with rfl | rfl <;> rfl) _) fun w25 hO25 hC25 => ⟨⟨by omega, by omega⟩, ⟨t0.p, kd.length, t0.c⟩, ?_, by rw [hkd]; exact hO25, hp, hC.then hC25 fun i _ e => by simp [blk, hp, e]⟩
        rw [← hp, slAddr_zero]

theorem F112_eq (t0 : Sl) (t1 : Int) (w : World) (R : Value → World → Prop) : F112 t0 t1 w R = GrowF tt51 51 2 t0 t1 w R := by kernel_rfl

theorem c112 {k : Nat} (hk : k ≤ 1000000) (w : World) : CW Try.prog 112 #[.slice none 0 0, .int .i64 k] w fun v w' => ∃ t', v = slV t' ∧ OwS w' t' 2 [] ∧ t'.n = 0 ∧ Ext w w' ∧ ∀ j ∈ blk t', w.heap.size ≤ j := by
  refine F112_ok ⟨none, 0, 0⟩ k w _ ?_
  rw [F112_eq]
  refine GrowF_nil rfl rfl (by intro y hy; simp [Value.cells] at hy; rcases hy with rfl | rfl <;> rfl) ⟨by omega, by dsimp only; omega⟩ (by decide) (by omega) ?_
  intro s' w' ho hn he hb
  exact ⟨s', rfl, ho, hn, he, hb⟩

/-- A list of spans with its slice. -/
abbrev SpL := Sl × List Spn
abbrev hS (x : SpL) : Value := slV x.1
def sumS (xs : List SpL) : Nat := (xs.flatMap (·.2)).length
theorem sumS_take {xs : List SpL} {i : Nat} {x : SpL} (h : xs[i]? = some x) : sumS (xs.take (i + 1)) = sumS (xs.take i) + x.2.length := by
  unfold sumS; rw [take_succ_get h]; simp
theorem sumS_le (xs : List SpL) (i : Nat) : sumS (xs.take i) ≤ sumS xs := by
  unfold sumS
  conv => rhs; rw [← List.take_append_drop i xs]
  rw [List.flatMap_append, List.length_append]; omega

theorem c98 {w : World} {t : Sl} {xs : List SpL} (h : Rd w t 1 (xs.map hS)) (hx : ∀ x ∈ xs, Rd w x.1 2 (x.2.flatMap sv)) (hl : sumS xs ≤ 1000000) (hn : xs.length ≤ 1000) :
    CW Try.prog 98 #[slV t] w fun v w' => ∃ t', v = slV t' ∧ OwS w' t' 2 ((xs.flatMap (·.2)).flatMap sv) ∧ Ext w w' ∧ ∀ j ∈ blk t', w.heap.size ≤ j := by
  have htn : t.n = xs.length := by rw [h.len1, List.length_map]
  have elem : ∀ (i : Nat) (w5 : World), Ext w w5 → i < xs.length → ∃ x a o, xs[i]? = some x ∧ t.p = some ⟨a, o, none⟩ ∧ w5.cell? ⟨a, o + i, none⟩ = some (slV x.1) ∧ Rd w5 x.1 2 (x.2.flatMap sv) ∧ x.1.n = x.2.length := by
    intro i w5 e hi
    have hxi : xs[i]? = some xs[i] := List.getElem?_eq_getElem hi
    obtain ⟨a, o, ha, hc⟩ := (h.ext e).elem1 (i := i) (v := hS xs[i]) (by rw [List.getElem?_map, hxi]; rfl)
    have ho := (hx xs[i] (List.getElem_mem hi)).ext e
    exact ⟨xs[i], a, o, hxi, ha, hc, ho, rdN sv_len (by omega) ho⟩
  refine F98_ok t w _ ?_
  refine ⟨fun n x w5 => ∃ i : Nat, i ≤ xs.length ∧ n + i = xs.length ∧ x = ((sumS (xs.take i) : Int), (i : Int)) ∧ w5 = w, ⟨xs.length, 0, Nat.zero_le _, rfl, rfl, rfl⟩, ?_⟩
  rintro n x w5 g ⟨i, hi, hni, rfl, rfl⟩
  unfold F98j1
  refine IfB.dec (fun hlt => ?_) (fun hge => ?_)
  · have hi' : i < xs.length := by
      have : (i : Int) < (t.n : Int) := hlt
      omega
    obtain ⟨y, a, o, hy, ha, hc, ho, hyn⟩ := elem i w5 (Ch.refl _ _) hi'
    have h1 := sumS_take hy
    have h2 := sumS_le xs (i + 1)
    have e1 : IntKind.i64.wrap ((sumS (xs.take i) : Int) + (y.1.n : Int)) = (sumS (xs.take (i + 1)) : Int) := by rw [wrap_of (by omega) (by omega)]; omega
    refine ⟨a, o, ha, (⟨by omega, by omega⟩ : (0 : Int) ≤ (i : Int) ∧ (i : Int) < (t.n : Int)), y.1, by rw [Int.toNat_natCast]; exact hc, ?_⟩
    dsimp only
    rw [e1]
    refine IfB.no (by simp) ⟨rfl, n - 1, by omega, i + 1, hi', by omega, ?_, rfl⟩
    rw [wrap_of (by omega) (by omega)]; rfl
  · have hi' : i = xs.length := by
      have : ¬ (i : Int) < (t.n : Int) := hge
      omega
    subst hi'
    have hT : sumS (xs.take xs.length) = sumS xs := by rw [List.take_length]
    dsimp only
    rw [hT]
    refine (c112 hl w5).use ?_
    rintro _ w13 ⟨t1, rfl, ho1, hn1, e13, hb1⟩
    refine ⟨t1, rfl, fun n x w19 => ∃ i t2, i ≤ xs.length ∧ n + i = xs.length ∧ x = (t2, (i : Int)) ∧ OwS w19 t2 2 (((xs.take i).flatMap (·.2)).flatMap sv) ∧ Ext w5 w19 ∧ ∀ j ∈ blk t2, w5.heap.size ≤ j, ⟨xs.length, 0, t1, Nat.zero_le _, rfl, rfl, ho1, e13, hb1⟩, ?_⟩
    rintro n x w19 g ⟨i, t2, hi, hni, rfl, ho2, e19, hb2⟩
    unfold F98j2
    refine IfB.dec (fun hlt => ?_) (fun hge => ?_)
    · have hi' : i < xs.length := by
        have : (i : Int) < (t.n : Int) := hlt
        omega
      obtain ⟨y, a, o, hy, ha, hc, ho, hyn⟩ := elem i w19 e19 hi'
      have h1 := sumS_take hy
      have h2 := sumS_le xs (i + 1)
      have ht2 : t2.n = sumS (xs.take i) := owsN sv_len (by omega) ho2
      refine ⟨a, o, ha, (⟨by omega, by omega⟩ : (0 : Int) ≤ (i : Int) ∧ (i : Int) < (t.n : Int)), y.1, by rw [Int.toNat_natCast]; exact hc, y.2.flatMap sv, ho.2, ?_⟩
      refine ho2.append (cnt := y.1.n) rfl rfl ho.1 (flatOne sv_one _) ⟨by omega, by dsimp only; omega⟩ ?_
      intro s' w' ho' hn' hc' hb' _
      refine ⟨rfl, n - 1, by omega, i + 1, s', hi', by omega, ?_, ?_, ?_, ?_⟩
      · rw [wrap_of (by dsimp only; omega) (by dsimp only; omega)]; rfl
      · rw [take_succ_get hy, List.flatMap_append, List.flatMap_append]
        simpa using ho'
      · exact e19.then hc' fun j hj hjb => by have := hb2 j hjb; omega
      · intro j hj
        rcases hb' j hj with h | h
        · exact hb2 j h
        · have := e19.size; omega
    · have hi' : i = xs.length := by
        have : ¬ (i : Int) < (t.n : Int) := hge
        omega
      subst hi'
      rw [List.take_length] at ho2
      exact ⟨t2, rfl, ho2, e19, hb2⟩
end Go.Proofs.Ytmmhbjbaallkfaa.Gx
