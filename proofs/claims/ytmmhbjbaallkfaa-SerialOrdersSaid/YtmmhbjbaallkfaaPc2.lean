/- Merged by pack.py: GxC, GxT, GxNK, GxNS. -/
import Derived.Test.YtmmhbjbaallkfaaPc1
import Derived.Below
import Derived.Laws.StructEq
import Derived.ChangeKeysEq
import Derived.Lib.Overlaps
import Derived.ChangeSame
import Derived.ProofKit
import Derived.ChangeArms
import Derived.OpenShut
import Derived.Carry
import Derived.Test.YtmmhbjbaallkfaaProg
import Derived.KernelRfl

/- Merged: GxL, GxE, GxS, GxV, GxW, GxO, GxU, GxM, GxK, GxP, GxR, GxQ. -/
namespace Go.Proofs.Ytmmhbjbaallkfaa.Gx
open Go
/-- Outside of F what was there is there still. -/
structure Ch (F : Nat → Prop) (w w' : World) : Prop where
  rest : Rest w w'
  size : w.heap.size ≤ w'.heap.size
  old : ∀ i, i < w.heap.size → ¬ F i → w'.heap[i]? = w.heap[i]?
theorem Ch.refl (F : Nat → Prop) (w : World) : Ch F w w := ⟨Rest.refl _, Nat.le_refl _, fun _ _ _ => rfl⟩
theorem Ch.trans {F : Nat → Prop} {a b c : World} (h : Ch F a b) (k : Ch F b c) : Ch F a c :=
  ⟨h.rest.trans k.rest, Nat.le_trans h.size k.size, fun i hi hF => (k.old i (Nat.lt_of_lt_of_le hi h.size) hF).trans (h.old i hi hF)⟩
theorem Ch.mono {F G : Nat → Prop} {a b : World} (h : Ch F a b) (hF : ∀ i, i < a.heap.size → F i → G i) : Ch G a b :=
  ⟨h.rest, h.size, fun i hi hG => h.old i hi fun hf => hG (hF i hi hf)⟩
/-- A step that changes what is new, or what F has. -/
theorem Ch.then {F G : Nat → Prop} {a b c : World} (h : Ch F a b) (k : Ch G b c) (hG : ∀ i, i < a.heap.size → G i → F i) : Ch F a c :=
  ⟨h.rest.trans k.rest, Nat.le_trans h.size k.size, fun i hi hF => (k.old i (Nat.lt_of_lt_of_le hi h.size) fun hg => hF (hG i hi hg)).trans (h.old i hi hF)⟩
theorem IsAlloc.ch {w w' : World} {o : Obj} {b : Nat} (h : IsAlloc w o b w') (F : Nat → Prop) : Ch F w w' :=
  ⟨h.rest, by rw [h.size]; omega, fun i hi _ => h.old i hi⟩
theorem IsUpd.ch {w w' : World} {o : Obj} {b : Nat} (h : IsUpd w b o w') : Ch (fun i => i = b) w w' :=
  ⟨h.rest, by rw [h.size]; exact Nat.le_refl _, fun i _ hb => h.old i hb⟩
theorem Ch.ofStb {w w' : World} {n : Nat} (h : Stb n w w') : Ch (fun i => n ≤ i) w w' :=
  ⟨h.rest, h.size, fun i _ hn => h.low i (Nat.lt_of_not_le hn)⟩
/-- Nothing old was touched. -/
abbrev Ext (w w' : World) : Prop := Ch (fun _ => False) w w'
theorem Ext.at {w w' : World} (h : Ext w w') {i : Nat} {o : Obj} (ho : w.heap[i]? = some o) : w'.heap[i]? = some o := by
  have hi : i < w.heap.size := (Array.getElem?_eq_some_iff.1 ho).1
  rw [h.old i hi id]; exact ho
theorem Ext.below {w w' : World} (h : Ext w w') : RowKit.Below w.heap.size w w' :=
  ⟨h.rest.os, h.rest.tape, h.rest.output, h.size, fun k hk => h.old k hk id⟩
theorem Ch.at {F : Nat → Prop} {w w' : World} (h : Ch F w w') {i : Nat} {o : Obj} (ho : w.heap[i]? = some o) (hF : ¬ F i) : w'.heap[i]? = some o := by
  have hi : i < w.heap.size := (Array.getElem?_eq_some_iff.1 ho).1
  rw [h.old i hi hF]; exact ho
theorem heap_lt {w : World} {i : Nat} {o : Obj} (ho : w.heap[i]? = some o) : i < w.heap.size := (Array.getElem?_eq_some_iff.1 ho).1
theorem IsAlloc.at {w w' : World} {o o' : Obj} {b i : Nat} (h : IsAlloc w o b w') (ho : w.heap[i]? = some o') : w'.heap[i]? = some o' := by
  rw [h.old i (heap_lt ho)]; exact ho
theorem IsUpd.at {w w' : World} {o o' : Obj} {b i : Nat} (h : IsUpd w b o w') (ho : w.heap[i]? = some o') (hi : i ≠ b) : w'.heap[i]? = some o' := by
  rw [h.old i hi]; exact ho
theorem cell_of {w : World} {b : Nat} {cs : Array Value} {T : TypeId} {q : Nat × Nat} (h : w.heap[b]? = some (.cells cs T q)) (o : Nat) : w.cell? ⟨b, o, none⟩ = cs[o]? := by
  simp [World.cell?, h]
theorem cellsAt_of {w : World} {b o : Nat} {cs : Array Value} {T : TypeId} {q : Nat × Nat} (h : w.heap[b]? = some (.cells cs T q)) {l : List Value} (hl : ∀ i v, l[i]? = some v → cs[o + i]? = some v) : CellsAt w b o l := by
  intro i v hv
  rw [cell_of h]; exact hl i v hv
theorem marks_one {w : World} {D : Nat} {K : World → Prop} (hD : w.heap[D]? = some (.deferred (some []))) (h : ∀ w', IsUpd w D (.deferred none) w' → K w') : marksP w [D] K := ⟨hD, h⟩
/-- A store of one cell. -/
theorem store_one {w : World} {b o : Nat} {v : Value} {old : Array Value} {T : TypeId} {K : World → Prop} (hb : w.heap[b]? = some (.cells old T (0, 0))) (ho : o < old.size) (h1 : v.oneCell' = true)
    (hK : ∀ w', IsUpd w b (.cells (old.setIfInBounds o v) T (0, 0)) w' → K w') : StoreP w b o [v] K :=
  ⟨old, T, hb, by simp; omega, by intro x hx; simp at hx; subst hx; exact h1, hK⟩
theorem zc_len (z : Array Value) (n : Nat) : (zc z n).length = n * z.size := by
  unfold zc
  rw [Array.length_toList]
  simp [Builtin.zeroCells]
end Go.Proofs.Ytmmhbjbaallkfaa.Gx
namespace Go.Proofs.Ytmmhbjbaallkfaa.Gx
open Go
set_option linter.unusedSimpArgs false
def partV (tj : TI) (cs : Array Value) (off : Nat) : Option Value :=
  match tj.kd.isAgg with
  | true => some (.agg (takeL tj.size (dropL off cs.toList)).toArray)
  | false => nth cs.toList off
def eqK : IntKind → IntKind → Bool
  | .i64, .i64 => true | .u64, .u64 => true | .u8, .u8 => true | .i32, .i32 => true | .u32, .u32 => true | .i8, .i8 => true | .i16, .i16 => true | .u16, .u16 => true
  | _, _ => false
theorem eqK_eq {j k : IntKind} (h : eqK j k = true) : j = k := by cases j <;> cases k <;> first | rfl | cases h
def eqF (tb : Tab) (E : TypeId → Value → Value → Option Bool) (xs ys : Array Value) : List Field → Option Bool
  | [] => some true
  | f :: fs => match decide (f.name = "_") with
    | true => none
    | false => match tb f.type with
      | none => none
      | some tj => match partV tj xs f.offset, partV tj ys f.offset with
        | some x, some y => match E f.type x y, eqF tb E xs ys fs with
          | some a, some b => some (a && b)
          | _, _ => none
        | _, _ => none
section
variable {P : Program} {tb : Tab}
end
end Go.Proofs.Ytmmhbjbaallkfaa.Gx
namespace Go.Proofs.Ytmmhbjbaallkfaa.Gx
open Go
set_option linter.unusedSimpArgs false
def blk (s : Sl) : List Nat := match s.p with
  | some a => [a.block]
  | none => []
abbrev slV (s : Sl) : Value := .slice s.p s.n s.c
def OwS (w : World) (s : Sl) (sz : Nat) (cs : List Value) : Prop :=
  (s = ⟨none, 0, 0⟩ ∧ cs = []) ∨ ∃ b arr T, s.p = some ⟨b, 0, none⟩ ∧ w.heap[b]? = some (.cells arr T (0, 0)) ∧ arr.size = s.c * sz ∧ s.n ≤ s.c ∧ arr.toList.take (s.n * sz) = cs
abbrev One (cs : List Value) : Prop := ∀ x ∈ cs, x.oneCell' = true
theorem OwS.nil (w : World) (sz : Nat) : OwS w ⟨none, 0, 0⟩ sz [] := .inl ⟨rfl, rfl⟩
theorem OwS.keep {w w' : World} {s : Sl} {sz : Nat} {cs : List Value} (h : OwS w s sz cs) (hw : ∀ b ∈ blk s, w'.heap[b]? = w.heap[b]?) : OwS w' s sz cs := by
  rcases h with h | ⟨b, arr, T, h1, h2, h3⟩
  · exact .inl h
  · exact .inr ⟨b, arr, T, h1, by rw [hw b (by simp [blk, h1])]; exact h2, h3⟩
theorem OwS.lt {w : World} {s : Sl} {sz : Nat} {cs : List Value} (h : OwS w s sz cs) : ∀ b ∈ blk s, b < w.heap.size := by
  rcases h with ⟨rfl, _⟩ | ⟨b, arr, T, h1, h2, h3⟩
  · intro b hb; simp [blk] at hb
  · intro b' hb; simp [blk, h1] at hb; subst hb; exact heap_lt h2
theorem OwS.ch {w w' : World} {s : Sl} {sz : Nat} {cs : List Value} {F : Nat → Prop} (h : OwS w s sz cs) (hc : Ch F w w') (hF : ∀ b ∈ blk s, ¬ F b) : OwS w' s sz cs :=
  h.keep fun b hb => hc.old b (h.lt b hb) (hF b hb)
theorem OwS.ext {w w' : World} {s : Sl} {sz : Nat} {cs : List Value} (h : OwS w s sz cs) (hc : Ext w w') : OwS w' s sz cs := h.ch hc fun _ _ => id
theorem OwS.len {w : World} {s : Sl} {sz : Nat} {cs : List Value} (h : OwS w s sz cs) : cs.length = s.n * sz := by
  rcases h with ⟨rfl, rfl⟩ | ⟨b, arr, T, _, _, h4, h5, rfl⟩
  · simp
  · have : s.n * sz ≤ s.c * sz := Nat.mul_le_mul_right _ h5
    rw [List.length_take, Array.length_toList, h4]; omega
theorem OwS.len1 {w : World} {s : Sl} {cs : List Value} (h : OwS w s 1 cs) : s.n = cs.length := by rw [h.len, Nat.mul_one]
theorem OwS.cap {w : World} {s : Sl} {sz : Nat} {cs : List Value} (h : OwS w s sz cs) : s.n ≤ s.c := by
  rcases h with ⟨rfl, rfl⟩ | ⟨b, arr, T, _, _, _, h5, _⟩
  · exact Nat.le_refl _
  · exact h5
theorem OwS.ptr {w : World} {s : Sl} {sz : Nat} {cs : List Value} (h : OwS w s sz cs) (hn : 0 < s.n) : ∃ b, s.p = some ⟨b, 0, none⟩ := by
  rcases h with ⟨rfl, _⟩ | ⟨b, arr, T, h1, _⟩
  · exact absurd hn (Nat.lt_irrefl _)
  · exact ⟨b, h1⟩
theorem slAddr_some (b o c l sz : Nat) : slAddr (some ⟨b, o, none⟩) c l sz = some ⟨b, o + (if c = l then 0 else l * sz), none⟩ := by
  unfold slAddr
  split
  · rfl
  · simp [Addr.add]
theorem slAddr_none (c l sz : Nat) : slAddr none c l sz = none := by unfold slAddr; split <;> rfl
theorem slAddr_zero (p : Option Addr) (c sz : Nat) : slAddr p c 0 sz = p := by
  cases p with
  | none => exact slAddr_none _ _ _
  | some a =>
    unfold slAddr
    split
    · rfl
    · simp [Addr.add]
/-- What is read of an owned slice. -/
theorem OwS.read {w : World} {s : Sl} {sz : Nat} {cs : List Value} (h : OwS w s sz cs) (i m : Nat) (him : i + m ≤ s.n) : ReadC w (slAddr s.p s.c i sz) (m * sz) ((cs.drop (i * sz)).take (m * sz)) := by
  have hl := h.len
  rcases h with ⟨rfl, rfl⟩ | ⟨b, arr, T, h1, h3, h4, h5, rfl⟩
  · rw [slAddr_none]
    simp [ReadC]
  · rw [h1, slAddr_some]
    have e : (i + m) * sz ≤ s.n * sz := Nat.mul_le_mul_right _ him
    rw [Nat.add_mul] at e
    refine ⟨by rw [List.length_take, List.length_drop, hl]; omega, cellsAt_of h3 fun j v hv => ?_⟩
    rw [List.getElem?_take] at hv
    split at hv
    · rename_i hj
      split
      · rename_i hc
        have : s.n = i := by omega
        subst this
        have : m = 0 := by omega
        subst this
        simp at hj
      · rw [List.getElem?_drop, List.getElem?_take] at hv
        split at hv
        · rw [show 0 + i * sz + j = i * sz + j by omega]; simpa using hv
        · cases hv
    · cases hv
theorem OwS.readAll {w : World} {s : Sl} {sz : Nat} {cs : List Value} (h : OwS w s sz cs) : ReadC w s.p (s.n * sz) cs := by
  have hl := h.len
  rcases h with ⟨rfl, rfl⟩ | ⟨b, arr, T, h1, h3, h4, h5, rfl⟩
  · rfl
  · rw [h1]
    refine ⟨hl, cellsAt_of h3 fun i v hv => ?_⟩
    rw [Nat.zero_add]
    rw [List.getElem?_take] at hv
    split at hv
    · simpa using hv
    · cases hv
/-- The cells of an element. -/
theorem OwS.elem {w : World} {s : Sl} {sz : Nat} {cs : List Value} (h : OwS w s sz cs) {i : Nat} (hi : i < s.n) {l : List Value} (hl : (cs.drop (i * sz)).take sz = l) :
    ∃ b, s.p = some ⟨b, 0, none⟩ ∧ CellsAt w b (i * sz) l := by
  obtain ⟨b, hp⟩ := h.ptr (by omega)
  refine ⟨b, hp, ?_⟩
  have := h.read i 1 (by omega)
  rw [hp, slAddr_some, Nat.one_mul] at this
  have hc := h.cap
  rw [if_neg (by omega), hl] at this
  have := this.2
  rw [Nat.zero_add] at this
  exact this
theorem OwS.elem1 {w : World} {s : Sl} {cs : List Value} (h : OwS w s 1 cs) {i : Nat} {v : Value} (hv : cs[i]? = some v) : ∃ b, s.p = some ⟨b, 0, none⟩ ∧ w.cell? ⟨b, i, none⟩ = some v := by
  have hi : i < s.n := by rw [h.len1]; exact (List.getElem?_eq_some_iff.1 hv).1
  obtain ⟨b, hp, hc⟩ := h.elem hi (l := [v]) (by
    rw [Nat.mul_one]
    obtain ⟨hi', rfl⟩ := List.getElem?_eq_some_iff.1 hv
    rw [List.drop_eq_getElem_cons hi']; rfl)
  exact ⟨b, hp, by simpa using hc 0 v rfl⟩
theorem CellsAt.fst {w : World} {b o : Nat} {u v : Value} (h : CellsAt w b o [u, v]) : w.cell? ⟨b, o, none⟩ = some u := h 0 u rfl
theorem CellsAt.snd {w : World} {b o : Nat} {u v : Value} (h : CellsAt w b o [u, v]) : w.cell? ⟨b, o + 1, none⟩ = some v := h 1 v rfl
/-- The first elements alone. -/
theorem OwS.cut {w : World} {s : Sl} {sz : Nat} {cs : List Value} (h : OwS w s sz cs) {k : Nat} (hk : k ≤ s.n) : OwS w ⟨s.p, k, s.c⟩ sz (cs.take (k * sz)) := by
  rcases h with ⟨rfl, rfl⟩ | ⟨b, arr, T, h1, h3, h4, h5, rfl⟩
  · have : k = 0 := Nat.le_zero.1 hk
    subst this
    exact .inl ⟨rfl, by simp⟩
  · refine .inr ⟨b, arr, T, h1, h3, h4, Nat.le_trans hk h5, ?_⟩
    dsimp only
    rw [List.take_take, Nat.min_eq_left (Nat.mul_le_mul_right _ hk)]
theorem setsA_list {old : Array Value} {o : Nat} {vs : List Value} (h : o + vs.length ≤ old.size) : (setsA old o vs).toList = old.toList.take o ++ vs ++ old.toList.drop (o + vs.length) := by
  rw [setsA_eq old o vs h]; rfl
/-- A store into an owned slice. -/
theorem OwS.store {w : World} {s : Sl} {sz : Nat} {cs vs : List Value} {b o : Nat} {K : World → Prop} (h : OwS w s sz cs) (hp : s.p = some ⟨b, 0, none⟩) (ho : o + vs.length ≤ s.n * sz) (h1 : One vs)
    (hK : ∀ w', OwS w' s sz (cs.take o ++ vs ++ cs.drop (o + vs.length)) → Ch (fun i => i = b) w w' → K w') : StoreP w b o vs K := by
  have hl := h.len
  rcases h with ⟨rfl, rfl⟩ | ⟨b', arr, T, hp', h3, h4, h5, rfl⟩
  · cases hp
  · rw [hp'] at hp
    cases hp
    have e1 : s.n * sz ≤ s.c * sz := Nat.mul_le_mul_right _ h5
    cases vs with
    | nil =>
      refine hK w (.inr ⟨b, arr, T, hp', h3, h4, h5, ?_⟩) (Ch.refl _ _)
      simp
    | cons v vs =>
      refine ⟨arr, T, h3, by simp only [List.length_cons] at ho; omega, h1, fun w' hu => hK w' (.inr ⟨b, _, T, hp', hu.new, ?_, h5, ?_⟩) hu.ch⟩
      · rw [← Array.length_toList, setsA_list (by rw [h4]; omega)]
        simp only [List.length_append, List.length_take, List.length_drop, Array.length_toList, h4]; omega
      · rw [setsA_list (by rw [h4]; omega)]
        have hA : arr.toList.length = s.c * sz := by rw [Array.length_toList, h4]
        apply List.ext_getElem?
        intro j
        simp only [List.getElem?_take, List.getElem?_append, List.length_append, List.length_take, List.getElem?_drop, hA, List.length_cons] at *
        by_cases c1 : j < s.n * sz
        · simp only [c1, if_true]
          have : min (min o (s.n * sz)) (s.c * sz) = min o (s.c * sz) := by omega
          simp only [Nat.min_eq_left (show o ≤ s.c * sz by omega), Nat.min_eq_left (show o ≤ s.n * sz by omega), Nat.min_eq_left (show s.n * sz ≤ s.c * sz by omega)]
          repeat' split
          all_goals first | rfl | (exfalso; omega)
        · simp only [c1, if_false]
          repeat' split
          all_goals first | rfl | (exfalso; omega)
/-- A store behind what an owned slice has. -/
theorem OwS.storeTail {w : World} {s : Sl} {sz : Nat} {cs vs : List Value} {b o : Nat} {K : World → Prop} (h : OwS w s sz cs) (hp : s.p = some ⟨b, 0, none⟩) (hn : s.n * sz ≤ o) (ho : o + vs.length ≤ s.c * sz) (h1 : One vs)
    (hK : ∀ w', OwS w' s sz cs → Ch (fun i => i = b) w w' → K w') : StoreP w b o vs K := by
  rcases h with ⟨rfl, rfl⟩ | ⟨b', arr, T, hp', h3, h4, h5, rfl⟩
  · cases hp
  · rw [hp'] at hp
    cases hp
    cases vs with
    | nil => exact hK w (.inr ⟨b, arr, T, hp', h3, h4, h5, rfl⟩) (Ch.refl _ _)
    | cons v vs =>
      refine ⟨arr, T, h3, by simp only [List.length_cons] at ho; omega, h1, fun w' hu => hK w' (.inr ⟨b, _, T, hp', hu.new, ?_, h5, ?_⟩) hu.ch⟩
      · rw [← Array.length_toList, setsA_list (by rw [h4]; omega)]
        simp only [List.length_append, List.length_take, List.length_drop, Array.length_toList, h4]; omega
      · rw [setsA_list (by rw [h4]; omega), List.append_assoc, List.take_append_of_le_length (by rw [List.length_take, Array.length_toList, h4]; omega), List.take_take, Nat.min_eq_left hn]
/-- append. -/
theorem OwS.append {w : World} {s : Sl} {T : TypeId} {sz cnt : Nat} {cs new : List Value} {te : TI} {K : Sl → World → Prop} (h : OwS w s sz cs) (hsz : te.size = sz) (hz : te.zero.cells.size = sz)
    (hn : new.length = cnt * sz) (h1 : One new) (hr : Roomy (s.n + cnt) te.bytes)
    (hK : ∀ s' w', OwS w' s' sz (cs ++ new) → s'.n = s.n + cnt → Ch (fun i => i ∈ blk s) w w' → (∀ i ∈ blk s', i ∈ blk s ∨ w.heap.size ≤ i) → (s.n + cnt ≤ s.c → s' = ⟨s.p, s.n + cnt, s.c⟩) → K s' w') : AppendP te T w s.p s.n s.c cnt new K := by
  have hlen := h.len
  have hread := h.readAll
  refine ⟨fun hc => ?_, fun hc => ⟨hr, cs, by rw [hsz]; exact hread, fun k hk b w' ha => ?_⟩⟩
  · rcases h with ⟨rfl, rfl⟩ | ⟨b, arr, T', hp, ho, hs, hle, rfl⟩
    · have : cnt = 0 := by simpa using hc
      subst this
      have : new = [] := by simpa using hn
      subst this
      exact hK _ _ (.inl ⟨rfl, by simp⟩) rfl (Ch.refl _ _) (fun i hi => .inl hi) fun _ => rfl
    · rw [hp]
      dsimp only
      rw [hsz, Nat.zero_add]
      have hmul : (s.n + cnt) * sz ≤ s.c * sz := Nat.mul_le_mul_right _ hc
      rw [Nat.add_mul] at hmul
      have hb : blk s = [b] := by simp [blk, hp]
      cases new with
      | nil =>
        have e : cnt * sz = 0 := by simpa using hn.symm
        refine hK ⟨some ⟨b, 0, none⟩, s.n + cnt, s.c⟩ w (.inr ⟨b, arr, T', rfl, ho, hs, hc, ?_⟩) rfl (Ch.refl _ _) (fun i hi => .inl (by rw [hb]; simpa [blk] using hi)) fun _ => by rw [hp]
        rw [Nat.add_mul, e]; simp
      | cons v vs =>
        refine ⟨arr, T', ho, by simp only [List.length_cons] at hn; omega, h1, fun w' hu => ?_⟩
        have e := setsA_list (old := arr) (o := s.n * sz) (vs := v :: vs) (by rw [hn]; omega)
        refine hK _ _ (.inr ⟨b, _, T', rfl, hu.new, ?_, hc, ?_⟩) rfl (hu.ch.mono fun i _ hi => by rw [hb]; simpa using hi) (fun i hi => .inl (by rw [hb]; simpa [blk] using hi)) fun _ => by rw [hp]
        · rw [← Array.length_toList, e]; simp only [List.length_append, List.length_take, List.length_drop, Array.length_toList, hs, hn]; omega
        · rw [e]
          dsimp only
          rw [Nat.add_mul, ← hn]
          rw [List.take_append_of_le_length (by simp only [List.length_append, List.length_take, Array.length_toList, hs]; omega), List.take_of_length_le]
          simp only [List.length_append, List.length_take, Array.length_toList, hs]; omega
  · have e : IsAlloc w (.cells (cs ++ new ++ zc te.zero.cells (k - (s.n + cnt))).toArray T (0, 0)) b w' := ⟨ha.here, ha.size, ha.new, ha.old, ⟨ha.rest.os, ha.rest.tape, ha.rest.output⟩⟩
    refine hK _ _ (.inr ⟨b, _, T, rfl, e.new, ?_, hk, ?_⟩) rfl (e.ch _) (fun i hi => .inr (Nat.le_of_eq (e.here.symm.trans (by simpa [blk] using hi : i = b).symm))) fun hc' => absurd hc (Nat.not_lt.2 hc')
    · simp only [List.size_toArray, List.length_append, zc_len, hlen, hn, hz]
      rw [← Nat.add_mul, ← Nat.add_mul]
      congr 1
      omega
    · dsimp only
      rw [List.take_append_of_le_length (by simp only [List.length_append, hlen, hn, Nat.add_mul]; omega), List.take_of_length_le]
      simp only [List.length_append, hlen, hn, Nat.add_mul]; omega
/-- A new block. -/
theorem OwS.new {w w' : World} {cs : List Value} {T : TypeId} {b : Nat} (h : IsAlloc w (.cells cs.toArray T (0, 0)) b w') {n sz : Nat} (hn : cs.length = n * sz) : OwS w' ⟨some ⟨b, 0, none⟩, n, n⟩ sz cs :=
  .inr ⟨b, _, T, rfl, h.new, by simpa using hn, Nat.le_refl _, by dsimp only; rw [← hn]; simp⟩
end Go.Proofs.Ytmmhbjbaallkfaa.Gx
namespace Go.Proofs.Ytmmhbjbaallkfaa.Gx
open Go
set_option linter.unusedSimpArgs false
set_option linter.unusedVariables false
theorem cell_ch {F : Nat → Prop} {w w' : World} {a : Addr} {v : Value} (h : w.cell? a = some v) (hc : Ch F w w') (hF : ¬ F a.block) : w'.cell? a = some v := by
  have hb : a.block < w.heap.size := by
    unfold World.cell? at h
    split at h
    · rename_i ho; exact heap_lt ho
    · cases h
  unfold World.cell? at h ⊢
  rw [hc.old _ hb hF]; exact h
theorem CellsAt.ch {F : Nat → Prop} {w w' : World} {b o : Nat} {cs : List Value} (h : CellsAt w b o cs) (hc : Ch F w w') (hF : ¬ F b) : CellsAt w' b o cs :=
  fun i v hv => cell_ch (h i v hv) hc hF
theorem ReadC.ch {F : Nat → Prop} {w w' : World} {p : Option Addr} {m : Nat} {cs : List Value} (h : ReadC w p m cs) (hc : Ch F w w') (hF : ∀ a, p = some a → ¬ F a.block) : ReadC w' p m cs := by
  unfold ReadC at h ⊢
  split at h
  · exact ⟨h.1, h.2.ch hc (hF _ rfl)⟩
  · exact h
  · exact h
/-- The elements of a slice, whoever owns it. -/
def Rd (w : World) (s : Sl) (sz : Nat) (cs : List Value) : Prop := cs.length = s.n * sz ∧ ReadC w s.p (s.n * sz) cs
theorem OwS.rd {w : World} {s : Sl} {sz : Nat} {cs : List Value} (h : OwS w s sz cs) : Rd w s sz cs := ⟨h.len, h.readAll⟩
theorem Rd.ch {F : Nat → Prop} {w w' : World} {s : Sl} {sz : Nat} {cs : List Value} (h : Rd w s sz cs) (hc : Ch F w w') (hF : ∀ b ∈ blk s, ¬ F b) : Rd w' s sz cs :=
  ⟨h.1, h.2.ch hc fun a ha => hF _ (by simp [blk, ha])⟩
theorem Rd.ext {w w' : World} {s : Sl} {sz : Nat} {cs : List Value} (h : Rd w s sz cs) (hc : Ext w w') : Rd w' s sz cs := h.ch hc fun _ _ => id
theorem Rd.elem {w : World} {s : Sl} {sz : Nat} {cs : List Value} (h : Rd w s sz cs) {i : Nat} (hi : i < s.n) (hz : 0 < sz) {l : List Value} (hl : (cs.drop (i * sz)).take sz = l) :
    ∃ b o, s.p = some ⟨b, o, none⟩ ∧ CellsAt w b (o + i * sz) l := by
  obtain ⟨hn, hr⟩ := h
  have e : (i + 1) * sz ≤ s.n * sz := Nat.mul_le_mul_right _ hi
  rw [Nat.add_mul, Nat.one_mul] at e
  unfold ReadC at hr
  split at hr
  · rename_i b o hp
    refine ⟨b, o, hp, fun j v hv => ?_⟩
    rw [← hl, List.getElem?_take] at hv
    split at hv
    · rw [List.getElem?_drop] at hv
      have := hr.2 _ _ hv
      rw [show o + i * sz + j = o + (i * sz + j) by omega]; exact this
    · cases hv
  · have := hr.1; omega
  · subst hr
    simp at hn
    omega
theorem Rd.elem1 {w : World} {s : Sl} {cs : List Value} (h : Rd w s 1 cs) {i : Nat} {v : Value} (hv : cs[i]? = some v) : ∃ b o, s.p = some ⟨b, o, none⟩ ∧ w.cell? ⟨b, o + i, none⟩ = some v := by
  have hi : i < s.n := by have := h.1; rw [Nat.mul_one] at this; rw [← this]; exact (List.getElem?_eq_some_iff.1 hv).1
  obtain ⟨b, o, hp, hc⟩ := h.elem hi (by omega) (l := [v]) (by
    rw [Nat.mul_one]
    obtain ⟨hi', rfl⟩ := List.getElem?_eq_some_iff.1 hv
    rw [List.drop_eq_getElem_cons hi']; rfl)
  exact ⟨b, o, hp, by simpa using hc 0 v rfl⟩
def CloneF (te : TI) (e sz : Nat) (t0 : Sl) (w : World) (R : Value → World → Prop) : Prop :=
  IfB t0.1.isNone (R (Value.slice none (0 : Nat) (0 : Nat)) w)
  ((0 : Nat) * sz ≤ (16777216 : Nat) ∧
  AllocP w (Obj.cells #[] e) fun (b1 : Nat) (w2 : World) =>
  ∃ (l3 : List Value),
  ReadC w2 t0.1 (t0.2 * sz) l3 ∧
  AppendP te e w2 (some ({ block := b1, off := (0 : Nat) } : Addr)) (0 : Nat) (0 : Nat) t0.2 l3 fun (s4 : Sl) (w5 : World) => R (Value.slice s4.1 s4.2 s4.3) w5)
theorem CloneF_of {te : TI} {e sz : Nat} {t0 : Sl} {w : World} {R : Value → World → Prop} {cs : List Value} (h : Rd w t0 sz cs) (hsz : te.size = sz) (hz : te.zero.cells.size = sz) (h1 : One cs) (hr : Roomy t0.n te.bytes)
    (hK : ∀ s' w', OwS w' s' sz cs → s'.n = t0.n → Ext w w' → (∀ i ∈ blk s', w.heap.size ≤ i) → R (slV s') w') (hnil : t0.p = none → t0.n = 0) : CloneF te e sz t0 w R := by
  refine IfB.intro (fun hp => ?_) (fun hp => ⟨by simp, fun b1 w2 h2 => ⟨cs, h.2.ch (h2.ch (fun _ => False)) (fun _ _ => id), ?_⟩⟩)
  · have hp' : t0.p = none := by cases hq : t0.p with | none => rfl | some _ => rw [show t0.1 = t0.p from rfl, hq] at hp; cases hp
    have hn := hnil hp'
    have : cs = [] := by have := h.1; rw [hn] at this; simpa using this
    subst this
    exact hK ⟨none, 0, 0⟩ w (.nil _ _) hn.symm (Ch.refl _ _) (by simp [blk])
  · have ho : OwS w2 ⟨some ⟨b1, 0, none⟩, 0, 0⟩ sz [] := .inr ⟨b1, _, e, rfl, h2.new, by simp, Nat.le_refl _, by simp⟩
    refine ho.append (cnt := t0.n) hsz hz h.1 h1 (by simpa using hr) fun s' w' ho' hn' hc hb _ => ?_
    have hb1 : ∀ i ∈ blk (⟨some ⟨b1, 0, none⟩, 0, 0⟩ : Sl), w.heap.size ≤ i := by intro i hi; simp [blk] at hi; rw [hi, h2.here]; exact Nat.le_refl _
    refine hK s' w' (by simpa using ho') (by simpa using hn') ((h2.ch _).then hc fun i hi hm => absurd (hb1 i hm) (by omega)) fun i hi => ?_
    rcases hb i hi with h | h
    · exact hb1 i h
    · have := h2.size; omega
def DelF (te : TI) (e sz : Nat) (t0 : Sl) (t1 t2 : Int) (w : World) (R : Value → World → Prop) : Prop :=
  ((0 : Int) ≤ t1 ∧ t1 ≤ t2 ∧ t2 ≤ (t0.2 : Int) ∧ (t0.2 : Int) ≤ (t0.3 : Int)) ∧
  IfB (t1 == t2) (R (Value.slice t0.1 t0.2 t0.3) w)
  (((0 : Int) ≤ t1 ∧ t1 ≤ (t0.3 : Int)) ∧
  ((0 : Int) ≤ t2 ∧ t2 ≤ (t0.2 : Int)) ∧
  ∃ (l1 : List Value),
  ReadC w.drew (slAddr t0.1 t0.3 t2.toNat sz) ((t0.2 - t2.toNat) * sz) l1 ∧
  AppendP te e w.drew (slAddr t0.1 t0.3 (0 : Nat) sz) t1.toNat t0.3 (t0.2 - t2.toNat) l1 fun (s2 : Sl) (w3 : World) =>
  ((0 : Int) ≤ (s2.2 : Int) ∧ (s2.2 : Int) ≤ (t0.2 : Int) ∧ (t0.2 : Int) ≤ (s2.3 : Int)) ∧
  match slAddr s2.1 s2.3 ((s2.2 : Int)).toNat sz with
  | none => R (Value.slice s2.1 s2.2 s2.3) w3
  | some ({ block := b5, off := b6, spot := none } : Addr) =>
  StoreP w3 b5 b6 (zc te.zero.cells (((t0.2 : Int)).toNat - ((s2.2 : Int)).toNat)) fun (w7 : World) =>
  R (Value.slice s2.1 s2.2 s2.3) w7
  | some y8 => False)
theorem One.drop {cs : List Value} (h : One cs) (k : Nat) : One (cs.drop k) := fun x hx => h x (List.mem_of_mem_drop hx)
theorem zc_one {z : Array Value} (h : One z.toList) (n : Nat) : One (zc z n) := by
  intro x hx
  unfold zc Builtin.zeroCells at hx
  rw [Array.mem_toList_iff, Array.mem_map] at hx
  obtain ⟨i, hi, rfl⟩ := hx
  have hi' := Array.mem_range.1 hi
  have h0 : 0 < z.size := by
    rcases Nat.eq_zero_or_pos z.size with h0 | h0
    · rw [h0] at hi'; simp at hi'
    · exact h0
  have hlt := Nat.mod_lt i h0
  apply h
  rw [show z[i % z.size]! = z[i % z.size] from getElem!_pos z (i % z.size) hlt]
  exact Array.mem_toList_iff.2 (Array.getElem_mem _)
theorem DelF_of {te : TI} {e sz : Nat} {t0 : Sl} {i j : Nat} {w : World} {R : Value → World → Prop} {cs : List Value} (h : OwS w t0 sz cs) (hsz : te.size = sz) (hz : te.zero.cells.size = sz) (h1 : One cs) (hz1 : One te.zero.cells.toList)
    (hij : i < j) (hj : j ≤ t0.n) (hr : Roomy t0.n te.bytes)
    (hK : ∀ s' w', OwS w' s' sz (cs.take (i * sz) ++ cs.drop (j * sz)) → s'.n = t0.n - (j - i) → Ch (fun i => i ∈ blk t0) w w' → s'.p = t0.p → R (slV s') w') : DelF te e sz t0 i j w R := by
  have hcap := h.cap
  have hlen := h.len
  obtain ⟨b, hp⟩ := h.ptr (by omega)
  have hbk : blk t0 = [b] := by simp [blk, hp]
  have hd : Ch (fun i => i ∈ blk t0) w w.drew := ⟨drew_rest w, Nat.le_refl _, fun _ _ _ => rfl⟩
  have hjn : j * sz ≤ t0.n * sz := Nat.mul_le_mul_right _ hj
  have hin : i * sz ≤ t0.n * sz := Nat.mul_le_mul_right _ (by omega)
  refine ⟨⟨by omega, by omega, by omega, by omega⟩, IfB.no (by simp; omega) ⟨⟨by omega, by omega⟩, ⟨by omega, by omega⟩, cs.drop (j * sz), ?_, ?_⟩⟩
  · have := h.read j (t0.n - j) (by omega)
    rw [Nat.sub_mul, List.take_of_length_le (by rw [List.length_drop, hlen]; exact Nat.le_refl _)] at this
    rw [Int.toNat_natCast, show (t0.2 - j) * sz = t0.n * sz - j * sz from Nat.sub_mul ..]
    exact this
  · rw [Int.toNat_natCast, Int.toNat_natCast, slAddr_zero]
    have hcut : OwS w.drew ⟨t0.p, i, t0.c⟩ sz (cs.take (i * sz)) := (h.cut (by omega)).keep fun _ _ => rfl
    refine hcut.append (cnt := t0.n - j) hsz hz (by rw [List.length_drop, hlen, Nat.sub_mul]) (h1.drop _) ⟨by have := hr.1; dsimp only; omega, Nat.le_trans (Nat.mul_le_mul_right _ (by dsimp only; omega)) hr.2⟩ ?_
    intro s' w' ho hn hc hb hin'
    obtain rfl := hin' (by dsimp only; omega)
    dsimp only at hn ho hc hb ⊢
    refine ⟨⟨by omega, by omega, by omega⟩, ?_⟩
    rw [Int.toNat_natCast, Int.toNat_natCast]
    have hc' : Ch (fun i => i ∈ blk t0) w w' := hd.trans (hc.mono fun _ _ hi => by simpa [blk] using hi)
    rw [hp, slAddr_some]
    dsimp only
    have e0 : (i + (t0.n - j)) * sz ≤ t0.c * sz := Nat.mul_le_mul_right _ (by omega)
    rw [if_neg (by omega), Nat.zero_add]
    have e1 : (i + (t0.n - j)) * sz + (t0.n - (i + (t0.n - j))) * sz ≤ t0.c * sz := by
      rw [← Nat.add_mul]; exact Nat.mul_le_mul_right _ (by omega)
    refine ho.storeTail hp (Nat.le_refl _) (by rw [zc_len, hz]; exact e1) (zc_one hz1 _) fun w'' ho'' hc'' => ?_
    have := hK ⟨t0.p, i + (t0.n - j), t0.c⟩ w'' ho'' (by dsimp only; omega) (hc'.trans (hc''.mono fun k _ hk => by rw [hbk, hk]; simp)) rfl
    rw [hp] at this
    exact this
def GrowF (te : TI) (e sz : Nat) (t0 : Sl) (t1 : Int) (w : World) (R : Value → World → Prop) : Prop :=
  IfB (decide (t1 < (0 : Int))) False
  (IfB (decide ((0 : Int) < IntKind.i64.wrap (t1 - IntKind.i64.wrap ((t0.c : Int) - (t0.n : Int)))))
  (((0 : Int) ≤ (t0.3 : Int) ∧ (t0.3 : Int) ≤ (t0.3 : Int)) ∧
  ((0 : Int) ≤ IntKind.i64.wrap (t1 - IntKind.i64.wrap ((t0.3 : Int) - (t0.2 : Int))) ∧
  IntKind.i64.wrap (t1 - IntKind.i64.wrap ((t0.3 : Int) - (t0.2 : Int))) ≤ (281474976710656 : Int) ∧ IntKind.i64.wrap (t1 - IntKind.i64.wrap ((t0.3 : Int) - (t0.2 : Int))) * (te.bytes : Int) ≤ (281474976710656 : Int)) ∧
  AppendP te e w (slAddr t0.1 t0.3 (0 : Nat) sz) ((t0.3 : Int)).toNat t0.3 (IntKind.i64.wrap (t1 - IntKind.i64.wrap ((t0.3 : Int) - (t0.2 : Int)))).toNat
  (zc te.zero.cells (IntKind.i64.wrap (t1 - IntKind.i64.wrap ((t0.3 : Int) - (t0.2 : Int)))).toNat) fun (s1 : Sl) (w2 : World) =>
  ((0 : Int) ≤ (t0.2 : Int) ∧ (t0.2 : Int) ≤ (s1.3 : Int)) ∧ R (Value.slice (slAddr s1.1 s1.3 (0 : Nat) sz) ((t0.2 : Int)).toNat s1.3) w2)
  (R (Value.slice t0.1 t0.2 t0.3) w))
theorem wrap_of {n : Int} (h0 : -9223372036854775808 ≤ n) (h1 : n ≤ 9223372036854775807) : IntKind.i64.wrap n = n := by rw [IntKind.wrap_i64]; omega
theorem GrowF_nil {te : TI} {e sz k : Nat} {w : World} {R : Value → World → Prop} (hsz : te.size = sz) (hz : te.zero.cells.size = sz) (hz1 : One te.zero.cells.toList) (hr : Roomy k te.bytes) (hb : te.bytes ≤ 100000) (hk : k ≤ 1000000)
    (hK : ∀ s' w', OwS w' s' sz [] → s'.n = 0 → Ext w w' → (∀ i ∈ blk s', w.heap.size ≤ i) → R (slV s') w') : GrowF te e sz ⟨none, 0, 0⟩ k w R := by
  have e0 : IntKind.i64.wrap ((k : Int) - IntKind.i64.wrap (((0 : Nat) : Int) - ((0 : Nat) : Int))) = k := by
    rw [wrap_of (n := ((0 : Nat) : Int) - ((0 : Nat) : Int)) (by omega) (by omega), wrap_of (by omega) (by omega)]; omega
  refine IfB.no (by simp) (IfB.dec (fun hd => ?_) (fun hd => ?_))
  · dsimp only at hd ⊢
    rw [e0] at hd
    rw [e0, slAddr_none]
    simp only [Int.toNat_natCast]
    have hkb : k * te.bytes ≤ 1000000 * 100000 := Nat.mul_le_mul hk hb
    refine ⟨⟨by omega, by omega⟩, ⟨by omega, by omega, by rw [← Int.natCast_mul]; omega⟩, ?_⟩
    refine (OwS.nil w sz).append (cnt := k) hsz hz (by rw [zc_len, hz]) (zc_one hz1 _) (by show Roomy (0 + k) _; rw [Nat.zero_add]; exact hr) fun s' w' ho hn hc hb' _ => ?_
    refine ⟨⟨by omega, by omega⟩, ?_⟩
    have hb2 : ∀ i ∈ blk s', w.heap.size ≤ i := fun i hi => (hb' i hi).elim (fun h => by simp [blk] at h) id
    have hc2 : Ext w w' := hc.mono fun i _ hi => by simp [blk] at hi
    have := hK ⟨s'.p, 0, s'.c⟩ w' (by simpa using ho.cut (Nat.zero_le _)) rfl hc2 hb2
    rw [slAddr_zero]
    exact this
  · exact hK ⟨none, 0, 0⟩ w (.nil _ _) rfl (Ch.refl _ _) (by simp [blk])
end Go.Proofs.Ytmmhbjbaallkfaa.Gx
namespace Go.Proofs.Ytmmhbjbaallkfaa.Gx
open Go
set_option linter.unusedSimpArgs false
set_option linter.unusedVariables false
def IndexF (P : Program) {δ : Type} (E : World → Nat → Nat → Nat → δ → Prop) (V : δ → Value) (t0 : Sl) (t1 : Nat × Array Value) (w : World) (R : Value → World → Prop) : Prop :=
  ∃ (y1 : Nat → Int → World → Prop),
  (∃ (b2 : Nat), y1 b2 (0 : Int) w) ∧
  ∀ (b3 : Nat) (n4 : Int) (w5 : World) (y6 : Nat → Value),
  y1 b3 n4 w5 →
  IfB (decide (n4 < (t0.n : Int)))
  (∃ (b8 : Nat),
  ∃ (b9 : Nat),
  t0.1 = some ({ block := b8, off := b9 } : Addr) ∧
  ((0 : Int) ≤ n4 ∧ n4 < (t0.2 : Int)) ∧
  ∃ (s10 : δ),
  E w5 b8 b9 n4.toNat s10 ∧
  CX P t1.1 { toList := V s10 :: t1.snd.1 } w5 fun (v11 : Value) (w12 : World) =>
  ∃ (t13 : Bool), v11 = Value.bool t13 ∧ IfB t13 (R (Value.int IntKind.i64 n4) w12) (([] : List Nat) = [] ∧ ∃ (b14 : Nat), b14 < b3 ∧ y1 b14 (IntKind.i64.wrap (n4 + (1 : Int))) w12))
  (R (Value.int IntKind.i64 (-1 : Int)) w5)
def idxV (o : Option Nat) : Int := match o with
  | some i => i
  | none => -1
theorem IndexF_of {P : Program} {δ ε : Type} {E : World → Nat → Nat → Nat → δ → Prop} {V : δ → Value} {t0 : Sl} {t1 : Nat × Array Value} {w : World} {R : Value → World → Prop} (xs : List ε) (f : ε → δ) (q : ε → Bool) (hn : t0.n = xs.length) (hb : t0.n ≤ 4611686018427387904)
    (hE : ∀ (i : Nat) (x : ε) (w5 : World), xs[i]? = some x → Ext w w5 → ∃ b o, t0.p = some ⟨b, o, none⟩ ∧ E w5 b o i (f x))
    (hq : ∀ (i : Nat) (x : ε) (w5 : World), xs[i]? = some x → Ext w w5 → ∀ R' : Value → World → Prop, (∀ w', Ext w5 w' → R' (.bool (q x)) w') → CX P t1.1 { toList := V (f x) :: t1.2.toList } w5 R')
    (hK : ∀ w', Ext w w' → R (.int .i64 (idxV (xs.findIdx? q))) w') : IndexF P E V t0 t1 w R := by
  refine ⟨fun k n w5 => ∃ i : Nat, n = i ∧ i ≤ xs.length ∧ k + i = xs.length ∧ Ext w w5 ∧ ∀ j < i, ∀ x, xs[j]? = some x → q x = false, ⟨xs.length, 0, rfl, Nat.zero_le _, rfl, Ch.refl _ _, fun j hj => absurd hj (Nat.not_lt_zero _)⟩, ?_⟩
  rintro k n w5 g ⟨i, rfl, hi, hk, hx, hlow⟩
  refine IfB.dec (fun hlt => ?_) (fun hge => ?_)
  · have hi' : i < xs.length := by omega
    have hxi : xs[i]? = some xs[i] := List.getElem?_eq_getElem hi'
    obtain ⟨b, o, hp, he⟩ := hE i _ w5 hxi hx
    refine ⟨b, o, hp, ⟨by omega, hlt⟩, f xs[i], by rw [Int.toNat_natCast]; exact he, ?_⟩
    refine hq i _ w5 hxi hx _ fun w' hx' => ⟨q xs[i], rfl, IfB.intro (fun ht => ?_) (fun hf => ?_)⟩
    · have : xs.findIdx? q = some i := by
        rw [List.findIdx?_eq_some_iff_getElem]
        exact ⟨hi', ht, fun j hj => by have := hlow j hj _ (List.getElem?_eq_getElem (by omega)); simp [this]⟩
      have h2 := hK w' (hx.trans hx')
      rw [this] at h2
      exact h2
    · refine ⟨rfl, k - 1, by omega, i + 1, by rw [wrap_of (by omega) (by omega)]; omega, hi', by omega, hx.trans hx', fun j hj x hjx => ?_⟩
      by_cases hji : j < i
      · exact hlow j hji x hjx
      · have : j = i := by omega
        subst this
        rw [hxi] at hjx; cases hjx; exact hf
  · have : xs.findIdx? q = none := by
      rw [List.findIdx?_eq_none_iff]
      intro x hx'
      obtain ⟨j, hj, rfl⟩ := List.getElem_of_mem hx'
      exact hlow j (by omega) _ (List.getElem?_eq_getElem hj)
    have h2 := hK w5 hx
    rw [this] at h2
    exact h2
end Go.Proofs.Ytmmhbjbaallkfaa.Gx
namespace Go.Proofs.Ytmmhbjbaallkfaa.Gx
open Go
end Go.Proofs.Ytmmhbjbaallkfaa.Gx
namespace Go.Proofs.Ytmmhbjbaallkfaa.Gx
open Go
set_option linter.unusedSimpArgs false
set_option linter.unusedVariables false
theorem take_succ_get {α : Type} {l : List α} {i : Nat} {x : α} (h : l[i]? = some x) : l.take (i + 1) = l.take i ++ [x] := by
  rw [List.take_add_one, h]; rfl
theorem extDrew (w : World) : Ext w w.drew := ⟨drew_rest w, Nat.le_refl _, fun _ _ _ => rfl⟩
theorem store_all {w : World} {b : Nat} {vs : List Value} {old : Array Value} {T : TypeId} {K : World → Prop} (hb : w.heap[b]? = some (.cells old T (0, 0))) (hl : old.size = vs.length) (h1 : One vs)
    (hK : ∀ w', IsUpd w b (.cells vs.toArray T (0, 0)) w' → K w') : StoreP w b 0 vs K := by
  cases vs with
  | nil =>
    have : old = #[] := Array.eq_empty_of_size_eq_zero hl
    subst this
    exact hK w ⟨rfl, hb, fun _ _ => rfl, Rest.refl _⟩
  | cons v vs =>
    refine ⟨old, T, hb, by rw [hl]; simp, h1, fun w' hu => hK w' ?_⟩
    have e := setsA_list (old := old) (o := 0) (vs := v :: vs) (by rw [hl]; simp)
    have e2 : setsA old 0 (v :: vs) = (v :: vs).toArray := by
      apply Array.toList_inj.1
      rw [e, Nat.zero_add, ← hl, List.drop_of_length_le (by simp)]
      simp
    rw [e2] at hu
    exact hu
theorem Stb.fresh {n : Nat} {w w1 w2 : World} {o o' : Obj} {b : Nat} (h : IsAlloc w o b w1) (k : IsUpd w1 b o' w2) (hn : n ≤ w.heap.size) : Stb n w w2 := by
  have hb := h.here
  refine ⟨by rw [k.size, h.size]; omega, fun i hi => ?_, fun i o2 ho _ => ?_, h.rest.trans k.rest⟩
  · rw [k.old i (by omega), h.old i (by omega)]
  · have hi := heap_lt ho
    rw [k.old i (by omega), h.old i hi]; exact ho
theorem Ext.fresh {w w1 w2 : World} {o o' : Obj} {b : Nat} (h : IsAlloc w o b w1) (k : IsUpd w1 b o' w2) : Ext w w2 :=
  (h.ch _).then k.ch fun i hi e => by have := h.here; omega
theorem OwS.stb {n : Nat} {w w' : World} {s : Sl} {sz : Nat} {cs : List Value} (h : OwS w s sz cs) (hS : Stb n w w') : OwS w' s sz cs := by
  rcases h with h | ⟨b, arr, T, h1, h2, h3⟩
  · exact .inl h
  · exact .inr ⟨b, arr, T, h1, hS.keep _ _ h2 rfl, h3⟩
/-- A literal is appended. -/
theorem OwS.lit {w : World} {s : Sl} {sz bl : Nat} {cs new : List Value} {te : TI} {T T' : TypeId} {K : Sl → World → Prop} (h : OwS w s sz cs) (hb : w.heap[bl]? = some (.cells new.toArray T' (0, 0))) (hnew : new.length = sz) (h1 : One new) (hsz : te.size = sz) (hz : te.zero.cells.size = sz)
    (hn : s.n ≤ 1000000) (hby : te.bytes ≤ 100000)
    (hK : ∀ s' w', OwS w' s' sz (cs ++ new) → s'.n = s.n + 1 → Ch (fun i => i ∈ blk s) w w' → (∀ i ∈ blk s', i ∈ blk s ∨ w.heap.size ≤ i) → K s' w') :
    ∃ l, ReadC w (some ⟨bl, 0, none⟩) (1 * sz) l ∧ AppendP te T w s.p s.n s.c 1 l K := by
  refine ⟨new, ⟨by omega, cellsAt_of hb fun i v hv => by simpa using hv⟩, h.append (cnt := 1) hsz hz (by omega) h1 ⟨by omega, ?_⟩ fun s' w' a b c d _ => hK s' w' a b c d⟩
  exact Nat.le_trans (Nat.mul_le_mul (show 2 * (s.n + 1) ≤ 3000000 by omega) hby) (by decide)
theorem Rd.len1 {w : World} {s : Sl} {cs : List Value} (h : Rd w s 1 cs) : s.n = cs.length := by have := h.1; omega
theorem Rd.cut {w : World} {s : Sl} {sz : Nat} {cs : List Value} (h : Rd w s sz cs) {k : Nat} (hk : k ≤ s.n) : Rd w ⟨s.p, k, s.c⟩ sz (cs.take (k * sz)) := by
  obtain ⟨h1, h2⟩ := h
  have e : k * sz ≤ s.n * sz := Nat.mul_le_mul_right _ hk
  refine ⟨by rw [List.length_take]; dsimp only; omega, ?_⟩
  unfold ReadC at h2 ⊢
  dsimp only
  split at h2
  · refine ⟨by rw [List.length_take]; omega, fun i v hv => h2.2 i v ?_⟩
    rw [List.getElem?_take] at hv
    split at hv
    · exact hv
    · cases hv
  · obtain ⟨h0, rfl⟩ := h2
    exact ⟨by omega, by simp⟩
  · rw [h2]; simp
theorem Its.ch {F : Nat → Prop} {W W' : World} (hc : Ch F W W') (hF : ∀ i, F i → ∀ m s q t, W.heap[i]? ≠ some (.mapIter m s q t)) : Its W W' := fun i m s q t e => by
  have hi := heap_lt e
  rw [hc.old i hi fun h => hF i h m s q t e]; exact e
theorem Its.ext {W W' : World} (hc : Ext W W') : Its W W' := Its.ch hc fun _ h => h.elim
theorem OwS.blkIt {w : World} {s : Sl} {sz : Nat} {cs : List Value} (h : OwS w s sz cs) {i : Nat} (hi : i ∈ blk s) (m : Option Nat) (q : Nat) (a : Array Nat) (t : Nat) : w.heap[i]? ≠ some (.mapIter m q a t) := by
  rcases h with ⟨rfl, _⟩ | ⟨b, arr, T, h1, h2, _⟩
  · simp [blk] at hi
  · simp only [blk, h1] at hi
    simp at hi
    rw [hi, h2]; simp
theorem notIt {w : World} {i : Nat} {cs : Array Value} {T : TypeId} {p : Nat × Nat} (h : w.heap[i]? = some (.cells cs T p)) (m : Option Nat) (q : Nat) (a : Array Nat) (t : Nat) : w.heap[i]? ≠ some (.mapIter m q a t) := by rw [h]; simp
end Go.Proofs.Ytmmhbjbaallkfaa.Gx
namespace Go.Proofs.Ytmmhbjbaallkfaa.Gx
open Go
set_option linter.unusedSimpArgs false
set_option linter.unusedVariables false
section
variable {β : Type} {enc : β → Value}
def MpE (enc : β → Value) (es : List MapEntry) (f : List (Int × β)) (ck : Nat) : Prop :=
  es.map (fun e => (e.key, e.val)) = f.map (fun p => (Value.int .i64 p.1, enc p.2)) ∧ (f.map (·.1)).Nodup ∧ (∀ e ∈ es, e.born < ck) ∧ (es.map (·.born)).Nodup
/-- A map, as memory has it. -/
def Mp (enc : β → Value) (w : World) (r : Nat) (f : List (Int × β)) : Prop := ∃ es ck, w.heap[r]? = some (.map es ck) ∧ MpE enc es.toList f ck
theorem Mp.ch {F : Nat → Prop} {w w' : World} {r : Nat} {f : List (Int × β)} (h : Mp enc w r f) (hc : Ch F w w') (hF : ¬ F r) : Mp enc w' r f := by
  obtain ⟨es, ck, h1, h2⟩ := h
  exact ⟨es, ck, hc.at h1 hF, h2⟩
theorem Mp.ext {w w' : World} {r : Nat} {f : List (Int × β)} (h : Mp enc w r f) (hc : Ext w w') : Mp enc w' r f := h.ch hc id
theorem Mp.stb {n : Nat} {w w' : World} {r : Nat} {f : List (Int × β)} (h : Mp enc w r f) (hS : Stb n w w') : Mp enc w' r f := by
  obtain ⟨es, ck, h1, h2⟩ := h
  exact ⟨es, ck, hS.keep _ _ h1 rfl, h2⟩
theorem Mp.new {w w' : World} {r : Nat} (h : IsAlloc w (.map #[] 0) r w') : Mp enc w' r [] := ⟨_, _, h.new, rfl, .nil, by simp, .nil⟩
theorem Mp.lt {w : World} {r : Nat} {f : List (Int × β)} (h : Mp enc w r f) : r < w.heap.size := by
  obtain ⟨es, ck, h1, h2⟩ := h
  exact heap_lt h1
def getM (f : List (Int × β)) (k : Int) : Option β := (f.find? fun p => p.1 == k).map (·.2)
theorem getM_nil (k : Int) : getM ([] : List (Int × β)) k = none := rfl
theorem getM_cons (p : Int × β) (f : List (Int × β)) (k : Int) : getM (p :: f) k = if p.1 = k then some p.2 else getM f k := by
  unfold getM
  by_cases h : p.1 = k
  · rw [if_pos h, List.find?_cons_of_pos (by simpa using h)]; rfl
  · rw [if_neg h, List.find?_cons_of_neg (by simpa using h)]
theorem getM_append (f f' : List (Int × β)) (k : Int) : getM (f ++ f') k = match getM f k with | some v => some v | none => getM f' k := by
  induction f with
  | nil => rfl
  | cons p f ih =>
    rw [List.cons_append, getM_cons, getM_cons, ih]
    split <;> rfl
theorem getM_none {f : List (Int × β)} {k : Int} (h : ∀ p ∈ f, p.1 ≠ k) : getM f k = none := by
  unfold getM
  rw [List.find?_eq_none.2 (by intro p hp; simpa using h p hp)]; rfl
theorem getM_key {f : List (Int × β)} {k : Int} : k ∈ f.map (·.1) ↔ getM f k ≠ none := by
  induction f with
  | nil => simp [getM_nil]
  | cons p f ih =>
    rw [getM_cons, List.map_cons, List.mem_cons, ih]
    by_cases h : p.1 = k
    · rw [if_pos h]; simp [h]
    · rw [if_neg h]
      constructor
      · rintro (e | e)
        · exact absurd e.symm h
        · exact e
      · exact .inr
theorem find_is {k : Int} : ∀ {es : List MapEntry} {f : List (Int × β)} (i : Nat), es.map (fun e => (e.key, e.val)) = f.map (fun p => (Value.int .i64 p.1, enc p.2)) →
    ∃ r, Instr.findNow (.int .i64) (.int .i64 k) es i = some r ∧ ((r = none ∧ ∀ p ∈ f, p.1 ≠ k) ∨ ∃ f1 v f2, f = f1 ++ (k, v) :: f2 ∧ r = some (i + f1.length, enc v) ∧ ∀ p ∈ f1, p.1 ≠ k)
  | [], [], i, _ => ⟨none, rfl, .inl ⟨rfl, by simp⟩⟩
  | [], _ :: _, i, h => by simp at h
  | _ :: _, [], i, h => by simp at h
  | e :: es, p :: f, i, h => by
    simp only [List.map_cons, List.cons.injEq, Prod.mk.injEq] at h
    obtain ⟨⟨h1, h2⟩, h3⟩ := h
    by_cases hk : k = p.1
    · refine ⟨some (i, e.val), by simp [Instr.findNow, h1, Instr.sameNow, hk], .inr ⟨[], p.2, f, by rw [hk]; rfl, by rw [h2]; rfl, by simp⟩⟩
    · obtain ⟨r, hr, h⟩ := find_is (k := k) (i + 1) h3
      have hkb : (k == p.1) = false := beq_eq_false_iff_ne.2 hk
      refine ⟨r, by simp [Instr.findNow, h1, Instr.sameNow, hkb, hr], ?_⟩
      rcases h with ⟨h4, h5⟩ | ⟨f1, v, f2, rfl, h5, h6⟩
      · refine .inl ⟨h4, fun q hq => ?_⟩
        rcases List.mem_cons.1 hq with rfl | hq
        · exact fun e => hk e.symm
        · exact h5 q hq
      · refine .inr ⟨p :: f1, v, f2, rfl, by rw [h5, List.length_cons, Nat.add_assoc, Nat.add_comm 1], fun q hq => ?_⟩
        rcases List.mem_cons.1 hq with rfl | hq
        · exact fun e => hk e.symm
        · exact h6 q hq
theorem Mp.get {w : World} {r : Nat} {f : List (Int × β)} (h : Mp enc w r f) {k : Int} {z : Value} {K : Value → Bool → Prop} (hK : match getM f k with | some v => K (enc v) true | none => K z false) :
    MapGetP (.int .i64) w (.map (some r)) (.int .i64 k) z K := by
  obtain ⟨es, ck, hr, h1, h2, h3, h4⟩ := h
  obtain ⟨q, hq, h⟩ := find_is (k := k) 0 h1
  refine ⟨es.toList, ⟨es, ck, hr, rfl⟩, q, hq, ?_⟩
  rcases h with ⟨rfl, h5⟩ | ⟨f1, v, f2, rfl, rfl, h6⟩
  · rw [getM_none h5] at hK; exact hK
  · rw [getM_append, getM_none h6, getM_cons, if_pos rfl] at hK; exact hK
theorem Mp.set {w : World} {r : Nat} {f : List (Int × β)} (h : Mp enc w r f) {k : Int} {v : β} {K : World → Prop}
    (hK : ∀ f' w', (∀ k', getM f' k' = if k = k' then some v else getM f k') → Mp enc w' r f' → Ch (fun i => i = r) w w' → K w') :
    MapSetP (.int .i64) w (.map (some r)) (.int .i64 k) (enc v) K := by
  obtain ⟨es, ck, hr, h1, h2, h3, h4⟩ := h
  obtain ⟨q, hq, h⟩ := find_is (k := k) 0 h1
  refine ⟨r, rfl, es, ck, hr, q, hq, ?_⟩
  rcases h with ⟨rfl, h5⟩ | ⟨f1, v0, f2, rfl, rfl, h6⟩
  · intro w' hu
    refine hK (f ++ [(k, v)]) w' (fun k' => ?_) ⟨_, _, hu.new, ?_, ?_, ?_, ?_⟩ hu.ch
    · rw [getM_append, getM_cons, getM_nil]
      by_cases hk : k = k'
      · subst hk; rw [getM_none h5]
      · rw [if_neg hk, if_neg hk]; cases getM f k' <;> rfl
    · rw [Array.toList_push, List.map_append, List.map_append, h1]; rfl
    · rw [List.map_append, List.nodup_append]
      refine ⟨h2, by simp, fun a ha b hb => ?_⟩
      obtain ⟨p, hp, rfl⟩ := List.mem_map.1 ha
      simp only [List.map_cons, List.map_nil, List.mem_singleton] at hb
      rw [hb]; exact h5 p hp
    · intro e he
      rw [Array.toList_push, List.mem_append, List.mem_singleton] at he
      rcases he with he | rfl
      · have := h3 e he; omega
      · simp
    · rw [Array.toList_push, List.map_append, List.nodup_append]
      refine ⟨h4, by simp, fun a ha b hb => ?_⟩
      obtain ⟨e, he, rfl⟩ := List.mem_map.1 ha
      simp only [List.map_cons, List.map_nil, List.mem_singleton] at hb
      rw [hb]
      have := h3 e he
      omega
  · intro w' hu
    rw [Nat.zero_add] at hu
    have hlen := congrArg List.length h1
    simp only [List.length_map, List.length_append, List.length_cons, Array.length_toList] at hlen
    have hi : f1.length < es.size := by omega
    have hm : ∀ {γ : Type} (F : MapEntry → γ), (es.modify f1.length fun e => { e with key := .int .i64 k, val := enc v }).toList.map F = (es.toList.map F).set f1.length (F { es[f1.length] with key := .int .i64 k, val := enc v }) := fun F => by
      apply List.ext_getElem?
      intro i
      rw [List.getElem?_map, Array.getElem?_toList, Array.getElem?_modify, List.getElem?_set, List.getElem?_map, Array.getElem?_toList]
      by_cases h : f1.length = i
      · subst h; simp [hi]
      · simp [h]
    refine hK (f1 ++ (k, v) :: f2) w' (fun k' => ?_) ⟨_, _, hu.new, ?_, ?_, ?_, ?_⟩ hu.ch
    · rw [getM_append, getM_append, getM_cons, getM_cons]
      by_cases hk : k = k'
      · subst hk; rw [getM_none h6]; simp
      · simp [hk]
    · rw [hm, h1]
      simp only [List.map_append, List.map_cons]
      rw [List.set_append_right _ _ (by simp)]
      simp
    · simpa using h2
    · intro e he
      have hb : e.born ∈ (es.modify f1.length fun e => { e with key := .int .i64 k, val := enc v }).toList.map (·.born) := List.mem_map_of_mem he
      rw [hm] at hb
      rcases List.mem_or_eq_of_mem_set hb with hb | hb
      · obtain ⟨e', he', hbe⟩ := List.mem_map.1 hb
        rw [← hbe]; exact h3 e' he'
      · rw [hb]; exact h3 es[f1.length] (by simp)
    · rw [hm]
      have : (es.toList.map (·.born)).set f1.length es[f1.length].born = es.toList.map (·.born) := by
        apply List.ext_getElem?
        intro i
        rw [List.getElem?_set]
        by_cases h : f1.length = i
        · subst h; simp [hi]
        · simp [h]
      rw [this]; exact h4
end
end Go.Proofs.Ytmmhbjbaallkfaa.Gx
namespace Go.Proofs.Ytmmhbjbaallkfaa.Gx
open Go
set_option linter.unusedSimpArgs false
set_option linter.unusedVariables false
/-- What maps.Keys' function asks. -/
def KeysF (P : Program) (t0 t1 : Nat) (w : World) (R : Value → World → Prop) : Prop :=
  ∃ p1 : Option Nat, w.cell? ⟨t1, 0, none⟩ = some (.map p1) ∧
  MapItP w (.map p1) fun b2 w3 => ∃ y4 : Nat → Unit → World → Prop, (∃ b5, y4 b5 () w3) ∧ ∀ (b6 : Nat) (y7 : Unit) (w8 : World) (y9 : Nat → Value), y4 b6 y7 w8 →
    NextP w8 b2 (fun w11 => R (.tuple #[]) w11) fun v12 v13 w14 => EntryP w14 b2 fun v15 v16 =>
      YW P t0 #[v15] w14 fun t17 w18 => IfB (!t17) (R (.tuple #[]) w18) (([] : List Nat) = [] ∧ ∃ b19, b19 < b6 ∧ y4 b19 () w18)
abbrev iv0 (n : Int) : Value := .int .i64 n
def ivA (n : Int) : Array Value := #[.int .i64 n]
abbrev MO := Option (Nat × Array MapEntry × Nat)
/-- A block holds a map (or none). -/
def KeysI (b1 : Nat) (p : MO) (W : World) : Prop :=
  (∃ T, W.heap[b1]? = some (.cells #[.map (p.map (·.1))] T (0, 0))) ∧ match p with
    | none => True
    | some (r, es, ck) => W.heap[r]? = some (.map es ck)
/-- The keys of a map. -/
def KeysE (p : MO) (ks : List Int) : Prop := match p with
    | none => ks = []
    | some (_, es, ck) => es.toList.map (·.key) = ks.map iv0 ∧ ks.Nodup ∧ (∀ e ∈ es.toList, e.born < ck) ∧ (es.toList.map (·.born)).Nodup
theorem find_born {l : List MapEntry} (hn : (l.map (·.born)).Nodup) {x : MapEntry} (hx : x ∈ l) : l.find? (fun e => e.born == x.born) = some x := by
  induction l with
  | nil => cases hx
  | cons e l ih =>
    rw [List.map_cons, List.nodup_cons] at hn
    rcases List.mem_cons.1 hx with rfl | hx
    · rw [List.find?_cons_of_pos (by simp)]
    · have : e.born ≠ x.born := fun h => hn.1 (h ▸ List.mem_map_of_mem hx)
      rw [List.find?_cons_of_neg (by simpa using this)]
      exact ih hn.2 hx
theorem key_inj {l : List MapEntry} {ks : List Int} (hk : l.map (·.key) = ks.map iv0) (hn : ks.Nodup) {x y : MapEntry} (hx : x ∈ l) (hy : y ∈ l) (h : x.key = y.key) : x = y := by
  obtain ⟨i, hi, rfl⟩ := List.mem_iff_getElem.1 hx
  obtain ⟨j, hj, rfl⟩ := List.mem_iff_getElem.1 hy
  have hl := congrArg List.length hk
  simp only [List.length_map] at hl
  have e1 := congrArg (·[i]?) hk
  have e2 := congrArg (·[j]?) hk
  simp only [List.getElem?_map, List.getElem?_eq_getElem hi, List.getElem?_eq_getElem hj, List.getElem?_eq_getElem (show i < ks.length by omega), List.getElem?_eq_getElem (show j < ks.length by omega), Option.map_some, Option.some.injEq] at e1 e2
  rw [e1, e2] at h
  have : ks[i]'(by omega) = ks[j]'(by omega) := by simpa [iv0] using h
  have hp := List.pairwise_iff_getElem.1 hn
  rcases Nat.lt_trichotomy i j with h | h | h
  · exact absurd this (hp i j (by omega) (by omega) h)
  · subst h; rfl
  · exact absurd this.symm (hp j i (by omega) (by omega) h)
theorem nodup_len : ∀ {a b : List Int}, a.Nodup → (∀ x ∈ a, x ∈ b) → a.length ≤ b.length
  | [], _, _, _ => Nat.zero_le _
  | x :: a, b, hn, h => by
    rw [List.nodup_cons] at hn
    have hx := h x List.mem_cons_self
    have ih := nodup_len (b := b.erase x) hn.2 fun y hy => (List.mem_erase_of_ne (fun (e : y = x) => hn.1 (e ▸ hy))).2 (h y (List.mem_cons_of_mem _ hy))
    rw [List.length_erase_of_mem hx] at ih
    have := List.length_pos_of_mem hx
    rw [List.length_cons]; omega
theorem keys_iter {P : Program} {g : FuncId} (hen : Entr P g) {b1 : Nat} (hF : ∀ l W R, KeysF P l b1 W R → CW P g #[.func (.yield l) #[] #[], .pointer (some ⟨b1, 0, none⟩)] W R) {p : MO} {ks : List Int} (hks : KeysE p ks) :
    Iter P g #[.pointer (some ⟨b1, 0, none⟩)] ivA false (fun pre x => x ∈ ks ∧ x ∉ pre) (fun xs => xs.Perm ks) (KeysI b1 p) := by
  refine ⟨hen, fun l J Jx W hJ hJx hInv hSz _ hstep h0 => ?_⟩
  obtain ⟨⟨T, hT⟩, hM⟩ := hInv _ _ h0
  refine hF l W _ ⟨p.map (·.1), by rw [cell_of hT]; rfl, ?_⟩
  match p, hks, hM, hInv with
  | none, hks, hM, hInv =>
    have hf : ks = [] := hks
    subst hf
    refine .inl ⟨rfl, fun b2 w3 h3 => ?_⟩
    refine ⟨fun _ _ W' => W' = w3, ⟨0, rfl⟩, ?_⟩
    rintro _ _ _ _ rfl
    exact .inl ⟨0, #[], 0, h3.new, .inl ⟨[], .refl _, hJ _ _ _ h0 (Stb.alloc h3 (Nat.le_refl _))⟩⟩
  | some (r, es, ck), ⟨hk, hn, hb, hbn⟩, hM, hInv =>
    refine .inr ⟨r, es, ck, rfl, hM, fun b2 w3 h3 => ?_⟩
    have hlk := congrArg List.length hk
    simp only [List.length_map] at hlk
    refine ⟨fun n _ W' => ∃ (se : List MapEntry) (pre : List Int), n = ks.length - pre.length ∧ W'.heap[b2]? = some (.mapIter (some r) ck (se.map (·.born)).toArray ck) ∧ pre.map iv0 = se.map (·.key) ∧ (∀ e ∈ se, e ∈ es.toList) ∧ pre.Nodup ∧ J pre W' ∧ W.heap.size ≤ W'.heap.size,
      ⟨_, [], [], rfl, h3.new, rfl, by simp, .nil, hJ _ _ _ h0 (Stb.alloc h3 (Nat.le_refl _)), by rw [h3.size]; omega⟩, ?_⟩
    rintro _ _ w8 _ ⟨se, pre, rfl, hit, hpk, hse, hpn, hj, hw8⟩
    obtain ⟨_, hM8⟩ := hInv _ _ hj
    have hM8 : w8.heap[r]? = some (.map es ck) := hM8
    have pk : ∀ {k : Int}, k ∈ pre → ∃ e ∈ se, e.key = iv0 k := fun {k} h => by
      have : iv0 k ∈ se.map (·.key) := by rw [← hpk]; exact List.mem_map_of_mem h
      obtain ⟨e, he, h⟩ := List.mem_map.1 this
      exact ⟨e, he, h⟩
    have sk : ∀ {e : MapEntry}, e ∈ es.toList → ∃ k ∈ ks, e.key = iv0 k := fun {e} h => by
      have : e.key ∈ ks.map iv0 := by rw [← hk]; exact List.mem_map_of_mem h
      obtain ⟨k, hk, h⟩ := List.mem_map.1 this
      exact ⟨k, hk, h.symm⟩
    have psub : ∀ k ∈ pre, k ∈ ks := fun k h => by
      obtain ⟨e, he, h⟩ := pk h
      obtain ⟨k', hk', h'⟩ := sk (hse e he)
      rw [h'] at h
      have : k' = k := by simpa [iv0] using h
      exact this ▸ hk'
    refine .inr ⟨r, ck, _, ck, es, ck, hit, hM8, ?_, fun hall d => ?_, fun x hx hns d w' hu => ?_⟩
    · by_cases he : es.isEmpty = true
      · exact .inr (.inl he)
      · have : 0 < es.size := by
          rcases Nat.eq_zero_or_pos es.size with h | h
          · exact absurd (by simp [Array.isEmpty, h]) he
          · exact h
        exact .inr (.inr ⟨es[0], Array.getElem_mem _, hb _ (by simp)⟩)
    · refine .inl ⟨pre, ?_, hJ _ _ _ hj (Stb.drawn _ _ d)⟩
      refine (List.perm_ext_iff_of_nodup hpn hn).2 fun k => ⟨psub k, fun h => ?_⟩
      have : iv0 k ∈ es.toList.map (·.key) := by rw [hk]; exact List.mem_map_of_mem h
      obtain ⟨e, he, hek⟩ := List.mem_map.1 this
      by_cases hc : (se.map (·.born)).toArray.contains e.born = false
      · have := hall e (by simpa using he) hc
        have := hb e he
        omega
      · have hc : e.born ∈ se.map (·.born) := by simpa using hc
        obtain ⟨e', he', hbb⟩ := List.mem_map.1 hc
        have h1 := find_born hbn he
        have h2 := find_born hbn (hse e' he')
        rw [hbb] at h2
        have : e = e' := Option.some.inj (h1.symm.trans h2)
        subst this
        have : iv0 k ∈ pre.map iv0 := by rw [hpk, ← hek]; exact List.mem_map_of_mem he'
        obtain ⟨k', hk', h⟩ := List.mem_map.1 this
        have : k' = k := by simpa [iv0] using h
        exact this ▸ hk'
    · have hx' : x ∈ es.toList := by simpa using hx
      obtain ⟨k, hkk, hxk⟩ := sk hx'
      have hit' : ({ w8 with drawn := d } : World).heap[b2]? = some (.mapIter (some r) ck (se.map (·.born)).toArray ck) := hit
      have hS : Stb W.heap.size w8 w' := (Stb.drawn _ w8 d).trans (Stb.upd hu hit' rfl (by have := h3.here; omega))
      have hj' := hJ _ _ _ hj hS
      obtain ⟨_, hM'⟩ := hInv _ _ hj'
      have hkp : k ∉ pre := fun h => by
        obtain ⟨e, he, hek⟩ := pk h
        have := key_inj hk hn (hse e he) hx' (hek.trans hxk.symm)
        subst this
        have : (se.map (·.born)).toArray.contains e.born = true := by simpa using ⟨e, he, rfl⟩
        rw [this] at hns; cases hns
      refine ⟨r, ck, _, ck, es, x, hu.new, hM', by simp, ?_, ?_⟩
      · rw [← Array.find?_toList]; exact find_born hbn hx'
      · rw [hxk]
        refine (hstep pre k w' hj' ⟨hkk, hkp⟩).mono fun t w18 ht => ?_
        cases t with
        | false => exact IfB.yes rfl (.inr ⟨_, ht⟩)
        | true =>
          have hlen : (pre ++ [k]).length ≤ ks.length := by
            have hnd : (pre ++ [k]).Nodup := by
              rw [List.nodup_append]
              exact ⟨hpn, by simp, fun a ha b hb => by rw [List.mem_singleton.1 hb]; exact fun e => hkp (e ▸ ha)⟩
            exact nodup_len hnd fun a ha => by
              rcases List.mem_append.1 ha with h | h
              · exact psub a h
              · rw [List.mem_singleton.1 h]; exact hkk
          rw [List.length_append, List.length_singleton] at hlen
          refine IfB.no rfl ⟨rfl, ks.length - (pre ++ [k]).length, by rw [List.length_append, List.length_singleton]; omega, se ++ [x], pre ++ [k], rfl, ?_, ?_, ?_, ?_, ht.1, ?_⟩
          · have := ht.2 b2 _ _ _ _ hu.new
            rw [this]; simp
          · rw [List.map_append, List.map_append, hpk]; simp [hxk]
          · intro e he
            rcases List.mem_append.1 he with h | h
            · exact hse e h
            · rw [List.mem_singleton.1 h]; exact hx'
          · rw [List.nodup_append]
            exact ⟨hpn, by simp, fun a ha b hb => by rw [List.mem_singleton.1 hb]; exact fun e => hkp (e ▸ ha)⟩
          · exact hSz _ _ ht.1
end Go.Proofs.Ytmmhbjbaallkfaa.Gx
namespace Go.Proofs.Ytmmhbjbaallkfaa.Gx
open Go Go.ChangeShapes Go.WideShapes Go.ChangeAt Go.RowKit
variable {H : Type} {enc : TypeId × Value → H} {P : Program}
theorem post_of_below {f : Func} {s : ChangeSpec} {apart fresh handsOn again : Bool} {W W' : World} {args : Array Value} {v : Value} {ds gs : List (DataW H)} {before pa pv : List MemPlace}
    (hW : DataW.Whole enc P f.params.toList s.vars apart W args.toList ds gs before) (hB : Below W.heap.size W W')
    (hres : ∀ (b : Nat) (sp : Nat → Bool) (hd : Bool), DataW.TrodAll enc P W' b sp hd f.resultTypes.toList (v.resultList f.resultTypes.size) (s.fn H (ds ++ gs)).results [])
    (hargs : ∀ sp : Nat → Bool, (∀ p ∈ before, sp p.block = true) → DataW.TrodAll enc P W' 0 sp true f.params.toList args.toList (s.fn H (ds ++ gs)).args pa)
    (hvars : ∀ sp : Nat → Bool, (∀ p ∈ before, sp p.block = true) → DataW.TrodVars enc P W' sp s.vars (s.fn H (ds ++ gs)).vars pv)
    (hps : before = pa ++ pv)
    (hok : ∀ (j : Nat) (t : TypeId) (r : Value), f.resultTypes[j]? = some t → (v.resultList f.resultTypes.size)[j]? = some r → Value.okWide P W' .any 0 t r) :
    s.post enc P f apart fresh handsOn again W args v W' := by
  have low : ∀ p ∈ before, p.block < W.heap.size := hW.lt
  have hold : ∀ p ∈ before, (fun b => decide (b < W.heap.size)) p.block = true := fun p hp => decide_eq_true (low p hp)
  refine ⟨ds, gs, before, [], pa, pv, hW, hres _ _ _, hargs _ hold, hvars _ hold, World.keptBut_mono (fun p hp => ⟨hp, .inr (by rw [hps] at hp; simpa using hp)⟩) (hB.frame (· ∈ before)), fun _ => ?_⟩
  obtain ⟨_, _, _, _, _, hz, hn⟩ := hW
  refine ⟨hok, _, _, ([] ++ pa) ++ pv, ⟨[] ++ pa, pv, trodAll_append (hargs _ fun _ _ => rfl) (hres _ _ _), hvars _ fun _ _ => rfl, rfl, fun b off hp => ?_, fun ha => ?_⟩, fun p hp _ => ?_⟩
  · rw [List.nil_append, ← hps] at hp
    rw [hB.frozen (low _ hp)]
    exact hz b off hp
  · have := hn ha
    rw [hps] at this
    exact this
  · rw [hps]; exact hp
end Go.Proofs.Ytmmhbjbaallkfaa.Gx
namespace Go.Proofs.Ytmmhbjbaallkfaa.Gx
open Go
set_option linter.unusedSimpArgs false
set_option linter.unusedVariables false
inductive Ty where
  | int (k : IntKind) | bool | str
  | pair (a b : Ty)
  | sl (e : Ty)
  | arr (n : Nat) (e : Ty)
@[reducible] def Ty.den : Ty → Type
  | .int _ => Int
  | .bool => Bool
  | .str => ByteArray
  | .pair a b => a.den × b.den
  | .sl e => List e.den
  | .arr _ e => List e.den
def Ty.sz : Ty → Nat
  | .pair a b => a.sz + b.sz
  | .arr n e => n * e.sz
  | _ => 1
/-- The cells cs have the datum x; its slices' blocks are A's. -/
def rep (A : Nat → Prop) (w : World) : (t : Ty) → t.den → List Value → Prop
  | .int k, n, cs => cs = [.int k n] ∧ k.min ≤ n ∧ n ≤ k.max
  | .bool, b, cs => cs = [.bool b]
  | .str, s, cs => cs = [.string s] ∧ s.size ≤ maxLen
  | .pair a b, x, cs => ∃ c d, cs = c ++ d ∧ rep A w a x.1 c ∧ rep A w b x.2 d
  | .sl e, l, cs => ∃ s : Sl, cs = [slV s] ∧ s.n = l.length ∧ s.n ≤ s.c ∧ s.c ≤ maxLen ∧ (0 < s.n → ∀ i ∈ blk s, A i) ∧
      ∃ css : List (List Value), css.length = l.length ∧ (∀ (i : Nat) c x, css[i]? = some c → l[i]? = some x → rep A w e x c) ∧ Rd w s e.sz css.flatten
  | .arr n e, l, cs => l.length = n ∧ ∃ css : List (List Value), css.length = l.length ∧ (∀ (i : Nat) c x, css[i]? = some c → l[i]? = some x → rep A w e x c) ∧ cs = css.flatten
theorem flatten_len {css : List (List Value)} {m : Nat} (h : ∀ c ∈ css, c.length = m) : css.flatten.length = css.length * m := by
  induction css with
  | nil => simp
  | cons c css ih =>
    rw [List.flatten_cons, List.length_append, ih fun d hd => h d (by simp [hd]), h c (by simp), List.length_cons, Nat.add_mul]; omega
theorem rep_len {A : Nat → Prop} {w : World} : ∀ {t : Ty} {x : t.den} {cs : List Value}, rep A w t x cs → cs.length = t.sz
  | .int _, _, _, h => by rw [h.1]; rfl
  | .bool, _, _, h => by rw [show _ = _ from h]; rfl
  | .str, _, _, h => by rw [h.1]; rfl
  | .pair a b, _, _, h => by
    obtain ⟨c, d, rfl, h1, h2⟩ := h
    rw [List.length_append, rep_len h1, rep_len h2]; rfl
  | .sl e, _, _, h => by obtain ⟨s, rfl, _⟩ := h; rfl
  | .arr n e, l, _, h => by
    obtain ⟨hn, css, hl, hr, rfl⟩ := h
    have hm : ∀ c ∈ css, c.length = e.sz := fun c hc => by
      obtain ⟨i, hi, rfl⟩ := List.getElem_of_mem hc
      exact rep_len (hr i _ _ (List.getElem?_eq_getElem hi) (List.getElem?_eq_getElem (by omega)))
    rw [flatten_len hm, hl, hn]; rfl
theorem rep_lens {A : Nat → Prop} {w : World} {e : Ty} {l : List e.den} {css : List (List Value)} (hl : css.length = l.length) (hr : ∀ (i : Nat) c x, css[i]? = some c → l[i]? = some x → rep A w e x c) : ∀ c ∈ css, c.length = e.sz := fun c hc => by
  obtain ⟨i, hi, rfl⟩ := List.getElem_of_mem hc
  exact rep_len (hr i _ _ (List.getElem?_eq_getElem hi) (List.getElem?_eq_getElem (by omega)))
theorem Rd.nil {w w' : World} {s : Sl} {sz : Nat} {cs : List Value} (h : Rd w s sz cs) (h0 : s.n = 0) : Rd w' s sz cs := by
  obtain ⟨h1, h2⟩ := h
  rw [h0, Nat.zero_mul] at h1
  have : cs = [] := List.eq_nil_of_length_eq_zero h1
  subst this
  refine ⟨by rw [h0]; simp, ?_⟩
  unfold ReadC at h2 ⊢
  split
  · exact ⟨by rw [h0]; simp, fun i v hv => by simp at hv⟩
  · exact ⟨by rw [h0]; simp, rfl⟩
  · rfl
theorem Rd.ch0 {F : Nat → Prop} {w w' : World} {s : Sl} {sz : Nat} {cs : List Value} (h : Rd w s sz cs) (hc : Ch F w w') (hF : 0 < s.n → ∀ b ∈ blk s, ¬ F b) : Rd w' s sz cs := by
  by_cases h0 : s.n = 0
  · exact h.nil h0
  · exact h.ch hc (hF (by omega))
def ftB (P : Program) (B : TypeId → Ty → Bool) : Nat → List Field → Ty → Bool
  | _, [], _ => false
  | off, [f], ty => Nat.beq f.offset off && B f.type ty && Nat.beq (P.cellsOf f.type) ty.sz
  | off, f :: g :: fs, ty => match ty with
    | .pair a b => Nat.beq f.offset off && B f.type a && Nat.beq (P.cellsOf f.type) a.sz && ftB P B (off + a.sz) (g :: fs) b
    | _ => false
def tyB (P : Program) : Nat → TypeId → Ty → Bool
  | 0, _, _ => false
  | d + 1, t, ty => match P.underlying t with
    | some (.struct fs) => ftB P (tyB P d) 0 fs.toList ty && Nat.beq (P.cellsOf t) ty.sz
    | u => match u, ty with
      | some (.int k), .int k' => eqK k k'
      | some .bool, .bool => true
      | some .string, .str => true
      | some (.slice e), .sl x => tyB P d e x && Nat.beq (P.cellsOf e) x.sz && Nat.blt 0 x.sz
      | some (.array n e), .arr m x => Nat.beq n m && tyB P d e x && Nat.beq (P.cellsOf e) x.sz && Nat.beq (P.cellsOf t) (n * x.sz)
      | _, _ => false
section
variable {H : Type} {enc : TypeId × Value → H} {P : Program} {w : World} {base : Nat} {sp : Nat → Bool} {held : Bool}
theorem cells_at {a : Addr} {n : Nat} {c : List Value} (h : w.cells? base a n = some c) (hn : 0 < n) : a.spot = none ∧ CellsAt w a.block a.off c := by
  obtain ⟨_, hl, hc⟩ := World.cells?_some h
  obtain ⟨b, o, s⟩ := a
  have h0 := hc 0 hn
  rw [show (Addr.mk b o s).add 0 = ⟨b, o, s⟩ from rfl, List.getElem?_eq_getElem (show 0 < c.length by omega)] at h0
  have hs : s = none := by
    unfold World.cell? at h0
    split at h0
    · cases s with
      | none => rfl
      | some _ => simp at h0
    · cases h0
  subst hs
  refine ⟨rfl, fun i v hv => ?_⟩
  have := hc i (by have := (List.getElem?_eq_some_iff.1 hv).1; omega)
  rw [addr_add, hv] at this
  exact this
theorem pick {α β : Type} {Q : Nat → α → β → Prop} : ∀ (n : Nat), (∀ i, i < n → ∃ a b, Q i a b) → ∃ (av : List α) (bs : List β), av.length = n ∧ bs.length = n ∧ ∀ (i : Nat) a b, av[i]? = some a → bs[i]? = some b → Q i a b
  | 0, _ => ⟨[], [], rfl, rfl, fun i a b h => by simp at h⟩
  | n + 1, h => by
    obtain ⟨av, bs, h1, h2, h3⟩ := pick n fun i hi => h i (by omega)
    obtain ⟨a, b, hab⟩ := h n (Nat.lt_succ_self n)
    refine ⟨av ++ [a], bs ++ [b], by simp [h1], by simp [h2], fun i x y hx hy => ?_⟩
    rw [List.getElem?_append] at hx hy
    split at hx
    · rename_i hi
      rw [if_pos (by omega)] at hy
      exact h3 i x y hx hy
    · rename_i hi
      rw [if_neg (by omega)] at hy
      have e1 : i - av.length = 0 := by
        have := (List.getElem?_eq_some_iff.1 hx).1; simp at this; exact this
      have e2 : i - bs.length = 0 := by omega
      rw [e1] at hx; rw [e2] at hy
      cases hx; cases hy
      have : i = n := by omega
      subst this; exact hab
theorem cellsAt_flatten {b m : Nat} : ∀ {css : List (List Value)} {o : Nat}, (∀ (i : Nat) c, css[i]? = some c → CellsAt w b (o + i * m) c) → (∀ c ∈ css, c.length = m) → CellsAt w b o css.flatten
  | [], _, _, _ => fun i v hv => by simp at hv
  | c :: css, o, h, hm => by
    intro i v hv
    rw [List.flatten_cons, List.getElem?_append] at hv
    split at hv
    · have := h 0 c rfl i v hv
      simpa using this
    · rename_i hi
      have hc := hm c (by simp)
      have ih := cellsAt_flatten (css := css) (o := o + m) (fun j d hd => by
        have := h (j + 1) d hd
        rw [show o + m + j * m = o + (j + 1) * m by rw [Nat.add_mul]; omega]; exact this) (fun d hd => hm d (by simp [hd])) (i - c.length) v hv
      rw [show o + m + (i - c.length) = o + i by omega] at ih
      exact ih
theorem chunks {m : Nat} : ∀ (n : Nat) (cs : List Value), cs.length = n * m → cs = ((List.range n).map fun i => (cs.drop (i * m)).take m).flatten
  | 0, cs, h => by
    have : cs = [] := List.eq_nil_of_length_eq_zero (by omega)
    subst this; rfl
  | n + 1, cs, h => by
    have ih := chunks (m := m) n (cs.drop m) (by rw [List.length_drop, h, Nat.add_mul]; omega)
    rw [List.range_succ_eq_map, List.map_cons, List.flatten_cons, List.map_map]
    have e : (List.range n).map ((fun i => (cs.drop (i * m)).take m) ∘ Nat.succ) = (List.range n).map fun i => ((cs.drop m).drop (i * m)).take m := by
      apply List.map_congr_left
      intro i _
      simp only [Function.comp, List.drop_drop]
      rw [show m + i * m = Nat.succ i * m by rw [Nat.succ_mul]; omega]
    rw [e, ← ih]
    simp
theorem ft_rep {B : TypeId → Ty → Bool} {cs : List Value} (hB : ∀ (f : Field) (ty : Ty), B f.type ty = true → (∃ r n, DataW.trod enc P w base sp held n f.type ((cs.drop f.offset).take (P.cellsOf f.type)) = some r) → ∃ x : ty.den, rep (fun _ => True) w ty x ((cs.drop f.offset).take (P.cellsOf f.type))) :
    ∀ (fs : List Field) (off : Nat) (ty : Ty), ftB P B off fs ty = true → (∀ f ∈ fs, ∃ r n, DataW.trod enc P w base sp held n f.type ((cs.drop f.offset).take (P.cellsOf f.type)) = some r) → ∃ x : ty.den, rep (fun _ => True) w ty x ((cs.drop off).take ty.sz)
  | [], _, _, h, _ => by cases h
  | [f], off, ty, h, hf => by
    simp only [ftB, Bool.and_eq_true] at h
    obtain ⟨⟨h1, h2⟩, h3⟩ := h
    have e1 := Nat.eq_of_beq_eq_true h1
    have e3 := Nat.eq_of_beq_eq_true h3
    obtain ⟨x, hx⟩ := hB f ty h2 (hf f (by simp))
    rw [e1, e3] at hx
    exact ⟨x, hx⟩
  | f :: g :: fs, off, ty, h, hf => by
    simp only [ftB] at h
    split at h
    · rename_i a b
      simp only [Bool.and_eq_true] at h
      obtain ⟨⟨⟨h1, h2⟩, h3⟩, h4⟩ := h
      have e1 := Nat.eq_of_beq_eq_true h1
      have e3 := Nat.eq_of_beq_eq_true h3
      obtain ⟨x, hx⟩ := hB f a h2 (hf f (by simp))
      rw [e1, e3] at hx
      obtain ⟨y, hy⟩ := ft_rep hB (g :: fs) (off + a.sz) b h4 fun f' hf' => hf f' (List.mem_cons_of_mem _ hf')
      refine ⟨(x, y), _, _, ?_, hx, hy⟩
      show (cs.drop off).take (a.sz + b.sz) = _
      rw [List.take_add, List.drop_drop]
    · cases h
theorem trod_rep : ∀ (d : Nat) (t : TypeId) (ty : Ty) (fuel : Nat) (cs : List Value) (r : DataW H × List MemPlace), tyB P d t ty = true → DataW.trod enc P w base sp held fuel t cs = some r → ∃ x : ty.den, rep (fun _ => True) w ty x cs
  | 0, _, _, _, _, _, h, _ => by cases h
  | d + 1, t, ty, fuel, cs, r, hty, h => by
    unfold tyB at hty
    split at hty
    · rename_i fs hu
      simp only [Bool.and_eq_true] at hty
      obtain ⟨h1, h2⟩ := hty
      have htz := Nat.eq_of_beq_eq_true h2
      obtain ⟨xs, n, rfl, _, hl, hxl, hel⟩ := DataW.trod_struct hu h
      have := ft_rep (enc := enc) (P := P) (w := w) (base := base) (sp := sp) (held := held) (B := tyB P d) (cs := cs) (fun f ty hf ⟨r, m, hr⟩ => trod_rep d f.type ty m _ r hf hr) fs.toList 0 ty h1 fun f hf => by
        obtain ⟨i, hi, rfl⟩ := List.getElem_of_mem hf
        have := hel i (fs.toList[i]) (by rw [← Array.getElem?_toList, List.getElem?_eq_getElem hi])
        rw [List.getElem?_eq_getElem (by rw [hxl]; simpa using hi)] at this
        exact ⟨_, n, this⟩
      obtain ⟨x, hx⟩ := this
      rw [List.drop_zero, ← htz, ← hl, List.take_length] at hx
      exact ⟨x, hx⟩
    · skip
      split at hty
      · rename_i k k' hu
        have := eqK_eq hty; subst this
        obtain ⟨n, rfl, _, hw⟩ := DataW.trod_int hu h
        simp only [Lit.wf, Bool.and_eq_true, decide_eq_true_eq] at hw
        exact ⟨n, rfl, hw⟩
      · rename_i hu
        obtain ⟨b, rfl, _⟩ := DataW.trod_bool hu h
        exact ⟨b, rfl⟩
      · rename_i hu
        obtain ⟨s, rfl, _, hs⟩ := DataW.trod_string hu h
        exact ⟨s, rfl, hs⟩
      · rename_i e x hu
        simp only [Bool.and_eq_true] at hty
        obtain ⟨⟨h1, h2⟩, h3⟩ := hty
        have hsz := Nat.eq_of_beq_eq_true h2
        have hpos : 0 < x.sz := by simpa using h3
        rcases DataW.trod_slice hu h with ⟨rfl, _⟩ | ⟨a, len, cap, elems, rest, n, rfl, rfl, _, _, hl, hm, hlen, hel, _, _⟩
        · exact ⟨[], ⟨none, 0, 0⟩, rfl, rfl, Nat.le_refl _, Nat.zero_le _, fun h => absurd h (Nat.lt_irrefl _), [], rfl, fun i c y hc => by simp at hc, by simp [Rd, ReadC]⟩
        · obtain ⟨css, ys, g1, g2, g3⟩ := pick (Q := fun i (c : List Value) (y : x.den) => w.cells? base (a.add (i * x.sz)) x.sz = some c ∧ rep (fun _ => True) w x y c) len fun i hi => by
            have h4 := hel i hi
            rw [hsz, List.getElem?_eq_getElem (by omega), Option.bind_eq_some_iff] at h4
            obtain ⟨c, hc, hy⟩ := h4
            obtain ⟨y, hr⟩ := trod_rep d e x n c _ h1 hy
            exact ⟨c, y, hc, hr⟩
          refine ⟨ys, ⟨some a, len, cap⟩, rfl, g2.symm, hl, hm, fun _ _ _ => trivial, css, by omega, fun i c y hc hy => (g3 i c y hc hy).2, ?_⟩
          have hlens : ∀ c ∈ css, c.length = x.sz := rep_lens (by omega) fun i c y hc hy => (g3 i c y hc hy).2
          have hfl := flatten_len hlens
          refine ⟨by rw [hfl, g1], ?_⟩
          dsimp only
          by_cases h0 : len = 0
          · subst h0
            have : css = [] := List.eq_nil_of_length_eq_zero g1
            subst this
            unfold ReadC
            split
            · exact ⟨by simp, fun i v hv => by simp at hv⟩
            · exact ⟨by simp, rfl⟩
            · rfl
          · have cell0 := (g3 0 _ _ (List.getElem?_eq_getElem (show 0 < css.length by omega)) (List.getElem?_eq_getElem (show 0 < ys.length by omega))).1
            rw [Nat.zero_mul] at cell0
            have hspot := (cells_at cell0 hpos).1
            obtain ⟨b, o, s⟩ := a
            have hs : s = none := hspot
            subst hs
            refine ⟨by rw [hfl, g1], cellsAt_flatten (m := x.sz) (fun i c hc => ?_) hlens⟩
            have hi : i < css.length := (List.getElem?_eq_some_iff.1 hc).1
            have := (cells_at (g3 i c _ hc (List.getElem?_eq_getElem (show i < ys.length by omega))).1 hpos).2
            rw [addr_add] at this
            exact this
      · rename_i n e m x hu
        simp only [Bool.and_eq_true] at hty
        obtain ⟨⟨⟨h0, h1⟩, h2⟩, h3⟩ := hty
        have hnm := Nat.eq_of_beq_eq_true h0
        have hsz := Nat.eq_of_beq_eq_true h2
        have htz := Nat.eq_of_beq_eq_true h3
        subst hnm
        obtain ⟨xs, k, rfl, _, hl, hxl, hel⟩ := DataW.trod_array hu h
        rw [htz] at hl
        obtain ⟨css, ys, g1, g2, g3⟩ := pick (Q := fun i (c : List Value) (y : x.den) => c = (cs.drop (i * x.sz)).take x.sz ∧ rep (fun _ => True) w x y c) n fun i hi => by
          have h4 := hel i hi
          rw [hsz, List.getElem?_eq_getElem (by omega)] at h4
          obtain ⟨y, hr⟩ := trod_rep d e x k _ _ h1 h4
          exact ⟨_, y, rfl, hr⟩
        refine ⟨ys, g2, css, by omega, fun i c y hc hy => (g3 i c y hc hy).2, ?_⟩
        have e1 : css = (List.range n).map fun i => (cs.drop (i * x.sz)).take x.sz := by
          apply List.ext_getElem?
          intro i
          by_cases hi : i < n
          · rw [List.getElem?_map, List.getElem?_range hi, List.getElem?_eq_getElem (by omega)]
            have := (g3 i _ _ (List.getElem?_eq_getElem (show i < css.length by omega)) (List.getElem?_eq_getElem (show i < ys.length by omega))).1
            rw [this]; rfl
          · rw [List.getElem?_eq_none (by omega), List.getElem?_eq_none (by simp; omega)]
        rw [e1]
        exact chunks n cs hl
      · cases hty
/-- An argument of the row. -/
theorem open_arg {d : Nat} {t : TypeId} {ty : Ty} {v : Value} {x : DataW H} {ps : List MemPlace} (hty : tyB P d t ty = true) (h : DataW.Trod enc P w base sp held t v x ps) : ∃ y : ty.den, rep (fun _ => True) w ty y v.cells.toList := by
  obtain ⟨fuel, h⟩ := h
  exact trod_rep d t ty fuel _ _ hty h
theorem trod_keep {t : TypeId} (hl : laidOutB P = true) (hr : P.readableRec t = true) (hrow : t < P.types.size) {W W' : World} {v : Value} {d : DataW H} {ps : List MemPlace}
    (h : DataW.Trod enc P W 0 (fun _ => true) true t v d ps) (hb : RowKit.Below W.heap.size W W') (hlt : ∀ x ∈ ps, x.block < W.heap.size) {sp : Nat → Bool} (hsp : ∀ x ∈ ps, sp x.block = true) : DataW.Trod enc P W' 0 sp true t v d ps :=
  WideElems.Trod_stays hl hr hrow h (fun x hx => hb.same (hlt x hx)) hsp
theorem val_of_cells {r : Reach} {b0 : Nat} {t : TypeId} {v : Value} {c : Value} (hval : Value.okWide P w r b0 t v) (hu : ∀ fs n e, P.underlying t ≠ some (.struct fs) ∧ P.underlying t ≠ some (.array n e)) (h : v.cells.toList = [c]) : v = c := by
  cases v with
  | agg cs =>
    unfold Value.okWide at hval
    split at hval
    · rename_i fs hs; exact absurd hs (hu fs 0 0).1
    · rename_i n e hs; exact absurd hs (hu #[] n e).2
    · unfold Cell.okWide at hval
      split at hval <;> first | contradiction | skip
      unfold Cell.ok at hval
      split at hval <;> first | contradiction | exact hval.elim
  | _ => simpa [Value.cells] using h
end
end Go.Proofs.Ytmmhbjbaallkfaa.Gx
namespace Go.Proofs.Ytmmhbjbaallkfaa.Gx
open Go
set_option linter.unusedSimpArgs false
set_option linter.unusedVariables false
theorem cellLt {w : World} {a : Addr} {v : Value} (h : w.cell? a = some v) : a.block < w.heap.size := by
  unfold World.cell? at h
  split at h
  · rename_i ho; exact heap_lt ho
  · cases h
theorem rd_lt {w : World} {s : Sl} {sz : Nat} {cs : List Value} (h : Rd w s sz cs) (hz : 0 < sz) (h0 : 0 < s.n) : ∀ i ∈ blk s, i < w.heap.size := by
  obtain ⟨b, o, hp, hc⟩ := h.elem h0 hz rfl
  intro i hi
  simp [blk, hp] at hi
  subst hi
  have hl : ((cs.drop (0 * sz)).take sz).length = sz := by
    rw [List.length_take, List.length_drop, h.1]
    have : 1 * sz ≤ s.n * sz := Nat.mul_le_mul_right _ h0
    omega
  cases hq : (cs.drop (0 * sz)).take sz with
  | nil => rw [hq] at hl; simp at hl; omega
  | cons v l => rw [hq] at hc; exact cellLt (hc 0 v rfl)
theorem cell_stb {n : Nat} {w w' : World} {a : Addr} {v : Value} (h : w.cell? a = some v) (hS : Stb n w w') : w'.cell? a = some v := by
  unfold World.cell? at h ⊢
  split at h
  · rename_i ho; rw [hS.keep _ _ ho rfl]; exact h
  · cases h
theorem rd_stb {n : Nat} {w w' : World} {s : Sl} {sz : Nat} {cs : List Value} (h : Rd w s sz cs) (hS : Stb n w w') : Rd w' s sz cs := by
  obtain ⟨h1, h2⟩ := h
  refine ⟨h1, ?_⟩
  unfold ReadC at h2 ⊢
  split at h2
  · exact ⟨h2.1, fun i v hv => cell_stb (h2.2 i v hv) hS⟩
  · exact h2
  · exact h2
end Go.Proofs.Ytmmhbjbaallkfaa.Gx

/- Written by mktab.py: the types that the functions of this seat use, as Gx reads them, and the facts on each function. -/
namespace Go.Proofs.Ytmmhbjbaallkfaa.Gx
open Go
abbrev tt3 : TI := { kd := .int .i64, size := 1, bytes := 8, zero := (.int .i64 0), sh := .one (.int .i64) }
abbrev tt27 : TI := { kd := .struct [(3, 0), (3, 1), (3, 2), (4, 3), (25, 4), (25, 5)], size := 6, bytes := 80, zero := (.agg #[(.int .i64 0), (.int .i64 0), (.int .i64 0), (.bool false), (.slice none 0 0), (.slice none 0 0)]), sh := .agg [.int .i64, .int .i64, .int .i64, .bool, .sl, .sl] }
abbrev tt31 : TI := { kd := .slice 3, size := 1, bytes := 24, zero := (.slice none 0 0), sh := .one .sl }
abbrev tt44 : TI := { kd := .array 2 3, size := 2, bytes := 16, zero := (.agg #[(.int .i64 0), (.int .i64 0)]), sh := .agg [.int .i64, .int .i64] }
abbrev tt51 : TI := { kd := .struct [(3, 0), (3, 1)], size := 2, bytes := 16, zero := (.agg #[(.int .i64 0), (.int .i64 0)]), sh := .agg [.int .i64, .int .i64] }
def tbL : List (Nat × TI) := [
  (0, { kd := .other, size := 1, bytes := 0, zero := (.tuple #[]), sh := .tup [] }),
  (3, { kd := .int .i64, size := 1, bytes := 8, zero := (.int .i64 0), sh := .one (.int .i64) }),
  (4, { kd := .bool, size := 1, bytes := 1, zero := (.bool false), sh := .one .bool }),
  (5, { kd := .int .u8, size := 1, bytes := 1, zero := (.int .u8 0), sh := .one (.int .u8) }),
  (9, { kd := .string, size := 1, bytes := 16, zero := (.string ⟨#[]⟩), sh := .one .str }),
  (20, { kd := .iface, size := 1, bytes := 16, zero := .nilIface, sh := .one .any }),
  (22, { kd := .slice 27, size := 1, bytes := 24, zero := (.slice none 0 0), sh := .one .sl }),
  (25, { kd := .slice 51, size := 1, bytes := 24, zero := (.slice none 0 0), sh := .one .sl }),
  (27, { kd := .struct [(3, 0), (3, 1), (3, 2), (4, 3), (25, 4), (25, 5)], size := 6, bytes := 80, zero := (.agg #[(.int .i64 0), (.int .i64 0), (.int .i64 0), (.bool false), (.slice none 0 0), (.slice none 0 0)]), sh := .agg [.int .i64, .int .i64, .int .i64, .bool, .sl, .sl] }),
  (29, { kd := .slice 31, size := 1, bytes := 24, zero := (.slice none 0 0), sh := .one .sl }),
  (31, { kd := .slice 3, size := 1, bytes := 24, zero := (.slice none 0 0), sh := .one .sl }),
  (33, { kd := .slice 37, size := 1, bytes := 24, zero := (.slice none 0 0), sh := .one .sl }),
  (37, { kd := .slice 4, size := 1, bytes := 24, zero := (.slice none 0 0), sh := .one .sl }),
  (40, { kd := .slice 44, size := 1, bytes := 24, zero := (.slice none 0 0), sh := .one .sl }),
  (44, { kd := .array 2 3, size := 2, bytes := 16, zero := (.agg #[(.int .i64 0), (.int .i64 0)]), sh := .agg [.int .i64, .int .i64] }),
  (48, { kd := .other, size := 1, bytes := 0, zero := (.tuple #[(.slice none 0 0), (.bool false)]), sh := .tup [.sl, .bool] }),
  (51, { kd := .struct [(3, 0), (3, 1)], size := 2, bytes := 16, zero := (.agg #[(.int .i64 0), (.int .i64 0)]), sh := .agg [.int .i64, .int .i64] }),
  (52, { kd := .ptr, size := 1, bytes := 8, zero := (.pointer none), sh := .one .ptr }),
  (57, { kd := .func, size := 1, bytes := 8, zero := .nilFunc, sh := .one .clo }),
  (59, { kd := .map 44 4, size := 1, bytes := 8, zero := (.map none), sh := .one .map }),
  (63, { kd := .func, size := 1, bytes := 8, zero := .nilFunc, sh := .one .clo }),
  (67, { kd := .func, size := 1, bytes := 8, zero := .nilFunc, sh := .one .clo }),
  (70, { kd := .map 3 4, size := 1, bytes := 8, zero := (.map none), sh := .one .map }),
  (72, { kd := .array 1000 4, size := 1000, bytes := 1000, zero := (.agg (Array.replicate 1000 (.bool false))), sh := .one .arr }),
  (73, { kd := .func, size := 1, bytes := 8, zero := .nilFunc, sh := .one .clo }),
  (74, { kd := .func, size := 1, bytes := 8, zero := .nilFunc, sh := .one .clo }),
  (75, { kd := .func, size := 1, bytes := 8, zero := .nilFunc, sh := .one .clo }),
  (78, { kd := .func, size := 1, bytes := 8, zero := .nilFunc, sh := .one .clo }),
  (79, { kd := .func, size := 1, bytes := 8, zero := .nilFunc, sh := .one .clo }),
  (84, { kd := .int .u64, size := 1, bytes := 8, zero := (.int .u64 0), sh := .one (.int .u64) }),
  (87, { kd := .func, size := 1, bytes := 8, zero := .nilFunc, sh := .one .clo }),
  (91, { kd := .func, size := 1, bytes := 8, zero := .nilFunc, sh := .one .clo }),
  (92, { kd := .func, size := 1, bytes := 8, zero := .nilFunc, sh := .one .clo }),
  (93, { kd := .func, size := 1, bytes := 8, zero := .nilFunc, sh := .one .clo }),
  (97, { kd := .int .i64, size := 1, bytes := 8, zero := (.int .i64 0), sh := .one (.int .i64) }),
  (98, { kd := .other, size := 1, bytes := 0, zero := (.tuple #[(.int .i64 0), (.int .i64 0)]), sh := .tup [.int .i64, .int .i64] }),
  (102, { kd := .other, size := 1, bytes := 0, zero := (.tuple #[(.int .i64 0), (.bool false)]), sh := .tup [.int .i64, .bool] }),
  (105, { kd := .int .u32, size := 1, bytes := 4, zero := (.int .u32 0), sh := .one (.int .u32) }),
  (107, { kd := .int .u64, size := 1, bytes := 8, zero := (.int .u64 0), sh := .one (.int .u64) }),
  (116, { kd := .func, size := 1, bytes := 8, zero := .nilFunc, sh := .one .clo }),
  (117, { kd := .slice 25, size := 1, bytes := 24, zero := (.slice none 0 0), sh := .one .sl }),
  (120, { kd := .func, size := 1, bytes := 8, zero := .nilFunc, sh := .one .clo }),
  (121, { kd := .int .u64, size := 1, bytes := 8, zero := (.int .u64 0), sh := .one (.int .u64) }),
  (125, { kd := .ptr, size := 1, bytes := 8, zero := (.pointer none), sh := .one .ptr }),
  (132, { kd := .ptr, size := 1, bytes := 8, zero := (.pointer none), sh := .one .ptr }),
  (133, { kd := .other, size := 1, bytes := 0, zero := (.tuple #[(.int .i64 0), (.int .i64 0)]), sh := .tup [.int .i64, .int .i64] })
  ]
def tb : Tab := fun t => lkT t tbL
theorem ti0 : TI.Ok Try.prog 0 { kd := .other, size := 1, bytes := 0, zero := (.tuple #[]), sh := .tup [] } := ⟨by kernel_rfl, by kernel_rfl, by rfl⟩
theorem ti3 : TI.Ok Try.prog 3 { kd := .int .i64, size := 1, bytes := 8, zero := (.int .i64 0), sh := .one (.int .i64) } := ⟨by kernel_rfl, by kernel_rfl, by rfl⟩
theorem ti4 : TI.Ok Try.prog 4 { kd := .bool, size := 1, bytes := 1, zero := (.bool false), sh := .one .bool } := ⟨by kernel_rfl, by kernel_rfl, by rfl⟩
theorem ti5 : TI.Ok Try.prog 5 { kd := .int .u8, size := 1, bytes := 1, zero := (.int .u8 0), sh := .one (.int .u8) } := ⟨by kernel_rfl, by kernel_rfl, by rfl⟩
theorem ti9 : TI.Ok Try.prog 9 { kd := .string, size := 1, bytes := 16, zero := (.string ⟨#[]⟩), sh := .one .str } := ⟨by kernel_rfl, by kernel_rfl, by rfl⟩
theorem ti20 : TI.Ok Try.prog 20 { kd := .iface, size := 1, bytes := 16, zero := .nilIface, sh := .one .any } := ⟨by kernel_rfl, by kernel_rfl, by rfl⟩
theorem ti22 : TI.Ok Try.prog 22 { kd := .slice 27, size := 1, bytes := 24, zero := (.slice none 0 0), sh := .one .sl } := ⟨by kernel_rfl, by kernel_rfl, by rfl⟩
theorem ti25 : TI.Ok Try.prog 25 { kd := .slice 51, size := 1, bytes := 24, zero := (.slice none 0 0), sh := .one .sl } := ⟨by kernel_rfl, by kernel_rfl, by rfl⟩
theorem ti27 : TI.Ok Try.prog 27 { kd := .struct [(3, 0), (3, 1), (3, 2), (4, 3), (25, 4), (25, 5)], size := 6, bytes := 80, zero := (.agg #[(.int .i64 0), (.int .i64 0), (.int .i64 0), (.bool false), (.slice none 0 0), (.slice none 0 0)]), sh := .agg [.int .i64, .int .i64, .int .i64, .bool, .sl, .sl] } := ⟨by kernel_rfl, by kernel_rfl, by rfl⟩
theorem ti29 : TI.Ok Try.prog 29 { kd := .slice 31, size := 1, bytes := 24, zero := (.slice none 0 0), sh := .one .sl } := ⟨by kernel_rfl, by kernel_rfl, by rfl⟩
theorem ti31 : TI.Ok Try.prog 31 { kd := .slice 3, size := 1, bytes := 24, zero := (.slice none 0 0), sh := .one .sl } := ⟨by kernel_rfl, by kernel_rfl, by rfl⟩
theorem ti33 : TI.Ok Try.prog 33 { kd := .slice 37, size := 1, bytes := 24, zero := (.slice none 0 0), sh := .one .sl } := ⟨by kernel_rfl, by kernel_rfl, by rfl⟩
theorem ti37 : TI.Ok Try.prog 37 { kd := .slice 4, size := 1, bytes := 24, zero := (.slice none 0 0), sh := .one .sl } := ⟨by kernel_rfl, by kernel_rfl, by rfl⟩
theorem ti40 : TI.Ok Try.prog 40 { kd := .slice 44, size := 1, bytes := 24, zero := (.slice none 0 0), sh := .one .sl } := ⟨by kernel_rfl, by kernel_rfl, by rfl⟩
theorem ti44 : TI.Ok Try.prog 44 { kd := .array 2 3, size := 2, bytes := 16, zero := (.agg #[(.int .i64 0), (.int .i64 0)]), sh := .agg [.int .i64, .int .i64] } := ⟨by kernel_rfl, by kernel_rfl, by rfl⟩
theorem ti48 : TI.Ok Try.prog 48 { kd := .other, size := 1, bytes := 0, zero := (.tuple #[(.slice none 0 0), (.bool false)]), sh := .tup [.sl, .bool] } := ⟨by kernel_rfl, by kernel_rfl, by rfl⟩
theorem ti51 : TI.Ok Try.prog 51 { kd := .struct [(3, 0), (3, 1)], size := 2, bytes := 16, zero := (.agg #[(.int .i64 0), (.int .i64 0)]), sh := .agg [.int .i64, .int .i64] } := ⟨by kernel_rfl, by kernel_rfl, by rfl⟩
theorem ti52 : TI.Ok Try.prog 52 { kd := .ptr, size := 1, bytes := 8, zero := (.pointer none), sh := .one .ptr } := ⟨by kernel_rfl, by kernel_rfl, by rfl⟩
theorem ti57 : TI.Ok Try.prog 57 { kd := .func, size := 1, bytes := 8, zero := .nilFunc, sh := .one .clo } := ⟨by kernel_rfl, by kernel_rfl, by rfl⟩
theorem ti59 : TI.Ok Try.prog 59 { kd := .map 44 4, size := 1, bytes := 8, zero := (.map none), sh := .one .map } := ⟨by kernel_rfl, by kernel_rfl, by rfl⟩
theorem ti63 : TI.Ok Try.prog 63 { kd := .func, size := 1, bytes := 8, zero := .nilFunc, sh := .one .clo } := ⟨by kernel_rfl, by kernel_rfl, by rfl⟩
theorem ti67 : TI.Ok Try.prog 67 { kd := .func, size := 1, bytes := 8, zero := .nilFunc, sh := .one .clo } := ⟨by kernel_rfl, by kernel_rfl, by rfl⟩
theorem ti70 : TI.Ok Try.prog 70 { kd := .map 3 4, size := 1, bytes := 8, zero := (.map none), sh := .one .map } := ⟨by kernel_rfl, by kernel_rfl, by rfl⟩
theorem ti72 : TI.Ok Try.prog 72 { kd := .array 1000 4, size := 1000, bytes := 1000, zero := (.agg (Array.replicate 1000 (.bool false))), sh := .one .arr } := ⟨by kernel_rfl, by kernel_rfl, by simp [Value.cells]⟩
theorem ti73 : TI.Ok Try.prog 73 { kd := .func, size := 1, bytes := 8, zero := .nilFunc, sh := .one .clo } := ⟨by kernel_rfl, by kernel_rfl, by rfl⟩
theorem ti74 : TI.Ok Try.prog 74 { kd := .func, size := 1, bytes := 8, zero := .nilFunc, sh := .one .clo } := ⟨by kernel_rfl, by kernel_rfl, by rfl⟩
theorem ti75 : TI.Ok Try.prog 75 { kd := .func, size := 1, bytes := 8, zero := .nilFunc, sh := .one .clo } := ⟨by kernel_rfl, by kernel_rfl, by rfl⟩
theorem ti78 : TI.Ok Try.prog 78 { kd := .func, size := 1, bytes := 8, zero := .nilFunc, sh := .one .clo } := ⟨by kernel_rfl, by kernel_rfl, by rfl⟩
theorem ti79 : TI.Ok Try.prog 79 { kd := .func, size := 1, bytes := 8, zero := .nilFunc, sh := .one .clo } := ⟨by kernel_rfl, by kernel_rfl, by rfl⟩
theorem ti84 : TI.Ok Try.prog 84 { kd := .int .u64, size := 1, bytes := 8, zero := (.int .u64 0), sh := .one (.int .u64) } := ⟨by kernel_rfl, by kernel_rfl, by rfl⟩
theorem ti87 : TI.Ok Try.prog 87 { kd := .func, size := 1, bytes := 8, zero := .nilFunc, sh := .one .clo } := ⟨by kernel_rfl, by kernel_rfl, by rfl⟩
theorem ti91 : TI.Ok Try.prog 91 { kd := .func, size := 1, bytes := 8, zero := .nilFunc, sh := .one .clo } := ⟨by kernel_rfl, by kernel_rfl, by rfl⟩
theorem ti92 : TI.Ok Try.prog 92 { kd := .func, size := 1, bytes := 8, zero := .nilFunc, sh := .one .clo } := ⟨by kernel_rfl, by kernel_rfl, by rfl⟩
theorem ti93 : TI.Ok Try.prog 93 { kd := .func, size := 1, bytes := 8, zero := .nilFunc, sh := .one .clo } := ⟨by kernel_rfl, by kernel_rfl, by rfl⟩
theorem ti97 : TI.Ok Try.prog 97 { kd := .int .i64, size := 1, bytes := 8, zero := (.int .i64 0), sh := .one (.int .i64) } := ⟨by kernel_rfl, by kernel_rfl, by rfl⟩
theorem ti98 : TI.Ok Try.prog 98 { kd := .other, size := 1, bytes := 0, zero := (.tuple #[(.int .i64 0), (.int .i64 0)]), sh := .tup [.int .i64, .int .i64] } := ⟨by kernel_rfl, by kernel_rfl, by rfl⟩
theorem ti102 : TI.Ok Try.prog 102 { kd := .other, size := 1, bytes := 0, zero := (.tuple #[(.int .i64 0), (.bool false)]), sh := .tup [.int .i64, .bool] } := ⟨by kernel_rfl, by kernel_rfl, by rfl⟩
theorem ti105 : TI.Ok Try.prog 105 { kd := .int .u32, size := 1, bytes := 4, zero := (.int .u32 0), sh := .one (.int .u32) } := ⟨by kernel_rfl, by kernel_rfl, by rfl⟩
theorem ti107 : TI.Ok Try.prog 107 { kd := .int .u64, size := 1, bytes := 8, zero := (.int .u64 0), sh := .one (.int .u64) } := ⟨by kernel_rfl, by kernel_rfl, by rfl⟩
theorem ti116 : TI.Ok Try.prog 116 { kd := .func, size := 1, bytes := 8, zero := .nilFunc, sh := .one .clo } := ⟨by kernel_rfl, by kernel_rfl, by rfl⟩
theorem ti117 : TI.Ok Try.prog 117 { kd := .slice 25, size := 1, bytes := 24, zero := (.slice none 0 0), sh := .one .sl } := ⟨by kernel_rfl, by kernel_rfl, by rfl⟩
theorem ti120 : TI.Ok Try.prog 120 { kd := .func, size := 1, bytes := 8, zero := .nilFunc, sh := .one .clo } := ⟨by kernel_rfl, by kernel_rfl, by rfl⟩
theorem ti121 : TI.Ok Try.prog 121 { kd := .int .u64, size := 1, bytes := 8, zero := (.int .u64 0), sh := .one (.int .u64) } := ⟨by kernel_rfl, by kernel_rfl, by rfl⟩
theorem ti125 : TI.Ok Try.prog 125 { kd := .ptr, size := 1, bytes := 8, zero := (.pointer none), sh := .one .ptr } := ⟨by kernel_rfl, by kernel_rfl, by rfl⟩
theorem ti132 : TI.Ok Try.prog 132 { kd := .ptr, size := 1, bytes := 8, zero := (.pointer none), sh := .one .ptr } := ⟨by kernel_rfl, by kernel_rfl, by rfl⟩
theorem ti133 : TI.Ok Try.prog 133 { kd := .other, size := 1, bytes := 0, zero := (.tuple #[(.int .i64 0), (.int .i64 0)]), sh := .tup [.int .i64, .int .i64] } := ⟨by kernel_rfl, by kernel_rfl, by rfl⟩
theorem lkT_mem {t : Nat} {i : TI} : ∀ {l : List (Nat × TI)}, lkT t l = some i → (t, i) ∈ l
  | [], h => by cases h
  | q :: l, h => by
    unfold lkT at h
    split at h
    · rename_i e
      have := Nat.eq_of_beq_eq_true e
      subst this
      cases h
      exact List.mem_cons_self ..
    · exact List.mem_cons_of_mem _ (lkT_mem h)
theorem tbOk : tb.Ok Try.prog := by
  intro t i h
  have h := lkT_mem h
  simp only [tbL, List.mem_cons, List.not_mem_nil, or_false, Prod.mk.injEq] at h
  rcases h with ⟨rfl, rfl⟩ | ⟨rfl, rfl⟩ | ⟨rfl, rfl⟩ | ⟨rfl, rfl⟩ | ⟨rfl, rfl⟩ | ⟨rfl, rfl⟩ | ⟨rfl, rfl⟩ | ⟨rfl, rfl⟩ | ⟨rfl, rfl⟩ | ⟨rfl, rfl⟩ | ⟨rfl, rfl⟩ | ⟨rfl, rfl⟩ | ⟨rfl, rfl⟩ | ⟨rfl, rfl⟩ | ⟨rfl, rfl⟩ | ⟨rfl, rfl⟩ | ⟨rfl, rfl⟩ | ⟨rfl, rfl⟩ | ⟨rfl, rfl⟩ | ⟨rfl, rfl⟩ | ⟨rfl, rfl⟩ | ⟨rfl, rfl⟩ | ⟨rfl, rfl⟩ | ⟨rfl, rfl⟩ | ⟨rfl, rfl⟩ | ⟨rfl, rfl⟩ | ⟨rfl, rfl⟩ | ⟨rfl, rfl⟩ | ⟨rfl, rfl⟩ | ⟨rfl, rfl⟩ | ⟨rfl, rfl⟩ | ⟨rfl, rfl⟩ | ⟨rfl, rfl⟩ | ⟨rfl, rfl⟩ | ⟨rfl, rfl⟩ | ⟨rfl, rfl⟩ | ⟨rfl, rfl⟩ | ⟨rfl, rfl⟩ | ⟨rfl, rfl⟩ | ⟨rfl, rfl⟩ | ⟨rfl, rfl⟩ | ⟨rfl, rfl⟩ | ⟨rfl, rfl⟩ | ⟨rfl, rfl⟩ | ⟨rfl, rfl⟩ | ⟨rfl, rfl⟩
  · exact ti0
  · exact ti3
  · exact ti4
  · exact ti5
  · exact ti9
  · exact ti20
  · exact ti22
  · exact ti25
  · exact ti27
  · exact ti29
  · exact ti31
  · exact ti33
  · exact ti37
  · exact ti40
  · exact ti44
  · exact ti48
  · exact ti51
  · exact ti52
  · exact ti57
  · exact ti59
  · exact ti63
  · exact ti67
  · exact ti70
  · exact ti72
  · exact ti73
  · exact ti74
  · exact ti75
  · exact ti78
  · exact ti79
  · exact ti84
  · exact ti87
  · exact ti91
  · exact ti92
  · exact ti93
  · exact ti97
  · exact ti98
  · exact ti102
  · exact ti105
  · exact ti107
  · exact ti116
  · exact ti117
  · exact ti120
  · exact ti121
  · exact ti125
  · exact ti132
  · exact ti133
theorem mixed : Try.prog.follows .mixedOrders = true := by kernel_rfl
theorem en9 : Entr Try.prog 9 := entr_of Try.func9 (by kernel_rfl) (by kernel_rfl)
theorem en10 : Entr Try.prog 10 := entr_of Try.func10 (by kernel_rfl) (by kernel_rfl)
theorem en11 : Entr Try.prog 11 := entr_of Try.func11 (by kernel_rfl) (by kernel_rfl)
theorem en12 : Entr Try.prog 12 := entr_of Try.func12 (by kernel_rfl) (by kernel_rfl)
theorem en13 : Entr Try.prog 13 := entr_of Try.func13 (by kernel_rfl) (by kernel_rfl)
theorem en14 : Entr Try.prog 14 := entr_of Try.func14 (by kernel_rfl) (by kernel_rfl)
theorem en16 : Entr Try.prog 16 := entr_of Try.func16 (by kernel_rfl) (by kernel_rfl)
theorem en17 : Entr Try.prog 17 := entr_of Try.func17 (by kernel_rfl) (by kernel_rfl)
theorem en20 : Entr Try.prog 20 := entr_of Try.func20 (by kernel_rfl) (by kernel_rfl)
theorem en21 : Entr Try.prog 21 := entr_of Try.func21 (by kernel_rfl) (by kernel_rfl)
theorem en22 : Entr Try.prog 22 := entr_of Try.func22 (by kernel_rfl) (by kernel_rfl)
theorem en23 : Entr Try.prog 23 := entr_of Try.func23 (by kernel_rfl) (by kernel_rfl)
theorem en25 : Entr Try.prog 25 := entr_of Try.func25 (by kernel_rfl) (by kernel_rfl)
theorem en26 : Entr Try.prog 26 := entr_of Try.func26 (by kernel_rfl) (by kernel_rfl)
theorem en28 : Entr Try.prog 28 := entr_of Try.func28 (by kernel_rfl) (by kernel_rfl)
theorem en30 : Entr Try.prog 30 := entr_of Try.func30 (by kernel_rfl) (by kernel_rfl)
theorem en31 : Entr Try.prog 31 := entr_of Try.func31 (by kernel_rfl) (by kernel_rfl)
theorem en32 : Entr Try.prog 32 := entr_of Try.func32 (by kernel_rfl) (by kernel_rfl)
theorem en33 : Entr Try.prog 33 := entr_of Try.func33 (by kernel_rfl) (by kernel_rfl)
theorem en34 : Entr Try.prog 34 := entr_of Try.func34 (by kernel_rfl) (by kernel_rfl)
theorem en35 : Entr Try.prog 35 := entr_of Try.func35 (by kernel_rfl) (by kernel_rfl)
theorem en36 : Entr Try.prog 36 := entr_of Try.func36 (by kernel_rfl) (by kernel_rfl)
theorem en37 : Entr Try.prog 37 := entr_of Try.func37 (by kernel_rfl) (by kernel_rfl)
theorem en38 : Entr Try.prog 38 := entr_of Try.func38 (by kernel_rfl) (by kernel_rfl)
theorem en39 : Entr Try.prog 39 := entr_of Try.func39 (by kernel_rfl) (by kernel_rfl)
theorem en41 : Entr Try.prog 41 := entr_of Try.func41 (by kernel_rfl) (by kernel_rfl)
theorem en42 : Entr Try.prog 42 := entr_of Try.func42 (by kernel_rfl) (by kernel_rfl)
theorem en43 : Entr Try.prog 43 := entr_of Try.func43 (by kernel_rfl) (by kernel_rfl)
theorem en44 : Entr Try.prog 44 := entr_of Try.func44 (by kernel_rfl) (by kernel_rfl)
theorem en45 : Entr Try.prog 45 := entr_of Try.func45 (by kernel_rfl) (by kernel_rfl)
theorem en46 : Entr Try.prog 46 := entr_of Try.func46 (by kernel_rfl) (by kernel_rfl)
theorem en47 : Entr Try.prog 47 := entr_of Try.func47 (by kernel_rfl) (by kernel_rfl)
theorem en48 : Entr Try.prog 48 := entr_of Try.func48 (by kernel_rfl) (by kernel_rfl)
theorem en49 : Entr Try.prog 49 := entr_of Try.func49 (by kernel_rfl) (by kernel_rfl)
theorem en50 : Entr Try.prog 50 := entr_of Try.func50 (by kernel_rfl) (by kernel_rfl)
theorem en52 : Entr Try.prog 52 := entr_of Try.func52 (by kernel_rfl) (by kernel_rfl)
theorem en53 : Entr Try.prog 53 := entr_of Try.func53 (by kernel_rfl) (by kernel_rfl)
theorem en54 : Entr Try.prog 54 := entr_of Try.func54 (by kernel_rfl) (by kernel_rfl)
theorem en55 : Entr Try.prog 55 := entr_of Try.func55 (by kernel_rfl) (by kernel_rfl)
theorem en56 : Entr Try.prog 56 := entr_of Try.func56 (by kernel_rfl) (by kernel_rfl)
theorem en57 : Entr Try.prog 57 := entr_of Try.func57 (by kernel_rfl) (by kernel_rfl)
theorem en58 : Entr Try.prog 58 := entr_of Try.func58 (by kernel_rfl) (by kernel_rfl)
theorem en59 : Entr Try.prog 59 := entr_of Try.func59 (by kernel_rfl) (by kernel_rfl)
theorem en60 : Entr Try.prog 60 := entr_of Try.func60 (by kernel_rfl) (by kernel_rfl)
theorem en61 : Entr Try.prog 61 := entr_of Try.func61 (by kernel_rfl) (by kernel_rfl)
theorem en62 : Entr Try.prog 62 := entr_of Try.func62 (by kernel_rfl) (by kernel_rfl)
theorem en63 : Entr Try.prog 63 := entr_of Try.func63 (by kernel_rfl) (by kernel_rfl)
theorem en64 : Entr Try.prog 64 := entr_of Try.func64 (by kernel_rfl) (by kernel_rfl)
theorem en65 : Entr Try.prog 65 := entr_of Try.func65 (by kernel_rfl) (by kernel_rfl)
theorem en66 : Entr Try.prog 66 := entr_of Try.func66 (by kernel_rfl) (by kernel_rfl)
theorem en67 : Entr Try.prog 67 := entr_of Try.func67 (by kernel_rfl) (by kernel_rfl)
theorem en68 : Entr Try.prog 68 := entr_of Try.func68 (by kernel_rfl) (by kernel_rfl)
theorem en69 : Entr Try.prog 69 := entr_of Try.func69 (by kernel_rfl) (by kernel_rfl)
theorem en70 : Entr Try.prog 70 := entr_of Try.func70 (by kernel_rfl) (by kernel_rfl)
theorem en71 : Entr Try.prog 71 := entr_of Try.func71 (by kernel_rfl) (by kernel_rfl)
theorem en72 : Entr Try.prog 72 := entr_of Try.func72 (by kernel_rfl) (by kernel_rfl)
theorem en73 : Entr Try.prog 73 := entr_of Try.func73 (by kernel_rfl) (by kernel_rfl)
theorem en74 : Entr Try.prog 74 := entr_of Try.func74 (by kernel_rfl) (by kernel_rfl)
theorem en75 : Entr Try.prog 75 := entr_of Try.func75 (by kernel_rfl) (by kernel_rfl)
theorem en76 : Entr Try.prog 76 := entr_of Try.func76 (by kernel_rfl) (by kernel_rfl)
theorem en77 : Entr Try.prog 77 := entr_of Try.func77 (by kernel_rfl) (by kernel_rfl)
theorem en78 : Entr Try.prog 78 := entr_of Try.func78 (by kernel_rfl) (by kernel_rfl)
theorem en79 : Entr Try.prog 79 := entr_of Try.func79 (by kernel_rfl) (by kernel_rfl)
theorem en80 : Entr Try.prog 80 := entr_of Try.func80 (by kernel_rfl) (by kernel_rfl)
theorem en81 : Entr Try.prog 81 := entr_of Try.func81 (by kernel_rfl) (by kernel_rfl)
theorem en82 : Entr Try.prog 82 := entr_of Try.func82 (by kernel_rfl) (by kernel_rfl)
theorem en84 : Entr Try.prog 84 := entr_of Try.func84 (by kernel_rfl) (by kernel_rfl)
theorem en85 : Entr Try.prog 85 := entr_of Try.func85 (by kernel_rfl) (by kernel_rfl)
theorem en86 : Entr Try.prog 86 := entr_of Try.func86 (by kernel_rfl) (by kernel_rfl)
theorem en87 : Entr Try.prog 87 := entr_of Try.func87 (by kernel_rfl) (by kernel_rfl)
theorem en88 : Entr Try.prog 88 := entr_of Try.func88 (by kernel_rfl) (by kernel_rfl)
theorem en89 : Entr Try.prog 89 := entr_of Try.func89 (by kernel_rfl) (by kernel_rfl)
theorem en90 : Entr Try.prog 90 := entr_of Try.func90 (by kernel_rfl) (by kernel_rfl)
theorem en91 : Entr Try.prog 91 := entr_of Try.func91 (by kernel_rfl) (by kernel_rfl)
theorem en92 : Entr Try.prog 92 := entr_of Try.func92 (by kernel_rfl) (by kernel_rfl)
theorem en93 : Entr Try.prog 93 := entr_of Try.func93 (by kernel_rfl) (by kernel_rfl)
theorem en94 : Entr Try.prog 94 := entr_of Try.func94 (by kernel_rfl) (by kernel_rfl)
theorem en95 : Entr Try.prog 95 := entr_of Try.func95 (by kernel_rfl) (by kernel_rfl)
theorem en96 : Entr Try.prog 96 := entr_of Try.func96 (by kernel_rfl) (by kernel_rfl)
theorem en97 : Entr Try.prog 97 := entr_of Try.func97 (by kernel_rfl) (by kernel_rfl)
theorem en98 : Entr Try.prog 98 := entr_of Try.func98 (by kernel_rfl) (by kernel_rfl)
theorem en99 : Entr Try.prog 99 := entr_of Try.func99 (by kernel_rfl) (by kernel_rfl)
theorem en100 : Entr Try.prog 100 := entr_of Try.func100 (by kernel_rfl) (by kernel_rfl)
theorem en101 : Entr Try.prog 101 := entr_of Try.func101 (by kernel_rfl) (by kernel_rfl)
theorem en102 : Entr Try.prog 102 := entr_of Try.func102 (by kernel_rfl) (by kernel_rfl)
theorem en103 : Entr Try.prog 103 := entr_of Try.func103 (by kernel_rfl) (by kernel_rfl)
theorem en104 : Entr Try.prog 104 := entr_of Try.func104 (by kernel_rfl) (by kernel_rfl)
theorem en105 : Entr Try.prog 105 := entr_of Try.func105 (by kernel_rfl) (by kernel_rfl)
theorem en106 : Entr Try.prog 106 := entr_of Try.func106 (by kernel_rfl) (by kernel_rfl)
theorem en107 : Entr Try.prog 107 := entr_of Try.func107 (by kernel_rfl) (by kernel_rfl)
theorem en108 : Entr Try.prog 108 := entr_of Try.func108 (by kernel_rfl) (by kernel_rfl)
theorem en109 : Entr Try.prog 109 := entr_of Try.func109 (by kernel_rfl) (by kernel_rfl)
theorem en110 : Entr Try.prog 110 := entr_of Try.func110 (by kernel_rfl) (by kernel_rfl)
theorem en111 : Entr Try.prog 111 := entr_of Try.func111 (by kernel_rfl) (by kernel_rfl)
theorem en112 : Entr Try.prog 112 := entr_of Try.func112 (by kernel_rfl) (by kernel_rfl)
theorem en113 : Entr Try.prog 113 := entr_of Try.func113 (by kernel_rfl) (by kernel_rfl)
theorem en114 : Entr Try.prog 114 := entr_of Try.func114 (by kernel_rfl) (by kernel_rfl)
theorem en115 : Entr Try.prog 115 := entr_of Try.func115 (by kernel_rfl) (by kernel_rfl)
theorem en116 : Entr Try.prog 116 := entr_of Try.func116 (by kernel_rfl) (by kernel_rfl)
theorem en117 : Entr Try.prog 117 := entr_of Try.func117 (by kernel_rfl) (by kernel_rfl)
theorem en118 : Entr Try.prog 118 := entr_of Try.func118 (by kernel_rfl) (by kernel_rfl)
theorem en119 : Entr Try.prog 119 := entr_of Try.func119 (by kernel_rfl) (by kernel_rfl)
theorem en120 : Entr Try.prog 120 := entr_of Try.func120 (by kernel_rfl) (by kernel_rfl)
theorem en121 : Entr Try.prog 121 := entr_of Try.func121 (by kernel_rfl) (by kernel_rfl)
theorem en122 : Entr Try.prog 122 := entr_of Try.func122 (by kernel_rfl) (by kernel_rfl)
theorem en123 : Entr Try.prog 123 := entr_of Try.func123 (by kernel_rfl) (by kernel_rfl)
theorem en124 : Entr Try.prog 124 := entr_of Try.func124 (by kernel_rfl) (by kernel_rfl)
theorem en125 : Entr Try.prog 125 := entr_of Try.func125 (by kernel_rfl) (by kernel_rfl)
theorem en126 : Entr Try.prog 126 := entr_of Try.func126 (by kernel_rfl) (by kernel_rfl)
theorem en127 : Entr Try.prog 127 := entr_of Try.func127 (by kernel_rfl) (by kernel_rfl)
end Go.Proofs.Ytmmhbjbaallkfaa.Gx

/- Written by mkf.py: what is to be shown of functions, as Gx reckons it from their code. -/
namespace Go.Proofs.Ytmmhbjbaallkfaa.Gx
open Go
set_option linter.unusedVariables false
set_option maxRecDepth 100000
noncomputable def R60_0 : Code := codeAt [1, 0, 1, 0] (bodyOf Try.f60)
def R60_0a : An := .nil
theorem R60_0ok1 : okC tb Try.f60.ntmps (rA R60_0) .nil = true := by kernel_rfl
theorem R60_0ok2 : okC tb Try.f60.ntmps (rB R60_0) R60_0a = true := by kernel_rfl
theorem R60_0okp : (rP R60_0).toList.all (fun p => Nat.blt p Try.f60.ntmps) = true := by kernel_rfl
def F60 (t0 : Sl) (t1 : Sl) (w : World) (R : Value → World → Prop) : Prop :=
 AllocP w (Obj.cells #[Value.bool false] (4 : Nat)) fun (b1 : Nat) (w2 : World) =>
 (1 : Nat) * (1 : Nat) ≤ (16777216 : Nat) ∧
 AllocP w2 (Obj.cells #[Value.slice t0.1 t0.2 t0.3] (25 : Nat)) fun (b3 : Nat) (w4 : World) =>
 CX Try.prog (74 : Nat) #[Value.slice (some ({ block := b3, off := (0 : Nat) } : Addr)) (1 : Nat) (1 : Nat)] w4 fun (v5 : Value) (w6 : World) =>
 ∃ (s7 : Sl),
 v5 = Value.slice s7.1 s7.2 s7.3 ∧
 (1 : Nat) * (1 : Nat) ≤ (16777216 : Nat) ∧
 AllocP w6 (Obj.cells #[Value.slice t1.1 t1.2 t1.3] (25 : Nat)) fun (b8 : Nat) (w9 : World) =>
 CX Try.prog (74 : Nat) #[Value.slice (some ({ block := b8, off := (0 : Nat) } : Addr)) (1 : Nat) (1 : Nat)] w9 fun (v10 : Value) (w11 : World) =>
 ∃ (s12 : Sl),
 v10 = Value.slice s12.1 s12.2 s12.3 ∧
 CX Try.prog (73 : Nat) #[Value.slice s7.1 s7.2 s7.3, Value.slice s12.1 s12.2 s12.3] w11 fun (v13 : Value) (w14 : World) =>
 ∃ (x15 : Nat × Array Value),
 v13 = Value.func (Fn.func x15.1) #[] x15.2 ∧
 ∀ (y16 : Nat → Value),
 RangeP Try.prog tb (nat_lit 13) none R60_0a (rG R60_0) (rP R60_0) (rA R60_0) (rB R60_0)
 (frC y16 [((4 : Nat), Value.pointer (some ({ block := b1, off := (0 : Nat) } : Addr))), ((11 : Nat), Value.func (Fn.func x15.1) #[] x15.2)]) [] w14
 (fun (l17 : List Nat) (w18 : World) =>
 #[Value.bool false].size = (1 : Nat) ∧
 StoreP w18 b1 (0 : Nat) [Value.bool false] fun (w19 : World) =>
 marksP w19 l17 fun (w20 : World) => ∃ (t21 : Bool), w20.cell? ({ block := b1, off := (0 : Nat) } : Addr) = some (Value.bool t21) ∧ R (Value.bool t21) w20)
 (fun (l22 : List Nat) (w23 : World) => marksP w23 l22 fun (w24 : World) => ∃ (t25 : Bool), w24.cell? ({ block := b1, off := (0 : Nat) } : Addr) = some (Value.bool t25) ∧ R (Value.bool t25) w24)
 fun (b26 : Nat) (l27 : List Nat) (w28 : World) =>
 match b26.beq (0 : Nat) with
 | true => #[Value.bool false].size = (1 : Nat) ∧ StoreP w28 b1 (0 : Nat) [Value.bool false] fun (w30 : World) => marksP w30 l27 fun (w31 : World) => ∃ (t32 : Bool), w31.cell? ({ block := b1, off := (0 : Nat) } : Addr) = some (Value.bool t32) ∧ R (Value.bool t32) w31
 | false => False
theorem F60_ok (t0 : Sl) (t1 : Sl) (w : World) (R : Value → World → Prop) (h : F60 t0 t1 w R) : CW Try.prog 60 #[Value.slice t0.1 t0.2 t0.3, Value.slice t1.1 t1.2 t1.3] w R :=
  call_of tbOk mixed en60 Try.func60 rfl (.node (.nil) (.node (.node (.nil) (.rng [(4, .one (.box)), (11, .one (.clo))] (.nil))) (.nil))) (by kernel_rfl) (Nat.le_of_ble_eq_true (by kernel_rfl)) (Eq.mp (α := F60 t0 t1 w R) (by kernel_rfl) h)
def F60b0 (t4 : Nat) (t11 : Nat × Array Value) (x12 : Value) (l D n₀ : Nat) (Jn : World → Prop) (Jx : Code → World → Prop) (W : World) : Prop :=
  ([] : List Nat) = [] ∧
 (W.1[l]? = W.1[l]? ∧ W.1[D]? = W.1[D]?) ∧
 ∀ (w9 : World),
 Stb n₀ W w9 →
 Its W w9 →
 (∃ (y12 : Loop), w9.1[l]? = some (Obj.loop y12)) →
 #[Value.bool true].size = (1 : Nat) ∧ StoreP w9 t4 (0 : Nat) [Value.bool true] fun (w16 : World) => (w16.1[l]? = w9.1[l]? ∧ w16.1[D]? = w9.1[D]?) ∧ Jx Code.ret w16
theorem F60b0_ok (t4 : Nat) (t11 : Nat × Array Value) (x12 : Value) (l D n₀ : Nat) (Jn : World → Prop) (Jx : Code → World → Prop) (W : World) {g : Nat → Value} (h : F60b0 t4 t11 x12 l D n₀ Jn Jx W) :
    BodyP Try.prog tb Try.f60.ntmps l D n₀ R60_0a (rP R60_0) (rA R60_0) (rB R60_0) (frC g [(4, Value.pointer (some ({ block := t4, off := 0 } : Addr))), (11, Value.func (Fn.func t11.1) #[] t11.2)]) Jn Jx [x12] W :=
  Eq.mp (α := F60b0 t4 t11 x12 l D n₀ Jn Jx W) (by kernel_rfl) h
def F73 (t0 : Sl) (t1 : Sl) (w : World) (R : Value → World → Prop) : Prop :=
 AllocP w (Obj.cells #[Value.slice t0.1 t0.2 t0.3] (25 : Nat)) fun (b1 : Nat) (w2 : World) =>
 AllocP w2 (Obj.cells #[Value.slice t1.1 t1.2 t1.3] (25 : Nat)) fun (b3 : Nat) (w4 : World) =>
 R (Value.func (Fn.func (96 : Nat)) #[] #[Value.pointer (some ({ block := b1, off := (0 : Nat) } : Addr)), Value.pointer (some ({ block := b3, off := (0 : Nat) } : Addr))]) w4
theorem F73_ok (t0 : Sl) (t1 : Sl) (w : World) (R : Value → World → Prop) (h : F73 t0 t1 w R) : CW Try.prog 73 #[Value.slice t0.1 t0.2 t0.3, Value.slice t1.1 t1.2 t1.3] w R :=
  call_of tbOk mixed en73 Try.func73 rfl (.nil) (by kernel_rfl) (Nat.le_of_ble_eq_true (by kernel_rfl)) (Eq.mp (α := F73 t0 t1 w R) (by kernel_rfl) h)
def F96j2 (t0 : Nat) (R : Value → World → Prop) (y2 : Nat → Int → World → Prop) (b4 : Nat) (n5 : Int) (b12 : Nat) (s15 : Sl) (y16 : Nat → Int → World → Prop) (b18 : Nat) (n19 : Int) (w20 : World) : Prop :=
 IfB (decide (n19 < (s15.n : Int)))
 (∃ (b23 : Nat),
 ∃ (b24 : Nat),
 s15.1 = some ({ block := b23, off := b24 } : Addr) ∧
 ((0 : Int) ≤ n19 ∧ n19 < (s15.2 : Int)) ∧
 ∃ (x25 : Int × Int),
 CellsAt w20 b23 (b24 + n19.toNat * (2 : Nat)) [Value.int IntKind.i64 x25.1, Value.int IntKind.i64 x25.2] ∧
 AllocP w20 (Obj.cells #[Value.int IntKind.i64 (0 : Int), Value.int IntKind.i64 (0 : Int)] (51 : Nat)) fun (b26 : Nat) (w27 : World) =>
 #[Value.int IntKind.i64 x25.1, Value.int IntKind.i64 x25.2].size = (2 : Nat) ∧
 StoreP w27 b26 (0 : Nat) [Value.int IntKind.i64 x25.1, Value.int IntKind.i64 x25.2] fun (w28 : World) =>
 ∃ (n29 : Int),
 w28.cell? ({ block := b12, off := (0 : Nat) + (0 : Nat) } : Addr) = some (Value.int IntKind.i64 n29) ∧
 ∃ (n30 : Int),
 w28.cell? ({ block := b26, off := (0 : Nat) + (0 : Nat) } : Addr) = some (Value.int IntKind.i64 n30) ∧
 ∃ (n31 : Int),
 w28.cell? ({ block := b12, off := (0 : Nat) + (1 : Nat) } : Addr) = some (Value.int IntKind.i64 n31) ∧
 ∃ (n32 : Int),
 w28.cell? ({ block := b26, off := (0 : Nat) + (1 : Nat) } : Addr) = some (Value.int IntKind.i64 n32) ∧
 AllocP w28 (Obj.cells #[Value.int IntKind.i64 (0 : Int), Value.int IntKind.i64 (0 : Int)] (51 : Nat)) fun (b33 : Nat) (w34 : World) =>
 #[Value.int IntKind.i64 (if n29 < n30 then n30 else n29), Value.int IntKind.i64 (if n32 < n31 then n32 else n31)].size = (2 : Nat) ∧
 StoreP w34 b33 (0 : Nat) [Value.int IntKind.i64 (if n29 < n30 then n30 else n29), Value.int IntKind.i64 (if n32 < n31 then n32 else n31)] fun (w35 : World) =>
 ∃ (n36 : Int),
 w35.cell? ({ block := b33, off := (0 : Nat) + (0 : Nat) } : Addr) = some (Value.int IntKind.i64 n36) ∧
 ∃ (n37 : Int),
 w35.cell? ({ block := b33, off := (0 : Nat) + (1 : Nat) } : Addr) = some (Value.int IntKind.i64 n37) ∧
 IfB (decide (n36 ≤ n37))
 (∃ (x38 : Int × Int),
 CellsAt w35 b33 (0 : Nat) [Value.int IntKind.i64 x38.1, Value.int IntKind.i64 x38.2] ∧
 YW Try.prog t0 #[Value.agg #[Value.int IntKind.i64 x38.1, Value.int IntKind.i64 x38.2]] w35 fun (t39 : Bool) (w40 : World) =>
 IfB (!t39) (R (Value.tuple #[]) w40) (([] : List Nat) = [] ∧ ∃ (b41 : Nat), b41 < b18 ∧ y16 b41 (IntKind.i64.wrap (n19 + (1 : Int))) w40))
 (([] : List Nat) = [] ∧ ∃ (b42 : Nat), b42 < b18 ∧ y16 b42 (IntKind.i64.wrap (n19 + (1 : Int))) w35))
 (([] : List Nat) = [] ∧ ∃ (b43 : Nat), b43 < b4 ∧ y2 b43 (IntKind.i64.wrap (n5 + (1 : Int))) w20)
def F96j1 (t0 : Nat) (t2 : Nat) (R : Value → World → Prop) (s1 : Sl) (y2 : Nat → Int → World → Prop) (b4 : Nat) (n5 : Int) (w6 : World) : Prop :=
 IfB (decide (n5 < (s1.n : Int)))
 (∃ (b9 : Nat),
 ∃ (b10 : Nat),
 s1.1 = some ({ block := b9, off := b10 } : Addr) ∧
 ((0 : Int) ≤ n5 ∧ n5 < (s1.2 : Int)) ∧
 ∃ (x11 : Int × Int),
 CellsAt w6 b9 (b10 + n5.toNat * (2 : Nat)) [Value.int IntKind.i64 x11.1, Value.int IntKind.i64 x11.2] ∧
 AllocP w6 (Obj.cells #[Value.int IntKind.i64 (0 : Int), Value.int IntKind.i64 (0 : Int)] (51 : Nat)) fun (b12 : Nat) (w13 : World) =>
 #[Value.int IntKind.i64 x11.1, Value.int IntKind.i64 x11.2].size = (2 : Nat) ∧
 StoreP w13 b12 (0 : Nat) [Value.int IntKind.i64 x11.1, Value.int IntKind.i64 x11.2] fun (w14 : World) =>
 ∃ (s15 : Sl),
 w14.cell? ({ block := t2, off := (0 : Nat) } : Addr) = some (Value.slice s15.1 s15.2 s15.3) ∧
 ∃ (y16 : Nat → Int → World → Prop),
 (∃ (b17 : Nat), y16 b17 (0 : Int) w14) ∧
 ∀ (b18 : Nat) (n19 : Int) (w20 : World) (y21 : Nat → Value),
 y16 b18 n19 w20 →
 (F96j2 t0 R y2 b4 n5 b12 s15 y16 b18 n19 w20))
 (R (Value.tuple #[]) w6)
def F96 (t0 : Nat) (t1 : Nat) (t2 : Nat) (w : World) (R : Value → World → Prop) : Prop :=
 ∃ (s1 : Sl),
 w.cell? ({ block := t1, off := (0 : Nat) } : Addr) = some (Value.slice s1.1 s1.2 s1.3) ∧
 ∃ (y2 : Nat → Int → World → Prop),
 (∃ (b3 : Nat), y2 b3 (0 : Int) w) ∧
 ∀ (b4 : Nat) (n5 : Int) (w6 : World) (y7 : Nat → Value),
 y2 b4 n5 w6 →
 (F96j1 t0 t2 R s1 y2 b4 n5 w6)
theorem F96_ok (t0 : Nat) (t1 : Nat) (t2 : Nat) (w : World) (R : Value → World → Prop) (h : F96 t0 t1 t2 w R) : CW Try.prog 96 #[Value.func (Fn.yield t0) #[] #[], Value.pointer (some ({ block := t1, off := 0 } : Addr)), Value.pointer (some ({ block := t2, off := 0 } : Addr))] w R :=
  call_of tbOk mixed en96 Try.func96 rfl (.node (.nil) (.loop [(11, .one (.int .i64))] [12, 13, 14, 5, 15, 16, 17, 18, 19, 20, 7, 21, 22, 23, 24, 25, 26, 27, 28, 29, 30, 31, 8, 32, 33, 34, 35, 36, 37, 38, 39, 40, 41, 42, 43, 44, 11] (.node (.nil) (.node (.nil) (.node (.node (.nil) (.node (.nil) (.loop [(17, .one (.int .i64))] [18, 19, 20, 7, 21, 22, 23, 24, 25, 26, 27, 28, 29, 30, 31, 8, 32, 33, 34, 35, 36, 37, 38, 39, 40, 41, 42, 43, 17] (.nil)))) (.nil)))))) (by kernel_rfl) (Nat.le_of_ble_eq_true (by kernel_rfl)) (Eq.mp (α := F96 t0 t1 t2 w R) (by kernel_rfl) h)
def F74k1 (w22 : World) (b20 : Nat) (x13 : Sl × Int) (b12 : Nat) (y10 : Nat → Sl × Int → World → Prop) : Prop :=
 ∃ (x42 : Int × Int),
 CellsAt w22.drew b20 (0 : Nat) [Value.int IntKind.i64 x42.1, Value.int IntKind.i64 x42.2] ∧
 (1 : Nat) * (2 : Nat) ≤ (16777216 : Nat) ∧
 AllocP w22.drew (Obj.cells #[Value.int IntKind.i64 x42.1, Value.int IntKind.i64 x42.2] (51 : Nat)) fun (b43 : Nat) (w44 : World) =>
 ∃ (l45 : List Value),
 ReadC w44 (some ({ block := b43, off := (0 : Nat) } : Addr)) ((1 : Nat) * (2 : Nat)) l45 ∧
 AppendP tt51 (51 : Nat) w44 x13.fst.1 x13.fst.2 x13.fst.3 (1 : Nat) l45 fun (s46 : Sl) (w47 : World) =>
 ([] : List Nat) = [] ∧ ∃ (b48 : Nat), b48 < b12 ∧ y10 b48 ({ p := s46.1, n := s46.2, c := s46.3 }, IntKind.i64.wrap (x13.2 + (1 : Int))) w47
def F74j1 (R : Value → World → Prop) (s6 : Sl) (y10 : Nat → Sl × Int → World → Prop) (b12 : Nat) (x13 : Sl × Int) (w14 : World) : Prop :=
 IfB (decide (x13.snd < (s6.n : Int)))
 (∃ (b17 : Nat),
 ∃ (b18 : Nat),
 s6.1 = some ({ block := b17, off := b18 } : Addr) ∧
 ((0 : Int) ≤ x13.2 ∧ x13.2 < (s6.2 : Int)) ∧
 ∃ (x19 : Int × Int),
 CellsAt w14 b17 (b18 + x13.2.toNat * (2 : Nat)) [Value.int IntKind.i64 x19.1, Value.int IntKind.i64 x19.2] ∧
 AllocP w14 (Obj.cells #[Value.int IntKind.i64 (0 : Int), Value.int IntKind.i64 (0 : Int)] (51 : Nat)) fun (b20 : Nat) (w21 : World) =>
 #[Value.int IntKind.i64 x19.1, Value.int IntKind.i64 x19.2].size = (2 : Nat) ∧
 StoreP w21 b20 (0 : Nat) [Value.int IntKind.i64 x19.1, Value.int IntKind.i64 x19.2] fun (w22 : World) =>
 IfB (decide ((0 : Int) < (x13.fst.n : Int)))
 (∃ (n23 : Int),
 w22.drew.cell? ({ block := b20, off := (0 : Nat) + (0 : Nat) } : Addr) = some (Value.int IntKind.i64 n23) ∧
 ∃ (b24 : Nat),
 ∃ (b25 : Nat),
 x13.fst.1 = some ({ block := b24, off := b25 } : Addr) ∧
 ((0 : Int) ≤ IntKind.i64.wrap ((x13.fst.2 : Int) - (1 : Int)) ∧ IntKind.i64.wrap ((x13.fst.2 : Int) - (1 : Int)) < (x13.fst.2 : Int)) ∧
 ∃ (n26 : Int),
 w22.drew.cell? ({ block := b24, off := b25 + (IntKind.i64.wrap ((x13.fst.2 : Int) - (1 : Int))).toNat * (2 : Nat) + (1 : Nat) } : Addr) = some (Value.int IntKind.i64 n26) ∧
 IfB (decide (n23 ≤ IntKind.i64.wrap (n26 + (1 : Int))))
 (∃ (b27 : Nat),
 ∃ (b28 : Nat),
 x13.fst.1 = some ({ block := b27, off := b28 } : Addr) ∧
 ((0 : Int) ≤ IntKind.i64.wrap ((x13.fst.2 : Int) - (1 : Int)) ∧ IntKind.i64.wrap ((x13.fst.2 : Int) - (1 : Int)) < (x13.fst.2 : Int)) ∧
 ∃ (n29 : Int),
 w22.drew.drew.cell? ({ block := b27, off := b28 + (IntKind.i64.wrap ((x13.fst.2 : Int) - (1 : Int))).toNat * (2 : Nat) + (1 : Nat) } : Addr) = some (Value.int IntKind.i64 n29) ∧
 ∃ (n30 : Int),
 w22.drew.drew.cell? ({ block := b20, off := (0 : Nat) + (1 : Nat) } : Addr) = some (Value.int IntKind.i64 n30) ∧
 ∃ (b31 : Nat),
 ∃ (b32 : Nat),
 x13.fst.1 = some ({ block := b31, off := b32 } : Addr) ∧
 ((0 : Int) ≤ IntKind.i64.wrap ((x13.fst.2 : Int) - (1 : Int)) ∧ IntKind.i64.wrap ((x13.fst.2 : Int) - (1 : Int)) < (x13.fst.2 : Int)) ∧
 #[Value.int IntKind.i64 (if n29 < n30 then n30 else n29)].size = (1 : Nat) ∧
 StoreP w22.drew.drew b31 (b32 + (IntKind.i64.wrap ((x13.fst.2 : Int) - (1 : Int))).toNat * (2 : Nat) + (1 : Nat)) [Value.int IntKind.i64 (if n29 < n30 then n30 else n29)] fun (w33 : World) =>
 ([] : List Nat) = [] ∧ ∃ (b34 : Nat), b34 < b12 ∧ y10 b34 ({ p := x13.fst.1, n := x13.fst.2, c := x13.fst.3 }, IntKind.i64.wrap (x13.2 + (1 : Int))) w33)
 (F74k1 w22 b20 x13 b12 y10))
 (F74k1 w22 b20 x13 b12 y10))
 (R (Value.slice x13.fst.1 x13.fst.2 x13.fst.3) w14)
def F74 (t0 : Sl) (w : World) (R : Value → World → Prop) : Prop :=
 CX Try.prog (98 : Nat) #[Value.slice t0.1 t0.2 t0.3] w fun (v1 : Value) (w2 : World) =>
 ∃ (s3 : Sl),
 v1 = Value.slice s3.1 s3.2 s3.3 ∧
 CX Try.prog (97 : Nat) #[Value.slice s3.1 s3.2 s3.3, Value.func (Fn.func (99 : Nat)) #[] #[]] w2 fun (v4 : Value) (w5 : World) =>
 ∃ (s6 : Sl),
 v4 = Value.slice s6.1 s6.2 s6.3 ∧
 CX Try.prog (101 : Nat) #[Value.slice s6.1 s6.2 s6.3, Value.func (Fn.func (102 : Nat)) #[] #[]] w5 fun (v7 : Value) (w8 : World) =>
 ∃ (y9 : Unit),
 v7 = Value.tuple #[] ∧
 ∃ (y10 : Nat → Sl × Int → World → Prop),
 (∃ (b11 : Nat), y10 b11 ({ p := none, n := (0 : Nat), c := (0 : Nat) }, (0 : Int)) w8) ∧
 ∀ (b12 : Nat) (x13 : Sl × Int) (w14 : World) (y15 : Nat → Value),
 y10 b12 x13 w14 →
 (F74j1 R s6 y10 b12 x13 w14)
theorem F74_ok (t0 : Sl) (w : World) (R : Value → World → Prop) (h : F74 t0 w R) : CW Try.prog 74 #[Value.slice t0.1 t0.2 t0.3] w R :=
  call_of tbOk mixed en74 Try.func74 rfl (.node (.nil) (.node (.nil) (.node (.nil) (.node (.nil) (.node (.node (.nil) (.loop [(4, .one (.sl)), (15, .one (.int .i64))] [16, 17, 18, 6, 19, 20, 7, 21, 22, 23, 24, 25, 26, 27, 28, 29, 30, 31, 32, 33, 34, 35, 36, 37, 38, 39, 40, 41, 42, 43, 44, 45, 46, 47, 48, 49, 50, 51, 52, 4, 53, 15] (.node (.nil) (.node (.nil) (.node (.node (.nil) (.node (.nil) (.node (.node (.draw (.st 0 (.st 1 (.st 2 (.st 3 (.st 4 (.st 5 (.st 6 (.st 7 (.st 8 (.st 9 (.st 10 (.st 11 (.st 12 (.st 13 (.fin)))))))))))))))) (.node (.node (.draw (.st 0 (.st 1 (.st 2 (.st 3 (.st 4 (.st 5 (.st 6 (.st 7 (.st 8 (.st 9 (.st 10 (.st 11 (.st 12 (.st 13 (.ac 14 [] (.fin) (.non))))))))))))))))) (.nil)) (.nil))) (.nil)))) (.nil)))))) (.nil)))))) (by kernel_rfl) (Nat.le_of_ble_eq_true (by kernel_rfl)) (Eq.mp (α := F74 t0 w R) (by kernel_rfl) h)
def F99 (t0 : (Leaf.int IntKind.i64).den × dens [Leaf.int IntKind.i64]) (w : World) (R : Value → World → Prop) : Prop :=
 AllocP w (Obj.cells #[Value.int IntKind.i64 t0.1, Value.int IntKind.i64 t0.2] (51 : Nat)) fun (b1 : Nat) (w2 : World) =>
 ∃ (x3 : Int × Int),
 CellsAt w2 b1 (0 : Nat) [Value.int IntKind.i64 x3.1, Value.int IntKind.i64 x3.2] ∧
 CX Try.prog (100 : Nat) #[Value.agg #[Value.int IntKind.i64 x3.1, Value.int IntKind.i64 x3.2]] w2 fun (v4 : Value) (w5 : World) =>
 ∃ (t6 : Bool), v4 = Value.bool t6 ∧ R (Value.bool !t6) w5
theorem F99_ok (t0 : (Leaf.int IntKind.i64).den × dens [Leaf.int IntKind.i64]) (w : World) (R : Value → World → Prop) (h : F99 t0 w R) : CW Try.prog 99 #[Value.agg #[Value.int IntKind.i64 t0.1, Value.int IntKind.i64 t0.2]] w R :=
  call_of tbOk mixed en99 Try.func99 rfl (.nil) (by kernel_rfl) (Nat.le_of_ble_eq_true (by kernel_rfl)) (Eq.mp (α := F99 t0 w R) (by kernel_rfl) h)
def F102 (t0 : (Leaf.int IntKind.i64).den × dens [Leaf.int IntKind.i64]) (t1 : (Leaf.int IntKind.i64).den × dens [Leaf.int IntKind.i64]) (w : World) (R : Value → World → Prop) : Prop :=
 AllocP w (Obj.cells #[Value.int IntKind.i64 t0.1, Value.int IntKind.i64 t0.2] (51 : Nat)) fun (b1 : Nat) (w2 : World) =>
 AllocP w2 (Obj.cells #[Value.int IntKind.i64 t1.1, Value.int IntKind.i64 t1.2] (51 : Nat)) fun (b3 : Nat) (w4 : World) =>
 ∃ (n5 : Int),
 w4.cell? ({ block := b1, off := (0 : Nat) + (0 : Nat) } : Addr) = some (Value.int IntKind.i64 n5) ∧
 ∃ (n6 : Int),
 w4.cell? ({ block := b3, off := (0 : Nat) + (0 : Nat) } : Addr) = some (Value.int IntKind.i64 n6) ∧
 CX Try.prog (46 : Nat) #[Value.int IntKind.i64 n5, Value.int IntKind.i64 n6] w4 fun (v7 : Value) (w8 : World) =>
 ∃ (n9 : Int), v7 = Value.int IntKind.i64 n9 ∧ R (Value.int IntKind.i64 n9) w8
theorem F102_ok (t0 : (Leaf.int IntKind.i64).den × dens [Leaf.int IntKind.i64]) (t1 : (Leaf.int IntKind.i64).den × dens [Leaf.int IntKind.i64]) (w : World) (R : Value → World → Prop) (h : F102 t0 t1 w R) : CW Try.prog 102 #[Value.agg #[Value.int IntKind.i64 t0.1, Value.int IntKind.i64 t0.2], Value.agg #[Value.int IntKind.i64 t1.1, Value.int IntKind.i64 t1.2]] w R :=
  call_of tbOk mixed en102 Try.func102 rfl (.nil) (by kernel_rfl) (Nat.le_of_ble_eq_true (by kernel_rfl)) (Eq.mp (α := F102 t0 t1 w R) (by kernel_rfl) h)
def F100 (t0 : (Leaf.int IntKind.i64).den × dens [Leaf.int IntKind.i64]) (w : World) (R : Value → World → Prop) : Prop :=
 AllocP w (Obj.cells #[Value.int IntKind.i64 t0.1, Value.int IntKind.i64 t0.2] (51 : Nat)) fun (b1 : Nat) (w2 : World) =>
 ∃ (n3 : Int),
 w2.cell? ({ block := b1, off := (0 : Nat) + (0 : Nat) } : Addr) = some (Value.int IntKind.i64 n3) ∧
 IfB (decide ((0 : Int) ≤ n3))
 (∃ (n4 : Int),
 w2.cell? ({ block := b1, off := (0 : Nat) + (0 : Nat) } : Addr) = some (Value.int IntKind.i64 n4) ∧
 ∃ (n5 : Int),
 w2.cell? ({ block := b1, off := (0 : Nat) + (1 : Nat) } : Addr) = some (Value.int IntKind.i64 n5) ∧
 IfB (decide (n4 ≤ n5)) (∃ (n6 : Int), w2.cell? ({ block := b1, off := (0 : Nat) + (1 : Nat) } : Addr) = some (Value.int IntKind.i64 n6) ∧ R (Value.bool (decide (n6 ≤ (999 : Int)))) w2)
 (R (Value.bool false) w2))
 (R (Value.bool false) w2)
theorem F100_ok (t0 : (Leaf.int IntKind.i64).den × dens [Leaf.int IntKind.i64]) (w : World) (R : Value → World → Prop) (h : F100 t0 w R) : CW Try.prog 100 #[Value.agg #[Value.int IntKind.i64 t0.1, Value.int IntKind.i64 t0.2]] w R :=
  call_of tbOk mixed en100 Try.func100 rfl (.nil) (by kernel_rfl) (Nat.le_of_ble_eq_true (by kernel_rfl)) (Eq.mp (α := F100 t0 w R) (by kernel_rfl) h)
def F98j2 (t0 : Sl) (R : Value → World → Prop) (y15 : Nat → Sl × Int → World → Prop) (b17 : Nat) (x18 : Sl × Int) (w19 : World) : Prop :=
 IfB (decide (x18.snd < (t0.n : Int)))
 (∃ (b22 : Nat),
 ∃ (b23 : Nat),
 t0.1 = some ({ block := b22, off := b23 } : Addr) ∧
 ((0 : Int) ≤ x18.2 ∧ x18.2 < (t0.2 : Int)) ∧
 ∃ (s24 : Sl),
 w19.cell? ({ block := b22, off := b23 + x18.2.toNat } : Addr) = some (Value.slice s24.1 s24.2 s24.3) ∧
 ∃ (l25 : List Value),
 ReadC w19 s24.1 (s24.2 * (2 : Nat)) l25 ∧
 AppendP tt51 (51 : Nat) w19 x18.fst.1 x18.fst.2 x18.fst.3 s24.2 l25 fun (s26 : Sl) (w27 : World) =>
 ([] : List Nat) = [] ∧ ∃ (b28 : Nat), b28 < b17 ∧ y15 b28 ({ p := s26.1, n := s26.2, c := s26.3 }, IntKind.i64.wrap (x18.2 + (1 : Int))) w27)
 (R (Value.slice x18.fst.1 x18.fst.2 x18.fst.3) w19)
def F98j1 (t0 : Sl) (R : Value → World → Prop) (y1 : Nat → Int × Int → World → Prop) (b3 : Nat) (x4 : Int × Int) (w5 : World) : Prop :=
 IfB (decide (x4.snd < (t0.n : Int)))
 (∃ (b8 : Nat),
 ∃ (b9 : Nat),
 t0.1 = some ({ block := b8, off := b9 } : Addr) ∧
 ((0 : Int) ≤ x4.2 ∧ x4.2 < (t0.2 : Int)) ∧
 ∃ (s10 : Sl),
 w5.cell? ({ block := b8, off := b9 + x4.2.toNat } : Addr) = some (Value.slice s10.1 s10.2 s10.3) ∧
 IfB (decide (IntKind.i64.wrap (x4.fst + (s10.n : Int)) < (0 : Int))) False (([] : List Nat) = [] ∧ ∃ (b11 : Nat), b11 < b3 ∧ y1 b11 (IntKind.i64.wrap (x4.1 + (s10.2 : Int)), IntKind.i64.wrap (x4.2 + (1 : Int))) w5))
 (CX Try.prog (112 : Nat) #[Value.slice none (0 : Nat) (0 : Nat), Value.int IntKind.i64 x4.1] w5 fun (v12 : Value) (w13 : World) =>
 ∃ (s14 : Sl),
 v12 = Value.slice s14.1 s14.2 s14.3 ∧
 ∃ (y15 : Nat → Sl × Int → World → Prop),
 (∃ (b16 : Nat), y15 b16 ({ p := s14.1, n := s14.2, c := s14.3 }, (0 : Int)) w13) ∧
 ∀ (b17 : Nat) (x18 : Sl × Int) (w19 : World) (y20 : Nat → Value),
 y15 b17 x18 w19 →
 (F98j2 t0 R y15 b17 x18 w19))
def F98 (t0 : Sl) (w : World) (R : Value → World → Prop) : Prop :=
 ∃ (y1 : Nat → Int × Int → World → Prop),
 (∃ (b2 : Nat), y1 b2 ((0 : Int), (0 : Int)) w) ∧
 ∀ (b3 : Nat) (x4 : Int × Int) (w5 : World) (y6 : Nat → Value),
 y1 b3 x4 w5 →
 (F98j1 t0 R y1 b3 x4 w5)
theorem F98_ok (t0 : Sl) (w : World) (R : Value → World → Prop) (h : F98 t0 w R) : CW Try.prog 98 #[Value.slice t0.1 t0.2 t0.3] w R :=
  call_of tbOk mixed en98 Try.func98 rfl (.node (.nil) (.node (.nil) (.node (.node (.nil) (.loop [(3, .one (.int .i64)), (11, .one (.int .i64))] [12, 13, 14, 5, 15, 16, 17, 18, 3, 19, 20, 21, 22, 11] (.nil))) (.node (.nil) (.node (.node (.nil) (.loop [(6, .one (.sl)), (27, .one (.int .i64))] [28, 29, 30, 8, 31, 32, 33, 6, 34, 27] (.nil))) (.nil)))))) (by kernel_rfl) (Nat.le_of_ble_eq_true (by kernel_rfl)) (Eq.mp (α := F98 t0 w R) (by kernel_rfl) h)
def F97j1 (t0 : Sl) (t1 : Nat × Array Value) (R : Value → World → Prop) (y4 : Nat → Int × Int → World → Prop) (b6 : Nat) (x7 : Int × Int) (w8 : World) : Prop :=
 IfB (decide (x7.snd < (t0.n : Int)))
 (∃ (b11 : Nat),
 ∃ (b12 : Nat),
 t0.1 = some ({ block := b11, off := b12 } : Addr) ∧
 ((0 : Int) ≤ x7.2 ∧ x7.2 < (t0.2 : Int)) ∧
 ∃ (x13 : Int × Int),
 CellsAt w8 b11 (b12 + x7.2.toNat * (2 : Nat)) [Value.int IntKind.i64 x13.1, Value.int IntKind.i64 x13.2] ∧
 AllocP w8 (Obj.cells #[Value.int IntKind.i64 (0 : Int), Value.int IntKind.i64 (0 : Int)] (51 : Nat)) fun (b14 : Nat) (w15 : World) =>
 #[Value.int IntKind.i64 x13.1, Value.int IntKind.i64 x13.2].size = (2 : Nat) ∧
 StoreP w15 b14 (0 : Nat) [Value.int IntKind.i64 x13.1, Value.int IntKind.i64 x13.2] fun (w16 : World) =>
 ∃ (x17 : Int × Int),
 CellsAt w16 b14 (0 : Nat) [Value.int IntKind.i64 x17.1, Value.int IntKind.i64 x17.2] ∧
 CX Try.prog t1.1 { toList := Value.agg #[Value.int IntKind.i64 x17.1, Value.int IntKind.i64 x17.2] :: t1.snd.1 } w16 fun (v18 : Value) (w19 : World) =>
 ∃ (t20 : Bool),
 v18 = Value.bool t20 ∧
 IfB (!t20)
 (∃ (x21 : Int × Int),
 CellsAt w19 b14 (0 : Nat) [Value.int IntKind.i64 x21.1, Value.int IntKind.i64 x21.2] ∧
 ∃ (b22 : Nat),
 ∃ (b23 : Nat),
 t0.1 = some ({ block := b22, off := b23 } : Addr) ∧
 ((0 : Int) ≤ x7.1 ∧ x7.1 < (t0.2 : Int)) ∧
 #[Value.int IntKind.i64 x21.1, Value.int IntKind.i64 x21.2].size = (2 : Nat) ∧
 StoreP w19 b22 (b23 + x7.1.toNat * (2 : Nat)) [Value.int IntKind.i64 x21.1, Value.int IntKind.i64 x21.2] fun (w24 : World) =>
 ([] : List Nat) = [] ∧ ∃ (b25 : Nat), b25 < b6 ∧ y4 b25 (IntKind.i64.wrap (x7.1 + (1 : Int)), IntKind.i64.wrap (x7.2 + (1 : Int))) w24)
 (([] : List Nat) = [] ∧ ∃ (b26 : Nat), b26 < b6 ∧ y4 b26 (x7.1, IntKind.i64.wrap (x7.2 + (1 : Int))) w19))
 (((0 : Int) ≤ x7.1 ∧ x7.1 ≤ (t0.2 : Int)) ∧
 match slAddr t0.1 t0.3 x7.1.toNat (2 : Nat) with
 | none => ((0 : Int) ≤ x7.1 ∧ x7.1 ≤ (t0.3 : Int)) ∧ R (Value.slice (slAddr t0.1 t0.3 (0 : Nat) (2 : Nat)) x7.1.toNat t0.3) w8
 | some ({ block := b28, off := b29, spot := none } : Addr) => StoreP w8 b28 b29 (zc #[Value.int IntKind.i64 (0 : Int), Value.int IntKind.i64 (0 : Int)] (t0.2 - x7.1.toNat)) fun (w30 : World) => ((0 : Int) ≤ x7.1 ∧ x7.1 ≤ (t0.3 : Int)) ∧ R (Value.slice (slAddr t0.1 t0.3 (0 : Nat) (2 : Nat)) x7.1.toNat t0.3) w30
 | some y31 => False)
def F97 (t0 : Sl) (t1 : Nat × Array Value) (w : World) (R : Value → World → Prop) : Prop :=
 CX Try.prog (111 : Nat) #[Value.slice t0.1 t0.2 t0.3, Value.func (Fn.func t1.1) #[] t1.2] w fun (v1 : Value) (w2 : World) =>
 ∃ (n3 : Int),
 v1 = Value.int IntKind.i64 n3 ∧
 IfB (n3 == (-1 : Int)) (R (Value.slice t0.1 t0.2 t0.3) w2)
 (∃ (y4 : Nat → Int × Int → World → Prop),
 (∃ (b5 : Nat), y4 b5 (n3, IntKind.i64.wrap (n3 + (1 : Int))) w2) ∧
 ∀ (b6 : Nat) (x7 : Int × Int) (w8 : World) (y9 : Nat → Value),
 y4 b6 x7 w8 →
 (F97j1 t0 t1 R y4 b6 x7 w8))
theorem F97_ok (t0 : Sl) (t1 : Nat × Array Value) (w : World) (R : Value → World → Prop) (h : F97 t0 t1 w R) : CW Try.prog 97 #[Value.slice t0.1 t0.2 t0.3, Value.func (Fn.func t1.1) #[] t1.2] w R :=
  call_of tbOk mixed en97 Try.func97 rfl (.node (.nil) (.node (.nil) (.node (.nil) (.node (.node (.nil) (.loop [(5, .one (.int .i64)), (6, .one (.int .i64))] [16, 17, 18, 19, 22, 23, 24, 25, 7, 26, 27, 28, 29, 30, 31, 32, 33, 34, 35, 5, 20, 21, 6] (.nil))) (.nil))))) (by kernel_rfl) (Nat.le_of_ble_eq_true (by kernel_rfl)) (Eq.mp (α := F97 t0 t1 w R) (by kernel_rfl) h)
def F111j1 (t0 : Sl) (t1 : Nat × Array Value) (R : Value → World → Prop) (y1 : Nat → Int → World → Prop) (b3 : Nat) (n4 : Int) (w5 : World) : Prop :=
 IfB (decide (n4 < (t0.n : Int)))
 (∃ (b8 : Nat),
 ∃ (b9 : Nat),
 t0.1 = some ({ block := b8, off := b9 } : Addr) ∧
 ((0 : Int) ≤ n4 ∧ n4 < (t0.2 : Int)) ∧
 ∃ (x10 : Int × Int),
 CellsAt w5 b8 (b9 + n4.toNat * (2 : Nat)) [Value.int IntKind.i64 x10.1, Value.int IntKind.i64 x10.2] ∧
 CX Try.prog t1.1 { toList := Value.agg #[Value.int IntKind.i64 x10.1, Value.int IntKind.i64 x10.2] :: t1.snd.1 } w5 fun (v11 : Value) (w12 : World) =>
 ∃ (t13 : Bool), v11 = Value.bool t13 ∧ IfB t13 (R (Value.int IntKind.i64 n4) w12) (([] : List Nat) = [] ∧ ∃ (b14 : Nat), b14 < b3 ∧ y1 b14 (IntKind.i64.wrap (n4 + (1 : Int))) w12))
 (R (Value.int IntKind.i64 (-1 : Int)) w5)
def F111 (t0 : Sl) (t1 : Nat × Array Value) (w : World) (R : Value → World → Prop) : Prop :=
 ∃ (y1 : Nat → Int → World → Prop),
 (∃ (b2 : Nat), y1 b2 (0 : Int) w) ∧
 ∀ (b3 : Nat) (n4 : Int) (w5 : World) (y6 : Nat → Value),
 y1 b3 n4 w5 →
 (F111j1 t0 t1 R y1 b3 n4 w5)
theorem F111_ok (t0 : Sl) (t1 : Nat × Array Value) (w : World) (R : Value → World → Prop) (h : F111 t0 t1 w R) : CW Try.prog 111 #[Value.slice t0.1 t0.2 t0.3, Value.func (Fn.func t1.1) #[] t1.2] w R :=
  call_of tbOk mixed en111 Try.func111 rfl (.node (.nil) (.node (.node (.nil) (.loop [(8, .one (.int .i64))] [9, 10, 5, 11, 12, 13, 14, 15, 16, 17, 4, 18, 8] (.nil))) (.nil))) (by kernel_rfl) (Nat.le_of_ble_eq_true (by kernel_rfl)) (Eq.mp (α := F111 t0 t1 w R) (by kernel_rfl) h)
def F112 (t0 : Sl) (t1 : Int) (w : World) (R : Value → World → Prop) : Prop :=
 IfB (decide (t1 < (0 : Int))) False
 (IfB (decide ((0 : Int) < IntKind.i64.wrap (t1 - IntKind.i64.wrap ((t0.c : Int) - (t0.n : Int)))))
 (((0 : Int) ≤ (t0.3 : Int) ∧ (t0.3 : Int) ≤ (t0.3 : Int)) ∧
 ((0 : Int) ≤ IntKind.i64.wrap (t1 - IntKind.i64.wrap ((t0.3 : Int) - (t0.2 : Int))) ∧
 IntKind.i64.wrap (t1 - IntKind.i64.wrap ((t0.3 : Int) - (t0.2 : Int))) ≤ (281474976710656 : Int) ∧ IntKind.i64.wrap (t1 - IntKind.i64.wrap ((t0.3 : Int) - (t0.2 : Int))) * ((16 : Nat) : Int) ≤ (281474976710656 : Int)) ∧
 AppendP tt51 (51 : Nat) w (slAddr t0.1 t0.3 (0 : Nat) (2 : Nat)) ((t0.3 : Int)).toNat t0.3 (IntKind.i64.wrap (t1 - IntKind.i64.wrap ((t0.3 : Int) - (t0.2 : Int)))).toNat
 (zc #[Value.int IntKind.i64 (0 : Int), Value.int IntKind.i64 (0 : Int)] (IntKind.i64.wrap (t1 - IntKind.i64.wrap ((t0.3 : Int) - (t0.2 : Int)))).toNat) fun (s1 : Sl) (w2 : World) =>
 ((0 : Int) ≤ (t0.2 : Int) ∧ (t0.2 : Int) ≤ (s1.3 : Int)) ∧ R (Value.slice (slAddr s1.1 s1.3 (0 : Nat) (2 : Nat)) ((t0.2 : Int)).toNat s1.3) w2)
 (R (Value.slice t0.1 t0.2 t0.3) w))
theorem F112_ok (t0 : Sl) (t1 : Int) (w : World) (R : Value → World → Prop) (h : F112 t0 t1 w R) : CW Try.prog 112 #[Value.slice t0.1 t0.2 t0.3, Value.int IntKind.i64 t1] w R :=
  call_of tbOk mixed en112 Try.func112 rfl (.nil) (by kernel_rfl) (Nat.le_of_ble_eq_true (by kernel_rfl)) (Eq.mp (α := F112 t0 t1 w R) (by kernel_rfl) h)
def F46 (t0 : Int) (t1 : Int) (w : World) (R : Value → World → Prop) : Prop :=
 CX Try.prog (63 : Nat) #[Value.int IntKind.i64 t0] w fun (v1 : Value) (w2 : World) =>
 ∃ (t3 : Bool),
 v1 = Value.bool t3 ∧
 CX Try.prog (63 : Nat) #[Value.int IntKind.i64 t1] w2 fun (v4 : Value) (w5 : World) =>
 ∃ (t6 : Bool),
 v4 = Value.bool t6 ∧
 IfB t3 (IfB t6 (R (Value.int IntKind.i64 (0 : Int)) w5) (R (Value.int IntKind.i64 (-1 : Int)) w5))
 (IfB t6 (R (Value.int IntKind.i64 (1 : Int)) w5)
 (IfB (decide (t0 < t1)) (R (Value.int IntKind.i64 (-1 : Int)) w5) (IfB (decide (t1 < t0)) (R (Value.int IntKind.i64 (1 : Int)) w5) (R (Value.int IntKind.i64 (0 : Int)) w5))))
theorem F46_ok (t0 : Int) (t1 : Int) (w : World) (R : Value → World → Prop) (h : F46 t0 t1 w R) : CW Try.prog 46 #[Value.int IntKind.i64 t0, Value.int IntKind.i64 t1] w R :=
  call_of tbOk mixed en46 Try.func46 rfl (.nil) (by kernel_rfl) (Nat.le_of_ble_eq_true (by kernel_rfl)) (Eq.mp (α := F46 t0 t1 w R) (by kernel_rfl) h)
end Go.Proofs.Ytmmhbjbaallkfaa.Gx

/- Written by mkf.py: what is to be shown of functions, as Gx reckons it from their code. -/
namespace Go.Proofs.Ytmmhbjbaallkfaa.Gx
open Go
set_option linter.unusedVariables false
set_option maxRecDepth 100000
def F101 (t0 : Sl) (t1 : Nat × Array Value) (w : World) (R : Value → World → Prop) : Prop :=
 CX Try.prog (62 : Nat) #[Value.int IntKind.u64 (IntKind.u64.wrap (t0.2 : Int))] w fun (v1 : Value) (w2 : World) =>
 ∃ (n3 : Int),
 v1 = Value.int IntKind.i64 n3 ∧
 CX Try.prog (113 : Nat)
 #[Value.slice t0.1 t0.2 t0.3, Value.int IntKind.i64 (0 : Int), Value.int IntKind.i64 (t0.2 : Int), Value.int IntKind.i64 n3, Value.func (Fn.func t1.1) #[] t1.2] w2
 fun (v4 : Value) (w5 : World) => ∃ (y6 : Unit), v4 = Value.tuple #[] ∧ R (Value.tuple #[]) w5
theorem F101_ok (t0 : Sl) (t1 : Nat × Array Value) (w : World) (R : Value → World → Prop) (h : F101 t0 t1 w R) : CW Try.prog 101 #[Value.slice t0.1 t0.2 t0.3, Value.func (Fn.func t1.1) #[] t1.2] w R :=
  call_of tbOk mixed en101 Try.func101 rfl (.nil) (by kernel_rfl) (Nat.le_of_ble_eq_true (by kernel_rfl)) (Eq.mp (α := F101 t0 t1 w R) (by kernel_rfl) h)
def F113k2 (t0 : Sl) (x4 : Int × Int × Int × Bool × Bool) (x56 : Int × Bool) (n18 : Int) (t4 : Nat × Array Value) (w55 : World) (b3 : Nat) (y1 : Nat → Int × Int × Int × Bool × Bool → World → Prop) : Prop :=
 CX Try.prog (113 : Nat) #[Value.slice t0.1 t0.2 t0.3, Value.int IntKind.i64 x4.1, Value.int IntKind.i64 x56.1, Value.int IntKind.i64 n18, Value.func (Fn.func t4.1) #[] t4.2]
 w55 fun (v57 : Value) (w58 : World) =>
 ∃ (y59 : Unit),
 v57 = Value.tuple #[] ∧
 ([] : List Nat) = [] ∧
 ∃ (b60 : Nat),
 b60 < b3 ∧
 y1 b60 (IntKind.i64.wrap (x56.1 + (1 : Int)), x4.snd.1, n18, decide (IntKind.i64.wrap ((IntKind.i64.wrap (x4.snd.fst - x4.fst)).tdiv (8 : Int)) ≤ IntKind.i64.wrap (x56.fst - x4.fst)), x56.2) w58
def F113k1 (t0 : Sl) (x56 : Int × Bool) (x4 : Int × Int × Int × Bool × Bool) (n18 : Int) (t4 : Nat × Array Value) (w55 : World) (b3 : Nat) (y1 : Nat → Int × Int × Int × Bool × Bool → World → Prop) : Prop :=
 CX Try.prog (113 : Nat)
 #[Value.slice t0.1 t0.2 t0.3, Value.int IntKind.i64 (IntKind.i64.wrap (x56.1 + (1 : Int))), Value.int IntKind.i64 x4.snd.1, Value.int IntKind.i64 n18, Value.func (Fn.func t4.1) #[] t4.2]
 w55 fun (v61 : Value) (w62 : World) =>
 ∃ (y63 : Unit),
 v61 = Value.tuple #[] ∧
 ([] : List Nat) = [] ∧
 ∃ (b64 : Nat), b64 < b3 ∧ y1 b64 (x4.1, x56.1, n18, decide (IntKind.i64.wrap ((IntKind.i64.wrap (x4.snd.fst - x4.fst)).tdiv (8 : Int)) ≤ IntKind.i64.wrap (x4.snd.fst - x56.fst)), x56.2) w62
def F113j4 (t0 : Sl) (t4 : Nat × Array Value) (y1 : Nat → Int × Int × Int × Bool × Bool → World → Prop) (b3 : Nat) (x4 : Int × Int × Int × Bool × Bool) (n18 : Int) (x29 : Int × Int) (w38 : World) : Prop :=
 IfB (decide ((0 : Int) < x4.fst))
 (∃ (b41 : Nat),
 ∃ (b42 : Nat),
 t0.1 = some ({ block := b41, off := b42 } : Addr) ∧
 ((0 : Int) ≤ IntKind.i64.wrap (x4.1 - (1 : Int)) ∧ IntKind.i64.wrap (x4.1 - (1 : Int)) < (t0.2 : Int)) ∧
 ∃ (x43 : Int × Int),
 CellsAt w38.drew b41 (b42 + (IntKind.i64.wrap (x4.1 - (1 : Int))).toNat * (2 : Nat)) [Value.int IntKind.i64 x43.1, Value.int IntKind.i64 x43.2] ∧
 ∃ (b44 : Nat),
 ∃ (b45 : Nat),
 t0.1 = some ({ block := b44, off := b45 } : Addr) ∧
 ((0 : Int) ≤ x29.1 ∧ x29.1 < (t0.2 : Int)) ∧
 ∃ (x46 : Int × Int),
 CellsAt w38.drew b44 (b45 + x29.1.toNat * (2 : Nat)) [Value.int IntKind.i64 x46.1, Value.int IntKind.i64 x46.2] ∧
 CX Try.prog t4.1
 { toList := Value.agg #[Value.int IntKind.i64 x43.1, Value.int IntKind.i64 x43.2] :: Value.agg #[Value.int IntKind.i64 x46.1, Value.int IntKind.i64 x46.2] :: t4.snd.1 }
 w38.drew fun (v47 : Value) (w48 : World) =>
 ∃ (n49 : Int),
 v47 = Value.int IntKind.i64 n49 ∧
 IfB (!decide (n49 < (0 : Int)))
 (CX Try.prog (122 : Nat)
 #[Value.slice t0.1 t0.2 t0.3, Value.int IntKind.i64 x4.1, Value.int IntKind.i64 x4.snd.1, Value.int IntKind.i64 x29.1, Value.func (Fn.func t4.1) #[] t4.2] w48
 fun (v50 : Value) (w51 : World) => ∃ (n52 : Int), v50 = Value.int IntKind.i64 n52 ∧ ([] : List Nat) = [] ∧ ∃ (b53 : Nat), b53 < b3 ∧ y1 b53 (n52, x4.snd.1, n18, x4.snd.snd.snd.1, x4.snd.snd.snd.2) w51)
 (CX Try.prog (123 : Nat)
 #[Value.slice t0.1 t0.2 t0.3, Value.int IntKind.i64 x4.1, Value.int IntKind.i64 x4.snd.1, Value.int IntKind.i64 x29.1, Value.func (Fn.func t4.1) #[] t4.2] w48
 fun (v54 : Value) (w55 : World) =>
 ∃ (x56 : Int × Bool),
 v54 = Value.tuple #[Value.int IntKind.i64 x56.1, Value.bool x56.2] ∧
 ¬(8 : Int) = (0 : Int) ∧
 IfB (decide (IntKind.i64.wrap (x56.fst - x4.fst) < IntKind.i64.wrap (x4.snd.fst - x56.fst)))
 (F113k2 t0 x4 x56 n18 t4 w55 b3 y1)
 (F113k1 t0 x56 x4 n18 t4 w55 b3 y1)))
 (CX Try.prog (123 : Nat)
 #[Value.slice t0.1 t0.2 t0.3, Value.int IntKind.i64 x4.1, Value.int IntKind.i64 x4.snd.1, Value.int IntKind.i64 x29.1, Value.func (Fn.func t4.1) #[] t4.2] w38.drew
 fun (v65 : Value) (w66 : World) =>
 ∃ (x67 : Int × Bool),
 v65 = Value.tuple #[Value.int IntKind.i64 x67.1, Value.bool x67.2] ∧
 ¬(8 : Int) = (0 : Int) ∧
 IfB (decide (IntKind.i64.wrap (x67.fst - x4.fst) < IntKind.i64.wrap (x4.snd.fst - x67.fst)))
 (F113k2 t0 x4 x67 n18 t4 w66 b3 y1)
 (F113k1 t0 x67 x4 n18 t4 w66 b3 y1))
def F113j3 (t0 : Sl) (t4 : Nat × Array Value) (R : Value → World → Prop) (y1 : Nat → Int × Int × Int × Bool × Bool → World → Prop) (b3 : Nat) (x4 : Int × Int × Int × Bool × Bool) (n18 : Int) (x29 : Int × Int) (w30 : World) : Prop :=
 ∃ (y33 : Unit → World → Prop),
 IfB x4.snd.snd.snd.1
 (IfB x4.snd.snd.snd.2
 (IfB (x29.2 == (1 : Int))
 (CX Try.prog (121 : Nat) #[Value.slice t0.1 t0.2 t0.3, Value.int IntKind.i64 x4.1, Value.int IntKind.i64 x4.snd.1, Value.func (Fn.func t4.1) #[] t4.2] w30
 fun (v34 : Value) (w35 : World) => ∃ (t36 : Bool), v34 = Value.bool t36 ∧ IfB t36 (R (Value.tuple #[]) w35) (([] : List Nat) = [] ∧ y33 PUnit.unit w35))
 (([] : List Nat) = [] ∧ y33 PUnit.unit w30))
 (([] : List Nat) = [] ∧ y33 PUnit.unit w30))
 (([] : List Nat) = [] ∧ y33 PUnit.unit w30) ∧
 ∀ (y37 : Unit) (w38 : World) (y39 : Nat → Value),
 y33 y37 w38 →
 (F113j4 t0 t4 y1 b3 x4 n18 x29 w38)
def F113j2 (t0 : Sl) (t4 : Nat × Array Value) (R : Value → World → Prop) (y1 : Nat → Int × Int × Int × Bool × Bool → World → Prop) (b3 : Nat) (x4 : Int × Int × Int × Bool × Bool) (n18 : Int) (w19 : World) : Prop :=
 CX Try.prog (119 : Nat) #[Value.slice t0.1 t0.2 t0.3, Value.int IntKind.i64 x4.1, Value.int IntKind.i64 x4.snd.1, Value.func (Fn.func t4.1) #[] t4.2] w19
 fun (v22 : Value) (w23 : World) =>
 ∃ (x24 : Int × Int),
 v22 = Value.tuple #[Value.int IntKind.i64 x24.1, Value.int IntKind.i64 x24.2] ∧
 ∃ (y25 : Int × Int → World → Prop),
 IfB (x24.2 == (2 : Int))
 (CX Try.prog (120 : Nat) #[Value.slice t0.1 t0.2 t0.3, Value.int IntKind.i64 x4.1, Value.int IntKind.i64 x4.snd.1, Value.func (Fn.func t4.1) #[] t4.2] w23
 fun (v26 : Value) (w27 : World) =>
 ∃ (y28 : Unit), v26 = Value.tuple #[] ∧ ([] : List Nat) = [] ∧ y25 (IntKind.i64.wrap (IntKind.i64.wrap (x4.snd.1 - (1 : Int)) - IntKind.i64.wrap (x24.1 - x4.1)), (1 : Int)) w27)
 (([] : List Nat) = [] ∧ y25 (x24.1, x24.2) w23) ∧
 ∀ (x29 : Int × Int) (w30 : World) (y31 : Nat → Value),
 y25 x29 w30 →
 (F113j3 t0 t4 R y1 b3 x4 n18 x29 w30)
def F113j1 (t0 : Sl) (t4 : Nat × Array Value) (R : Value → World → Prop) (y1 : Nat → Int × Int × Int × Bool × Bool → World → Prop) (b3 : Nat) (x4 : Int × Int × Int × Bool × Bool) (w5 : World) : Prop :=
 IfB (decide (IntKind.i64.wrap (x4.snd.fst - x4.fst) ≤ (12 : Int)))
 (CX Try.prog (116 : Nat) #[Value.slice t0.1 t0.2 t0.3, Value.int IntKind.i64 x4.1, Value.int IntKind.i64 x4.snd.1, Value.func (Fn.func t4.1) #[] t4.2] w5
 fun (v8 : Value) (w9 : World) => ∃ (y10 : Unit), v8 = Value.tuple #[] ∧ R (Value.tuple #[]) w9)
 (IfB (x4.snd.snd.1 == (0 : Int))
 (CX Try.prog (117 : Nat) #[Value.slice t0.1 t0.2 t0.3, Value.int IntKind.i64 x4.1, Value.int IntKind.i64 x4.snd.1, Value.func (Fn.func t4.1) #[] t4.2] w5
 fun (v11 : Value) (w12 : World) => ∃ (y13 : Unit), v11 = Value.tuple #[] ∧ R (Value.tuple #[]) w12)
 (∃ (y14 : Int → World → Prop),
 IfB (!x4.snd.snd.snd.1)
 (CX Try.prog (118 : Nat) #[Value.slice t0.1 t0.2 t0.3, Value.int IntKind.i64 x4.1, Value.int IntKind.i64 x4.snd.1, Value.func (Fn.func t4.1) #[] t4.2] w5
 fun (v15 : Value) (w16 : World) => ∃ (y17 : Unit), v15 = Value.tuple #[] ∧ ([] : List Nat) = [] ∧ y14 (IntKind.i64.wrap (x4.snd.snd.1 - (1 : Int))) w16)
 (([] : List Nat) = [] ∧ y14 x4.snd.snd.1 w5) ∧
 ∀ (n18 : Int) (w19 : World) (y20 : Nat → Value),
 y14 n18 w19 →
 (F113j2 t0 t4 R y1 b3 x4 n18 w19)))
def F113 (t0 : Sl) (t1 : Int) (t2 : Int) (t3 : Int) (t4 : Nat × Array Value) (w : World) (R : Value → World → Prop) : Prop :=
 ∃ (y1 : Nat → Int × Int × Int × Bool × Bool → World → Prop),
 (∃ (b2 : Nat), y1 b2 (t1, t2, t3, true, true) w) ∧
 ∀ (b3 : Nat) (x4 : Int × Int × Int × Bool × Bool) (w5 : World) (y6 : Nat → Value),
 y1 b3 x4 w5 →
 (F113j1 t0 t4 R y1 b3 x4 w5)
theorem F113_ok (t0 : Sl) (t1 : Int) (t2 : Int) (t3 : Int) (t4 : Nat × Array Value) (w : World) (R : Value → World → Prop) (h : F113 t0 t1 t2 t3 t4 w R) : CW Try.prog 113 #[Value.slice t0.1 t0.2 t0.3, Value.int IntKind.i64 t1, Value.int IntKind.i64 t2, Value.int IntKind.i64 t3, Value.func (Fn.func t4.1) #[] t4.2] w R :=
  call_of tbOk mixed en113 Try.func113 rfl (.node (.nil) (.node (.nil) (.loop [(1, .one (.int .i64)), (2, .one (.int .i64)), (3, .one (.int .i64)), (10, .one (.bool)), (11, .one (.bool))] [21, 22, 23, 12, 24, 25, 26, 27, 28, 29, 30, 31, 32, 33, 34, 35, 36, 37, 38, 39, 40, 41, 42, 43, 44, 45, 46, 3, 48, 49, 50, 51, 52, 47, 53, 54, 13, 14, 55, 56, 57, 58, 59, 60, 61, 62, 63, 64, 65, 66, 67, 68, 69, 70, 71, 72, 73, 74, 75, 76, 77, 78, 79, 80, 81, 82, 83, 84, 85, 86, 87, 88, 89, 90, 91, 92, 93, 94, 95, 96, 97, 98, 99, 100, 101, 102, 103, 15, 104, 1, 106, 107, 108, 109, 110, 111, 105, 112, 113, 16, 17, 114, 11, 115, 116, 117, 118, 119, 120, 18, 19, 121, 122, 20, 123, 124, 125, 126, 127, 128, 10, 129, 130, 131, 132, 133, 134, 135, 136, 137, 138, 139, 140, 141, 142, 143, 144, 145, 146, 147, 2] (.node (.nil) (.node (.nil) (.node (.nil) (.join [(3, .one (.int .i64))] [38, 39, 40, 41, 42, 43, 44, 45, 46, 3] (.nil) (.node (.nil) (.join [(13, .one (.int .i64)), (14, .one (.int .i64))] [55, 56, 57, 58, 59, 60, 61, 62, 63, 64, 65, 66, 67, 13, 14] (.nil) (.join [] [68, 69, 70, 71, 72, 73, 74, 75, 76, 77, 78, 79, 80] (.nil) (.node (.node (.draw (.st 0 (.st 1 (.st 2 (.st 3 (.st 4 (.st 5 (.st 6 (.st 7 (.st 8 (.st 9 (.st 10 (.st 11 (.st 12 (.ac 13 [] (.st 14 (.st 15 (.st 16 (.fin)))) (.non)))))))))))))))) (.nil)) (.nil)))))))))))) (by kernel_rfl) (Nat.le_of_ble_eq_true (by kernel_rfl)) (Eq.mp (α := F113 t0 t1 t2 t3 t4 w R) (by kernel_rfl) h)
def F116j2 (t0 : Sl) (t1 : Int) (t3 : Nat × Array Value) (y1 : Nat → Int → World → Prop) (b3 : Nat) (n4 : Int) (y8 : Nat → Int → World → Prop) (b10 : Nat) (n11 : Int) (w12 : World) : Prop :=
 IfB (decide (t1 < n11))
 (∃ (b15 : Nat),
 ∃ (b16 : Nat),
 t0.1 = some ({ block := b15, off := b16 } : Addr) ∧
 ((0 : Int) ≤ n11 ∧ n11 < (t0.2 : Int)) ∧
 ∃ (x17 : Int × Int),
 CellsAt w12.drew b15 (b16 + n11.toNat * (2 : Nat)) [Value.int IntKind.i64 x17.1, Value.int IntKind.i64 x17.2] ∧
 ∃ (b18 : Nat),
 ∃ (b19 : Nat),
 t0.1 = some ({ block := b18, off := b19 } : Addr) ∧
 ((0 : Int) ≤ IntKind.i64.wrap (n11 - (1 : Int)) ∧ IntKind.i64.wrap (n11 - (1 : Int)) < (t0.2 : Int)) ∧
 ∃ (x20 : Int × Int),
 CellsAt w12.drew b18 (b19 + (IntKind.i64.wrap (n11 - (1 : Int))).toNat * (2 : Nat)) [Value.int IntKind.i64 x20.1, Value.int IntKind.i64 x20.2] ∧
 CX Try.prog t3.1
 { toList := Value.agg #[Value.int IntKind.i64 x17.1, Value.int IntKind.i64 x17.2] :: Value.agg #[Value.int IntKind.i64 x20.1, Value.int IntKind.i64 x20.2] :: t3.snd.1 }
 w12.drew fun (v21 : Value) (w22 : World) =>
 ∃ (n23 : Int),
 v21 = Value.int IntKind.i64 n23 ∧
 IfB (decide (n23 < (0 : Int)))
 (∃ (b24 : Nat),
 ∃ (b25 : Nat),
 t0.1 = some ({ block := b24, off := b25 } : Addr) ∧
 ((0 : Int) ≤ IntKind.i64.wrap (n11 - (1 : Int)) ∧ IntKind.i64.wrap (n11 - (1 : Int)) < (t0.2 : Int)) ∧
 ∃ (x26 : Int × Int),
 CellsAt w22.drew b24 (b25 + (IntKind.i64.wrap (n11 - (1 : Int))).toNat * (2 : Nat)) [Value.int IntKind.i64 x26.1, Value.int IntKind.i64 x26.2] ∧
 ∃ (b27 : Nat),
 ∃ (b28 : Nat),
 t0.1 = some ({ block := b27, off := b28 } : Addr) ∧
 ((0 : Int) ≤ n11 ∧ n11 < (t0.2 : Int)) ∧
 ∃ (x29 : Int × Int),
 CellsAt w22.drew b27 (b28 + n11.toNat * (2 : Nat)) [Value.int IntKind.i64 x29.1, Value.int IntKind.i64 x29.2] ∧
 ∃ (b30 : Nat),
 ∃ (b31 : Nat),
 t0.1 = some ({ block := b30, off := b31 } : Addr) ∧
 ((0 : Int) ≤ n11 ∧ n11 < (t0.2 : Int)) ∧
 #[Value.int IntKind.i64 x26.1, Value.int IntKind.i64 x26.2].size = (2 : Nat) ∧
 StoreP w22.drew b30 (b31 + n11.toNat * (2 : Nat)) [Value.int IntKind.i64 x26.1, Value.int IntKind.i64 x26.2] fun (w32 : World) =>
 ∃ (b33 : Nat),
 ∃ (b34 : Nat),
 t0.1 = some ({ block := b33, off := b34 } : Addr) ∧
 ((0 : Int) ≤ IntKind.i64.wrap (n11 - (1 : Int)) ∧ IntKind.i64.wrap (n11 - (1 : Int)) < (t0.2 : Int)) ∧
 #[Value.int IntKind.i64 x29.1, Value.int IntKind.i64 x29.2].size = (2 : Nat) ∧
 StoreP w32 b33 (b34 + (IntKind.i64.wrap (n11 - (1 : Int))).toNat * (2 : Nat)) [Value.int IntKind.i64 x29.1, Value.int IntKind.i64 x29.2] fun (w35 : World) =>
 ([] : List Nat) = [] ∧ ∃ (b36 : Nat), b36 < b10 ∧ y8 b36 (IntKind.i64.wrap (n11 - (1 : Int))) w35)
 (([] : List Nat) = [] ∧ ∃ (b37 : Nat), b37 < b3 ∧ y1 b37 (IntKind.i64.wrap (n4 + (1 : Int))) w22))
 (([] : List Nat) = [] ∧ ∃ (b38 : Nat), b38 < b3 ∧ y1 b38 (IntKind.i64.wrap (n4 + (1 : Int))) w12.drew)
def F116 (t0 : Sl) (t1 : Int) (t2 : Int) (t3 : Nat × Array Value) (w : World) (R : Value → World → Prop) : Prop :=
 ∃ (y1 : Nat → Int → World → Prop),
 (∃ (b2 : Nat), y1 b2 (IntKind.i64.wrap (t1 + (1 : Int))) w) ∧
 ∀ (b3 : Nat) (n4 : Int) (w5 : World) (y6 : Nat → Value),
 y1 b3 n4 w5 →
 IfB (decide (n4 < t2))
 (∃ (y8 : Nat → Int → World → Prop),
 (∃ (b9 : Nat), y8 b9 n4 w5) ∧
 ∀ (b10 : Nat) (n11 : Int) (w12 : World) (y13 : Nat → Value),
 y8 b10 n11 w12 →
 (F116j2 t0 t1 t3 y1 b3 n4 y8 b10 n11 w12))
 (R (Value.tuple #[]) w5)
theorem F116_ok (t0 : Sl) (t1 : Int) (t2 : Int) (t3 : Nat × Array Value) (w : World) (R : Value → World → Prop) (h : F116 t0 t1 t2 t3 w R) : CW Try.prog 116 #[Value.slice t0.1 t0.2 t0.3, Value.int IntKind.i64 t1, Value.int IntKind.i64 t2, Value.func (Fn.func t3.1) #[] t3.2] w R :=
  call_of tbOk mixed en116 Try.func116 rfl (.node (.nil) (.loop [(8, .one (.int .i64))] [12, 13, 14, 17, 9, 18, 19, 20, 21, 22, 23, 24, 25, 26, 27, 28, 29, 30, 31, 32, 33, 34, 37, 38, 39, 40, 41, 42, 43, 44, 45, 46, 47, 48, 49, 50, 51, 52, 35, 36, 15, 16, 8] (.node (.nil) (.node (.node (.nil) (.loop [(9, .one (.int .i64))] [18, 19, 20, 21, 22, 23, 24, 25, 26, 27, 28, 29, 30, 31, 32, 33, 34, 37, 38, 39, 40, 41, 42, 43, 44, 45, 46, 47, 48, 49, 50, 51, 52, 35, 36, 9] (.node (.node (.draw (.st 0 (.st 1 (.st 2 (.st 3 (.st 4 (.st 5 (.st 6 (.st 7 (.st 8 (.st 9 (.st 10 (.st 11 (.st 12 (.st 13 (.ac 14 [] (.st 15 (.st 16 (.fin))) (.non))))))))))))))))) (.nil)) (.node (.draw (.st 0 (.st 1 (.st 2 (.st 3 (.st 4 (.st 5 (.st 6 (.st 7 (.st 8 (.st 9 (.st 10 (.st 11 (.st 12 (.st 13 (.st 14 (.ac 15 [4, 3, 2] (.st 16 (.ac 17 [] (.fin) (.non))) (.non)))))))))))))))))) (.nil))))) (.nil))))) (by kernel_rfl) (Nat.le_of_ble_eq_true (by kernel_rfl)) (Eq.mp (α := F116 t0 t1 t2 t3 w R) (by kernel_rfl) h)
def F117j2 (t0 : Sl) (t1 : Int) (t3 : Nat × Array Value) (R : Value → World → Prop) (y12 : Nat → Int → World → Prop) (b14 : Nat) (n15 : Int) (w16 : World) : Prop :=
 IfB (decide ((0 : Int) ≤ n15))
 (∃ (b19 : Nat),
 ∃ (b20 : Nat),
 t0.1 = some ({ block := b19, off := b20 } : Addr) ∧
 ((0 : Int) ≤ IntKind.i64.wrap (t1 + n15) ∧ IntKind.i64.wrap (t1 + n15) < (t0.2 : Int)) ∧
 ∃ (x21 : Int × Int),
 CellsAt w16.drew b19 (b20 + (IntKind.i64.wrap (t1 + n15)).toNat * (2 : Nat)) [Value.int IntKind.i64 x21.1, Value.int IntKind.i64 x21.2] ∧
 ∃ (b22 : Nat),
 ∃ (b23 : Nat),
 t0.1 = some ({ block := b22, off := b23 } : Addr) ∧
 ((0 : Int) ≤ t1 ∧ t1 < (t0.2 : Int)) ∧
 ∃ (x24 : Int × Int),
 CellsAt w16.drew b22 (b23 + t1.toNat * (2 : Nat)) [Value.int IntKind.i64 x24.1, Value.int IntKind.i64 x24.2] ∧
 ∃ (b25 : Nat),
 ∃ (b26 : Nat),
 t0.1 = some ({ block := b25, off := b26 } : Addr) ∧
 ((0 : Int) ≤ t1 ∧ t1 < (t0.2 : Int)) ∧
 #[Value.int IntKind.i64 x21.1, Value.int IntKind.i64 x21.2].size = (2 : Nat) ∧
 StoreP w16.drew b25 (b26 + t1.toNat * (2 : Nat)) [Value.int IntKind.i64 x21.1, Value.int IntKind.i64 x21.2] fun (w27 : World) =>
 ∃ (b28 : Nat),
 ∃ (b29 : Nat),
 t0.1 = some ({ block := b28, off := b29 } : Addr) ∧
 ((0 : Int) ≤ IntKind.i64.wrap (t1 + n15) ∧ IntKind.i64.wrap (t1 + n15) < (t0.2 : Int)) ∧
 #[Value.int IntKind.i64 x24.1, Value.int IntKind.i64 x24.2].size = (2 : Nat) ∧
 StoreP w27 b28 (b29 + (IntKind.i64.wrap (t1 + n15)).toNat * (2 : Nat)) [Value.int IntKind.i64 x24.1, Value.int IntKind.i64 x24.2] fun (w30 : World) =>
 CX Try.prog (124 : Nat)
 #[Value.slice t0.1 t0.2 t0.3, Value.int IntKind.i64 (0 : Int), Value.int IntKind.i64 n15, Value.int IntKind.i64 t1, Value.func (Fn.func t3.1) #[] t3.2] w30
 fun (v31 : Value) (w32 : World) => ∃ (y33 : Unit), v31 = Value.tuple #[] ∧ ([] : List Nat) = [] ∧ ∃ (b34 : Nat), b34 < b14 ∧ y12 b34 (IntKind.i64.wrap (n15 - (1 : Int))) w32)
 (R (Value.tuple #[]) w16)
def F117j1 (t0 : Sl) (t1 : Int) (t2 : Int) (t3 : Nat × Array Value) (R : Value → World → Prop) (y1 : Nat → Int → World → Prop) (b3 : Nat) (n4 : Int) (w5 : World) : Prop :=
 IfB (decide ((0 : Int) ≤ n4))
 (CX Try.prog (124 : Nat)
 #[Value.slice t0.1 t0.2 t0.3, Value.int IntKind.i64 n4, Value.int IntKind.i64 (IntKind.i64.wrap (t2 - t1)), Value.int IntKind.i64 t1, Value.func (Fn.func t3.1) #[] t3.2] w5
 fun (v8 : Value) (w9 : World) => ∃ (y10 : Unit), v8 = Value.tuple #[] ∧ ([] : List Nat) = [] ∧ ∃ (b11 : Nat), b11 < b3 ∧ y1 b11 (IntKind.i64.wrap (n4 - (1 : Int))) w9)
 (∃ (y12 : Nat → Int → World → Prop),
 (∃ (b13 : Nat), y12 b13 (IntKind.i64.wrap (IntKind.i64.wrap (t2 - t1) - (1 : Int))) w5) ∧
 ∀ (b14 : Nat) (n15 : Int) (w16 : World) (y17 : Nat → Value),
 y12 b14 n15 w16 →
 (F117j2 t0 t1 t3 R y12 b14 n15 w16))
def F117 (t0 : Sl) (t1 : Int) (t2 : Int) (t3 : Nat × Array Value) (w : World) (R : Value → World → Prop) : Prop :=
 ¬(2 : Int) = (0 : Int) ∧
 ∃ (y1 : Nat → Int → World → Prop),
 (∃ (b2 : Nat), y1 b2 (IntKind.i64.wrap ((IntKind.i64.wrap (IntKind.i64.wrap (t2 - t1) - (1 : Int))).tdiv (2 : Int))) w) ∧
 ∀ (b3 : Nat) (n4 : Int) (w5 : World) (y6 : Nat → Value),
 y1 b3 n4 w5 →
 (F117j1 t0 t1 t2 t3 R y1 b3 n4 w5)
theorem F117_ok (t0 : Sl) (t1 : Int) (t2 : Int) (t3 : Nat × Array Value) (w : World) (R : Value → World → Prop) (h : F117 t0 t1 t2 t3 w R) : CW Try.prog 117 #[Value.slice t0.1 t0.2 t0.3, Value.int IntKind.i64 t1, Value.int IntKind.i64 t2, Value.func (Fn.func t3.1) #[] t3.2] w R :=
  call_of tbOk mixed en117 Try.func117 rfl (.node (.nil) (.node (.nil) (.node (.nil) (.node (.node (.nil) (.loop [(11, .one (.int .i64))] [20, 21, 24, 25, 26, 27, 28, 29, 22, 23, 11] (.nil))) (.node (.nil) (.loop [(12, .one (.int .i64))] [32, 33, 36, 37, 38, 39, 40, 41, 42, 43, 44, 45, 46, 47, 48, 49, 50, 51, 52, 53, 54, 55, 56, 57, 58, 59, 34, 35, 12] (.node (.nil) (.node (.node (.draw (.st 0 (.st 1 (.st 2 (.st 3 (.st 4 (.st 5 (.st 6 (.st 7 (.st 8 (.st 9 (.st 10 (.st 11 (.st 12 (.st 13 (.st 14 (.st 15 (.st 16 (.ac 17 [5, 4, 3, 2] (.st 18 (.ac 19 [] (.fin) (.non))) (.non)))))))))))))))))))) (.nil)) (.nil))))))))) (by kernel_rfl) (Nat.le_of_ble_eq_true (by kernel_rfl)) (Eq.mp (α := F117 t0 t1 t2 t3 w R) (by kernel_rfl) h)
def F118j2 (t0 : Sl) (t1 : Int) (y7 : Nat → Int → World → Prop) (b9 : Nat) (n10 : Int) (n18 : Int) (w19 : World) : Prop :=
 ∃ (b22 : Nat),
 ∃ (b23 : Nat),
 t0.1 = some ({ block := b22, off := b23 } : Addr) ∧
 ((0 : Int) ≤ IntKind.i64.wrap (t1 + n18) ∧ IntKind.i64.wrap (t1 + n18) < (t0.2 : Int)) ∧
 ∃ (x24 : Int × Int),
 CellsAt w19.drew b22 (b23 + (IntKind.i64.wrap (t1 + n18)).toNat * (2 : Nat)) [Value.int IntKind.i64 x24.1, Value.int IntKind.i64 x24.2] ∧
 ∃ (b25 : Nat),
 ∃ (b26 : Nat),
 t0.1 = some ({ block := b25, off := b26 } : Addr) ∧
 ((0 : Int) ≤ n10 ∧ n10 < (t0.2 : Int)) ∧
 ∃ (x27 : Int × Int),
 CellsAt w19.drew b25 (b26 + n10.toNat * (2 : Nat)) [Value.int IntKind.i64 x27.1, Value.int IntKind.i64 x27.2] ∧
 ∃ (b28 : Nat),
 ∃ (b29 : Nat),
 t0.1 = some ({ block := b28, off := b29 } : Addr) ∧
 ((0 : Int) ≤ n10 ∧ n10 < (t0.2 : Int)) ∧
 #[Value.int IntKind.i64 x24.1, Value.int IntKind.i64 x24.2].size = (2 : Nat) ∧
 StoreP w19.drew b28 (b29 + n10.toNat * (2 : Nat)) [Value.int IntKind.i64 x24.1, Value.int IntKind.i64 x24.2] fun (w30 : World) =>
 ∃ (b31 : Nat),
 ∃ (b32 : Nat),
 t0.1 = some ({ block := b31, off := b32 } : Addr) ∧
 ((0 : Int) ≤ IntKind.i64.wrap (t1 + n18) ∧ IntKind.i64.wrap (t1 + n18) < (t0.2 : Int)) ∧
 #[Value.int IntKind.i64 x27.1, Value.int IntKind.i64 x27.2].size = (2 : Nat) ∧
 StoreP w30 b31 (b32 + (IntKind.i64.wrap (t1 + n18)).toNat * (2 : Nat)) [Value.int IntKind.i64 x27.1, Value.int IntKind.i64 x27.2] fun (w33 : World) =>
 ([] : List Nat) = [] ∧ ∃ (b34 : Nat), b34 < b9 ∧ y7 b34 (IntKind.i64.wrap (n10 + (1 : Int))) w33
def F118j1 (t0 : Sl) (t1 : Int) (t2 : Int) (R : Value → World → Prop) (b1 : Nat) (n6 : Int) (y7 : Nat → Int → World → Prop) (b9 : Nat) (n10 : Int) (w11 : World) : Prop :=
 ¬(4 : Int) = (0 : Int) ∧
 IfB (decide (n10 ≤ IntKind.i64.wrap (IntKind.i64.wrap (t1 + IntKind.i64.wrap (IntKind.i64.wrap ((IntKind.i64.wrap (t2 - t1)).tdiv (4 : Int)) * (2 : Int))) + (1 : Int))))
 (CX Try.prog (105 : Nat) #[Value.pointer (some ({ block := b1, off := (0 : Nat) } : Addr))] w11 fun (v14 : Value) (w15 : World) =>
 ∃ (n16 : Int),
 v14 = Value.int IntKind.u64 n16 ∧
 ∃ (y17 : Int → World → Prop),
 IfB (decide (IntKind.i64.wrap (t2 - t1) ≤ IntKind.i64.wrap (bitsI BinOp.and IntKind.u64 n16 (IntKind.u64.wrap (n6 - (1 : Int))))))
 (([] : List Nat) = [] ∧ y17 (IntKind.i64.wrap (IntKind.i64.wrap (bitsI BinOp.and IntKind.u64 n16 (IntKind.u64.wrap (n6 - (1 : Int)))) - IntKind.i64.wrap (t2 - t1))) w15)
 (([] : List Nat) = [] ∧ y17 (IntKind.i64.wrap (bitsI BinOp.and IntKind.u64 n16 (IntKind.u64.wrap (n6 - (1 : Int))))) w15) ∧
 ∀ (n18 : Int) (w19 : World) (y20 : Nat → Value),
 y17 n18 w19 →
 (F118j2 t0 t1 y7 b9 n10 n18 w19))
 (R (Value.tuple #[]) w11)
def F118 (t0 : Sl) (t1 : Int) (t2 : Int) (t3 : Nat × Array Value) (w : World) (R : Value → World → Prop) : Prop :=
 IfB (decide ((8 : Int) ≤ IntKind.i64.wrap (t2 - t1)))
 (AllocP w (Obj.cells #[Value.int IntKind.u64 (0 : Int)] (121 : Nat)) fun (b1 : Nat) (w2 : World) =>
 #[Value.int IntKind.u64 (IntKind.u64.wrap (IntKind.i64.wrap (t2 - t1)))].size = (1 : Nat) ∧
 StoreP w2 b1 (0 : Nat) [Value.int IntKind.u64 (IntKind.u64.wrap (IntKind.i64.wrap (t2 - t1)))] fun (w3 : World) =>
 CX Try.prog (104 : Nat) #[Value.int IntKind.i64 (IntKind.i64.wrap (t2 - t1))] w3 fun (v4 : Value) (w5 : World) =>
 ∃ (n6 : Int),
 v4 = Value.int IntKind.u64 n6 ∧
 ¬(4 : Int) = (0 : Int) ∧
 ∃ (y7 : Nat → Int → World → Prop),
 (∃ (b8 : Nat), y7 b8 (IntKind.i64.wrap (IntKind.i64.wrap (t1 + IntKind.i64.wrap (IntKind.i64.wrap ((IntKind.i64.wrap (t2 - t1)).tdiv (4 : Int)) * (2 : Int))) - (1 : Int))) w5) ∧
 ∀ (b9 : Nat) (n10 : Int) (w11 : World) (y12 : Nat → Value),
 y7 b9 n10 w11 →
 (F118j1 t0 t1 t2 R b1 n6 y7 b9 n10 w11))
 (R (Value.tuple #[]) w)
theorem F118_ok (t0 : Sl) (t1 : Int) (t2 : Int) (t3 : Nat × Array Value) (w : World) (R : Value → World → Prop) (h : F118 t0 t1 t2 t3 w R) : CW Try.prog 118 #[Value.slice t0.1 t0.2 t0.3, Value.int IntKind.i64 t1, Value.int IntKind.i64 t2, Value.func (Fn.func t3.1) #[] t3.2] w R :=
  call_of tbOk mixed en118 Try.func118 rfl (.node (.nil) (.node (.nil) (.node (.node (.nil) (.node (.nil) (.node (.nil) (.loop [(11, .one (.int .i64))] [28, 29, 30, 31, 32, 33, 34, 35, 38, 39, 40, 41, 42, 12, 43, 44, 45, 46, 47, 48, 49, 50, 51, 52, 53, 54, 55, 56, 57, 58, 59, 60, 61, 62, 63, 64, 65, 66, 36, 37, 11] (.node (.nil) (.node (.node (.nil) (.join [(12, .one (.int .i64))] [43, 44, 45, 46, 47, 48, 12] (.nil) (.draw (.st 0 (.st 1 (.st 2 (.st 3 (.st 4 (.st 5 (.st 6 (.st 7 (.st 8 (.st 9 (.st 10 (.st 11 (.st 12 (.st 13 (.st 14 (.st 15 (.st 16 (.ac 17 [5, 4, 3, 2] (.st 18 (.ac 19 [] (.fin) (.non))) (.non)))))))))))))))))))))) (.nil))))))) (.nil)))) (by kernel_rfl) (Nat.le_of_ble_eq_true (by kernel_rfl)) (Eq.mp (α := F118 t0 t1 t2 t3 w R) (by kernel_rfl) h)
def F119j2 (R : Value → World → Prop) (b1 : Nat) (n21 : Int) (w22 : World) : Prop :=
 ∃ (n25 : Int),
 w22.cell? ({ block := b1, off := (0 : Nat) } : Addr) = some (Value.int IntKind.i64 n25) ∧
 IfB (n25 == (0 : Int)) (R (Value.tuple #[Value.int IntKind.i64 n21, Value.int IntKind.i64 (1 : Int)]) w22)
 (IfB (n25 == (12 : Int)) (R (Value.tuple #[Value.int IntKind.i64 n21, Value.int IntKind.i64 (2 : Int)]) w22)
 (R (Value.tuple #[Value.int IntKind.i64 n21, Value.int IntKind.i64 (0 : Int)]) w22))
def F119 (t0 : Sl) (t1 : Int) (t2 : Int) (t3 : Nat × Array Value) (w : World) (R : Value → World → Prop) : Prop :=
 AllocP w (Obj.cells #[Value.int IntKind.i64 (0 : Int)] (3 : Nat)) fun (b1 : Nat) (w2 : World) =>
 ¬(4 : Int) = (0 : Int) ∧
 ¬(4 : Int) = (0 : Int) ∧
 ¬(4 : Int) = (0 : Int) ∧
 ∃ (y3 : Int → World → Prop),
 IfB (decide ((8 : Int) ≤ IntKind.i64.wrap (t2 - t1)))
 (∃ (y4 : Int × Int × Int → World → Prop),
 IfB (decide ((50 : Int) ≤ IntKind.i64.wrap (t2 - t1)))
 (CX Try.prog (125 : Nat)
 #[Value.slice t0.1 t0.2 t0.3, Value.int IntKind.i64 (IntKind.i64.wrap (t1 + IntKind.i64.wrap (IntKind.i64.wrap ((IntKind.i64.wrap (t2 - t1)).tdiv (4 : Int)) * (1 : Int)))),
 Value.pointer (some ({ block := b1, off := (0 : Nat) } : Addr)), Value.func (Fn.func t3.1) #[] t3.2]
 w2 fun (v5 : Value) (w6 : World) =>
 ∃ (n7 : Int),
 v5 = Value.int IntKind.i64 n7 ∧
 CX Try.prog (125 : Nat)
 #[Value.slice t0.1 t0.2 t0.3, Value.int IntKind.i64 (IntKind.i64.wrap (t1 + IntKind.i64.wrap (IntKind.i64.wrap ((IntKind.i64.wrap (t2 - t1)).tdiv (4 : Int)) * (2 : Int)))),
 Value.pointer (some ({ block := b1, off := (0 : Nat) } : Addr)), Value.func (Fn.func t3.1) #[] t3.2]
 w6 fun (v8 : Value) (w9 : World) =>
 ∃ (n10 : Int),
 v8 = Value.int IntKind.i64 n10 ∧
 CX Try.prog (125 : Nat)
 #[Value.slice t0.1 t0.2 t0.3, Value.int IntKind.i64 (IntKind.i64.wrap (t1 + IntKind.i64.wrap (IntKind.i64.wrap ((IntKind.i64.wrap (t2 - t1)).tdiv (4 : Int)) * (3 : Int)))),
 Value.pointer (some ({ block := b1, off := (0 : Nat) } : Addr)), Value.func (Fn.func t3.1) #[] t3.2]
 w9 fun (v11 : Value) (w12 : World) => ∃ (n13 : Int), v11 = Value.int IntKind.i64 n13 ∧ ([] : List Nat) = [] ∧ y4 (n7, n10, n13) w12)
 (([] : List Nat) = [] ∧
 y4
 (IntKind.i64.wrap (t1 + IntKind.i64.wrap (IntKind.i64.wrap ((IntKind.i64.wrap (t2 - t1)).tdiv (4 : Int)) * (1 : Int))),
 IntKind.i64.wrap (t1 + IntKind.i64.wrap (IntKind.i64.wrap ((IntKind.i64.wrap (t2 - t1)).tdiv (4 : Int)) * (2 : Int))),
 IntKind.i64.wrap (t1 + IntKind.i64.wrap (IntKind.i64.wrap ((IntKind.i64.wrap (t2 - t1)).tdiv (4 : Int)) * (3 : Int))))
 w2) ∧
 ∀ (x14 : Int × Int × Int) (w15 : World) (y16 : Nat → Value),
 y4 x14 w15 →
 CX Try.prog (126 : Nat)
 #[Value.slice t0.1 t0.2 t0.3, Value.int IntKind.i64 x14.1, Value.int IntKind.i64 x14.snd.1, Value.int IntKind.i64 x14.snd.2, Value.pointer (some ({ block := b1, off := (0 : Nat) } : Addr)),
 Value.func (Fn.func t3.1) #[] t3.2]
 w15 fun (v18 : Value) (w19 : World) => ∃ (n20 : Int), v18 = Value.int IntKind.i64 n20 ∧ ([] : List Nat) = [] ∧ y3 n20 w19)
 (([] : List Nat) = [] ∧ y3 (IntKind.i64.wrap (t1 + IntKind.i64.wrap (IntKind.i64.wrap ((IntKind.i64.wrap (t2 - t1)).tdiv (4 : Int)) * (2 : Int)))) w2) ∧
 ∀ (n21 : Int) (w22 : World) (y23 : Nat → Value),
 y3 n21 w22 →
 (F119j2 R b1 n21 w22)
theorem F119_ok (t0 : Sl) (t1 : Int) (t2 : Int) (t3 : Nat × Array Value) (w : World) (R : Value → World → Prop) (h : F119 t0 t1 t2 t3 w R) : CW Try.prog 119 #[Value.slice t0.1 t0.2 t0.3, Value.int IntKind.i64 t1, Value.int IntKind.i64 t2, Value.func (Fn.func t3.1) #[] t3.2] w R :=
  call_of tbOk mixed en119 Try.func119 rfl (.node (.nil) (.node (.nil) (.node (.nil) (.node (.nil) (.node (.nil) (.node (.nil) (.join [(13, .one (.int .i64))] [33, 34, 35, 36, 37, 38, 39, 40, 12, 41, 42, 43, 44, 13, 45, 46, 47, 48, 14, 49, 50, 51, 52, 53, 54] (.node (.nil) (.node (.join [(12, .one (.int .i64)), (13, .one (.int .i64)), (14, .one (.int .i64))] [35, 36, 37, 38, 39, 40, 12, 41, 42, 43, 44, 13, 45, 46, 47, 48, 14] (.nil) (.nil)) (.nil))) (.nil)))))))) (by kernel_rfl) (Nat.le_of_ble_eq_true (by kernel_rfl)) (Eq.mp (α := F119 t0 t1 t2 t3 w R) (by kernel_rfl) h)
def F120j1 (t0 : Sl) (R : Value → World → Prop) (y1 : Nat → Int × Int → World → Prop) (b3 : Nat) (x4 : Int × Int) (w5 : World) : Prop :=
 IfB (decide (x4.fst < x4.snd))
 (∃ (b8 : Nat),
 ∃ (b9 : Nat),
 t0.1 = some ({ block := b8, off := b9 } : Addr) ∧
 ((0 : Int) ≤ x4.2 ∧ x4.2 < (t0.2 : Int)) ∧
 ∃ (x10 : Int × Int),
 CellsAt w5.drew b8 (b9 + x4.2.toNat * (2 : Nat)) [Value.int IntKind.i64 x10.1, Value.int IntKind.i64 x10.2] ∧
 ∃ (b11 : Nat),
 ∃ (b12 : Nat),
 t0.1 = some ({ block := b11, off := b12 } : Addr) ∧
 ((0 : Int) ≤ x4.1 ∧ x4.1 < (t0.2 : Int)) ∧
 ∃ (x13 : Int × Int),
 CellsAt w5.drew b11 (b12 + x4.1.toNat * (2 : Nat)) [Value.int IntKind.i64 x13.1, Value.int IntKind.i64 x13.2] ∧
 ∃ (b14 : Nat),
 ∃ (b15 : Nat),
 t0.1 = some ({ block := b14, off := b15 } : Addr) ∧
 ((0 : Int) ≤ x4.1 ∧ x4.1 < (t0.2 : Int)) ∧
 #[Value.int IntKind.i64 x10.1, Value.int IntKind.i64 x10.2].size = (2 : Nat) ∧
 StoreP w5.drew b14 (b15 + x4.1.toNat * (2 : Nat)) [Value.int IntKind.i64 x10.1, Value.int IntKind.i64 x10.2] fun (w16 : World) =>
 ∃ (b17 : Nat),
 ∃ (b18 : Nat),
 t0.1 = some ({ block := b17, off := b18 } : Addr) ∧
 ((0 : Int) ≤ x4.2 ∧ x4.2 < (t0.2 : Int)) ∧
 #[Value.int IntKind.i64 x13.1, Value.int IntKind.i64 x13.2].size = (2 : Nat) ∧
 StoreP w16 b17 (b18 + x4.2.toNat * (2 : Nat)) [Value.int IntKind.i64 x13.1, Value.int IntKind.i64 x13.2] fun (w19 : World) =>
 ([] : List Nat) = [] ∧ ∃ (b20 : Nat), b20 < b3 ∧ y1 b20 (IntKind.i64.wrap (x4.1 + (1 : Int)), IntKind.i64.wrap (x4.2 - (1 : Int))) w19)
 (R (Value.tuple #[]) w5)
def F120 (t0 : Sl) (t1 : Int) (t2 : Int) (t3 : Nat × Array Value) (w : World) (R : Value → World → Prop) : Prop :=
 ∃ (y1 : Nat → Int × Int → World → Prop),
 (∃ (b2 : Nat), y1 b2 (t1, IntKind.i64.wrap (t2 - (1 : Int))) w) ∧
 ∀ (b3 : Nat) (x4 : Int × Int) (w5 : World) (y6 : Nat → Value),
 y1 b3 x4 w5 →
 (F120j1 t0 R y1 b3 x4 w5)
theorem F120_ok (t0 : Sl) (t1 : Int) (t2 : Int) (t3 : Nat × Array Value) (w : World) (R : Value → World → Prop) (h : F120 t0 t1 t2 t3 w R) : CW Try.prog 120 #[Value.slice t0.1 t0.2 t0.3, Value.int IntKind.i64 t1, Value.int IntKind.i64 t2, Value.func (Fn.func t3.1) #[] t3.2] w R :=
  call_of tbOk mixed en120 Try.func120 rfl (.node (.nil) (.node (.nil) (.loop [(8, .one (.int .i64)), (9, .one (.int .i64))] [13, 14, 15, 16, 17, 18, 19, 20, 21, 22, 23, 24, 25, 26, 27, 28, 29, 30, 31, 8, 32, 33, 9] (.node (.nil) (.node (.draw (.st 0 (.st 1 (.st 2 (.st 3 (.st 4 (.st 5 (.st 6 (.st 7 (.st 8 (.st 9 (.st 10 (.st 11 (.st 12 (.ac 13 [3, 2] (.st 14 (.ac 15 [] (.fin) (.non))) (.non)))))))))))))))) (.nil)))))) (by kernel_rfl) (Nat.le_of_ble_eq_true (by kernel_rfl)) (Eq.mp (α := F120 t0 t1 t2 t3 w R) (by kernel_rfl) h)
def F121j2 (t0 : Sl) (t2 : Int) (t3 : Nat × Array Value) (y8 : Int → World → Prop) (y9 : Nat → Int → World → Prop) (b11 : Nat) (n12 : Int) (w13 : World) : Prop :=
 IfB (decide (n12 < t2))
 (∃ (b16 : Nat),
 ∃ (b17 : Nat),
 t0.1 = some ({ block := b16, off := b17 } : Addr) ∧
 ((0 : Int) ≤ n12 ∧ n12 < (t0.2 : Int)) ∧
 ∃ (x18 : Int × Int),
 CellsAt w13.drew b16 (b17 + n12.toNat * (2 : Nat)) [Value.int IntKind.i64 x18.1, Value.int IntKind.i64 x18.2] ∧
 ∃ (b19 : Nat),
 ∃ (b20 : Nat),
 t0.1 = some ({ block := b19, off := b20 } : Addr) ∧
 ((0 : Int) ≤ IntKind.i64.wrap (n12 - (1 : Int)) ∧ IntKind.i64.wrap (n12 - (1 : Int)) < (t0.2 : Int)) ∧
 ∃ (x21 : Int × Int),
 CellsAt w13.drew b19 (b20 + (IntKind.i64.wrap (n12 - (1 : Int))).toNat * (2 : Nat)) [Value.int IntKind.i64 x21.1, Value.int IntKind.i64 x21.2] ∧
 CX Try.prog t3.1
 { toList := Value.agg #[Value.int IntKind.i64 x18.1, Value.int IntKind.i64 x18.2] :: Value.agg #[Value.int IntKind.i64 x21.1, Value.int IntKind.i64 x21.2] :: t3.snd.1 }
 w13.drew fun (v22 : Value) (w23 : World) =>
 ∃ (n24 : Int), v22 = Value.int IntKind.i64 n24 ∧ IfB (!decide (n24 < (0 : Int))) (([] : List Nat) = [] ∧ ∃ (b25 : Nat), b25 < b11 ∧ y9 b25 (IntKind.i64.wrap (n12 + (1 : Int))) w23) (([] : List Nat) = [] ∧ y8 n12 w23))
 (([] : List Nat) = [] ∧ y8 n12 w13.drew)
def F121j4 (t0 : Sl) (t3 : Nat × Array Value) (y42 : Unit → World → Prop) (y43 : Nat → Int → World → Prop) (b45 : Nat) (n46 : Int) (w47 : World) : Prop :=
 IfB (decide ((1 : Int) ≤ n46))
 (∃ (b50 : Nat),
 ∃ (b51 : Nat),
 t0.1 = some ({ block := b50, off := b51 } : Addr) ∧
 ((0 : Int) ≤ n46 ∧ n46 < (t0.2 : Int)) ∧
 ∃ (x52 : Int × Int),
 CellsAt w47.drew b50 (b51 + n46.toNat * (2 : Nat)) [Value.int IntKind.i64 x52.1, Value.int IntKind.i64 x52.2] ∧
 ∃ (b53 : Nat),
 ∃ (b54 : Nat),
 t0.1 = some ({ block := b53, off := b54 } : Addr) ∧
 ((0 : Int) ≤ IntKind.i64.wrap (n46 - (1 : Int)) ∧ IntKind.i64.wrap (n46 - (1 : Int)) < (t0.2 : Int)) ∧
 ∃ (x55 : Int × Int),
 CellsAt w47.drew b53 (b54 + (IntKind.i64.wrap (n46 - (1 : Int))).toNat * (2 : Nat)) [Value.int IntKind.i64 x55.1, Value.int IntKind.i64 x55.2] ∧
 CX Try.prog t3.1
 { toList := Value.agg #[Value.int IntKind.i64 x52.1, Value.int IntKind.i64 x52.2] :: Value.agg #[Value.int IntKind.i64 x55.1, Value.int IntKind.i64 x55.2] :: t3.snd.1 }
 w47.drew fun (v56 : Value) (w57 : World) =>
 ∃ (n58 : Int),
 v56 = Value.int IntKind.i64 n58 ∧
 IfB (!decide (n58 < (0 : Int))) (([] : List Nat) = [] ∧ y42 PUnit.unit w57)
 (∃ (b59 : Nat),
 ∃ (b60 : Nat),
 t0.1 = some ({ block := b59, off := b60 } : Addr) ∧
 ((0 : Int) ≤ IntKind.i64.wrap (n46 - (1 : Int)) ∧ IntKind.i64.wrap (n46 - (1 : Int)) < (t0.2 : Int)) ∧
 ∃ (x61 : Int × Int),
 CellsAt w57.drew b59 (b60 + (IntKind.i64.wrap (n46 - (1 : Int))).toNat * (2 : Nat)) [Value.int IntKind.i64 x61.1, Value.int IntKind.i64 x61.2] ∧
 ∃ (b62 : Nat),
 ∃ (b63 : Nat),
 t0.1 = some ({ block := b62, off := b63 } : Addr) ∧
 ((0 : Int) ≤ n46 ∧ n46 < (t0.2 : Int)) ∧
 ∃ (x64 : Int × Int),
 CellsAt w57.drew b62 (b63 + n46.toNat * (2 : Nat)) [Value.int IntKind.i64 x64.1, Value.int IntKind.i64 x64.2] ∧
 ∃ (b65 : Nat),
 ∃ (b66 : Nat),
 t0.1 = some ({ block := b65, off := b66 } : Addr) ∧
 ((0 : Int) ≤ n46 ∧ n46 < (t0.2 : Int)) ∧
 #[Value.int IntKind.i64 x61.1, Value.int IntKind.i64 x61.2].size = (2 : Nat) ∧
 StoreP w57.drew b65 (b66 + n46.toNat * (2 : Nat)) [Value.int IntKind.i64 x61.1, Value.int IntKind.i64 x61.2] fun (w67 : World) =>
 ∃ (b68 : Nat),
 ∃ (b69 : Nat),
 t0.1 = some ({ block := b68, off := b69 } : Addr) ∧
 ((0 : Int) ≤ IntKind.i64.wrap (n46 - (1 : Int)) ∧ IntKind.i64.wrap (n46 - (1 : Int)) < (t0.2 : Int)) ∧
 #[Value.int IntKind.i64 x64.1, Value.int IntKind.i64 x64.2].size = (2 : Nat) ∧
 StoreP w67 b68 (b69 + (IntKind.i64.wrap (n46 - (1 : Int))).toNat * (2 : Nat)) [Value.int IntKind.i64 x64.1, Value.int IntKind.i64 x64.2] fun (w70 : World) =>
 ([] : List Nat) = [] ∧ ∃ (b71 : Nat), b71 < b45 ∧ y43 b71 (IntKind.i64.wrap (n46 - (1 : Int))) w70))
 (([] : List Nat) = [] ∧ y42 PUnit.unit w47)
def F121j7 (t0 : Sl) (t2 : Int) (t3 : Nat × Array Value) (y1 : Nat → Int × Int → World → Prop) (b3 : Nat) (x4 : Int × Int) (n26 : Int) (y81 : Nat → Int → World → Prop) (b83 : Nat) (n84 : Int) (w85 : World) : Prop :=
 IfB (decide (n84 < t2))
 (∃ (b88 : Nat),
 ∃ (b89 : Nat),
 t0.1 = some ({ block := b88, off := b89 } : Addr) ∧
 ((0 : Int) ≤ n84 ∧ n84 < (t0.2 : Int)) ∧
 ∃ (x90 : Int × Int),
 CellsAt w85.drew b88 (b89 + n84.toNat * (2 : Nat)) [Value.int IntKind.i64 x90.1, Value.int IntKind.i64 x90.2] ∧
 ∃ (b91 : Nat),
 ∃ (b92 : Nat),
 t0.1 = some ({ block := b91, off := b92 } : Addr) ∧
 ((0 : Int) ≤ IntKind.i64.wrap (n84 - (1 : Int)) ∧ IntKind.i64.wrap (n84 - (1 : Int)) < (t0.2 : Int)) ∧
 ∃ (x93 : Int × Int),
 CellsAt w85.drew b91 (b92 + (IntKind.i64.wrap (n84 - (1 : Int))).toNat * (2 : Nat)) [Value.int IntKind.i64 x93.1, Value.int IntKind.i64 x93.2] ∧
 CX Try.prog t3.1
 { toList := Value.agg #[Value.int IntKind.i64 x90.1, Value.int IntKind.i64 x90.2] :: Value.agg #[Value.int IntKind.i64 x93.1, Value.int IntKind.i64 x93.2] :: t3.snd.1 }
 w85.drew fun (v94 : Value) (w95 : World) =>
 ∃ (n96 : Int),
 v94 = Value.int IntKind.i64 n96 ∧
 IfB (!decide (n96 < (0 : Int))) (([] : List Nat) = [] ∧ ∃ (b97 : Nat), b97 < b3 ∧ y1 b97 (n26, IntKind.i64.wrap (x4.2 + (1 : Int))) w95)
 (∃ (b98 : Nat),
 ∃ (b99 : Nat),
 t0.1 = some ({ block := b98, off := b99 } : Addr) ∧
 ((0 : Int) ≤ IntKind.i64.wrap (n84 - (1 : Int)) ∧ IntKind.i64.wrap (n84 - (1 : Int)) < (t0.2 : Int)) ∧
 ∃ (x100 : Int × Int),
 CellsAt w95.drew b98 (b99 + (IntKind.i64.wrap (n84 - (1 : Int))).toNat * (2 : Nat)) [Value.int IntKind.i64 x100.1, Value.int IntKind.i64 x100.2] ∧
 ∃ (b101 : Nat),
 ∃ (b102 : Nat),
 t0.1 = some ({ block := b101, off := b102 } : Addr) ∧
 ((0 : Int) ≤ n84 ∧ n84 < (t0.2 : Int)) ∧
 ∃ (x103 : Int × Int),
 CellsAt w95.drew b101 (b102 + n84.toNat * (2 : Nat)) [Value.int IntKind.i64 x103.1, Value.int IntKind.i64 x103.2] ∧
 ∃ (b104 : Nat),
 ∃ (b105 : Nat),
 t0.1 = some ({ block := b104, off := b105 } : Addr) ∧
 ((0 : Int) ≤ n84 ∧ n84 < (t0.2 : Int)) ∧
 #[Value.int IntKind.i64 x100.1, Value.int IntKind.i64 x100.2].size = (2 : Nat) ∧
 StoreP w95.drew b104 (b105 + n84.toNat * (2 : Nat)) [Value.int IntKind.i64 x100.1, Value.int IntKind.i64 x100.2] fun (w106 : World) =>
 ∃ (b107 : Nat),
 ∃ (b108 : Nat),
 t0.1 = some ({ block := b107, off := b108 } : Addr) ∧
 ((0 : Int) ≤ IntKind.i64.wrap (n84 - (1 : Int)) ∧ IntKind.i64.wrap (n84 - (1 : Int)) < (t0.2 : Int)) ∧
 #[Value.int IntKind.i64 x103.1, Value.int IntKind.i64 x103.2].size = (2 : Nat) ∧
 StoreP w106 b107 (b108 + (IntKind.i64.wrap (n84 - (1 : Int))).toNat * (2 : Nat)) [Value.int IntKind.i64 x103.1, Value.int IntKind.i64 x103.2] fun (w109 : World) =>
 ([] : List Nat) = [] ∧ ∃ (b110 : Nat), b110 < b83 ∧ y81 b110 (IntKind.i64.wrap (n84 + (1 : Int))) w109))
 (([] : List Nat) = [] ∧ ∃ (b111 : Nat), b111 < b3 ∧ y1 b111 (n26, IntKind.i64.wrap (x4.2 + (1 : Int))) w85)
def F121j5 (t0 : Sl) (t2 : Int) (t3 : Nat × Array Value) (y1 : Nat → Int × Int → World → Prop) (b3 : Nat) (x4 : Int × Int) (n26 : Int) (w73 : World) : Prop :=
 ∃ (y76 : Bool → World → Prop),
 (([] : List Nat) = [] ∧ y76 (decide ((2 : Int) ≤ IntKind.i64.wrap (t2 - n26))) w73) ∧
 ∀ (t77 : Bool) (w78 : World) (y79 : Nat → Value),
 y76 t77 w78 →
 IfB t77
 (∃ (y81 : Nat → Int → World → Prop),
 (∃ (b82 : Nat), y81 b82 (IntKind.i64.wrap (n26 + (1 : Int))) w78) ∧
 ∀ (b83 : Nat) (n84 : Int) (w85 : World) (y86 : Nat → Value),
 y81 b83 n84 w85 →
 (F121j7 t0 t2 t3 y1 b3 x4 n26 y81 b83 n84 w85))
 (([] : List Nat) = [] ∧ ∃ (b112 : Nat), b112 < b3 ∧ y1 b112 (n26, IntKind.i64.wrap (x4.2 + (1 : Int))) w78)
def F121j3 (t0 : Sl) (t1 : Int) (t2 : Int) (t3 : Nat × Array Value) (R : Value → World → Prop) (y1 : Nat → Int × Int → World → Prop) (b3 : Nat) (x4 : Int × Int) (n26 : Int) (w27 : World) : Prop :=
 IfB (n26 == t2) (R (Value.bool true) w27)
 (IfB (decide (IntKind.i64.wrap (t2 - t1) < (50 : Int))) (R (Value.bool false) w27)
 (∃ (b30 : Nat),
 ∃ (b31 : Nat),
 t0.1 = some ({ block := b30, off := b31 } : Addr) ∧
 ((0 : Int) ≤ IntKind.i64.wrap (n26 - (1 : Int)) ∧ IntKind.i64.wrap (n26 - (1 : Int)) < (t0.2 : Int)) ∧
 ∃ (x32 : Int × Int),
 CellsAt w27.drew b30 (b31 + (IntKind.i64.wrap (n26 - (1 : Int))).toNat * (2 : Nat)) [Value.int IntKind.i64 x32.1, Value.int IntKind.i64 x32.2] ∧
 ∃ (b33 : Nat),
 ∃ (b34 : Nat),
 t0.1 = some ({ block := b33, off := b34 } : Addr) ∧
 ((0 : Int) ≤ n26 ∧ n26 < (t0.2 : Int)) ∧
 ∃ (x35 : Int × Int),
 CellsAt w27.drew b33 (b34 + n26.toNat * (2 : Nat)) [Value.int IntKind.i64 x35.1, Value.int IntKind.i64 x35.2] ∧
 ∃ (b36 : Nat),
 ∃ (b37 : Nat),
 t0.1 = some ({ block := b36, off := b37 } : Addr) ∧
 ((0 : Int) ≤ n26 ∧ n26 < (t0.2 : Int)) ∧
 #[Value.int IntKind.i64 x32.1, Value.int IntKind.i64 x32.2].size = (2 : Nat) ∧
 StoreP w27.drew b36 (b37 + n26.toNat * (2 : Nat)) [Value.int IntKind.i64 x32.1, Value.int IntKind.i64 x32.2] fun (w38 : World) =>
 ∃ (b39 : Nat),
 ∃ (b40 : Nat),
 t0.1 = some ({ block := b39, off := b40 } : Addr) ∧
 ((0 : Int) ≤ IntKind.i64.wrap (n26 - (1 : Int)) ∧ IntKind.i64.wrap (n26 - (1 : Int)) < (t0.2 : Int)) ∧
 #[Value.int IntKind.i64 x35.1, Value.int IntKind.i64 x35.2].size = (2 : Nat) ∧
 StoreP w38 b39 (b40 + (IntKind.i64.wrap (n26 - (1 : Int))).toNat * (2 : Nat)) [Value.int IntKind.i64 x35.1, Value.int IntKind.i64 x35.2] fun (w41 : World) =>
 ∃ (y42 : Unit → World → Prop),
 IfB (decide ((2 : Int) ≤ IntKind.i64.wrap (n26 - t1)))
 (∃ (y43 : Nat → Int → World → Prop),
 (∃ (b44 : Nat), y43 b44 (IntKind.i64.wrap (n26 - (1 : Int))) w41) ∧
 ∀ (b45 : Nat) (n46 : Int) (w47 : World) (y48 : Nat → Value),
 y43 b45 n46 w47 →
 (F121j4 t0 t3 y42 y43 b45 n46 w47))
 (([] : List Nat) = [] ∧ y42 PUnit.unit w41) ∧
 ∀ (y72 : Unit) (w73 : World) (y74 : Nat → Value),
 y42 y72 w73 →
 (F121j5 t0 t2 t3 y1 b3 x4 n26 w73)))
def F121 (t0 : Sl) (t1 : Int) (t2 : Int) (t3 : Nat × Array Value) (w : World) (R : Value → World → Prop) : Prop :=
 ∃ (y1 : Nat → Int × Int → World → Prop),
 (∃ (b2 : Nat), y1 b2 (IntKind.i64.wrap (t1 + (1 : Int)), (0 : Int)) w) ∧
 ∀ (b3 : Nat) (x4 : Int × Int) (w5 : World) (y6 : Nat → Value),
 y1 b3 x4 w5 →
 IfB (decide (x4.snd < (5 : Int)))
 (∃ (y8 : Int → World → Prop),
 (∃ (y9 : Nat → Int → World → Prop),
 (∃ (b10 : Nat), y9 b10 x4.1 w5) ∧
 ∀ (b11 : Nat) (n12 : Int) (w13 : World) (y14 : Nat → Value),
 y9 b11 n12 w13 →
 (F121j2 t0 t2 t3 y8 y9 b11 n12 w13)) ∧
 ∀ (n26 : Int) (w27 : World) (y28 : Nat → Value),
 y8 n26 w27 →
 (F121j3 t0 t1 t2 t3 R y1 b3 x4 n26 w27))
 (R (Value.bool false) w5)
theorem F121_ok (t0 : Sl) (t1 : Int) (t2 : Int) (t3 : Nat × Array Value) (w : World) (R : Value → World → Prop) (h : F121 t0 t1 t2 t3 w R) : CW Try.prog 121 #[Value.slice t0.1 t0.2 t0.3, Value.int IntKind.i64 t1, Value.int IntKind.i64 t2, Value.func (Fn.func t3.1) #[] t3.2] w R :=
  call_of tbOk mixed en121 Try.func121 rfl (.node (.nil) (.node (.nil) (.node (.node (.nil) (.loop [(9, .one (.int .i64)), (10, .one (.int .i64))] [15, 16, 19, 20, 21, 22, 23, 24, 25, 26, 27, 28, 29, 30, 31, 32, 33, 34, 35, 36, 37, 38, 9, 39, 40, 41, 8, 42, 43, 44, 45, 46, 47, 48, 49, 50, 51, 52, 53, 54, 55, 56, 57, 58, 59, 60, 61, 62, 63, 64, 65, 66, 67, 11, 68, 69, 72, 73, 74, 75, 76, 77, 78, 79, 80, 81, 82, 83, 84, 85, 86, 87, 88, 89, 90, 91, 92, 93, 94, 95, 96, 97, 98, 99, 100, 70, 71, 101, 102, 103, 104, 105, 106, 12, 107, 108, 109, 112, 113, 114, 115, 116, 117, 118, 119, 120, 121, 122, 123, 124, 125, 126, 127, 128, 129, 130, 131, 132, 133, 134, 135, 136, 137, 138, 139, 140, 110, 111, 17, 18, 10] (.node (.nil) (.node (.join [(9, .one (.int .i64))] [19, 20, 21, 22, 23, 24, 25, 26, 27, 28, 29, 30, 31, 32, 33, 34, 35, 36, 37, 38, 9] (.loop [(9, .one (.int .i64))] [19, 20, 21, 22, 23, 24, 25, 26, 27, 28, 29, 30, 31, 32, 33, 34, 35, 36, 37, 38, 9] (.node (.node (.draw (.st 0 (.st 1 (.st 2 (.st 3 (.st 4 (.st 5 (.st 6 (.st 7 (.st 8 (.st 9 (.st 10 (.st 11 (.st 12 (.st 13 (.ac 14 [] (.st 15 (.st 16 (.st 17 (.fin)))) (.non))))))))))))))))) (.nil)) (.nil))) (.node (.nil) (.node (.nil) (.node (.draw (.st 0 (.st 1 (.st 2 (.st 3 (.st 4 (.st 5 (.st 6 (.st 7 (.st 8 (.st 9 (.st 10 (.st 11 (.st 12 (.st 13 (.st 14 (.ac 15 [4, 3, 2] (.st 16 (.ac 17 [] (.fin) (.non))) (.non)))))))))))))))))) (.join [] [62, 63, 64, 65, 66, 67, 11, 68, 69, 72, 73, 74, 75, 76, 77, 78, 79, 80, 81, 82, 83, 84, 85, 86, 87, 88, 89, 90, 91, 92, 93, 94, 95, 96, 97, 98, 99, 100, 70, 71] (.node (.nil) (.node (.node (.nil) (.loop [(11, .one (.int .i64))] [68, 69, 72, 73, 74, 75, 76, 77, 78, 79, 80, 81, 82, 83, 84, 85, 86, 87, 88, 89, 90, 91, 92, 93, 94, 95, 96, 97, 98, 99, 100, 70, 71, 11] (.node (.nil) (.node (.node (.node (.draw (.st 0 (.st 1 (.st 2 (.st 3 (.st 4 (.st 5 (.st 6 (.st 7 (.st 8 (.st 9 (.ac 10 [] (.st 11 (.st 12 (.fin))) (.non))))))))))))) (.nil)) (.draw (.st 0 (.st 1 (.st 2 (.st 3 (.st 4 (.st 5 (.st 6 (.st 7 (.st 8 (.st 9 (.st 10 (.st 11 (.st 12 (.st 13 (.st 14 (.ac 15 [4, 3, 2] (.st 16 (.ac 17 [] (.fin) (.non))) (.non))))))))))))))))))) (.nil))))) (.nil))) (.join [(104, .one (.bool))] [101, 102, 103, 104] (.nil) (.node (.node (.nil) (.loop [(12, .one (.int .i64))] [107, 108, 109, 112, 113, 114, 115, 116, 117, 118, 119, 120, 121, 122, 123, 124, 125, 126, 127, 128, 129, 130, 131, 132, 133, 134, 135, 136, 137, 138, 139, 140, 110, 111, 12] (.node (.nil) (.node (.node (.node (.draw (.st 0 (.st 1 (.st 2 (.st 3 (.st 4 (.st 5 (.st 6 (.st 7 (.st 8 (.st 9 (.ac 10 [] (.st 11 (.st 12 (.fin))) (.non))))))))))))) (.nil)) (.draw (.st 0 (.st 1 (.st 2 (.st 3 (.st 4 (.st 5 (.st 6 (.st 7 (.st 8 (.st 9 (.st 10 (.st 11 (.st 12 (.st 13 (.st 14 (.ac 15 [4, 3, 2] (.st 16 (.ac 17 [] (.fin) (.non))) (.non))))))))))))))))))) (.nil))))) (.nil)))))))) (.nil))))) (.nil)))) (by kernel_rfl) (Nat.le_of_ble_eq_true (by kernel_rfl)) (Eq.mp (α := F121 t0 t1 t2 t3 w R) (by kernel_rfl) h)
def F122j2 (t0 : Sl) (t1 : Int) (t4 : Nat × Array Value) (x16 : Int × Int) (y20 : Int → World → Prop) (y21 : Nat → Int → World → Prop) (b23 : Nat) (n24 : Int) (w25 : World) : Prop :=
 IfB (decide (n24 ≤ x16.snd))
 (∃ (b28 : Nat),
 ∃ (b29 : Nat),
 t0.1 = some ({ block := b28, off := b29 } : Addr) ∧
 ((0 : Int) ≤ t1 ∧ t1 < (t0.2 : Int)) ∧
 ∃ (x30 : Int × Int),
 CellsAt w25.drew b28 (b29 + t1.toNat * (2 : Nat)) [Value.int IntKind.i64 x30.1, Value.int IntKind.i64 x30.2] ∧
 ∃ (b31 : Nat),
 ∃ (b32 : Nat),
 t0.1 = some ({ block := b31, off := b32 } : Addr) ∧
 ((0 : Int) ≤ n24 ∧ n24 < (t0.2 : Int)) ∧
 ∃ (x33 : Int × Int),
 CellsAt w25.drew b31 (b32 + n24.toNat * (2 : Nat)) [Value.int IntKind.i64 x33.1, Value.int IntKind.i64 x33.2] ∧
 CX Try.prog t4.1
 { toList := Value.agg #[Value.int IntKind.i64 x30.1, Value.int IntKind.i64 x30.2] :: Value.agg #[Value.int IntKind.i64 x33.1, Value.int IntKind.i64 x33.2] :: t4.snd.1 }
 w25.drew fun (v34 : Value) (w35 : World) =>
 ∃ (n36 : Int), v34 = Value.int IntKind.i64 n36 ∧ IfB (!decide (n36 < (0 : Int))) (([] : List Nat) = [] ∧ ∃ (b37 : Nat), b37 < b23 ∧ y21 b37 (IntKind.i64.wrap (n24 + (1 : Int))) w35) (([] : List Nat) = [] ∧ y20 n24 w35))
 (([] : List Nat) = [] ∧ y20 n24 w25.drew)
def F122j4 (t0 : Sl) (t1 : Int) (t4 : Nat × Array Value) (n38 : Int) (y42 : Int → World → Prop) (y43 : Nat → Int → World → Prop) (b45 : Nat) (n46 : Int) (w47 : World) : Prop :=
 IfB (decide (n38 ≤ n46))
 (∃ (b50 : Nat),
 ∃ (b51 : Nat),
 t0.1 = some ({ block := b50, off := b51 } : Addr) ∧
 ((0 : Int) ≤ t1 ∧ t1 < (t0.2 : Int)) ∧
 ∃ (x52 : Int × Int),
 CellsAt w47.drew b50 (b51 + t1.toNat * (2 : Nat)) [Value.int IntKind.i64 x52.1, Value.int IntKind.i64 x52.2] ∧
 ∃ (b53 : Nat),
 ∃ (b54 : Nat),
 t0.1 = some ({ block := b53, off := b54 } : Addr) ∧
 ((0 : Int) ≤ n46 ∧ n46 < (t0.2 : Int)) ∧
 ∃ (x55 : Int × Int),
 CellsAt w47.drew b53 (b54 + n46.toNat * (2 : Nat)) [Value.int IntKind.i64 x55.1, Value.int IntKind.i64 x55.2] ∧
 CX Try.prog t4.1
 { toList := Value.agg #[Value.int IntKind.i64 x52.1, Value.int IntKind.i64 x52.2] :: Value.agg #[Value.int IntKind.i64 x55.1, Value.int IntKind.i64 x55.2] :: t4.snd.1 }
 w47.drew fun (v56 : Value) (w57 : World) =>
 ∃ (n58 : Int), v56 = Value.int IntKind.i64 n58 ∧ IfB (decide (n58 < (0 : Int))) (([] : List Nat) = [] ∧ ∃ (b59 : Nat), b59 < b45 ∧ y43 b59 (IntKind.i64.wrap (n46 - (1 : Int))) w57) (([] : List Nat) = [] ∧ y42 n46 w57))
 (([] : List Nat) = [] ∧ y42 n46 w47.drew)
def F122j5 (t0 : Sl) (R : Value → World → Prop) (y13 : Nat → Int × Int → World → Prop) (b15 : Nat) (n38 : Int) (n60 : Int) (w61 : World) : Prop :=
 IfB (decide (n60 < n38)) (R (Value.int IntKind.i64 n38) w61)
 (∃ (b64 : Nat),
 ∃ (b65 : Nat),
 t0.1 = some ({ block := b64, off := b65 } : Addr) ∧
 ((0 : Int) ≤ n60 ∧ n60 < (t0.2 : Int)) ∧
 ∃ (x66 : Int × Int),
 CellsAt w61.drew b64 (b65 + n60.toNat * (2 : Nat)) [Value.int IntKind.i64 x66.1, Value.int IntKind.i64 x66.2] ∧
 ∃ (b67 : Nat),
 ∃ (b68 : Nat),
 t0.1 = some ({ block := b67, off := b68 } : Addr) ∧
 ((0 : Int) ≤ n38 ∧ n38 < (t0.2 : Int)) ∧
 ∃ (x69 : Int × Int),
 CellsAt w61.drew b67 (b68 + n38.toNat * (2 : Nat)) [Value.int IntKind.i64 x69.1, Value.int IntKind.i64 x69.2] ∧
 ∃ (b70 : Nat),
 ∃ (b71 : Nat),
 t0.1 = some ({ block := b70, off := b71 } : Addr) ∧
 ((0 : Int) ≤ n38 ∧ n38 < (t0.2 : Int)) ∧
 #[Value.int IntKind.i64 x66.1, Value.int IntKind.i64 x66.2].size = (2 : Nat) ∧
 StoreP w61.drew b70 (b71 + n38.toNat * (2 : Nat)) [Value.int IntKind.i64 x66.1, Value.int IntKind.i64 x66.2] fun (w72 : World) =>
 ∃ (b73 : Nat),
 ∃ (b74 : Nat),
 t0.1 = some ({ block := b73, off := b74 } : Addr) ∧
 ((0 : Int) ≤ n60 ∧ n60 < (t0.2 : Int)) ∧
 #[Value.int IntKind.i64 x69.1, Value.int IntKind.i64 x69.2].size = (2 : Nat) ∧
 StoreP w72 b73 (b74 + n60.toNat * (2 : Nat)) [Value.int IntKind.i64 x69.1, Value.int IntKind.i64 x69.2] fun (w75 : World) =>
 ([] : List Nat) = [] ∧ ∃ (b76 : Nat), b76 < b15 ∧ y13 b76 (IntKind.i64.wrap (n38 + (1 : Int)), IntKind.i64.wrap (n60 - (1 : Int))) w75)
def F122j1 (t0 : Sl) (t1 : Int) (t4 : Nat × Array Value) (R : Value → World → Prop) (y13 : Nat → Int × Int → World → Prop) (b15 : Nat) (x16 : Int × Int) (w17 : World) : Prop :=
 ∃ (y20 : Int → World → Prop),
 (∃ (y21 : Nat → Int → World → Prop),
 (∃ (b22 : Nat), y21 b22 x16.1 w17) ∧
 ∀ (b23 : Nat) (n24 : Int) (w25 : World) (y26 : Nat → Value),
 y21 b23 n24 w25 →
 (F122j2 t0 t1 t4 x16 y20 y21 b23 n24 w25)) ∧
 ∀ (n38 : Int) (w39 : World) (y40 : Nat → Value),
 y20 n38 w39 →
 ∃ (y42 : Int → World → Prop),
 (∃ (y43 : Nat → Int → World → Prop),
 (∃ (b44 : Nat), y43 b44 x16.2 w39) ∧
 ∀ (b45 : Nat) (n46 : Int) (w47 : World) (y48 : Nat → Value),
 y43 b45 n46 w47 →
 (F122j4 t0 t1 t4 n38 y42 y43 b45 n46 w47)) ∧
 ∀ (n60 : Int) (w61 : World) (y62 : Nat → Value),
 y42 n60 w61 →
 (F122j5 t0 R y13 b15 n38 n60 w61)
def F122 (t0 : Sl) (t1 : Int) (t2 : Int) (t3 : Int) (t4 : Nat × Array Value) (w : World) (R : Value → World → Prop) : Prop :=
 ∃ (b1 : Nat),
 ∃ (b2 : Nat),
 t0.1 = some ({ block := b1, off := b2 } : Addr) ∧
 ((0 : Int) ≤ t3 ∧ t3 < (t0.2 : Int)) ∧
 ∃ (x3 : Int × Int),
 CellsAt w.drew b1 (b2 + t3.toNat * (2 : Nat)) [Value.int IntKind.i64 x3.1, Value.int IntKind.i64 x3.2] ∧
 ∃ (b4 : Nat),
 ∃ (b5 : Nat),
 t0.1 = some ({ block := b4, off := b5 } : Addr) ∧
 ((0 : Int) ≤ t1 ∧ t1 < (t0.2 : Int)) ∧
 ∃ (x6 : Int × Int),
 CellsAt w.drew b4 (b5 + t1.toNat * (2 : Nat)) [Value.int IntKind.i64 x6.1, Value.int IntKind.i64 x6.2] ∧
 ∃ (b7 : Nat),
 ∃ (b8 : Nat),
 t0.1 = some ({ block := b7, off := b8 } : Addr) ∧
 ((0 : Int) ≤ t1 ∧ t1 < (t0.2 : Int)) ∧
 #[Value.int IntKind.i64 x3.1, Value.int IntKind.i64 x3.2].size = (2 : Nat) ∧
 StoreP w.drew b7 (b8 + t1.toNat * (2 : Nat)) [Value.int IntKind.i64 x3.1, Value.int IntKind.i64 x3.2] fun (w9 : World) =>
 ∃ (b10 : Nat),
 ∃ (b11 : Nat),
 t0.1 = some ({ block := b10, off := b11 } : Addr) ∧
 ((0 : Int) ≤ t3 ∧ t3 < (t0.2 : Int)) ∧
 #[Value.int IntKind.i64 x6.1, Value.int IntKind.i64 x6.2].size = (2 : Nat) ∧
 StoreP w9 b10 (b11 + t3.toNat * (2 : Nat)) [Value.int IntKind.i64 x6.1, Value.int IntKind.i64 x6.2] fun (w12 : World) =>
 ∃ (y13 : Nat → Int × Int → World → Prop),
 (∃ (b14 : Nat), y13 b14 (IntKind.i64.wrap (t1 + (1 : Int)), IntKind.i64.wrap (t2 - (1 : Int))) w12) ∧
 ∀ (b15 : Nat) (x16 : Int × Int) (w17 : World) (y18 : Nat → Value),
 y13 b15 x16 w17 →
 (F122j1 t0 t1 t4 R y13 b15 x16 w17)
theorem F122_ok (t0 : Sl) (t1 : Int) (t2 : Int) (t3 : Int) (t4 : Nat × Array Value) (w : World) (R : Value → World → Prop) (h : F122 t0 t1 t2 t3 t4 w R) : CW Try.prog 122 #[Value.slice t0.1 t0.2 t0.3, Value.int IntKind.i64 t1, Value.int IntKind.i64 t2, Value.int IntKind.i64 t3, Value.func (Fn.func t4.1) #[] t4.2] w R :=
  call_of tbOk mixed en122 Try.func122 rfl (.node (.nil) (.node (.draw (.st 0 (.st 1 (.st 2 (.st 3 (.st 4 (.st 5 (.st 6 (.st 7 (.st 8 (.st 9 (.st 10 (.st 11 (.st 12 (.ac 13 [3, 2] (.st 14 (.ac 15 [] (.fin) (.non))) (.non)))))))))))))))) (.node (.nil) (.node (.loop [(11, .one (.int .i64)), (12, .one (.int .i64))] [31, 32, 33, 34, 35, 36, 37, 38, 39, 40, 41, 42, 43, 44, 45, 46, 47, 48, 49, 11, 50, 51, 52, 53, 54, 55, 56, 57, 58, 59, 60, 61, 62, 63, 64, 65, 66, 67, 12, 68, 69, 70, 71, 72, 73, 74, 75, 76, 77, 78, 79, 80, 81, 82, 83, 84, 85, 86, 87, 88] (.join [(11, .one (.int .i64))] [31, 32, 33, 34, 35, 36, 37, 38, 39, 40, 41, 42, 43, 44, 45, 46, 47, 48, 49, 11] (.loop [(11, .one (.int .i64))] [31, 32, 33, 34, 35, 36, 37, 38, 39, 40, 41, 42, 43, 44, 45, 46, 47, 48, 49, 11] (.node (.node (.draw (.st 0 (.st 1 (.st 2 (.st 3 (.st 4 (.st 5 (.st 6 (.st 7 (.st 8 (.st 9 (.st 10 (.st 11 (.st 12 (.ac 13 [] (.st 14 (.st 15 (.st 16 (.fin)))) (.non)))))))))))))))) (.nil)) (.nil))) (.join [(12, .one (.int .i64))] [50, 51, 52, 53, 54, 55, 56, 57, 58, 59, 60, 61, 62, 63, 64, 65, 66, 67, 12] (.loop [(12, .one (.int .i64))] [50, 51, 52, 53, 54, 55, 56, 57, 58, 59, 60, 61, 62, 63, 64, 65, 66, 67, 12] (.node (.node (.draw (.st 0 (.st 1 (.st 2 (.st 3 (.st 4 (.st 5 (.st 6 (.st 7 (.st 8 (.st 9 (.st 10 (.st 11 (.st 12 (.ac 13 [] (.st 14 (.st 15 (.fin))) (.non)))))))))))))))) (.nil)) (.nil))) (.node (.nil) (.node (.draw (.st 0 (.st 1 (.st 2 (.st 3 (.st 4 (.st 5 (.st 6 (.st 7 (.st 8 (.st 9 (.st 10 (.st 11 (.st 12 (.ac 13 [3, 2] (.st 14 (.ac 15 [] (.fin) (.non))) (.non)))))))))))))))) (.nil)))))) (.nil))))) (by kernel_rfl) (Nat.le_of_ble_eq_true (by kernel_rfl)) (Eq.mp (α := F122 t0 t1 t2 t3 t4 w R) (by kernel_rfl) h)
def F123j1 (t0 : Sl) (t1 : Int) (t2 : Int) (t4 : Nat × Array Value) (y13 : Int → World → Prop) (y14 : Nat → Int → World → Prop) (b16 : Nat) (n17 : Int) (w18 : World) : Prop :=
 IfB (decide (n17 ≤ IntKind.i64.wrap (t2 - (1 : Int))))
 (∃ (b21 : Nat),
 ∃ (b22 : Nat),
 t0.1 = some ({ block := b21, off := b22 } : Addr) ∧
 ((0 : Int) ≤ n17 ∧ n17 < (t0.2 : Int)) ∧
 ∃ (x23 : Int × Int),
 CellsAt w18.drew b21 (b22 + n17.toNat * (2 : Nat)) [Value.int IntKind.i64 x23.1, Value.int IntKind.i64 x23.2] ∧
 ∃ (b24 : Nat),
 ∃ (b25 : Nat),
 t0.1 = some ({ block := b24, off := b25 } : Addr) ∧
 ((0 : Int) ≤ t1 ∧ t1 < (t0.2 : Int)) ∧
 ∃ (x26 : Int × Int),
 CellsAt w18.drew b24 (b25 + t1.toNat * (2 : Nat)) [Value.int IntKind.i64 x26.1, Value.int IntKind.i64 x26.2] ∧
 CX Try.prog t4.1
 { toList := Value.agg #[Value.int IntKind.i64 x23.1, Value.int IntKind.i64 x23.2] :: Value.agg #[Value.int IntKind.i64 x26.1, Value.int IntKind.i64 x26.2] :: t4.snd.1 }
 w18.drew fun (v27 : Value) (w28 : World) =>
 ∃ (n29 : Int), v27 = Value.int IntKind.i64 n29 ∧ IfB (decide (n29 < (0 : Int))) (([] : List Nat) = [] ∧ ∃ (b30 : Nat), b30 < b16 ∧ y14 b30 (IntKind.i64.wrap (n17 + (1 : Int))) w28) (([] : List Nat) = [] ∧ y13 n17 w28))
 (([] : List Nat) = [] ∧ y13 n17 w18.drew)
def F123j3 (t0 : Sl) (t1 : Int) (t4 : Nat × Array Value) (n31 : Int) (y35 : Int → World → Prop) (y36 : Nat → Int → World → Prop) (b38 : Nat) (n39 : Int) (w40 : World) : Prop :=
 IfB (decide (n31 ≤ n39))
 (∃ (b43 : Nat),
 ∃ (b44 : Nat),
 t0.1 = some ({ block := b43, off := b44 } : Addr) ∧
 ((0 : Int) ≤ n39 ∧ n39 < (t0.2 : Int)) ∧
 ∃ (x45 : Int × Int),
 CellsAt w40.drew b43 (b44 + n39.toNat * (2 : Nat)) [Value.int IntKind.i64 x45.1, Value.int IntKind.i64 x45.2] ∧
 ∃ (b46 : Nat),
 ∃ (b47 : Nat),
 t0.1 = some ({ block := b46, off := b47 } : Addr) ∧
 ((0 : Int) ≤ t1 ∧ t1 < (t0.2 : Int)) ∧
 ∃ (x48 : Int × Int),
 CellsAt w40.drew b46 (b47 + t1.toNat * (2 : Nat)) [Value.int IntKind.i64 x48.1, Value.int IntKind.i64 x48.2] ∧
 CX Try.prog t4.1
 { toList := Value.agg #[Value.int IntKind.i64 x45.1, Value.int IntKind.i64 x45.2] :: Value.agg #[Value.int IntKind.i64 x48.1, Value.int IntKind.i64 x48.2] :: t4.snd.1 }
 w40.drew fun (v49 : Value) (w50 : World) =>
 ∃ (n51 : Int), v49 = Value.int IntKind.i64 n51 ∧ IfB (!decide (n51 < (0 : Int))) (([] : List Nat) = [] ∧ ∃ (b52 : Nat), b52 < b38 ∧ y36 b52 (IntKind.i64.wrap (n39 - (1 : Int))) w50) (([] : List Nat) = [] ∧ y35 n39 w50))
 (([] : List Nat) = [] ∧ y35 n39 w40.drew)
def F123j6 (t0 : Sl) (t1 : Int) (t4 : Nat × Array Value) (x84 : Int × Int) (y88 : Int → World → Prop) (y89 : Nat → Int → World → Prop) (b91 : Nat) (n92 : Int) (w93 : World) : Prop :=
 IfB (decide (n92 ≤ x84.snd))
 (∃ (b96 : Nat),
 ∃ (b97 : Nat),
 t0.1 = some ({ block := b96, off := b97 } : Addr) ∧
 ((0 : Int) ≤ n92 ∧ n92 < (t0.2 : Int)) ∧
 ∃ (x98 : Int × Int),
 CellsAt w93.drew b96 (b97 + n92.toNat * (2 : Nat)) [Value.int IntKind.i64 x98.1, Value.int IntKind.i64 x98.2] ∧
 ∃ (b99 : Nat),
 ∃ (b100 : Nat),
 t0.1 = some ({ block := b99, off := b100 } : Addr) ∧
 ((0 : Int) ≤ t1 ∧ t1 < (t0.2 : Int)) ∧
 ∃ (x101 : Int × Int),
 CellsAt w93.drew b99 (b100 + t1.toNat * (2 : Nat)) [Value.int IntKind.i64 x101.1, Value.int IntKind.i64 x101.2] ∧
 CX Try.prog t4.1
 { toList := Value.agg #[Value.int IntKind.i64 x98.1, Value.int IntKind.i64 x98.2] :: Value.agg #[Value.int IntKind.i64 x101.1, Value.int IntKind.i64 x101.2] :: t4.snd.1 }
 w93.drew fun (v102 : Value) (w103 : World) =>
 ∃ (n104 : Int),
 v102 = Value.int IntKind.i64 n104 ∧ IfB (decide (n104 < (0 : Int))) (([] : List Nat) = [] ∧ ∃ (b105 : Nat), b105 < b91 ∧ y89 b105 (IntKind.i64.wrap (n92 + (1 : Int))) w103) (([] : List Nat) = [] ∧ y88 n92 w103))
 (([] : List Nat) = [] ∧ y88 n92 w93.drew)
def F123j8 (t0 : Sl) (t1 : Int) (t4 : Nat × Array Value) (n106 : Int) (y110 : Int → World → Prop) (y111 : Nat → Int → World → Prop) (b113 : Nat) (n114 : Int) (w115 : World) : Prop :=
 IfB (decide (n106 ≤ n114))
 (∃ (b118 : Nat),
 ∃ (b119 : Nat),
 t0.1 = some ({ block := b118, off := b119 } : Addr) ∧
 ((0 : Int) ≤ n114 ∧ n114 < (t0.2 : Int)) ∧
 ∃ (x120 : Int × Int),
 CellsAt w115.drew b118 (b119 + n114.toNat * (2 : Nat)) [Value.int IntKind.i64 x120.1, Value.int IntKind.i64 x120.2] ∧
 ∃ (b121 : Nat),
 ∃ (b122 : Nat),
 t0.1 = some ({ block := b121, off := b122 } : Addr) ∧
 ((0 : Int) ≤ t1 ∧ t1 < (t0.2 : Int)) ∧
 ∃ (x123 : Int × Int),
 CellsAt w115.drew b121 (b122 + t1.toNat * (2 : Nat)) [Value.int IntKind.i64 x123.1, Value.int IntKind.i64 x123.2] ∧
 CX Try.prog t4.1
 { toList := Value.agg #[Value.int IntKind.i64 x120.1, Value.int IntKind.i64 x120.2] :: Value.agg #[Value.int IntKind.i64 x123.1, Value.int IntKind.i64 x123.2] :: t4.snd.1 }
 w115.drew fun (v124 : Value) (w125 : World) =>
 ∃ (n126 : Int),
 v124 = Value.int IntKind.i64 n126 ∧ IfB (!decide (n126 < (0 : Int))) (([] : List Nat) = [] ∧ ∃ (b127 : Nat), b127 < b113 ∧ y111 b127 (IntKind.i64.wrap (n114 - (1 : Int))) w125) (([] : List Nat) = [] ∧ y110 n114 w125))
 (([] : List Nat) = [] ∧ y110 n114 w115.drew)
def F123j9 (t0 : Sl) (t1 : Int) (R : Value → World → Prop) (y81 : Nat → Int × Int → World → Prop) (b83 : Nat) (n106 : Int) (n128 : Int) (w129 : World) : Prop :=
 IfB (decide (n128 < n106))
 (∃ (b132 : Nat),
 ∃ (b133 : Nat),
 t0.1 = some ({ block := b132, off := b133 } : Addr) ∧
 ((0 : Int) ≤ t1 ∧ t1 < (t0.2 : Int)) ∧
 ∃ (x134 : Int × Int),
 CellsAt w129.drew b132 (b133 + t1.toNat * (2 : Nat)) [Value.int IntKind.i64 x134.1, Value.int IntKind.i64 x134.2] ∧
 ∃ (b135 : Nat),
 ∃ (b136 : Nat),
 t0.1 = some ({ block := b135, off := b136 } : Addr) ∧
 ((0 : Int) ≤ n128 ∧ n128 < (t0.2 : Int)) ∧
 ∃ (x137 : Int × Int),
 CellsAt w129.drew b135 (b136 + n128.toNat * (2 : Nat)) [Value.int IntKind.i64 x137.1, Value.int IntKind.i64 x137.2] ∧
 ∃ (b138 : Nat),
 ∃ (b139 : Nat),
 t0.1 = some ({ block := b138, off := b139 } : Addr) ∧
 ((0 : Int) ≤ n128 ∧ n128 < (t0.2 : Int)) ∧
 #[Value.int IntKind.i64 x134.1, Value.int IntKind.i64 x134.2].size = (2 : Nat) ∧
 StoreP w129.drew b138 (b139 + n128.toNat * (2 : Nat)) [Value.int IntKind.i64 x134.1, Value.int IntKind.i64 x134.2] fun (w140 : World) =>
 ∃ (b141 : Nat),
 ∃ (b142 : Nat),
 t0.1 = some ({ block := b141, off := b142 } : Addr) ∧
 ((0 : Int) ≤ t1 ∧ t1 < (t0.2 : Int)) ∧
 #[Value.int IntKind.i64 x137.1, Value.int IntKind.i64 x137.2].size = (2 : Nat) ∧
 StoreP w140 b141 (b142 + t1.toNat * (2 : Nat)) [Value.int IntKind.i64 x137.1, Value.int IntKind.i64 x137.2] fun (w143 : World) =>
 R (Value.tuple #[Value.int IntKind.i64 n128, Value.bool false]) w143)
 (∃ (b144 : Nat),
 ∃ (b145 : Nat),
 t0.1 = some ({ block := b144, off := b145 } : Addr) ∧
 ((0 : Int) ≤ n128 ∧ n128 < (t0.2 : Int)) ∧
 ∃ (x146 : Int × Int),
 CellsAt w129.drew b144 (b145 + n128.toNat * (2 : Nat)) [Value.int IntKind.i64 x146.1, Value.int IntKind.i64 x146.2] ∧
 ∃ (b147 : Nat),
 ∃ (b148 : Nat),
 t0.1 = some ({ block := b147, off := b148 } : Addr) ∧
 ((0 : Int) ≤ n106 ∧ n106 < (t0.2 : Int)) ∧
 ∃ (x149 : Int × Int),
 CellsAt w129.drew b147 (b148 + n106.toNat * (2 : Nat)) [Value.int IntKind.i64 x149.1, Value.int IntKind.i64 x149.2] ∧
 ∃ (b150 : Nat),
 ∃ (b151 : Nat),
 t0.1 = some ({ block := b150, off := b151 } : Addr) ∧
 ((0 : Int) ≤ n106 ∧ n106 < (t0.2 : Int)) ∧
 #[Value.int IntKind.i64 x146.1, Value.int IntKind.i64 x146.2].size = (2 : Nat) ∧
 StoreP w129.drew b150 (b151 + n106.toNat * (2 : Nat)) [Value.int IntKind.i64 x146.1, Value.int IntKind.i64 x146.2] fun (w152 : World) =>
 ∃ (b153 : Nat),
 ∃ (b154 : Nat),
 t0.1 = some ({ block := b153, off := b154 } : Addr) ∧
 ((0 : Int) ≤ n128 ∧ n128 < (t0.2 : Int)) ∧
 #[Value.int IntKind.i64 x149.1, Value.int IntKind.i64 x149.2].size = (2 : Nat) ∧
 StoreP w152 b153 (b154 + n128.toNat * (2 : Nat)) [Value.int IntKind.i64 x149.1, Value.int IntKind.i64 x149.2] fun (w155 : World) =>
 ([] : List Nat) = [] ∧ ∃ (b156 : Nat), b156 < b83 ∧ y81 b156 (IntKind.i64.wrap (n106 + (1 : Int)), IntKind.i64.wrap (n128 - (1 : Int))) w155)
def F123j5 (t0 : Sl) (t1 : Int) (t4 : Nat × Array Value) (R : Value → World → Prop) (y81 : Nat → Int × Int → World → Prop) (b83 : Nat) (x84 : Int × Int) (w85 : World) : Prop :=
 ∃ (y88 : Int → World → Prop),
 (∃ (y89 : Nat → Int → World → Prop),
 (∃ (b90 : Nat), y89 b90 x84.1 w85) ∧
 ∀ (b91 : Nat) (n92 : Int) (w93 : World) (y94 : Nat → Value),
 y89 b91 n92 w93 →
 (F123j6 t0 t1 t4 x84 y88 y89 b91 n92 w93)) ∧
 ∀ (n106 : Int) (w107 : World) (y108 : Nat → Value),
 y88 n106 w107 →
 ∃ (y110 : Int → World → Prop),
 (∃ (y111 : Nat → Int → World → Prop),
 (∃ (b112 : Nat), y111 b112 x84.2 w107) ∧
 ∀ (b113 : Nat) (n114 : Int) (w115 : World) (y116 : Nat → Value),
 y111 b113 n114 w115 →
 (F123j8 t0 t1 t4 n106 y110 y111 b113 n114 w115)) ∧
 ∀ (n128 : Int) (w129 : World) (y130 : Nat → Value),
 y110 n128 w129 →
 (F123j9 t0 t1 R y81 b83 n106 n128 w129)
def F123j4 (t0 : Sl) (t1 : Int) (t4 : Nat × Array Value) (R : Value → World → Prop) (n31 : Int) (n53 : Int) (w54 : World) : Prop :=
 IfB (decide (n53 < n31))
 (∃ (b57 : Nat),
 ∃ (b58 : Nat),
 t0.1 = some ({ block := b57, off := b58 } : Addr) ∧
 ((0 : Int) ≤ t1 ∧ t1 < (t0.2 : Int)) ∧
 ∃ (x59 : Int × Int),
 CellsAt w54.drew b57 (b58 + t1.toNat * (2 : Nat)) [Value.int IntKind.i64 x59.1, Value.int IntKind.i64 x59.2] ∧
 ∃ (b60 : Nat),
 ∃ (b61 : Nat),
 t0.1 = some ({ block := b60, off := b61 } : Addr) ∧
 ((0 : Int) ≤ n53 ∧ n53 < (t0.2 : Int)) ∧
 ∃ (x62 : Int × Int),
 CellsAt w54.drew b60 (b61 + n53.toNat * (2 : Nat)) [Value.int IntKind.i64 x62.1, Value.int IntKind.i64 x62.2] ∧
 ∃ (b63 : Nat),
 ∃ (b64 : Nat),
 t0.1 = some ({ block := b63, off := b64 } : Addr) ∧
 ((0 : Int) ≤ n53 ∧ n53 < (t0.2 : Int)) ∧
 #[Value.int IntKind.i64 x59.1, Value.int IntKind.i64 x59.2].size = (2 : Nat) ∧
 StoreP w54.drew b63 (b64 + n53.toNat * (2 : Nat)) [Value.int IntKind.i64 x59.1, Value.int IntKind.i64 x59.2] fun (w65 : World) =>
 ∃ (b66 : Nat),
 ∃ (b67 : Nat),
 t0.1 = some ({ block := b66, off := b67 } : Addr) ∧
 ((0 : Int) ≤ t1 ∧ t1 < (t0.2 : Int)) ∧
 #[Value.int IntKind.i64 x62.1, Value.int IntKind.i64 x62.2].size = (2 : Nat) ∧
 StoreP w65 b66 (b67 + t1.toNat * (2 : Nat)) [Value.int IntKind.i64 x62.1, Value.int IntKind.i64 x62.2] fun (w68 : World) =>
 R (Value.tuple #[Value.int IntKind.i64 n53, Value.bool true]) w68)
 (∃ (b69 : Nat),
 ∃ (b70 : Nat),
 t0.1 = some ({ block := b69, off := b70 } : Addr) ∧
 ((0 : Int) ≤ n53 ∧ n53 < (t0.2 : Int)) ∧
 ∃ (x71 : Int × Int),
 CellsAt w54.drew b69 (b70 + n53.toNat * (2 : Nat)) [Value.int IntKind.i64 x71.1, Value.int IntKind.i64 x71.2] ∧
 ∃ (b72 : Nat),
 ∃ (b73 : Nat),
 t0.1 = some ({ block := b72, off := b73 } : Addr) ∧
 ((0 : Int) ≤ n31 ∧ n31 < (t0.2 : Int)) ∧
 ∃ (x74 : Int × Int),
 CellsAt w54.drew b72 (b73 + n31.toNat * (2 : Nat)) [Value.int IntKind.i64 x74.1, Value.int IntKind.i64 x74.2] ∧
 ∃ (b75 : Nat),
 ∃ (b76 : Nat),
 t0.1 = some ({ block := b75, off := b76 } : Addr) ∧
 ((0 : Int) ≤ n31 ∧ n31 < (t0.2 : Int)) ∧
 #[Value.int IntKind.i64 x71.1, Value.int IntKind.i64 x71.2].size = (2 : Nat) ∧
 StoreP w54.drew b75 (b76 + n31.toNat * (2 : Nat)) [Value.int IntKind.i64 x71.1, Value.int IntKind.i64 x71.2] fun (w77 : World) =>
 ∃ (b78 : Nat),
 ∃ (b79 : Nat),
 t0.1 = some ({ block := b78, off := b79 } : Addr) ∧
 ((0 : Int) ≤ n53 ∧ n53 < (t0.2 : Int)) ∧
 #[Value.int IntKind.i64 x74.1, Value.int IntKind.i64 x74.2].size = (2 : Nat) ∧
 StoreP w77 b78 (b79 + n53.toNat * (2 : Nat)) [Value.int IntKind.i64 x74.1, Value.int IntKind.i64 x74.2] fun (w80 : World) =>
 ∃ (y81 : Nat → Int × Int → World → Prop),
 (∃ (b82 : Nat), y81 b82 (IntKind.i64.wrap (n31 + (1 : Int)), IntKind.i64.wrap (n53 - (1 : Int))) w80) ∧
 ∀ (b83 : Nat) (x84 : Int × Int) (w85 : World) (y86 : Nat → Value),
 y81 b83 x84 w85 →
 (F123j5 t0 t1 t4 R y81 b83 x84 w85))
def F123 (t0 : Sl) (t1 : Int) (t2 : Int) (t3 : Int) (t4 : Nat × Array Value) (w : World) (R : Value → World → Prop) : Prop :=
 ∃ (b1 : Nat),
 ∃ (b2 : Nat),
 t0.1 = some ({ block := b1, off := b2 } : Addr) ∧
 ((0 : Int) ≤ t3 ∧ t3 < (t0.2 : Int)) ∧
 ∃ (x3 : Int × Int),
 CellsAt w.drew b1 (b2 + t3.toNat * (2 : Nat)) [Value.int IntKind.i64 x3.1, Value.int IntKind.i64 x3.2] ∧
 ∃ (b4 : Nat),
 ∃ (b5 : Nat),
 t0.1 = some ({ block := b4, off := b5 } : Addr) ∧
 ((0 : Int) ≤ t1 ∧ t1 < (t0.2 : Int)) ∧
 ∃ (x6 : Int × Int),
 CellsAt w.drew b4 (b5 + t1.toNat * (2 : Nat)) [Value.int IntKind.i64 x6.1, Value.int IntKind.i64 x6.2] ∧
 ∃ (b7 : Nat),
 ∃ (b8 : Nat),
 t0.1 = some ({ block := b7, off := b8 } : Addr) ∧
 ((0 : Int) ≤ t1 ∧ t1 < (t0.2 : Int)) ∧
 #[Value.int IntKind.i64 x3.1, Value.int IntKind.i64 x3.2].size = (2 : Nat) ∧
 StoreP w.drew b7 (b8 + t1.toNat * (2 : Nat)) [Value.int IntKind.i64 x3.1, Value.int IntKind.i64 x3.2] fun (w9 : World) =>
 ∃ (b10 : Nat),
 ∃ (b11 : Nat),
 t0.1 = some ({ block := b10, off := b11 } : Addr) ∧
 ((0 : Int) ≤ t3 ∧ t3 < (t0.2 : Int)) ∧
 #[Value.int IntKind.i64 x6.1, Value.int IntKind.i64 x6.2].size = (2 : Nat) ∧
 StoreP w9 b10 (b11 + t3.toNat * (2 : Nat)) [Value.int IntKind.i64 x6.1, Value.int IntKind.i64 x6.2] fun (w12 : World) =>
 ∃ (y13 : Int → World → Prop),
 (∃ (y14 : Nat → Int → World → Prop),
 (∃ (b15 : Nat), y14 b15 (IntKind.i64.wrap (t1 + (1 : Int))) w12) ∧
 ∀ (b16 : Nat) (n17 : Int) (w18 : World) (y19 : Nat → Value),
 y14 b16 n17 w18 →
 (F123j1 t0 t1 t2 t4 y13 y14 b16 n17 w18)) ∧
 ∀ (n31 : Int) (w32 : World) (y33 : Nat → Value),
 y13 n31 w32 →
 ∃ (y35 : Int → World → Prop),
 (∃ (y36 : Nat → Int → World → Prop),
 (∃ (b37 : Nat), y36 b37 (IntKind.i64.wrap (t2 - (1 : Int))) w32) ∧
 ∀ (b38 : Nat) (n39 : Int) (w40 : World) (y41 : Nat → Value),
 y36 b38 n39 w40 →
 (F123j3 t0 t1 t4 n31 y35 y36 b38 n39 w40)) ∧
 ∀ (n53 : Int) (w54 : World) (y55 : Nat → Value),
 y35 n53 w54 →
 (F123j4 t0 t1 t4 R n31 n53 w54)
theorem F123_ok (t0 : Sl) (t1 : Int) (t2 : Int) (t3 : Int) (t4 : Nat × Array Value) (w : World) (R : Value → World → Prop) (h : F123 t0 t1 t2 t3 t4 w R) : CW Try.prog 123 #[Value.slice t0.1 t0.2 t0.3, Value.int IntKind.i64 t1, Value.int IntKind.i64 t2, Value.int IntKind.i64 t3, Value.func (Fn.func t4.1) #[] t4.2] w R :=
  call_of tbOk mixed en123 Try.func123 rfl (.node (.nil) (.node (.draw (.st 0 (.st 1 (.st 2 (.st 3 (.st 4 (.st 5 (.st 6 (.st 7 (.st 8 (.st 9 (.st 10 (.st 11 (.st 12 (.ac 13 [3, 2] (.st 14 (.ac 15 [] (.fin) (.non))) (.non)))))))))))))))) (.node (.nil) (.join [(12, .one (.int .i64))] [32, 33, 34, 35, 36, 37, 38, 39, 40, 41, 42, 43, 44, 45, 46, 47, 48, 49, 12] (.loop [(12, .one (.int .i64))] [32, 33, 34, 35, 36, 37, 38, 39, 40, 41, 42, 43, 44, 45, 46, 47, 48, 49, 12] (.node (.node (.draw (.st 0 (.st 1 (.st 2 (.st 3 (.st 4 (.st 5 (.st 6 (.st 7 (.st 8 (.st 9 (.st 10 (.st 11 (.st 12 (.ac 13 [] (.st 14 (.st 15 (.fin))) (.non)))))))))))))))) (.nil)) (.nil))) (.join [(13, .one (.int .i64))] [50, 51, 52, 53, 54, 55, 56, 57, 58, 59, 60, 61, 62, 63, 64, 65, 66, 67, 68, 13] (.loop [(13, .one (.int .i64))] [50, 51, 52, 53, 54, 55, 56, 57, 58, 59, 60, 61, 62, 63, 64, 65, 66, 67, 68, 13] (.node (.node (.draw (.st 0 (.st 1 (.st 2 (.st 3 (.st 4 (.st 5 (.st 6 (.st 7 (.st 8 (.st 9 (.st 10 (.st 11 (.st 12 (.ac 13 [] (.st 14 (.st 15 (.st 16 (.fin)))) (.non)))))))))))))))) (.nil)) (.nil))) (.node (.node (.nil) (.node (.node (.draw (.st 0 (.st 1 (.st 2 (.st 3 (.st 4 (.st 5 (.st 6 (.st 7 (.st 8 (.st 9 (.st 10 (.st 11 (.st 12 (.ac 13 [3, 2] (.st 14 (.ac 15 [] (.fin) (.non))) (.non)))))))))))))))) (.nil)) (.nil))) (.node (.draw (.st 0 (.st 1 (.st 2 (.st 3 (.st 4 (.st 5 (.st 6 (.st 7 (.st 8 (.st 9 (.st 10 (.st 11 (.st 12 (.ac 13 [3, 2] (.st 14 (.ac 15 [] (.fin) (.non))) (.non)))))))))))))))) (.node (.nil) (.node (.nil) (.node (.loop [(12, .one (.int .i64)), (13, .one (.int .i64))] [105, 106, 107, 108, 109, 110, 111, 112, 113, 114, 115, 116, 117, 118, 119, 120, 121, 122, 12, 123, 124, 125, 126, 127, 128, 129, 130, 131, 132, 133, 134, 135, 136, 137, 138, 139, 140, 141, 13, 142, 143, 144, 145, 146, 147, 148, 149, 150, 151, 152, 153, 154, 155, 156, 157, 158, 159, 160, 161, 162] (.join [(12, .one (.int .i64))] [105, 106, 107, 108, 109, 110, 111, 112, 113, 114, 115, 116, 117, 118, 119, 120, 121, 122, 12] (.loop [(12, .one (.int .i64))] [105, 106, 107, 108, 109, 110, 111, 112, 113, 114, 115, 116, 117, 118, 119, 120, 121, 122, 12] (.node (.node (.draw (.st 0 (.st 1 (.st 2 (.st 3 (.st 4 (.st 5 (.st 6 (.st 7 (.st 8 (.st 9 (.st 10 (.st 11 (.st 12 (.ac 13 [] (.st 14 (.st 15 (.fin))) (.non)))))))))))))))) (.nil)) (.nil))) (.join [(13, .one (.int .i64))] [123, 124, 125, 126, 127, 128, 129, 130, 131, 132, 133, 134, 135, 136, 137, 138, 139, 140, 141, 13] (.loop [(13, .one (.int .i64))] [123, 124, 125, 126, 127, 128, 129, 130, 131, 132, 133, 134, 135, 136, 137, 138, 139, 140, 141, 13] (.node (.node (.draw (.st 0 (.st 1 (.st 2 (.st 3 (.st 4 (.st 5 (.st 6 (.st 7 (.st 8 (.st 9 (.st 10 (.st 11 (.st 12 (.ac 13 [] (.st 14 (.st 15 (.st 16 (.fin)))) (.non)))))))))))))))) (.nil)) (.nil))) (.node (.nil) (.node (.draw (.st 0 (.st 1 (.st 2 (.st 3 (.st 4 (.st 5 (.st 6 (.st 7 (.st 8 (.st 9 (.st 10 (.st 11 (.st 12 (.ac 13 [3, 2] (.st 14 (.ac 15 [] (.fin) (.non))) (.non)))))))))))))))) (.nil)))))) (.node (.draw (.st 0 (.st 1 (.st 2 (.st 3 (.st 4 (.st 5 (.st 6 (.st 7 (.st 8 (.st 9 (.st 10 (.st 11 (.st 12 (.ac 13 [3, 2] (.st 14 (.ac 15 [] (.fin) (.non))) (.non)))))))))))))))) (.nil)))))))))))) (by kernel_rfl) (Nat.le_of_ble_eq_true (by kernel_rfl)) (Eq.mp (α := F123 t0 t1 t2 t3 t4 w R) (by kernel_rfl) h)
def F124j2 (t0 : Sl) (t3 : Int) (t4 : Nat × Array Value) (R : Value → World → Prop) (y1 : Nat → Int → World → Prop) (b3 : Nat) (n4 : Int) (n18 : Int) (w19 : World) : Prop :=
 ∃ (b22 : Nat),
 ∃ (b23 : Nat),
 t0.1 = some ({ block := b22, off := b23 } : Addr) ∧
 ((0 : Int) ≤ IntKind.i64.wrap (t3 + n4) ∧ IntKind.i64.wrap (t3 + n4) < (t0.2 : Int)) ∧
 ∃ (x24 : Int × Int),
 CellsAt w19.drew b22 (b23 + (IntKind.i64.wrap (t3 + n4)).toNat * (2 : Nat)) [Value.int IntKind.i64 x24.1, Value.int IntKind.i64 x24.2] ∧
 ∃ (b25 : Nat),
 ∃ (b26 : Nat),
 t0.1 = some ({ block := b25, off := b26 } : Addr) ∧
 ((0 : Int) ≤ IntKind.i64.wrap (t3 + n18) ∧ IntKind.i64.wrap (t3 + n18) < (t0.2 : Int)) ∧
 ∃ (x27 : Int × Int),
 CellsAt w19.drew b25 (b26 + (IntKind.i64.wrap (t3 + n18)).toNat * (2 : Nat)) [Value.int IntKind.i64 x27.1, Value.int IntKind.i64 x27.2] ∧
 CX Try.prog t4.1
 { toList := Value.agg #[Value.int IntKind.i64 x24.1, Value.int IntKind.i64 x24.2] :: Value.agg #[Value.int IntKind.i64 x27.1, Value.int IntKind.i64 x27.2] :: t4.snd.1 }
 w19.drew fun (v28 : Value) (w29 : World) =>
 ∃ (n30 : Int),
 v28 = Value.int IntKind.i64 n30 ∧
 IfB (!decide (n30 < (0 : Int))) (R (Value.tuple #[]) w29)
 (∃ (b31 : Nat),
 ∃ (b32 : Nat),
 t0.1 = some ({ block := b31, off := b32 } : Addr) ∧
 ((0 : Int) ≤ IntKind.i64.wrap (t3 + n18) ∧ IntKind.i64.wrap (t3 + n18) < (t0.2 : Int)) ∧
 ∃ (x33 : Int × Int),
 CellsAt w29.drew b31 (b32 + (IntKind.i64.wrap (t3 + n18)).toNat * (2 : Nat)) [Value.int IntKind.i64 x33.1, Value.int IntKind.i64 x33.2] ∧
 ∃ (b34 : Nat),
 ∃ (b35 : Nat),
 t0.1 = some ({ block := b34, off := b35 } : Addr) ∧
 ((0 : Int) ≤ IntKind.i64.wrap (t3 + n4) ∧ IntKind.i64.wrap (t3 + n4) < (t0.2 : Int)) ∧
 ∃ (x36 : Int × Int),
 CellsAt w29.drew b34 (b35 + (IntKind.i64.wrap (t3 + n4)).toNat * (2 : Nat)) [Value.int IntKind.i64 x36.1, Value.int IntKind.i64 x36.2] ∧
 ∃ (b37 : Nat),
 ∃ (b38 : Nat),
 t0.1 = some ({ block := b37, off := b38 } : Addr) ∧
 ((0 : Int) ≤ IntKind.i64.wrap (t3 + n4) ∧ IntKind.i64.wrap (t3 + n4) < (t0.2 : Int)) ∧
 #[Value.int IntKind.i64 x33.1, Value.int IntKind.i64 x33.2].size = (2 : Nat) ∧
 StoreP w29.drew b37 (b38 + (IntKind.i64.wrap (t3 + n4)).toNat * (2 : Nat)) [Value.int IntKind.i64 x33.1, Value.int IntKind.i64 x33.2] fun (w39 : World) =>
 ∃ (b40 : Nat),
 ∃ (b41 : Nat),
 t0.1 = some ({ block := b40, off := b41 } : Addr) ∧
 ((0 : Int) ≤ IntKind.i64.wrap (t3 + n18) ∧ IntKind.i64.wrap (t3 + n18) < (t0.2 : Int)) ∧
 #[Value.int IntKind.i64 x36.1, Value.int IntKind.i64 x36.2].size = (2 : Nat) ∧
 StoreP w39 b40 (b41 + (IntKind.i64.wrap (t3 + n18)).toNat * (2 : Nat)) [Value.int IntKind.i64 x36.1, Value.int IntKind.i64 x36.2] fun (w42 : World) =>
 ([] : List Nat) = [] ∧ ∃ (b43 : Nat), b43 < b3 ∧ y1 b43 n18 w42)
def F124j1 (t0 : Sl) (t2 : Int) (t3 : Int) (t4 : Nat × Array Value) (R : Value → World → Prop) (y1 : Nat → Int → World → Prop) (b3 : Nat) (n4 : Int) (w5 : World) : Prop :=
 IfB (decide (t2 ≤ IntKind.i64.wrap (IntKind.i64.wrap ((2 : Int) * n4) + (1 : Int)))) (R (Value.tuple #[]) w5)
 (∃ (y8 : Int → World → Prop),
 IfB (decide (IntKind.i64.wrap (IntKind.i64.wrap (IntKind.i64.wrap ((2 : Int) * n4) + (1 : Int)) + (1 : Int)) < t2))
 (∃ (b9 : Nat),
 ∃ (b10 : Nat),
 t0.1 = some ({ block := b9, off := b10 } : Addr) ∧
 ((0 : Int) ≤ IntKind.i64.wrap (t3 + IntKind.i64.wrap (IntKind.i64.wrap ((2 : Int) * n4) + (1 : Int))) ∧
 IntKind.i64.wrap (t3 + IntKind.i64.wrap (IntKind.i64.wrap ((2 : Int) * n4) + (1 : Int))) < (t0.2 : Int)) ∧
 ∃ (x11 : Int × Int),
 CellsAt w5.drew b9 (b10 + (IntKind.i64.wrap (t3 + IntKind.i64.wrap (IntKind.i64.wrap ((2 : Int) * n4) + (1 : Int)))).toNat * (2 : Nat)) [Value.int IntKind.i64 x11.1, Value.int IntKind.i64 x11.2] ∧
 ∃ (b12 : Nat),
 ∃ (b13 : Nat),
 t0.1 = some ({ block := b12, off := b13 } : Addr) ∧
 ((0 : Int) ≤ IntKind.i64.wrap (IntKind.i64.wrap (t3 + IntKind.i64.wrap (IntKind.i64.wrap ((2 : Int) * n4) + (1 : Int))) + (1 : Int)) ∧
 IntKind.i64.wrap (IntKind.i64.wrap (t3 + IntKind.i64.wrap (IntKind.i64.wrap ((2 : Int) * n4) + (1 : Int))) + (1 : Int)) < (t0.2 : Int)) ∧
 ∃ (x14 : Int × Int),
 CellsAt w5.drew b12 (b13 + (IntKind.i64.wrap (IntKind.i64.wrap (t3 + IntKind.i64.wrap (IntKind.i64.wrap ((2 : Int) * n4) + (1 : Int))) + (1 : Int))).toNat * (2 : Nat))
 [Value.int IntKind.i64 x14.1, Value.int IntKind.i64 x14.2] ∧
 CX Try.prog t4.1
 { toList := Value.agg #[Value.int IntKind.i64 x11.1, Value.int IntKind.i64 x11.2] :: Value.agg #[Value.int IntKind.i64 x14.1, Value.int IntKind.i64 x14.2] :: t4.snd.1 }
 w5.drew fun (v15 : Value) (w16 : World) =>
 ∃ (n17 : Int),
 v15 = Value.int IntKind.i64 n17 ∧
 IfB (decide (n17 < (0 : Int))) (([] : List Nat) = [] ∧ y8 (IntKind.i64.wrap (IntKind.i64.wrap (IntKind.i64.wrap ((2 : Int) * n4) + (1 : Int)) + (1 : Int))) w16)
 (([] : List Nat) = [] ∧ y8 (IntKind.i64.wrap (IntKind.i64.wrap ((2 : Int) * n4) + (1 : Int))) w16))
 (([] : List Nat) = [] ∧ y8 (IntKind.i64.wrap (IntKind.i64.wrap ((2 : Int) * n4) + (1 : Int))) w5.drew) ∧
 ∀ (n18 : Int) (w19 : World) (y20 : Nat → Value),
 y8 n18 w19 →
 (F124j2 t0 t3 t4 R y1 b3 n4 n18 w19))
def F124 (t0 : Sl) (t1 : Int) (t2 : Int) (t3 : Int) (t4 : Nat × Array Value) (w : World) (R : Value → World → Prop) : Prop :=
 ∃ (y1 : Nat → Int → World → Prop),
 (∃ (b2 : Nat), y1 b2 t1 w) ∧
 ∀ (b3 : Nat) (n4 : Int) (w5 : World) (y6 : Nat → Value),
 y1 b3 n4 w5 →
 (F124j1 t0 t2 t3 t4 R y1 b3 n4 w5)
theorem F124_ok (t0 : Sl) (t1 : Int) (t2 : Int) (t3 : Int) (t4 : Nat × Array Value) (w : World) (R : Value → World → Prop) (h : F124 t0 t1 t2 t3 t4 w R) : CW Try.prog 124 #[Value.slice t0.1 t0.2 t0.3, Value.int IntKind.i64 t1, Value.int IntKind.i64 t2, Value.int IntKind.i64 t3, Value.func (Fn.func t4.1) #[] t4.2] w R :=
  call_of tbOk mixed en124 Try.func124 rfl (.node (.nil) (.loop [(10, .one (.int .i64))] [13, 14, 15, 11, 16, 17, 18, 19, 20, 21, 22, 23, 24, 25, 26, 27, 28, 29, 30, 31, 32, 33, 34, 35, 36, 37, 38, 39, 40, 41, 42, 43, 44, 45, 46, 47, 48, 49, 50, 51, 52, 53, 54, 55, 56, 57, 58, 59, 60, 61, 62, 63, 64, 65, 66, 67, 68, 69, 70, 71, 72, 73, 74, 75, 76, 77, 78, 79, 80, 81, 10] (.node (.nil) (.node (.nil) (.join [(11, .one (.int .i64))] [19, 20, 21, 22, 23, 24, 25, 26, 27, 28, 29, 30, 31, 32, 33, 34, 35, 36, 37, 38, 39, 40, 41, 42, 11] (.node (.draw (.st 0 (.st 1 (.st 2 (.st 3 (.st 4 (.st 5 (.st 6 (.st 7 (.st 8 (.st 9 (.st 10 (.st 11 (.st 12 (.st 13 (.st 14 (.st 15 (.st 16 (.st 17 (.st 18 (.ac 19 [] (.st 20 (.st 21 (.fin))) (.non)))))))))))))))))))))) (.nil)) (.node (.node (.draw (.st 0 (.st 1 (.st 2 (.st 3 (.st 4 (.st 5 (.st 6 (.st 7 (.st 8 (.st 9 (.st 10 (.st 11 (.st 12 (.ac 13 [] (.st 14 (.st 15 (.fin))) (.non)))))))))))))))) (.nil)) (.node (.draw (.st 0 (.st 1 (.st 2 (.st 3 (.st 4 (.st 5 (.st 6 (.st 7 (.st 8 (.st 9 (.st 10 (.st 11 (.st 12 (.st 13 (.st 14 (.st 15 (.st 16 (.st 17 (.st 18 (.st 19 (.st 20 (.ac 21 [7, 6, 5, 4] (.st 22 (.ac 23 [] (.fin) (.non))) (.non)))))))))))))))))))))))) (.nil)))))))) (by kernel_rfl) (Nat.le_of_ble_eq_true (by kernel_rfl)) (Eq.mp (α := F124 t0 t1 t2 t3 t4 w R) (by kernel_rfl) h)
def F125 (t0 : Sl) (t1 : Int) (t2 : Option Addr) (t3 : Nat × Array Value) (w : World) (R : Value → World → Prop) : Prop :=
 CX Try.prog (126 : Nat)
 #[Value.slice t0.1 t0.2 t0.3, Value.int IntKind.i64 (IntKind.i64.wrap (t1 - (1 : Int))), Value.int IntKind.i64 t1, Value.int IntKind.i64 (IntKind.i64.wrap (t1 + (1 : Int))), Value.pointer t2,
 Value.func (Fn.func t3.1) #[] t3.2]
 w fun (v1 : Value) (w2 : World) => ∃ (n3 : Int), v1 = Value.int IntKind.i64 n3 ∧ R (Value.int IntKind.i64 n3) w2
theorem F125_ok (t0 : Sl) (t1 : Int) (t2 : Option Addr) (t3 : Nat × Array Value) (w : World) (R : Value → World → Prop) (h : F125 t0 t1 t2 t3 w R) : CW Try.prog 125 #[Value.slice t0.1 t0.2 t0.3, Value.int IntKind.i64 t1, Value.pointer t2, Value.func (Fn.func t3.1) #[] t3.2] w R :=
  call_of tbOk mixed en125 Try.func125 rfl (.nil) (by kernel_rfl) (Nat.le_of_ble_eq_true (by kernel_rfl)) (Eq.mp (α := F125 t0 t1 t2 t3 w R) (by kernel_rfl) h)
def F126 (t0 : Sl) (t1 : Int) (t2 : Int) (t3 : Int) (t4 : Option Addr) (t5 : Nat × Array Value) (w : World) (R : Value → World → Prop) : Prop :=
 CX Try.prog (127 : Nat) #[Value.slice t0.1 t0.2 t0.3, Value.int IntKind.i64 t1, Value.int IntKind.i64 t2, Value.pointer t4, Value.func (Fn.func t5.1) #[] t5.2] w
 fun (v1 : Value) (w2 : World) =>
 ∃ (x3 : Int × Int),
 v1 = Value.tuple #[Value.int IntKind.i64 x3.1, Value.int IntKind.i64 x3.2] ∧
 CX Try.prog (127 : Nat) #[Value.slice t0.1 t0.2 t0.3, Value.int IntKind.i64 x3.2, Value.int IntKind.i64 t3, Value.pointer t4, Value.func (Fn.func t5.1) #[] t5.2] w2
 fun (v4 : Value) (w5 : World) =>
 ∃ (x6 : Int × Int),
 v4 = Value.tuple #[Value.int IntKind.i64 x6.1, Value.int IntKind.i64 x6.2] ∧
 CX Try.prog (127 : Nat) #[Value.slice t0.1 t0.2 t0.3, Value.int IntKind.i64 x3.1, Value.int IntKind.i64 x6.1, Value.pointer t4, Value.func (Fn.func t5.1) #[] t5.2] w5
 fun (v7 : Value) (w8 : World) => ∃ (x9 : Int × Int), v7 = Value.tuple #[Value.int IntKind.i64 x9.1, Value.int IntKind.i64 x9.2] ∧ R (Value.int IntKind.i64 x9.2) w8
theorem F126_ok (t0 : Sl) (t1 : Int) (t2 : Int) (t3 : Int) (t4 : Option Addr) (t5 : Nat × Array Value) (w : World) (R : Value → World → Prop) (h : F126 t0 t1 t2 t3 t4 t5 w R) : CW Try.prog 126 #[Value.slice t0.1 t0.2 t0.3, Value.int IntKind.i64 t1, Value.int IntKind.i64 t2, Value.int IntKind.i64 t3, Value.pointer t4, Value.func (Fn.func t5.1) #[] t5.2] w R :=
  call_of tbOk mixed en126 Try.func126 rfl (.nil) (by kernel_rfl) (Nat.le_of_ble_eq_true (by kernel_rfl)) (Eq.mp (α := F126 t0 t1 t2 t3 t4 t5 w R) (by kernel_rfl) h)
def F127 (t0 : Sl) (t1 : Int) (t2 : Int) (t3 : Option Addr) (t4 : Nat × Array Value) (w : World) (R : Value → World → Prop) : Prop :=
 ∃ (b1 : Nat),
 ∃ (b2 : Nat),
 t0.1 = some ({ block := b1, off := b2 } : Addr) ∧
 ((0 : Int) ≤ t2 ∧ t2 < (t0.2 : Int)) ∧
 ∃ (x3 : Int × Int),
 CellsAt w.drew b1 (b2 + t2.toNat * (2 : Nat)) [Value.int IntKind.i64 x3.1, Value.int IntKind.i64 x3.2] ∧
 ∃ (b4 : Nat),
 ∃ (b5 : Nat),
 t0.1 = some ({ block := b4, off := b5 } : Addr) ∧
 ((0 : Int) ≤ t1 ∧ t1 < (t0.2 : Int)) ∧
 ∃ (x6 : Int × Int),
 CellsAt w.drew b4 (b5 + t1.toNat * (2 : Nat)) [Value.int IntKind.i64 x6.1, Value.int IntKind.i64 x6.2] ∧
 CX Try.prog t4.1
 { toList := Value.agg #[Value.int IntKind.i64 x3.1, Value.int IntKind.i64 x3.2] :: Value.agg #[Value.int IntKind.i64 x6.1, Value.int IntKind.i64 x6.2] :: t4.snd.1 } w.drew
 fun (v7 : Value) (w8 : World) =>
 ∃ (n9 : Int),
 v7 = Value.int IntKind.i64 n9 ∧
 IfB (decide (n9 < (0 : Int)))
 (∃ (b10 : Nat),
 ∃ (b11 : Nat),
 t3 = some ({ block := b10, off := b11 } : Addr) ∧
 ∃ (n12 : Int),
 w8.cell? ({ block := b10, off := b11 } : Addr) = some (Value.int IntKind.i64 n12) ∧
 ∃ (b13 : Nat),
 ∃ (b14 : Nat),
 t3 = some ({ block := b13, off := b14 } : Addr) ∧
 #[Value.int IntKind.i64 (IntKind.i64.wrap (n12 + (1 : Int)))].size = (1 : Nat) ∧
 StoreP w8 b13 b14 [Value.int IntKind.i64 (IntKind.i64.wrap (n12 + (1 : Int)))] fun (w15 : World) => R (Value.tuple #[Value.int IntKind.i64 t2, Value.int IntKind.i64 t1]) w15)
 (R (Value.tuple #[Value.int IntKind.i64 t1, Value.int IntKind.i64 t2]) w8)
theorem F127_ok (t0 : Sl) (t1 : Int) (t2 : Int) (t3 : Option Addr) (t4 : Nat × Array Value) (w : World) (R : Value → World → Prop) (h : F127 t0 t1 t2 t3 t4 w R) : CW Try.prog 127 #[Value.slice t0.1 t0.2 t0.3, Value.int IntKind.i64 t1, Value.int IntKind.i64 t2, Value.pointer t3, Value.func (Fn.func t4.1) #[] t4.2] w R :=
  call_of tbOk mixed en127 Try.func127 rfl (.node (.nil) (.node (.node (.draw (.st 0 (.st 1 (.st 2 (.st 3 (.st 4 (.st 5 (.st 6 (.st 7 (.st 8 (.ac 9 [] (.st 10 (.fin)) (.non)))))))))))) (.nil)) (.nil))) (by kernel_rfl) (Nat.le_of_ble_eq_true (by kernel_rfl)) (Eq.mp (α := F127 t0 t1 t2 t3 t4 w R) (by kernel_rfl) h)
end Go.Proofs.Ytmmhbjbaallkfaa.Gx
