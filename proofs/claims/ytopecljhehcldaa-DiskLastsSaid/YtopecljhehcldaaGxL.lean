/- The framework, part L: what the proofs say of memory: how a world grew, and slices that a proof owns. -/
import Derived.Test.YtopecljhehcldaaGx13
import Derived.Below
namespace Go.Proofs.Ytopecljhehcldaa.Gx
open Go

/-- Outside of F what was there is there still. -/
structure Ch (F : Nat → Prop) (w w' : World) : Prop where
  rest : Rest w w'
  size : w.heap.size ≤ w'.heap.size
  old : ∀ i, i < w.heap.size → ¬ F i → w'.heap[i]? = w.heap[i]?

theorem Ch.refl (F : Nat → Prop) (w : World) : Ch F w w := ⟨Rest.refl _, Nat.le_refl _, fun _ _ _ => rfl⟩
theorem Ch.trans {F : Nat → Prop} {a b c : World} (h : Ch F a b) (k : Ch F b c) : Ch F a c :=
  ⟨h.rest.trans k.rest, Nat.le_trans h.size k.size, fun i hi hF => (k.old i (Nat.lt_of_lt_of_le hi h.size) hF).trans (h.old i hi hF)⟩
theorem Ch.mono {F G : Nat → Prop} {a b : World} (h : Ch F a b) (hF : ∀ i, i < a.heap.size → F i → G i) : Ch G a b :=
  ⟨h.rest, h.size, fun i hi hG => h.old i hi fun hf => hG (hF i hi hf)⟩
/-- A step that changes what is new, or what F has. -/
theorem Ch.then {F G : Nat → Prop} {a b c : World} (h : Ch F a b) (k : Ch G b c) (hG : ∀ i, i < a.heap.size → G i → F i) : Ch F a c :=
  ⟨h.rest.trans k.rest, Nat.le_trans h.size k.size, fun i hi hF => (k.old i (Nat.lt_of_lt_of_le hi h.size) fun hg => hF (hG i hi hg)).trans (h.old i hi hF)⟩
theorem IsAlloc.ch {w w' : World} {o : Obj} {b : Nat} (h : IsAlloc w o b w') (F : Nat → Prop) : Ch F w w' :=
  ⟨h.rest, by rw [h.size]; omega, fun i hi _ => h.old i hi⟩
theorem IsUpd.ch {w w' : World} {o : Obj} {b : Nat} (h : IsUpd w b o w') : Ch (fun i => i = b) w w' :=
  ⟨h.rest, by rw [h.size]; exact Nat.le_refl _, fun i _ hb => h.old i hb⟩
theorem Ch.ofStb {w w' : World} {n : Nat} (h : Stb n w w') : Ch (fun i => n ≤ i) w w' :=
  ⟨h.rest, h.size, fun i _ hn => h.low i (Nat.lt_of_not_le hn)⟩
theorem Ch.drawn (F : Nat → Prop) (w : World) (d : Nat) : Ch F w { w with drawn := d } := ⟨⟨rfl, rfl, rfl⟩, Nat.le_refl _, fun _ _ _ => rfl⟩

/-- Nothing old was touched. -/
abbrev Ext (w w' : World) : Prop := Ch (fun _ => False) w w'
theorem Ext.at {w w' : World} (h : Ext w w') {i : Nat} {o : Obj} (ho : w.heap[i]? = some o) : w'.heap[i]? = some o := by
  have hi : i < w.heap.size := (Array.getElem?_eq_some_iff.1 ho).1
  rw [h.old i hi id]; exact ho
theorem Ext.below {w w' : World} (h : Ext w w') : RowKit.Below w.heap.size w w' :=
  ⟨h.rest.os, h.rest.tape, h.rest.output, h.size, fun k hk => h.old k hk id⟩
theorem Ch.at {F : Nat → Prop} {w w' : World} (h : Ch F w w') {i : Nat} {o : Obj} (ho : w.heap[i]? = some o) (hF : ¬ F i) : w'.heap[i]? = some o := by
  have hi : i < w.heap.size := (Array.getElem?_eq_some_iff.1 ho).1
  rw [h.old i hi hF]; exact ho
theorem heap_lt {w : World} {i : Nat} {o : Obj} (ho : w.heap[i]? = some o) : i < w.heap.size := (Array.getElem?_eq_some_iff.1 ho).1
theorem IsAlloc.at {w w' : World} {o o' : Obj} {b i : Nat} (h : IsAlloc w o b w') (ho : w.heap[i]? = some o') : w'.heap[i]? = some o' := by
  rw [h.old i (heap_lt ho)]; exact ho
theorem IsUpd.at {w w' : World} {o o' : Obj} {b i : Nat} (h : IsUpd w b o w') (ho : w.heap[i]? = some o') (hi : i ≠ b) : w'.heap[i]? = some o' := by
  rw [h.old i hi]; exact ho

theorem cell_of {w : World} {b : Nat} {cs : Array Value} {T : TypeId} {q : Nat × Nat} (h : w.heap[b]? = some (.cells cs T q)) (o : Nat) : w.cell? ⟨b, o, none⟩ = cs[o]? := by
  simp [World.cell?, h]

theorem cellsAt_of {w : World} {b o : Nat} {cs : Array Value} {T : TypeId} {q : Nat × Nat} (h : w.heap[b]? = some (.cells cs T q)) {l : List Value} (hl : ∀ i v, l[i]? = some v → cs[o + i]? = some v) : CellsAt w b o l := by
  intro i v hv
  rw [cell_of h]; exact hl i v hv

theorem marks_one {w : World} {D : Nat} {K : World → Prop} (hD : w.heap[D]? = some (.deferred (some []))) (h : ∀ w', IsUpd w D (.deferred none) w' → K w') : marksP w [D] K := ⟨hD, h⟩

/-- A store of one cell. -/
theorem store_one {w : World} {b o : Nat} {v : Value} {old : Array Value} {T : TypeId} {K : World → Prop} (hb : w.heap[b]? = some (.cells old T (0, 0))) (ho : o < old.size) (h1 : v.oneCell' = true)
    (hK : ∀ w', IsUpd w b (.cells (old.setIfInBounds o v) T (0, 0)) w' → K w') : StoreP w b o [v] K :=
  ⟨old, T, hb, by simp; omega, by intro x hx; simp at hx; subst hx; exact h1, hK⟩

/-! ### Slices that are owned -/
def OwnS (w : World) (s : Sl) (T : TypeId) (sz : Nat) (cs : List Value) (B : Nat) : Prop :=
  (s = ⟨none, 0, 0⟩ ∧ cs = []) ∨ ∃ b arr, s.p = some ⟨b, 0, none⟩ ∧ B ≤ b ∧ w.heap[b]? = some (.cells arr T (0, 0)) ∧ arr.size = s.c * sz ∧ s.n ≤ s.c ∧ arr.toList.take (s.n * sz) = cs

theorem OwnS.mono {w w' : World} {s : Sl} {T : TypeId} {sz B : Nat} {cs : List Value} (h : OwnS w s T sz cs B) (hw : ∀ b, B ≤ b → ∀ arr, w.heap[b]? = some (.cells arr T (0, 0)) → w'.heap[b]? = some (.cells arr T (0, 0))) :
    OwnS w' s T sz cs B := by
  rcases h with h | ⟨b, arr, h1, h2, h3, h4⟩
  · exact .inl h
  · exact .inr ⟨b, arr, h1, h2, hw b h2 arr h3, h4⟩

theorem OwnS.low {w : World} {s : Sl} {T : TypeId} {sz B B' : Nat} {cs : List Value} (h : OwnS w s T sz cs B) (hB : B' ≤ B) : OwnS w s T sz cs B' := by
  rcases h with h | ⟨b, arr, h1, h2, h3⟩
  · exact .inl h
  · exact .inr ⟨b, arr, h1, Nat.le_trans hB h2, h3⟩

theorem OwnS.ext {w w' : World} {s : Sl} {T : TypeId} {sz B : Nat} {cs : List Value} (h : OwnS w s T sz cs B) (he : Ext w w') : OwnS w' s T sz cs B :=
  h.mono fun _ _ _ ho => he.at ho

theorem OwnS.len {w : World} {s : Sl} {T : TypeId} {sz B : Nat} {cs : List Value} (h : OwnS w s T sz cs B) : cs.length = s.n * sz := by
  rcases h with ⟨rfl, rfl⟩ | ⟨b, arr, _, _, _, h4, h5, rfl⟩
  · simp
  · have : s.n * sz ≤ s.c * sz := Nat.mul_le_mul_right _ h5
    rw [List.length_take, Array.length_toList, h4]; omega

theorem OwnS.lenOne {w : World} {s : Sl} {T : TypeId} {B : Nat} {cs : List Value} (h : OwnS w s T 1 cs B) : s.n = cs.length := by
  rw [h.len, Nat.mul_one]

theorem OwnS.addr {w : World} {s : Sl} {T : TypeId} {B : Nat} {cs : List Value} (h : OwnS w s T 1 cs B) {i : Nat} (hi : i < cs.length) : ∃ b, s.p = some ⟨b, 0, none⟩ ∧ w.cell? ⟨b, 0 + i, none⟩ = cs[i]? := by
  rcases h with ⟨rfl, rfl⟩ | ⟨b, arr, h1, _, h3, h4, h5, rfl⟩
  · simp at hi
  · refine ⟨b, h1, ?_⟩
    rw [cell_of h3, Nat.zero_add, List.getElem?_take]
    simp only [Nat.mul_one] at *
    rw [if_pos (by simp at hi; omega)]
    simp

theorem OwnS.read {w : World} {s : Sl} {T : TypeId} {sz B : Nat} {cs : List Value} (h : OwnS w s T sz cs B) : ReadC w s.p (s.n * sz) cs := by
  have hl := h.len
  rcases h with ⟨rfl, rfl⟩ | ⟨b, arr, h1, _, h3, h4, h5, rfl⟩
  · rfl
  · rw [h1]
    refine ⟨hl, cellsAt_of h3 fun i v hv => ?_⟩
    rw [Nat.zero_add]
    rw [List.getElem?_take] at hv
    split at hv
    · simpa using hv
    · cases hv

theorem zc_len (z : Array Value) (n : Nat) : (zc z n).length = n * z.size := by
  unfold zc
  rw [Array.length_toList]
  simp [Builtin.zeroCells]

/-- append to a slice that is owned. -/
theorem OwnS.append {w : World} {s : Sl} {T : TypeId} {sz B cnt : Nat} {cs new : List Value} {te : TI} {K : Sl → World → Prop} (h : OwnS w s T sz cs B) (hB : B ≤ w.heap.size) (hsz : te.size = sz) (hz : te.zero.cells.size = sz)
    (hn : new.length = cnt * sz) (h1 : ∀ x ∈ new, x.oneCell' = true) (hr : Roomy (s.n + cnt) te.bytes)
    (hK : ∀ s' w', OwnS w' s' T sz (cs ++ new) B → s'.n = s.n + cnt → Ch (fun i => ∃ o, s.p = some o ∧ o.block = i ∧ B ≤ i) w w' → K s' w') : AppendP te T w s.p s.n s.c cnt new K := by
  have hlen := h.len
  have hread := h.read
  refine ⟨fun hc => ?_, fun hc => ⟨hr, cs, by rw [hsz]; exact hread, fun k hk b w' ha => ?_⟩⟩
  · rcases h with ⟨rfl, rfl⟩ | ⟨b, arr, hp, hb, ho, hs, hle, rfl⟩
    · have : cnt = 0 := by simpa using hc
      subst this
      have : new = [] := by simpa using hn
      subst this
      exact hK _ _ (.inl ⟨rfl, by simp⟩) rfl (Ch.refl _ _)
    · rw [hp]
      dsimp only
      rw [hsz, Nat.zero_add]
      have hmul : (s.n + cnt) * sz ≤ s.c * sz := Nat.mul_le_mul_right _ hc
      rw [Nat.add_mul] at hmul
      cases new with
      | nil =>
        have hK' := hK ⟨some ⟨b, 0, none⟩, s.n + cnt, s.c⟩ w (.inr ⟨b, arr, rfl, hb, ho, hs, hc, by
          have e : cnt * sz = 0 := by simpa using hn.symm
          rw [Nat.add_mul, e]; simp⟩) rfl (Ch.refl _ _)
        exact hK'
      | cons v vs =>
        refine ⟨arr, T, ho, by simp only [List.length_cons] at hn; omega, h1, fun w' hu => ?_⟩
        have e : setsA arr (s.n * sz) (v :: vs) = (spliceL arr.toList (s.n * sz) (v :: vs)).toArray := setsA_eq _ _ _ (by rw [hn]; omega)
        refine hK _ _ (.inr ⟨b, _, rfl, hb, hu.new, ?_, hc, ?_⟩) rfl (hu.ch.mono fun i _ hi => ⟨_, hp, hi.symm, by subst hi; exact hb⟩)
        · rw [e]; simp only [spliceL, List.size_toArray, List.length_append, List.length_take, List.length_drop, Array.length_toList, hs, hn]; omega
        · rw [e]
          dsimp only
          rw [List.toList_toArray, Nat.add_mul, ← hn]
          simp only [spliceL]
          rw [List.take_append_of_le_length (by simp only [List.length_append, List.length_take, Array.length_toList, hs]; omega), List.take_of_length_le]
          simp only [List.length_append, List.length_take, Array.length_toList, hs]; omega
  · have e : IsAlloc w (.cells (cs ++ new ++ zc te.zero.cells (k - (s.n + cnt))).toArray T (0, 0)) b w' := ⟨ha.here, ha.size, ha.new, ha.old, ⟨ha.rest.os, ha.rest.tape, ha.rest.output⟩⟩
    refine hK _ _ (.inr ⟨b, _, rfl, by rw [e.here]; exact hB, e.new, ?_, hk, ?_⟩) rfl (e.ch _)
    · simp only [List.size_toArray, List.length_append, zc_len, hlen, hn, hz]
      rw [← Nat.add_mul, ← Nat.add_mul]
      congr 1
      omega
    · dsimp only
      rw [List.take_append_of_le_length (by simp only [List.length_append, hlen, hn, Nat.add_mul]; omega), List.take_of_length_le]
      simp only [List.length_append, hlen, hn, Nat.add_mul]; omega
end Go.Proofs.Ytopecljhehcldaa.Gx
