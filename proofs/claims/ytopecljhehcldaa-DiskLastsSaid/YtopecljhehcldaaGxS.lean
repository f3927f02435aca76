/- The framework, part S: slices that own a whole block: what is read, appended, stored, cut. -/
import Derived.Test.YtopecljhehcldaaGxL
namespace Go.Proofs.Ytopecljhehcldaa.Gx
open Go
set_option linter.unusedSimpArgs false

def blk (s : Sl) : List Nat := match s.p with
  | some a => [a.block]
  | none => []

abbrev slV (s : Sl) : Value := .slice s.p s.n s.c

def OwS (w : World) (s : Sl) (sz : Nat) (cs : List Value) : Prop :=
  (s = ⟨none, 0, 0⟩ ∧ cs = []) ∨ ∃ b arr T, s.p = some ⟨b, 0, none⟩ ∧ w.heap[b]? = some (.cells arr T (0, 0)) ∧ arr.size = s.c * sz ∧ s.n ≤ s.c ∧ arr.toList.take (s.n * sz) = cs

abbrev One (cs : List Value) : Prop := ∀ x ∈ cs, x.oneCell' = true

theorem OwS.nil (w : World) (sz : Nat) : OwS w ⟨none, 0, 0⟩ sz [] := .inl ⟨rfl, rfl⟩

theorem OwS.keep {w w' : World} {s : Sl} {sz : Nat} {cs : List Value} (h : OwS w s sz cs) (hw : ∀ b ∈ blk s, w'.heap[b]? = w.heap[b]?) : OwS w' s sz cs := by
  rcases h with h | ⟨b, arr, T, h1, h2, h3⟩
  · exact .inl h
  · exact .inr ⟨b, arr, T, h1, by rw [hw b (by simp [blk, h1])]; exact h2, h3⟩

theorem OwS.lt {w : World} {s : Sl} {sz : Nat} {cs : List Value} (h : OwS w s sz cs) : ∀ b ∈ blk s, b < w.heap.size := by
  rcases h with ⟨rfl, _⟩ | ⟨b, arr, T, h1, h2, h3⟩
  · intro b hb; simp [blk] at hb
  · intro b' hb; simp [blk, h1] at hb; subst hb; exact heap_lt h2

theorem OwS.ch {w w' : World} {s : Sl} {sz : Nat} {cs : List Value} {F : Nat → Prop} (h : OwS w s sz cs) (hc : Ch F w w') (hF : ∀ b ∈ blk s, ¬ F b) : OwS w' s sz cs :=
  h.keep fun b hb => hc.old b (h.lt b hb) (hF b hb)

theorem OwS.ext {w w' : World} {s : Sl} {sz : Nat} {cs : List Value} (h : OwS w s sz cs) (hc : Ext w w') : OwS w' s sz cs := h.ch hc fun _ _ => id

theorem OwS.len {w : World} {s : Sl} {sz : Nat} {cs : List Value} (h : OwS w s sz cs) : cs.length = s.n * sz := by
  rcases h with ⟨rfl, rfl⟩ | ⟨b, arr, T, _, _, h4, h5, rfl⟩
  · simp
  · have : s.n * sz ≤ s.c * sz := Nat.mul_le_mul_right _ h5
    rw [List.length_take, Array.length_toList, h4]; omega

theorem OwS.len1 {w : World} {s : Sl} {cs : List Value} (h : OwS w s 1 cs) : s.n = cs.length := by rw [h.len, Nat.mul_one]

theorem OwS.cap {w : World} {s : Sl} {sz : Nat} {cs : List Value} (h : OwS w s sz cs) : s.n ≤ s.c := by
  rcases h with ⟨rfl, rfl⟩ | ⟨b, arr, T, _, _, _, h5, _⟩
  · exact Nat.le_refl _
  · exact h5

theorem OwS.ptr {w : World} {s : Sl} {sz : Nat} {cs : List Value} (h : OwS w s sz cs) (hn : 0 < s.n) : ∃ b, s.p = some ⟨b, 0, none⟩ := by
  rcases h with ⟨rfl, _⟩ | ⟨b, arr, T, h1, _⟩
  · exact absurd hn (Nat.lt_irrefl _)
  · exact ⟨b, h1⟩

theorem slAddr_some (b o c l sz : Nat) : slAddr (some ⟨b, o, none⟩) c l sz = some ⟨b, o + (if c = l then 0 else l * sz), none⟩ := by
  unfold slAddr
  split
  · rfl
  · simp [Addr.add]

theorem slAddr_none (c l sz : Nat) : slAddr none c l sz = none := by unfold slAddr; split <;> rfl

theorem slAddr_zero (p : Option Addr) (c sz : Nat) : slAddr p c 0 sz = p := by
  cases p with
  | none => exact slAddr_none _ _ _
  | some a =>
    unfold slAddr
    split
    · rfl
    · simp [Addr.add]

/-- What is read of an owned slice. -/
theorem OwS.read {w : World} {s : Sl} {sz : Nat} {cs : List Value} (h : OwS w s sz cs) (i m : Nat) (him : i + m ≤ s.n) : ReadC w (slAddr s.p s.c i sz) (m * sz) ((cs.drop (i * sz)).take (m * sz)) := by
  have hl := h.len
  rcases h with ⟨rfl, rfl⟩ | ⟨b, arr, T, h1, h3, h4, h5, rfl⟩
  · rw [slAddr_none]
    simp [ReadC]
  · rw [h1, slAddr_some]
    have e : (i + m) * sz ≤ s.n * sz := Nat.mul_le_mul_right _ him
    rw [Nat.add_mul] at e
    refine ⟨by rw [List.length_take, List.length_drop, hl]; omega, cellsAt_of h3 fun j v hv => ?_⟩
    rw [List.getElem?_take] at hv
    split at hv
    · rename_i hj
      split
      · rename_i hc
        have : s.n = i := by omega
        subst this
        have : m = 0 := by omega
        subst this
        simp at hj
      · rw [List.getElem?_drop, List.getElem?_take] at hv
        split at hv
        · rw [show 0 + i * sz + j = i * sz + j by omega]; simpa using hv
        · cases hv
    · cases hv

theorem OwS.readAll {w : World} {s : Sl} {sz : Nat} {cs : List Value} (h : OwS w s sz cs) : ReadC w s.p (s.n * sz) cs := by
  have hl := h.len
  rcases h with ⟨rfl, rfl⟩ | ⟨b, arr, T, h1, h3, h4, h5, rfl⟩
  · rfl
  · rw [h1]
    refine ⟨hl, cellsAt_of h3 fun i v hv => ?_⟩
    rw [Nat.zero_add]
    rw [List.getElem?_take] at hv
    split at hv
    · simpa using hv
    · cases hv

/-- The cells of an element. -/
theorem OwS.elem {w : World} {s : Sl} {sz : Nat} {cs : List Value} (h : OwS w s sz cs) {i : Nat} (hi : i < s.n) {l : List Value} (hl : (cs.drop (i * sz)).take sz = l) :
    ∃ b, s.p = some ⟨b, 0, none⟩ ∧ CellsAt w b (i * sz) l := by
  obtain ⟨b, hp⟩ := h.ptr (by omega)
  refine ⟨b, hp, ?_⟩
  have := h.read i 1 (by omega)
  rw [hp, slAddr_some, Nat.one_mul] at this
  have hc := h.cap
  rw [if_neg (by omega), hl] at this
  have := this.2
  rw [Nat.zero_add] at this
  exact this

theorem OwS.elem1 {w : World} {s : Sl} {cs : List Value} (h : OwS w s 1 cs) {i : Nat} {v : Value} (hv : cs[i]? = some v) : ∃ b, s.p = some ⟨b, 0, none⟩ ∧ w.cell? ⟨b, i, none⟩ = some v := by
  have hi : i < s.n := by rw [h.len1]; exact (List.getElem?_eq_some_iff.1 hv).1
  obtain ⟨b, hp, hc⟩ := h.elem hi (l := [v]) (by
    rw [Nat.mul_one]
    obtain ⟨hi', rfl⟩ := List.getElem?_eq_some_iff.1 hv
    rw [List.drop_eq_getElem_cons hi']; rfl)
  exact ⟨b, hp, by simpa using hc 0 v rfl⟩

theorem CellsAt.fst {w : World} {b o : Nat} {u v : Value} (h : CellsAt w b o [u, v]) : w.cell? ⟨b, o, none⟩ = some u := h 0 u rfl
theorem CellsAt.snd {w : World} {b o : Nat} {u v : Value} (h : CellsAt w b o [u, v]) : w.cell? ⟨b, o + 1, none⟩ = some v := h 1 v rfl

/-- The first elements alone. -/
theorem OwS.cut {w : World} {s : Sl} {sz : Nat} {cs : List Value} (h : OwS w s sz cs) {k : Nat} (hk : k ≤ s.n) : OwS w ⟨s.p, k, s.c⟩ sz (cs.take (k * sz)) := by
  rcases h with ⟨rfl, rfl⟩ | ⟨b, arr, T, h1, h3, h4, h5, rfl⟩
  · have : k = 0 := Nat.le_zero.1 hk
    subst this
    exact .inl ⟨rfl, by simp⟩
  · refine .inr ⟨b, arr, T, h1, h3, h4, Nat.le_trans hk h5, ?_⟩
    dsimp only
    rw [List.take_take, Nat.min_eq_left (Nat.mul_le_mul_right _ hk)]

/-- Of what lies behind, too. -/
theorem OwS.wide {w : World} {s : Sl} {sz : Nat} {cs : List Value} (h : OwS w s sz cs) {k : Nat} (hn : s.n ≤ k) (hk : k ≤ s.c) : ∃ js : List Value, js.length = (k - s.n) * sz ∧ OwS w ⟨s.p, k, s.c⟩ sz (cs ++ js) := by
  rcases h with ⟨rfl, rfl⟩ | ⟨b, arr, T, h1, h3, h4, h5, rfl⟩
  · have : k = 0 := Nat.le_zero.1 hk
    subst this
    exact ⟨[], by simp, .inl ⟨rfl, rfl⟩⟩
  · have e1 : s.n * sz ≤ k * sz := Nat.mul_le_mul_right _ hn
    have e2 : k * sz ≤ s.c * sz := Nat.mul_le_mul_right _ hk
    refine ⟨(arr.toList.take (k * sz)).drop (s.n * sz), ?_, .inr ⟨b, arr, T, h1, h3, h4, hk, ?_⟩⟩
    · rw [List.length_drop, List.length_take, Array.length_toList, h4, Nat.sub_mul]; omega
    · dsimp only
      have := List.take_append_drop (s.n * sz) (arr.toList.take (k * sz))
      rw [List.take_take, Nat.min_eq_left e1] at this
      exact this.symm

theorem setsA_list {old : Array Value} {o : Nat} {vs : List Value} (h : o + vs.length ≤ old.size) : (setsA old o vs).toList = old.toList.take o ++ vs ++ old.toList.drop (o + vs.length) := by
  rw [setsA_eq old o vs h]; rfl

/-- A store into an owned slice. -/
theorem OwS.store {w : World} {s : Sl} {sz : Nat} {cs vs : List Value} {b o : Nat} {K : World → Prop} (h : OwS w s sz cs) (hp : s.p = some ⟨b, 0, none⟩) (ho : o + vs.length ≤ s.n * sz) (h1 : One vs)
    (hK : ∀ w', OwS w' s sz (cs.take o ++ vs ++ cs.drop (o + vs.length)) → Ch (fun i => i = b) w w' → K w') : StoreP w b o vs K := by
  have hl := h.len
  rcases h with ⟨rfl, rfl⟩ | ⟨b', arr, T, hp', h3, h4, h5, rfl⟩
  · cases hp
  · rw [hp'] at hp
    cases hp
    have e1 : s.n * sz ≤ s.c * sz := Nat.mul_le_mul_right _ h5
    cases vs with
    | nil =>
      refine hK w (.inr ⟨b, arr, T, hp', h3, h4, h5, ?_⟩) (Ch.refl _ _)
      simp
    | cons v vs =>
      refine ⟨arr, T, h3, by simp only [List.length_cons] at ho; omega, h1, fun w' hu => hK w' (.inr ⟨b, _, T, hp', hu.new, ?_, h5, ?_⟩) hu.ch⟩
      · rw [← Array.length_toList, setsA_list (by rw [h4]; omega)]
        simp only [List.length_append, List.length_take, List.length_drop, Array.length_toList, h4]; omega
      · rw [setsA_list (by rw [h4]; omega)]
        have hA : arr.toList.length = s.c * sz := by rw [Array.length_toList, h4]
        apply List.ext_getElem?
        intro j
        simp only [List.getElem?_take, List.getElem?_append, List.length_append, List.length_take, List.getElem?_drop, hA, List.length_cons] at *
        by_cases c1 : j < s.n * sz
        · simp only [c1, if_true]
          have : min (min o (s.n * sz)) (s.c * sz) = min o (s.c * sz) := by omega
          simp only [Nat.min_eq_left (show o ≤ s.c * sz by omega), Nat.min_eq_left (show o ≤ s.n * sz by omega), Nat.min_eq_left (show s.n * sz ≤ s.c * sz by omega)]
          repeat' split
          all_goals first | rfl | (exfalso; omega)
        · simp only [c1, if_false]
          repeat' split
          all_goals first | rfl | (exfalso; omega)

/-- A store behind what an owned slice has. -/
theorem OwS.storeTail {w : World} {s : Sl} {sz : Nat} {cs vs : List Value} {b o : Nat} {K : World → Prop} (h : OwS w s sz cs) (hp : s.p = some ⟨b, 0, none⟩) (hn : s.n * sz ≤ o) (ho : o + vs.length ≤ s.c * sz) (h1 : One vs)
    (hK : ∀ w', OwS w' s sz cs → Ch (fun i => i = b) w w' → K w') : StoreP w b o vs K := by
  rcases h with ⟨rfl, rfl⟩ | ⟨b', arr, T, hp', h3, h4, h5, rfl⟩
  · cases hp
  · rw [hp'] at hp
    cases hp
    cases vs with
    | nil => exact hK w (.inr ⟨b, arr, T, hp', h3, h4, h5, rfl⟩) (Ch.refl _ _)
    | cons v vs =>
      refine ⟨arr, T, h3, by simp only [List.length_cons] at ho; omega, h1, fun w' hu => hK w' (.inr ⟨b, _, T, hp', hu.new, ?_, h5, ?_⟩) hu.ch⟩
      · rw [← Array.length_toList, setsA_list (by rw [h4]; omega)]
        simp only [List.length_append, List.length_take, List.length_drop, Array.length_toList, h4]; omega
      · rw [setsA_list (by rw [h4]; omega), List.append_assoc, List.take_append_of_le_length (by rw [List.length_take, Array.length_toList, h4]; omega), List.take_take, Nat.min_eq_left hn]

/-- append. -/
theorem OwS.append {w : World} {s : Sl} {T : TypeId} {sz cnt : Nat} {cs new : List Value} {te : TI} {K : Sl → World → Prop} (h : OwS w s sz cs) (hsz : te.size = sz) (hz : te.zero.cells.size = sz)
    (hn : new.length = cnt * sz) (h1 : One new) (hr : Roomy (s.n + cnt) te.bytes)
    (hK : ∀ s' w', OwS w' s' sz (cs ++ new) → s'.n = s.n + cnt → Ch (fun i => i ∈ blk s) w w' → (∀ i ∈ blk s', i ∈ blk s ∨ w.heap.size ≤ i) → (s.n + cnt ≤ s.c → s' = ⟨s.p, s.n + cnt, s.c⟩) → K s' w') : AppendP te T w s.p s.n s.c cnt new K := by
  have hlen := h.len
  have hread := h.readAll
  refine ⟨fun hc => ?_, fun hc => ⟨hr, cs, by rw [hsz]; exact hread, fun k hk b w' ha => ?_⟩⟩
  · rcases h with ⟨rfl, rfl⟩ | ⟨b, arr, T', hp, ho, hs, hle, rfl⟩
    · have : cnt = 0 := by simpa using hc
      subst this
      have : new = [] := by simpa using hn
      subst this
      exact hK _ _ (.inl ⟨rfl, by simp⟩) rfl (Ch.refl _ _) (fun i hi => .inl hi) fun _ => rfl
    · rw [hp]
      dsimp only
      rw [hsz, Nat.zero_add]
      have hmul : (s.n + cnt) * sz ≤ s.c * sz := Nat.mul_le_mul_right _ hc
      rw [Nat.add_mul] at hmul
      have hb : blk s = [b] := by simp [blk, hp]
      cases new with
      | nil =>
        have e : cnt * sz = 0 := by simpa using hn.symm
        refine hK ⟨some ⟨b, 0, none⟩, s.n + cnt, s.c⟩ w (.inr ⟨b, arr, T', rfl, ho, hs, hc, ?_⟩) rfl (Ch.refl _ _) (fun i hi => .inl (by rw [hb]; simpa [blk] using hi)) fun _ => by rw [hp]
        rw [Nat.add_mul, e]; simp
      | cons v vs =>
        refine ⟨arr, T', ho, by simp only [List.length_cons] at hn; omega, h1, fun w' hu => ?_⟩
        have e := setsA_list (old := arr) (o := s.n * sz) (vs := v :: vs) (by rw [hn]; omega)
        refine hK _ _ (.inr ⟨b, _, T', rfl, hu.new, ?_, hc, ?_⟩) rfl (hu.ch.mono fun i _ hi => by rw [hb]; simpa using hi) (fun i hi => .inl (by rw [hb]; simpa [blk] using hi)) fun _ => by rw [hp]
        · rw [← Array.length_toList, e]; simp only [List.length_append, List.length_take, List.length_drop, Array.length_toList, hs, hn]; omega
        · rw [e]
          dsimp only
          rw [Nat.add_mul, ← hn]
          rw [List.take_append_of_le_length (by simp only [List.length_append, List.length_take, Array.length_toList, hs]; omega), List.take_of_length_le]
          simp only [List.length_append, List.length_take, Array.length_toList, hs]; omega
  · have e : IsAlloc w (.cells (cs ++ new ++ zc te.zero.cells (k - (s.n + cnt))).toArray T (0, 0)) b w' := ⟨ha.here, ha.size, ha.new, ha.old, ⟨ha.rest.os, ha.rest.tape, ha.rest.output⟩⟩
    refine hK _ _ (.inr ⟨b, _, T, rfl, e.new, ?_, hk, ?_⟩) rfl (e.ch _) (fun i hi => .inr (Nat.le_of_eq (e.here.symm.trans (by simpa [blk] using hi : i = b).symm))) fun hc' => absurd hc (Nat.not_lt.2 hc')
    · simp only [List.size_toArray, List.length_append, zc_len, hlen, hn, hz]
      rw [← Nat.add_mul, ← Nat.add_mul]
      congr 1
      omega
    · dsimp only
      rw [List.take_append_of_le_length (by simp only [List.length_append, hlen, hn, Nat.add_mul]; omega), List.take_of_length_le]
      simp only [List.length_append, hlen, hn, Nat.add_mul]; omega

/-- append to a slice without room: a new block. -/
theorem OwS.appendNew {w : World} {s : Sl} {T : TypeId} {sz cnt : Nat} {cs new : List Value} {te : TI} {K : Sl → World → Prop} (h : OwS w s sz cs) (hc : s.c < s.n + cnt) (hsz : te.size = sz) (hz : te.zero.cells.size = sz)
    (hn : new.length = cnt * sz) (hr : Roomy (s.n + cnt) te.bytes)
    (hK : ∀ s' w', OwS w' s' sz (cs ++ new) → s'.n = s.n + cnt → Ext w w' → (∀ i ∈ blk s', w.heap.size ≤ i) → s'.p ≠ none → K s' w') : AppendP te T w s.p s.n s.c cnt new K := by
  have hlen := h.len
  have hread := h.readAll
  refine ⟨fun hc' => absurd hc (Nat.not_lt.2 hc'), fun _ => ⟨hr, cs, by rw [hsz]; exact hread, fun k hk b w' ha => ?_⟩⟩
  have e : IsAlloc w (.cells (cs ++ new ++ zc te.zero.cells (k - (s.n + cnt))).toArray T (0, 0)) b w' := ⟨ha.here, ha.size, ha.new, ha.old, ⟨ha.rest.os, ha.rest.tape, ha.rest.output⟩⟩
  refine hK _ _ (.inr ⟨b, _, T, rfl, e.new, ?_, hk, ?_⟩) rfl (e.ch _) (fun i hi => Nat.le_of_eq (e.here.symm.trans (by simpa [blk] using hi : i = b).symm)) (by simp)
  · simp only [List.size_toArray, List.length_append, zc_len, hlen, hn, hz]
    rw [← Nat.add_mul, ← Nat.add_mul]
    congr 1
    omega
  · dsimp only
    rw [List.take_append_of_le_length (by simp only [List.length_append, hlen, hn, Nat.add_mul]; omega), List.take_of_length_le]
    simp only [List.length_append, hlen, hn, Nat.add_mul]; omega

/-- A new block. -/
theorem OwS.new {w w' : World} {cs : List Value} {T : TypeId} {b : Nat} (h : IsAlloc w (.cells cs.toArray T (0, 0)) b w') {n sz : Nat} (hn : cs.length = n * sz) : OwS w' ⟨some ⟨b, 0, none⟩, n, n⟩ sz cs :=
  .inr ⟨b, _, T, rfl, h.new, by simpa using hn, Nat.le_refl _, by dsimp only; rw [← hn]; simp⟩
end Go.Proofs.Ytopecljhehcldaa.Gx
