/- The framework, part U: lists, worlds that grow, slices: what many proofs use. -/
import Derived.Test.YtopecljhehcldaaGxO
import Derived.Test.YtopecljhehcldaaGxW
import Derived.Test.YtopecljhehcldaaGxE
namespace Go.Proofs.Ytopecljhehcldaa.Gx
open Go
set_option linter.unusedSimpArgs false
set_option linter.unusedVariables false

theorem takeWhile_all {α : Type} {p : α → Bool} : ∀ {l : List α}, (∀ x ∈ l, p x = true) → l.takeWhile p = l
  | [], _ => rfl
  | x :: l, h => by rw [List.takeWhile_cons_of_pos (h x (by simp)), takeWhile_all fun y hy => h y (by simp [hy])]

theorem dropWhile_all {α : Type} {p : α → Bool} : ∀ {l : List α}, (∀ x ∈ l, p x = true) → l.dropWhile p = []
  | [], _ => rfl
  | x :: l, h => by rw [List.dropWhile_cons_of_pos (h x (by simp)), dropWhile_all fun y hy => h y (by simp [hy])]

theorem takeWhile_none {α : Type} {p : α → Bool} {l : List α} (h : ∀ x ∈ l, p x = false) : l.takeWhile p = [] := by
  cases l with
  | nil => rfl
  | cons x l => rw [List.takeWhile_cons_of_neg (by simp [h x])]

theorem dropWhile_none {α : Type} {p : α → Bool} {l : List α} (h : ∀ x ∈ l, p x = false) : l.dropWhile p = l := by
  cases l with
  | nil => rfl
  | cons x l => rw [List.dropWhile_cons_of_neg (by simp [h x])]

theorem takeWhile_app {α : Type} {p : α → Bool} {a b : List α} (h : ∀ x ∈ a, p x = true) : (a ++ b).takeWhile p = a ++ b.takeWhile p := by
  induction a with
  | nil => rfl
  | cons x a ih => rw [List.cons_append, List.takeWhile_cons_of_pos (h x (by simp)), ih fun y hy => h y (by simp [hy])]; rfl

theorem dropWhile_app {α : Type} {p : α → Bool} {a b : List α} (h : ∀ x ∈ a, p x = true) : (a ++ b).dropWhile p = b.dropWhile p := by
  induction a with
  | nil => rfl
  | cons x a ih => rw [List.cons_append, List.dropWhile_cons_of_pos (h x (by simp)), ih fun y hy => h y (by simp [hy])]

theorem takeWhile_app2 {α : Type} {p : α → Bool} {a b : List α} (h : ∀ x ∈ b, p x = false) : (a ++ b).takeWhile p = a.takeWhile p := by
  induction a with
  | nil => rw [List.nil_append, takeWhile_none h]; rfl
  | cons x a ih =>
    rw [List.cons_append]
    cases hx : p x with
    | true => rw [List.takeWhile_cons_of_pos hx, List.takeWhile_cons_of_pos hx, ih]
    | false => rw [List.takeWhile_cons_of_neg (by simp [hx]), List.takeWhile_cons_of_neg (by simp [hx])]

theorem dropWhile_app2 {α : Type} {p : α → Bool} {a b : List α} (h : ∀ x ∈ b, p x = false) : (a ++ b).dropWhile p = a.dropWhile p ++ b := by
  induction a with
  | nil => rw [List.nil_append, dropWhile_none h]; rfl
  | cons x a ih =>
    rw [List.cons_append]
    cases hx : p x with
    | true => rw [List.dropWhile_cons_of_pos hx, List.dropWhile_cons_of_pos hx, ih]
    | false => rw [List.dropWhile_cons_of_neg (by simp [hx]), List.dropWhile_cons_of_neg (by simp [hx])]; rfl

theorem takeWhile_mem {α : Type} {p : α → Bool} : ∀ {l : List α} {x : α}, x ∈ l.takeWhile p → p x = true
  | y :: l, x, h => by
    cases hy : p y with
    | true =>
      rw [List.takeWhile_cons_of_pos hy] at h
      rcases List.mem_cons.1 h with rfl | h
      · exact hy
      · exact takeWhile_mem h
    | false => rw [List.takeWhile_cons_of_neg (by simp [hy])] at h; cases h

theorem take_succ_get {α : Type} {l : List α} {i : Nat} {x : α} (h : l[i]? = some x) : l.take (i + 1) = l.take i ++ [x] := by
  rw [List.take_add_one, h]; rfl

abbrev New (A : Nat → Prop) (w : World) : Nat → Prop := fun i => A i ∨ w.heap.size ≤ i

theorem extDrew (w : World) : Ext w w.drew := ⟨drew_rest w, Nat.le_refl _, fun _ _ _ => rfl⟩

theorem maxOne {n : Nat} (h : n ≤ 1000000) : (if IntKind.i64.wrap ((n : Int) - (1 : Int)) < (0 : Int) then (0 : Int) else IntKind.i64.wrap ((n : Int) - (1 : Int))) = ((n - 1 : Nat) : Int) := by
  rw [wrap_of (by omega) (by omega)]; split <;> omega

theorem Ch.thenNew {A G : Nat → Prop} {w0 a b : World} (h : Ch A w0 a) (k : Ch G a b) (hG : ∀ i, G i → New A w0 i) : Ch A w0 b :=
  h.then k fun i hi hg => (hG i hg).elim id fun h => by omega

theorem Ch.thenExt {A : Nat → Prop} {w0 a b : World} (h : Ch A w0 a) (k : Ext a b) : Ch A w0 b := h.thenNew k fun _ h => h.elim

theorem store_all {w : World} {b : Nat} {vs : List Value} {old : Array Value} {T : TypeId} {K : World → Prop} (hb : w.heap[b]? = some (.cells old T (0, 0))) (hl : old.size = vs.length) (h1 : One vs)
    (hK : ∀ w', IsUpd w b (.cells vs.toArray T (0, 0)) w' → K w') : StoreP w b 0 vs K := by
  cases vs with
  | nil =>
    have : old = #[] := Array.eq_empty_of_size_eq_zero hl
    subst this
    exact hK w ⟨rfl, hb, fun _ _ => rfl, Rest.refl _⟩
  | cons v vs =>
    refine ⟨old, T, hb, by rw [hl]; simp, h1, fun w' hu => hK w' ?_⟩
    have e := setsA_list (old := old) (o := 0) (vs := v :: vs) (by rw [hl]; simp)
    have e2 : setsA old 0 (v :: vs) = (v :: vs).toArray := by
      apply Array.toList_inj.1
      rw [e, Nat.zero_add, ← hl, List.drop_of_length_le (by simp)]
      simp
    rw [e2] at hu
    exact hu

theorem Stb.fresh {n : Nat} {w w1 w2 : World} {o o' : Obj} {b : Nat} (h : IsAlloc w o b w1) (k : IsUpd w1 b o' w2) (hn : n ≤ w.heap.size) : Stb n w w2 := by
  have hb := h.here
  refine ⟨by rw [k.size, h.size]; omega, fun i hi => ?_, fun i o2 ho _ => ?_, h.rest.trans k.rest⟩
  · rw [k.old i (by omega), h.old i (by omega)]
  · have hi := heap_lt ho
    rw [k.old i (by omega), h.old i hi]; exact ho

theorem Ext.fresh {w w1 w2 : World} {o o' : Obj} {b : Nat} (h : IsAlloc w o b w1) (k : IsUpd w1 b o' w2) : Ext w w2 :=
  (h.ch _).then k.ch fun i hi e => by have := h.here; omega

theorem OwS.stb {n : Nat} {w w' : World} {s : Sl} {sz : Nat} {cs : List Value} (h : OwS w s sz cs) (hS : Stb n w w') : OwS w' s sz cs := by
  rcases h with h | ⟨b, arr, T, h1, h2, h3⟩
  · exact .inl h
  · exact .inr ⟨b, arr, T, h1, hS.keep _ _ h2 rfl, h3⟩

/-- A literal is appended. -/
theorem OwS.lit {w : World} {s : Sl} {sz bl : Nat} {cs new : List Value} {te : TI} {T T' : TypeId} {K : Sl → World → Prop} (h : OwS w s sz cs) (hb : w.heap[bl]? = some (.cells new.toArray T' (0, 0))) (hnew : new.length = sz) (h1 : One new) (hsz : te.size = sz) (hz : te.zero.cells.size = sz)
    (hn : s.n ≤ 1000000) (hby : te.bytes ≤ 100000)
    (hK : ∀ s' w', OwS w' s' sz (cs ++ new) → s'.n = s.n + 1 → Ch (fun i => i ∈ blk s) w w' → (∀ i ∈ blk s', i ∈ blk s ∨ w.heap.size ≤ i) → K s' w') :
    ∃ l, ReadC w (some ⟨bl, 0, none⟩) (1 * sz) l ∧ AppendP te T w s.p s.n s.c 1 l K := by
  refine ⟨new, ⟨by omega, cellsAt_of hb fun i v hv => by simpa using hv⟩, h.append (cnt := 1) hsz hz (by omega) h1 ⟨by omega, ?_⟩ fun s' w' a b c d _ => hK s' w' a b c d⟩
  exact Nat.le_trans (Nat.mul_le_mul (show 2 * (s.n + 1) + 1024 ≤ 3000000 by omega) hby) (by decide)

theorem Rd.len1 {w : World} {s : Sl} {cs : List Value} (h : Rd w s 1 cs) : s.n = cs.length := by have := h.1; omega

theorem Rd.cut {w : World} {s : Sl} {sz : Nat} {cs : List Value} (h : Rd w s sz cs) {k : Nat} (hk : k ≤ s.n) : Rd w ⟨s.p, k, s.c⟩ sz (cs.take (k * sz)) := by
  obtain ⟨h1, h2⟩ := h
  have e : k * sz ≤ s.n * sz := Nat.mul_le_mul_right _ hk
  refine ⟨by rw [List.length_take]; dsimp only; omega, ?_⟩
  unfold ReadC at h2 ⊢
  dsimp only
  split at h2
  · refine ⟨by rw [List.length_take]; omega, fun i v hv => h2.2 i v ?_⟩
    rw [List.getElem?_take] at hv
    split at hv
    · exact hv
    · cases hv
  · obtain ⟨h0, rfl⟩ := h2
    exact ⟨by omega, by simp⟩
  · rw [h2]; simp

theorem Rd.from {w : World} {s : Sl} {sz : Nat} {cs : List Value} (h : Rd w s sz cs) {k : Nat} (hk : k ≤ s.n) (hc : s.n ≤ s.c) : ReadC w (slAddr s.p s.c k sz) ((s.n - k) * sz) (cs.drop (k * sz)) := by
  obtain ⟨h1, h2⟩ := h
  have e : k * sz ≤ s.n * sz := Nat.mul_le_mul_right _ hk
  unfold ReadC at h2
  split at h2
  · rename_i b o hp
    rw [hp, slAddr_some]
    refine ⟨by rw [List.length_drop, h2.1, Nat.sub_mul], fun i v hv => ?_⟩
    rw [List.getElem?_drop] at hv
    have := h2.2 _ v hv
    split
    · rename_i hck
      have hlt := (List.getElem?_eq_some_iff.1 hv).1
      have : s.n = k := by omega
      subst this; omega
    · rw [show o + k * sz + i = o + (k * sz + i) by omega]; exact this
  · rename_i a ha hp
    obtain ⟨h0, rfl⟩ := h2
    have hk0 : k * sz = 0 := by omega
    have hm : (s.n - k) * sz = 0 := by rw [Nat.sub_mul]; omega
    rw [hp, hm, List.drop_nil]
    unfold slAddr
    split
    · unfold ReadC; split
      · exact ⟨rfl, fun i v hv => by simp at hv⟩
      · exact ⟨rfl, rfl⟩
      · rfl
    · rw [hk0]
      unfold ReadC; split
      · exact ⟨rfl, fun i v hv => by simp at hv⟩
      · exact ⟨rfl, rfl⟩
      · rfl
  · rename_i hp
    rw [hp, slAddr_none, h2]; simp [ReadC]

theorem Rd.slAddr0 {w : World} {s : Sl} {sz : Nat} {cs : List Value} (h : Rd w s sz cs) (c : Nat) : slAddr s.p c 0 sz = s.p := slAddr_zero _ _ _

theorem emptyOwn {w w' : World} {b sz : Nat} {T : TypeId} (h : IsAlloc w (.cells #[] T (0, 0)) b w') : OwS w' ⟨some ⟨b, 0, none⟩, 0, 0⟩ sz [] := .inr ⟨b, _, T, rfl, h.new, by simp, Nat.le_refl _, by simp⟩

/-- Appending to what is new leaves all that was there. -/
theorem newApp {w0 w w' : World} {s : Sl} (h : Ext w0 w) (hb : ∀ i ∈ blk s, w0.heap.size ≤ i) (hc : Ch (fun i => i ∈ blk s) w w') : Ext w0 w' := h.then hc fun i hi hj => by have := hb i hj; omega

theorem newBlk {w0 w : World} {s s' : Sl} (h : Ext w0 w) (hb : ∀ i ∈ blk s, w0.heap.size ≤ i) (hb' : ∀ i ∈ blk s', i ∈ blk s ∨ w.heap.size ≤ i) : ∀ i ∈ blk s', w0.heap.size ≤ i := fun i hi => (hb' i hi).elim (hb i) fun h' => by have := h.size; omega

theorem Its.ch {F : Nat → Prop} {W W' : World} (hc : Ch F W W') (hF : ∀ i, F i → ∀ m s q t, W.heap[i]? ≠ some (.mapIter m s q t)) : Its W W' := fun i m s q t e => by
  have hi := heap_lt e
  rw [hc.old i hi fun h => hF i h m s q t e]; exact e
theorem Its.ext {W W' : World} (hc : Ext W W') : Its W W' := Its.ch hc fun _ h => h.elim
theorem OwS.blkIt {w : World} {s : Sl} {sz : Nat} {cs : List Value} (h : OwS w s sz cs) {i : Nat} (hi : i ∈ blk s) (m : Option Nat) (q : Nat) (a : Array Nat) (t : Nat) : w.heap[i]? ≠ some (.mapIter m q a t) := by
  rcases h with ⟨rfl, _⟩ | ⟨b, arr, T, h1, h2, _⟩
  · simp [blk] at hi
  · simp only [blk, h1] at hi
    simp at hi
    rw [hi, h2]; simp
theorem notIt {w : World} {i : Nat} {cs : Array Value} {T : TypeId} {p : Nat × Nat} (h : w.heap[i]? = some (.cells cs T p)) (m : Option Nat) (q : Nat) (a : Array Nat) (t : Nat) : w.heap[i]? ≠ some (.mapIter m q a t) := by rw [h]; simp
end Go.Proofs.Ytopecljhehcldaa.Gx
