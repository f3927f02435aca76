/- Queues (a slice that is cut at its beginning, and appended to); what is taken out of a map; maps that may be none. -/
import Derived.Test.YtmmhbjbaallkfaaGxC
namespace Go.Proofs.Ytmmhbjbaallkfaa.Gx
open Go
set_option linter.unusedSimpArgs false
set_option linter.unusedVariables false

/-- A slice that has its block's end. -/
def OwQ (w : World) (s : Sl) (cs : List Value) : Prop :=
  (s.n = 0 ∧ s.c = 0 ∧ cs = [] ∧ ∀ a, s.p = some a → a.spot = none) ∨ ∃ b o arr T, s.p = some ⟨b, o, none⟩ ∧ w.heap[b]? = some (.cells arr T (0, 0)) ∧ arr.size = o + s.c ∧ s.n ≤ s.c ∧ (arr.toList.drop o).take s.n = cs
theorem OwS.q {w : World} {s : Sl} {cs : List Value} (h : OwS w s 1 cs) : OwQ w s cs := by
  rcases h with ⟨rfl, rfl⟩ | ⟨b, arr, T, h1, h2, h3, h4, rfl⟩
  · exact .inl ⟨rfl, rfl, rfl, fun a h => by cases h⟩
  · exact .inr ⟨b, 0, arr, T, h1, h2, by omega, h4, by simp⟩
theorem OwQ.len {w : World} {s : Sl} {cs : List Value} (h : OwQ w s cs) : s.n = cs.length := by
  rcases h with ⟨h1, _, rfl, _⟩ | ⟨b, o, arr, T, h1, h2, h3, h4, rfl⟩
  · exact h1
  · rw [List.length_take, List.length_drop, Array.length_toList]; omega
theorem OwQ.keep {w w' : World} {s : Sl} {cs : List Value} (h : OwQ w s cs) (hw : ∀ b ∈ blk s, w'.heap[b]? = w.heap[b]?) : OwQ w' s cs := by
  rcases h with h | ⟨b, o, arr, T, h1, h2, h3⟩
  · exact .inl h
  · exact .inr ⟨b, o, arr, T, h1, by rw [hw b (by simp [blk, h1])]; exact h2, h3⟩
theorem OwQ.ch {F : Nat → Prop} {w w' : World} {s : Sl} {cs : List Value} (h : OwQ w s cs) (hc : Ch F w w') (hF : ∀ i ∈ blk s, ¬ F i) : OwQ w' s cs := by
  rcases h with h | ⟨b, o, arr, T, h1, h2, h3⟩
  · exact .inl h
  · exact .inr ⟨b, o, arr, T, h1, hc.at h2 (hF b (by simp [blk, h1])), h3⟩
theorem OwQ.ext {w w' : World} {s : Sl} {cs : List Value} (h : OwQ w s cs) (hc : Ext w w') : OwQ w' s cs := h.ch hc fun _ _ => id
theorem OwQ.at {w : World} {s : Sl} {cs : List Value} (h : OwQ w s cs) {i : Nat} {v : Value} (hv : cs[i]? = some v) : ∃ b o, s.p = some ⟨b, o, none⟩ ∧ w.cell? ⟨b, o + i, none⟩ = some v := by
  rcases h with ⟨h1, _, rfl, _⟩ | ⟨b, o, arr, T, h1, h2, h3, h4, rfl⟩
  · cases hv
  · refine ⟨b, o, h1, ?_⟩
    rw [cell_of h2]
    rw [List.getElem?_take] at hv
    split at hv
    · rw [List.getElem?_drop, Array.getElem?_toList] at hv; exact hv
    · cases hv
theorem OwQ.tail {w : World} {s : Sl} {v : Value} {cs : List Value} (h : OwQ w s (v :: cs)) : OwQ w ⟨slAddr s.p s.c 1 1, s.n - 1, s.c - 1⟩ cs ∧ ∀ i ∈ blk ⟨slAddr s.p s.c 1 1, s.n - 1, s.c - 1⟩, i ∈ blk s := by
  have hl := h.len
  rw [List.length_cons] at hl
  rcases h with ⟨h1, _, h, _⟩ | ⟨b, o, arr, T, h1, h2, h3, h4, h5⟩
  · cases h
  · rw [h1, slAddr_some]
    have hblk : blk s = [b] := by simp [blk, h1]
    refine ⟨?_, fun i hi => by rw [hblk]; simpa [blk] using hi⟩
    by_cases hc : s.c = 1
    · refine .inl ⟨by dsimp only; omega, by dsimp only; omega, List.eq_nil_of_length_eq_zero (by omega), fun a h => by cases h; rfl⟩
    · rw [if_neg hc]
      refine .inr ⟨b, o + 1 * 1, arr, T, rfl, h2, by dsimp only; omega, by dsimp only; omega, ?_⟩
      dsimp only
      have := congrArg List.tail h5
      rw [List.tail_cons] at this
      rw [← this, ← List.drop_one, List.drop_take, List.drop_drop]
theorem OwQ.append {w : World} {s : Sl} {T : TypeId} {cnt : Nat} {cs new : List Value} {te : TI} {K : Sl → World → Prop} (h : OwQ w s cs) (hsz : te.size = 1) (hz : te.zero.cells.size = 1)
    (hn : new.length = cnt) (h1 : One new) (hr : Roomy (s.n + cnt) te.bytes)
    (hK : ∀ s' w', OwQ w' s' (cs ++ new) → Ch (fun i => i ∈ blk s) w w' → (∀ i ∈ blk s', i ∈ blk s ∨ w.heap.size ≤ i) → K s' w') : AppendP te T w s.p s.n s.c cnt new K := by
  have hlen := h.len
  refine ⟨fun hc => ?_, fun hc => ⟨hr, cs, ?_, fun k hk b w' ha => ?_⟩⟩
  · rcases h with ⟨g1, g2, rfl, g3⟩ | ⟨b, o, arr, T', hp, ho, hs, hle, rfl⟩
    · have : cnt = 0 := by omega
      subst this
      have : new = [] := List.eq_nil_of_length_eq_zero hn
      subst this
      have hq : OwQ w ⟨s.p, s.n + 0, s.c⟩ ([] ++ []) := .inl ⟨g1, g2, rfl, g3⟩
      have := hK ⟨s.p, s.n + 0, s.c⟩ w hq (Ch.refl _ _) fun i hi => .inl hi
      cases hp : s.p with
      | none => rw [hp] at this; exact this
      | some a =>
        obtain ⟨b, o, sp⟩ := a
        rw [hp] at this
        cases sp with
        | none => exact this
        | some x => have := g3 _ hp; cases this
    · rw [hp]
      dsimp only
      rw [hsz, Nat.mul_one]
      have hb : blk s = [b] := by simp [blk, hp]
      cases new with
      | nil =>
        have : cnt = 0 := by simpa using hn.symm
        subst this
        refine hK ⟨some ⟨b, o, none⟩, s.n + 0, s.c⟩ w (.inr ⟨b, o, arr, T', rfl, ho, hs, hle, by simp⟩) (Ch.refl _ _) fun i hi => .inl (by rw [hb]; simpa [blk] using hi)
      | cons v vs =>
        refine ⟨arr, T', ho, by simp only [List.length_cons] at hn; omega, h1, fun w' hu => ?_⟩
        have e := setsA_list (old := arr) (o := o + s.n) (vs := v :: vs) (by rw [hn]; omega)
        refine hK _ _ (.inr ⟨b, o, _, T', rfl, hu.new, ?_, hc, ?_⟩) (hu.ch.mono fun i _ hi => by rw [hb]; simpa using hi) (fun i hi => .inl (by rw [hb]; simpa [blk] using hi))
        · rw [← Array.length_toList, e]; simp only [List.length_append, List.length_take, List.length_drop, Array.length_toList, hs, hn]; omega
        · rw [e]
          dsimp only
          have hA : arr.toList.length = o + s.c := by rw [Array.length_toList, hs]
          apply List.ext_getElem?
          intro j
          rw [List.getElem?_take, List.getElem?_drop]
          by_cases hj : j < s.n + cnt
          · rw [if_pos hj]
            by_cases hj2 : j < s.n
            · rw [List.append_assoc, List.getElem?_append_left (by rw [List.length_take]; omega), List.getElem?_take, if_pos (by omega), List.getElem?_append_left (by rw [List.length_take, List.length_drop]; omega), List.getElem?_take, if_pos hj2, List.getElem?_drop]
            · rw [List.append_assoc, List.getElem?_append_right (by rw [List.length_take]; omega), List.length_take, List.getElem?_append_left (by rw [hn]; omega), List.getElem?_append_right (by rw [List.length_take, List.length_drop]; omega), List.length_take, List.length_drop]
              congr 1
              omega
          · rw [if_neg hj, List.getElem?_eq_none]
            rw [List.length_append, hn, List.length_take, List.length_drop]; omega
  · rw [hsz, Nat.mul_one]
    rcases h with ⟨g1, g2, rfl, g3⟩ | ⟨b, o, arr, T', hp, ho, hs, hle, rfl⟩
    · rw [g1]
      unfold ReadC
      split
      · exact ⟨rfl, fun i v hv => by simp at hv⟩
      · exact ⟨rfl, rfl⟩
      · rfl
    · rw [hp]
      refine ⟨by rw [List.length_take, List.length_drop, Array.length_toList]; omega, cellsAt_of ho fun i v hv => ?_⟩
      rw [List.getElem?_take] at hv
      split at hv
      · rw [List.getElem?_drop, Array.getElem?_toList] at hv; exact hv
      · cases hv
  · have e : IsAlloc w (.cells (cs ++ new ++ zc te.zero.cells (k - (s.n + cnt))).toArray T (0, 0)) b w' := ⟨ha.here, ha.size, ha.new, ha.old, ⟨ha.rest.os, ha.rest.tape, ha.rest.output⟩⟩
    refine hK _ _ (.inr ⟨b, 0, _, T, rfl, e.new, ?_, hk, ?_⟩) (e.ch _) (fun i hi => .inr (Nat.le_of_eq (e.here.symm.trans (by simpa [blk] using hi : i = b).symm)))
    · simp only [List.size_toArray, List.length_append, zc_len, hn, hz]
      omega
    · dsimp only
      rw [List.drop_zero, List.take_append_of_le_length (by rw [List.length_append]; omega), List.take_of_length_le (by rw [List.length_append]; omega)]

section
variable {β : Type} {enc : β → Value}
theorem Mp.del {w : World} {r : Nat} {f : List (Int × β)} (h : Mp enc w r f) {k : Int} {K : World → Prop}
    (hK : ∀ f' w', (∀ k', getM f' k' = if k = k' then none else getM f k') → (∀ e ∈ f', e ∈ f) → f'.length ≤ f.length → Mp enc w' r f' → Ch (fun i => i = r) w w' → K w') :
    MapDelP (.int .i64) w (some r) (.int .i64 k) K := by
  obtain ⟨es, ck, hr, h1, h2, h3, h4⟩ := h
  obtain ⟨q, hq, h⟩ := find_is (k := k) 0 h1
  refine ⟨es, ck, hr, q, hq, ?_⟩
  rcases h with ⟨rfl, h5⟩ | ⟨f1, v0, f2, rfl, rfl, h6⟩
  · intro w' hu
    refine hK f w' (fun k' => ?_) (fun _ h => h) (Nat.le_refl _) ⟨_, _, hu.new, h1, h2, h3, h4⟩ hu.ch
    by_cases hk : k = k'
    · subst hk; rw [if_pos rfl, getM_none h5]
    · rw [if_neg hk]
  · intro w' hu
    rw [Nat.zero_add] at hu
    have hlen := congrArg List.length h1
    simp only [List.length_map, List.length_append, List.length_cons, Array.length_toList] at hlen
    have hi : f1.length < es.size := by omega
    have hm : (es.eraseIdxIfInBounds f1.length).toList = es.toList.eraseIdx f1.length := by
      unfold Array.eraseIdxIfInBounds
      rw [dif_pos hi, Array.toList_eraseIdx]
    have hme : ∀ {γ : Type} (F : MapEntry → γ), (es.toList.eraseIdx f1.length).map F = (es.toList.map F).eraseIdx f1.length := fun F => by
      rw [List.eraseIdx_eq_take_drop_succ, List.eraseIdx_eq_take_drop_succ, List.map_append, List.map_take, List.map_drop]
    have h6' : ∀ p ∈ f2, p.1 ≠ k := fun p hp e => by
      rw [List.map_append, List.map_cons, List.nodup_append] at h2
      have := (List.nodup_cons.1 h2.2.1).1
      exact this (List.mem_map.2 ⟨p, hp, e⟩)
    refine hK (f1 ++ f2) w' (fun k' => ?_) (fun e he => ?_) (by simp) ⟨_, _, hu.new, ?_, ?_, ?_, ?_⟩ hu.ch
    · rw [getM_append, getM_append, getM_cons]
      by_cases hk : k = k'
      · subst hk; rw [getM_none h6, if_pos rfl, getM_none h6']
      · rw [if_neg hk, if_neg hk]
    · rcases List.mem_append.1 he with h | h
      · exact List.mem_append_left _ h
      · exact List.mem_append_right _ (List.mem_cons_of_mem _ h)
    · rw [hm, hme, h1, List.map_append, List.map_cons, List.map_append, List.eraseIdx_append_of_length_le (by simp)]
      simp
    · rw [List.map_append]
      rw [List.map_append, List.map_cons] at h2
      exact h2.sublist (List.Sublist.append_left (List.sublist_cons_self _ _) _)
    · intro e he
      rw [hm] at he
      exact h3 e ((List.eraseIdx_sublist _ _).mem he)
    · rw [hm, hme]
      exact h4.sublist (List.eraseIdx_sublist _ _)

/-- A map that may be none. -/
def MpO (enc : β → Value) (w : World) (p : Option Nat) (f : List (Int × β)) : Prop := match p with
  | none => f = []
  | some r => Mp enc w r f
theorem MpO.ch {F : Nat → Prop} {w w' : World} {p : Option Nat} {f : List (Int × β)} (h : MpO enc w p f) (hc : Ch F w w') (hF : ∀ r, p = some r → ¬ F r) : MpO enc w' p f := by
  cases p with
  | none => exact h
  | some r => exact Mp.ch h hc (hF r rfl)
theorem MpO.get {w : World} {p : Option Nat} {f : List (Int × β)} (h : MpO enc w p f) {k : Int} {z : Value} {K : Value → Bool → Prop} (hK : match getM f k with | some v => K (enc v) true | none => K z false) :
    MapGetP (.int .i64) w (.map p) (.int .i64 k) z K := by
  cases p with
  | none =>
    have : f = [] := h
    subst this
    exact ⟨[], rfl, none, rfl, hK⟩
  | some r => exact Mp.get h hK
theorem MpO.del {w : World} {p : Option Nat} {f : List (Int × β)} (h : MpO enc w p f) {k : Int} {K : World → Prop}
    (hK : ∀ f' w', (∀ k', getM f' k' = if k = k' then none else getM f k') → (∀ e ∈ f', e ∈ f) → f'.length ≤ f.length → MpO enc w' p f' → Ch (fun i => p = some i) w w' → K w') :
    MapDelP (.int .i64) w p (.int .i64 k) K := by
  cases p with
  | none =>
    have : f = [] := h
    subst this
    exact hK [] w (fun k' => by split <;> rfl) (fun _ h => h) (Nat.le_refl _) rfl (Ch.refl _ _)
  | some r => exact Mp.del h fun f' w' h1 h2 h3 h4 h5 => hK f' w' h1 h2 h3 h4 (h5.mono fun i _ e => by rw [e])
theorem MpO.keys {w : World} {p : Option Nat} {f : List (Int × β)} (h : MpO enc w p f) : ∃ mo : MO, mo.map (·.1) = p ∧ KeysE mo (f.map (·.1)) ∧ (∀ r es ck, mo = some (r, es, ck) → w.heap[r]? = some (.map es ck)) := by
  cases p with
  | none =>
    have : f = [] := h
    subst this
    exact ⟨none, rfl, rfl, fun _ _ _ h => by cases h⟩
  | some r =>
    obtain ⟨es, ck, h1, h2, h3, h4, h5⟩ := h
    refine ⟨some (r, es, ck), rfl, ⟨?_, h3, h4, h5⟩, fun r' es' ck' e => by cases e; exact h1⟩
    have := congrArg (List.map Prod.fst) h2
    rw [List.map_map, List.map_map] at this
    rw [List.map_map]; exact this
theorem MpO.lt {w : World} {p : Option Nat} {f : List (Int × β)} (h : MpO enc w p f) : ∀ r, p = some r → r < w.heap.size := fun r e => by
  subst e; exact Mp.lt h
theorem MpO.nodup {w : World} {p : Option Nat} {f : List (Int × β)} (h : MpO enc w p f) : (f.map (·.1)).Nodup := by
  cases p with
  | none =>
    have : f = [] := h
    subst this; exact .nil
  | some r =>
    obtain ⟨es, ck, h1, h2, h3, h4⟩ := h
    exact h3
theorem getM_of {f : List (Int × β)} (hn : (f.map (·.1)).Nodup) {k : Int} {v : β} (h : (k, v) ∈ f) : getM f k = some v := by
  induction f with
  | nil => cases h
  | cons p f ih =>
    rw [getM_cons]
    rw [List.map_cons, List.nodup_cons] at hn
    rcases List.mem_cons.1 h with rfl | h
    · rw [if_pos rfl]
    · rw [if_neg, ih hn.2 h]
      intro e
      exact hn.1 (by rw [e]; exact List.mem_map_of_mem h)
end
end Go.Proofs.Ytmmhbjbaallkfaa.Gx
