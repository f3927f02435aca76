/- Maps whose keys are ints. -/
import Derived.Test.YtopecljhehcldaaGxU
namespace Go.Proofs.Ytopecljhehcldaa.Gx
open Go
set_option linter.unusedSimpArgs false
set_option linter.unusedVariables false
section
variable {β : Type} {enc : β → Value}

def MpE (enc : β → Value) (es : List MapEntry) (f : List (Int × β)) (ck : Nat) : Prop :=
  es.map (fun e => (e.key, e.val)) = f.map (fun p => (Value.int .i64 p.1, enc p.2)) ∧ (f.map (·.1)).Nodup ∧ (∀ e ∈ es, e.born < ck) ∧ (es.map (·.born)).Nodup
/-- A map, as memory has it. -/
def Mp (enc : β → Value) (w : World) (r : Nat) (f : List (Int × β)) : Prop := ∃ es ck, w.heap[r]? = some (.map es ck) ∧ MpE enc es.toList f ck

theorem Mp.ch {F : Nat → Prop} {w w' : World} {r : Nat} {f : List (Int × β)} (h : Mp enc w r f) (hc : Ch F w w') (hF : ¬ F r) : Mp enc w' r f := by
  obtain ⟨es, ck, h1, h2⟩ := h
  exact ⟨es, ck, hc.at h1 hF, h2⟩
theorem Mp.ext {w w' : World} {r : Nat} {f : List (Int × β)} (h : Mp enc w r f) (hc : Ext w w') : Mp enc w' r f := h.ch hc id
theorem Mp.stb {n : Nat} {w w' : World} {r : Nat} {f : List (Int × β)} (h : Mp enc w r f) (hS : Stb n w w') : Mp enc w' r f := by
  obtain ⟨es, ck, h1, h2⟩ := h
  exact ⟨es, ck, hS.keep _ _ h1 rfl, h2⟩
theorem Mp.new {w w' : World} {r : Nat} (h : IsAlloc w (.map #[] 0) r w') : Mp enc w' r [] := ⟨_, _, h.new, rfl, .nil, by simp, .nil⟩
theorem Mp.lt {w : World} {r : Nat} {f : List (Int × β)} (h : Mp enc w r f) : r < w.heap.size := by
  obtain ⟨es, ck, h1, h2⟩ := h
  exact heap_lt h1

def getM (f : List (Int × β)) (k : Int) : Option β := (f.find? fun p => p.1 == k).map (·.2)
theorem getM_nil (k : Int) : getM ([] : List (Int × β)) k = none := rfl
theorem getM_cons (p : Int × β) (f : List (Int × β)) (k : Int) : getM (p :: f) k = if p.1 = k then some p.2 else getM f k := by
  unfold getM
  by_cases h : p.1 = k
  · rw [if_pos h, List.find?_cons_of_pos (by simpa using h)]; rfl
  · rw [if_neg h, List.find?_cons_of_neg (by simpa using h)]
theorem getM_append (f f' : List (Int × β)) (k : Int) : getM (f ++ f') k = match getM f k with | some v => some v | none => getM f' k := by
  induction f with
  | nil => rfl
  | cons p f ih =>
    rw [List.cons_append, getM_cons, getM_cons, ih]
    split <;> rfl
theorem getM_none {f : List (Int × β)} {k : Int} (h : ∀ p ∈ f, p.1 ≠ k) : getM f k = none := by
  unfold getM
  rw [List.find?_eq_none.2 (by intro p hp; simpa using h p hp)]; rfl
theorem getM_mem {f : List (Int × β)} {k : Int} {v : β} (h : getM f k = some v) : (k, v) ∈ f := by
  unfold getM at h
  rw [Option.map_eq_some_iff] at h
  obtain ⟨p, hp, rfl⟩ := h
  have h1 := List.mem_of_find?_eq_some hp
  have h2 := List.find?_some hp
  have : p.1 = k := by simpa using h2
  rw [← this]; exact h1
theorem getM_key {f : List (Int × β)} {k : Int} : k ∈ f.map (·.1) ↔ getM f k ≠ none := by
  induction f with
  | nil => simp [getM_nil]
  | cons p f ih =>
    rw [getM_cons, List.map_cons, List.mem_cons, ih]
    by_cases h : p.1 = k
    · rw [if_pos h]; simp [h]
    · rw [if_neg h]
      constructor
      · rintro (e | e)
        · exact absurd e.symm h
        · exact e
      · exact .inr

theorem find_is {k : Int} : ∀ {es : List MapEntry} {f : List (Int × β)} (i : Nat), es.map (fun e => (e.key, e.val)) = f.map (fun p => (Value.int .i64 p.1, enc p.2)) →
    ∃ r, Instr.findNow (.int .i64) (.int .i64 k) es i = some r ∧ ((r = none ∧ ∀ p ∈ f, p.1 ≠ k) ∨ ∃ f1 v f2, f = f1 ++ (k, v) :: f2 ∧ r = some (i + f1.length, enc v) ∧ ∀ p ∈ f1, p.1 ≠ k)
  | [], [], i, _ => ⟨none, rfl, .inl ⟨rfl, by simp⟩⟩
  | [], _ :: _, i, h => by simp at h
  | _ :: _, [], i, h => by simp at h
  | e :: es, p :: f, i, h => by
    simp only [List.map_cons, List.cons.injEq, Prod.mk.injEq] at h
    obtain ⟨⟨h1, h2⟩, h3⟩ := h
    by_cases hk : k = p.1
    · refine ⟨some (i, e.val), by simp [Instr.findNow, h1, Instr.sameNow, hk], .inr ⟨[], p.2, f, by rw [hk]; rfl, by rw [h2]; rfl, by simp⟩⟩
    · obtain ⟨r, hr, h⟩ := find_is (k := k) (i + 1) h3
      have hkb : (k == p.1) = false := beq_eq_false_iff_ne.2 hk
      refine ⟨r, by simp [Instr.findNow, h1, Instr.sameNow, hkb, hr], ?_⟩
      rcases h with ⟨h4, h5⟩ | ⟨f1, v, f2, rfl, h5, h6⟩
      · refine .inl ⟨h4, fun q hq => ?_⟩
        rcases List.mem_cons.1 hq with rfl | hq
        · exact fun e => hk e.symm
        · exact h5 q hq
      · refine .inr ⟨p :: f1, v, f2, rfl, by rw [h5, List.length_cons, Nat.add_assoc, Nat.add_comm 1], fun q hq => ?_⟩
        rcases List.mem_cons.1 hq with rfl | hq
        · exact fun e => hk e.symm
        · exact h6 q hq

theorem Mp.get {w : World} {r : Nat} {f : List (Int × β)} (h : Mp enc w r f) {k : Int} {z : Value} {K : Value → Bool → Prop} (hK : match getM f k with | some v => K (enc v) true | none => K z false) :
    MapGetP (.int .i64) w (.map (some r)) (.int .i64 k) z K := by
  obtain ⟨es, ck, hr, h1, h2, h3, h4⟩ := h
  obtain ⟨q, hq, h⟩ := find_is (k := k) 0 h1
  refine ⟨es.toList, ⟨es, ck, hr, rfl⟩, q, hq, ?_⟩
  rcases h with ⟨rfl, h5⟩ | ⟨f1, v, f2, rfl, rfl, h6⟩
  · rw [getM_none h5] at hK; exact hK
  · rw [getM_append, getM_none h6, getM_cons, if_pos rfl] at hK; exact hK

theorem Mp.set {w : World} {r : Nat} {f : List (Int × β)} (h : Mp enc w r f) {k : Int} {v : β} {K : World → Prop}
    (hK : ∀ f' w', (∀ k', getM f' k' = if k = k' then some v else getM f k') → Mp enc w' r f' → Ch (fun i => i = r) w w' → K w') :
    MapSetP (.int .i64) w (.map (some r)) (.int .i64 k) (enc v) K := by
  obtain ⟨es, ck, hr, h1, h2, h3, h4⟩ := h
  obtain ⟨q, hq, h⟩ := find_is (k := k) 0 h1
  refine ⟨r, rfl, es, ck, hr, q, hq, ?_⟩
  rcases h with ⟨rfl, h5⟩ | ⟨f1, v0, f2, rfl, rfl, h6⟩
  · intro w' hu
    refine hK (f ++ [(k, v)]) w' (fun k' => ?_) ⟨_, _, hu.new, ?_, ?_, ?_, ?_⟩ hu.ch
    · rw [getM_append, getM_cons, getM_nil]
      by_cases hk : k = k'
      · subst hk; rw [getM_none h5]
      · rw [if_neg hk, if_neg hk]; cases getM f k' <;> rfl
    · rw [Array.toList_push, List.map_append, List.map_append, h1]; rfl
    · rw [List.map_append, List.nodup_append]
      refine ⟨h2, by simp, fun a ha b hb => ?_⟩
      obtain ⟨p, hp, rfl⟩ := List.mem_map.1 ha
      simp only [List.map_cons, List.map_nil, List.mem_singleton] at hb
      rw [hb]; exact h5 p hp
    · intro e he
      rw [Array.toList_push, List.mem_append, List.mem_singleton] at he
      rcases he with he | rfl
      · have := h3 e he; omega
      · simp
    · rw [Array.toList_push, List.map_append, List.nodup_append]
      refine ⟨h4, by simp, fun a ha b hb => ?_⟩
      obtain ⟨e, he, rfl⟩ := List.mem_map.1 ha
      simp only [List.map_cons, List.map_nil, List.mem_singleton] at hb
      rw [hb]
      have := h3 e he
      omega
  · intro w' hu
    rw [Nat.zero_add] at hu
    have hlen := congrArg List.length h1
    simp only [List.length_map, List.length_append, List.length_cons, Array.length_toList] at hlen
    have hi : f1.length < es.size := by omega
    have hm : ∀ {γ : Type} (F : MapEntry → γ), (es.modify f1.length fun e => { e with key := .int .i64 k, val := enc v }).toList.map F = (es.toList.map F).set f1.length (F { es[f1.length] with key := .int .i64 k, val := enc v }) := fun F => by
      apply List.ext_getElem?
      intro i
      rw [List.getElem?_map, Array.getElem?_toList, Array.getElem?_modify, List.getElem?_set, List.getElem?_map, Array.getElem?_toList]
      by_cases h : f1.length = i
      · subst h; simp [hi]
      · simp [h]
    refine hK (f1 ++ (k, v) :: f2) w' (fun k' => ?_) ⟨_, _, hu.new, ?_, ?_, ?_, ?_⟩ hu.ch
    · rw [getM_append, getM_append, getM_cons, getM_cons]
      by_cases hk : k = k'
      · subst hk; rw [getM_none h6]; simp
      · simp [hk]
    · rw [hm, h1]
      simp only [List.map_append, List.map_cons]
      rw [List.set_append_right _ _ (by simp)]
      simp
    · simpa using h2
    · intro e he
      have hb : e.born ∈ (es.modify f1.length fun e => { e with key := .int .i64 k, val := enc v }).toList.map (·.born) := List.mem_map_of_mem he
      rw [hm] at hb
      rcases List.mem_or_eq_of_mem_set hb with hb | hb
      · obtain ⟨e', he', hbe⟩ := List.mem_map.1 hb
        rw [← hbe]; exact h3 e' he'
      · rw [hb]; exact h3 es[f1.length] (by simp)
    · rw [hm]
      have : (es.toList.map (·.born)).set f1.length es[f1.length].born = es.toList.map (·.born) := by
        apply List.ext_getElem?
        intro i
        rw [List.getElem?_set]
        by_cases h : f1.length = i
        · subst h; simp [hi]
        · simp [h]
      rw [this]; exact h4

theorem Mp.clear {w : World} {r : Nat} {f : List (Int × β)} (h : Mp enc w r f) {K : World → Prop} (hK : ∀ w', Mp enc w' r [] → Ch (fun i => i = r) w w' → K w') : MapClearP w (some r) K := by
  obtain ⟨es, ck, hr, h1, h2, h3, h4⟩ := h
  exact ⟨es, ck, hr, fun w' hu => hK w' ⟨_, _, hu.new, rfl, .nil, by simp, .nil⟩ hu.ch⟩
end
end Go.Proofs.Ytopecljhehcldaa.Gx
