/- Relations: what comes of what by a way; without a circle somebody waits for those alone that don't. Lists without neighbours that are the same. -/
import Derived.Test.YtmmhbjbaallkfaaGxC
namespace Go.Proofs.Ytmmhbjbaallkfaa.Gx
open Go
set_option linter.unusedSimpArgs false
set_option linter.unusedVariables false

/-- A way, of one step or more. -/
inductive TC {α : Type} (E : α → α → Prop) : α → α → Prop
  | one {a b : α} : E a b → TC E a b
  | more {a b c : α} : TC E a b → E b c → TC E a c

section
variable {α : Type} {E E' : α → α → Prop}
theorem TC.trans {a b c : α} (h : TC E a b) (k : TC E b c) : TC E a c := by
  induction k with
  | one e => exact .more h e
  | more _ e ih => exact .more ih e
theorem TC.mono (hE : ∀ a b, E a b → E' a b) {a b : α} (h : TC E a b) : TC E' a b := by
  induction h with
  | one e => exact .one (hE _ _ e)
  | more _ e ih => exact .more ih (hE _ _ e)
theorem TC.last {a b : α} (h : TC E a b) : ∃ c, E c b ∧ (c = a ∨ TC E a c) := by
  cases h with
  | one e => exact ⟨_, e, .inl rfl⟩
  | more h e => exact ⟨_, e, .inr h⟩
theorem TC.first {a b : α} (h : TC E a b) : ∃ c, E a c ∧ (c = b ∨ TC E c b) := by
  induction h with
  | one e => exact ⟨_, e, .inl rfl⟩
  | more h e ih =>
    obtain ⟨c, h1, h2⟩ := ih
    refine ⟨c, h1, .inr ?_⟩
    rcases h2 with rfl | h2
    · exact .one e
    · exact .more h2 e

/-- Arcs of one node alone were turned: a new way goes by that node. -/
theorem TC.turned {i : α} (hE : ∀ a b, a ≠ i → E' a b → E a b) {a b : α} (h : TC E' a b) : TC E a b ∨ ((a = i ∨ TC E' a i) ∧ TC E' i b) := by
  induction h with
  | @one b e =>
    by_cases ha : a = i
    · exact .inr ⟨.inl ha, ha ▸ .one e⟩
    · exact .inl (.one (hE _ _ ha e))
  | @more b c h e ih =>
    rcases ih with ih | ⟨h1, h2⟩
    · by_cases hb : b = i
      · subst hb; exact .inr ⟨.inr h, .one e⟩
      · exact .inl (.more ih (hE _ _ hb e))
    · exact .inr ⟨h1, .more h2 e⟩
theorem acyc_turned {i : α} (hE : ∀ a b, a ≠ i → E' a b → E a b) (ha : ∀ k, ¬ TC E k k) (hi : ¬ TC E' i i) : ∀ k, ¬ TC E' k k := by
  intro k hk
  rcases hk.turned hE with h | ⟨h1, h2⟩
  · exact ha k h
  · rcases h1 with rfl | h1
    · exact hi h2
    · exact hi (h2.trans h1)

theorem filter_lt {p q : α → Bool} : ∀ {l : List α} {t : α}, (∀ x, p x = true → q x = true) → t ∈ l → q t = true → p t = false → (l.filter p).length < (l.filter q).length
  | x :: l, t, h, ht, hq, hp => by
    have le : ∀ l : List α, (l.filter p).length ≤ (l.filter q).length := fun l => by
      induction l with
      | nil => exact Nat.le_refl _
      | cons y l ih =>
        rw [List.filter_cons, List.filter_cons]
        cases hy : p y with
        | true => rw [h y hy]; simpa using ih
        | false =>
          cases q y
          · simpa using ih
          · simp; omega
    rw [List.filter_cons, List.filter_cons]
    rcases List.mem_cons.1 ht with rfl | ht
    · rw [hp, hq]
      have := le l
      simp; omega
    · have ih := filter_lt (l := l) h ht hq hp
      cases hx : p x with
      | true => rw [h x hx]; simpa using ih
      | false =>
        cases q x
        · simpa using ih
        · simp; omega

/-- Without a circle some of those that have somebody have such alone that have nobody. -/
theorem acyc_some {keys : List α} (ha : ∀ k, ¬ TC E k k) (hk : ∀ a b, E a b → a ∈ keys) {k : α} (h0 : ∃ b, E k b) : ∃ a, (∃ b, E a b) ∧ ∀ b, E a b → ∀ c, ¬ E b c := by
  classical
  have main : ∀ (n : Nat) (k : α), (keys.filter fun x => decide (TC E k x)).length ≤ n → (∃ b, E k b) → ∃ a, (∃ b, E a b) ∧ ∀ b, E a b → ∀ c, ¬ E b c := by
    intro n
    induction n with
    | zero =>
      intro k hn hkb
      refine ⟨k, hkb, fun b hb c hc => ?_⟩
      have hm : b ∈ keys.filter fun x => decide (TC E k x) := List.mem_filter.2 ⟨hk _ _ hc, decide_eq_true (.one hb)⟩
      have : (keys.filter fun x => decide (TC E k x)) = [] := List.eq_nil_of_length_eq_zero (by omega)
      rw [this] at hm; cases hm
    | succ n ih =>
      intro k hn hkb
      by_cases hex : ∃ b c, E k b ∧ E b c
      · obtain ⟨b, c, hb, hc⟩ := hex
        refine ih b ?_ ⟨c, hc⟩
        have := filter_lt (p := fun x => decide (TC E b x)) (q := fun x => decide (TC E k x)) (l := keys) (t := b) (fun x hx => decide_eq_true ((TC.one hb).trans (of_decide_eq_true hx))) (hk _ _ hc) (decide_eq_true (.one hb)) (decide_eq_false (ha b))
        omega
      · exact ⟨k, hkb, fun b hb c hc => hex ⟨b, c, hb, hc⟩⟩
  exact main _ k (Nat.le_refl _) h0
end

/-! ### Compact -/
def cmp1 : Int → List Int → List Int
  | _, [] => []
  | p, y :: l => if y = p then cmp1 y l else y :: cmp1 y l
def compactL : List Int → List Int
  | [] => []
  | x :: l => x :: cmp1 x l
theorem cmp1_mem : ∀ {l : List Int} {p x : Int}, x ∈ p :: cmp1 p l ↔ x ∈ p :: l
  | [], p, x => Iff.rfl
  | y :: l, p, x => by
    unfold cmp1
    have ih := cmp1_mem (l := l) (p := y) (x := x)
    simp only [List.mem_cons] at ih
    by_cases h : y = p
    · rw [if_pos h]
      subst h
      simp only [List.mem_cons, ih]
      constructor
      · rintro (h | h) <;> simp [h]
      · rintro (h | h | h) <;> simp [h]
    · rw [if_neg h]
      simp only [List.mem_cons, ih]
theorem compactL_mem {l : List Int} {x : Int} : x ∈ compactL l ↔ x ∈ l := by
  cases l with
  | nil => rfl
  | cons y l => exact cmp1_mem
theorem cmp1_sorted : ∀ {l : List Int} {p : Int}, (p :: l).Pairwise (· ≤ ·) → (p :: cmp1 p l).Pairwise (· < ·)
  | [], p, _ => by simp [cmp1]
  | y :: l, p, h => by
    obtain ⟨h1, h2⟩ := List.pairwise_cons.1 h
    unfold cmp1
    have ih := cmp1_sorted h2
    by_cases he : y = p
    · rw [if_pos he]; subst he; exact ih
    · rw [if_neg he]
      refine List.pairwise_cons.2 ⟨fun z hz => ?_, ih⟩
      have hpy := h1 y (by simp)
      have hyz := cmp1_mem.1 hz
      rcases List.mem_cons.1 hyz with rfl | hz'
      · omega
      · have := (List.pairwise_cons.1 h2).1 z hz'; omega
theorem compactL_sorted {l : List Int} (h : l.Pairwise (· ≤ ·)) : (compactL l).Pairwise (· < ·) := by
  cases l with
  | nil => exact .nil
  | cons x l => exact cmp1_sorted h
theorem cmp1_len : ∀ (l : List Int) (p : Int), (cmp1 p l).length ≤ l.length
  | [], _ => Nat.le_refl _
  | y :: l, p => by
    unfold cmp1
    have := cmp1_len l y
    split
    · rw [List.length_cons]; omega
    · rw [List.length_cons, List.length_cons]; omega
theorem compactL_len (l : List Int) : (compactL l).length ≤ l.length := by
  cases l with
  | nil => exact Nat.le_refl _
  | cons x l => have := cmp1_len l x; simp only [compactL, List.length_cons]; omega
/-- One more at the end. -/
theorem cmp1_append : ∀ (l : List Int) (p y : Int), cmp1 p (l ++ [y]) = cmp1 p l ++ if (p :: l).getLast? = some y then [] else [y]
  | [], p, y => by
    simp only [List.nil_append, cmp1, List.getLast?_singleton, Option.some.injEq]
    by_cases h : y = p
    · rw [if_pos h, if_pos h.symm]
    · rw [if_neg h, if_neg fun e => h e.symm]
  | x :: l, p, y => by
    rw [List.cons_append]
    unfold cmp1
    rw [cmp1_append l x y, List.getLast?_cons_cons]
    split <;> rfl
theorem compactL_append {l : List Int} {y : Int} : compactL (l ++ [y]) = compactL l ++ if l.getLast? = some y then [] else [y] := by
  cases l with
  | nil => rfl
  | cons x l =>
    show x :: cmp1 x (l ++ [y]) = (x :: cmp1 x l) ++ _
    rw [cmp1_append]; rfl
end Go.Proofs.Ytmmhbjbaallkfaa.Gx
