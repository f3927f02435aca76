/- Laws of pairs in order: what is in a store behind any puts and deletes. -/
import Derived.Test.YtopecljhehcldaaPagesF
namespace Go.Proofs.Ytopecljhehcldaa.Gx
open Go
set_option linter.unusedSimpArgs false
set_option linter.unusedVariables false

theorem mem_insS_iff {l : List Pr} {k v : Int} {x : Pr} (h : Srt l) : x ∈ insS l k v ↔ x = (k, v) ∨ (x ∈ l ∧ x.1 ≠ k) := by
  unfold insS
  rw [List.mem_append, List.mem_cons]
  constructor
  · rintro (hx | rfl | hx)
    · exact .inr ⟨(List.takeWhile_sublist _).subset hx, by have := tw_lt hx; omega⟩
    · exact .inl rfl
    · exact .inr ⟨(List.dropWhile_sublist _).subset hx, by have := srt_drop_le h x hx; omega⟩
  · rintro (rfl | ⟨hx, hk⟩)
    · exact .inr (.inl rfl)
    · rcases Int.lt_or_lt_of_ne hk with hk | hk
      · left
        have : x ∈ l.takeWhile (lt1 k) ++ l.dropWhile (lt1 k) := by rw [List.takeWhile_append_dropWhile]; exact hx
        rcases List.mem_append.1 this with h1 | h1
        · exact h1
        · have := srt_drop_lt h x h1; omega
      · right; right
        have : x ∈ l.takeWhile (le1 k) ++ l.dropWhile (le1 k) := by rw [List.takeWhile_append_dropWhile]; exact hx
        rcases List.mem_append.1 this with h1 | h1
        · have : x.1 ≤ k := by simpa [le1] using takeWhile_mem h1
          omega
        · exact h1

theorem srt_ext : ∀ {a b : List Pr}, Srt a → Srt b → (∀ x, x ∈ a ↔ x ∈ b) → a = b
  | [], [], _, _, _ => rfl
  | [], y :: b, _, _, h => by have := (h y).2 (List.mem_cons_self); cases this
  | x :: a, [], _, _, h => by have := (h x).1 (List.mem_cons_self); cases this
  | x :: a, y :: b, ha, hb, h => by
    obtain ⟨ha1, ha2⟩ := srt_cons.1 ha
    obtain ⟨hb1, hb2⟩ := srt_cons.1 hb
    have e : x = y := by
      rcases List.mem_cons.1 ((h x).1 List.mem_cons_self) with e | h1
      · exact e
      · rcases List.mem_cons.1 ((h y).2 List.mem_cons_self) with e | h2
        · exact e.symm
        · have := hb1 x h1; have := ha1 y h2; omega
    subst e
    rw [srt_ext ha2 hb2 fun z => ?_]
    constructor
    · intro hz
      rcases List.mem_cons.1 ((h z).1 (List.mem_cons_of_mem _ hz)) with rfl | h1
      · have := ha1 _ hz; omega
      · exact h1
    · intro hz
      rcases List.mem_cons.1 ((h z).2 (List.mem_cons_of_mem _ hz)) with rfl | h1
      · have := hb1 _ hz; omega
      · exact h1

theorem srt_unique {l : List Pr} {k u v : Int} (h : Srt l) (h1 : (k, u) ∈ l) (h2 : (k, v) ∈ l) : u = v := by
  induction l with
  | nil => cases h1
  | cons x l ih =>
    obtain ⟨ha1, ha2⟩ := srt_cons.1 h
    rcases List.mem_cons.1 h1 with e1 | g1
    · rcases List.mem_cons.1 h2 with e2 | g2
      · simpa using congrArg Prod.snd (e1.trans e2.symm)
      · have := ha1 _ g2; rw [← e1] at this; simp at this
    · rcases List.mem_cons.1 h2 with e2 | g2
      · have := ha1 _ g1; rw [← e2] at this; simp at this
      · exact ih ha2 g1 g2

def insR (L : List Pr) (x : Pr) : List Pr := if 0 ≤ x.1 ∧ x.1 ≤ 999 then insS L x.1 x.2 else L
theorem srt_insR {L : List Pr} {x : Pr} (h : Srt L) : Srt (insR L x) := by
  unfold insR; split
  · exact srt_insS h
  · exact h

theorem putL_flat : ∀ {l : List Pr} {P : List (List Pr)}, Inv P → (putL P l).flatten = l.foldl insR P.flatten
  | [], _, _ => rfl
  | x :: l, P, h => by
    show (putL (if 0 ≤ x.1 ∧ x.1 ≤ 999 then putP P x.1 x.2 else P) l).flatten = l.foldl insR (insR P.flatten x)
    unfold insR
    by_cases hx : 0 ≤ x.1 ∧ x.1 ≤ 999
    · rw [if_pos hx, if_pos hx, putL_flat (putP_inv h hx), putP_flat h]; rfl
    · rw [if_neg hx, if_neg hx, putL_flat h]; rfl

theorem srt_fold : ∀ {l : List Pr} {L : List Pr}, Srt L → Srt (l.foldl insR L)
  | [], _, h => h
  | x :: l, L, h => srt_fold (l := l) (srt_insR h)

theorem mem_fold : ∀ {l : List Pr} {L : List Pr}, Srt L → (l.map (·.1)).Nodup → ∀ x, x ∈ l.foldl insR L ↔ (x ∈ l ∧ 0 ≤ x.1 ∧ x.1 ≤ 999) ∨ (x ∈ L ∧ ∀ z ∈ l, 0 ≤ z.1 ∧ z.1 ≤ 999 → z.1 ≠ x.1)
  | [], L, _, _, x => by simp
  | y :: l, L, h, hn, x => by
    rw [List.map_cons, List.nodup_cons] at hn
    have ih := mem_fold (l := l) (srt_insR (x := y) h) hn.2 x
    rw [List.foldl_cons, ih]
    have hyl : ∀ z ∈ l, z.1 ≠ y.1 := fun z hz e => hn.1 (List.mem_map.2 ⟨z, hz, e⟩)
    unfold insR
    by_cases hy : 0 ≤ y.1 ∧ y.1 ≤ 999
    · rw [if_pos hy, mem_insS_iff h]
      constructor
      · rintro (⟨h1, h2⟩ | ⟨rfl | ⟨h1, h2⟩, h3⟩)
        · exact .inl ⟨List.mem_cons_of_mem _ h1, h2⟩
        · exact .inl ⟨List.mem_cons_self, hy⟩
        · refine .inr ⟨h1, fun z hz hr => ?_⟩
          rcases List.mem_cons.1 hz with rfl | hz
          · exact fun e => h2 e.symm
          · exact h3 z hz hr
      · rintro (⟨h1, h2⟩ | ⟨h1, h2⟩)
        · rcases List.mem_cons.1 h1 with rfl | h1
          · exact .inr ⟨.inl rfl, fun z hz _ => hyl z hz⟩
          · exact .inl ⟨h1, h2⟩
        · exact .inr ⟨.inr ⟨h1, fun e => h2 y List.mem_cons_self hy e.symm⟩, fun z hz => h2 z (List.mem_cons_of_mem _ hz)⟩
    · rw [if_neg hy]
      constructor
      · rintro (⟨h1, h2⟩ | ⟨h1, h3⟩)
        · exact .inl ⟨List.mem_cons_of_mem _ h1, h2⟩
        · refine .inr ⟨h1, fun z hz hr => ?_⟩
          rcases List.mem_cons.1 hz with rfl | hz
          · exact absurd hr hy
          · exact h3 z hz hr
      · rintro (⟨h1, h2⟩ | ⟨h1, h2⟩)
        · rcases List.mem_cons.1 h1 with rfl | h1
          · exact absurd h2 hy
          · exact .inl ⟨h1, h2⟩
        · exact .inr ⟨h1, fun z hz => h2 z (List.mem_cons_of_mem _ hz)⟩

/-- The order in which keys that are unlike are put makes no difference. -/
theorem fold_rev {l : List Pr} (hn : (l.map (·.1)).Nodup) : l.reverse.foldl insR [] = l.foldl insR [] := by
  refine srt_ext (srt_fold .nil) (srt_fold .nil) fun x => ?_
  rw [mem_fold .nil (by rw [List.map_reverse]; exact (List.reverse_perm _).nodup_iff.2 hn), mem_fold .nil hn]
  simp

theorem key_fold : ∀ {l : List Pr} {L : List Pr} {x : Pr}, x ∈ l.foldl insR L → x ∈ l ∨ x ∈ L
  | [], _, _, h => .inr h
  | y :: l, L, x, h => by
    rcases key_fold (l := l) h with h | h
    · exact .inl (List.mem_cons_of_mem _ h)
    · unfold insR at h
      split at h
      · rcases mem_insS h with rfl | h
        · exact .inl List.mem_cons_self
        · exact .inr h
      · exact .inr h

theorem del_ins {L : List Pr} {k v : Int} (h : Srt L) (hk : ∀ x ∈ L, x.1 ≠ k) : delS (insS L k v) k = L := by
  refine srt_ext (srt_delS (srt_insS h)) h fun x => ?_
  unfold delS
  rw [List.mem_filter, mem_insS_iff h]
  constructor
  · rintro ⟨rfl | ⟨h1, _⟩, h2⟩
    · simp at h2
    · exact h1
  · intro hx
    exact ⟨.inr ⟨hx, hk x hx⟩, by simpa using hk x hx⟩

theorem delS_none {L : List Pr} {k : Int} (hk : ∀ x ∈ L, x.1 ≠ k) : delS L k = L := List.filter_eq_self.2 fun x hx => by simpa using hk x hx

theorem has_iff {P : List (List Pr)} (hI : Inv P) (k : Int) : hasP P k = true ↔ ∃ v, (k, v) ∈ P.flatten := by
  by_cases hne : P = []
  · subst hne; rw [hasP_nil]; simp
  · exact (atP_is hI hne k).has

theorem delQ_flat {P : List (List Pr)} (hI : Inv P) (k : Int) : (delQ P k).flatten = delS P.flatten k := by
  unfold delQ
  split
  · cases hh : hasP P k with
    | true =>
      rw [if_pos rfl]
      have hne : P ≠ [] := fun e => by subst e; rw [hasP_nil] at hh; cases hh
      exact (delP_is hI (atP_is hI hne k)).1
    | false =>
      rw [if_neg (by simp), delS_none fun x hx e => ?_]
      subst e
      rw [(has_iff hI _).2 ⟨x.2, hx⟩] at hh; cases hh
  · rename_i hr
    rw [delS_none fun x hx e => ?_]
    subst e
    exact hr (hI.rng x hx)

theorem valP_is {P : List (List Pr)} (hI : Inv P) {k v : Int} (h : (k, v) ∈ P.flatten) : valP P k = v := by
  have hh := (has_iff hI k).2 ⟨v, h⟩
  obtain ⟨u, hu⟩ := isP_iff.1 hh
  have hne : P ≠ [] := fun e => by subst e; simp at h
  have hm : (k, u) ∈ P.flatten := List.mem_flatten.2 ⟨P.getD (atP P k) [], by
    rw [← List.getElem_eq_getD (h := atP_lt hne k)]; exact List.getElem_mem _, List.mem_of_getElem? hu⟩
  unfold valP
  rw [hu]
  exact srt_unique hI.sorted hm h

theorem getP_yes {P : List (List Pr)} (hI : Inv P) {k v : Int} (h : (k, v) ∈ P.flatten) : getP P k = (v, 0) := by
  unfold getP
  rw [if_pos (hI.rng _ h), if_pos ((has_iff hI k).2 ⟨v, h⟩), valP_is hI h]
theorem getP_no {P : List (List Pr)} (hI : Inv P) {k : Int} (hk : 0 ≤ k ∧ k ≤ 999) (h : ∀ v, (k, v) ∉ P.flatten) : getP P k = (0, 5) := by
  unfold getP
  rw [if_pos hk, if_neg fun hh => ?_]
  obtain ⟨v, hv⟩ := (has_iff hI k).1 hh
  exact h v hv
end Go.Proofs.Ytopecljhehcldaa.Gx
