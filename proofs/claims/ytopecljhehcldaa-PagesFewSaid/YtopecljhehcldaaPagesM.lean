/- Pages: the plain law. What is put into pages and taken out, and what that does to the list of all pairs. -/
import Derived.Test.YtopecljhehcldaaPagesA
namespace Go.Proofs.Ytopecljhehcldaa.Gx
open Go
set_option linter.unusedSimpArgs false
set_option linter.unusedVariables false

def lt1 (k : Int) : Pr → Bool := fun x => decide (x.1 < k)
def le1 (k : Int) : Pr → Bool := fun x => decide (x.1 ≤ k)
abbrev Srt (l : List Pr) : Prop := (l.map (·.1)).Pairwise (· < ·)

/-- A pair put into a list. -/
def insS (l : List Pr) (k v : Int) : List Pr := l.takeWhile (lt1 k) ++ (k, v) :: l.dropWhile (le1 k)
def delS (l : List Pr) (k : Int) : List Pr := l.filter fun x => x.1 != k

def putP (P : List (List Pr)) (k v : Int) : List (List Pr) :=
  match P with
  | [] => [[(k, v)]]
  | _ => let q := insS (P.getD (atP P k) []) k v
    if 8 < q.length then P.take (atP P k) ++ [q.take 4, q.drop 4] ++ P.drop (atP P k + 1) else P.take (atP P k) ++ q :: P.drop (atP P k + 1)

/-- Two pages that are few are one. -/
def canJ (P : List (List Pr)) (at' : Nat) : Bool := decide (at' + 1 < P.length) && decide ((P.getD at' []).length + (P.getD (at' + 1) []).length ≤ 4)
def joinP (P : List (List Pr)) (at' : Nat) : List (List Pr) := P.take at' ++ (P.getD at' [] ++ P.getD (at' + 1) []) :: P.drop (at' + 2)

def hasP (P : List (List Pr)) (k : Int) : Bool := isP (P.getD (atP P k) []) k

def delP (P : List (List Pr)) (k : Int) : List (List Pr) :=
  let a := atP P k
  let q := delS (P.getD a []) k
  if q = [] then P.take a ++ P.drop (a + 1)
  else let Q := P.take a ++ q :: P.drop (a + 1)
    if canJ Q a then joinP Q a else if 0 < a ∧ canJ Q (a - 1) then joinP Q (a - 1) else Q

/-! ### Sorted lists -/
theorem srt_append {a b : List Pr} : Srt (a ++ b) ↔ Srt a ∧ Srt b ∧ ∀ x ∈ a, ∀ y ∈ b, x.1 < y.1 := by
  simp only [Srt, List.map_append, List.pairwise_append, List.mem_map]
  constructor
  · rintro ⟨h1, h2, h3⟩
    exact ⟨h1, h2, fun x hx y hy => h3 _ ⟨x, hx, rfl⟩ _ ⟨y, hy, rfl⟩⟩
  · rintro ⟨h1, h2, h3⟩
    refine ⟨h1, h2, ?_⟩
    rintro _ ⟨x, hx, rfl⟩ _ ⟨y, hy, rfl⟩
    exact h3 x hx y hy

theorem srt_cons {x : Pr} {b : List Pr} : Srt (x :: b) ↔ (∀ y ∈ b, x.1 < y.1) ∧ Srt b := by
  simp only [Srt, List.map_cons, List.pairwise_cons, List.mem_map]
  constructor
  · rintro ⟨h1, h2⟩; exact ⟨fun y hy => h1 _ ⟨y, hy, rfl⟩, h2⟩
  · rintro ⟨h1, h2⟩; refine ⟨?_, h2⟩; rintro _ ⟨y, hy, rfl⟩; exact h1 y hy

theorem insS_mid {a p b : List Pr} {k v : Int} (ha : ∀ x ∈ a, x.1 < k) (hb : ∀ x ∈ b, k < x.1) : insS (a ++ p ++ b) k v = a ++ insS p k v ++ b := by
  have h1 : ∀ x ∈ a, lt1 k x = true := fun x hx => decide_eq_true (ha x hx)
  have h2 : ∀ x ∈ b, lt1 k x = false := fun x hx => decide_eq_false (by have := hb x hx; omega)
  have h3 : ∀ x ∈ a, le1 k x = true := fun x hx => decide_eq_true (by have := ha x hx; omega)
  have h4 : ∀ x ∈ b, le1 k x = false := fun x hx => decide_eq_false (by have := hb x hx; omega)
  unfold insS
  rw [takeWhile_app2 h2, takeWhile_app h1, dropWhile_app2 h4, dropWhile_app h3]
  simp

theorem delS_mid {a p b : List Pr} {k : Int} (ha : ∀ x ∈ a, x.1 < k) (hb : ∀ x ∈ b, k < x.1) : delS (a ++ p ++ b) k = a ++ delS p k ++ b := by
  unfold delS
  have h1 : a.filter (fun x => x.1 != k) = a := List.filter_eq_self.2 fun x hx => by have := ha x hx; simp; omega
  have h2 : b.filter (fun x => x.1 != k) = b := List.filter_eq_self.2 fun x hx => by have := hb x hx; simp; omega
  rw [List.filter_append, List.filter_append, h1, h2]

theorem mem_insS {l : List Pr} {k v : Int} {x : Pr} (h : x ∈ insS l k v) : x = (k, v) ∨ x ∈ l := by
  unfold insS at h
  rcases List.mem_append.1 h with h | h
  · exact .inr ((List.takeWhile_sublist _).mem h)
  · rcases List.mem_cons.1 h with h | h
    · exact .inl h
    · exact .inr ((List.dropWhile_sublist _).mem h)

/-- Behind a while that ends a sorted list has no more such. -/
theorem srt_drop_le {k : Int} : ∀ {l : List Pr}, Srt l → ∀ x ∈ l.dropWhile (le1 k), k < x.1
  | [], _, x, h => by cases h
  | y :: l, hs, x, h => by
    obtain ⟨h1, h2⟩ := srt_cons.1 hs
    cases hy : le1 k y with
    | true => rw [List.dropWhile_cons_of_pos hy] at h; exact srt_drop_le h2 x h
    | false =>
      rw [List.dropWhile_cons_of_neg (by simp [hy])] at h
      have hy' : ¬ y.1 ≤ k := of_decide_eq_false hy
      rcases List.mem_cons.1 h with rfl | h
      · omega
      · have := h1 x h; omega
theorem srt_drop_lt {k : Int} : ∀ {l : List Pr}, Srt l → ∀ x ∈ l.dropWhile (lt1 k), k ≤ x.1
  | [], _, x, h => by cases h
  | y :: l, hs, x, h => by
    obtain ⟨h1, h2⟩ := srt_cons.1 hs
    cases hy : lt1 k y with
    | true => rw [List.dropWhile_cons_of_pos hy] at h; exact srt_drop_lt h2 x h
    | false =>
      rw [List.dropWhile_cons_of_neg (by simp [hy])] at h
      have hy' : ¬ y.1 < k := of_decide_eq_false hy
      rcases List.mem_cons.1 h with rfl | h
      · omega
      · have := h1 x h; omega

theorem tw_lt {k : Int} {l : List Pr} {x : Pr} (h : x ∈ l.takeWhile (lt1 k)) : x.1 < k := by
  have : lt1 k x = true := takeWhile_mem h
  exact of_decide_eq_true this

theorem srt_insS {l : List Pr} {k v : Int} (h : Srt l) : Srt (insS l k v) := by
  unfold insS
  have hA : Srt (l.takeWhile (lt1 k)) := List.Pairwise.sublist ((List.takeWhile_sublist _).map _) h
  have hB : Srt (l.dropWhile (le1 k)) := List.Pairwise.sublist ((List.dropWhile_sublist _).map _) h
  have ha : ∀ x ∈ l.takeWhile (lt1 k), x.1 < k := fun x hx => tw_lt hx
  have hb := srt_drop_le (k := k) h
  refine srt_append.2 ⟨hA, srt_cons.2 ⟨fun y hy => hb y hy, hB⟩, fun x hx y hy => ?_⟩
  have h1 := ha x hx
  rcases List.mem_cons.1 hy with rfl | hy
  · exact h1
  · have := hb y hy; omega

theorem srt_delS {l : List Pr} {k : Int} (h : Srt l) : Srt (delS l k) := List.Pairwise.sublist (List.filter_sublist.map _) h

theorem insS_ne (l : List Pr) (k v : Int) : insS l k v ≠ [] := by unfold insS; simp

/-- What stands between what is less and what is more. -/
theorem drop_lt_le {k : Int} {l : List Pr} (h : Srt l) : l.dropWhile (lt1 k) = (match l[posP l k]? with | some x => if x.1 = k then [x] else [] | none => []) ++ l.dropWhile (le1 k) := by
  rw [show posP l k = (l.takeWhile (lt1 k)).length from rfl]
  induction l with
  | nil => rfl
  | cons y l ih =>
    obtain ⟨h1, h2⟩ := srt_cons.1 h
    cases hy : lt1 k y with
    | true =>
      have hy' : y.1 < k := of_decide_eq_true hy
      have hy2 : le1 k y = true := decide_eq_true (by omega)
      rw [List.dropWhile_cons_of_pos hy, List.dropWhile_cons_of_pos hy2, List.takeWhile_cons_of_pos hy, List.length_cons, List.getElem?_cons_succ]
      exact ih h2
    | false =>
      have hy' : ¬ y.1 < k := of_decide_eq_false hy
      rw [List.dropWhile_cons_of_neg (by simp [hy]), List.takeWhile_cons_of_neg (by simp [hy])]
      simp only [List.length_nil, List.getElem?_cons_zero]
      by_cases he : y.1 = k
      · have hy2 : le1 k y = true := decide_eq_true (by omega)
        rw [if_pos he, List.dropWhile_cons_of_pos hy2, dropWhile_none]
        · rfl
        · intro x hx; exact decide_eq_false (by have := h1 x hx; omega)
      · rw [if_neg he, dropWhile_none]
        · rfl
        · intro x hx
          rcases List.mem_cons.1 hx with rfl | hx
          · exact decide_eq_false (by omega)
          · exact decide_eq_false (by have := h1 x hx; omega)

theorem posP_le (p : List Pr) (k : Int) : posP p k ≤ p.length := (List.takeWhile_sublist _).length_le
theorem take_posP (p : List Pr) (k : Int) : p.take (posP p k) = p.takeWhile (lt1 k) := by
  unfold posP
  exact (List.prefix_iff_eq_take.1 (List.takeWhile_prefix _)).symm
theorem drop_posP (p : List Pr) (k : Int) : p.drop (posP p k) = p.dropWhile (lt1 k) := by
  have h1 := List.take_append_drop (posP p k) p
  have h2 := List.takeWhile_append_dropWhile (p := lt1 k) (l := p)
  rw [take_posP] at h1
  exact List.append_cancel_left (h1.trans h2.symm)
theorem isP_iff {p : List Pr} {k : Int} : isP p k = true ↔ ∃ v, p[posP p k]? = some (k, v) := by
  unfold isP
  split
  · rename_i x hx
    simp only [beq_iff_eq, Option.some.injEq]
    constructor
    · rintro rfl; exact ⟨x.2, hx⟩
    · rintro ⟨v, h⟩
      rw [hx] at h; cases h; rfl
  · rename_i h; simp [h]

theorem insS_is {p : List Pr} {k v : Int} (hs : Srt p) (h : isP p k = true) : insS p k v = p.set (posP p k) (k, v) := by
  obtain ⟨u, hu⟩ := isP_iff.1 h
  have hlt := (List.getElem?_eq_some_iff.1 hu).1
  have := drop_lt_le (k := k) hs
  rw [hu] at this
  simp only [if_true] at this
  rw [List.set_eq_take_append_cons_drop, if_pos hlt, take_posP]
  unfold insS
  congr 2
  have h2 := drop_posP p k
  rw [this] at h2
  have h3 := congrArg (List.drop 1) h2
  rw [List.drop_drop] at h3
  simpa using h3.symm

theorem insS_not {p : List Pr} {k v : Int} (hs : Srt p) (h : isP p k = false) : insS p k v = p.take (posP p k) ++ (k, v) :: p.drop (posP p k) := by
  have := drop_lt_le (k := k) hs
  have e : (match p[posP p k]? with | some x => if x.1 = k then [x] else [] | none => []) = ([] : List Pr) := by
    unfold isP at h
    split at h
    · rename_i x hx; rw [hx]; simp only; rw [if_neg (by simpa using h)]
    · rename_i hx; rw [hx]
  rw [e, List.nil_append] at this
  rw [take_posP, drop_posP, this]; rfl

theorem delS_is {p : List Pr} {k : Int} (hs : Srt p) (h : isP p k = true) : delS p k = p.take (posP p k) ++ p.drop (posP p k + 1) := by
  obtain ⟨u, hu⟩ := isP_iff.1 h
  have := drop_lt_le (k := k) hs
  rw [hu] at this
  simp only [if_true] at this
  have h2 := drop_posP p k
  rw [this] at h2
  have h3 := congrArg (List.drop 1) h2
  rw [List.drop_drop] at h3
  simp only [List.singleton_append, List.drop_succ_cons, List.drop_zero] at h3
  rw [h3, take_posP]
  have h4 := List.takeWhile_append_dropWhile (p := lt1 k) (l := p)
  have h5 : delS p k = delS (p.takeWhile (lt1 k) ++ [(k, u)] ++ p.dropWhile (le1 k)) k := by
    congr 1; rw [List.append_assoc, ← this, h4]
  rw [h5, delS_mid (fun x hx => tw_lt hx) (srt_drop_le hs)]
  simp [delS]

theorem delS_not {p : List Pr} {k : Int} (hs : Srt p) (h : isP p k = false) : delS p k = p := by
  unfold delS
  refine List.filter_eq_self.2 fun x hx => ?_
  simp only [bne_iff_ne, ne_eq]
  intro e
  subst e
  have hm := List.takeWhile_append_dropWhile (p := lt1 x.1) (l := p)
  rw [← hm] at hx
  rcases List.mem_append.1 hx with hx | hx
  · have := tw_lt hx; omega
  · rw [drop_lt_le hs] at hx
    rcases List.mem_append.1 hx with hx | hx
    · split at hx
      · rename_i y hy
        split at hx
        · rename_i he
          unfold isP at h; rw [hy] at h; simp [he] at h
        · cases hx
      · cases hx
    · have := srt_drop_le hs x hx; omega

theorem insS_len {p : List Pr} {k v : Int} (hs : Srt p) : (insS p k v).length = if isP p k then p.length else p.length + 1 := by
  split
  · rename_i h; rw [insS_is hs h]; simp
  · rename_i h
    rw [insS_not hs (by simpa using h)]
    have := posP_le p k
    simp; omega

/-! ### Where a key belongs -/
theorem atP_lt {P : List (List Pr)} (hne : P ≠ []) (k : Int) : atP P k < P.length := by
  have h0 : 0 < P.length := List.length_pos_iff.2 hne
  unfold atP
  split
  · rename_i i hi
    rw [List.findIdx?_eq_some_iff_getElem] at hi
    obtain ⟨h, _⟩ := hi
    omega
  · omega

theorem flatten_split {P : List (List Pr)} {i : Nat} (h : i < P.length) : P = P.take i ++ P.getD i [] :: P.drop (i + 1) := by
  have := List.take_append_drop i P
  rw [List.drop_eq_getElem_cons h] at this
  rw [List.getD_eq_getElem?_getD, List.getElem?_eq_getElem h]
  exact this.symm

theorem head_mem {p : List Pr} (h : p ≠ []) : ∃ x ∈ p, x.1 = hd0 p := by
  cases p with
  | nil => exact absurd rfl h
  | cons x p => exact ⟨x, by simp, rfl⟩
theorem head_le {p : List Pr} (hs : Srt p) : ∀ x ∈ p, hd0 p ≤ x.1 := by
  cases p with
  | nil => intro x hx; cases hx
  | cons y p =>
    intro x hx
    rcases List.mem_cons.1 hx with rfl | hx
    · exact Int.le_refl _
    · exact Int.le_of_lt ((srt_cons.1 hs).1 x hx)

theorem Inv.srtP {P : List (List Pr)} (h : Inv P) : ∀ p ∈ P, Srt p := by
  intro p hp
  have := h.sorted
  have hsub : p.Sublist P.flatten := List.sublist_flatten_of_mem hp
  exact List.Pairwise.sublist (hsub.map _) this

structure AtP (P : List (List Pr)) (k : Int) : Prop where
  lt : atP P k < P.length
  split : P = P.take (atP P k) ++ P.getD (atP P k) [] :: P.drop (atP P k + 1)
  flat : P.flatten = (P.take (atP P k)).flatten ++ P.getD (atP P k) [] ++ (P.drop (atP P k + 1)).flatten
  ahead : ∀ x ∈ (P.take (atP P k)).flatten, x.1 < k
  behind : ∀ x ∈ (P.drop (atP P k + 1)).flatten, k < x.1
  mem : P.getD (atP P k) [] ∈ P
  srt : Srt (P.getD (atP P k) [])
  ne : P.getD (atP P k) [] ≠ []

theorem atP_is {P : List (List Pr)} (hI : Inv P) (hne : P ≠ []) (k : Int) : AtP P k := by
  have hlt := atP_lt hne k
  have hsp := flatten_split hlt
  have hmem : P.getD (atP P k) [] ∈ P := by
    rw [List.getD_eq_getElem?_getD, List.getElem?_eq_getElem hlt]; exact List.getElem_mem hlt
  have hflat : P.flatten = (P.take (atP P k)).flatten ++ P.getD (atP P k) [] ++ (P.drop (atP P k + 1)).flatten := by
    conv => lhs; rw [hsp]
    simp
  have hS := hI.sorted
  have hS' : Srt P.flatten := hS
  rw [hflat] at hS'
  obtain ⟨hS1, hS2, hS3⟩ := srt_append.1 hS'
  obtain ⟨hS4, hS5, hS6⟩ := srt_append.1 hS1
  refine ⟨hlt, hsp, hflat, ?_, ?_, hmem, hS5, hI.ne _ hmem⟩
  · intro x hx
    have h0 : atP P k ≠ 0 := fun e => by rw [e] at hx; simp at hx
    -- the head of the page is k at the most
    have hh : hd0 (P.getD (atP P k) []) ≤ k := by
      have hf : ¬ k < hd0 (P[atP P k]) := by
        have hcase : ∀ j (hj : j < P.length), (match P.findIdx? (fun p => decide (k < hd0 p)) with | some i => i | none => P.length) > j → ¬ k < hd0 P[j] := by
          intro j hj hgt
          split at hgt
          · rename_i i hi
            rw [List.findIdx?_eq_some_iff_getElem] at hi
            obtain ⟨_, _, h3⟩ := hi
            simpa using h3 j hgt
          · rename_i hn
            rw [List.findIdx?_eq_none_iff] at hn
            simpa using hn _ (List.getElem_mem hj)
        refine hcase _ hlt ?_
        have e : atP P k = (match P.findIdx? (fun p => decide (k < hd0 p)) with | some i => i | none => P.length) - 1 := rfl
        omega
      rw [List.getD_eq_getElem?_getD, List.getElem?_eq_getElem hlt]
      exact Int.not_lt.1 hf
    obtain ⟨y, hy, hyh⟩ := head_mem (hI.ne _ hmem)
    have := hS6 x hx y hy
    omega
  · intro x hx
    obtain ⟨p, hp, hxp⟩ := List.mem_flatten.1 hx
    obtain ⟨j, hj, rfl⟩ := List.getElem_of_mem hp
    -- the next page's head is more
    have hd : P.drop (atP P k + 1) ≠ [] := fun e => by rw [e] at hj; cases hj
    have hl1 : atP P k + 1 < P.length := by
      rw [List.length_drop] at hj; omega
    have hk : k < hd0 P[atP P k + 1] := by
      have e : atP P k = (match P.findIdx? (fun p => decide (k < hd0 p)) with | some i => i | none => P.length) - 1 := rfl
      cases hf : P.findIdx? (fun p => decide (k < hd0 p)) with
      | none => rw [hf] at e; simp only at e; omega
      | some i =>
        rw [hf] at e
        simp only at e
        have hi := hf
        rw [List.findIdx?_eq_some_iff_getElem] at hi
        obtain ⟨h1, h2, h3⟩ := hi
        have h2' : k < hd0 P[i] := by simpa using h2
        by_cases h0 : i = 0
        · subst h0
          have h4 : hd0 P[0] ≤ hd0 P[atP P k + 1] := by
            have hz : atP P k = 0 := by omega
            obtain ⟨y, hy, hyh⟩ := head_mem (hI.ne _ (List.getElem_mem hl1))
            obtain ⟨z, hz', hzh⟩ := head_mem (hI.ne _ hmem)
            have e2 : hd0 P[0] = z.1 := by rw [hzh, List.getD_eq_getElem?_getD, List.getElem?_eq_getElem hlt]; simp [hz]
            have hy2 : y ∈ (P.drop (atP P k + 1)).flatten := List.mem_flatten.2 ⟨_, by rw [List.drop_eq_getElem_cons hl1]; exact List.mem_cons_self .., hy⟩
            have := hS3 z (List.mem_append_right _ hz') y hy2
            omega
          omega
        · have : i = atP P k + 1 := by omega
          subst this
          exact h2'
    have hx2 : hd0 P[atP P k + 1] ≤ x.1 := by
      rw [List.drop_eq_getElem_cons hl1, List.flatten_cons] at hx hS2
      obtain ⟨hs1, hs2, hs3⟩ := srt_append.1 hS2
      rcases List.mem_append.1 hx with hx | hx
      · exact head_le hs1 x hx
      · obtain ⟨y, hy, hyh⟩ := head_mem (hI.ne _ (List.getElem_mem hl1))
        have := hs3 y hy x hx
        omega
    omega

theorem AtP.has {P : List (List Pr)} {k : Int} (h : AtP P k) : hasP P k = true ↔ ∃ v, (k, v) ∈ P.flatten := by
  unfold hasP
  rw [isP_iff]
  constructor
  · rintro ⟨v, hv⟩
    exact ⟨v, List.mem_flatten.2 ⟨_, h.mem, List.mem_of_getElem? hv⟩⟩
  · rintro ⟨v, hv⟩
    rw [h.flat] at hv
    rcases List.mem_append.1 hv with hv | hv
    · rcases List.mem_append.1 hv with hv | hv
      · have := h.ahead _ hv; dsimp only at this; omega
      · cases hp : isP (P.getD (atP P k) []) k with
        | true => exact isP_iff.1 hp
        | false =>
          have := delS_not h.srt hp
          rw [← this] at hv
          simp [delS] at hv
    · have := h.behind _ hv; dsimp only at this; omega

/-! ### What is put, and taken out -/
theorem putP_eq {P : List (List Pr)} (hne : P ≠ []) (k v : Int) : putP P k v = if 8 < (insS (P.getD (atP P k) []) k v).length then P.take (atP P k) ++ [(insS (P.getD (atP P k) []) k v).take 4, (insS (P.getD (atP P k) []) k v).drop 4] ++ P.drop (atP P k + 1)
    else P.take (atP P k) ++ insS (P.getD (atP P k) []) k v :: P.drop (atP P k + 1) := by
  cases P with
  | nil => exact absurd rfl hne
  | cons p P => rfl

theorem putP_flat {P : List (List Pr)} (hI : Inv P) (k v : Int) : (putP P k v).flatten = insS P.flatten k v := by
  by_cases hne : P = []
  · subst hne; rfl
  · have h := atP_is hI hne k
    rw [h.flat, insS_mid h.ahead h.behind, putP_eq hne]
    split
    · simp only [List.flatten_append, List.flatten_cons, List.flatten_nil, List.append_nil, List.take_append_drop]
    · simp only [List.flatten_append, List.flatten_cons, List.append_assoc]

theorem putP_inv {P : List (List Pr)} (hI : Inv P) {k v : Int} (hk : 0 ≤ k ∧ k ≤ 999) : Inv (putP P k v) := by
  have hrng : ∀ x ∈ (putP P k v).flatten, 0 ≤ x.1 ∧ x.1 ≤ 999 := by
    intro x hx
    rw [putP_flat hI] at hx
    rcases mem_insS hx with rfl | hx
    · exact hk
    · exact hI.rng x hx
  have hsrt : Srt (putP P k v).flatten := by rw [putP_flat hI]; exact srt_insS hI.sorted
  by_cases hne : P = []
  · subst hne
    exact ⟨by intro p hp; simp [putP] at hp; subst hp; simp, hsrt, hrng, by intro p hp; simp [putP] at hp; subst hp; simp⟩
  · have h := atP_is hI hne k
    have hl : (insS (P.getD (atP P k) []) k v).length ≤ 9 := by
      have := hI.few _ h.mem
      rw [insS_len h.srt]; split <;> omega
    have hmem : ∀ p ∈ putP P k v, p ∈ P ∨ (p ≠ [] ∧ p.length ≤ 8) := by
      intro p hp
      rw [putP_eq hne] at hp
      split at hp
      · rename_i h8
        simp only [List.mem_append, List.mem_cons, List.not_mem_nil, or_false] at hp
        rcases hp with (hp | hp | hp) | hp
        · exact .inl (List.mem_of_mem_take hp)
        · subst hp
          exact .inr ⟨fun e => by have := congrArg List.length e; rw [List.length_take, List.length_nil] at this; omega, by rw [List.length_take]; omega⟩
        · subst hp
          exact .inr ⟨fun e => by have := congrArg List.length e; rw [List.length_drop, List.length_nil] at this; omega, by rw [List.length_drop]; omega⟩
        · exact .inl (List.mem_of_mem_drop hp)
      · rename_i h8
        simp only [List.mem_append, List.mem_cons] at hp
        rcases hp with hp | hp | hp
        · exact .inl (List.mem_of_mem_take hp)
        · subst hp; exact .inr ⟨insS_ne _ _ _, by omega⟩
        · exact .inl (List.mem_of_mem_drop hp)
    exact ⟨fun p hp => (hmem p hp).elim (hI.ne p) (·.1), hsrt, hrng, fun p hp => (hmem p hp).elim (hI.few p) (·.2)⟩

theorem canJ_spec {P : List (List Pr)} {a : Nat} (h : canJ P a = true) : a + 1 < P.length ∧ (P.getD a []).length + (P.getD (a + 1) []).length ≤ 4 := by
  unfold canJ at h
  rw [Bool.and_eq_true, decide_eq_true_eq, decide_eq_true_eq] at h
  exact h

theorem joinP_split {P : List (List Pr)} {a : Nat} (h : a + 1 < P.length) : P = P.take a ++ P.getD a [] :: P.getD (a + 1) [] :: P.drop (a + 2) := by
  have h1 := flatten_split (P := P) (i := a) (by omega)
  have h2 : P.drop (a + 1) = P.getD (a + 1) [] :: P.drop (a + 2) := by
    rw [List.drop_eq_getElem_cons h, List.getD_eq_getElem?_getD, List.getElem?_eq_getElem h]; rfl
  rw [h2] at h1
  exact h1

theorem joinP_flat {P : List (List Pr)} {a : Nat} (h : a + 1 < P.length) : (joinP P a).flatten = P.flatten := by
  conv => rhs; rw [joinP_split h]
  simp [joinP]

theorem joinP_mem {P : List (List Pr)} {a : Nat} {p : List Pr} (hp : p ∈ joinP P a) : p ∈ P ∨ p = P.getD a [] ++ P.getD (a + 1) [] := by
  unfold joinP at hp
  simp only [List.mem_append, List.mem_cons] at hp
  rcases hp with hp | hp | hp
  · exact .inl (List.mem_of_mem_take hp)
  · exact .inr hp
  · exact .inl (List.mem_of_mem_drop hp)

theorem joinP_inv {P : List (List Pr)} {a : Nat} (hI : Inv P) (h : canJ P a = true) : Inv (joinP P a) := by
  obtain ⟨h1, h2⟩ := canJ_spec h
  have hf := joinP_flat h1
  have hm : P.getD a [] ∈ P := by
    rw [List.getD_eq_getElem?_getD, List.getElem?_eq_getElem (by omega)]; exact List.getElem_mem _
  refine ⟨fun p hp => ?_, by rw [hf]; exact hI.sorted, by rw [hf]; exact hI.rng, fun p hp => ?_⟩
  · rcases joinP_mem hp with hp | rfl
    · exact hI.ne p hp
    · intro e; exact hI.ne _ hm (List.append_eq_nil_iff.1 e).1
  · rcases joinP_mem hp with hp | rfl
    · exact hI.few p hp
    · rw [List.length_append]; omega

/-- The pages behind a deletion, ahead of a join. -/
def cutP (P : List (List Pr)) (k : Int) : List (List Pr) := P.take (atP P k) ++ delS (P.getD (atP P k) []) k :: P.drop (atP P k + 1)

theorem cutP_flat {P : List (List Pr)} {k : Int} (h : AtP P k) : (cutP P k).flatten = delS P.flatten k := by
  rw [h.flat, delS_mid h.ahead h.behind]
  simp [cutP]

theorem cutP_inv {P : List (List Pr)} {k : Int} (hI : Inv P) (h : AtP P k) (hq : delS (P.getD (atP P k) []) k ≠ []) : Inv (cutP P k) := by
  have hf := cutP_flat h
  have hmem : ∀ p ∈ cutP P k, p ∈ P ∨ p = delS (P.getD (atP P k) []) k := by
    intro p hp
    unfold cutP at hp
    simp only [List.mem_append, List.mem_cons] at hp
    rcases hp with hp | hp | hp
    · exact .inl (List.mem_of_mem_take hp)
    · exact .inr hp
    · exact .inl (List.mem_of_mem_drop hp)
  refine ⟨fun p hp => ?_, by rw [hf]; exact srt_delS hI.sorted, fun x hx => ?_, fun p hp => ?_⟩
  · rcases hmem p hp with hp | rfl
    · exact hI.ne p hp
    · exact hq
  · rw [hf] at hx
    exact hI.rng x (List.mem_filter.1 hx).1
  · rcases hmem p hp with hp | rfl
    · exact hI.few p hp
    · exact Nat.le_trans (List.length_filter_le _ _) (hI.few _ h.mem)

theorem delP_is {P : List (List Pr)} {k : Int} (hI : Inv P) (h : AtP P k) : (delP P k).flatten = delS P.flatten k ∧ Inv (delP P k) := by
  unfold delP
  dsimp only
  by_cases hq : delS (P.getD (atP P k) []) k = []
  · rw [if_pos hq]
    have hf : (P.take (atP P k) ++ P.drop (atP P k + 1)).flatten = delS P.flatten k := by
      rw [h.flat, delS_mid h.ahead h.behind, hq]; simp
    have hmem : ∀ p ∈ P.take (atP P k) ++ P.drop (atP P k + 1), p ∈ P := by
      intro p hp
      rcases List.mem_append.1 hp with hp | hp
      · exact List.mem_of_mem_take hp
      · exact List.mem_of_mem_drop hp
    refine ⟨hf, fun p hp => hI.ne p (hmem p hp), by rw [hf]; exact srt_delS hI.sorted, fun x hx => ?_, fun p hp => hI.few p (hmem p hp)⟩
    rw [hf] at hx
    exact hI.rng x (List.mem_filter.1 hx).1
  · rw [if_neg hq]
    have hc := cutP_inv hI h hq
    have hf := cutP_flat h
    show (List.flatten (if canJ (cutP P k) (atP P k) = true then joinP (cutP P k) (atP P k) else if 0 < atP P k ∧ canJ (cutP P k) (atP P k - 1) = true then joinP (cutP P k) (atP P k - 1) else cutP P k)) = _ ∧ Inv (if canJ (cutP P k) (atP P k) = true then joinP (cutP P k) (atP P k) else if 0 < atP P k ∧ canJ (cutP P k) (atP P k - 1) = true then joinP (cutP P k) (atP P k - 1) else cutP P k)
    by_cases h1 : canJ (cutP P k) (atP P k) = true
    · rw [if_pos h1]
      exact ⟨by rw [joinP_flat (canJ_spec h1).1, hf], joinP_inv hc h1⟩
    · rw [if_neg h1]
      by_cases h2 : 0 < atP P k ∧ canJ (cutP P k) (atP P k - 1) = true
      · rw [if_pos h2]
        exact ⟨by rw [joinP_flat (canJ_spec h2.2).1, hf], joinP_inv hc h2.2⟩
      · rw [if_neg h2]
        exact ⟨hf, hc⟩

/-! ### How many there are -/
theorem srt_len {l : List Pr} {lo hi : Int} (hs : Srt l) (h : ∀ x ∈ l, lo ≤ x.1 ∧ x.1 ≤ hi) : (l.length : Int) ≤ hi - lo + 1 ∨ l = [] := by
  induction l generalizing lo with
  | nil => exact .inr rfl
  | cons x l ih =>
    obtain ⟨h1, h2⟩ := srt_cons.1 hs
    have hx := h x (by simp)
    refine .inl ?_
    rcases ih (lo := x.1 + 1) h2 (fun y hy => ⟨by have := h1 y hy; omega, (h y (by simp [hy])).2⟩) with h3 | h3
    · rw [List.length_cons]; omega
    · subst h3; simp; omega

theorem Inv.flen {P : List (List Pr)} (h : Inv P) : P.flatten.length ≤ 1000 := by
  rcases srt_len h.sorted (lo := 0) (hi := 999) h.rng with h1 | h1
  · omega
  · rw [h1]; simp

theorem flatten_ge : ∀ {P : List (List Pr)}, (∀ p ∈ P, p ≠ []) → P.length ≤ P.flatten.length
  | [], _ => by simp
  | p :: P, h => by
    have h1 := flatten_ge (P := P) fun q hq => h q (by simp [hq])
    have h2 : 0 < p.length := List.length_pos_iff.2 (h p (by simp))
    rw [List.flatten_cons, List.length_append, List.length_cons]; omega
theorem Inv.plen {P : List (List Pr)} (h : Inv P) : P.length ≤ 1000 := Nat.le_trans (flatten_ge h.ne) h.flen
theorem Inv.nil : Inv [] := ⟨by simp, by simp, by simp, by simp⟩
end Go.Proofs.Ytopecljhehcldaa.Gx
