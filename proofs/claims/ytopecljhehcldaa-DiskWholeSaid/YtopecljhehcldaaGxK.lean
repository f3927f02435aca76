/- The keys of a map, one by one. -/
import Derived.Test.YtopecljhehcldaaGxM
namespace Go.Proofs.Ytopecljhehcldaa.Gx
open Go
set_option linter.unusedSimpArgs false
set_option linter.unusedVariables false

/-- What maps.Keys' function asks. -/
def KeysF (P : Program) (t0 t1 : Nat) (w : World) (R : Value → World → Prop) : Prop :=
  ∃ p1 : Option Nat, w.cell? ⟨t1, 0, none⟩ = some (.map p1) ∧
  MapItP w (.map p1) fun b2 w3 => ∃ y4 : Nat → Unit → World → Prop, (∃ b5, y4 b5 () w3) ∧ ∀ (b6 : Nat) (y7 : Unit) (w8 : World) (y9 : Nat → Value), y4 b6 y7 w8 →
    NextP w8 b2 (fun w11 => R (.tuple #[]) w11) fun v12 v13 w14 => EntryP w14 b2 fun v15 v16 =>
      YW P t0 #[v15] w14 fun t17 w18 => IfB (!t17) (R (.tuple #[]) w18) (([] : List Nat) = [] ∧ ∃ b19, b19 < b6 ∧ y4 b19 () w18)

abbrev iv0 (n : Int) : Value := .int .i64 n
def ivA (n : Int) : Array Value := #[.int .i64 n]
abbrev MO := Option (Nat × Array MapEntry × Nat)
/-- A block holds a map (or none). -/
def KeysI (b1 : Nat) (p : MO) (W : World) : Prop :=
  (∃ T, W.heap[b1]? = some (.cells #[.map (p.map (·.1))] T (0, 0))) ∧ match p with
    | none => True
    | some (r, es, ck) => W.heap[r]? = some (.map es ck)
/-- The keys of a map. -/
def KeysE (p : MO) (ks : List Int) : Prop := match p with
    | none => ks = []
    | some (_, es, ck) => es.toList.map (·.key) = ks.map iv0 ∧ ks.Nodup ∧ (∀ e ∈ es.toList, e.born < ck) ∧ (es.toList.map (·.born)).Nodup

theorem find_born {l : List MapEntry} (hn : (l.map (·.born)).Nodup) {x : MapEntry} (hx : x ∈ l) : l.find? (fun e => e.born == x.born) = some x := by
  induction l with
  | nil => cases hx
  | cons e l ih =>
    rw [List.map_cons, List.nodup_cons] at hn
    rcases List.mem_cons.1 hx with rfl | hx
    · rw [List.find?_cons_of_pos (by simp)]
    · have : e.born ≠ x.born := fun h => hn.1 (h ▸ List.mem_map_of_mem hx)
      rw [List.find?_cons_of_neg (by simpa using this)]
      exact ih hn.2 hx
theorem key_inj {l : List MapEntry} {ks : List Int} (hk : l.map (·.key) = ks.map iv0) (hn : ks.Nodup) {x y : MapEntry} (hx : x ∈ l) (hy : y ∈ l) (h : x.key = y.key) : x = y := by
  obtain ⟨i, hi, rfl⟩ := List.mem_iff_getElem.1 hx
  obtain ⟨j, hj, rfl⟩ := List.mem_iff_getElem.1 hy
  have hl := congrArg List.length hk
  simp only [List.length_map] at hl
  have e1 := congrArg (·[i]?) hk
  have e2 := congrArg (·[j]?) hk
  simp only [List.getElem?_map, List.getElem?_eq_getElem hi, List.getElem?_eq_getElem hj, List.getElem?_eq_getElem (show i < ks.length by omega), List.getElem?_eq_getElem (show j < ks.length by omega), Option.map_some, Option.some.injEq] at e1 e2
  rw [e1, e2] at h
  have : ks[i]'(by omega) = ks[j]'(by omega) := by simpa [iv0] using h
  have hp := List.pairwise_iff_getElem.1 hn
  rcases Nat.lt_trichotomy i j with h | h | h
  · exact absurd this (hp i j (by omega) (by omega) h)
  · subst h; rfl
  · exact absurd this.symm (hp j i (by omega) (by omega) h)
theorem nodup_len : ∀ {a b : List Int}, a.Nodup → (∀ x ∈ a, x ∈ b) → a.length ≤ b.length
  | [], _, _, _ => Nat.zero_le _
  | x :: a, b, hn, h => by
    rw [List.nodup_cons] at hn
    have hx := h x List.mem_cons_self
    have ih := nodup_len (b := b.erase x) hn.2 fun y hy => (List.mem_erase_of_ne (fun (e : y = x) => hn.1 (e ▸ hy))).2 (h y (List.mem_cons_of_mem _ hy))
    rw [List.length_erase_of_mem hx] at ih
    have := List.length_pos_of_mem hx
    rw [List.length_cons]; omega

theorem keys_iter {P : Program} {g : FuncId} (hen : Entr P g) {b1 : Nat} (hF : ∀ l W R, KeysF P l b1 W R → CW P g #[.func (.yield l) #[] #[], .pointer (some ⟨b1, 0, none⟩)] W R) {p : MO} {ks : List Int} (hks : KeysE p ks) :
    Iter P g #[.pointer (some ⟨b1, 0, none⟩)] ivA false (fun pre x => x ∈ ks ∧ x ∉ pre) (fun xs => xs.Perm ks) (KeysI b1 p) := by
  refine ⟨hen, fun l J Jx W hJ hJx hInv hSz _ hstep h0 => ?_⟩
  obtain ⟨⟨T, hT⟩, hM⟩ := hInv _ _ h0
  refine hF l W _ ⟨p.map (·.1), by rw [cell_of hT]; rfl, ?_⟩
  match p, hks, hM, hInv with
  | none, hks, hM, hInv =>
    have hf : ks = [] := hks
    subst hf
    refine .inl ⟨rfl, fun b2 w3 h3 => ?_⟩
    refine ⟨fun _ _ W' => W' = w3, ⟨0, rfl⟩, ?_⟩
    rintro _ _ _ _ rfl
    exact .inl ⟨0, #[], 0, h3.new, .inl ⟨[], .refl _, hJ _ _ _ h0 (Stb.alloc h3 (Nat.le_refl _))⟩⟩
  | some (r, es, ck), ⟨hk, hn, hb, hbn⟩, hM, hInv =>
    refine .inr ⟨r, es, ck, rfl, hM, fun b2 w3 h3 => ?_⟩
    have hlk := congrArg List.length hk
    simp only [List.length_map] at hlk
    refine ⟨fun n _ W' => ∃ (se : List MapEntry) (pre : List Int), n = ks.length - pre.length ∧ W'.heap[b2]? = some (.mapIter (some r) ck (se.map (·.born)).toArray ck) ∧ pre.map iv0 = se.map (·.key) ∧ (∀ e ∈ se, e ∈ es.toList) ∧ pre.Nodup ∧ J pre W' ∧ W.heap.size ≤ W'.heap.size,
      ⟨_, [], [], rfl, h3.new, rfl, by simp, .nil, hJ _ _ _ h0 (Stb.alloc h3 (Nat.le_refl _)), by rw [h3.size]; omega⟩, ?_⟩
    rintro _ _ w8 _ ⟨se, pre, rfl, hit, hpk, hse, hpn, hj, hw8⟩
    obtain ⟨_, hM8⟩ := hInv _ _ hj
    have hM8 : w8.heap[r]? = some (.map es ck) := hM8
    have pk : ∀ {k : Int}, k ∈ pre → ∃ e ∈ se, e.key = iv0 k := fun {k} h => by
      have : iv0 k ∈ se.map (·.key) := by rw [← hpk]; exact List.mem_map_of_mem h
      obtain ⟨e, he, h⟩ := List.mem_map.1 this
      exact ⟨e, he, h⟩
    have sk : ∀ {e : MapEntry}, e ∈ es.toList → ∃ k ∈ ks, e.key = iv0 k := fun {e} h => by
      have : e.key ∈ ks.map iv0 := by rw [← hk]; exact List.mem_map_of_mem h
      obtain ⟨k, hk, h⟩ := List.mem_map.1 this
      exact ⟨k, hk, h.symm⟩
    have psub : ∀ k ∈ pre, k ∈ ks := fun k h => by
      obtain ⟨e, he, h⟩ := pk h
      obtain ⟨k', hk', h'⟩ := sk (hse e he)
      rw [h'] at h
      have : k' = k := by simpa [iv0] using h
      exact this ▸ hk'
    refine .inr ⟨r, ck, _, ck, es, ck, hit, hM8, ?_, fun hall d => ?_, fun x hx hns d w' hu => ?_⟩
    · by_cases he : es.isEmpty = true
      · exact .inr (.inl he)
      · have : 0 < es.size := by
          rcases Nat.eq_zero_or_pos es.size with h | h
          · exact absurd (by simp [Array.isEmpty, h]) he
          · exact h
        exact .inr (.inr ⟨es[0], Array.getElem_mem _, hb _ (by simp)⟩)
    · refine .inl ⟨pre, ?_, hJ _ _ _ hj (Stb.drawn _ _ d)⟩
      refine (List.perm_ext_iff_of_nodup hpn hn).2 fun k => ⟨psub k, fun h => ?_⟩
      have : iv0 k ∈ es.toList.map (·.key) := by rw [hk]; exact List.mem_map_of_mem h
      obtain ⟨e, he, hek⟩ := List.mem_map.1 this
      by_cases hc : (se.map (·.born)).toArray.contains e.born = false
      · have := hall e (by simpa using he) hc
        have := hb e he
        omega
      · have hc : e.born ∈ se.map (·.born) := by simpa using hc
        obtain ⟨e', he', hbb⟩ := List.mem_map.1 hc
        have h1 := find_born hbn he
        have h2 := find_born hbn (hse e' he')
        rw [hbb] at h2
        have : e = e' := Option.some.inj (h1.symm.trans h2)
        subst this
        have : iv0 k ∈ pre.map iv0 := by rw [hpk, ← hek]; exact List.mem_map_of_mem he'
        obtain ⟨k', hk', h⟩ := List.mem_map.1 this
        have : k' = k := by simpa [iv0] using h
        exact this ▸ hk'
    · have hx' : x ∈ es.toList := by simpa using hx
      obtain ⟨k, hkk, hxk⟩ := sk hx'
      have hit' : ({ w8 with drawn := d } : World).heap[b2]? = some (.mapIter (some r) ck (se.map (·.born)).toArray ck) := hit
      have hS : Stb W.heap.size w8 w' := (Stb.drawn _ w8 d).trans (Stb.upd hu hit' rfl (by have := h3.here; omega))
      have hj' := hJ _ _ _ hj hS
      obtain ⟨_, hM'⟩ := hInv _ _ hj'
      have hkp : k ∉ pre := fun h => by
        obtain ⟨e, he, hek⟩ := pk h
        have := key_inj hk hn (hse e he) hx' (hek.trans hxk.symm)
        subst this
        have : (se.map (·.born)).toArray.contains e.born = true := by simpa using ⟨e, he, rfl⟩
        rw [this] at hns; cases hns
      refine ⟨r, ck, _, ck, es, x, hu.new, hM', by simp, ?_, ?_⟩
      · rw [← Array.find?_toList]; exact find_born hbn hx'
      · rw [hxk]
        refine (hstep pre k w' hj' ⟨hkk, hkp⟩).mono fun t w18 ht => ?_
        cases t with
        | false => exact IfB.yes rfl (.inr ⟨_, ht⟩)
        | true =>
          have hlen : (pre ++ [k]).length ≤ ks.length := by
            have hnd : (pre ++ [k]).Nodup := by
              rw [List.nodup_append]
              exact ⟨hpn, by simp, fun a ha b hb => by rw [List.mem_singleton.1 hb]; exact fun e => hkp (e ▸ ha)⟩
            exact nodup_len hnd fun a ha => by
              rcases List.mem_append.1 ha with h | h
              · exact psub a h
              · rw [List.mem_singleton.1 h]; exact hkk
          rw [List.length_append, List.length_singleton] at hlen
          refine IfB.no rfl ⟨rfl, ks.length - (pre ++ [k]).length, by rw [List.length_append, List.length_singleton]; omega, se ++ [x], pre ++ [k], rfl, ?_, ?_, ?_, ?_, ht.1, ?_⟩
          · have := ht.2 b2 _ _ _ _ hu.new
            rw [this]; simp
          · rw [List.map_append, List.map_append, hpk]; simp [hxk]
          · intro e he
            rcases List.mem_append.1 he with h | h
            · exact hse e h
            · rw [List.mem_singleton.1 h]; exact hx'
          · rw [List.nodup_append]
            exact ⟨hpn, by simp, fun a ha b hb => by rw [List.mem_singleton.1 hb]; exact fun e => hkp (e ▸ ha)⟩
          · exact hSz _ _ ht.1
end Go.Proofs.Ytopecljhehcldaa.Gx
