/- Package waits: who waits for whom: For, Waiting, Chain. -/
import Derived.Test.YtopecljhehcldaaWaitB
import Derived.Test.YtopecljhehcldaaGxN
namespace Go.Proofs.Ytopecljhehcldaa.Gx
open Go
set_option linter.unusedSimpArgs false
set_option linter.unusedVariables false

abbrev WE := Sl × List Int
def encW (x : WE) : Value := slV x.1
/-- Waits, as memory has them. -/
structure Wt (w : World) (b : Nat) (p : Option Nat) (f : List (Int × WE)) : Prop where
  box : ∃ T, w.heap[b]? = some (.cells #[.map p] T (0, 0))
  map : MpO encW w p f
  rd : ∀ e ∈ f, Rd w e.2.1 1 (e.2.2.map iv) ∧ e.2.2 ≠ [] ∧ e.2.2.length ≤ 1000 ∧ ∀ i ∈ blk e.2.1, i < w.heap.size ∧ i ≠ b ∧ p ≠ some i
  few : f.length ≤ 1000
def inWt (b : Nat) (p : Option Nat) (f : List (Int × WE)) (i : Nat) : Prop := i = b ∨ p = some i ∨ ∃ e ∈ f, i ∈ blk e.2.1
def wl (f : List (Int × WE)) (k : Int) : List Int := match getM f k with
  | some x => x.2
  | none => []
/-- One waits for another one. -/
def En (f : List (Int × WE)) (a c : Int) : Prop := c ∈ wl f a

section
variable {w : World} {b : Nat} {p : Option Nat} {f : List (Int × WE)}
theorem Wt.ch {F : Nat → Prop} {w' : World} (h : Wt w b p f) (hc : Ch F w w') (hF : ∀ i, inWt b p f i → ¬ F i) : Wt w' b p f := by
  obtain ⟨T, hT⟩ := h.box
  refine ⟨⟨T, hc.at hT (hF _ (.inl rfl))⟩, h.map.ch hc fun r e => hF r (.inr (.inl e)), fun e he => ?_, h.few⟩
  obtain ⟨h1, h2, h3, h4⟩ := h.rd e he
  exact ⟨h1.ch hc fun i hi => hF i (.inr (.inr ⟨e, he, hi⟩)), h2, h3, fun i hi => ⟨Nat.lt_of_lt_of_le (h4 i hi).1 hc.size, (h4 i hi).2⟩⟩
theorem Wt.ext {w' : World} (h : Wt w b p f) (hc : Ext w w') : Wt w' b p f := h.ch hc fun _ _ => id
theorem Wt.lt (h : Wt w b p f) {i : Nat} (hi : inWt b p f i) : i < w.heap.size := by
  rcases hi with rfl | hi | ⟨e, he, hi⟩
  · obtain ⟨T, hT⟩ := h.box; exact heap_lt hT
  · exact h.map.lt i hi
  · exact ((h.rd e he).2.2.2 i hi).1
theorem Wt.cell (h : Wt w b p f) : w.cell? ⟨b, 0 + 0, none⟩ = some (.map p) := by obtain ⟨T, hT⟩ := h.box; rw [cell_of hT]; rfl
theorem wl_few (h : Wt w b p f) (k : Int) : (wl f k).length ≤ 1000 := by
  unfold wl
  cases hg : getM f k with
  | none => simp
  | some x => exact (h.rd _ (getM_mem hg)).2.2.1

theorem c57 (h : Wt w b p f) (i : Int) : CW Try.prog 57 #[.pointer (some ⟨b, 0, none⟩), iv i] w fun v w' => ∃ t, v = slV t ∧ OwS w' t 1 ((wl f i).map iv) ∧ Ext w w' ∧ ∀ j ∈ blk t, w.heap.size ≤ j := by
  refine F57_ok _ i w _ (IfB.no rfl ⟨b, 0, rfl, p, h.cell, h.map.get ?_⟩)
  have hw := wl_few h i
  unfold wl at hw ⊢
  cases hg : getM f i with
  | none =>
    refine ⟨⟨none, 0, 0⟩, rfl, (c90 (xs := []) (t := ⟨none, 0, 0⟩) ⟨rfl, rfl⟩ (by simp)).use ?_⟩
    rintro _ w' ⟨t, rfl, h1, h2, h3⟩
    exact ⟨t, rfl, t, rfl, h1, h2, h3⟩
  | some x =>
    rw [hg] at hw
    refine ⟨x.1, rfl, (c90 (h.rd _ (getM_mem hg)).1 (by dsimp only at hw ⊢; omega)).use ?_⟩
    rintro _ w' ⟨t, rfl, h1, h2, h3⟩
    exact ⟨t, rfl, t, rfl, h1, h2, h3⟩

theorem F114_eq (l b : Nat) (W : World) (R : Value → World → Prop) : F114 l b W R = KeysF Try.prog l b W R := rfl
theorem F122_eq (l b : Nat) (W : World) (R : Value → World → Prop) : F122 l b W R = KeysF Try.prog l b W R := rfl
theorem it114 {b1 : Nat} {mo : MO} {ks : List Int} (hI : KeysI b1 mo w) (hks : KeysE mo ks) (hl : ks.length ≤ 1000000) : IntIt 114 #[.pointer (some ⟨b1, 0, none⟩)] w fun xs => xs.Perm ks :=
  keysIt en114 (fun l W R h => F114_ok l b1 W R (by rw [F114_eq]; exact h)) hI hks hl
theorem it122 {b1 : Nat} {mo : MO} {ks : List Int} (hI : KeysI b1 mo w) (hks : KeysE mo ks) (hl : ks.length ≤ 1000000) : IntIt 122 #[.pointer (some ⟨b1, 0, none⟩)] w fun xs => xs.Perm ks :=
  keysIt en122 (fun l W R h => F122_ok l b1 W R (by rw [F122_eq]; exact h)) hI hks hl

theorem c56 (h : Wt w b p f) : CW Try.prog 56 #[.pointer (some ⟨b, 0, none⟩)] w fun v w' => ∃ t, ∃ xs : List Int, v = slV t ∧ xs.Perm (f.map (·.1)) ∧ xs.Pairwise (· ≤ ·) ∧ OwS w' t 1 (xs.map iv) ∧ Ext w w' ∧ ∀ j ∈ blk t, w.heap.size ≤ j := by
  have hf := h.few
  obtain ⟨mo, hm, hks, hmo⟩ := h.map.keys
  refine F56_ok _ w _ (IfB.no rfl ⟨b, 0, rfl, p, h.cell, CW.use (F89_ok p w (fun v w' => ∃ b1 T, v = .func (.func 114) #[] #[.pointer (some ⟨b1, 0, none⟩)] ∧ IsAlloc w (.cells #[.map p] T (0, 0)) b1 w') fun b1 w' a => ⟨b1, _, rfl, a⟩) ?_⟩)
  rintro _ w5 ⟨b1, T, rfl, a5⟩
  have e5 : Ext w w5 := a5.ch _
  have z5 := a5.size
  have hKI : KeysI b1 mo w5 := ⟨⟨T, by rw [hm]; exact a5.new⟩, by
    match mo, hmo with
    | none, _ => trivial
    | some (r, es, ck), hmo => exact e5.at (hmo r es ck rfl)⟩
  refine ⟨(114, _), rfl, (sorted_of (it114 hKI hks (by rw [List.length_map]; omega))).use ?_⟩
  rintro _ w8 ⟨t, xs, ys, rfl, hp, hp2, _, hs, ho, e8, hb⟩
  exact ⟨t, rfl, t, xs, rfl, hp2.trans hp, hs, ho, e5.trans e8, fun j hj => by have := hb j hj; omega⟩

/-- All that anybody waits for. -/
def allW (f : List (Int × WE)) : List Int := f.flatMap fun e => e.2.2
theorem allW_mem {a c : Int} (h : En f a c) : c ∈ allW f := by
  unfold En wl at h
  cases hg : getM f a with
  | none => rw [hg] at h; cases h
  | some x => rw [hg] at h; exact List.mem_flatMap.2 ⟨_, getM_mem hg, h⟩
theorem allW_len : ∀ {f : List (Int × WE)}, (∀ e ∈ f, e.2.2.length ≤ 1000) → (allW f).length ≤ f.length * 1000
  | [], _ => by simp [allW]
  | e :: f, h => by
    have ih := allW_len (f := f) fun e he => h e (by simp [he])
    have := h e (by simp)
    unfold allW at ih ⊢
    rw [List.flatMap_cons, List.length_append, List.length_cons, Nat.add_mul]
    omega
end

theorem nodup_le {α : Type} [DecidableEq α] : ∀ {a b : List α}, a.Nodup → (∀ x ∈ a, x ∈ b) → a.length ≤ b.length
  | [], _, _, _ => Nat.zero_le _
  | x :: a, b, hn, h => by
    obtain ⟨h1, h2⟩ := List.nodup_cons.1 hn
    have hx := h x (by simp)
    have := nodup_le (a := a) (b := b.erase x) h2 fun y hy => by
      have hne : y ≠ x := fun e => h1 (by rw [← e]; exact hy)
      exact (List.mem_erase_of_ne hne).2 (h y (by simp [hy]))
    rw [List.length_erase_of_mem hx] at this
    have := List.length_pos_of_mem hx
    simp only [List.length_cons]; omega

theorem c88 {w : World} {b : Nat} {p : Option Nat} {f : List (Int × WE)} (h : Wt w b p f) (i : Int) : CW Try.prog 88 #[.pointer (some ⟨b, 0, none⟩), iv i] w fun v w' => ∃ t, ∃ xs : List Int, v = slV t ∧ xs.Pairwise (· < ·) ∧ (∀ k, k ∈ xs ↔ TC (En f) i k) ∧ xs.length ≤ 1000000 ∧ OwS w' t 1 (xs.map iv) ∧ Ext w w' ∧ ∀ j ∈ blk t, w.heap.size ≤ j := by
  refine F88_ok _ i w _ ?_
  intro b1 w2 a2
  have e2 : Ext w w2 := a2.ch _
  have p2 := a2.here
  have z2 := a2.size
  refine (c57 (h.ext e2) i).use ?_
  rintro _ w4 ⟨s5, rfl, ho5, e4, hb5⟩
  have hU := allW_len (f := f) fun e he => (h.rd e he).2.2.1
  have hUf := h.few
  have z4 := e4.size
  have hw0 := wl_few h i
  refine ⟨s5, rfl, fun n s W => ∃ (F : List (Int × Bool)) (T : List Int), Mp Value.bool W b1 F ∧ (∀ e ∈ F, e.2 = true) ∧ OwQ W s (T.map iv) ∧ (∀ j ∈ blk s, w2.heap.size ≤ j) ∧ Ch (fun j => w.heap.size ≤ j) w W ∧ w2.heap.size ≤ W.heap.size ∧
      (∀ k, (getM F k ≠ none ∨ k ∈ T) → TC (En f) i k) ∧ (∀ k, En f i k → getM F k ≠ none ∨ k ∈ T) ∧ (∀ k c, getM F k ≠ none → En f k c → getM F c ≠ none ∨ c ∈ T) ∧ n = ((allW f).length - F.length) * 1001 + T.length ∧ T.length ≤ 1000 * (F.length + 1), ?_, ?_⟩
  · refine ⟨_, [], wl f i, (Mp.new a2).ext e4, by simp, ho5.q, hb5, (e2.trans e4).mono fun _ _ h => h.elim, z4, ?_, fun k hk => .inr hk, fun k c hk => absurd rfl hk, rfl, by simp; omega⟩
    rintro k (hk | hk)
    · exact absurd rfl hk
    · exact .one hk
  · rintro n s W g ⟨F, T, hM, hT, hQ, hbs, hC, hsz, k1, k2, k3, hn, hTl⟩
    have x0 : Ext w W := hC.mono fun j hj h => by omega
    have hW := h.ext x0
    have hnod : (F.map (·.1)).Nodup := MpO.nodup (p := some b1) hM
    have hFU : ∀ k ∈ F.map (·.1), k ∈ allW f := fun k hk => by
      have := k1 k (.inl (getM_key.1 hk))
      obtain ⟨c, hc, _⟩ := this.last
      exact allW_mem hc
    have hFl : F.length ≤ (allW f).length := by have := nodup_le hnod hFU; rwa [List.length_map] at this
    have hsn : s.n = T.length := by have := hQ.len; rwa [List.length_map] at this
    have hb1W := hM.lt
    unfold F88j1
    refine IfB.dec (fun hlt => ?_) fun hge => ?_
    · cases T with
      | nil => simp at hsn; omega
      | cons k T =>
        obtain ⟨a, o, ha, hc⟩ := hQ.at (i := 0) (v := iv k) rfl
        obtain ⟨hQt, hbt⟩ := OwQ.tail hQ
        rw [List.length_cons] at hsn hn hTl
        refine ⟨a, o, ha, ⟨by omega, by omega⟩, k, hc, ⟨by omega, by omega⟩, hM.get ?_⟩
        cases hg : getM F k with
        | some t =>
          have ht := hT _ (getM_mem hg)
          have ht : t = true := ht
          subst ht
          refine ⟨true, rfl, IfB.no rfl ⟨rfl, n - 1, by omega, F, T, hM, hT, hQt, fun j hj => hbs j (hbt j hj), hC, hsz, fun k' hk' => k1 k' (hk'.imp id fun h => List.mem_cons_of_mem _ h), fun k' hk' => ?_, fun k' c hk' hc' => ?_, by omega, by omega⟩⟩
          · rcases k2 k' hk' with h | h
            · exact .inl h
            · rcases List.mem_cons.1 h with rfl | h
              · exact .inl (by rw [hg]; simp)
              · exact .inr h
          · rcases k3 k' c hk' hc' with h | h
            · exact .inl h
            · rcases List.mem_cons.1 h with rfl | h
              · exact .inl (by rw [hg]; simp)
              · exact .inr h
        | none =>
          have hTC : TC (En f) i k := k1 k (.inr (by simp))
          have hkU : k ∈ allW f := by
            obtain ⟨c, hc, _⟩ := hTC.last
            exact allW_mem hc
          refine ⟨false, rfl, IfB.yes rfl (Mp.set (enc := Value.bool) (v := true) hM fun F' w19 hF' hM' hc19 => ?_)⟩
          have hC19 := hC.then hc19 fun j _ e => (by omega : w.heap.size ≤ j)
          have x19 : Ext w w19 := hC19.mono fun j hj h => by omega
          refine (c57 (h.ext x19) k).use ?_
          rintro _ w21 ⟨s22, rfl, ho22, e21, hb22⟩
          have hn22 := owsI ho22
          have hwk := wl_few h k
          have z19 := hc19.size
          have hnod' : (F'.map (·.1)).Nodup := MpO.nodup (p := some b1) hM'
          have hF'mem : ∀ e ∈ F', e = (k, true) ∨ e ∈ F := fun e he => by
            have h1 := getM_of hnod' (k := e.1) (v := e.2) he
            rw [hF'] at h1
            by_cases hk : k = e.1
            · rw [if_pos hk] at h1
              left
              have := Option.some.inj h1
              rw [Prod.ext_iff]; exact ⟨hk.symm, this.symm⟩
            · rw [if_neg hk] at h1
              exact .inr (getM_mem h1)
          have hkF : k ∉ F.map (·.1) := fun hk => (getM_key.1 hk) hg
          have hF'len : F'.length = F.length + 1 := by
            have h1 : F'.length ≤ ((k :: F.map (·.1))).length := by
              have := nodup_le (b := k :: F.map (·.1)) hnod' fun x hx => by
                obtain ⟨e, he, rfl⟩ := List.mem_map.1 hx
                rcases hF'mem e he with rfl | he
                · simp
                · exact List.mem_cons_of_mem _ (List.mem_map_of_mem he)
              rwa [List.length_map] at this
            have h2 : ((k :: F.map (·.1))).length ≤ F'.length := by
              have := nodup_le (a := k :: F.map (·.1)) (b := F'.map (·.1)) (List.nodup_cons.2 ⟨hkF, hnod⟩) fun x hx => by
                rw [getM_key, hF']
                rcases List.mem_cons.1 hx with rfl | hx
                · rw [if_pos rfl]; simp
                · by_cases hk : k = x
                  · rw [if_pos hk]; simp
                  · rw [if_neg hk]; exact getM_key.1 hx
              rwa [List.length_map] at this
            simp only [List.length_cons, List.length_map] at h1 h2
            omega
          have hF'U : F'.length ≤ (allW f).length := by
            rw [hF'len]
            have := nodup_le (a := k :: F.map (·.1)) (b := allW f) (List.nodup_cons.2 ⟨hkF, hnod⟩) fun x hx => by
              rcases List.mem_cons.1 hx with rfl | hx
              · exact hkU
              · exact hFU x hx
            simpa using this
          have hQ21 : OwQ w21 ⟨slAddr s.p s.c 1 1, s.n - 1, s.c - 1⟩ (T.map iv) := by
            refine (hQt.ch hc19 fun j hj e => ?_).ext e21
            have := hbs j (hbt j hj); omega
          refine ⟨s22, rfl, (wl f k).map iv, ho22.readAll, ?_⟩
          refine hQ21.append (cnt := s22.n) rfl rfl (by rw [List.length_map]; exact hn22.symm) (fun v hv => by obtain ⟨x, _, rfl⟩ := List.mem_map.1 hv; rfl) ⟨by dsimp only; omega, ?_⟩ fun s' w25 hQ' hc25 hb25 => ?_
          · show (2 * (s.n - 1 + s22.n) + 1024) * 8 ≤ _
            omega
          · have z21 := e21.size
            have hC25 : Ch (fun j => w.heap.size ≤ j) w w25 := (hC19.then e21 fun _ _ h => h.elim).then hc25 fun j _ hj => by have := hbs j (hbt j hj); omega
            have z25 := hc25.size
            refine ⟨rfl, ((allW f).length - F'.length) * 1001 + (T.length + (wl f k).length), ?_, F', T ++ wl f k, (hM'.ext e21).ch hc25 (fun hj => by have := hbs _ (hbt _ hj); omega), fun e he => ?_, by rw [List.map_append]; exact hQ', fun j hj => ?_, hC25, by omega, ?_, ?_, ?_, by rw [List.length_append], by rw [List.length_append, hF'len]; omega⟩
            · rw [hn, hF'len]
              have : (allW f).length - F.length = ((allW f).length - (F.length + 1)) + 1 := by omega
              rw [this, Nat.add_mul]
              omega
            · rcases hF'mem e he with rfl | he
              · rfl
              · exact hT e he
            · rcases hb25 j hj with hj | hj
              · exact hbs j (hbt j hj)
              · omega
            · rintro k' (hk' | hk')
              · rw [hF'] at hk'
                by_cases hkk : k = k'
                · subst hkk; exact hTC
                · rw [if_neg hkk] at hk'; exact k1 k' (.inl hk')
              · rcases List.mem_append.1 hk' with hk' | hk'
                · exact k1 k' (.inr (List.mem_cons_of_mem _ hk'))
                · exact .more hTC hk'
            · have up : ∀ {k'}, (getM F k' ≠ none ∨ k' ∈ k :: T) → getM F' k' ≠ none ∨ k' ∈ T ++ wl f k := fun {k'} h => by
                rw [hF']
                by_cases hkk : k = k'
                · rw [if_pos hkk]; exact .inl (by simp)
                · rw [if_neg hkk]
                  rcases h with h | h
                  · exact .inl h
                  · rcases List.mem_cons.1 h with rfl | h
                    · exact absurd rfl hkk
                    · exact .inr (List.mem_append_left _ h)
              exact fun k' hk' => up (k2 k' hk')
            · intro k' c hk' hc'
              by_cases hkk : k = k'
              · subst hkk; exact .inr (List.mem_append_right _ hc')
              · rw [hF', if_neg hkk] at hk'
                rw [hF']
                by_cases hkc : k = c
                · rw [if_pos hkc]; exact .inl (by simp)
                · rw [if_neg hkc]
                  rcases k3 k' c hk' hc' with h | h
                  · exact .inl h
                  · rcases List.mem_cons.1 h with rfl | h
                    · exact absurd rfl hkc
                    · exact .inr (List.mem_append_left _ h)
    · have hT0 : T = [] := List.eq_nil_of_length_eq_zero (by omega)
      subst hT0
      obtain ⟨mo, hm, hks, hmo⟩ := MpO.keys (p := some b1) hM
      refine CW.use (F113_ok (some b1) W (fun v w' => ∃ b2 T, v = .func (.func 122) #[] #[.pointer (some ⟨b2, 0, none⟩)] ∧ IsAlloc W (.cells #[.map (some b1)] T (0, 0)) b2 w') fun b2 w' a => ⟨b2, _, rfl, a⟩) ?_
      rintro _ w29 ⟨b2, T, rfl, a29⟩
      have e29 : Ext W w29 := a29.ch _
      have z29 := a29.size
      have hKI : KeysI b2 mo w29 := ⟨⟨T, by rw [hm]; exact a29.new⟩, by
        match mo, hmo with
        | none, _ => trivial
        | some (r, es, ck), hmo => exact e29.at (hmo r es ck rfl)⟩
      refine ⟨(122, _), rfl, (sorted_of (it122 hKI hks (by rw [List.length_map]; omega))).use ?_⟩
      rintro _ w32 ⟨t, xs, ys, rfl, hp, hp2, hyl, hs, ho, e32, hb⟩
      have hpp := hp2.trans hp
      have hxn : xs.Nodup := hpp.nodup_iff.2 hnod
      have zW := hC.size
      refine ⟨t, rfl, t, xs, rfl, ?_, fun k => ?_, by rw [hp2.length_eq]; exact hyl, ho, ?_, fun j hj => by have := hb j hj; omega⟩
      · exact hs.imp₂ (fun a b h1 h2 => by omega) hxn
      · rw [hpp.mem_iff, getM_key]
        constructor
        · exact fun hk => k1 k (.inl hk)
        · intro hk
          have clos : ∀ k, TC (En f) i k → getM F k ≠ none := fun k hk => by
            induction hk with
            | one e => exact (k2 _ e).resolve_right (by simp)
            | more _ e ih => exact (k3 _ _ ih e).resolve_right (by simp)
          exact clos k hk
      · exact (x0.trans e29).trans e32
end Go.Proofs.Ytopecljhehcldaa.Gx
