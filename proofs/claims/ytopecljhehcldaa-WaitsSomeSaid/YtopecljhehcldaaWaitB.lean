/- Package slices, of ints: Compact, Clone, Index, Contains, IndexFunc, DeleteFunc; keys of maps; what an iterator says, sorted. -/
import Derived.Test.YtopecljhehcldaaGxJ
import Derived.Test.YtopecljhehcldaaGxH
namespace Go.Proofs.Ytopecljhehcldaa.Gx
open Go
set_option linter.unusedSimpArgs false
set_option linter.unusedVariables false

abbrev ivL (x : Int) : List Value := [iv x]
theorem ivL_len (x : Int) : (ivL x).length = 1 := rfl
theorem ivL_one (x : Int) : One (ivL x) := oneIv x
theorem ivL_flat (l : List Int) : l.flatMap ivL = l.map iv := flat_map1 iv l
theorem owsI {w : World} {t : Sl} {l : List Int} (h : OwS w t 1 (l.map iv)) : t.n = l.length := by have := h.len1; rw [List.length_map] at this; exact this
theorem rdI {w : World} {t : Sl} {l : List Int} (h : Rd w t 1 (l.map iv)) : t.n = l.length := by have := h.len1; rw [List.length_map] at this; exact this
theorem owsI_get {w : World} {t : Sl} {l : List Int} (h : OwS w t 1 (l.map iv)) {i : Nat} {x : Int} (hx : l[i]? = some x) : ∃ a, t.p = some ⟨a, 0, none⟩ ∧ w.cell? ⟨a, 0 + i, none⟩ = some (iv x) := by
  obtain ⟨a, ha, hc⟩ := h.elem1 (i := i) (v := iv x) (by rw [List.getElem?_map, hx]; rfl)
  exact ⟨a, ha, by rw [Nat.zero_add]; exact hc⟩
theorem rdI_get {w : World} {t : Sl} {l : List Int} (h : Rd w t 1 (l.map iv)) {i : Nat} {x : Int} (hx : l[i]? = some x) : ∃ a o, t.p = some ⟨a, o, none⟩ ∧ w.cell? ⟨a, o + i, none⟩ = some (iv x) :=
  h.elem1 (i := i) (v := iv x) (by rw [List.getElem?_map, hx]; rfl)
theorem setI {l : List Int} {i : Nat} {x : Int} (hi : i < l.length) : (l.map iv).take i ++ [iv x] ++ (l.map iv).drop (i + 1) = (l.set i x).map iv := by
  rw [List.map_set, List.set_eq_take_append_cons_drop, if_pos (by rw [List.length_map]; exact hi)]; simp

theorem c90 {w : World} {t : Sl} {xs : List Int} (h : Rd w t 1 (xs.map iv)) (hl : xs.length ≤ 1000000) : CW Try.prog 90 #[slV t] w fun v w' => ∃ t', v = slV t' ∧ OwS w' t' 1 (xs.map iv) ∧ Ext w w' ∧ ∀ i ∈ blk t', w.heap.size ≤ i := by
  have hn := rdI h
  refine F90_ok t w _ ?_
  have e : ∀ R, F90 t w R = CloneF tt3 3 1 t w R := fun _ => rfl
  rw [e]
  refine CloneF_of h rfl rfl (fun v hv => by obtain ⟨x, _, rfl⟩ := List.mem_map.1 hv; rfl) ⟨by omega, ?_⟩ (fun s' w' h1 h2 h3 h4 => ⟨s', rfl, h1, h3, h4⟩) fun hp => ?_
  · show (2 * t.n + 1024) * 8 ≤ _
    omega
  · have h2 := h.2
    rw [hp] at h2
    have : xs.map iv = [] := h2
    rw [hn, List.map_eq_nil_iff.1 this]; rfl

theorem c112 {w : World} {t : Sl} {xs : List Int} (h : Rd w t 1 (xs.map iv)) (hl : xs.length ≤ 1000000) (x : Int) : CW Try.prog 112 #[slV t, iv x] w fun v w' => v = iv (idxV (xs.findIdx? fun y => x == y)) ∧ w = w' := by
  have hn := rdI h
  refine F112_ok t x w _ ⟨fun k n W => ∃ i : Nat, n = (i : Int) ∧ k + i = xs.length ∧ W = w ∧ ∀ j < i, ∀ y, xs[j]? = some y → (x == y) = false, ⟨xs.length, 0, rfl, rfl, rfl, fun j hj => absurd hj (Nat.not_lt_zero _)⟩, ?_⟩
  rintro k _ W g ⟨i, rfl, hk, rfl, hlow⟩
  unfold F112j1
  refine IfB.dec (fun hlt => ?_) fun hge => ?_
  · have hi : i < xs.length := by omega
    have hx : xs[i]? = some xs[i] := List.getElem?_eq_getElem hi
    obtain ⟨a, o, ha, hc⟩ := rdI_get h hx
    refine ⟨a, o, ha, ⟨by omega, hlt⟩, xs[i], by rw [Int.toNat_natCast]; exact hc, IfB.intro (fun he => ⟨?_, rfl⟩) fun he => ⟨rfl, k - 1, by omega, i + 1, wp1 (by omega), by omega, rfl, fun j hj y hy => ?_⟩⟩
    · have : xs.findIdx? (fun y => x == y) = some i := by
        rw [List.findIdx?_eq_some_iff_getElem]
        exact ⟨hi, he, fun j hj => by have := hlow j hj _ (List.getElem?_eq_getElem (by omega)); rw [this]; simp⟩
      rw [this]; rfl
    · by_cases hji : j < i
      · exact hlow j hji y hy
      · have : j = i := by omega
        subst this; rw [hx] at hy; cases hy; exact he
  · have : xs.findIdx? (fun y => x == y) = none := by
      rw [List.findIdx?_eq_none_iff]
      intro y hy
      obtain ⟨j, hj, rfl⟩ := List.getElem_of_mem hy
      exact hlow j (by omega) _ (List.getElem?_eq_getElem hj)
    rw [this]; exact ⟨rfl, rfl⟩
theorem idx_contains (xs : List Int) (x : Int) : decide ((0 : Int) ≤ idxV (xs.findIdx? fun y => x == y)) = decide (x ∈ xs) := by
  refine decide_eq_decide.2 ?_
  cases h : xs.findIdx? (fun y => x == y) with
  | none =>
    rw [List.findIdx?_eq_none_iff] at h
    refine ⟨fun h0 => absurd h0 (by simp [idxV]), fun hm => ?_⟩
    have := h x hm
    simp at this
  | some i =>
    obtain ⟨hi, he, _⟩ := List.findIdx?_eq_some_iff_getElem.1 h
    refine ⟨fun _ => ?_, fun _ => by simp [idxV]⟩
    have : x = xs[i] := by simpa using he
    rw [this]; exact List.getElem_mem hi
theorem c87 {w : World} {t : Sl} {xs : List Int} (h : Rd w t 1 (xs.map iv)) (hl : xs.length ≤ 1000000) (x : Int) : CW Try.prog 87 #[slV t, iv x] w fun v w' => v = .bool (decide (x ∈ xs)) ∧ w = w' := by
  refine F87_ok t x w _ ((c112 h hl x).use ?_)
  rintro _ _ ⟨rfl, rfl⟩
  exact ⟨_, rfl, by rw [idx_contains], rfl⟩

theorem c115 {w : World} {t : Sl} {xs : List Int} {t1 : Nat × Array Value} {q : Int → Bool} (h : Rd w t 1 (xs.map iv)) (hl : xs.length ≤ 1000000)
    (hq : ∀ (x : Int) (W : World), x ∈ xs → Ext w W → ∀ R' : Value → World → Prop, (∀ w', Ext W w' → R' (.bool (q x)) w') → CX Try.prog t1.1 { toList := iv x :: t1.2.toList } W R') :
    CW Try.prog 115 #[slV t, .func (.func t1.1) #[] t1.2] w fun v w' => v = iv (idxV (xs.findIdx? q)) ∧ Ext w w' := by
  refine F115_ok t t1 w _ ?_
  have hn := rdI h
  have e : F115 t t1 w (fun v w' => v = iv (idxV (xs.findIdx? q)) ∧ Ext w w') = IndexF Try.prog (fun W b o i (x : Int) => W.cell? ⟨b, o + i, none⟩ = some (iv x)) iv t t1 w (fun v w' => v = iv (idxV (xs.findIdx? q)) ∧ Ext w w') := rfl
  rw [e]
  refine IndexF_of xs id q hn (by omega) (fun i x W hx e => rdI_get (h.ext e) hx) (fun i x W hx e R' hR => hq x W (List.mem_of_getElem? hx) e R' hR) fun w' e => ⟨rfl, e⟩

theorem c91 {w : World} {t : Sl} {xs : List Int} {t1 : Nat × Array Value} {q : Int → Bool} (ho : OwS w t 1 (xs.map iv)) (hl : xs.length ≤ 1000000)
    (hq : ∀ (x : Int) (W : World), x ∈ xs → Ch (fun i => i ∈ blk t) w W → ∀ R' : Value → World → Prop, (∀ w', Ext W w' → R' (.bool (q x)) w') → CX Try.prog t1.1 { toList := iv x :: t1.2.toList } W R') :
    CW Try.prog 91 #[slV t, .func (.func t1.1) #[] t1.2] w fun v w' => ∃ t', v = slV t' ∧ OwS w' t' 1 ((xs.filter fun x => !q x).map iv) ∧ t'.p = t.p ∧ Ch (fun i => i ∈ blk t) w w' := by
  refine F91_ok t t1 w _ ?_
  have e : ∀ R, F91 t t1 w R = DFF Try.prog (fun W b o i (x : Int) => W.cell? ⟨b, o + i, none⟩ = some (iv x)) iv ivL (fun i => i) 1 #[iv 0] 115 t t1 w R := fun R => rfl
  rw [e]
  refine DFF_of (xs := xs) (q := q) (by rw [ivL_flat]; exact ho) (by omega) ivL_len ivL_one rfl (by intro x hx; simp at hx; subst hx; rfl) (fun i => (Nat.mul_one i).symm) hl (fun W b i x _ hc => ?_) (fun R' hR => ?_) (fun x W hx hC R' hR => hq x W hx hC R' hR) fun s' w' h1 h2 _ h3 => ⟨s', rfl, by rw [ivL_flat] at h1; exact h1, h2, h3⟩
  · have := hc 0 _ rfl
    rw [Nat.mul_one] at this
    exact this
  · refine (c115 ho.rd hl fun x W hx e => hq x W hx (e.mono fun _ _ h => h.elim)).use ?_
    rintro _ w' ⟨rfl, e⟩
    exact hR w' e

/-! ### Compact -/
theorem c86 {w : World} {t : Sl} {xs : List Int} (ho : OwS w t 1 (xs.map iv)) (hl : xs.length ≤ 1000000) : CW Try.prog 86 #[slV t] w fun v w' => ∃ t', v = slV t' ∧ OwS w' t' 1 ((compactL xs).map iv) ∧ t'.p = t.p ∧ Ch (fun i => i ∈ blk t) w w' := by
  have hn := owsI ho
  have hcap := ho.cap
  refine F86_ok t w _ (IfB.dec (fun h2 => ?_) fun h2 => ?_)
  · have : compactL xs = xs := by
      match xs, hn with
      | [], _ => rfl
      | [x], _ => rfl
      | x :: y :: l, hn => simp at hn; omega
    exact ⟨t, rfl, by rw [this]; exact ho, rfl, Ch.refl _ _⟩
  · have hx2 : 2 ≤ xs.length := by omega
    obtain ⟨b, hp⟩ := ho.ptr (by omega)
    have hbk : blk t = [b] := by simp [blk, hp]
    have last_take : ∀ {m : Nat} {x : Int}, xs[m]? = some x → (xs.take (m + 1)).getLast? = some x := fun h => by rw [take_succ_get h, List.getLast?_append]; rfl
    have step : ∀ {m : Nat} {x y : Int}, xs[m]? = some x → xs[m + 1]? = some y → compactL (xs.take (m + 2)) = compactL (xs.take (m + 1)) ++ if x = y then [] else [y] := fun hx hy => by
      rw [take_succ_get hy, compactL_append, last_take hx]
      simp
    refine ⟨fun n x W => ∃ k : Nat, x = (k : Int) ∧ 1 ≤ k ∧ n + k = xs.length ∧ compactL (xs.take k) = xs.take k ∧ Ext w W, ⟨xs.length - 1, 1, rfl, by omega, by omega, ?_, Ch.refl _ _⟩, ?_⟩
    · match xs, hx2 with
      | x :: y :: l, _ => rfl
    · rintro n _ W g ⟨k, rfl, hk1, hnk, hcp, eW⟩
      unfold F86j1
      refine IfB.dec (fun hlt => ?_) fun hge => ?_
      · have hk : k < xs.length := by omega
        obtain ⟨m, rfl⟩ : ∃ m, k = m + 1 := ⟨k - 1, by omega⟩
        have hy : xs[m + 1]? = some xs[m + 1] := List.getElem?_eq_getElem hk
        have hx : xs[m]? = some (xs[m]'(by omega)) := List.getElem?_eq_getElem _
        generalize xs[m + 1] = y at hy
        generalize xs[m]'(by omega) = x at hx
        have hst := step hx hy
        have ed := extDrew W
        have eW' := eW.trans ed
        obtain ⟨a, ha, hcy⟩ := owsI_get (ho.ext eW') hy
        obtain ⟨a', ha', hcx⟩ := owsI_get (ho.ext eW') hx
        rw [hp] at ha ha'; cases ha; cases ha'
        have hm1 : IntKind.i64.wrap (((m + 1 : Nat) : Int) - (1 : Int)) = (m : Int) := by rw [wrap_of (by omega) (by omega)]; omega
        rw [hm1]
        refine ⟨b, 0, hp, ⟨by omega, hlt⟩, y, by rw [Int.toNat_natCast]; exact hcy, b, 0, hp, ⟨by omega, by omega⟩, x, by rw [Int.toNat_natCast]; exact hcx, IfB.intro (fun he => ?_) fun he => ?_⟩
        · have he : y = x := by simpa using he
          subst he
          rw [if_pos rfl, List.append_nil, hcp] at hst
          refine ⟨⟨by omega, by omega⟩, ?_⟩
          -- K = m + 1; j from 1
          refine ⟨fun n' x' W' => ∃ (j : Nat) (gs : List Int), 1 ≤ j ∧ n' + (m + 1 + j) = xs.length ∧ (compactL (xs.take (m + 1 + j))).length + gs.length = m + j ∧ x' = (((compactL (xs.take (m + 1 + j))).length : Int), (j : Int)) ∧ OwS W' t 1 ((compactL (xs.take (m + 1 + j)) ++ gs ++ xs.drop (m + j)).map iv) ∧ Ch (fun i => i ∈ blk t) w W',
            ⟨xs.length - (m + 2), 1, [], by omega, by omega, ?_, ?_, ?_, eW'.mono fun _ _ h => h.elim⟩, ?_⟩
          · rw [hst, List.length_take]; simp; omega
          · rw [hst, List.length_take, Nat.min_eq_left (by omega)]; rfl
          · rw [hst, List.append_nil, List.take_append_drop]; exact ho.ext eW'
          · rintro n' _ W' g' ⟨j, gs, hj1, hnj, hlen, rfl, hO, hC⟩
            generalize hkd : compactL (xs.take (m + 1 + j)) = kd at hlen hO
            have hsa : slAddr t.p t.c (((m + 1 : Nat) : Int)).toNat 1 = some ⟨b, m + 1, none⟩ := by
              rw [Int.toNat_natCast, hp, slAddr_some, if_neg (by omega)]; simp
            unfold F86j2
            refine IfB.dec (fun hlt' => ?_) fun hge' => ?_
            · rw [Int.toNat_natCast] at hlt'
              have hlt'' : m + 1 + j < xs.length := by dsimp only at hlt'; omega
              have hz : xs[m + 1 + j]? = some xs[m + 1 + j] := List.getElem?_eq_getElem hlt''
              have hv : xs[m + j]? = some (xs[m + j]'(by omega)) := List.getElem?_eq_getElem _
              have hd1 : xs.drop (m + j) = xs[m + j]'(by omega) :: xs.drop (m + 1 + j) := by rw [show m + 1 + j = m + j + 1 by omega]; exact List.drop_eq_getElem_cons _
              have hd2 : xs.drop (m + 1 + j) = xs[m + 1 + j] :: xs.drop (m + 1 + (j + 1)) := by rw [show m + 1 + (j + 1) = m + 1 + j + 1 by omega]; exact List.drop_eq_getElem_cons _
              generalize xs[m + 1 + j] = z at hz hd2
              generalize xs[m + j]'(by omega) = v at hv hd1
              have hst2 : compactL (xs.take (m + 1 + (j + 1))) = kd ++ if v = z then [] else [z] := by
                have := step (m := m + j) hv (by rw [show m + j + 1 = m + 1 + j by omega]; exact hz)
                rw [show m + j + 2 = m + 1 + (j + 1) by omega, show m + j + 1 = m + 1 + j by omega, hkd] at this
                exact this
              have hLz : (kd ++ gs ++ xs.drop (m + j))[m + 1 + j]? = some z := by
                rw [List.getElem?_append_right (by rw [List.length_append]; omega), List.length_append, show m + 1 + j - (kd.length + gs.length) = 1 by omega, hd1, hd2]; rfl
              have hLv : (kd ++ gs ++ xs.drop (m + j))[m + j]? = some v := by
                rw [List.getElem?_append_right (by rw [List.length_append]; omega), List.length_append, show m + j - (kd.length + gs.length) = 0 by omega, hd1]; rfl
              have ed' := extDrew W'
              have hOd := hO.ext ed'
              obtain ⟨a, ha, hcz⟩ := owsI_get hOd hLz
              obtain ⟨a', ha', hcv⟩ := owsI_get hOd hLv
              rw [hp] at ha ha'; cases ha; cases ha'
              have hj1' : IntKind.i64.wrap ((j : Int) - (1 : Int)) = ((j - 1 : Nat) : Int) := wm1 (by omega) (by omega)
              have hL : (kd ++ gs ++ xs.drop (m + j)).length = xs.length := by rw [List.length_append, List.length_append, List.length_drop]; omega
              dsimp only
              rw [hj1', hsa]
              simp only [Int.toNat_natCast]
              have hzc : W'.drew.cell? ⟨b, m + 1 + j, none⟩ = some (iv z) := by rw [Nat.zero_add] at hcz; exact hcz
              have hvc : W'.drew.cell? ⟨b, m + 1 + (j - 1), none⟩ = some (iv v) := by rw [Nat.zero_add] at hcv; rw [show m + 1 + (j - 1) = m + j by omega]; exact hcv
              refine ⟨b, m + 1, rfl, ⟨by omega, by omega⟩, z, hzc, b, m + 1, rfl, ⟨by omega, by omega⟩, v, hvc, IfB.intro (fun hne => ?_) fun heq => ?_⟩
              · have hne : z ≠ v := by simpa using hne
                rw [if_neg (fun h => hne h.symm)] at hst2
                refine ⟨b, m + 1, rfl, ⟨by omega, by omega⟩, z, hzc, b, 0, hp, ⟨by omega, by show (kd.length : Int) < (t.n : Int); omega⟩, rfl, ?_⟩
                rw [Nat.zero_add]
                refine hOd.store hp (by show _ + 1 ≤ _; omega) (oneIv z) fun w32 hO32 hC32 => ⟨trivial, n' - 1, by omega, j + 1, (gs ++ [v]).tail, by omega, by omega, ?_, ?_, ?_, (hC.then ed' fun _ _ h => h.elim).then hC32 fun i _ e => by rw [hbk, e]; simp⟩
                · rw [hst2]; simp; omega
                · rw [hst2, wp1 (by omega), wp1 (by omega)]; simp
                · rw [show ([iv z]).length = 1 from rfl, setI (by omega)] at hO32
                  rw [hst2]
                  have : (kd ++ gs ++ xs.drop (m + j)).set kd.length z = kd ++ [z] ++ (gs ++ [v]).tail ++ xs.drop (m + (j + 1)) := by
                    rw [hd1, show m + (j + 1) = m + 1 + j by omega]
                    cases gs with
                    | nil => simp
                    | cons g0 gs => simp
                  rw [← this]; exact hO32
              · have heq : z = v := by simpa using heq
                subst heq
                rw [if_pos rfl, List.append_nil] at hst2
                refine ⟨trivial, n' - 1, by omega, j + 1, gs ++ [z], by omega, by omega, by rw [hst2]; simp; omega, ?_, ?_, hC.then ed' fun _ _ h => h.elim⟩
                · rw [hst2, wp1 (by omega)]
                · rw [hst2]
                  rw [hd1] at hOd
                  rw [show m + (j + 1) = m + 1 + j by omega]
                  simpa using hOd
            · rw [Int.toNat_natCast] at hge'
              dsimp only at hge'
              have hjn : m + 1 + j = xs.length := by omega
              rw [hjn, List.take_length] at hkd
              have hkl : kd.length < t.n := by omega
              refine ⟨⟨by dsimp only; omega, by show (kd.length : Int) ≤ (t.n : Int); omega⟩, ?_⟩
              dsimp only
              rw [Int.toNat_natCast, hp, slAddr_some]
              have hcut := hO.cut (k := kd.length) (by omega)
              rw [Nat.mul_one, ← List.map_take, List.append_assoc, List.take_append_of_le_length (Nat.le_refl _), List.take_length] at hcut
              dsimp only
              rw [if_neg (by omega), Nat.zero_add, Nat.mul_one]
              refine hcut.storeTail hp (by dsimp only; omega) (by rw [zc_len]; show kd.length + (t.n - kd.length) * 1 ≤ t.c * 1; omega) (zc_one (by intro x hx; simp at hx; subst hx; rfl) _) fun w25 hO25 hC25 => ⟨⟨by omega, by omega⟩, ?_⟩
              rw [← hp, slAddr_zero]
              exact ⟨⟨t.p, kd.length, t.c⟩, rfl, by rw [hkd]; exact hO25, rfl, hC.then hC25 fun i _ e => by rw [hbk, e]; simp⟩
        · have hne : x ≠ y := by intro h; subst h; simp at he
          rw [if_neg hne] at hst
          refine ⟨rfl, n - 1, by omega, m + 2, wp1 (by omega), by omega, by omega, ?_, eW'⟩
          rw [hst, hcp, take_succ_get hy]
      · have : k = xs.length := by omega
        subst this
        rw [List.take_length] at hcp
        exact ⟨t, rfl, by rw [hcp]; exact ho.ext eW, rfl, eW.mono fun _ _ h => h.elim⟩
end Go.Proofs.Ytopecljhehcldaa.Gx
