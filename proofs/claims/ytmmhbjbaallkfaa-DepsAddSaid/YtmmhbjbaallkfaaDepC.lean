/- Package deps: Of, Depends, Apart, Add. -/
import Derived.Test.YtmmhbjbaallkfaaDepB
import Derived.Test.YtmmhbjbaallkfaaIntC
import Derived.Test.YtmmhbjbaallkfaaIntX
namespace Go.Proofs.Ytmmhbjbaallkfaa.Gx
open Go
set_option linter.unusedSimpArgs false
set_option linter.unusedVariables false

/-! ### A beginning of a history -/
theorem EdP_take {hs : List Nd} {m i k : Nat} (hi : i < m) : EdP (hs.take m) i k ↔ EdP hs i k := by
  unfold EdP
  constructor
  · rintro ⟨h, a, b, ha, hb, hd⟩
    rw [List.getElem?_take, if_pos hi] at ha
    rw [List.getElem?_take, if_pos (by omega)] at hb
    exact ⟨h, a, b, ha, hb, hd⟩
  · rintro ⟨h, a, b, ha, hb, hd⟩
    exact ⟨h, a, b, by rw [List.getElem?_take, if_pos hi]; exact ha, by rw [List.getElem?_take, if_pos (by omega)]; exact hb, hd⟩
theorem Dp_take {hs : List Nd} {m i k : Nat} (hi : i < m) : Dp (hs.take m) i k ↔ Dp hs i k := by
  constructor
  · intro h
    induction h with
    | one h => exact .one ((EdP_take hi).1 h)
    | more h1 h2 ih => exact .more ih ((EdP_take (by have := Dp_lt h1; omega)).1 h2)
  · intro h
    induction h with
    | one h => exact .one ((EdP_take hi).2 h)
    | more h1 h2 ih => exact .more ih ((EdP_take (by have := Dp_lt h1; omega)).2 h2)
theorem RowOf_take {hs : List Nd} {m i : Nat} {xs : List Int} (hi : i < m) : RowOf (hs.take m) i xs ↔ RowOf hs i xs :=
  ⟨fun h => ⟨h.srt, fun k => (h.mem k).trans (exists_congr fun k' => and_congr_right fun _ => Dp_take hi)⟩,
   fun h => ⟨h.srt, fun k => (h.mem k).trans (exists_congr fun k' => and_congr_right fun _ => (Dp_take hi).symm)⟩⟩

/-! ### New lists of lists -/
structure OwR (w : World) (n : Nat) (t : Sl) (rows : List RwL) : Prop where
  own : OwS w t 1 (rows.map hR)
  row : ∀ r ∈ rows, OwS w r.1 1 (r.2.map iv)
  apart : ∀ r ∈ rows, ∀ j ∈ blk r.1, j ∉ blk t
  new : ∀ j ∈ blk t, n ≤ j
  rnew : ∀ r ∈ rows, ∀ j ∈ blk r.1, n ≤ j
theorem OwR.ext {w w' : World} {n : Nat} {t : Sl} {rows : List RwL} (h : OwR w n t rows) (e : Ext w w') : OwR w' n t rows := ⟨h.own.ext e, fun r hr => (h.row r hr).ext e, h.apart, h.new, h.rnew⟩
theorem OwR.rws {w : World} {n : Nat} {t : Sl} {rows : List RwL} (h : OwR w n t rows) : Rws w t rows := ⟨h.own.rd, fun r hr => (h.row r hr).rd⟩
theorem OwR.n {w : World} {m : Nat} {t : Sl} {rows : List RwL} (h : OwR w m t rows) : t.n = rows.length := h.rws.n
theorem OwR.nil (w : World) (n : Nat) : OwR w n ⟨none, 0, 0⟩ [] := ⟨.nil _ _, by simp, by simp, by simp [blk], by simp⟩
/-- A new row more. -/
theorem OwR.add {w : World} {n : Nat} {t s : Sl} {rows : List RwL} {xs : List Int} {T : TypeId} {K : Sl → World → Prop} (h : OwR w n t rows) (hs : OwS w s 1 (xs.map iv)) (hnew : ∀ j ∈ blk s, n ≤ j) (hap : ∀ j ∈ blk s, j ∉ blk t) (hn : n ≤ w.heap.size) (hl : rows.length ≤ 999999)
    (hK : ∀ s' w', OwR w' n s' (rows ++ [(s, xs)]) → Ch (fun i => i ∈ blk t) w w' → K s' w') :
    AllocP w (.cells #[slV s] T) fun b w1 => ∃ l, ReadC w1 (some ⟨b, 0, none⟩) (1 * 1) l ∧ AppendP tt31 31 w1 t.p t.n t.c 1 l K := by
  intro b w1 a
  have e1 : Ext w w1 := a.ch _
  have htn := h.n
  refine (h.own.ext e1).lit (new := [slV s]) (T' := T) a.new rfl (by intro v hv; rw [List.mem_singleton.1 hv]; rfl) rfl rfl (by omega) (by decide) fun s' w' ho hn' hC hb => hK s' w' ?_ ((e1.mono fun _ _ h => h.elim).then hC fun _ _ h => h)
  have hz := a.size
  have up : ∀ j ∈ blk s', j ∈ blk t ∨ w.heap.size ≤ j := fun j hj => (hb j hj).imp id fun h => by omega
  refine ⟨by rw [List.map_append]; exact ho, fun r hr => ?_, fun r hr j hj hj' => ?_, fun j hj => ?_, fun r hr j hj => ?_⟩
  · rcases List.mem_append.1 hr with hr | hr
    · exact ((h.row r hr).ext e1).ch hC fun j hj => h.apart r hr j hj
    · rw [List.mem_singleton.1 hr]; exact (hs.ext e1).ch hC fun j hj => hap j hj
  · rcases List.mem_append.1 hr with hr | hr
    · rcases up j hj' with h' | h'
      · exact h.apart r hr j hj h'
      · have := (h.row r hr).lt j hj; omega
    · rw [List.mem_singleton.1 hr] at hj
      rcases up j hj' with h' | h'
      · exact hap j hj h'
      · have := hs.lt j hj; omega
  · rcases up j hj with h' | h'
    · exact h.new j h'
    · omega
  · rcases List.mem_append.1 hr with hr | hr
    · exact h.rnew r hr j hj
    · rw [List.mem_singleton.1 hr] at hj; exact hnew j hj

theorem c13 {w : World} {t : Sl} {hs : List Nd} (hH : Hst w t hs) (hl : hs.length ≤ 1000) :
    CW Try.prog 13 #[slV t] w fun v w' => ∃ t' rows, v = slV t' ∧ rows.length = hs.length ∧ (∀ i x, rows[i]? = some x → RowOf hs i x.2) ∧ OwR w' w.heap.size t' rows ∧ Ext w w' := by
  have hn := hH.n
  refine F13_ok t w _ ⟨fun m x W => ∃ (i : Nat) (so : Sl) (rows : List RwL), i ≤ hs.length ∧ m + i = hs.length ∧ x = (so, (i : Int)) ∧ rows.length = i ∧ (∀ i x, rows[i]? = some x → RowOf hs i x.2) ∧ OwR W w.heap.size so rows ∧ Ext w W,
    ⟨hs.length, 0, ⟨none, 0, 0⟩, [], Nat.zero_le _, rfl, rfl, rfl, by simp, .nil _ _, Ch.refl _ _⟩, ?_⟩
  rintro m _ W g ⟨i, so, rows, hi, hmi, rfl, hrl, hrow, hO, hE⟩
  unfold F13j1
  refine IfB.dec (fun hlt => ?_) fun hge => ?_
  · have hi' : i < hs.length := by dsimp only at hlt; omega
    have hx : hs[i]? = some hs[i] := List.getElem?_eq_getElem hi'
    have htk := take_succ_get hx
    generalize hs[i] = nd at hx htk
    have hW := hH.ext hE
    obtain ⟨a, o, hp, hc⟩ := hW.at hx
    refine ⟨a, o, hp, (⟨by omega, by omega⟩ : (0 : Int) ≤ (i : Int) ∧ (i : Int) < (t.n : Int)), nd.v, by rw [Int.toNat_natCast]; exact hc, boxNd rfl fun b11 w13 hb hs13 h13 e13 _ => ?_⟩
    have ed := extDrew w13
    have e1 : Ext W w13.drew := e13.trans ed
    have E1 : Ext w w13.drew := hE.trans e1
    refine ⟨(⟨by omega, by have := hH.cap; omega⟩ : (0 : Int) ≤ (i : Int) ∧ (i : Int) ≤ (t.c : Int)), nd.v, cellsAt_of (ed.at h13) fun q v hv => by simpa using hv, ?_⟩
    have hcut := (hW.ext e1).cut (k := i) (by omega)
    dsimp only
    rw [Int.toNat_natCast, slAddr_zero]
    refine (c37 (tl := so) (t := ⟨t.p, i, t.c⟩) (rows := rows) (n := nd) (hO.rws.ext e1) hcut ((hW.get hx).ext e1) (by rw [List.length_take]; omega) fun j x hjx => ?_).use ?_
    · rw [← htk]
      have := (List.getElem?_eq_some_iff.1 hjx).1
      exact (RowOf_take (by omega)).2 (hrow j x hjx)
    rintro _ w16 ⟨s17, xs, rfl, hxs, ho, e16, hb17⟩
    rw [← htk, List.length_take, Nat.min_eq_left hi] at hxs
    have hxs := (RowOf_take (by omega)).1 hxs
    have e2 := e1.trans e16
    have hO16 := hO.ext e2
    have z1 := E1.size
    have z2 := e16.size
    have z3 := e1.size
    refine ⟨s17, rfl, by decide, hO16.add ho (fun j hj => by have := hb17 j hj; omega) (fun j hj h => by have := hb17 j hj; have := hO.own.lt j h; omega) (by omega) (by omega) fun s' w' hO' hC' => ⟨rfl, m - 1, by omega, i + 1, s', rows ++ [(s17, xs)], hi', by omega, by rw [wrap_of (by omega) (by omega)]; rfl, by simp [hrl], fun j x hjx => ?_, hO', (E1.trans e16).chN hC' fun j hj => hO.new j hj⟩⟩
    by_cases hj : j < i
    · rw [List.getElem?_append_left (by omega)] at hjx
      exact hrow j x hjx
    · have := (List.getElem?_eq_some_iff.1 hjx).1
      simp at this
      have hji : j = i := by omega
      subst hji
      rw [List.getElem?_append_right (by omega), hrl, Nat.sub_self] at hjx
      cases hjx
      exact hxs
  · have hi' : i = hs.length := by dsimp only at hge; omega
    subst hi'
    exact ⟨so, rows, rfl, hrl, hrow, hO, hE⟩

theorem c17 {w : World} {t : Sl} {hs : List Nd} (hH : Hst w t hs) (hl : hs.length ≤ 1000) (i k : Int) :
    CW Try.prog 17 #[slV t, iv i, iv k] w fun v w' => ∃ r, v = .bool r ∧ (r = true ↔ 0 ≤ i ∧ i < (hs.length : Int) ∧ ∃ k' : Nat, k = (k' : Int) ∧ Dp hs i.toNat k') ∧ Ext w w' := by
  have hn := hH.n
  refine F17_ok t i k w _ (IfB.dec (fun h0 => IfB.dec (fun h1 => (c13 hH hl).use ?_) fun h1 => ?_) fun h0 => ?_)
  · have h1' : i < (t.n : Int) := h1
    rintro _ w2 ⟨t', rows, rfl, hrl, hrow, hO, e2⟩
    have hr : rows[i.toNat]? = some (rows[i.toNat]'(by omega)) := List.getElem?_eq_getElem (by omega)
    generalize rows[i.toNat]'_ = row at hr
    obtain ⟨⟨b, o, hp, hc⟩, hrr, hrn⟩ := hO.rws.at hr
    have hR := hrow _ _ hr
    have hRl := hR.len
    have htn := hO.n
    refine ⟨t', rfl, b, o, hp, ⟨h0, by show i < (t'.n : Int); omega⟩, row.1, hc, (c39 hrr (by omega) k).use ?_⟩
    rintro _ _ ⟨rfl, rfl⟩
    refine ⟨_, rfl, _, rfl, ?_, e2⟩
    rw [decide_eq_true_eq, hR.mem]
    exact ⟨fun h => ⟨h0, by omega, h⟩, fun h => h.2.2⟩
  · have h1' : ¬ i < (t.n : Int) := h1
    exact ⟨false, rfl, ⟨fun h => (by cases h), fun h => by omega⟩, Ch.refl _ _⟩
  · exact ⟨false, rfl, ⟨fun h => (by cases h), fun h => by omega⟩, Ch.refl _ _⟩

theorem c40 {w : World} {b : Nat} {t : Sl} (i : Int) (hb : ∃ T, w.heap[b]? = some (.cells #[slV t] T (0, 0))) :
    CW Try.prog 40 #[iv i, .pointer (some ⟨b, 0, none⟩)] w fun v w' => v = .bool (decide (0 ≤ i ∧ i < (t.n : Int))) ∧ w = w' := by
  obtain ⟨T, hT⟩ := hb
  refine F40_ok i b w _ (IfB.dec (fun h => ⟨t, by rw [cell_of hT]; rfl, ?_, rfl⟩) fun h => ⟨?_, rfl⟩)
  · simp [h]
  · simp [h]

theorem c18 {w : World} {t : Sl} {hs : List Nd} (hH : Hst w t hs) (hl : hs.length ≤ 1000) (i k : Int) :
    CW Try.prog 18 #[slV t, iv i, iv k] w fun v w' => ∃ r, v = .bool r ∧ (r = true ↔ (0 ≤ i ∧ i < (hs.length : Int)) ∧ (0 ≤ k ∧ k < (hs.length : Int)) ∧ ¬ Dp hs i.toNat k.toNat ∧ ¬ Dp hs k.toNat i.toNat) ∧ Ext w w' := by
  have hn := hH.n
  refine F18_ok t i k w _ fun b1 w2 a2 => ?_
  have e2 : Ext w w2 := a2.ch _
  refine (c40 i ⟨_, a2.new⟩).use ?_
  rintro _ _ ⟨rfl, rfl⟩
  refine ⟨_, rfl, IfB.dec (fun hi => (c40 k ⟨_, a2.new⟩).use ?_) fun hi => ⟨false, rfl, ⟨fun h => (by cases h), fun h => by omega⟩, e2⟩⟩
  rintro _ _ ⟨rfl, rfl⟩
  refine ⟨_, rfl, IfB.dec (fun hk => ⟨t, by rw [cell_of a2.new]; rfl, (c17 (hH.ext e2) hl i k).use ?_⟩) fun hk => ⟨false, rfl, ⟨fun h => (by cases h), fun h => by omega⟩, e2⟩⟩
  rintro _ w11 ⟨r1, rfl, hr1, e11⟩
  have dn : ∀ {a b : Int}, 0 ≤ b → ((∃ k' : Nat, b = (k' : Int) ∧ Dp hs a.toNat k') ↔ Dp hs a.toNat b.toNat) := fun {a b} h0 =>
    ⟨fun ⟨k', e, h⟩ => by subst e; exact h, fun h => ⟨b.toNat, by omega, h⟩⟩
  rw [dn (by omega)] at hr1
  refine ⟨r1, rfl, IfB.intro (fun h1 => ⟨t, by rw [cell_of (e11.at a2.new)]; rfl, (c17 (hH.ext (e2.trans e11)) hl k i).use ?_⟩) fun h1 => ⟨false, rfl, ⟨fun h => (by cases h), fun h => ?_⟩, e2.trans e11⟩⟩
  · rintro _ w15 ⟨r2, rfl, hr2, e15⟩
    rw [dn (by omega)] at hr2
    refine ⟨r2, rfl, _, rfl, ?_, (e2.trans e11).trans e15⟩
    have h1' : ¬ Dp hs i.toNat k.toNat := fun h => by rw [hr1.2 ⟨hi.1, by omega, h⟩] at h1; cases h1
    constructor
    · intro h
      refine ⟨⟨hi.1, by omega⟩, ⟨hk.1, by omega⟩, h1', fun h' => ?_⟩
      rw [hr2.2 ⟨hk.1, by omega, h'⟩] at h; cases h
    · rintro ⟨_, _, _, h⟩
      cases r2 with
      | false => rfl
      | true => exact absurd (hr2.1 rfl).2.2 h
  · have h1' : r1 = true := by simpa using h1
    exact absurd (hr1.1 h1').2.2 h.2.2.1

/-- What Add does behind the check of lengths. -/
theorem addRow {w : World} {m : Nat} {tl t so : Sl} {rows out : List RwL} {hs : List Nd} {n : Nd} (hL : Rws w tl rows) (hH : Hst w t hs) (hn : NdOk w n) (hrl : rows.length = hs.length) (hrow : ∀ i x, rows[i]? = some x → RowOf (hs ++ [n]) i x.2)
    (hO : OwR w m so out) (hol : out.length = hs.length) (hout : ∀ i x, out[i]? = some x → RowOf (hs ++ [n]) i x.2) (hm : m ≤ w.heap.size) (hl : hs.length ≤ 1000) {T : TypeId} {K : Sl → World → Prop}
    (hK : ∀ s' rows' w', rows'.length = hs.length + 1 → (∀ i x, rows'[i]? = some x → RowOf (hs ++ [n]) i x.2) → OwR w' m s' rows' → Ch (fun i => i ∈ blk so) w w' → K s' w') :
    CX Try.prog 37 #[slV tl, slV t, ndV n.v] w fun v w1 => ∃ s : Sl, v = slV s ∧ 1 * 1 ≤ 16777216 ∧ AllocP w1 (.cells #[slV s] T) fun b w2 => ∃ l, ReadC w2 (some ⟨b, 0, none⟩) (1 * 1) l ∧ AppendP tt31 31 w2 so.p so.n so.c 1 l K := by
  refine (c37 hL hH hn hrl hrow).use ?_
  rintro _ w1 ⟨s, xs, rfl, hxs, ho, e1, hb⟩
  have z1 := e1.size
  refine ⟨s, rfl, by decide, (hO.ext e1).add ho (fun j hj => by have := hb j hj; omega) (fun j hj h => by have := hb j hj; have := hO.own.lt j h; omega) (by omega) (by omega) fun s' w' hO' hC' => hK s' _ w' (by simp [hol]) (fun i x hix => ?_) hO' ((e1.mono fun _ _ h => h.elim).then hC' fun _ _ h => h)⟩
  by_cases hi : i < out.length
  · rw [List.getElem?_append_left hi] at hix
    exact hout i x hix
  · have := (List.getElem?_eq_some_iff.1 hix).1
    simp at this
    have hie : i = out.length := by omega
    subst hie
    rw [List.getElem?_append_right (Nat.le_refl _), Nat.sub_self] at hix
    cases hix
    rw [hol]; exact hxs

/-- Add, where the lists are the history's. -/
theorem c19 {w : World} {tl t : Sl} {rows : List RwL} {hs : List Nd} {n : Nd} (hL : Rws w tl rows) (hH : Hst w t hs) (hn : NdOk w n) (hrl : rows.length = hs.length) (hrow : ∀ i x, rows[i]? = some x → RowOf hs i x.2) (hl : hs.length ≤ 1000) :
    CW Try.prog 19 #[slV tl, slV t, ndV n.v] w fun v w' => ∃ t' rows', v = slV t' ∧ rows'.length = hs.length + 1 ∧ (∀ i x, rows'[i]? = some x → RowOf (hs ++ [n]) i x.2) ∧ OwR w' w.heap.size t' rows' ∧ Ext w w' := by
  have htn := hL.n
  have hhn := hH.n
  have hrow' : ∀ i x, rows[i]? = some x → RowOf (hs ++ [n]) i x.2 := fun i x hx => by
    have hi := (List.getElem?_eq_some_iff.1 hx).1
    have := hrow i x hx
    rw [← RowOf_take (hs := hs ++ [n]) (m := hs.length) (by omega), List.take_append_of_le_length (Nat.le_refl _), List.take_length]
    exact this
  refine F19_ok tl t n.v w _ fun b1 w2 a2 => IfB.no (by simp; omega) ?_
  have e2 : Ext w w2 := a2.ch _
  have p2 := a2.here; have z2 := a2.size
  refine ⟨fun m x W => ∃ (i : Nat) (so : Sl) (out : List RwL), i ≤ hs.length ∧ m + i = hs.length ∧ x = (so, (i : Int)) ∧ out.length = i ∧ (∀ j x, out[j]? = some x → RowOf (hs ++ [n]) j x.2) ∧ OwR W w2.heap.size so out ∧ Ext w2 W,
    ⟨hs.length, 0, ⟨none, 0, 0⟩, [], Nat.zero_le _, rfl, rfl, rfl, by simp, .nil _ _, Ch.refl _ _⟩, ?_⟩
  rintro m _ W g ⟨i, so, out, hi, hmi, rfl, hol, hout, hO, hE⟩
  have E := e2.trans hE
  have zE := hE.size
  unfold F19j2
  refine IfB.dec (fun hlt => ?_) fun hge => ?_
  · have hi' : i < rows.length := by dsimp only at hlt; omega
    have hx : rows[i]? = some rows[i] := List.getElem?_eq_getElem hi'
    generalize rows[i] = row at hx
    obtain ⟨⟨b, o, hp, hc⟩, hrr, hrn⟩ := (hL.ext E).at hx
    have hR := hrow' i row hx
    have hRl := hR.len
    refine ⟨b, o, hp, (⟨by omega, by omega⟩ : (0 : Int) ≤ (i : Int) ∧ (i : Int) < (tl.n : Int)), row.1, by rw [Int.toNat_natCast]; exact hc, (c41 hrr (by omega)).use ?_⟩
    rintro _ w45 ⟨s, rfl, ho, e45, hb⟩
    have z45 := e45.size
    refine ⟨s, rfl, by decide, (hO.ext e45).add ho (fun j hj => by have := hb j hj; omega) (fun j hj h => by have := hb j hj; have := hO.own.lt j h; omega) (by omega) (by omega) fun s' w' hO' hC' => ⟨rfl, m - 1, by omega, i + 1, s', out ++ [(s, row.2)], by omega, by omega, by rw [wrap_of (by omega) (by omega)]; rfl, by simp [hol], fun j x hjx => ?_, hO', (hE.trans e45).chN hC' fun j hj => hO.new j hj⟩⟩
    by_cases hj : j < i
    · rw [List.getElem?_append_left (by omega)] at hjx
      exact hout j x hjx
    · have := (List.getElem?_eq_some_iff.1 hjx).1
      simp at this
      have hji : j = i := by omega
      subst hji
      rw [List.getElem?_append_right (by omega), hol, Nat.sub_self] at hjx
      cases hjx
      exact hR
  · have hi' : i = hs.length := by dsimp only at hge; omega
    refine ⟨n.v, cellsAt_of (hE.at a2.new) fun q v hv => by simpa using hv, addRow (hL.ext E) (hH.ext E) (hn.ext E) hrl hrow' hO (by omega) hout (by omega) hl fun s' rows' w' h1 h2 h3 h4 => ⟨s', rows', rfl, h1, h2, ⟨h3.own, h3.row, h3.apart, fun j hj => by have := h3.new j hj; omega, fun r hr j hj => by have := h3.rnew r hr j hj; omega⟩, E.chN h4 fun j hj => by have := hO.new j hj; omega⟩⟩
end Go.Proofs.Ytmmhbjbaallkfaa.Gx
