/- Package disk: a device and the document's, held against each other. -/
import Derived.Test.YtopecljhehcldaaDiskP
namespace Go.Proofs.Ytopecljhehcldaa.Gx
open Go
set_option linter.unusedSimpArgs false
set_option linter.unusedVariables false

/-- A device is as the document's. -/
structure DkR (ls : List Sec) (f : List (Int × Sec)) (la rd : List Sec) (dt : List Bool) : Prop where
  la : la = ls
  l1 : rd.length = ls.length
  l2 : dt.length = ls.length
  rd : ∀ i : Nat, i < ls.length → rd[i]? = some (rdD ls f i)
  dt : ∀ i : Nat, i < ls.length → dt[i]? = some (getM f i).isSome
  rng : ∀ p ∈ f, 0 ≤ p.1 ∧ p.1 < (ls.length : Int)

def dirtyL : List Bool → Nat → List Int
  | [], _ => []
  | true :: l, o => (o : Int) :: dirtyL l (o + 1)
  | false :: l, o => dirtyL l (o + 1)
theorem dirtyL_mem : ∀ {l : List Bool} {o : Nat} {k : Int}, k ∈ dirtyL l o ↔ ∃ i : Nat, l[i]? = some true ∧ k = ((o + i : Nat) : Int)
  | [], o, k => by simp [dirtyL]
  | true :: l, o, k => by
    simp only [dirtyL, List.mem_cons, dirtyL_mem (l := l)]
    constructor
    · rintro (rfl | ⟨i, h, rfl⟩)
      · exact ⟨0, rfl, rfl⟩
      · exact ⟨i + 1, h, by omega⟩
    · rintro ⟨i, h, rfl⟩
      cases i with
      | zero => exact .inl rfl
      | succ i => exact .inr ⟨i, h, by omega⟩
  | false :: l, o, k => by
    simp only [dirtyL, dirtyL_mem (l := l)]
    constructor
    · rintro ⟨i, h, rfl⟩
      exact ⟨i + 1, h, by omega⟩
    · rintro ⟨i, h, rfl⟩
      cases i with
      | zero => cases h
      | succ i => exact ⟨i, h, by omega⟩
theorem dirtyL_sorted : ∀ (l : List Bool) (o : Nat), (dirtyL l o).Pairwise (· < ·)
  | [], o => .nil
  | true :: l, o => by
    refine List.pairwise_cons.2 ⟨fun k hk => ?_, dirtyL_sorted l (o + 1)⟩
    obtain ⟨i, _, rfl⟩ := dirtyL_mem.1 hk
    omega
  | false :: l, o => dirtyL_sorted l (o + 1)
theorem rk_cons (x : Bool) (l : List Bool) (i : Nat) : rk (x :: l) (i + 1) = (if x then 1 else 0) + rk l i := by
  unfold rk
  rw [List.take_succ_cons, List.filter_cons]
  cases x
  · simp
  · simp; omega
theorem rk_zero (l : List Bool) : rk l 0 = 0 := by simp [rk]
theorem dirtyL_get : ∀ {l : List Bool} {o i : Nat}, l[i]? = some true → (dirtyL l o)[rk l i]? = some ((o + i : Nat) : Int)
  | [], _, _, h => by cases h
  | true :: l, o, 0, _ => by rw [rk_zero]; rfl
  | true :: l, o, i + 1, h => by
    rw [rk_cons, if_pos rfl, Nat.add_comm 1, dirtyL, List.getElem?_cons_succ, dirtyL_get (l := l) h]
    congr 2; omega
  | false :: l, o, 0, h => by cases h
  | false :: l, o, i + 1, h => by
    rw [rk_cons, dirtyL]
    simp only [Bool.false_eq_true, if_false, Nat.zero_add]
    rw [dirtyL_get (l := l) h]
    congr 2; omega
theorem dirtyL_len : ∀ (l : List Bool) (o : Nat), (dirtyL l o).length = rk l l.length
  | [], _ => rfl
  | true :: l, o => by rw [dirtyL, List.length_cons, dirtyL_len l, List.length_cons, rk_cons, if_pos rfl]; omega
  | false :: l, o => by rw [dirtyL, dirtyL_len l, List.length_cons, rk_cons]; simp

theorem dirty_eq {ls la rd : List Sec} {f : List (Int × Sec)} {dt : List Bool} (h : DkR ls f la rd dt) {xs : List Int} (hp : xs.Perm (f.map (·.1))) (hs : xs.Pairwise (· ≤ ·)) (hn : (f.map (·.1)).Nodup) : xs = dirtyL dt 0 := by
  have hd := dirtyL_sorted dt 0
  refine List.Perm.eq_of_pairwise (le := (· ≤ ·)) (fun a b _ _ h1 h2 => by omega) hs (hd.imp fun h => by omega) ((List.perm_ext_iff_of_nodup (hp.nodup_iff.2 hn) (hd.imp fun h => by omega)).2 fun k => ?_)
  rw [xs_few hp, dirtyL_mem]
  constructor
  · intro hk
    obtain ⟨q, hq, rfl⟩ := List.mem_map.1 (getM_key.2 hk)
    have := h.rng q hq
    refine ⟨q.1.toNat, ?_, by omega⟩
    rw [h.dt _ (by omega), show ((q.1.toNat : Nat) : Int) = q.1 by omega]
    cases hg : getM f q.1 with
    | none => exact absurd hg hk
    | some v => rfl
  · rintro ⟨i, hi, rfl⟩
    have hl := (List.getElem?_eq_some_iff.1 hi).1
    rw [h.dt i (by rw [← h.l2]; exact hl)] at hi
    rw [Nat.zero_add]
    intro e
    rw [e] at hi; cases hi

theorem DkR.new (n : Nat) : DkR (List.replicate n sec0) [] (List.replicate n sec0) (List.replicate n sec0) (List.replicate n false) := by
  refine ⟨rfl, rfl, by simp, fun i hi => ?_, fun i hi => ?_, by simp⟩
  · rw [rdD_nil]
    rw [List.length_replicate] at hi
    rw [List.getElem?_replicate, if_pos hi]; rfl
  · rw [List.length_replicate] at hi
    rw [List.getElem?_replicate, if_pos hi]; rfl

theorem DkR.write {ls la rd : List Sec} {f f' : List (Int × Sec)} {dt : List Bool} (h : DkR ls f la rd dt) {i : Nat} {x : Sec} (hi : i < ls.length) (hf : ∀ k, getM f' k = if (i : Int) = k then some x else getM f k) (hr : ∀ p ∈ f', 0 ≤ p.1 ∧ p.1 < (ls.length : Int)) : DkR ls f' la (rd.set i x) (dt.set i true) := by
  refine ⟨h.la, by rw [List.length_set]; exact h.l1, by rw [List.length_set]; exact h.l2, fun k hk => ?_, fun k hk => ?_, hr⟩
  · rw [List.getElem?_set, h.rd k hk]
    unfold rdD
    rw [hf]
    by_cases e : i = k
    · subst e; rw [if_pos rfl, if_pos (by rw [h.l1]; exact hk), if_pos rfl]
    · rw [if_neg e, if_neg (by omega)]
  · rw [List.getElem?_set, h.dt k hk, hf]
    by_cases e : i = k
    · subst e; rw [if_pos rfl, if_pos (by rw [h.l2]; exact hk), if_pos rfl]; rfl
    · rw [if_neg e, if_neg (by omega)]

theorem DkR.sync {ls la rd ls2 : List Sec} {f : List (Int × Sec)} {dt : List Bool} (h : DkR ls f la rd dt) (hl : ls2.length = ls.length) (hg : ∀ i : Nat, i < ls.length → ls2[i]? = some (rdD ls f i)) : DkR ls2 [] rd rd (List.replicate la.length false) := by
  have e : rd = ls2 := by
    apply List.ext_getElem?
    intro i
    by_cases hi : i < ls.length
    · rw [h.rd i hi, hg i hi]
    · rw [List.getElem?_eq_none (by rw [h.l1]; omega), List.getElem?_eq_none (by omega)]
  refine ⟨e, by rw [e], by rw [List.length_replicate, h.la, hl], fun i hi => ?_, fun i hi => ?_, by simp⟩
  · rw [rdD_nil, e, List.getElem?_eq_getElem hi]; rfl
  · rw [List.getElem?_replicate, if_pos (by rw [h.la]; omega)]; rfl

theorem DkR.crash {ls la rd : List Sec} {f : List (Int × Sec)} {dt keep : List Bool} (h : DkR ls f la rd dt) {xs : List Int} (hp : xs.Perm (f.map (·.1))) (hs : xs.Pairwise (· ≤ ·)) (hnd : xs.Nodup) :
    DkR (lsAt f (ansL keep) xs ls xs.length) [] (crL la rd dt keep) (crR la rd dt keep) (List.replicate la.length false) := by
  have hx := dirty_eq h hp hs (hp.nodup_iff.1 hnd)
  have hrg : ∀ k ∈ xs, 0 ≤ k ∧ k < (ls.length : Int) := fun k hk => by
    obtain ⟨q, hq, rfl⟩ := List.mem_map.1 (hp.mem_iff.1 hk)
    exact h.rng q hq
  have hla := h.la
  have hD : ∀ i, i < ls.length → isD dt i = (getM f (i : Int)).isSome := fun i hi => by unfold isD; rw [h.dt i hi]; rfl
  have key : ∀ i : Nat, i < ls.length → (lsAt f (ansL keep) xs ls xs.length)[i]? = some (if isD dt i && ansL keep (rk dt i) then (rd[i]?).getD sec0 else (la[i]?).getD sec0) := fun i hi => by
    rw [lsAt_get hrg hnd _ (Nat.le_refl _), h.rd i hi, hla, List.getElem?_eq_getElem hi, hD i hi]
    by_cases hd : dt[i]? = some true
    · have hgt := dirtyL_get (o := 0) hd
      rw [← hx, Nat.zero_add] at hgt
      have hlt := (List.getElem?_eq_some_iff.1 hgt).1
      have hsome : (getM f (i : Int)).isSome = true := by have := h.dt i hi; rw [hd] at this; exact (Option.some.inj this).symm
      rw [hsome, Bool.true_and]
      have hval : (getM f (i : Int)).getD sec0 = rdD ls f i := by
        unfold rdD
        cases hg : getM f (i : Int) with
        | none => rw [hg] at hsome; cases hsome
        | some v => rfl
      cases ha : ansL keep (rk dt i) with
      | true => rw [if_pos ⟨_, hlt, hgt, ha⟩, if_pos rfl, hval]; rfl
      | false =>
        rw [if_neg, if_neg (by simp)]
        · rfl
        · rintro ⟨m, hm, h1, h2⟩
          have hmm : m = rk dt i := (List.getElem?_inj hm hnd).1 (h1.trans hgt.symm)
          rw [hmm, ha] at h2; cases h2
    · have hnone : (getM f (i : Int)).isSome = false := by
        have := h.dt i hi
        cases hg : (getM f (i : Int)).isSome with
        | false => rfl
        | true => rw [hg] at this; exact absurd this hd
      rw [hnone, Bool.false_and, if_neg, if_neg (by simp)]
      · rfl
      · rintro ⟨m, hm, h1, h2⟩
        have := (xs_few hp _).1 (List.mem_of_getElem? h1)
        cases hg : getM f (i : Int) with
        | none => exact this hg
        | some v => rw [hg] at hnone; cases hnone
  have hlen := lsAt_len f (ansL keep) xs ls xs.length
  have eL : crL la rd dt keep = lsAt f (ansL keep) xs ls xs.length := by
    apply List.ext_getElem?
    intro i
    unfold crL
    rw [range_map_get, hla]
    by_cases hi : i < ls.length
    · rw [if_pos hi, key i hi, hla]
    · rw [if_neg hi, List.getElem?_eq_none (by rw [hlen]; omega)]
  refine ⟨eL, by rw [crR_len, hlen, hla], by rw [List.length_replicate, hlen, hla], fun i hi => ?_, fun i hi => ?_, by simp⟩
  · rw [hlen] at hi
    rw [rdD_nil, ← eL]
    unfold crR
    rw [range_map_get, if_pos (by rw [hla]; exact hi)]
    congr 1
    cases hd : isD dt i with
    | true => rfl
    | false =>
      rw [if_neg (by simp), eL, key i hi, hd, h.rd i hi, hla, List.getElem?_eq_getElem hi]
      rw [hD i hi] at hd
      unfold rdD
      cases hg : getM f (i : Int) with
      | none => simp [Int.toNat_natCast, List.getElem?_eq_getElem hi]
      | some v => rw [hg] at hd; cases hd
  · rw [hlen] at hi
    rw [List.getElem?_replicate, if_pos (by rw [hla]; exact hi)]; rfl

/-! ### same -/
section
variable {w : World} {b : Nat} {s : Sl} {r : Nat} {ls : List Sec} {f : List (Int × Sec)} {wr sy : Int} {b' : Nat} {s0 s1 s2 : Sl} {la rd : List Sec} {dt : List Bool}

theorem c53 (h : Dk w b s r ls f wr sy) (hr : Rf w b' s0 s1 s2 la rd dt) (hR : DkR ls f la rd dt) : CW Try.prog 53 #[.pointer (some ⟨b, 0, none⟩), .pointer (some ⟨b', 0, none⟩)] w fun v w' => v = .bool true ∧ Ext w w' := by
  refine F53_ok _ _ w _ ((c42 h).use ?_)
  rintro _ w2 ⟨t, xs, rfl, hp, hs, ho, e2, _⟩
  have hx := dirty_eq hR hp hs h.map.nodup
  have htn : t.n = xs.length := by have := ho.len1; rw [List.length_map] at this; exact this
  have hlen := h.len
  refine ⟨t, rfl, fun n x W => ∃ j : Nat, x = ((rk dt j : Int), (j : Int)) ∧ n + j = ls.length ∧ Ext w2 W, ⟨ls.length, 0, rfl, rfl, Ch.refl _ _⟩, ?_⟩
  rintro n _ W g ⟨j, rfl, hj, e⟩
  have eW := e2.trans e
  have H := hr.ext eW
  have D := h.ext eW
  have hn1 := H.n
  rw [hR.la] at hn1
  unfold F53j1
  refine ⟨b', 0, rfl, s1, H.k1, IfB.dec (fun hlt => ?_) fun hge => ?_⟩
  · dsimp only at hlt
    rw [hn1.2.1] at hlt
    have hj' : j < ls.length := by omega
    have hb : ∀ {s : Sl}, s.n = ls.length → (0 : Int) ≤ (j : Int) ∧ (j : Int) < (s.n : Int) := fun h => ⟨by omega, by omega⟩
    unfold F53k2
    refine stRead D (by dsimp only; omega) fun w15 e15 => boxSec (x := rdD ls f j) rfl fun b17 w19 p17 q17 _ e19 => IfB.no rfl ?_
    have ed := extDrew w19
    have H19 := ((H.ext e15).ext e19).ext ed
    have D19 := ((D.ext e15).ext e19).ext ed
    obtain ⟨a1, ha1, hc1⟩ := ows_sec H19.a1 (hR.rd j hj')
    refine ⟨_, q17.ch ed id, b', 0, rfl, s1, H19.k1, a1, 0, ha1, hb hn1.2.1, _, by dsimp only; rw [Int.toNat_natCast]; exact hc1, true, eqSecY _, IfB.no rfl ?_⟩
    have hy : ls[j]? = some ls[j] := List.getElem?_eq_getElem hj'
    generalize ls[j] = y at hy
    obtain ⟨a0, ha0, hc0⟩ := ows_sec H19.a0 (i := j) (x := y) (by rw [hR.la]; exact hy)
    unfold F53k1
    refine ⟨b', 0, rfl, s0, H19.k0, a0, 0, ha0, hb hn1.1, y, by dsimp only; rw [Int.toNat_natCast]; exact hc0, stLasting D19 hy fun w35 e35 => ?_⟩
    have H35 := H19.ext e35
    have hd := hR.dt j hj'
    obtain ⟨a2, ha2, hc2⟩ := ows_bool H35.a2 hd
    have hrk := rk_succ hd
    have hrl := rk_le dt j
    have x35 : Ext w2 w35 := (((e.trans e15).trans e19).trans ed).trans e35
    refine ⟨by dsimp only; rw [Int.toNat_natCast]; exact hc0.ch e35 id, H35.k0, true, eqSecY _, IfB.no rfl ⟨b', 0, rfl, s2, H35.k2, a2, 0, ha2, hb hn1.2.2, _, by dsimp only; rw [Int.toNat_natCast]; exact hc2, IfB.intro (fun hT => ?_) fun hF => ?_⟩⟩
    · rw [hT] at hd hrk
      rw [if_pos rfl] at hrk
      have hgt := dirtyL_get (o := 0) hd
      rw [← hx, Nat.zero_add] at hgt
      have hlt' := (List.getElem?_eq_some_iff.1 hgt).1
      obtain ⟨a, ha, hc⟩ := (ho.ext x35).elem1 (v := iv (j : Int)) (i := rk dt j) (by rw [List.getElem?_map, hgt]; rfl)
      refine IfB.no (decide_eq_false (by dsimp only; omega)) ⟨a, 0, ha, ⟨by dsimp only; omega, by show (rk dt j : Int) < (t.n : Int); omega⟩, (j : Int), by dsimp only; rw [Int.toNat_natCast, Nat.zero_add]; exact hc, IfB.no (by simp) ⟨rfl, n - 1, by omega, j + 1, ?_, by omega, x35⟩⟩
      dsimp only
      rw [wp1 (by omega), wp1 (by omega), hrk]
    · rw [hF] at hrk
      refine ⟨rfl, n - 1, by omega, j + 1, ?_, by omega, x35⟩
      dsimp only
      rw [wp1 (by omega), hrk]; rfl
  · dsimp only at hge
    rw [hn1.2.1] at hge
    have hjn : j = ls.length := by omega
    subst hjn
    have ed := extDrew W
    have hxl : xs.length = rk dt ls.length := by rw [hx, dirtyL_len, hR.l2]
    refine IfB.yes ?_ ⟨b', 0, rfl, s1, (H.ext ed).k1, (c45 (D.ext ed)).use ?_⟩
    · dsimp only
      rw [show t.2 = t.n from rfl, htn, hxl]; simp
    · rintro _ _ ⟨rfl, rfl⟩
      refine ⟨_, rfl, (H.ext ed).k1, ?_, eW.trans ed⟩
      rw [show s1.2 = s1.n from rfl, hn1.2.1]; simp
end
end Go.Proofs.Ytopecljhehcldaa.Gx
