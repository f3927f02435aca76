/- Package pages: Get, Delete, Pages. -/
import Derived.Test.YtopecljhehcldaaPagesC
namespace Go.Proofs.Ytopecljhehcldaa.Gx
open Go
set_option linter.unusedSimpArgs false
set_option linter.unusedVariables false

/-! ### Get -/
def valP (P : List (List Pr)) (k : Int) : Int := match (P.getD (atP P k) [])[posP (P.getD (atP P k) []) k]? with
  | some x => x.2
  | none => 0
def getP (P : List (List Pr)) (k : Int) : Int × Int := if 0 ≤ k ∧ k ≤ 999 then (if hasP P k then (valP P k, 0) else (0, 5)) else (0, 3)

theorem hasP_nil (k : Int) : hasP [] k = false := rfl

theorem c29 {w : World} {b : Nat} {P : List (List Pr)} {s : Sl} {ps : List Pg} (hS : St w b s ps) (hP : ps.map (·.2) = P) (hI : Inv P) (k : Int) :
    CW Try.prog 29 #[.pointer (some ⟨b, 0, none⟩), .int .i64 k] w fun r w' => r = .tuple #[.int .i64 (getP P k).1, .int .i64 (getP P k).2] ∧ Ext w w' := by
  refine F29_ok _ _ _ _ ((c68 _ _ _).use ?_)
  rintro _ _ ⟨rfl, rfl⟩
  refine ⟨_, rfl, IfB.intro (fun hr => ?_) (fun hr => ?_)⟩
  · have hk : ¬ (0 ≤ k ∧ k ≤ 999) := fun h => by simp [h] at hr
    unfold getP
    rw [if_neg hk]
    exact ⟨rfl, Ch.refl _ _⟩
  have hk : 0 ≤ k ∧ k ≤ 999 := by simpa using hr
  refine (c69 hS hP hI hk).use ?_
  rintro _ w5 ⟨rfl, e5⟩
  have hS5 := hS.ext e5
  unfold getP
  rw [if_pos hk]
  by_cases hne : P = []
  · subst hne
    exact ⟨(0, 0, false), rfl, IfB.yes rfl ⟨rfl, e5⟩⟩
  · have hAt := atP_is hI hne k
    rw [findV_some hne]
    refine ⟨(_, _, _), rfl, ?_⟩
    cases hh : hasP P k with
    | false => exact IfB.yes (by show (!(hasP P k)) = true; rw [hh]; rfl) ⟨rfl, e5⟩
    | true =>
      obtain ⟨L, x, R, rfl, hL, hx, hLm, hRm⟩ := split_at hP hAt
      have hi' : isP x.2 k = true := by rw [hx]; exact hh
      obtain ⟨u, hu⟩ := isP_iff.1 hi'
      obtain ⟨hH, ho, hf⟩ := hS5.hole
      obtain ⟨a, ha, hca⟩ := hH.pageCell
      obtain ⟨b2, hb2, hcb⟩ := pageE ho hu
      have hsn : s.n = L.length + R.length + 1 := hH.n
      have hxn : x.1.n = x.2.length := by have := ho.len; rw [prs_len] at this; omega
      have hpl := (List.getElem?_eq_some_iff.1 hu).1
      have hv : valP P k = u := by unfold valP; rw [← hx, hu]
      rw [← hx]
      refine IfB.no (by show (!(isP x.2 k)) = false; rw [hi']; rfl) ⟨b, 0, rfl, s, hS5.cell, a, 0, ha, (⟨by omega, by omega⟩ : (0 : Int) ≤ (atP P k : Int) ∧ (atP P k : Int) < (s.n : Int)), x.1, ?_, b2, 0, hb2, (⟨by omega, by omega⟩ : (0 : Int) ≤ (posP x.2 k : Int) ∧ (posP x.2 k : Int) < (x.1.n : Int)), u, ?_, ?_, e5⟩
      · rw [Int.toNat_natCast, Nat.zero_add, ← hL]; exact hca
      · rw [Int.toNat_natCast, Nat.zero_add]; exact hcb.snd
      · rw [hv]; rfl

/-! ### Concat -/
theorem F116_eq (t0 : Sl) (t1 : Int) (w : World) (R : Value → World → Prop) : F116 t0 t1 w R = GrowF tt37 37 2 t0 t1 w R := by kernel_rfl

theorem c116 {k : Nat} (hk : k ≤ 1000) (w : World) : CW Try.prog 116 #[.slice none 0 0, .int .i64 k] w fun v w' => ∃ t', v = slV t' ∧ OwS w' t' 2 [] ∧ t'.n = 0 ∧ Ext w w' ∧ ∀ j ∈ blk t', w.heap.size ≤ j := by
  refine F116_ok ⟨none, 0, 0⟩ k w _ ?_
  rw [F116_eq]
  refine GrowF_nil rfl rfl (by intro y hy; simp [Value.cells] at hy; subst hy; rfl) ⟨by omega, by dsimp only; omega⟩ (by decide) (by omega) ?_
  intro s' w' ho hn he hb
  exact ⟨s', rfl, ho, hn, he, hb⟩

theorem prs_flat (xs : List Pg) : prs (xs.flatMap (·.2)) = xs.flatMap fun x => prs x.2 := by
  induction xs with
  | nil => rfl
  | cons x xs ih => rw [List.flatMap_cons, List.flatMap_cons, prs_append, ih]

def sumL (xs : List Pg) : Nat := (xs.flatMap (·.2)).length
theorem sumL_take {xs : List Pg} {i : Nat} {x : Pg} (h : xs[i]? = some x) : sumL (xs.take (i + 1)) = sumL (xs.take i) + x.2.length := by
  unfold sumL; rw [take_succ_get h]; simp
theorem sumL_le (xs : List Pg) (i : Nat) : sumL (xs.take i) ≤ sumL xs := by
  unfold sumL
  conv => rhs; rw [← List.take_append_drop i xs]
  rw [List.flatMap_append, List.length_append]; omega

theorem c102 {w : World} {t : Sl} {xs : List Pg} (h : OwS w t 1 (xs.map hV)) (hx : ∀ x ∈ xs, OwS w x.1 2 (prs x.2)) (hl : sumL xs ≤ 1000) (hn : xs.length ≤ 1000) :
    CW Try.prog 102 #[slV t] w fun v w' => ∃ t', v = slV t' ∧ OwS w' t' 2 (prs (xs.flatMap (·.2))) ∧ Ext w w' ∧ ∀ j ∈ blk t', w.heap.size ≤ j := by
  have htn : t.n = xs.length := by rw [h.len1, List.length_map]
  have elem : ∀ (i : Nat) (w5 : World), Ext w w5 → i < xs.length → ∃ x a, xs[i]? = some x ∧ t.p = some ⟨a, 0, none⟩ ∧ w5.cell? ⟨a, i, none⟩ = some (slV x.1) ∧ OwS w5 x.1 2 (prs x.2) ∧ x.1.n = x.2.length := by
    intro i w5 e hi
    have hxi : xs[i]? = some xs[i] := List.getElem?_eq_getElem hi
    obtain ⟨a, ha, hc⟩ := (h.ext e).elem1 (i := i) (v := hV xs[i]) (by rw [List.getElem?_map, hxi]; rfl)
    have ho := (hx xs[i] (List.getElem_mem hi)).ext e
    exact ⟨xs[i], a, hxi, ha, hc, ho, by have := ho.len; rw [prs_len] at this; omega⟩
  refine F102_ok t w _ ?_
  refine ⟨fun n x w5 => ∃ i : Nat, i ≤ xs.length ∧ n + i = xs.length ∧ x = ((sumL (xs.take i) : Int), (i : Int)) ∧ w5 = w, ⟨xs.length, 0, Nat.zero_le _, rfl, rfl, rfl⟩, ?_⟩
  rintro n x w5 g ⟨i, hi, hni, rfl, rfl⟩
  unfold F102j1
  refine IfB.dec (fun hlt => ?_) (fun hge => ?_)
  · have hi' : i < xs.length := by
      have : (i : Int) < (t.n : Int) := hlt
      omega
    obtain ⟨y, a, hy, ha, hc, ho, hyn⟩ := elem i w5 (Ch.refl _ _) hi'
    have h1 := sumL_take hy
    have h2 := sumL_le xs (i + 1)
    have e1 : IntKind.i64.wrap ((sumL (xs.take i) : Int) + (y.1.n : Int)) = (sumL (xs.take (i + 1)) : Int) := by rw [wrap_of (by omega) (by omega)]; omega
    refine ⟨a, 0, ha, (⟨by omega, by omega⟩ : (0 : Int) ≤ (i : Int) ∧ (i : Int) < (t.n : Int)), y.1, by rw [Int.toNat_natCast, Nat.zero_add]; exact hc, ?_⟩
    dsimp only
    rw [e1]
    refine IfB.no (by simp) ⟨rfl, n - 1, by omega, i + 1, hi', by omega, ?_, rfl⟩
    rw [wrap_of (by omega) (by omega)]; rfl
  · have hi' : i = xs.length := by
      have : ¬ (i : Int) < (t.n : Int) := hge
      omega
    subst hi'
    have hT : sumL (xs.take xs.length) = sumL xs := by rw [List.take_length]
    dsimp only
    rw [hT]
    refine (c116 hl w5).use ?_
    rintro _ w13 ⟨t1, rfl, ho1, hn1, e13, hb1⟩
    refine ⟨t1, rfl, fun n x w19 => ∃ i t2, i ≤ xs.length ∧ n + i = xs.length ∧ x = (t2, (i : Int)) ∧ OwS w19 t2 2 (prs ((xs.take i).flatMap (·.2))) ∧ Ext w5 w19 ∧ ∀ j ∈ blk t2, w5.heap.size ≤ j, ⟨xs.length, 0, t1, Nat.zero_le _, rfl, rfl, ho1, e13, hb1⟩, ?_⟩
    rintro n x w19 g ⟨i, t2, hi, hni, rfl, ho2, e19, hb2⟩
    unfold F102j2
    refine IfB.dec (fun hlt => ?_) (fun hge => ?_)
    · have hi' : i < xs.length := by
        have : (i : Int) < (t.n : Int) := hlt
        omega
      obtain ⟨y, a, hy, ha, hc, ho, hyn⟩ := elem i w19 e19 hi'
      have h1 := sumL_take hy
      have h2 := sumL_le xs (i + 1)
      have ht2 : t2.n = sumL (xs.take i) := by have := ho2.len; rw [prs_len] at this; unfold sumL; omega
      refine ⟨a, 0, ha, (⟨by omega, by omega⟩ : (0 : Int) ≤ (i : Int) ∧ (i : Int) < (t.n : Int)), y.1, by rw [Int.toNat_natCast, Nat.zero_add]; exact hc, prs y.2, ho.readAll, ?_⟩
      refine ho2.append (cnt := y.1.n) rfl rfl ho.len (prs_one _) ⟨by omega, by dsimp only; omega⟩ ?_
      intro s' w' ho' hn' hc' hb' _
      refine ⟨rfl, n - 1, by omega, i + 1, s', hi', by omega, ?_, ?_, ?_, ?_⟩
      · rw [wrap_of (by dsimp only; omega) (by dsimp only; omega)]; rfl
      · rw [take_succ_get hy, List.flatMap_append, prs_append]
        simpa using ho'
      · exact e19.then hc' fun j hj hjb => by have := hb2 j hjb; omega
      · intro j hj
        rcases hb' j hj with h | h
        · exact hb2 j h
        · have := e19.size; omega
    · have hi' : i = xs.length := by
        have : ¬ (i : Int) < (t.n : Int) := hge
        omega
      subst hi'
      rw [List.take_length] at ho2
      exact ⟨t2, rfl, ho2, e19, hb2⟩

/-! ### join -/
theorem setBox2 {w w' : World} {b : Nat} {s s' : Sl} {L R : List Pg} {x : Pg} {c : Value} {K : World → Prop} (hH : StH w b s L c R) (ho : OwS w' s' 1 ((L ++ R).map hV)) (hc : Ch (fun i => i ∈ blk s) w w') (hb : blk s' = blk s)
    (hK : ∀ w'', St w'' b s' (L ++ R) → Ch (fun i => i = b) w' w'' → K w'') : StoreP w' b 0 [slV s'] K :=
  stSet (w := w) (s := s) (by obtain ⟨T, hT⟩ := hH.box; exact ⟨T, _, hT⟩) hH.self hH.pg hH.nd hH.sep ho hc (fun j hj => .inl (hb ▸ hj)) hK

theorem c72 {A : Nat → Prop} {w0 w : World} {b : Nat} {P : List (List Pr)} {s : Sl} {ps : List Pg} (hS : St w b s ps) (hP : ps.map (·.2) = P) (hC : Ch A w0 w) (hA : ∀ i, inSt b s ps i → New A w0 i) (hl : P.flatten.length ≤ 1000) (hl2 : P.length ≤ 1000) (i : Nat) (hi : i ≤ 1000) :
    CW Try.prog 72 #[.pointer (some ⟨b, 0, none⟩), .int .i64 i] w fun r w' => r = .bool (canJ P i) ∧ Ch A w0 w' ∧ ∃ s' ps', St w' b s' ps' ∧ ps'.map (·.2) = (if canJ P i then joinP P i else P) ∧ ∀ i, inSt b s' ps' i → New A w0 i := by
  have hlen : ps.length = P.length := by rw [← hP, List.length_map]
  have hsn : s.n = ps.length := hS.n
  have ed := extDrew w
  have hSd := hS.ext ed
  have hCd : Ch A w0 w.drew := hC.thenExt ed
  have e1 : IntKind.i64.wrap ((i : Int) + (1 : Int)) = ((i + 1 : Nat) : Int) := by rw [wrap_of (by omega) (by omega)]; rfl
  have e2 : IntKind.i64.wrap ((i : Int) + (2 : Int)) = ((i + 1 + 1 : Nat) : Int) := by rw [wrap_of (by omega) (by omega)]; omega
  refine F72_ok _ _ _ _ (IfB.no (decide_eq_false (by omega)) ?_)
  unfold F72k1
  rw [e1, e2]
  refine ⟨b, 0, rfl, s, hSd.cell, IfB.dec (fun hge => ?_) (fun hlt => ?_)⟩
  · have : canJ P i = false := by unfold canJ; rw [decide_eq_false (show ¬ i + 1 < P.length by omega)]; rfl
    rw [this]
    exact ⟨rfl, hCd, s, ps, hSd, hP, hA⟩
  have hi1 : i + 1 < ps.length := by omega
  -- the two pages
  obtain ⟨L, x, y, R, rfl, hL⟩ : ∃ L x y R, ps = L ++ x :: y :: R ∧ L.length = i := by
    refine ⟨ps.take i, ps[i], ps[i + 1], ps.drop (i + 2), ?_, by rw [List.length_take]; omega⟩
    rw [← List.drop_eq_getElem_cons hi1, ← List.drop_eq_getElem_cons (show i < ps.length by omega), List.take_append_drop]
  subst hL
  have hpx : (L ++ x :: y :: R)[L.length]? = some x := by simp
  have hpy : (L ++ x :: y :: R)[L.length + 1]? = some y := by simp
  obtain ⟨a, ha, hcx, hox, hxn⟩ := hSd.page hpx
  obtain ⟨a', ha', hcy, hoy, hyn⟩ := hSd.page hpy
  rw [ha] at ha'
  cases ha'
  have hPx : P.getD L.length [] = x.2 := by rw [← hP, List.getD_eq_getElem?_getD, List.getElem?_map, hpx]; rfl
  have hPy : P.getD (L.length + 1) [] = y.2 := by rw [← hP, List.getD_eq_getElem?_getD, List.getElem?_map, hpy]; rfl
  have hbx : (0 : Int) ≤ (L.length : Int) ∧ (L.length : Int) < (s.n : Int) := by omega
  have hby : (0 : Int) ≤ ((L.length + 1 : Nat) : Int) ∧ ((L.length + 1 : Nat) : Int) < (s.n : Int) := by omega
  have hx8 : x.2.length + y.2.length ≤ 1000 := by
    have : x.2.length + y.2.length ≤ P.flatten.length := by rw [← hP]; simp; omega
    omega
  refine ⟨b, 0, rfl, s, hSd.cell, a, 0, ha, hbx, x.1, by rw [Int.toNat_natCast, Nat.zero_add]; exact hcx, b, 0, rfl, s, hSd.cell, a, 0, ha, hby, y.1, by rw [Int.toNat_natCast, Nat.zero_add]; exact hcy, ?_⟩
  refine IfB.dec (fun hgt => ?_) (fun hle => ?_)
  · rw [wrap_of (by omega) (by omega)] at hgt
    have : canJ P L.length = false := by unfold canJ; rw [hPx, hPy, decide_eq_false (show ¬ x.2.length + y.2.length ≤ 4 by omega)]; simp
    rw [this]
    exact ⟨rfl, hCd, s, _, hSd, hP, hA⟩
  rw [wrap_of (by omega) (by omega)] at hle
  have hcan : canJ P L.length = true := by unfold canJ; rw [hPx, hPy, decide_eq_true (show x.2.length + y.2.length ≤ 4 by omega), decide_eq_true (show L.length + 1 < P.length by omega)]; rfl
  rw [hcan]
  have edd := extDrew w.drew
  have hS2 := hSd.ext edd
  refine ⟨b, 0, rfl, s, hS2.cell, b, 0, rfl, s, hS2.cell, a, 0, ha, hbx, x.1, by rw [Int.toNat_natCast, Nat.zero_add]; exact hcx, b, 0, rfl, s, hS2.cell, a, 0, ha, hby, y.1, by rw [Int.toNat_natCast, Nat.zero_add]; exact hcy, by decide, fun b31 w32 h32 => ?_⟩
  have e32 : Ext w.drew.drew w32 := h32.ch _
  have hS32 := hS2.ext e32
  refine ⟨hS32.cell, ?_⟩
  have hlit : OwS w32 ⟨some ⟨b31, 0, none⟩, 2, 2⟩ 1 ([x, y].map hV) := .inr ⟨b31, _, _, rfl, h32.new, rfl, Nat.le_refl _, rfl⟩
  refine (c102 hlit (fun z hz => hS32.pg z (by simp at hz; rcases hz with rfl | rfl <;> simp)) (by simp [sumL]; omega) (by simp)).use ?_
  rintro _ w34 ⟨t', rfl, ho', e34, hb'⟩
  have hS34 := hS32.ext e34
  obtain ⟨hH, -, hf⟩ := hS34.hole
  have hq : [x, y].flatMap (·.2) = x.2 ++ y.2 := by simp
  rw [hq] at ho'
  refine ⟨t', rfl, hS34.cell, a, 0, ha, hbx, rfl, ?_⟩
  rw [Int.toNat_natCast, Nat.zero_add]
  refine hH.store ha rfl fun w38 hH38 hc38 => ?_
  have hfree : ∀ j, inSt b s (L ++ x :: y :: R) j → ∀ k ∈ blk t', k ≠ j := fun j hj k hk e => by have := hS32.lt hj; have := hb' k hk; omega
  have ho38 := ho'.ch hc38 fun j hj hjs => hfree j (.inr (.inl hjs)) j hj rfl
  have hS38 : St w38 b s (L ++ (t', x.2 ++ y.2) :: y :: R) := StH.fill (x := (t', x.2 ++ y.2)) hH38 ho38 fun j hj hin => hfree j (inSt_of hin) j hj rfl
  have hC38 : Ch A w0 w38 := (((hCd.thenExt edd).thenExt e32).thenExt e34).thenNew hc38 fun j hj => hA j (.inr (.inl hj))
  have hreas : L ++ (t', x.2 ++ y.2) :: y :: R = (L ++ [(t', x.2 ++ y.2)]) ++ y :: R := by simp
  have hS38' := hS38
  rw [hreas] at hS38'
  obtain ⟨hH2, -, -⟩ := hS38'.hole
  have harr : OwS w38 s 1 (((L ++ (t', x.2 ++ y.2) :: y :: R).map (·.1)).map slV) := by rw [List.map_map]; exact hS38.arr
  refine ⟨b, 0, rfl, s, hS38.cell, ?_⟩
  refine (c71 harr (by simp only [List.length_append, List.length_cons, List.length_map] at hlen ⊢; omega) (by simp)).use ?_
  rintro _ w43 ⟨s44, rfl, ho44, hc44, hb44⟩
  have hlist : ((L ++ (t', x.2 ++ y.2) :: y :: R).map (·.1)).take (L.length + 1) ++ ((L ++ (t', x.2 ++ y.2) :: y :: R).map (·.1)).drop (L.length + 1 + 1) = ((L ++ [(t', x.2 ++ y.2)]) ++ R).map (·.1) := by
    rw [← List.map_take, ← List.map_drop, List.take_append, List.drop_append, List.take_of_length_le (by omega), List.drop_of_length_le (by omega), Nat.add_sub_cancel_left, show L.length + 1 + 1 - L.length = 2 by omega]
    simp
  rw [hlist, List.map_map] at ho44
  refine ⟨s44, rfl, b, 0, rfl, rfl, setBox2 (x := y) hH2 ho44 hc44 hb44 fun w47 hS47 hc47 => ?_⟩
  refine ⟨rfl, (hC38.thenNew hc44 fun j hj => hA j (.inr (.inl hj))).thenNew hc47 fun j hj => hA j (.inl hj), s44, _, hS47, ?_, ?_⟩
  · simp only [if_true]
    unfold joinP
    rw [hPx, hPy, ← hP]
    simp [List.take_append, List.drop_append, show L.length + 2 - L.length = 2 by omega]
  · rintro j (rfl | h | ⟨z, hz, h⟩)
    · exact hA _ (.inl rfl)
    · exact hA j (.inr (.inl (hb44 ▸ h)))
    · rcases List.mem_append.1 hz with hz | hz
      · rcases List.mem_append.1 hz with hz | hz
        · exact hA j (.inr (.inr ⟨z, by simp [hz], h⟩))
        · simp at hz; subst hz
          have h0 := hb' j h
          have h1 : w0.heap.size ≤ w32.heap.size := ((hCd.thenExt edd).thenExt e32).size
          exact .inr (by omega)
      · exact hA j (.inr (.inr ⟨z, by simp [hz], h⟩))
end Go.Proofs.Ytopecljhehcldaa.Gx
