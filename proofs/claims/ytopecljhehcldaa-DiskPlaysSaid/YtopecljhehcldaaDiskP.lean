/- Package disk's reference: Sync, Crash, There, Write. -/
import Derived.Test.YtopecljhehcldaaDiskO
namespace Go.Proofs.Ytopecljhehcldaa.Gx
open Go
set_option linter.unusedSimpArgs false
set_option linter.unusedVariables false

/-- The first j of one list, then another one. -/
def mixL {α : Type} (a b : List α) (j : Nat) : List α := a.take j ++ b.drop j
theorem mixL_zero {α : Type} (a b : List α) : mixL a b 0 = b := by simp [mixL]
theorem mixL_all {α : Type} {a b : List α} (h : b.length = a.length) {j : Nat} (hj : a.length ≤ j) : mixL a b j = a := by
  unfold mixL; rw [List.take_of_length_le hj, List.drop_of_length_le (by omega), List.append_nil]
theorem mixL_at {α : Type} {a b : List α} (h : b.length = a.length) (j i : Nat) : (mixL a b j)[i]? = if i < j then a[i]? else b[i]? := by
  unfold mixL
  rw [List.getElem?_append, List.length_take, List.getElem?_take, List.getElem?_drop]
  by_cases hij : i < j
  · by_cases hi : i < a.length
    · rw [if_pos (by omega), if_pos hij, if_pos hij]
    · rw [if_neg (by omega), if_pos hij, List.getElem?_eq_none (by omega), List.getElem?_eq_none (by omega)]
  · rw [if_neg (by omega), if_neg hij]
    by_cases hi : i < a.length
    · rw [show j + (i - min j a.length) = i by omega]
    · rw [List.getElem?_eq_none (by omega), List.getElem?_eq_none (by omega)]
theorem mixL_len {α : Type} {a b : List α} (h : b.length = a.length) (j : Nat) : (mixL a b j).length = a.length := by
  unfold mixL; rw [List.length_append, List.length_take, List.length_drop]; omega
theorem mixL_get {α : Type} {a b : List α} (h : b.length = a.length) (j : Nat) : (mixL a b j)[j]? = b[j]? := by
  rw [mixL_at h, if_neg (by omega)]
theorem mixL_set {α : Type} {a b : List α} (h : b.length = a.length) {j : Nat} {x : α} (hx : a[j]? = some x) : (mixL a b j).set j x = mixL a b (j + 1) := by
  have hj := (List.getElem?_eq_some_iff.1 hx).1
  apply List.ext_getElem?
  intro i
  rw [List.getElem?_set, mixL_len h, mixL_at h, mixL_at h]
  by_cases hi : j = i
  · subst hi; rw [if_pos rfl, if_pos hj, if_pos (by omega), hx]
  · rw [if_neg hi]
    by_cases h1 : i < j
    · rw [if_pos h1, if_pos (by omega)]
    · rw [if_neg h1, if_neg (by omega)]
theorem mixL_same {α : Type} {a b : List α} (h : b.length = a.length) {j : Nat} (hx : a[j]? = b[j]?) : mixL a b j = mixL a b (j + 1) := by
  apply List.ext_getElem?
  intro i
  rw [mixL_at h, mixL_at h]
  by_cases hi : i = j
  · subst hi; rw [if_neg (by omega), if_pos (by omega), hx]
  · by_cases h1 : i < j
    · rw [if_pos h1, if_pos (by omega)]
    · rw [if_neg h1, if_neg (by omega)]

section
variable {w : World} {b : Nat} {s0 s1 s2 : Sl} {la rd : List Sec} {dt : List Bool}

theorem c51 (h : Rf w b s0 s1 s2 la rd dt) (i : Int) : CW Try.prog 51 #[.pointer (some ⟨b, 0, none⟩), iv i] w fun v w' => v = .bool (decide (0 ≤ i ∧ i < (la.length : Int))) ∧ w = w' := by
  refine F51_ok _ i w _ (IfB.dec (fun h0 => ⟨b, 0, rfl, s1, h.k1, ?_, rfl⟩) (fun h0 => ⟨by rw [decide_eq_false (by omega)], rfl⟩))
  rw [show s1.2 = s1.n from rfl, h.n.2.1]
  congr 1
  exact decide_eq_decide.2 (by omega)

theorem c52 (h : Rf w b s0 s1 s2 la rd dt) {i : Nat} (hi : i < la.length) (x : Sec) : CW Try.prog 52 #[.pointer (some ⟨b, 0, none⟩), iv i, secV x] w fun v w' => v = .tuple #[] ∧ Rf w' b s0 s1 s2 la (rd.set i x) (dt.set i true) ∧ Ch (inRf b s0 s1 s2) w w' := by
  refine F52_ok _ i x w _ ?_
  intro b1 w2 a2
  have e2 : Ext w w2 := a2.ch _
  have ed := extDrew w2
  have H := (h.ext e2).ext ed
  obtain ⟨a, ha, _⟩ := ows_sec H.a1 (i := i) (x := rd[i]'(by rw [h.l1]; exact hi)) (List.getElem?_eq_getElem _)
  obtain ⟨c, hc, _⟩ := ows_bool H.a2 (i := i) (x := dt[i]'(by rw [h.l2]; exact hi)) (List.getElem?_eq_getElem _)
  refine ⟨b, 0, rfl, s1, H.k1, x, (sec_at a2.new).ch ed id, a, 0, ha, ⟨by omega, by show (i : Int) < (s1.n : Int); rw [H.n.2.1]; omega⟩, rfl, ?_⟩
  rw [Int.toNat_natCast]
  refine H.st1 ha hi x fun w9 H9 c9 => ⟨b, 0, rfl, s2, H9.k2, c, 0, hc, ⟨by omega, by show (i : Int) < (s2.n : Int); rw [H9.n.2.2]; omega⟩, rfl, H9.st2 hc hi true fun w15 H15 c15 => ⟨rfl, H15, ?_⟩⟩
  exact (((e2.trans ed).mono fun _ _ h => h.elim).trans c9).trans c15

theorem c49 (h : Rf w b s0 s1 s2 la rd dt) (hn : la.length ≤ 4096) : CW Try.prog 49 #[.pointer (some ⟨b, 0, none⟩)] w fun v w' => v = .tuple #[] ∧ Rf w' b s0 s1 s2 rd rd (List.replicate la.length false) ∧ Ch (inRf b s0 s1 s2) w w' := by
  have l0 : la.length = rd.length := h.l1.symm
  have l2 : dt.length = (List.replicate la.length false).length := by rw [List.length_replicate]; exact h.l2
  refine F49_ok _ w _ ⟨fun n x W => ∃ j : Nat, x = (j : Int) ∧ n + j = la.length ∧ Rf W b s0 s1 s2 (mixL rd la j) rd (mixL (List.replicate la.length false) dt j) ∧ Ch (inRf b s0 s1 s2) w W, ⟨la.length, 0, rfl, rfl, by rw [mixL_zero, mixL_zero]; exact h, Ch.refl _ _⟩, ?_⟩
  rintro n _ W g ⟨j, rfl, hj, H, hC⟩
  have hl : (mixL rd la j).length = la.length := by rw [mixL_len l0, h.l1]
  have hn1 := H.n
  rw [hl] at hn1
  unfold F49j1
  refine ⟨b, 0, rfl, s1, H.k1, IfB.dec (fun hlt => ?_) fun hge => ?_⟩
  · rw [hn1.2.1] at hlt
    have hj' : j < la.length := by omega
    have ed := extDrew W
    have Hd := H.ext ed
    have hx : rd[j]? = some (rd[j]'(by omega)) := List.getElem?_eq_getElem _
    generalize rd[j]'(by omega) = x at hx
    obtain ⟨a1, ha1, hc1⟩ := ows_sec Hd.a1 hx
    obtain ⟨a0, ha0, _⟩ := ows_sec Hd.a0 (i := j) (x := (mixL rd la j)[j]'(by omega)) (List.getElem?_eq_getElem _)
    have hb : ∀ {s : Sl}, s.n = la.length → (0 : Int) ≤ (j : Int) ∧ (j : Int) < (s.n : Int) := fun h => ⟨by omega, by omega⟩
    refine ⟨b, 0, rfl, s0, Hd.k0, b, 0, rfl, s1, Hd.k1, a1, 0, ha1, hb hn1.2.1, x, by rw [Int.toNat_natCast]; exact hc1, a0, 0, ha0, hb hn1.1, rfl, ?_⟩
    rw [Int.toNat_natCast]
    refine Hd.st0 ha0 (by omega) x fun w22 H22 c22 => ?_
    obtain ⟨a2, ha2, _⟩ := ows_bool H22.a2 (i := j) (x := (mixL (List.replicate la.length false) dt j)[j]'(by rw [mixL_len l2, List.length_replicate]; omega)) (List.getElem?_eq_getElem _)
    refine ⟨b, 0, rfl, s2, H22.k2, a2, 0, ha2, hb hn1.2.2, rfl, H22.st2 ha2 (by rw [List.length_set]; omega) false fun w28 H28 c28 => ⟨rfl, n - 1, by omega, j + 1, wp1 (by omega), by omega, ?_, ((hC.then ed fun _ _ h => h.elim).trans c22).trans c28⟩⟩
    rw [mixL_set l0 hx, mixL_set l2 (by rw [List.getElem?_replicate, if_pos hj'])] at H28
    exact H28
  · rw [hn1.2.1] at hge
    have : j = la.length := by omega
    rw [mixL_all l0 (by omega), mixL_all l2 (by rw [List.length_replicate]; omega)] at H
    exact ⟨rfl, H, hC⟩

/-! ### Crash -/
/-- How many are dirty ahead of a place. -/
def rk (dt : List Bool) (i : Nat) : Nat := ((dt.take i).filter id).length
theorem rk_succ {dt : List Bool} {i : Nat} {x : Bool} (h : dt[i]? = some x) : rk dt (i + 1) = rk dt i + if x then 1 else 0 := by
  unfold rk
  rw [take_succ_get h, List.filter_append, List.length_append]
  cases x <;> rfl
theorem rk_le (dt : List Bool) (i : Nat) : rk dt i ≤ i := by
  unfold rk
  exact Nat.le_trans (List.length_filter_le _ _) (List.length_take_le _ _)
def isD (dt : List Bool) (i : Nat) : Bool := (dt[i]?).getD false
def crL (la rd : List Sec) (dt keep : List Bool) : List Sec := (List.range la.length).map fun i => if isD dt i && ansL keep (rk dt i) then (rd[i]?).getD sec0 else (la[i]?).getD sec0
def crR (la rd : List Sec) (dt keep : List Bool) : List Sec := (List.range la.length).map fun i => if isD dt i then ((crL la rd dt keep)[i]?).getD sec0 else (rd[i]?).getD sec0
theorem range_map_get {α : Type} (F : Nat → α) (n i : Nat) : ((List.range n).map F)[i]? = if i < n then some (F i) else none := by
  rw [List.getElem?_map]
  by_cases h : i < n
  · rw [if_pos h, List.getElem?_eq_getElem (by rw [List.length_range]; exact h), List.getElem_range]; rfl
  · rw [if_neg h, List.getElem?_eq_none (by rw [List.length_range]; omega)]; rfl
theorem crL_len (la rd : List Sec) (dt keep : List Bool) : (crL la rd dt keep).length = la.length := by unfold crL; simp
theorem crR_len (la rd : List Sec) (dt keep : List Bool) : (crR la rd dt keep).length = la.length := by unfold crR; simp

theorem c50 (h : Rf w b s0 s1 s2 la rd dt) (hn : la.length ≤ 4096) {t : Sl} {keep : List Bool} (hr : Rd w t 1 (keep.map Value.bool)) (ht : 0 < t.n → ∀ i ∈ blk t, ¬ inRf b s0 s1 s2 i) :
    CW Try.prog 50 #[.pointer (some ⟨b, 0, none⟩), slV t] w fun v w' => v = .tuple #[] ∧ Rf w' b s0 s1 s2 (crL la rd dt keep) (crR la rd dt keep) (List.replicate la.length false) ∧ Ch (inRf b s0 s1 s2) w w' := by
  have htn : t.n = keep.length := by have := hr.len1; rw [List.length_map] at this; exact this
  have l0 : la.length = (crL la rd dt keep).length := (crL_len ..).symm
  have l1 : rd.length = (crR la rd dt keep).length := by rw [crR_len]; exact h.l1
  have l2 : dt.length = (List.replicate la.length false).length := by rw [List.length_replicate]; exact h.l2
  refine F50_ok _ t w _ ⟨fun n x W => ∃ j : Nat, x = ((rk dt j : Int), (j : Int)) ∧ n + j = la.length ∧ Rf W b s0 s1 s2 (mixL (crL la rd dt keep) la j) (mixL (crR la rd dt keep) rd j) (mixL (List.replicate la.length false) dt j) ∧ Ch (inRf b s0 s1 s2) w W, ⟨la.length, 0, rfl, rfl, by rw [mixL_zero, mixL_zero, mixL_zero]; exact h, Ch.refl _ _⟩, ?_⟩
  rintro n _ W g ⟨j, rfl, hj, H, hC⟩
  have hl : (mixL (crL la rd dt keep) la j).length = la.length := by rw [mixL_len l0, l0]
  have hn1 := H.n
  rw [hl] at hn1
  unfold F50j1
  refine ⟨b, 0, rfl, s1, H.k1, IfB.dec (fun hlt => ?_) fun hge => ?_⟩
  · dsimp only at hlt
    rw [hn1.2.1] at hlt
    have hj' : j < la.length := by omega
    have hb : ∀ {s : Sl}, s.n = la.length → (0 : Int) ≤ (j : Int) ∧ (j : Int) < (s.n : Int) := fun h => ⟨by omega, by omega⟩
    have hd : dt[j]? = some (dt[j]'(by rw [h.l2]; exact hj')) := List.getElem?_eq_getElem _
    generalize dt[j]'(by rw [h.l2]; exact hj') = d at hd
    have hx : rd[j]? = some (rd[j]'(by rw [h.l1]; exact hj')) := List.getElem?_eq_getElem _
    generalize rd[j]'(by rw [h.l1]; exact hj') = x at hx
    have hy : la[j]? = some la[j] := List.getElem?_eq_getElem _
    generalize la[j] = y at hy
    have hD : isD dt j = d := by unfold isD; rw [hd]; rfl
    have cL : (crL la rd dt keep)[j]? = some (if d && ansL keep (rk dt j) then x else y) := by
      unfold crL; rw [range_map_get, if_pos hj', hx, hy, hD]; rfl
    have cR : (crR la rd dt keep)[j]? = some (if d then (if d && ansL keep (rk dt j) then x else y) else x) := by
      unfold crR; rw [range_map_get, if_pos hj', hx, cL, hD]; rfl
    have cF : (List.replicate la.length false)[j]? = some false := by rw [List.getElem?_replicate, if_pos hj']
    obtain ⟨a2, ha2, hc2⟩ := ows_bool H.a2 (i := j) (x := d) (by rw [mixL_get l2]; exact hd)
    have hrk := rk_succ hd
    have hrl := rk_le dt j
    refine ⟨b, 0, rfl, s2, H.k2, a2, 0, ha2, hb hn1.2.2, d, by rw [Int.toNat_natCast]; exact hc2, IfB.intro (fun hdf => ?_) fun hdt => ?_⟩
    · have hdf : d = false := by simpa using hdf
      subst hdf
      refine ⟨rfl, n - 1, by omega, j + 1, ?_, by omega, ?_, hC⟩
      · rw [hrk]; dsimp only; rw [wp1 (by omega)]; rfl
      · rw [← mixL_same l0 (by rw [cL, hy]; rfl), ← mixL_same l1 (by rw [cR, hx]; rfl), ← mixL_same l2 (by rw [cF, hd])]; exact H
    · have hdt : d = true := by simpa using hdt
      subst hdt
      rw [if_pos rfl] at cR hrk
      rw [Bool.true_and] at cL cR
      have nxt : ((IntKind.i64.wrap ((rk dt j : Int) + 1), IntKind.i64.wrap ((j : Int) + 1)) : Int × Int) = ((rk dt (j + 1) : Int), ((j + 1 : Nat) : Int)) := by rw [wp1 (by omega), wp1 (by omega), hrk]
      -- the read of what lasts, and the rest
      have tail : ∀ {W1 : World} {z : Sec} {la1 : List Sec}, (if ansL keep (rk dt j) = true then x else y) = z → la1 = mixL (crL la rd dt keep) la (j + 1) → Rf W1 b s0 s1 s2 la1 (mixL (crR la rd dt keep) rd j) (mixL (List.replicate la.length false) dt j) → Ch (inRf b s0 s1 s2) w W1 →
          F50k1 (some ⟨b, 0, none⟩) W1 ((rk dt j : Int), (j : Int)) n fun n x W => ∃ j : Nat, x = ((rk dt j : Int), (j : Int)) ∧ n + j = la.length ∧ Rf W b s0 s1 s2 (mixL (crL la rd dt keep) la j) (mixL (crR la rd dt keep) rd j) (mixL (List.replicate la.length false) dt j) ∧ Ch (inRf b s0 s1 s2) w W := by
        intro W1 z la1 hz hla1 H1 hC1
        subst hla1
        have ed := extDrew W1
        have Hd := H1.ext ed
        rw [hz] at cL cR
        have hl1 : (mixL (crL la rd dt keep) la (j + 1)).length = la.length := by rw [mixL_len l0, l0]
        obtain ⟨a0, ha0, hc0⟩ := ows_sec Hd.a0 (i := j) (x := z) (by rw [mixL_at l0, if_pos (by omega)]; exact cL)
        obtain ⟨a1, ha1, _⟩ := ows_sec Hd.a1 (i := j) (x := x) (by rw [mixL_get l1]; exact hx)
        refine ⟨b, 0, rfl, s1, Hd.k1, b, 0, rfl, s0, Hd.k0, a0, 0, ha0, hb hn1.1, z, by rw [Int.toNat_natCast]; exact hc0, a1, 0, ha1, hb hn1.2.1, rfl, ?_⟩
        dsimp only
        rw [Int.toNat_natCast]
        refine Hd.st1 ha1 (by omega) z fun w82 H82 c82 => ?_
        obtain ⟨a2, ha2, _⟩ := ows_bool H82.a2 (i := j) (x := true) (by rw [mixL_get l2]; exact hd)
        refine ⟨b, 0, rfl, s2, H82.k2, a2, 0, ha2, hb hn1.2.2, rfl, H82.st2 ha2 (by omega) false fun w88 H88 c88 => ⟨rfl, n - 1, by omega, j + 1, nxt, by omega, ?_, ((hC1.then ed fun _ _ h => h.elim).trans c82).trans c88⟩⟩
        rw [mixL_set l1 cR, mixL_set l2 cF] at H88
        exact H88
      have hrW : Rd W t 1 (keep.map Value.bool) := hr.ch0 hC ht
      have no : ansL keep (rk dt j) = false → F50k1 (some ⟨b, 0, none⟩) W ((rk dt j : Int), (j : Int)) n fun n x W => ∃ j : Nat, x = ((rk dt j : Int), (j : Int)) ∧ n + j = la.length ∧ Rf W b s0 s1 s2 (mixL (crL la rd dt keep) la j) (mixL (crR la rd dt keep) rd j) (mixL (List.replicate la.length false) dt j) ∧ Ch (inRf b s0 s1 s2) w W := fun hno => by
        rw [hno] at cL
        exact tail (z := y) (by rw [hno]; rfl) (mixL_same l0 (by rw [cL, hy]; rfl)) H hC
      refine IfB.dec (fun hk => ?_) fun hk => no ?_
      · have hk' : rk dt j < keep.length := by dsimp only at hk; omega
        have hv : (keep.map Value.bool)[rk dt j]? = some (.bool keep[rk dt j]) := by rw [List.getElem?_map, List.getElem?_eq_getElem hk']; rfl
        have hans : ansL keep (rk dt j) = keep[rk dt j] := by unfold ansL; rw [List.getElem?_eq_getElem hk']; rfl
        generalize keep[rk dt j] = q at hv hans
        obtain ⟨a, o, ha, hc⟩ := hrW.elem1 hv
        refine ⟨a, o, ha, ⟨by dsimp only; omega, hk⟩, q, by dsimp only; rw [Int.toNat_natCast]; exact hc, IfB.intro (fun hq => ?_) fun hq => no (by rw [hans, hq])⟩
        subst hq
        rw [hans, if_pos rfl] at cL
        have ed := extDrew W
        have Hd := H.ext ed
        obtain ⟨a1, ha1, hc1⟩ := ows_sec Hd.a1 (i := j) (x := x) (by rw [mixL_get l1]; exact hx)
        obtain ⟨a0, ha0, _⟩ := ows_sec Hd.a0 (i := j) (x := y) (by rw [mixL_get l0]; exact hy)
        refine ⟨b, 0, rfl, s0, Hd.k0, b, 0, rfl, s1, Hd.k1, a1, 0, ha1, hb hn1.2.1, x, by dsimp only; rw [Int.toNat_natCast]; exact hc1, a0, 0, ha0, hb hn1.1, rfl, ?_⟩
        dsimp only
        rw [Int.toNat_natCast]
        refine Hd.st0 ha0 (by omega) x fun w32 H32 c32 => ?_
        rw [mixL_set l0 cL] at H32
        exact tail (z := x) (by rw [hans]; rfl) rfl H32 ((hC.then ed fun _ _ h => h.elim).trans c32)
      · unfold ansL
        rw [List.getElem?_eq_none (by dsimp only at hk; omega)]; rfl
  · dsimp only at hge
    rw [hn1.2.1] at hge
    have : j = la.length := by omega
    rw [mixL_all l0 (by omega), mixL_all l1 (by rw [crR_len]; omega), mixL_all l2 (by rw [List.length_replicate]; omega)] at H
    exact ⟨rfl, H, hC⟩
end
end Go.Proofs.Ytopecljhehcldaa.Gx
