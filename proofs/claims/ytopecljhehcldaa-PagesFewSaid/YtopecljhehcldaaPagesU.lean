/- The document's pages: Get, Delete, Pairs, Scan; Same. -/
import Derived.Test.YtopecljhehcldaaPagesS
namespace Go.Proofs.Ytopecljhehcldaa.Gx
open Go
set_option linter.unusedSimpArgs false
set_option linter.unusedVariables false

theorem idxF_yes {P : List (List Pr)} {k : Int} (h : hasP P k = true) : idxF P k = (posP (P.getD (atP P k) []) k : Int) := by unfold idxF; rw [h]; rfl
theorem idxF_no {P : List (List Pr)} {k : Int} (h : hasP P k = false) : idxF P k = -1 := by unfold idxF; rw [h]; rfl

theorem c33 {w : World} {b : Nat} {P : List (List Pr)} {s : Sl} {ps : List Pg} (hS : RS w b s ps) (hP : ps.map (·.2) = P) (hI : Inv P) (k : Int) :
    CW Try.prog 33 #[.pointer (some ⟨b, 0, none⟩), .int .i64 k] w fun r w' => r = .tuple #[.int .i64 (getP P k).1, .int .i64 (getP P k).2] ∧ w = w' := by
  unfold getP
  refine F33_ok _ _ _ _ (IfB.dec (fun hlt => ?_) (fun hge => IfB.dec (fun hgt => ?_) (fun hle => ?_)))
  · rw [if_neg (by omega)]; exact ⟨rfl, rfl⟩
  · rw [if_neg (by omega)]; exact ⟨rfl, rfl⟩
  rw [if_pos (by omega)]
  refine (c63 hS hP hI k).use ?_
  rintro _ _ ⟨rfl, rfl⟩
  refine ⟨((atP P k : Int), idxF P k), rfl, ?_⟩
  dsimp only
  cases hh : hasP P k with
  | false => rw [idxF_no hh]; exact IfB.yes rfl ⟨rfl, rfl⟩
  | true =>
    have hne : P ≠ [] := fun e => by subst e; rw [hasP_nil] at hh; cases hh
    have hAt := atP_is hI hne k
    obtain ⟨L, x, R, rfl, hL, hx, hLm, hRm⟩ := split_at hP hAt
    have hi' : isP x.2 k = true := by rw [hx]; exact hh
    obtain ⟨u, hu⟩ := isP_iff.1 hi'
    have hpl := (List.getElem?_eq_some_iff.1 hu).1
    have hxi : (L ++ x :: R)[atP P k]? = some x := by rw [← hL]; simp
    obtain ⟨a, o, ha, hca, hr, hxn⟩ := hS.page hxi
    obtain ⟨a2, o2, ha2, hc2⟩ := pageR hr hu
    have hsn := hS.n
    have hlen : (L ++ x :: R).length = P.length := by rw [← hP, List.length_map]
    have hv : valP P k = u := by unfold valP; rw [← hx, hu]
    rw [idxF_yes hh, ← hx]
    refine IfB.no (decide_eq_false (by omega)) ⟨b, 0, rfl, s, hS.cell, a, o, ha, (⟨by omega, by have := hAt.lt; omega⟩ : (0 : Int) ≤ (atP P k : Int) ∧ (atP P k : Int) < (s.n : Int)), x.1, by rw [Int.toNat_natCast]; exact hca, a2, o2, ha2, (⟨by omega, by omega⟩ : (0 : Int) ≤ (posP x.2 k : Int) ∧ (posP x.2 k : Int) < (x.1.n : Int)), u, ?_, ?_, rfl⟩
    · rw [Int.toNat_natCast]; exact hc2.snd
    · rw [hv]; rfl

/-! ### Pairs, Scan, Same -/
theorem c26 {w : World} {b : Nat} {P : List (List Pr)} {s : Sl} {ps : List Pg} (hS : RS w b s ps) (hP : ps.map (·.2) = P) (hI : Inv P) :
    CW Try.prog 26 #[.pointer (some ⟨b, 0, none⟩)] w fun r w' => ∃ t, r = slV t ∧ OwS w' t 2 (prs P.flatten) ∧ Ext w w' ∧ ∀ i ∈ blk t, w.heap.size ≤ i := by
  have hsn := hS.n
  have hlen : ps.length = P.length := by rw [← hP, List.length_map]
  have hpl := hI.plen
  have hfl := hI.flen
  have hflat : flatS ps = P.flatten := flatS_eq hP
  refine F26_ok _ _ _ ?_
  refine ⟨fun n x w5 => ∃ i t, i ≤ ps.length ∧ n + i = ps.length ∧ x = (t, (i : Int)) ∧ OwS w5 t 2 (prs (flatS (ps.take i))) ∧ Ext w w5 ∧ ∀ j ∈ blk t, w.heap.size ≤ j, ⟨ps.length, 0, ⟨none, 0, 0⟩, Nat.zero_le _, rfl, rfl, .nil _ _, Ch.refl _ _, by simp [blk]⟩, ?_⟩
  rintro n _ w5 g ⟨i, t, hi, hni, rfl, ho, hx5, hb⟩
  unfold F26j1
  refine ⟨b, 0, rfl, s, (hS.ext hx5).cell, IfB.dec (fun hlt => ?_) (fun hge => ?_)⟩
  · have hi' : i < ps.length := by
      have : (i : Int) < (s.n : Int) := hlt
      omega
    have hx : ps[i]? = some ps[i] := List.getElem?_eq_getElem hi'
    generalize ps[i] = y at hx
    obtain ⟨a, o, ha, hc, hr, hxn⟩ := (hS.ext hx5).page hx
    have hsum : (flatS (ps.take (i + 1))).length = (flatS (ps.take i)).length + y.2.length := by
      rw [take_succ_get hx]; simp [flatS]
    have hsl : (flatS (ps.take (i + 1))).length ≤ 1000 := by
      have : (flatS (ps.take (i + 1))).length ≤ (flatS ps).length := sumL_le ps (i + 1)
      rw [hflat] at this; omega
    have htn : t.n = (flatS (ps.take i)).length := by have := ho.len; rw [prs_len] at this; omega
    refine ⟨b, 0, rfl, s, (hS.ext hx5).cell, a, o, ha, (⟨by omega, by omega⟩ : (0 : Int) ≤ (i : Int) ∧ (i : Int) < (s.n : Int)), y.1, by rw [Int.toNat_natCast]; exact hc, _, hr.2, ?_⟩
    refine ho.append (cnt := y.1.n) rfl rfl hr.1 (prs_one _) ⟨by omega, by dsimp only; omega⟩ fun s' w' ho' hn' hc' hb' _ => ⟨rfl, n - 1, by omega, i + 1, s', hi', by omega, ?_, ?_, newApp hx5 hb hc', newBlk hx5 hb hb'⟩
    · rw [wrap_of (by dsimp only; omega) (by dsimp only; omega)]; rfl
    · rw [take_succ_get hx]
      simpa [flatS, prs_append] using ho'
  · have hi' : i = ps.length := by
      have : ¬ (i : Int) < (s.n : Int) := hge
      omega
    rw [hi', List.take_length, hflat] at ho
    exact ⟨t, rfl, ho, hx5, hb⟩

theorem c24 {w : World} {b : Nat} {P : List (List Pr)} {s : Sl} {ps : List Pg} (hS : RS w b s ps) (hP : ps.map (·.2) = P) (hI : Inv P) (lo hi : Int) :
    CW Try.prog 24 #[.pointer (some ⟨b, 0, none⟩), .int .i64 lo, .int .i64 hi] w fun r w' => ∃ t, r = slV t ∧ OwS w' t 2 (prs (P.flatten.filter fun x => decide (lo ≤ x.1) && decide (x.1 ≤ hi))) ∧ Ext w w' ∧ ∀ i ∈ blk t, w.heap.size ≤ i := by
  have hfl := hI.flen
  refine F24_ok _ _ _ _ _ ((c26 hS hP hI).use ?_)
  rintro _ w2 ⟨t0, rfl, ho0, hx2, hb0⟩
  have hn0 : t0.n = P.flatten.length := by have := ho0.len; rw [prs_len] at this; omega
  generalize hF : P.flatten = F at *
  refine ⟨t0, rfl, fun n x w5 => ∃ i t, i ≤ F.length ∧ n + i = F.length ∧ x = (t, (i : Int)) ∧ OwS w5 t 2 (prs ((F.take i).filter fun x => decide (lo ≤ x.1) && decide (x.1 ≤ hi))) ∧ Ext w2 w5 ∧ ∀ j ∈ blk t, w2.heap.size ≤ j, ⟨F.length, 0, ⟨none, 0, 0⟩, Nat.zero_le _, rfl, rfl, .nil _ _, Ch.refl _ _, by simp [blk]⟩, ?_⟩
  rintro n _ w5 g ⟨i, t, hi', hni, rfl, ho, hx5, hb⟩
  unfold F24j1
  refine IfB.dec (fun hlt => ?_) (fun hge => ?_)
  · have hi2 : i < F.length := by
      have : (i : Int) < (t0.n : Int) := hlt
      omega
    have hz : F[i]? = some F[i] := List.getElem?_eq_getElem hi2
    generalize F[i] = z at hz
    obtain ⟨a, ha, hc⟩ := pageE (ho0.ext hx5) hz
    have hbd : (0 : Int) ≤ (i : Int) ∧ (i : Int) < (t0.n : Int) := ⟨by omega, by omega⟩
    have hw : IntKind.i64.wrap ((i : Int) + (1 : Int)) = ((i + 1 : Nat) : Int) := by rw [wrap_of (by omega) (by omega)]; rfl
    have skip : ¬ (lo ≤ z.1 ∧ z.1 ≤ hi) → ([] : List Nat) = [] ∧ ∃ b26, b26 < n ∧ ∃ i' t', i' ≤ F.length ∧ b26 + i' = F.length ∧ (({ p := t.p, n := t.n, c := t.c } : Sl), IntKind.i64.wrap ((i : Int) + (1 : Int))) = (t', (i' : Int)) ∧ OwS w5 t' 2 (prs ((F.take i').filter fun x => decide (lo ≤ x.1) && decide (x.1 ≤ hi))) ∧ Ext w2 w5 ∧ ∀ j ∈ blk t', w2.heap.size ≤ j := fun hno => by
      refine ⟨rfl, n - 1, by omega, i + 1, t, hi2, by omega, by rw [hw], ?_, hx5, hb⟩
      rw [take_succ_get hz, List.filter_append, List.filter_cons_of_neg (by simpa using hno)]
      simpa using ho
    refine ⟨a, 0, ha, hbd, z.1, by rw [Int.toNat_natCast, Nat.zero_add]; exact hc.fst, IfB.dec (fun hlo => ?_) (fun hlo => skip fun h => hlo h.1)⟩
    refine ⟨a, 0, ha, hbd, z.1, by rw [Int.toNat_natCast, Nat.zero_add]; exact hc.fst, IfB.dec (fun hhi => ?_) (fun hhi => skip fun h => hhi h.2)⟩
    refine ⟨a, 0, ha, hbd, z, by rw [Int.toNat_natCast, Nat.zero_add]; exact hc, by decide, fun b20 w21 h21 => ?_⟩
    have x21 : Ext w5 w21 := h21.ch _
    have hfl2 := List.length_filter_le (fun x : Pr => decide (lo ≤ x.1) && decide (x.1 ≤ hi)) (F.take i)
    have htn : t.n = ((F.take i).filter fun x => decide (lo ≤ x.1) && decide (x.1 ≤ hi)).length := by have := ho.len; rw [prs_len] at this; omega
    rw [List.length_take] at hfl2
    refine (ho.ext x21).lit (new := [.int .i64 z.1, .int .i64 z.2]) h21.new rfl (prV_one z) rfl rfl (by omega) (by decide) fun l' w' ho' hn' hc' hb' => ⟨rfl, n - 1, by omega, i + 1, l', hi2, by omega, by dsimp only; rw [hw], ?_, newApp (hx5.trans x21) hb hc', newBlk (hx5.trans x21) hb hb'⟩
    rw [take_succ_get hz, List.filter_append, List.filter_cons_of_pos (by simp [hlo, hhi]), prs_append]
    exact ho'
  · have hi2 : i = F.length := by
      have : ¬ (i : Int) < (t0.n : Int) := hge
      omega
    rw [hi2, List.take_length] at ho
    exact ⟨t, rfl, ho, hx2.trans hx5, fun j hj => by have := hb j hj; have := hx2.size; omega⟩

theorem c22 {w : World} {t u : Sl} {xs ys : List Pr} (ht : Rd w t 2 (prs xs)) (hu : Rd w u 2 (prs ys)) (hl : xs.length ≤ 1000000) :
    CW Try.prog 22 #[slV t, slV u] w fun v w' => v = .bool (xs == ys) ∧ Ext w w' := by
  have htn : t.n = xs.length := by have := ht.1; rw [prs_len] at this; omega
  have hun : u.n = ys.length := by have := hu.1; rw [prs_len] at this; omega
  refine F22_ok t u w _ (IfB.intro (fun hne => ?_) (fun heq => ?_))
  · have : xs.length ≠ ys.length := by
      have : (t.n : Int) ≠ (u.n : Int) := by simpa using hne
      omega
    have e : (xs == ys) = false := by
      rw [beq_eq_false_iff_ne]; intro e; exact this (by rw [e])
    rw [e]
    exact ⟨rfl, Ch.refl _ _⟩
  have hlen : xs.length = ys.length := by
    have : (t.n : Int) = (u.n : Int) := by simpa using heq
    omega
  refine ⟨fun n x w5 => ∃ i : Nat, i ≤ xs.length ∧ n + i = xs.length ∧ x = (i : Int) ∧ Ext w w5 ∧ xs.take i = ys.take i, ⟨xs.length, 0, Nat.zero_le _, rfl, rfl, Ch.refl _ _, rfl⟩, ?_⟩
  rintro n _ w5 g ⟨i, hi, hni, rfl, e5, htk⟩
  unfold F22j1
  refine IfB.dec (fun hlt => ?_) (fun hge => ?_)
  · have hi' : i < xs.length := by omega
    have hi2 : i < ys.length := by omega
    have hx : xs[i]? = some xs[i] := List.getElem?_eq_getElem hi'
    have hy : ys[i]? = some ys[i] := List.getElem?_eq_getElem hi2
    have ed := e5.trans (extDrew w5)
    obtain ⟨a, o, ha, hca⟩ := pageR (ht.ext ed) hx
    obtain ⟨a', o', ha', hca'⟩ := pageR (hu.ext ed) hy
    refine ⟨a, o, ha, (⟨by omega, by omega⟩ : (0 : Int) ≤ (i : Int) ∧ (i : Int) < (t.n : Int)), xs[i], by rw [Int.toNat_natCast]; exact hca, a', o', ha', (⟨by omega, by omega⟩ : (0 : Int) ≤ (i : Int) ∧ (i : Int) < (u.n : Int)), ys[i], by rw [Int.toNat_natCast]; exact hca', _, eqPair _ _, ?_⟩
    refine IfB.intro (fun hb => ?_) (fun hb => ?_)
    · have e : (xs == ys) = false := by
        rw [beq_eq_false_iff_ne]; rintro rfl; simp at hb
      rw [e]
      exact ⟨rfl, ed⟩
    · have he : xs[i] = ys[i] := by simpa using hb
      refine ⟨rfl, n - 1, by omega, i + 1, hi', by omega, by rw [wrap_of (by omega) (by omega)]; rfl, ed, ?_⟩
      rw [take_succ_get hx, take_succ_get hy, htk, he]
  · have hi' : i = xs.length := by omega
    subst hi'
    have e : xs = ys := by rw [List.take_length, hlen, List.take_length] at htk; exact htk
    subst e
    exact ⟨by simp, e5⟩

/-! ### Delete -/
theorem canJ_last {L : List (List Pr)} {q : List Pr} : canJ (L ++ [q]) L.length = false := by
  unfold canJ; rw [decide_eq_false (by simp), Bool.false_and]

theorem canJ_cut0 {Q : List (List Pr)} {L R : List (List Pr)} {z q : List Pr} (hQ : Q = (L ++ [z]) ++ q :: R) : canJ Q L.length = decide (z.length + q.length ≤ 4) ∧ joinP Q L.length = L ++ [z ++ q] ++ R := by
  subst hQ
  have e1 : ((L ++ [z]) ++ q :: R).getD L.length [] = z := by
    rw [List.getD_eq_getElem?_getD, List.append_assoc, List.getElem?_append_right (Nat.le_refl _)]; simp
  have e2 : ((L ++ [z]) ++ q :: R).getD (L.length + 1) [] = q := by
    rw [List.getD_eq_getElem?_getD, List.append_assoc, List.getElem?_append_right (by omega)]; simp
  unfold canJ joinP
  rw [e1, e2, decide_eq_true (by simp), Bool.true_and]
  refine ⟨rfl, ?_⟩
  have e3 : ((L ++ [z]) ++ q :: R).take L.length = L := by rw [List.append_assoc, List.take_append_of_le_length (Nat.le_refl _), List.take_length]
  have e4 : ((L ++ [z]) ++ q :: R).drop (L.length + 2) = R := by
    rw [show (L ++ [z]) ++ q :: R = (L ++ [z, q]) ++ R by simp, show L.length + 2 = (L ++ [z, q]).length by simp, List.drop_append_of_le_length (Nat.le_refl _), List.drop_length, List.nil_append]
  rw [e3, e4]; simp

theorem joinP_cut {Q : List (List Pr)} {L R : List (List Pr)} {y q : List Pr} (hQ : Q = L ++ q :: y :: R) : joinP Q L.length = L ++ [q ++ y] ++ R :=
  (canJ_cut0 (L := L) (z := q) (q := y) (R := R) (by rw [hQ]; simp)).2

theorem c32 {A : Nat → Prop} {w : World} {b : Nat} {P : List (List Pr)} (h : RA A w b P) (hI : Inv P) (k : Int) :
    CW Try.prog 32 #[.pointer (some ⟨b, 0, none⟩), .int .i64 k] w fun r w' => r = .int .i64 (delR P k) ∧ RA (New A w) w' b (delQ P k) ∧ Ch (fun i => i = b) w w' := by
  have hRA := h
  obtain ⟨s, ps, hS, hP, hA⟩ := h
  unfold delR delQ
  refine F32_ok _ _ _ _ (IfB.dec (fun hlt => ?_) (fun hge => IfB.dec (fun hgt => ?_) (fun hle => ?_)))
  · rw [if_neg (by omega), if_neg (by omega)]
    exact ⟨rfl, hRA.mono fun i _ h => .inl h, Ch.refl _ _⟩
  · rw [if_neg (by omega), if_neg (by omega)]
    exact ⟨rfl, hRA.mono fun i _ h => .inl h, Ch.refl _ _⟩
  have hk : 0 ≤ k ∧ k ≤ 999 := by omega
  rw [if_pos hk, if_pos hk]
  refine (c63 hS hP hI k).use ?_
  rintro _ _ ⟨rfl, rfl⟩
  refine ⟨((atP P k : Int), idxF P k), rfl, ?_⟩
  dsimp only
  have hbw : b < w.heap.size := hS.low b (.inl rfl)
  cases hh : hasP P k with
  | false => rw [idxF_no hh]; exact IfB.yes rfl ⟨rfl, hRA.mono fun i _ h => .inl h, Ch.refl _ _⟩
  | true =>
  have hne : P ≠ [] := fun e => by subst e; rw [hasP_nil] at hh; cases hh
  have hAt := atP_is hI hne k
  obtain ⟨L, x, R, rfl, hL, hx, hLm, hRm⟩ := split_at hP hAt
  have hi' : isP x.2 k = true := by rw [hx]; exact hh
  obtain ⟨u, hu⟩ := isP_iff.1 hi'
  have hpl := (List.getElem?_eq_some_iff.1 hu).1
  have hxi : (L ++ x :: R)[atP P k]? = some x := by rw [← hL]; simp
  have hsn := hS.n
  have hlen : (L ++ x :: R).length = P.length := by rw [← hP, List.length_map]
  have hpl2 := hI.plen
  have hLR : L.length + R.length ≤ 1000 := by simp at hlen; omega
  have h8 := hI.few _ hAt.mem
  have hsr := hAt.srt
  rw [← hx] at h8 hsr
  have xd := extDrew w
  have hSd := hS.ext xd
  obtain ⟨a, o, ha, hca, hr, hxn⟩ := hSd.page hxi
  have hba : (0 : Int) ≤ (atP P k : Int) ∧ (atP P k : Int) < (s.n : Int) := ⟨by omega, by have := hAt.lt; omega⟩
  have hA' : ∀ s' i, inSt b s' (L ++ [x] ++ R) i → i ∈ blk s' ∨ New A w i := by
    rintro s' i (rfl | hi | ⟨y, hy, hi⟩)
    · exact .inr (.inl (hA _ (.inl rfl)))
    · exact .inl hi
    · exact .inr (.inl (hA i (.inr (.inr ⟨y, by simpa using hy, hi⟩))))
  have hlow : ∀ y ∈ L ++ R, ∀ i ∈ blk y.1, i < w.heap.size := fun y hy i hi => hS.low i (.inr (.inr ⟨y, by simp only [List.mem_append, List.mem_cons] at hy ⊢; rcases hy with h | h <;> simp [h], hi⟩))
  rw [idxF_yes hh, ← hx]
  have w1 : IntKind.i64.wrap ((posP x.2 k : Int) + (1 : Int)) = ((posP x.2 k + 1 : Nat) : Int) := by rw [wrap_of (by omega) (by omega)]; rfl
  have hcell : ∀ w', Ext w w' → w'.cell? ⟨a, o + (atP P k : Int).toNat, none⟩ = some (hV x) := fun w' hx' => by
    obtain ⟨a', o', ha', hc', _⟩ := (hS.ext hx').page hxi
    rw [ha] at ha'; cases ha'
    rw [Int.toNat_natCast]; exact hc'
  refine IfB.no (decide_eq_false (by omega)) ?_
  unfold F32k2
  have hxc := hS.pcap x (by simp)
  have hsame : ∀ w', Ext w w' → w'.cell? ⟨b, 0, none⟩ = some (slV s) := fun w' hx' => (hS.ext hx').cell
  refine ⟨b, 0, rfl, s, hSd.cell, a, o, ha, hba, x.1, hcell _ xd, (⟨by omega, by omega⟩ : (0 : Int) ≤ (posP x.2 k : Int) ∧ (posP x.2 k : Int) ≤ (x.1.c : Int)), b, 0, rfl, s, hSd.cell, a, o, ha, hba, x.1, hcell _ xd, ?_⟩
  dsimp only
  rw [w1]
  refine ⟨(⟨by omega, by omega⟩ : (0 : Int) ≤ ((posP x.2 k + 1 : Nat) : Int) ∧ ((posP x.2 k + 1 : Nat) : Int) ≤ (x.1.n : Int)), by decide, fun b16 w17 h17 => ?_⟩
  have x17 : Ext w.drew w17 := h17.ch _
  have xw17 := xd.trans x17
  have f16 : ∀ i ∈ blk (⟨some ⟨b16, 0, none⟩, 0, 0⟩ : Sl), w.heap.size ≤ i := fun i hi => by
    simp [blk] at hi; have := h17.here; have := xd.size; omega
  refine ⟨hcell _ xw17, hsame _ xw17, hcell _ xw17, hsame _ xw17, prs (x.2.take (posP x.2 k)), ?_, ?_⟩
  · have h1 := ((hr.ext x17).cut (k := posP x.2 k) (by omega)).2
    rw [Int.toNat_natCast, (hr.ext x17).slAddr0, ← prs_take]; exact h1
  rw [Int.toNat_natCast]
  refine (emptyOwn (sz := 2) h17).append (cnt := posP x.2 k) rfl rfl (by rw [prs_len, List.length_take]; omega) (prs_one _) ⟨by dsimp only; omega, by dsimp only; omega⟩ fun s19 w20 ho19 hn19 hc19 hb19 _ => ?_
  have xw20 := newApp xw17 f16 hc19
  have f19 := newBlk xw17 f16 hb19
  have x20' : Ext w.drew w20 := newApp x17 (by intro i hi; simp [blk] at hi; have := h17.here; omega) hc19
  dsimp only at hn19
  refine ⟨hcell _ xw20, hsame _ xw20, prs (x.2.drop (posP x.2 k + 1)), ?_, ?_⟩
  · have h1 := (hr.ext x20').from (k := posP x.2 k + 1) (by omega) hxc
    rw [Int.toNat_natCast, ← prs_drop]; exact h1
  rw [Int.toNat_natCast]
  refine ho19.append (cnt := x.1.n - (posP x.2 k + 1)) rfl rfl (by rw [prs_len, List.length_drop]; omega) (prs_one _) ⟨by omega, by dsimp only; omega⟩ fun s22 w23 ho22 hn22 hc22 hb22 _ => ?_
  have xw23 := newApp xw20 f19 hc22
  have f22 := newBlk xw20 f19 hb22
  rw [List.nil_append, ← prs_append, ← delS_is hsr hi'] at ho22
  have hqn : s22.n = (delS x.2 k).length := by have := ho22.len; rw [prs_len] at this; omega
  have hql : (delS x.2 k).length = x.2.length - 1 := by rw [delS_is hsr hi']; simp; omega
  have hS23 : RS w23 b s (L ++ [x] ++ R) := by simpa using hS.ext xw23
  have hPc : cutP P k = L.map (·.2) ++ delS x.2 k :: R.map (·.2) := by unfold cutP; rw [← hx, hLm, hRm]
  rw [if_pos rfl, if_pos rfl]
  refine IfB.intro (fun h0 => ?_) (fun h0 => ?_)
  · have hq0 : delS x.2 k = [] := by
      have : (s22.n : Int) = 0 := eq_of_beq h0
      exact List.eq_nil_of_length_eq_zero (by omega)
    have hnil : Rd w23 ⟨none, 0, 0⟩ 1 (([] : List Pg).map hV) := ⟨rfl, rfl⟩
    rw [← hL]
    refine (c64 (M := [x]) (news := []) hS23 hnil (by simp) (by simp) (by simp) (by simp) (by simp; omega)).use ?_
    rintro _ w' ⟨rfl, s', hR, hfr, hc⟩
    have sz := xw23.size
    refine ⟨(), rfl, rfl, RS.mk' (w := w) hR (fun i hi => by have := hfr i hi; omega) hA' (by simp) ?_, (xw23.mono fun _ _ h => h.elim).then hc fun i _ hi => hi⟩
    unfold delP
    dsimp only
    rw [← hx, if_pos hq0]
    simp [hLm, hRm]
  have hq0 : ¬ delS (P.getD (atP P k) []) k = [] := fun e => by
    rw [← hx] at e
    rw [e] at hqn
    rw [show s22.2 = s22.n from rfl, hqn] at h0
    simp at h0
  have hdel : delP P k = if canJ (cutP P k) (atP P k) then joinP (cutP P k) (atP P k) else if 0 < atP P k ∧ canJ (cutP P k) (atP P k - 1) then joinP (cutP P k) (atP P k - 1) else cutP P k := by
    unfold delP; dsimp only; rw [if_neg hq0]; rfl
  refine ⟨by decide, fun b27 w28 h28 => ?_⟩
  have x28 : Ext w23 w28 := h28.ch _
  have xw28 := xw23.trans x28
  have hS28 := hS23.ext x28
  have hlit : OwS w28 ⟨some ⟨b27, 0, none⟩, 1, 1⟩ 1 ([(s22, delS x.2 k)].map hV) := OwS.new h28 rfl
  have ho28 := ho22.ext x28
  have sz23 := xw23.size
  have sz28 := xw28.size
  rw [← hL]
  refine (c64 (M := [x]) (news := [(s22, delS x.2 k)]) hS28 hlit.rd ?_ ?_ ?_ ?_ (by simp; omega)).use ?_
  · intro y hy; simp at hy; subst hy; exact ho28.rd
  · intro y hy; simp at hy; subst hy; exact fun hb => by have := f22 b hb; omega
  · intro y hy i hi; simp at hy; subst hy; exact ho28.lt i hi
  · intro y hy; simp at hy; subst hy; exact ho28.cap
  rintro _ w30 ⟨rfl, s34, hS30, hfr34, hc30⟩
  have ho30 := ho28.ch hc30 fun i hi e => by have := f22 i hi; omega
  have hC30 : Ch (fun i => i = b) w w30 := (xw28.mono fun _ _ h => h.elim).then hc30 fun i _ hi => hi
  have hn34 := hS30.n
  have hlen34 : (L ++ [(s22, delS x.2 k)] ++ R).length = L.length + 1 + R.length := by simp; omega
  have w2 : IntKind.i64.wrap ((L.length : Int) + (1 : Int)) = ((L.length + 1 : Nat) : Int) := by rw [wrap_of (by omega) (by omega)]; rfl
  have hcut : RA (New A w) w30 b (cutP P k) := RS.mk' (w := w) hS30 (fun i hi => by have := hfr34 i hi; omega) hA' (by intro y hy i hi; simp at hy; subst hy; exact .inr (f22 i hi)) (by rw [hPc]; simp)
  have hpgLR : ∀ y ∈ L ++ R, Rd w30 y.1 2 (prs y.2) := fun y hy => hS30.pg y (by simp only [List.mem_append] at hy ⊢; rcases hy with h | h <;> simp [h])
  have hLRc : ∀ y ∈ L ++ R, y.1.n ≤ y.1.c := fun y hy => hS30.pcap y (by simp only [List.mem_append] at hy ⊢; rcases hy with h | h <;> simp [h])
  -- the page ahead, if they are few
  have els : canJ (cutP P k) (atP P k) = false → F32k1 ((L.length : Int), (posP x.2 k : Int)) (some ⟨b, 0, none⟩) w30 s22 (fun r w' => r = .int .i64 0 ∧ RA (New A w) w' b (delP P k) ∧ Ch (fun i => i = b) w w') := by
    intro hno
    rw [hno] at hdel
    simp only [Bool.false_eq_true, if_false] at hdel
    unfold F32k1
    refine IfB.dec (fun hpos => ?_) (fun hz => ?_)
    · have hLp : 0 < L.length := by
        have : (0 : Int) < (L.length : Int) := hpos
        omega
      obtain ⟨L', z, rfl⟩ : ∃ L' z, L = L' ++ [z] := ⟨L.dropLast, L.getLast (by intro e; subst e; simp at hLp), (List.dropLast_concat_getLast _).symm⟩
      have hLl : (L' ++ [z]).length = L'.length + 1 := by simp
      have w3 : IntKind.i64.wrap (((L' ++ [z]).length : Int) - (1 : Int)) = (L'.length : Int) := by rw [hLl, wrap_of (by omega) (by omega)]; omega
      have hzi : (L' ++ [z] ++ [(s22, delS x.2 k)] ++ R)[L'.length]? = some z := by simp
      obtain ⟨a4, o4, ha4, hc4, hr4, hzn⟩ := hS30.page hzi
      have hj := canJ_cut0 (Q := cutP P k) (L := L'.map (·.2)) (R := R.map (·.2)) (z := z.2) (q := delS x.2 k) (by rw [hPc]; simp)
      rw [List.length_map] at hj
      have hat1 : atP P k - 1 = L'.length := by rw [← hL, hLl]; omega
      have hbz : (0 : Int) ≤ (L'.length : Int) ∧ (L'.length : Int) < (s34.n : Int) := ⟨by omega, by rw [hn34, hlen34]; omega⟩
      have hz8 := hI.few z.2 (by rw [← hP]; simp)
      dsimp only
      rw [w3]
      refine ⟨b, 0, rfl, s34, hS30.cell, a4, o4, ha4, hbz, z.1, by rw [Int.toNat_natCast]; exact hc4, IfB.dec (fun hfew => ?_) (fun hmany => ?_)⟩
      · rw [wrap_of (by omega) (by omega)] at hfew
        have hcj : canJ (cutP P k) (atP P k - 1) = true := by rw [hat1, hj.1]; exact decide_eq_true (by omega)
        refine ⟨by decide, fun b66 w67 h67 => ?_⟩
        have x67 : Ext w30 w67 := h67.ch _
        have hS67 := hS30.ext x67
        have f66 : ∀ i ∈ blk (⟨some ⟨b66, 0, none⟩, 0, 0⟩ : Sl), w30.heap.size ≤ i := fun i hi => by simp [blk] at hi; have := h67.here; omega
        obtain ⟨a5, o5, ha5, hc5, hr5, _⟩ := hS67.page hzi
        rw [ha4] at ha5; cases ha5
        refine ⟨b, 0, rfl, s34, hS67.cell, a4, o4, ha4, hbz, z.1, by rw [Int.toNat_natCast]; exact hc5, prs z.2, hr5.2, ?_⟩
        refine (emptyOwn (sz := 2) h67).append (cnt := z.1.n) rfl rfl hr5.1 (prs_one _) ⟨by dsimp only; omega, by dsimp only; omega⟩ fun s75 w76 ho75 hn75 hc75 hb75 _ => ?_
        have x76 := newApp x67 f66 hc75
        have f75 := newBlk x67 f66 hb75
        dsimp only at hn75
        refine ⟨prs (delS x.2 k), (ho30.ext x76).readAll, ?_⟩
        refine ho75.append (cnt := s22.n) rfl rfl ho30.len (prs_one _) ⟨by omega, by dsimp only; omega⟩ fun s78 w79 ho78 hn78 hc78 hb78 _ => ⟨by decide, fun b80 w81 h81 => ?_⟩
        have x79 := newApp x76 f75 hc78
        have f78 := newBlk x76 f75 hb78
        have x81 : Ext w79 w81 := h81.ch _
        rw [List.nil_append, ← prs_append] at ho78
        have hlit2 : OwS w81 ⟨some ⟨b80, 0, none⟩, 1, 1⟩ 1 ([(s78, z.2 ++ delS x.2 k)].map hV) := OwS.new h81 rfl
        have hS81 := hS30.ext (x79.trans x81)
        rw [show L' ++ [z] ++ [(s22, delS x.2 k)] ++ R = L' ++ [z, (s22, delS x.2 k)] ++ R by simp] at hS81
        have sz30 := hC30.size
        refine (c64 (M := [z, (s22, delS x.2 k)]) (news := [(s78, z.2 ++ delS x.2 k)]) hS81 hlit2.rd ?_ ?_ ?_ ?_ (by simp at hLR ⊢; omega)).use ?_
        · intro y hy; simp at hy; subst hy; exact (ho78.ext x81).rd
        · intro y hy; simp at hy; subst hy; exact fun hb => by have := f78 b hb; omega
        · intro y hy i hi; simp at hy; subst hy; exact (ho78.ext x81).lt i hi
        · intro y hy; simp at hy; subst hy; exact ho78.cap
        rintro _ w83 ⟨rfl, s83, hS83, hfr83, hc83⟩
        have sz81 := (x79.trans x81).size
        refine ⟨(), rfl, rfl, ⟨s83, _, hS83, ?_, ?_⟩, (hC30.then (x79.trans x81) fun _ _ h => h.elim).then hc83 fun i _ hi => hi⟩
        · rw [hdel, hcj, hat1, hj.2, if_pos ⟨by omega, rfl⟩]; simp
        · rintro i (rfl | hi | ⟨y, hy, hi⟩)
          · exact .inl (hA _ (.inl rfl))
          · exact .inr (by have := hfr83 i hi; omega)
          · simp only [List.mem_append, List.mem_singleton] at hy
            rcases hy with (hy | rfl) | hy
            · exact .inl (hA i (.inr (.inr ⟨y, by simp [hy], hi⟩)))
            · exact .inr (by have := f78 i hi; omega)
            · exact .inl (hA i (.inr (.inr ⟨y, by simp [hy], hi⟩)))
      · rw [wrap_of (by omega) (by omega)] at hmany
        have hcj : canJ (cutP P k) (atP P k - 1) = false := by rw [hat1, hj.1]; exact decide_eq_false (by omega)
        rw [hdel, hcj, if_neg (by simp)]
        exact ⟨rfl, hcut, hC30⟩
    · have hLp : atP P k = 0 := by
        have : ¬ (0 : Int) < (L.length : Int) := hz
        omega
      rw [hdel, if_neg (by omega)]
      exact ⟨rfl, hcut, hC30⟩
  refine ⟨(), rfl, b, 0, rfl, s34, hS30.cell, ?_⟩
  rw [w2]
  have hjat : canJ (cutP P k) (atP P k) = match R with
      | y :: _ => decide ((delS x.2 k).length + y.2.length ≤ 4)
      | [] => false := by
    rw [← hL]
    match R, hPc with
    | [], hPc =>
      have := canJ_last (L := L.map (·.2)) (q := delS x.2 k)
      rw [List.length_map] at this
      rw [hPc]; exact this
    | y :: R', hPc =>
      have := (canJ_cut0 (Q := cutP P k) (L := L.map (·.2)) (z := delS x.2 k) (q := y.2) (R := R'.map (·.2)) (by rw [hPc]; simp)).1
      rw [List.length_map] at this
      exact this
  refine IfB.dec (fun hlt => ?_) (fun hge2 => ?_)
  · have hRp : 0 < R.length := by rw [hn34, hlen34] at hlt; omega
    obtain ⟨y, R', rfl⟩ : ∃ y R', R = y :: R' := by
      cases R with
      | nil => simp at hRp
      | cons y R' => exact ⟨y, R', rfl⟩
    dsimp only at hjat
    have hyi : (L ++ [(s22, delS x.2 k)] ++ y :: R')[L.length + 1]? = some y := by
      rw [List.getElem?_append_right (by simp)]; simp
    obtain ⟨a4, o4, ha4, hc4, hr4, hyn⟩ := hS30.page hyi
    have hby : (0 : Int) ≤ ((L.length + 1 : Nat) : Int) ∧ ((L.length + 1 : Nat) : Int) < (s34.n : Int) := ⟨by omega, by rw [hn34, hlen34]; simp; omega⟩
    have hy8 := hI.few y.2 (by rw [← hP]; simp)
    refine ⟨b, 0, rfl, s34, hS30.cell, a4, o4, ha4, hby, y.1, by rw [Int.toNat_natCast]; exact hc4, IfB.dec (fun hfew => ?_) (fun hmany => ?_)⟩
    · rw [wrap_of (by omega) (by omega)] at hfew
      have hcj : canJ (cutP P k) (atP P k) = true := by rw [hjat]; exact decide_eq_true (by omega)
      refine ⟨b, 0, rfl, s34, hS30.cell, a4, o4, ha4, hby, y.1, by rw [Int.toNat_natCast]; exact hc4, prs y.2, hr4.2, ?_⟩
      refine ho30.append (cnt := y.1.n) rfl rfl hr4.1 (prs_one _) ⟨by omega, by dsimp only; omega⟩ fun s48 w49 ho48 hn48 hc48 hb48 _ => ⟨by decide, fun b50 w51 h51 => ?_⟩
      have x51 : Ext w49 w51 := h51.ch _
      rw [← prs_append] at ho48
      have sz30 := hC30.size
      have f48 : ∀ i ∈ blk s48, w.heap.size ≤ i := fun i hi => (hb48 i hi).elim (f22 i) fun h => by omega
      have h22 : ∀ i ∈ blk s22, w.heap.size ≤ i ∧ i < w28.heap.size := fun i hi => ⟨f22 i hi, ho28.lt i hi⟩
      have hlit2 : OwS w51 ⟨some ⟨b50, 0, none⟩, 1, 1⟩ 1 ([(s48, delS x.2 k ++ y.2)].map hV) := OwS.new h51 rfl
      have hRB : RB w51 b s34 (L ++ [(s22, delS x.2 k), y] ++ R') := by
        have := (hS30.rb.ch hc48 (fun h => by have := h22 b h; omega) (fun i hi h => by have := hfr34 i hi; have := h22 i h; omega)).ext x51
        simpa using this
      have hpg2 : ∀ z ∈ L ++ R', Rd w51 z.1 2 (prs z.2) := fun z hz => by
        have hz' : z ∈ L ++ y :: R' := by simp only [List.mem_append, List.mem_cons] at hz ⊢; rcases hz with h | h <;> simp [h]
        exact ((hpgLR z hz').ch hc48 fun i hi h => by have := hlow z hz' i hi; have := h22 i h; omega).ext x51
      refine (c64b (M := [(s22, delS x.2 k), y]) (news := [(s48, delS x.2 k ++ y.2)]) hRB hpg2 ?_ hlit2.rd ?_ ?_ ?_ (by simp at hLR ⊢; omega)).use ?_
      · intro z hz
        simp only [List.mem_append, List.mem_singleton] at hz
        rcases hz with (hz | rfl) | hz
        · exact hLRc z (by simp [hz])
        · exact ho48.cap
        · exact hLRc z (by simp [hz])
      · intro z hz; simp at hz; subst hz; exact (ho48.ext x51).rd
      · intro z hz; simp at hz; subst hz; exact fun hb => by have := f48 b hb; omega
      · intro z hz i hi; simp at hz; subst hz; exact (ho48.ext x51).lt i hi
      rintro _ w53 ⟨rfl, s53, hS53, hfr53, hc53⟩
      have hC51 : Ch (fun i => i = b) w w51 := (hC30.then hc48 fun i hi h => by have := h22 i h; omega).then x51 fun _ _ h => h.elim
      have sz51 := hC51.size
      refine ⟨(), rfl, rfl, ⟨s53, _, hS53, ?_, ?_⟩, hC51.then hc53 fun i _ hi => hi⟩
      · rw [hdel, hcj, if_pos rfl, ← hL]
        have := joinP_cut (Q := cutP P k) (L := L.map (·.2)) (q := delS x.2 k) (y := y.2) (R := R'.map (·.2)) (by rw [hPc]; simp)
        rw [List.length_map] at this
        rw [this]; simp
      · rintro i (rfl | hi | ⟨z, hz, hi⟩)
        · exact .inl (hA _ (.inl rfl))
        · exact .inr (by have := hfr53 i hi; omega)
        · simp only [List.mem_append, List.mem_singleton] at hz
          rcases hz with (hz | rfl) | hz
          · exact .inl (hA i (.inr (.inr ⟨z, by simp [hz], hi⟩)))
          · exact .inr (f48 i hi)
          · exact .inl (hA i (.inr (.inr ⟨z, by simp [hz], hi⟩)))
    · rw [wrap_of (by omega) (by omega)] at hmany
      exact els (by rw [hjat]; exact decide_eq_false (by omega))
  · have hR0 : R = [] := by
      have : R.length = 0 := by rw [hn34, hlen34] at hge2; omega
      exact List.eq_nil_of_length_eq_zero this
    subst hR0
    exact els hjat
end Go.Proofs.Ytopecljhehcldaa.Gx
