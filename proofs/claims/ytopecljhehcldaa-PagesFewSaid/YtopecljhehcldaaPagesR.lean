/- The document's pages: what its functions do. -/
import Derived.Test.YtopecljhehcldaaPagesF
namespace Go.Proofs.Ytopecljhehcldaa.Gx
open Go
set_option linter.unusedSimpArgs false
set_option linter.unusedVariables false

/-- A store of the document in memory: its pages may be anywhere but in the store's own cell. -/
structure RS (w : World) (b : Nat) (s : Sl) (ps : List Pg) : Prop where
  box : ∃ T, w.heap[b]? = some (.cells #[slV s] T (0, 0))
  arr : Rd w s 1 (ps.map hV)
  pg : ∀ x ∈ ps, Rd w x.1 2 (prs x.2)
  sep : b ∉ blk s ∧ ∀ x ∈ ps, b ∉ blk x.1
  low : ∀ i, inSt b s ps i → i < w.heap.size
  cap : s.n ≤ s.c
  pcap : ∀ x ∈ ps, x.1.n ≤ x.1.c

theorem RS.ch {F : Nat → Prop} {w w' : World} {b : Nat} {s : Sl} {ps : List Pg} (h : RS w b s ps) (hc : Ch F w w') (hF : ∀ i, inSt b s ps i → ¬ F i) : RS w' b s ps := by
  obtain ⟨T, hT⟩ := h.box
  exact ⟨⟨T, hc.at hT (hF _ (.inl rfl))⟩, h.arr.ch hc fun i hi => hF i (.inr (.inl hi)), fun x hx => (h.pg x hx).ch hc fun i hi => hF i (.inr (.inr ⟨x, hx, hi⟩)), h.sep, fun i hi => Nat.lt_of_lt_of_le (h.low i hi) hc.size, h.cap, h.pcap⟩
theorem RS.ext {w w' : World} {b : Nat} {s : Sl} {ps : List Pg} (h : RS w b s ps) (hc : Ext w w') : RS w' b s ps := h.ch hc fun _ _ => id
theorem RS.cell {w : World} {b : Nat} {s : Sl} {ps : List Pg} (h : RS w b s ps) : w.cell? ⟨b, 0, none⟩ = some (slV s) := by
  obtain ⟨T, hT⟩ := h.box
  rw [cell_of hT]; rfl
theorem RS.n {w : World} {b : Nat} {s : Sl} {ps : List Pg} (h : RS w b s ps) : s.n = ps.length := by
  have := h.arr.1; rw [List.length_map] at this; omega
theorem RS.page {w : World} {b : Nat} {s : Sl} {ps : List Pg} (h : RS w b s ps) {i : Nat} {x : Pg} (hx : ps[i]? = some x) :
    ∃ a o, s.p = some ⟨a, o, none⟩ ∧ w.cell? ⟨a, o + i, none⟩ = some (hV x) ∧ Rd w x.1 2 (prs x.2) ∧ x.1.n = x.2.length := by
  obtain ⟨a, o, ha, hc⟩ := h.arr.elem1 (i := i) (v := hV x) (by rw [List.getElem?_map, hx]; rfl)
  have ho := h.pg x (List.mem_of_getElem? hx)
  exact ⟨a, o, ha, hc, ho, by have := ho.1; rw [prs_len] at this; omega⟩
theorem pageR {w : World} {t : Sl} {p : List Pr} (h : Rd w t 2 (prs p)) {i : Nat} {x : Pr} (hx : p[i]? = some x) : ∃ b o, t.p = some ⟨b, o, none⟩ ∧ CellsAt w b (o + i * 2) [.int .i64 x.1, .int .i64 x.2] := by
  have hi : i < t.n := by
    have := h.1; rw [prs_len] at this
    have := (List.getElem?_eq_some_iff.1 hx).1
    omega
  exact h.elem hi (by decide) (prs_elem hx)

def RA (A : Nat → Prop) (w : World) (b : Nat) (P : List (List Pr)) : Prop := ∃ s ps, RS w b s ps ∧ ps.map (·.2) = P ∧ ∀ i, inSt b s ps i → A i
theorem RA.ch {A F : Nat → Prop} {w w' : World} {b : Nat} {P : List (List Pr)} (h : RA A w b P) (hc : Ch F w w') (hF : ∀ i, i < w.heap.size → A i → ¬ F i) : RA A w' b P := by
  obtain ⟨s, ps, h1, h2, h3⟩ := h
  exact ⟨s, ps, h1.ch hc fun i hi => hF i (h1.low i hi) (h3 i hi), h2, h3⟩
theorem RA.ext {A : Nat → Prop} {w w' : World} {b : Nat} {P : List (List Pr)} (h : RA A w b P) (hc : Ext w w') : RA A w' b P := h.ch hc fun _ _ _ => id
theorem RA.mono {A B : Nat → Prop} {w : World} {b : Nat} {P : List (List Pr)} (h : RA A w b P) (hB : ∀ i, i < w.heap.size → A i → B i) : RA B w b P := by
  obtain ⟨s, ps, h1, h2, h3⟩ := h
  exact ⟨s, ps, h1, h2, fun i hi => hB i (h1.low i hi) (h3 i hi)⟩

/-! ### Find -/
theorem heads_lt {P : List (List Pr)} (hI : Inv P) {i j : Nat} (hj : j < i) (hi : i < P.length) : hd0 (P[j]'(by omega)) < hd0 P[i] := by
  have hs := hI.sorted
  have hs' : Srt P.flatten := hs
  have e : P.flatten = (P.take i).flatten ++ (P[i] ++ (P.drop (i + 1)).flatten) := by
    conv => lhs; rw [← List.take_append_drop i P, List.drop_eq_getElem_cons hi]
    rw [List.flatten_append, List.flatten_cons]
  rw [e] at hs'
  obtain ⟨_, _, h3⟩ := srt_append.1 hs'
  obtain ⟨x, hx, hxh⟩ := head_mem (hI.ne _ (List.getElem_mem (show j < P.length by omega)))
  obtain ⟨y, hy, hyh⟩ := head_mem (hI.ne _ (List.getElem_mem hi))
  have := h3 x (List.mem_flatten.2 ⟨P[j]'(by omega), List.mem_of_getElem? (i := j) (by rw [List.getElem?_take, if_pos hj, List.getElem?_eq_getElem]), hx⟩) y (List.mem_append_left _ hy)
  omega

theorem atP_step {P : List (List Pr)} (hI : Inv P) {i : Nat} (hi : i < P.length) (k : Int) : atP (P.take (i + 1)) k = if hd0 P[i] ≤ k then i else atP (P.take i) k := by
  have ht : P.take (i + 1) = P.take i ++ [P[i]] := take_succ_get (List.getElem?_eq_getElem hi)
  have hl : (P.take i).length = i := by rw [List.length_take]; omega
  have e : ∀ Q : List (List Pr), atP Q k = (match Q.findIdx? (fun p => decide (k < hd0 p)) with | some i => i | none => Q.length) - 1 := fun _ => rfl
  rw [e, e, ht, List.findIdx?_append]
  by_cases hle : hd0 P[i] ≤ k
  · rw [if_pos hle]
    have hn : (P.take i).findIdx? (fun p => decide (k < hd0 p)) = none := by
      rw [List.findIdx?_eq_none_iff]
      intro p hp
      obtain ⟨j, hj, rfl⟩ := List.getElem_of_mem hp
      rw [List.getElem_take]
      have := heads_lt hI (show j < i by omega) hi
      simp; omega
    have h2 : [P[i]].findIdx? (fun p => decide (k < hd0 p)) = none := by
      rw [List.findIdx?_eq_none_iff]; intro p hp; simp at hp; subst hp; simp; omega
    rw [hn, h2]
    show (P.take i ++ [P[i]]).length - 1 = i
    rw [List.length_append, hl]; rfl
  · rw [if_neg hle]
    cases hf : (P.take i).findIdx? (fun p => decide (k < hd0 p)) with
    | some j => rfl
    | none =>
      have h2 : [P[i]].findIdx? (fun p => decide (k < hd0 p)) = some 0 := by
        rw [List.findIdx?_eq_some_iff_getElem]; exact ⟨by simp, by simp; omega, by simp⟩
      rw [h2]
      simp [hl]

def idxF (P : List (List Pr)) (k : Int) : Int := if hasP P k then (posP (P.getD (atP P k) []) k : Int) else -1

theorem posP_at {p : List Pr} (hs : Srt p) {j : Nat} {x : Pr} (hx : p[j]? = some x) : posP p x.1 = j := by
  rcases Nat.lt_trichotomy (posP p x.1) j with h | h | h
  · have hj := (List.getElem?_eq_some_iff.1 hx).1
    have hy : p[posP p x.1]? = some (p[posP p x.1]'(by omega)) := List.getElem?_eq_getElem (by omega)
    have h1 := posP_hi hs (Nat.le_refl _) hy
    have h2 : (p[posP p x.1]'(by omega)).1 < x.1 := by
      have := List.pairwise_iff_getElem.1 hs (posP p x.1) j (by simp; omega) (by simp; omega) h
      obtain ⟨_, rfl⟩ := List.getElem?_eq_some_iff.1 hx
      simpa using this
    omega
  · exact h
  · have := posP_lo h hx; omega

theorem c63 {w : World} {b : Nat} {P : List (List Pr)} {s : Sl} {ps : List Pg} (h : RS w b s ps) (hP : ps.map (·.2) = P) (hI : Inv P) (k : Int) :
    CW Try.prog 63 #[.pointer (some ⟨b, 0, none⟩), .int .i64 k] w fun v w' => v = .tuple #[.int .i64 (atP P k), .int .i64 (idxF P k)] ∧ w = w' := by
  have hsn := h.n
  have hlen : ps.length = P.length := by rw [← hP, List.length_map]
  have hpl := hI.plen
  refine F63_ok _ _ _ _ ?_
  refine ⟨fun n x w5 => ∃ i : Nat, i ≤ ps.length ∧ n + i = ps.length ∧ x = ((atP (P.take i) k : Int), (i : Int)) ∧ w5 = w, ⟨ps.length, 0, Nat.zero_le _, rfl, rfl, rfl⟩, ?_⟩
  rintro n x w5 g ⟨i, hi, hni, rfl, rfl⟩
  unfold F63j1
  refine ⟨b, 0, rfl, s, h.cell, IfB.dec (fun hlt => ?_) (fun hge => ?_)⟩
  · have hi' : i < ps.length := by
      have : (i : Int) < (s.n : Int) := hlt
      omega
    have hx : ps[i]? = some ps[i] := List.getElem?_eq_getElem hi'
    obtain ⟨a, o, ha, hc, hr, hxn⟩ := h.page hx
    have hPi : P[i]'(by omega) = ps[i].2 := by subst hP; simp
    have hne := hI.ne _ (List.getElem_mem (show i < P.length by omega))
    rw [hPi] at hne
    obtain ⟨y, yl, hy⟩ := List.exists_cons_of_ne_nil hne
    obtain ⟨a2, o2, ha2, hc2⟩ := pageR hr (i := 0) (x := y) (by rw [hy]; rfl)
    have hl1 : 0 < ps[i].1.n := by rw [hxn, hy]; simp
    have hst := atP_step hI (show i < P.length by omega) k
    have hh : hd0 (P[i]'(by omega)) = y.1 := by rw [hPi, hy]; rfl
    rw [hh] at hst
    have e1 : IntKind.i64.wrap ((i : Int) + (1 : Int)) = ((i + 1 : Nat) : Int) := by rw [wrap_of (by omega) (by omega)]; rfl
    refine ⟨b, 0, rfl, s, h.cell, a, o, ha, (⟨by omega, by omega⟩ : (0 : Int) ≤ (i : Int) ∧ (i : Int) < (s.n : Int)), ps[i].1, by rw [Int.toNat_natCast]; exact hc, a2, o2, ha2, (⟨by decide, by omega⟩ : (0 : Int) ≤ (0 : Int) ∧ (0 : Int) < (ps[i].1.n : Int)), y.1, hc2.fst, IfB.dec (fun hle => ?_) (fun hgt => ?_)⟩
    · rw [if_pos hle] at hst
      refine ⟨rfl, n - 1, by omega, i + 1, hi', by omega, ?_, rfl⟩
      dsimp only; rw [e1, hst]
    · rw [if_neg hgt] at hst
      refine ⟨rfl, n - 1, by omega, i + 1, hi', by omega, ?_, rfl⟩
      dsimp only; rw [e1, hst]
  · have hi' : i = P.length := by
      have : ¬ (i : Int) < (s.n : Int) := hge
      omega
    subst hi'
    rw [List.take_length]
    by_cases hne : P = []
    · subst hne
      exact ⟨b, 0, rfl, s, h.cell, IfB.yes (by rw [show s.2 = s.n from rfl, hsn, hlen]; rfl) ⟨rfl, rfl⟩⟩
    have hA := atP_is hI hne k
    have hlt := hA.lt
    have hx : ps[atP P k]? = some (ps[atP P k]'(by omega)) := List.getElem?_eq_getElem (by omega)
    generalize ps[atP P k]'(by omega) = x at hx
    have hx2 : x.2 = P.getD (atP P k) [] := by
      have := congrArg (fun l => l[atP P k]?) hP
      simp only [List.getElem?_map, hx] at this
      rw [List.getD_eq_getElem?_getD, ← this]; rfl
    obtain ⟨a, o, ha, hc, hr, hxn⟩ := h.page hx
    have hsr := hA.srt
    have hfew := hI.few _ hA.mem
    rw [← hx2] at hsr hfew
    have hba : (0 : Int) ≤ (atP P k : Int) ∧ (atP P k : Int) < (s.n : Int) := ⟨by omega, by omega⟩
    refine ⟨b, 0, rfl, s, h.cell, IfB.no (by rw [show s.2 = s.n from rfl]; simp; omega) ?_⟩
    refine ⟨fun n y w29 => ∃ j : Nat, j ≤ x.2.length ∧ n + j = x.2.length ∧ y = (j : Int) ∧ w29 = w5 ∧ ∀ q z, q < j → x.2[q]? = some z → z.1 ≠ k, ⟨x.2.length, 0, Nat.zero_le _, rfl, rfl, rfl, fun q z hq => absurd hq (Nat.not_lt_zero _)⟩, ?_⟩
    rintro m y w29 g ⟨j, hj, hmj, rfl, rfl, hno⟩
    unfold F63j2
    refine ⟨b, 0, rfl, s, h.cell, a, o, ha, hba, x.1, by rw [Int.toNat_natCast]; exact hc, IfB.dec (fun hlt2 => ?_) (fun hge2 => ?_)⟩
    · have hj' : j < x.2.length := by
        have : (j : Int) < (x.1.n : Int) := hlt2
        omega
      have hz : x.2[j]? = some x.2[j] := List.getElem?_eq_getElem hj'
      generalize x.2[j] = z at hz
      obtain ⟨a2, o2, ha2, hc2⟩ := pageR hr hz
      refine ⟨b, 0, rfl, s, h.cell, a, o, ha, hba, x.1, by rw [Int.toNat_natCast]; exact hc, a2, o2, ha2, (⟨by omega, by omega⟩ : (0 : Int) ≤ (j : Int) ∧ (j : Int) < (x.1.n : Int)), z.1, by rw [Int.toNat_natCast]; exact hc2.fst, IfB.intro (fun he => ?_) (fun hne2 => ?_)⟩
      · have he' : z.1 = k := eq_of_beq he
        subst he'
        have hp := posP_at hsr hz
        have hhas : hasP P z.1 = true := by
          unfold hasP; rw [← hx2, isP_iff, hp]; exact ⟨z.2, hz⟩
        refine ⟨?_, rfl⟩
        unfold idxF
        rw [hhas, ← hx2, hp]; rfl
      · refine ⟨rfl, m - 1, by omega, j + 1, hj', by omega, by rw [wrap_of (by omega) (by omega)]; rfl, rfl, fun q u hq hu => ?_⟩
        by_cases hqj : q < j
        · exact hno q u hqj hu
        · have : q = j := by omega
          subst this
          rw [hz] at hu; cases hu
          simpa using hne2
    · have hj' : j = x.2.length := by
        have : ¬ (j : Int) < (x.1.n : Int) := hge2
        omega
      have hhas : hasP P k = false := by
        unfold hasP
        rw [← hx2]
        cases hi : isP x.2 k with
        | false => rfl
        | true =>
          obtain ⟨u, hu⟩ := isP_iff.1 hi
          have := (List.getElem?_eq_some_iff.1 hu).1
          exact absurd rfl (hno _ _ (by omega) hu)
      refine ⟨?_, rfl⟩
      unfold idxF
      rw [hhas]; rfl

/-! ### set -/
theorem hVs_one (ps : List Pg) : One (ps.map hV) := by
  intro x hx
  obtain ⟨s, _, rfl⟩ := List.mem_map.1 hx
  rfl

/-- A store of which the pages' pairs are not asked. -/
structure RB (w : World) (b : Nat) (s : Sl) (ps : List Pg) : Prop where
  box : ∃ T, w.heap[b]? = some (.cells #[slV s] T (0, 0))
  arr : Rd w s 1 (ps.map hV)
  sep : b ∉ blk s ∧ ∀ x ∈ ps, b ∉ blk x.1
  low : ∀ i, inSt b s ps i → i < w.heap.size
  cap : s.n ≤ s.c
theorem RS.rb {w : World} {b : Nat} {s : Sl} {ps : List Pg} (h : RS w b s ps) : RB w b s ps := ⟨h.box, h.arr, h.sep, h.low, h.cap⟩
theorem RB.ch {F : Nat → Prop} {w w' : World} {b : Nat} {s : Sl} {ps : List Pg} (h : RB w b s ps) (hc : Ch F w w') (hb : ¬ F b) (hs : ∀ i ∈ blk s, ¬ F i) : RB w' b s ps := by
  obtain ⟨T, hT⟩ := h.box
  exact ⟨⟨T, hc.at hT hb⟩, h.arr.ch hc hs, h.sep, fun i hi => Nat.lt_of_lt_of_le (h.low i hi) hc.size, h.cap⟩
theorem RB.ext {w w' : World} {b : Nat} {s : Sl} {ps : List Pg} (h : RB w b s ps) (hc : Ext w w') : RB w' b s ps := h.ch hc id fun _ _ => id
theorem RB.cell {w : World} {b : Nat} {s : Sl} {ps : List Pg} (h : RB w b s ps) : w.cell? ⟨b, 0, none⟩ = some (slV s) := by
  obtain ⟨T, hT⟩ := h.box
  rw [cell_of hT]; rfl
theorem RB.n {w : World} {b : Nat} {s : Sl} {ps : List Pg} (h : RB w b s ps) : s.n = ps.length := by
  have := h.arr.1; rw [List.length_map] at this; omega

theorem c64b {w : World} {b : Nat} {s t3 : Sl} {L M R news : List Pg} (h : RB w b s (L ++ M ++ R)) (hpg : ∀ x ∈ L ++ R, Rd w x.1 2 (prs x.2)) (hpc : ∀ x ∈ L ++ news ++ R, x.1.n ≤ x.1.c) (ht : Rd w t3 1 (news.map hV)) (hnews : ∀ x ∈ news, Rd w x.1 2 (prs x.2)) (hnb : ∀ x ∈ news, b ∉ blk x.1) (hnl : ∀ x ∈ news, ∀ i ∈ blk x.1, i < w.heap.size)
    (hsz : L.length + M.length + R.length + news.length ≤ 100000) :
    CW Try.prog 64 #[.pointer (some ⟨b, 0, none⟩), .int .i64 L.length, .int .i64 M.length, slV t3] w fun v w' => v = .tuple #[] ∧ ∃ s', RS w' b s' (L ++ news ++ R) ∧ (∀ i ∈ blk s', w.heap.size ≤ i) ∧ Ch (fun i => i = b) w w' := by
  have hsn : s.n = L.length + M.length + R.length := by rw [h.n]; simp; omega
  have htn : t3.n = news.length := by rw [ht.len1, List.length_map]
  have hcap := h.cap
  have e1 : IntKind.i64.wrap ((L.length : Int) + (M.length : Int)) = ((L.length + M.length : Nat) : Int) := by rw [wrap_of (by omega) (by omega)]; omega
  refine F64_ok _ _ _ t3 _ _ ⟨by decide, fun b1 w2 h2 => ?_⟩
  have x2 : Ext w w2 := h2.ch _
  have hb1 : ∀ i ∈ blk (⟨some ⟨b1, 0, none⟩, 0, 0⟩ : Sl), w.heap.size ≤ i := by intro i hi; simp [blk] at hi; rw [hi, h2.here]; exact Nat.le_refl _
  refine ⟨b, 0, rfl, s, (h.ext x2).cell, ⟨by omega, by rw [show s.3 = s.c from rfl]; omega⟩, L.map hV, ?_, ?_⟩
  · have h1 := ((h.ext x2).arr.cut (k := L.length) (by omega)).2
    rw [Int.toNat_natCast, (h.ext x2).arr.slAddr0]
    have e : (List.map hV (L ++ M ++ R)).take (L.length * 1) = L.map hV := by
      rw [Nat.mul_one, ← List.map_take, List.append_assoc, List.take_append_of_le_length (Nat.le_refl _), List.take_length]
    rw [e] at h1; exact h1
  rw [Int.toNat_natCast, e1]
  refine (emptyOwn (sz := 1) h2).append (cnt := L.length) rfl rfl (by simp) (hVs_one _) ⟨by dsimp only; omega, by dsimp only; omega⟩ fun s7 w8 ho7 hn7 hc7 hb7 _ => ?_
  have x8 := newApp x2 hb1 hc7
  have f7 := newBlk x2 hb1 hb7
  dsimp only at hn7
  refine ⟨news.map hV, (ht.ext x8).2, ?_⟩
  refine ho7.append (cnt := t3.n) rfl rfl (by rw [(ht.1)]) (hVs_one _) ⟨by omega, by dsimp only; omega⟩ fun s10 w11 ho10 hn10 hc10 hb10 _ => ?_
  have x11 := newApp x8 f7 hc10
  have f10 := newBlk x8 f7 hb10
  have h11 := h.ext x11
  refine ⟨b, 0, rfl, s, h11.cell, ⟨by omega, by rw [show s.2 = s.n from rfl]; omega⟩, R.map hV, ?_, ?_⟩
  · have h1 := h11.arr.from (k := L.length + M.length) (by omega) hcap
    rw [Int.toNat_natCast]
    have e : (List.map hV (L ++ M ++ R)).drop ((L.length + M.length) * 1) = R.map hV := by
      rw [Nat.mul_one, ← List.map_drop, List.drop_append_of_le_length (by simp), List.drop_of_length_le (by simp), List.nil_append]
    rw [e] at h1; exact h1
  rw [Int.toNat_natCast]
  refine ho10.append (cnt := s.n - (L.length + M.length)) rfl rfl (by rw [List.length_map]; omega) (hVs_one _) ⟨by omega, by dsimp only; omega⟩ fun s16 w17 ho16 hn16 hc16 hb16 _ => ?_
  have x17 := newApp x11 f10 hc16
  have f16 := newBlk x11 f10 hb16
  obtain ⟨T, hT⟩ := h.box
  have hbl := heap_lt hT
  refine ⟨b, 0, rfl, rfl, store_one (x17.at hT) (by simp) rfl fun w20 h20 => ⟨rfl, s16, ?_, f16, ?_⟩⟩
  · have hmem : ∀ x ∈ L ++ news ++ R, x ∈ L ++ M ++ R ∨ x ∈ news := fun x hx => by
      simp only [List.mem_append] at hx ⊢
      rcases hx with (hx | hx) | hx <;> simp [hx]
    have hbn : ∀ x ∈ L ++ news ++ R, b ∉ blk x.1 := fun x hx => (hmem x hx).elim (h.sep.2 x) (hnb x)
    have hb16' : b ∉ blk s16 := fun hb => by have := f16 b hb; omega
    have eall : [] ++ L.map hV ++ news.map hV ++ R.map hV = (L ++ news ++ R).map hV := by simp
    rw [eall] at ho16
    have hlow : ∀ i, inSt b s16 (L ++ news ++ R) i → i < w17.heap.size := by
      have := x17.size
      rintro i (rfl | hi | ⟨x, hx, hi⟩)
      · omega
      · exact ho16.lt i hi
      · rcases hmem x hx with hx | hx
        · have := h.low i (.inr (.inr ⟨x, hx, hi⟩)); omega
        · have := hnl x hx i hi; omega
    refine ⟨⟨T, h20.new⟩, (ho16.rd).ch h20.ch fun i hi e => hb16' (e ▸ hi), fun x hx => ?_, ⟨hb16', hbn⟩, fun i hi => by rw [h20.size]; exact hlow i hi, ho16.cap, hpc⟩
    have : Rd w x.1 2 (prs x.2) := by
      simp only [List.mem_append] at hx
      rcases hx with (hx | hx) | hx
      · exact hpg x (List.mem_append_left _ hx)
      · exact hnews x hx
      · exact hpg x (List.mem_append_right _ hx)
    exact (this.ext x17).ch h20.ch fun i hi e => hbn x hx (e ▸ hi)
  · exact (x17.mono fun _ _ h => h.elim).then h20.ch fun i _ hi => hi

theorem c64 {w : World} {b : Nat} {s t3 : Sl} {L M R news : List Pg} (h : RS w b s (L ++ M ++ R)) (ht : Rd w t3 1 (news.map hV)) (hnews : ∀ x ∈ news, Rd w x.1 2 (prs x.2)) (hnb : ∀ x ∈ news, b ∉ blk x.1) (hnl : ∀ x ∈ news, ∀ i ∈ blk x.1, i < w.heap.size)
    (hnc : ∀ x ∈ news, x.1.n ≤ x.1.c) (hsz : L.length + M.length + R.length + news.length ≤ 100000) :
    CW Try.prog 64 #[.pointer (some ⟨b, 0, none⟩), .int .i64 L.length, .int .i64 M.length, slV t3] w fun v w' => v = .tuple #[] ∧ ∃ s', RS w' b s' (L ++ news ++ R) ∧ (∀ i ∈ blk s', w.heap.size ≤ i) ∧ Ch (fun i => i = b) w w' :=
  c64b h.rb (fun x hx => h.pg x (by simp only [List.mem_append] at hx ⊢; rcases hx with h | h <;> simp [h])) (fun x hx => by
    simp only [List.mem_append] at hx
    rcases hx with (hx | hx) | hx
    · exact h.pcap x (by simp [hx])
    · exact hnc x hx
    · exact h.pcap x (by simp [hx])) ht hnews hnb hnl hsz
end Go.Proofs.Ytopecljhehcldaa.Gx
