/- The document's pages: Put. -/
import Derived.Test.YtopecljhehcldaaPagesR
namespace Go.Proofs.Ytopecljhehcldaa.Gx
open Go
set_option linter.unusedSimpArgs false
set_option linter.unusedVariables false

theorem RS.mk' {A : Nat → Prop} {w w' : World} {b : Nat} {s' : Sl} {L M R news : List Pg} {P : List (List Pr)} (h : RS w' b s' (L ++ news ++ R)) (hs : ∀ i ∈ blk s', w.heap.size ≤ i) (hA : ∀ s i, inSt b s (L ++ M ++ R) i → i ∈ blk s ∨ New A w i) (hn : ∀ x ∈ news, ∀ i ∈ blk x.1, New A w i)
    (hP : (L ++ news ++ R).map (·.2) = P) : RA (New A w) w' b P := by
  refine ⟨s', _, h, hP, ?_⟩
  rintro i (rfl | hi | ⟨x, hx, hi⟩)
  · exact (hA ⟨none, 0, 0⟩ _ (.inl rfl)).elim (fun h => by simp [blk] at h) id
  · exact .inr (hs i hi)
  · simp only [List.mem_append] at hx
    rcases hx with (hx | hx) | hx
    · exact (hA ⟨none, 0, 0⟩ i (.inr (.inr ⟨x, by simp [hx], hi⟩))).elim (fun h => by simp [blk] at h) id
    · exact hn x hx i hi
    · exact (hA ⟨none, 0, 0⟩ i (.inr (.inr ⟨x, by simp [hx], hi⟩))).elim (fun h => by simp [blk] at h) id

/-- The new page, or pages, come into their place. -/
theorem c20j4 {A : Nat → Prop} {w w70 : World} {b : Nat} {P : List (List Pr)} {k v : Int} {L : List Pg} {x : Pg} {R : List Pg} {s s69 : Sl} {q : List Pr} {i0 : Int} (hS : RS w b s (L ++ x :: R)) (hA : ∀ i, inSt b s (L ++ x :: R) i → A i)
    (hx : Ext w w70) (ho : OwS w70 s69 2 (prs q)) (hb : ∀ i ∈ blk s69, w.heap.size ≤ i) (hq : q.length ≤ 9) (hLR : L.length + R.length ≤ 1000)
    (hput : putP P k v = (if 8 < q.length then L.map (·.2) ++ [q.take 4, q.drop 4] ++ R.map (·.2) else L.map (·.2) ++ q :: R.map (·.2)))
    {Q : Value → World → Prop} (hQ : ∀ w', RA (New A w) w' b (putP P k v) → Ch (fun i => i = b) w w' → Q (.int .i64 0) w') : F20j4 (some ⟨b, 0, none⟩) Q ((L.length : Int), i0) s69 w70 := by
  have hsn : s69.n = q.length := by have := ho.len; rw [prs_len] at this; omega
  have hcap := ho.cap
  have hA' : ∀ s' i, inSt b s' (L ++ [x] ++ R) i → i ∈ blk s' ∨ New A w i := by
    rintro s' i (rfl | hi | ⟨y, hy, hi⟩)
    · exact .inr (.inl (hA _ (.inl rfl)))
    · exact .inl hi
    · exact .inr (.inl (hA i (.inr (.inr ⟨y, by simpa using hy, hi⟩))))
  have hbw : b < w.heap.size := hS.low b (.inl rfl)
  have call : ∀ (news : List Pg) (w8 w9 : World) (c : Nat) (T : TypeId), Ext w w8 → (∀ x ∈ news, OwS w8 x.1 2 (prs x.2)) → (∀ x ∈ news, ∀ i ∈ blk x.1, w.heap.size ≤ i) → news.length ≤ 10 → (L ++ news ++ R).map (·.2) = putP P k v →
      IsAlloc w8 (.cells (news.map hV).toArray T (0, 0)) c w9 → CX Try.prog 64 #[.pointer (some ⟨b, 0, none⟩), .int .i64 L.length, .int .i64 1, .slice (some ⟨c, 0, none⟩) news.length news.length] w9 fun v w' => ∃ (_ : Unit), v = .tuple #[] ∧ Q (.int .i64 0) w' := by
    intro news w8 w9 c T hx8 hn hf hl hP h9
    have x9 : Ext w8 w9 := h9.ch _
    have hS9 := hS.ext (hx8.trans x9)
    have hS9' : RS w9 b s (L ++ [x] ++ R) := by simpa using hS9
    have hlit : OwS w9 ⟨some ⟨c, 0, none⟩, news.length, news.length⟩ 1 (news.map hV) := OwS.new h9 (by simp)
    have sz := hx8.size
    refine (c64 (M := [x]) hS9' hlit.rd (fun y hy => ((hn y hy).ext x9).rd) (fun y hy hb => by have := hf y hy b hb; omega) (fun y hy i hi => ((hn y hy).ext x9).lt i hi) (fun y hy => (hn y hy).cap) (by simp only [List.length_singleton]; omega)).use ?_
    rintro _ w' ⟨rfl, s', hR, hfr, hc⟩
    refine ⟨(), rfl, hQ w' (RS.mk' (w := w) hR (fun i hi => ?_) hA' (fun y hy i hi => .inr (hf y hy i hi)) hP) (((hx8.trans x9).mono fun _ _ h => h.elim).then hc fun i _ hi => hi)⟩
    have := hfr i hi; have := (hx8.trans x9).size; omega
  unfold F20j4
  refine IfB.dec (fun hgt => ?_) (fun hle => ?_)
  · have h8 : 8 < q.length := by omega
    have xd := extDrew w70
    have hxd := hx.trans xd
    have fin : ∀ (a1 a2 : Nat) (s1 s2 : Sl) (w1 : World), OwS w1 s1 2 (prs (q.take 4)) → OwS w1 s2 2 (prs (q.drop 4)) → (∀ i ∈ blk s1, w.heap.size ≤ i) → (∀ i ∈ blk s2, w.heap.size ≤ i) → Ext w w1 → (2 : Nat) * (1 : Nat) ≤ (16777216 : Nat) ∧
        AllocP w1 (Obj.cells #[slV s1, slV s2] 28) fun c w2 => CX Try.prog 64 #[.pointer (some ⟨b, 0, none⟩), .int .i64 L.length, .int .i64 1, .slice (some ⟨c, 0, none⟩) 2 2] w2 fun v w' => ∃ (_ : Unit), v = .tuple #[] ∧ Q (.int .i64 0) w' := by
      intro _ _ s1 s2 w1 ho1 ho2 hb1 hb2 hx1
      refine ⟨by decide, fun c w2 h2 => call [(s1, q.take 4), (s2, q.drop 4)] w1 w2 c _ hx1 ?_ ?_ (by simp) ?_ h2⟩
      · intro y hy; simp at hy; rcases hy with rfl | rfl
        · exact ho1
        · exact ho2
      · intro y hy; simp at hy; rcases hy with rfl | rfl
        · exact hb1
        · exact hb2
      · rw [hput, if_pos h8]; simp
    have rd1 : ∀ w1, OwS w1 s69 2 (prs q) → ReadC w1 (slAddr s69.1 s69.3 0 2) (Int.toNat 4 * 2) (prs (q.take 4)) := fun w1 h => by
      have := h.read 0 4 (by omega)
      rw [Nat.zero_mul, List.drop_zero, prs_take] at this
      exact this
    have rd2 : ∀ w1, OwS w1 s69 2 (prs q) → ReadC w1 (slAddr s69.1 s69.3 (Int.toNat 4) 2) ((s69.2 - Int.toNat 4) * 2) (prs (q.drop 4)) := fun w1 h => by
      have := h.read 4 (s69.n - 4) (by omega)
      rw [prs_drop, List.take_of_length_le (by rw [prs_len, List.length_drop]; omega)] at this
      exact this
    have l1 : (prs (q.take 4)).length = Int.toNat 4 * 2 := by rw [prs_len, List.length_take]; show min 4 q.length * 2 = 4 * 2; omega
    have l2 : (prs (q.drop 4)).length = (s69.2 - Int.toNat 4) * 2 := by rw [prs_len, List.length_drop, show s69.2 = q.length from hsn]; rfl
    have k4 : Int.toNat 4 = 4 := rfl
    have fresh : ∀ {w1 w2 : World} {a : Nat} {T : TypeId}, IsAlloc w1 (.cells #[] T (0, 0)) a w2 → Ext w w1 → ∀ i ∈ blk (⟨some ⟨a, 0, none⟩, 0, 0⟩ : Sl), w.heap.size ≤ i := fun h hx i hi => by
      simp [blk] at hi; have := h.here; have := hx.size; omega
    refine ⟨⟨by decide, by omega⟩, ⟨by decide, by omega⟩, ⟨by decide, fun b74 w75 h75 => ⟨?_, by decide, fun b89 w90 h90 => ?_⟩⟩, by decide, fun b102 w103 h103 => ⟨by decide, fun b104 w105 h105 => ?_⟩⟩
    · have x75 : Ext w70.drew w75 := h75.ch _
      have xw75 := hxd.trans x75
      refine ⟨_, rd1 _ ((ho.ext xd).ext x75), (emptyOwn (sz := 2) h75).append (cnt := Int.toNat 4) rfl rfl l1 (prs_one _) ⟨(by show 0 + 4 ≤ _; omega), (by show (2 * (0 + 4) + 1024) * 16 ≤ _; omega)⟩ fun s77 w78 ho77 hn77 hc77 hb77 _ => ⟨by decide, fun b79 w80 h80 => ?_⟩⟩
      have x78 : Ext w70.drew w78 := newApp x75 (by intro i hi; simp [blk] at hi; have := h75.here; omega) hc77
      have f77 := newBlk xw75 (fresh h75 hxd) hb77
      have x80 : Ext w78 w80 := h80.ch _
      have f80 := fresh h80 (hxd.trans x78)
      refine ⟨_, rd2 _ (((ho.ext xd).ext x78).ext x80), (emptyOwn (sz := 2) h80).append (cnt := s69.2 - Int.toNat 4) rfl rfl l2 (prs_one _) ⟨by dsimp only; omega, by dsimp only; omega⟩ fun s82 w83 ho82 hn82 hc82 hb82 _ => ?_⟩
      have x83 : Ext w w83 := newApp ((hxd.trans x78).trans x80) f80 hc82
      have f82 := newBlk ((hxd.trans x78).trans x80) f80 hb82
      refine fin 0 0 s77 s82 w83 ?_ (by simpa using ho82) f77 f82 x83
      have : OwS w80 s77 2 (prs (q.take 4)) := by simpa using ho77.ext x80
      exact this.ch hc82 fun j hj hj2 => by simp [blk] at hj2; have := ho77.lt j hj; have := h80.here; omega
    · have x75 : Ext w70.drew w75 := h75.ch _
      have x90 : Ext w75 w90 := h90.ch _
      have xw90 := (hxd.trans x75).trans x90
      have f74 := fresh h75 hxd
      have f89 := fresh h90 (hxd.trans x75)
      have he : OwS w90 ⟨some ⟨b74, 0, none⟩, 0, 0⟩ 2 [] := (emptyOwn h75).ext x90
      have p75 := h75.here; have p90 := h90.here; have s75 := h75.size
      refine ⟨_, rd1 _ (((ho.ext xd).ext x75).ext x90), he.append (cnt := Int.toNat 4) rfl rfl l1 (prs_one _) ⟨(by show 0 + 4 ≤ _; omega), (by show (2 * (0 + 4) + 1024) * 16 ≤ _; omega)⟩ fun s92 w93 ho92 hn92 hc92 hb92 _ => ?_⟩
      have x93 : Ext w w93 := newApp xw90 f74 hc92
      have f92 := newBlk xw90 f74 hb92
      have x93' : Ext w70.drew w93 := newApp (x75.trans x90) (by intro i hi; simp [blk] at hi; omega) hc92
      have he2 : OwS w93 ⟨some ⟨b89, 0, none⟩, 0, 0⟩ 2 [] := (emptyOwn h90).ch hc92 fun j hj hj2 => by simp [blk] at hj hj2; omega
      refine ⟨_, rd2 _ ((ho.ext xd).ext x93'), he2.append (cnt := s69.2 - Int.toNat 4) rfl rfl l2 (prs_one _) ⟨by dsimp only; omega, by dsimp only; omega⟩ fun s95 w96 ho95 hn95 hc95 hb95 _ => ?_⟩
      have x96 : Ext w w96 := newApp x93 f89 hc95
      have f95 := newBlk x93 f89 hb95
      refine fin 0 0 s92 s95 w96 ?_ (by simpa using ho95) f92 f95 x96
      have : OwS w93 s92 2 (prs (q.take 4)) := by simpa using ho92
      exact this.ch hc95 fun j hj hj2 => by
        simp [blk] at hj2
        rcases hb92 j hj with h | h
        · simp [blk] at h; omega
        · have := h90.size; omega
    · have x103 : Ext w70.drew w103 := h103.ch _
      have x105 : Ext w103 w105 := h105.ch _
      have xw105 := (hxd.trans x103).trans x105
      have f102 := fresh h103 hxd
      have f104 := fresh h105 (hxd.trans x103)
      have p103 := h103.here; have p105 := h105.here; have s103 := h103.size; have s105 := h105.size
      refine ⟨_, rd1 _ (((ho.ext xd).ext x103).ext x105), (emptyOwn (sz := 2) h105).append (cnt := Int.toNat 4) rfl rfl l1 (prs_one _) ⟨(by show 0 + 4 ≤ _; omega), (by show (2 * (0 + 4) + 1024) * 16 ≤ _; omega)⟩ fun s107 w108 ho107 hn107 hc107 hb107 _ => ?_⟩
      have x108 : Ext w w108 := newApp xw105 f104 hc107
      have f107 := newBlk xw105 f104 hb107
      have x108' : Ext w70.drew w108 := newApp (x103.trans x105) (by intro i hi; simp [blk] at hi; omega) hc107
      have he2 : OwS w108 ⟨some ⟨b102, 0, none⟩, 0, 0⟩ 2 [] := ((emptyOwn h103).ext x105).ch hc107 fun j hj hj2 => by simp [blk] at hj hj2; omega
      refine ⟨_, rd2 _ ((ho.ext xd).ext x108'), he2.append (cnt := s69.2 - Int.toNat 4) rfl rfl l2 (prs_one _) ⟨by dsimp only; omega, by dsimp only; omega⟩ fun s110 w111 ho110 hn110 hc110 hb110 _ => ?_⟩
      have x111 : Ext w w111 := newApp x108 f102 hc110
      have f110 := newBlk x108 f102 hb110
      refine fin 0 0 s107 s110 w111 ?_ (by simpa using ho110) f107 f110 x111
      have : OwS w108 s107 2 (prs (q.take 4)) := by simpa using ho107
      exact this.ch hc110 fun j hj hj2 => by
        simp [blk] at hj2
        rcases hb107 j hj with h | h
        · simp [blk] at h; omega
        · omega
  · refine ⟨by decide, fun c w2 h2 => call [(s69, q)] w70 w2 c _ hx ?_ ?_ (by simp) ?_ h2⟩
    · intro y hy; simp at hy; subst hy; exact ho
    · intro y hy; simp at hy; subst hy; exact hb
    · rw [hput, if_neg (by omega)]; simp

/-- An element of a list put in its place. -/
theorem take_ins {p : List Pr} {pos : Nat} {x : Pr} (hp : pos ≤ p.length) {j : Nat} (hj : pos ≤ j) {z : Pr} (hz : p[j]? = some z) : (p.take pos ++ x :: p.drop pos).take (j + 1) ++ [z] = (p.take pos ++ x :: p.drop pos).take (j + 2) := by
  have : (p.take pos ++ x :: p.drop pos)[j + 1]? = some z := by
    have hl : (p.take pos).length = pos := by rw [List.length_take]; omega
    rw [List.getElem?_append_right (by omega), hl, show j + 1 - pos = (j - pos) + 1 by omega, List.getElem?_cons_succ, List.getElem?_drop, show pos + (j - pos) = j by omega]
    exact hz
  rw [show j + 2 = (j + 1) + 1 from rfl, take_succ_get this]
theorem take_ins0 {p : List Pr} {pos : Nat} {x : Pr} (hp : pos ≤ p.length) : p.take pos ++ [x] = (p.take pos ++ x :: p.drop pos).take (pos + 1) := by
  have e : p.take pos ++ x :: p.drop pos = (p.take pos ++ [x]) ++ p.drop pos := by simp
  have hl : (p.take pos ++ [x]).length = pos + 1 := by rw [List.length_append, List.length_take]; simp; omega
  rw [e, ← hl, List.take_append_of_le_length (Nat.le_refl _), List.take_length]

theorem c20 {A : Nat → Prop} {w : World} {b : Nat} {P : List (List Pr)} (h : RA A w b P) (hI : Inv P) (k v : Int) :
    CW Try.prog 20 #[.pointer (some ⟨b, 0, none⟩), .int .i64 k, .int .i64 v] w fun r w' =>
      r = .int .i64 (if 0 ≤ k ∧ k ≤ 999 then 0 else 3) ∧ RA (New A w) w' b (if 0 ≤ k ∧ k ≤ 999 then putP P k v else P) ∧ Ch (fun i => i = b) w w' := by
  have hRA := h
  obtain ⟨s, ps, hS, hP, hA⟩ := h
  refine F20_ok _ _ _ _ _ (IfB.dec (fun hlt => ?_) (fun hge => IfB.dec (fun hgt => ?_) (fun hle => ?_)))
  · rw [if_neg (by omega), if_neg (by omega)]
    exact ⟨rfl, hRA.mono fun i _ h => .inl h, Ch.refl _ _⟩
  · rw [if_neg (by omega), if_neg (by omega)]
    exact ⟨rfl, hRA.mono fun i _ h => .inl h, Ch.refl _ _⟩
  have hk : 0 ≤ k ∧ k ≤ 999 := by omega
  rw [if_pos hk, if_pos hk]
  refine (c63 hS hP hI k).use ?_
  rintro _ _ ⟨rfl, rfl⟩
  refine ⟨((atP P k : Int), idxF P k), rfl, b, 0, rfl, s, hS.cell, ?_⟩
  have hsn := hS.n
  have hlen : ps.length = P.length := by rw [← hP, List.length_map]
  have hpl := hI.plen
  have hbw : b < w.heap.size := hS.low b (.inl rfl)
  by_cases hne : P = []
  · subst hne
    have hps : ps = [] := List.map_eq_nil_iff.1 hP
    subst hps
    refine IfB.yes (by rw [show s.2 = s.n from rfl, hsn]; rfl) ⟨by decide, fun b7 w8 h8 => ⟨by decide, fun b9 w10 h10 => ⟨b, 0, rfl, rfl, ?_⟩⟩⟩
    have x8 : Ext w w8 := h8.ch _
    have x10 : Ext w8 w10 := h10.ch _
    obtain ⟨T, hT⟩ := hS.box
    have p8 := h8.here; have p10 := h10.here; have s8 := h8.size; have s10 := h10.size
    refine store_one (Ext.at (x8.trans x10) hT) (by simp) rfl fun w13 h13 => ⟨rfl, ⟨⟨some ⟨b9, 0, none⟩, 1, 1⟩, [(⟨some ⟨b7, 0, none⟩, 1, 1⟩, [(k, v)])], ⟨⟨T, h13.new⟩, ?_, ?_, ?_, ?_, Nat.le_refl _, by intro x hx; simp at hx; subst hx; exact Nat.le_refl _⟩, rfl, ?_⟩, ((x8.trans x10).mono fun _ _ h => h.elim).then h13.ch fun i _ hi => hi⟩
    · have : OwS w10 ⟨some ⟨b9, 0, none⟩, 1, 1⟩ 1 [slV ⟨some ⟨b7, 0, none⟩, 1, 1⟩] := OwS.new h10 rfl
      exact this.rd.ch h13.ch fun i hi e => by simp [blk] at hi; omega
    · intro x hx
      simp at hx; subst hx
      have : OwS w8 ⟨some ⟨b7, 0, none⟩, 1, 1⟩ 2 (prV (k, v)) := OwS.new h8 rfl
      exact ((this.ext x10).rd).ch h13.ch fun i hi e => by simp [blk] at hi; omega
    · refine ⟨by simp [blk]; omega, fun x hx => ?_⟩
      simp at hx; subst hx; simp [blk]; omega
    · rintro i (rfl | hi | ⟨x, hx, hi⟩)
      · rw [h13.size]; omega
      · simp [blk] at hi; rw [h13.size]; omega
      · simp at hx; subst hx; simp [blk] at hi; rw [h13.size]; omega
    · rintro i (rfl | hi | ⟨x, hx, hi⟩)
      · exact .inl (hA _ (.inl rfl))
      · simp [blk] at hi; exact .inr (by omega)
      · simp at hx; subst hx; simp [blk] at hi; exact .inr (by omega)
  have hAt := atP_is hI hne k
  obtain ⟨L, x, R, rfl, hL, hx, hLm, hRm⟩ := split_at hP hAt
  have h8 := hI.few _ hAt.mem
  have hsr := hAt.srt
  rw [← hx] at h8 hsr
  have hLR : L.length + R.length ≤ 1000 := by simp at hlen; omega
  have hxi : (L ++ x :: R)[atP P k]? = some x := by rw [← hL]; simp
  obtain ⟨a, o, ha, hca, hr, hxn⟩ := hS.page hxi
  have hba : (0 : Int) ≤ (atP P k : Int) ∧ (atP P k : Int) < (s.n : Int) := ⟨by omega, by have := hAt.lt; omega⟩
  have hcell : ∀ w', Ext w w' → w'.cell? ⟨a, o + (atP P k : Int).toNat, none⟩ = some (hV x) := fun w' hx' => by
    obtain ⟨a', o', ha', hc', _⟩ := (hS.ext hx').page hxi
    rw [ha] at ha'; cases ha'
    rw [Int.toNat_natCast]; exact hc'
  refine IfB.no (by rw [show s.2 = s.n from rfl, hsn]; simp; omega) ?_
  have hq9 := insS_len (v := v) hsr (k := k)
  have hput : putP P k v = (if 8 < (insS x.2 k v).length then L.map (·.2) ++ [(insS x.2 k v).take 4, (insS x.2 k v).drop 4] ++ R.map (·.2) else L.map (·.2) ++ insS x.2 k v :: R.map (·.2)) := by
    rw [putP_eq hne, ← hx, hLm, hRm]
  have hpos := posP_le x.2 k
  have w1 : ∀ j : Nat, j < x.2.length → IntKind.i64.wrap ((j : Int) + (1 : Int)) = ((j + 1 : Nat) : Int) := fun j hj => by rw [wrap_of (by omega) (by omega)]; rfl
  -- a round appends a pair
  have app : ∀ (l : Sl) (c : List Pr) (z : Pr) (b36 : Nat) (w53 : World) (Q : Sl → World → Prop), OwS w53 l 2 (prs c) → c.length ≤ 20 → Ext w w53 → (∀ i ∈ blk l, w.heap.size ≤ i) → (∃ T, w53.heap[b36]? = some (.cells #[.int .i64 z.1, .int .i64 z.2] T (0, 0))) → (∀ i ∈ blk l, i ≠ b36) → w.heap.size ≤ b36 →
      (∀ l' w', OwS w' l' 2 (prs (c ++ [z])) → Ext w w' → (∀ i ∈ blk l', w.heap.size ≤ i) → Q l' w') → ∃ (x56 : Int × Int), CellsAt w53 b36 (0 : Nat) [Value.int IntKind.i64 x56.1, Value.int IntKind.i64 x56.2] ∧ (1 : Nat) * (2 : Nat) ≤ (16777216 : Nat) ∧
        AllocP w53 (Obj.cells #[Value.int IntKind.i64 x56.1, Value.int IntKind.i64 x56.2] (37 : Nat)) fun (b57 : Nat) (w58 : World) => ∃ (l59 : List Value), ReadC w58 (some ({ block := b57, off := (0 : Nat) } : Addr)) ((1 : Nat) * (2 : Nat)) l59 ∧ AppendP tt37 37 w58 l.1 l.2 l.3 1 l59 Q := by
    rintro l c z b36 w53 Q ho hcl hxx hb ⟨T, hT⟩ hne36 hb36 hQ
    refine ⟨z, cellsAt_of hT fun i v hv => by simpa using hv, by decide, fun b57 w58 h58 => ?_⟩
    have x58 : Ext w53 w58 := h58.ch _
    have hln : l.n = c.length := by have := ho.len; rw [prs_len] at this; omega
    refine (ho.ext x58).lit (new := [.int .i64 z.1, .int .i64 z.2]) h58.new rfl (prV_one z) rfl rfl (by omega) (by decide) fun l' w' ho' hn' hc' hb' => hQ l' w' ?_ (newApp (hxx.trans x58) hb hc') (newBlk (hxx.trans x58) hb hb')
    rw [prs_append]; exact ho'
  cases hh : hasP P k with
  | true =>
    have hi' : isP x.2 k = true := by rw [hx]; exact hh
    obtain ⟨u, hu⟩ := isP_iff.1 hi'
    have hplt := (List.getElem?_eq_some_iff.1 hu).1
    have hidx : idxF P k = (posP x.2 k : Int) := by unfold idxF; rw [hh, hx]; rfl
    rw [hidx]
    have hsetl : ∀ j, j < x.2.length → ∃ z, x.2[j]? = some z ∧ (x.2.set (posP x.2 k) (k, v))[j]? = some (if j = posP x.2 k then (z.1, v) else z) := by
      intro j hj
      refine ⟨x.2[j], List.getElem?_eq_getElem hj, ?_⟩
      rw [List.getElem?_set]
      by_cases he : posP x.2 k = j
      · rw [if_pos he, if_pos hplt, if_pos he.symm]
        have : x.2[j] = (k, u) := by
          rw [he, List.getElem?_eq_getElem hj] at hu; exact Option.some.inj hu
        rw [this]
      · rw [if_neg he, if_neg (fun e => he e.symm), List.getElem?_eq_getElem hj]
    have hins := insS_is (v := v) hsr hi'
    refine ⟨fun n y w18 => ∃ (j : Nat) (l : Sl), j ≤ x.2.length ∧ n + j = x.2.length ∧ y = (l, true, (j : Int)) ∧ OwS w18 l 2 (prs ((x.2.set (posP x.2 k) (k, v)).take j)) ∧ Ext w w18 ∧ ∀ i ∈ blk l, w.heap.size ≤ i,
      ⟨x.2.length, 0, ⟨none, 0, 0⟩, Nat.zero_le _, rfl, by rw [decide_eq_true (show (0 : Int) ≤ (posP x.2 k : Int) by omega)]; rfl, .nil _ _, Ch.refl _ _, by simp [blk]⟩, ?_⟩
    rintro n y w18 g ⟨j, l, hj, hnj, rfl, ho, hx18, hbl⟩
    unfold F20j1
    refine ⟨b, 0, rfl, s, (hS.ext hx18).cell, a, o, ha, hba, x.1, hcell _ hx18, IfB.dec (fun hlt => ?_) (fun hge => ?_)⟩
    · have hj' : j < x.2.length := by
        have : (j : Int) < (x.1.n : Int) := hlt
        omega
      obtain ⟨z, hz, hz'⟩ := hsetl j hj'
      obtain ⟨a2, o2, ha2, hc2⟩ := pageR (hr.ext hx18) hz
      refine ⟨b, 0, rfl, s, (hS.ext hx18).cell, a, o, ha, hba, x.1, hcell _ hx18, a2, o2, ha2, (⟨by omega, by omega⟩ : (0 : Int) ≤ (j : Int) ∧ (j : Int) < (x.1.n : Int)), z, by rw [Int.toNat_natCast]; exact hc2, fun b36 w37 h37 => ⟨rfl, store_all h37.new rfl (prV_one z) fun w38 h38 => ?_⟩⟩
      have x38 : Ext w18 w38 := Ext.fresh h37 h38
      have p37 := h37.here
      have hle := hx18.size
      have hne36 : ∀ i ∈ blk l, i ≠ b36 := fun i hi e => by have := ho.lt i hi; omega
      let z' : Pr := if j = posP x.2 k then (z.1, v) else z
      refine ⟨fun _ w42 => OwS w42 l 2 (prs ((x.2.set (posP x.2 k) (k, v)).take j)) ∧ Ext w w42 ∧ ∃ T, w42.heap[b36]? = some (.cells #[.int .i64 z'.1, .int .i64 z'.2] T (0, 0)), ?_, ?_⟩
      · refine IfB.intro (fun he => ?_) (fun he => ?_)
        · have he' : j = posP x.2 k := by have : (j : Int) = (posP x.2 k : Int) := eq_of_beq he; omega
          refine ⟨rfl, store_one h38.new (by show 1 < 2; omega) rfl fun w40 h40 => ⟨rfl, ?_, ?_, ?_⟩⟩
          · exact (ho.ext x38).ch h40.ch fun i hi e => hne36 i hi e
          · exact (hx18.trans x38).then h40.ch fun i hi e => by omega
          · have hz1 : z' = (z.1, v) := if_pos he'
            rw [hz1]; exact ⟨_, h40.new⟩
        · have he' : ¬ j = posP x.2 k := fun e => by subst e; simp at he
          have hz1 : z' = z := if_neg he'
          rw [hz1]
          exact ⟨rfl, ho.ext x38, hx18.trans x38, _, h38.new⟩
      · rintro _ w42 _ ⟨ho42, hx42, hT42⟩
        unfold F20j2
        refine ⟨fun y w53 => y = (l, true) ∧ w53 = w42, IfB.no rfl ⟨rfl, rfl, rfl⟩, ?_⟩
        rintro _ _ _ ⟨rfl, rfl⟩
        unfold F20j3
        refine app l _ z' b36 _ _ ho42 (by rw [List.length_take]; omega) hx42 hbl hT42 hne36 (by omega) fun l' w' ho' hx' hb' => ⟨rfl, n - 1, by omega, j + 1, l', hj', by omega, ?_, ?_, hx', hb'⟩
        · dsimp only; rw [w1 j hj']
        · rw [take_succ_get hz']; exact ho'
    · have hj' : j = x.2.length := by
        have : ¬ (j : Int) < (x.1.n : Int) := hge
        omega
      rw [hj', List.take_of_length_le (by rw [List.length_set]; exact Nat.le_refl _), ← hins] at ho
      refine ⟨fun y w70 => y = l ∧ w70 = w18, IfB.no rfl ⟨rfl, rfl, rfl⟩, ?_⟩
      rintro _ _ _ ⟨rfl, rfl⟩
      rw [← hL]
      exact c20j4 hS hA hx18 ho hbl (by rw [hq9]; split <;> omega) hLR hput fun w' h1 h2 => ⟨rfl, h1, h2⟩
  | false =>
    have hi' : isP x.2 k = false := by rw [hx]; exact hh
    have hidx : idxF P k = -1 := by unfold idxF; rw [hh]; rfl
    rw [hidx]
    have hins := insS_not (v := v) hsr hi'
    have hgt : ∀ z, x.2[posP x.2 k]? = some z → k < z.1 := fun z hz => by
      have h1 := posP_hi hsr (Nat.le_refl _) hz
      have h2 : z.1 ≠ k := fun e => by
        have : isP x.2 k = true := isP_iff.2 ⟨z.2, by rw [hz, ← e]⟩
        rw [hi'] at this; cases this
      omega
    refine ⟨fun n y w18 => ∃ (j : Nat) (l : Sl) (put : Bool) (c : List Pr), j ≤ x.2.length ∧ n + j = x.2.length ∧ y = (l, put, (j : Int)) ∧ OwS w18 l 2 (prs c) ∧ c.length ≤ 10 ∧ Ext w w18 ∧ (∀ i ∈ blk l, w.heap.size ≤ i) ∧
        ((put = false ∧ j ≤ posP x.2 k ∧ c = x.2.take j) ∨ (put = true ∧ posP x.2 k < j ∧ c = (x.2.take (posP x.2 k) ++ (k, v) :: x.2.drop (posP x.2 k)).take (j + 1))),
      ⟨x.2.length, 0, ⟨none, 0, 0⟩, false, [], Nat.zero_le _, rfl, rfl, .nil _ _, by simp, Ch.refl _ _, by simp [blk], .inl ⟨rfl, Nat.zero_le _, by simp⟩⟩, ?_⟩
    rintro n y w18 g ⟨j, l, put, c, hj, hnj, rfl, ho, hcl, hx18, hbl, hcase⟩
    unfold F20j1
    refine ⟨b, 0, rfl, s, (hS.ext hx18).cell, a, o, ha, hba, x.1, hcell _ hx18, IfB.dec (fun hlt => ?_) (fun hge => ?_)⟩
    · have hj' : j < x.2.length := by
        have : (j : Int) < (x.1.n : Int) := hlt
        omega
      have hz : x.2[j]? = some x.2[j] := List.getElem?_eq_getElem hj'
      generalize x.2[j] = z at hz
      obtain ⟨a2, o2, ha2, hc2⟩ := pageR (hr.ext hx18) hz
      refine ⟨b, 0, rfl, s, (hS.ext hx18).cell, a, o, ha, hba, x.1, hcell _ hx18, a2, o2, ha2, (⟨by omega, by omega⟩ : (0 : Int) ≤ (j : Int) ∧ (j : Int) < (x.1.n : Int)), z, by rw [Int.toNat_natCast]; exact hc2, fun b36 w37 h37 => ⟨rfl, store_all h37.new rfl (prV_one z) fun w38 h38 => ?_⟩⟩
      have x38 : Ext w18 w38 := Ext.fresh h37 h38
      have p37 := h37.here
      have hle := hx18.size
      have hne36 : ∀ i ∈ blk l, i ≠ b36 := fun i hi e => by have := ho.lt i hi; omega
      refine ⟨fun _ w42 => w42 = w38, IfB.no (by simp <;> omega) ⟨rfl, rfl⟩, ?_⟩
      rintro _ _ _ rfl
      unfold F20j2
      -- behind the pair that is put, if here
      refine ⟨fun y w53 => ∃ (l' : Sl) (put' : Bool) (c' : List Pr), y = (l', put') ∧ OwS w53 l' 2 (prs c') ∧ c'.length ≤ 11 ∧ Ext w w53 ∧ (∀ i ∈ blk l', w.heap.size ≤ i) ∧ (∀ i ∈ blk l', i ≠ b36) ∧ (∃ T, w53.heap[b36]? = some (.cells #[.int .i64 z.1, .int .i64 z.2] T (0, 0))) ∧
        ((put' = false ∧ j < posP x.2 k ∧ c' = x.2.take j) ∨ (put' = true ∧ posP x.2 k ≤ j ∧ c' = (x.2.take (posP x.2 k) ++ (k, v) :: x.2.drop (posP x.2 k)).take (j + 1))), ?_, ?_⟩
      · rcases hcase with ⟨rfl, hjp, rfl⟩ | ⟨rfl, hjp, rfl⟩
        · refine IfB.yes rfl ⟨z.1, by rw [cell_of h38.new]; rfl, IfB.dec (fun hkz => ⟨by decide, fun b47 w48 h48 => ?_⟩) (fun hkz => ?_)⟩
          · have hjp' : j = posP x.2 k := by
              rcases Nat.lt_or_ge j (posP x.2 k) with h | h
              · have := posP_lo h hz; omega
              · omega
            have x48 : Ext _ w48 := h48.ch (fun _ => False)
            have hln : l.n = j := by have := ho.len; rw [prs_len, List.length_take] at this; omega
            refine ((ho.ext x38).ext x48).lit (new := [.int .i64 k, .int .i64 v]) h48.new rfl (prV_one (k, v)) rfl rfl (by omega) (by decide) fun l' w' ho' hn' hc' hb' => ⟨rfl, l', true, x.2.take j ++ [(k, v)], rfl, ?_, ?_, newApp ((hx18.trans x38).trans x48) hbl hc', newBlk ((hx18.trans x38).trans x48) hbl hb', ?_, ⟨_, hc'.at (x48.at h38.new) fun h => hne36 _ h rfl⟩, .inr ⟨rfl, by omega, ?_⟩⟩
            · rw [prs_append]; exact ho'
            · simp; omega
            · intro i hi e
              rcases hb' i hi with h | h
              · exact hne36 i h e
              · have := h38.size; have := h37.size; have := x48.size; omega
            · rw [hjp']; exact take_ins0 hpos
          · refine ⟨rfl, l, false, _, rfl, ho.ext x38, by rw [List.length_take]; omega, hx18.trans x38, hbl, hne36, ⟨_, h38.new⟩, .inl ⟨rfl, ?_, rfl⟩⟩
            rcases Nat.lt_or_ge j (posP x.2 k) with h | h
            · exact h
            · have : j = posP x.2 k := by omega
              subst this
              exact absurd (hgt z hz) hkz
        · exact IfB.no rfl ⟨rfl, l, true, _, rfl, ho.ext x38, by rw [List.length_take]; omega, hx18.trans x38, hbl, hne36, ⟨_, h38.new⟩, .inr ⟨rfl, by omega, rfl⟩⟩
      · rintro _ w53 _ ⟨l', put', c', rfl, ho', hcl', hx53, hb', hn', hT', hcase'⟩
        unfold F20j3
        refine app l' c' z b36 _ _ ho' (by omega) hx53 hb' hT' hn' (by omega) fun l2 w' ho2 hx2 hb2 => ⟨rfl, n - 1, by omega, j + 1, l2, put', c' ++ [z], hj', by omega, ?_, ho2, ?_, hx2, hb2, ?_⟩
        · dsimp only; rw [w1 j hj']
        · rcases hcase' with ⟨_, _, rfl⟩ | ⟨_, _, rfl⟩
          · simp; omega
          · simp; omega
        · rcases hcase' with ⟨rfl, hjp, rfl⟩ | ⟨rfl, hjp, rfl⟩
          · exact .inl ⟨rfl, hjp, (take_succ_get hz).symm⟩
          · exact .inr ⟨rfl, by omega, take_ins hpos hjp hz⟩
    · have hj' : j = x.2.length := by
        have : ¬ (j : Int) < (x.1.n : Int) := hge
        omega
      subst hj'
      refine ⟨fun y w70 => OwS w70 y 2 (prs (insS x.2 k v)) ∧ Ext w w70 ∧ ∀ i ∈ blk y, w.heap.size ≤ i, ?_, ?_⟩
      · rcases hcase with ⟨rfl, hjp, rfl⟩ | ⟨rfl, hjp, rfl⟩
        · refine IfB.yes rfl ⟨by decide, fun b47 w48 h48 => ?_⟩
          have x48 : Ext w18 w48 := h48.ch (fun _ => False)
          have hln : l.n = x.2.length := by have := ho.len; rw [prs_len, List.length_take] at this; omega
          refine (ho.ext x48).lit (new := [.int .i64 k, .int .i64 v]) h48.new rfl (prV_one (k, v)) rfl rfl (by omega) (by decide) fun l' w' ho' hn' hc' hb' => ⟨rfl, ?_, newApp (hx18.trans x48) hbl hc', newBlk (hx18.trans x48) hbl hb'⟩
          have hpe : posP x.2 k = x.2.length := by omega
          rw [hins, hpe, List.drop_length, prs_append]; exact ho'
        · refine IfB.no rfl ⟨rfl, ?_, hx18, hbl⟩
          rw [List.take_of_length_le (by simp; omega), ← hins] at ho
          exact ho
      · rintro y w70 _ ⟨ho70, hx70, hb70⟩
        rw [← hL]
        exact c20j4 hS hA hx70 ho70 hb70 (by rw [hq9]; split <;> omega) hLR hput fun w' h1 h2 => ⟨rfl, h1, h2⟩
end Go.Proofs.Ytopecljhehcldaa.Gx
