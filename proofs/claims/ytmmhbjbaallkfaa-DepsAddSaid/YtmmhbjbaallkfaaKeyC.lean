/- Package keys: meets, Meet. -/
import Derived.Test.YtmmhbjbaallkfaaKeyB
namespace Go.Proofs.Ytmmhbjbaallkfaa.Gx
open Go
set_option linter.unusedSimpArgs false
set_option linter.unusedVariables false

def bothS (x y : Spn) : Spn := (if x.1 < y.1 then y.1 else x.1, if y.2 < x.2 then y.2 else x.2)
def meetRow (x : Spn) (bs : List Spn) : List Spn := (bs.map (bothS x)).filter fun s => decide (s.1 ≤ s.2)
def meetL (ls bs : List Spn) : List Spn := ls.flatMap fun x => meetRow x bs
theorem meetRow_take {x y : Spn} {bs : List Spn} {j : Nat} (h : bs[j]? = some y) : meetRow x (bs.take (j + 1)) = meetRow x (bs.take j) ++ if (bothS x y).1 ≤ (bothS x y).2 then [bothS x y] else [] := by
  unfold meetRow
  rw [take_succ_get h, List.map_append, List.filter_append]
  congr 1
  by_cases hc : (bothS x y).1 ≤ (bothS x y).2 <;> simp [hc]
theorem meetL_take {ls bs : List Spn} {i : Nat} {x : Spn} (h : ls[i]? = some x) : meetL (ls.take (i + 1)) bs = meetL (ls.take i) bs ++ meetRow x bs := by
  unfold meetL; rw [take_succ_get h, List.flatMap_append]; simp

structure InvM (b1 b3 : Nat) (sa sb : Sl) (ls bs : List Spn) (W : World) : Prop where
  a : ∃ T, W.heap[b1]? = some (.cells #[slV sa] T (0, 0))
  b : ∃ T, W.heap[b3]? = some (.cells #[slV sb] T (0, 0))
  ra : Rd W sa 2 (ls.flatMap sv)
  rb : Rd W sb 2 (bs.flatMap sv)
theorem InvM.stb {n b1 b3 : Nat} {sa sb : Sl} {ls bs : List Spn} {W W' : World} (h : InvM b1 b3 sa sb ls bs W) (hS : Stb n W W') : InvM b1 b3 sa sb ls bs W' := by
  obtain ⟨⟨T, h1⟩, ⟨T', h2⟩, h3, h4⟩ := h
  exact ⟨⟨T, hS.keep _ _ h1 rfl⟩, ⟨T', hS.keep _ _ h2 rfl⟩, rd_stb h3 hS, rd_stb h4 hS⟩

abbrev spA (x : Spn) : Array Value := #[spV x]
theorem itM (b1 b3 : Nat) (sa sb : Sl) (ls bs : List Spn) (hla : ls.length ≤ 1000000) (hlb : bs.length ≤ 1000000) :
    IterU Try.prog 96 #[.pointer (some ⟨b1, 0, none⟩), .pointer (some ⟨b3, 0, none⟩)] spA false (fun pre x => ∃ post, pre ++ x :: post = meetL ls bs) (fun xs => xs = meetL ls bs) (InvM b1 b3 sa sb ls bs) := by
  refine ⟨en96, fun l J Jx U W hJ hJx hInv hSz _ hU hU1 hstep h0 => ?_⟩
  have hI0 := hInv _ _ h0
  have han := rdN sv_len (by omega) hI0.ra
  have hbn := rdN sv_len (by omega) hI0.rb
  obtain ⟨T1, hT1⟩ := hI0.a
  refine F96_ok l b1 b3 W _ ⟨sa, by rw [cell_of hT1]; rfl, fun n x w6 => ∃ i : Nat, i ≤ ls.length ∧ n + i = ls.length ∧ x = (i : Int) ∧ J (meetL (ls.take i) bs) w6, ⟨ls.length, 0, Nat.zero_le _, rfl, rfl, h0⟩, ?_⟩
  rintro n _ w6 g ⟨i, hi, hni, rfl, hj⟩
  have hw6 := hSz _ _ hj
  unfold F96j1
  refine IfB.dec (fun hlt => ?_) fun hge => ?_
  · have hi' : i < ls.length := by omega
    have hx : ls[i]? = some ls[i] := List.getElem?_eq_getElem hi'
    have hmt := meetL_take (bs := bs) hx
    have hsplit : ∀ (q : List Spn), (∃ r, q ++ r = meetRow ls[i] bs) → ∃ r, meetL (ls.take i) bs ++ q ++ r = meetL ls bs := fun q ⟨r, hr⟩ => by
      refine ⟨r ++ meetL (ls.drop (i + 1)) bs, ?_⟩
      have : meetL ls bs = meetL (ls.take (i + 1)) bs ++ meetL (ls.drop (i + 1)) bs := by
        unfold meetL; rw [← List.flatMap_append, List.take_append_drop]
      rw [this, hmt, ← hr]; simp
    generalize ls[i] = x at hx hmt hsplit
    obtain ⟨a, o, hp, hc⟩ := (hInv _ _ hj).ra.elem (i := i) (by omega) (by omega) (flatGet sv_len hx)
    refine ⟨a, o, hp, ⟨by omega, hlt⟩, x, by rw [Int.toNat_natCast]; exact hc, boxSp rfl fun b12 w14 hb12 hs14 h14 e14 hS14 => ?_⟩
    have hj14 := hJ _ _ _ hj (hS14 _ hw6)
    have hI14 := hInv _ _ hj14
    obtain ⟨T2, hT2⟩ := hI14.b
    have hn12 : ¬ U w14 b12 := fun h => by
      have := hU1 _ _ hj _ (hU _ _ (hS14 _ hw6) _ h)
      omega
    refine ⟨sb, by rw [cell_of hT2]; rfl, fun m y w20 => ∃ j : Nat, j ≤ bs.length ∧ m + j = bs.length ∧ y = (j : Int) ∧ J (meetL (ls.take i) bs ++ meetRow x (bs.take j)) w20 ∧ (∃ T, w20.heap[b12]? = some (.cells #[.int .i64 x.1, .int .i64 x.2] T (0, 0))) ∧ ¬ U w20 b12,
      ⟨bs.length, 0, Nat.zero_le _, rfl, rfl, by simpa [meetRow] using hj14, ⟨_, h14⟩, hn12⟩, ?_⟩
    rintro m _ w20 g ⟨j, hj1, hmj, rfl, hJ20, ⟨T3, h20⟩, hn20⟩
    have hw20 := hSz _ _ hJ20
    unfold F96j2
    refine IfB.dec (fun hlt2 => ?_) fun hge2 => ?_
    · have hj' : j < bs.length := by omega
      have hy : bs[j]? = some bs[j] := List.getElem?_eq_getElem hj'
      have hmr := meetRow_take (x := x) hy
      have hrest : ∃ r, meetRow x (bs.take (j + 1)) ++ r = meetRow x bs := ⟨meetRow x (bs.drop (j + 1)), by
        unfold meetRow; rw [← List.filter_append, ← List.map_append, List.take_append_drop]⟩
      generalize bs[j] = y at hy hmr
      obtain ⟨a2, o2, hp2, hc2⟩ := (hInv _ _ hJ20).rb.elem (i := j) (by omega) (by omega) (flatGet sv_len hy)
      have hi1 : IntKind.i64.wrap ((j : Int) + 1) = ((j + 1 : Nat) : Int) := by rw [wrap_of (by omega) (by omega)]; rfl
      have hlt12 := heap_lt h20
      refine ⟨a2, o2, hp2, ⟨by omega, hlt2⟩, y, by rw [Int.toNat_natCast]; exact hc2, boxSp rfl fun b26 w28 hb26 hs28 h28 e28 hS28 => ?_⟩
      have k28 := e28.at h20
      refine ⟨x.1, by rw [cell_of k28]; rfl, y.1, by rw [cell_of h28]; rfl, x.2, by rw [cell_of k28]; rfl, y.2, by rw [cell_of h28]; rfl, boxSp (x := bothS x y) rfl fun b33 w35 hb33 hs35 h35 e35 hS35 => ?_⟩
      have hS : ∀ n, n ≤ w20.heap.size → Stb n w20 w35 := fun n hn => (hS28 n hn).trans (hS35 n (by omega))
      have hJ35 := hJ _ _ _ hJ20 (hS _ hw20)
      have k35 := e35.at k28
      have hn35 : ¬ U w35 b12 := fun h => hn20 (hU _ _ (hS _ hw20) _ h)
      refine ⟨(bothS x y).1, by rw [cell_of h35]; rfl, (bothS x y).2, by rw [cell_of h35]; rfl, IfB.dec (fun hne => ?_) fun hne => ?_⟩
      · rw [if_pos hne] at hmr
        refine ⟨bothS x y, cellsAt_of h35 fun i v hv => by simpa using hv, (hstep _ (bothS x y) w35 hJ35 ?_).mono fun t w40 ht => ?_⟩
        · obtain ⟨r, hr⟩ := hsplit _ hrest
          exact ⟨r, by rw [← hr, hmr]; simp⟩
        · cases t with
          | false => exact IfB.yes rfl (.inr ⟨_, ht⟩)
          | true =>
            obtain ⟨hJ40, _, hK⟩ := ht
            refine IfB.no rfl ⟨rfl, m - 1, by omega, j + 1, hj', by omega, hi1, ?_, ⟨T3, ?_⟩, fun h => ?_⟩
            · rw [hmr, ← List.append_assoc]; exact hJ40
            · rw [hK.at' b12 (by omega) (by omega) hn35]; exact k35
            · rcases hK.own _ h with h | h
              · exact hn35 h
              · omega
      · rw [if_neg hne, List.append_nil] at hmr
        exact ⟨rfl, m - 1, by omega, j + 1, hj', by omega, hi1, by rw [hmr]; exact hJ35, ⟨T3, k35⟩, hn35⟩
    · have hj' : j = bs.length := by omega
      subst hj'
      rw [List.take_length] at hJ20
      exact ⟨rfl, n - 1, by omega, i + 1, hi', by omega, by rw [wrap_of (by omega) (by omega)]; rfl, by rw [hmt]; exact hJ20⟩
  · have hi' : i = ls.length := by omega
    subst hi'
    rw [List.take_length] at hj
    exact .inl ⟨_, rfl, hj⟩

theorem c73 (sa sb : Sl) (w : World) : CW Try.prog 73 #[slV sa, slV sb] w fun v w' => ∃ b1 b3, v = .func (.func 96) #[] #[.pointer (some ⟨b1, 0, none⟩), .pointer (some ⟨b3, 0, none⟩)] ∧
    (∃ T, w'.heap[b1]? = some (.cells #[slV sa] T (0, 0))) ∧ (∃ T, w'.heap[b3]? = some (.cells #[slV sb] T (0, 0))) ∧ w.heap.size ≤ b1 ∧ w.heap.size ≤ b3 ∧ Ext w w' :=
  F73_ok sa sb w _ fun b1 w2 h2 b3 w4 h4 => ⟨b1, b3, rfl, ⟨_, h4.at h2.new⟩, ⟨_, h4.new⟩, Nat.le_of_eq h2.here.symm, by rw [h4.here, h2.size]; omega, (h2.ch _).trans (h4.ch _)⟩

theorem meetL_iff {ls bs : List Spn} (ha : ∀ x ∈ ls, mayS x) (hb : ∀ x ∈ bs, mayS x) : meetL ls bs ≠ [] ↔ ∃ k, hasS ls k ∧ hasS bs k := by
  constructor
  · intro h
    obtain ⟨s, hs⟩ := List.exists_mem_of_ne_nil _ h
    obtain ⟨x, hx, hs⟩ := List.mem_flatMap.1 hs
    obtain ⟨hs, hd⟩ := List.mem_filter.1 hs
    obtain ⟨y, hy, rfl⟩ := List.mem_map.1 hs
    have hd : (bothS x y).1 ≤ (bothS x y).2 := by simpa using hd
    refine ⟨(bothS x y).1, ⟨x, hx, ha x hx, ?_⟩, ⟨y, hy, hb y hy, ?_⟩⟩
    · unfold bothS at hd ⊢; dsimp only at hd ⊢; split <;> split at hd <;> omega
    · unfold bothS at hd ⊢; dsimp only at hd ⊢; split <;> split at hd <;> omega
  · rintro ⟨k, ⟨x, hx, _, h1, h2⟩, ⟨y, hy, _, h3, h4⟩⟩ he
    have : bothS x y ∈ meetL ls bs := by
      refine List.mem_flatMap.2 ⟨x, hx, List.mem_filter.2 ⟨List.mem_map.2 ⟨y, hy, rfl⟩, ?_⟩⟩
      simp only [decide_eq_true_eq]
      unfold bothS; dsimp only; split <;> split <;> omega
    rw [he] at this
    cases this

theorem sumS_one (s : Sl) (l : List Spn) : sumS [(s, l)] = l.length := by simp [sumS]

/-- plain of one list, ls Meet calls it. -/
theorem plain1 {w : World} {s : Sl} {xs : List Spn} (h : Rd w s 2 (xs.flatMap sv)) (hl : xs.length ≤ 1000000) {K : Value → World → Prop}
    (hK : ∀ t' os w', NormS os → (∀ k, hasS os k ↔ hasS xs k) → OwS w' t' 2 (os.flatMap sv) → os.length ≤ xs.length → Ext w w' → (∀ j ∈ blk t', w.heap.size ≤ j) → K (slV t') w') {T : TypeId} :
    AllocP w (.cells #[slV s] T) fun b w2 => CX Try.prog 74 #[.slice (some ⟨b, 0, none⟩) 1 1] w2 K := by
  intro b w2 h2
  have e2 : Ext w w2 := h2.ch _
  have hR : Rd w2 ⟨some ⟨b, 0, none⟩, 1, 1⟩ 1 ([(s, xs)].map hS) := (OwS.new (cs := [slV s]) (n := 1) (sz := 1) h2 rfl).rd
  refine (c74 hR (fun x hx => by rw [List.mem_singleton.1 hx]; exact h.ext e2) (by rw [sumS_one]; exact hl) (by simp)).use ?_
  rintro _ w' ⟨t', os, rfl, h1, h3, h4, h5, h6, h7⟩
  rw [sumS_one] at h5
  simp only [List.flatMap_cons, List.flatMap_nil, List.append_nil] at h3
  exact hK t' os w' h1 h3 h4 h5 (e2.trans h6) fun j hj => by have := h7 j hj; have := e2.size; omega

theorem c60 {w : World} {s t : Sl} {xs ys : List Spn} (hs : Rd w s 2 (xs.flatMap sv)) (ht : Rd w t 2 (ys.flatMap sv)) (hxl : xs.length ≤ 1000000) (hyl : ys.length ≤ 1000000) :
    CW Try.prog 60 #[slV s, slV t] w fun v w' => ∃ r, v = .bool r ∧ (r = true ↔ ∃ k, hasS xs k ∧ hasS ys k) ∧ Ext w w' := by
  refine F60_ok s t w _ fun b1 w2 h2 => ⟨by decide, ?_⟩
  have e2 : Ext w w2 := h2.ch _
  refine plain1 (hs.ext e2) hxl fun s7 os1 w6 hN1 hk1 ho1 hl1 e6 hb7 => ⟨s7, rfl, by decide, ?_⟩
  refine plain1 (ht.ext (e2.trans e6)) hyl fun s12 os2 w11 hN2 hk2 ho2 hl2 e11 hb12 => ⟨s12, rfl, ?_⟩
  refine (c73 s7 s12 w11).use ?_
  rintro _ w14 ⟨p1, p3, rfl, hp1, hp3, hp1', hp3', e14⟩
  have hiff := meetL_iff hN1.2 hN2.2
  have hall : meetL os1 os2 ≠ [] ↔ ∃ k, hasS xs k ∧ hasS ys k := by
    rw [hiff]; exact exists_congr fun k => and_congr (hk1 k) (hk2 k)
  refine ⟨(96, #[.pointer (some ⟨p1, 0, none⟩), .pointer (some ⟨p3, 0, none⟩)]), rfl, fun g => ?_⟩
  have E14 : Ext w w14 := ((e2.trans e6).trans e11).trans e14
  have H1 : w14.heap[b1]? = some (.cells #[.bool false] 4 (0, 0)) := e14.at (e11.at (e6.at h2.new))
  have hI : InvM p1 p3 s7 s12 os1 os2 w14 := ⟨hp1, hp3, ((ho1.ext e11).ext e14).rd, (ho2.ext e14).rd⟩
  have hb1 : b1 < w14.heap.size := heap_lt H1
  have hb1' : w.heap.size = b1 := h2.here.symm
  refine range_noneU tbOk mixed (gf := 96) (lb := #[.pointer (some ⟨p1, 0, none⟩), .pointer (some ⟨p3, 0, none⟩)]) rfl (itM p1 p3 s7 s12 os1 os2 (by omega) (by omega)) R60_0ok1 R60_0ok2 R60_0okp (fun _ => rfl)
    (fun _ _ => False) (fun _ _ _ _ h => h)
    (fun pre W => pre = [] ∧ InvM p1 p3 s7 s12 os1 os2 W ∧ W.heap[b1]? = some (.cells #[.bool false] 4 (0, 0)) ∧ Ch (fun i => w.heap.size ≤ i) w W)
    (fun c pre W => c = .ret ∧ meetL os1 os2 ≠ [] ∧ W.heap[b1]? = some (.cells #[.bool true] 4 (0, 0)) ∧ Ch (fun i => w.heap.size ≤ i) w W) ?_ ?_ ?_ (fun h => by cases h) (fun _ _ _ _ h => h.elim) ?_ ?_ ?_ ?_
  · rintro pre A B ⟨h1, h2, h3, h4⟩ hS
    exact ⟨h1, h2.stb hS, hS.keep _ _ h3 rfl, h4.then (.ofStb hS) fun i _ hi => by omega⟩
  · rintro c pre A B ⟨h1, h2, h3, h4⟩ hS
    exact ⟨h1, h2, hS.keep _ _ h3 rfl, h4.then (.ofStb hS) fun i _ hi => by omega⟩
  · rintro pre W ⟨_, h, _⟩; exact h
  · exact ⟨rfl, hI, H1, E14.mono fun _ _ h => h.elim⟩
  · rintro pre x W ⟨rfl, hM, hB, hC⟩ hx hW
    refine F60b0_ok b1 (96, #[.pointer (some ⟨p1, 0, none⟩), .pointer (some ⟨p3, 0, none⟩)]) (spV x) _ _ _ _ _ W ?_
    refine ⟨rfl, ⟨rfl, rfl⟩, fun w9 hS _ _ => ⟨rfl, store_one (hS.keep _ _ hB rfl) (by simp) rfl fun w16 h16 => ?_⟩⟩
    refine ⟨⟨h16.old _ (by omega), h16.old _ (by omega)⟩, rfl, ?_, h16.new, (hC.then (.ofStb hS) fun i _ hi => by omega).then h16.ch fun i _ e => by omega⟩
    obtain ⟨post, hp⟩ := hx
    rw [← hp]; simp
  · rintro xs' W rfl ⟨hnil, _, hB, hC⟩ hD
    refine ⟨rfl, store_one hB (by simp) rfl fun w19 h19 => ?_⟩
    refine marks_one (h19.at hD (by omega)) fun w' hu => ⟨false, ?_, false, rfl, ?_, ?_⟩
    · rw [cell_of (hu.at h19.new (by omega))]; rfl
    · rw [← hall, hnil]; simp
    · have h := (hC.then h19.ch fun i _ e => (by omega : w.heap.size ≤ i)).then hu.ch fun i _ e => (by omega : w.heap.size ≤ i)
      exact h.mono fun i hi h => by omega
  · rintro c pre W ⟨rfl, hne, hB, hC⟩ hD
    refine marks_one hD fun w' hu => ⟨true, ?_, true, rfl, ?_, ?_⟩
    · rw [cell_of (hu.at hB (by omega))]; rfl
    · rw [← hall]; simp [hne]
    · have h := hC.then hu.ch fun i _ e => (by omega : w.heap.size ≤ i)
      exact h.mono fun i hi h => by omega
end Go.Proofs.Ytmmhbjbaallkfaa.Gx
