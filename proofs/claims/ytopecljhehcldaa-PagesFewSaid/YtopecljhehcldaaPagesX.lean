/- The statements on pages: PagesScan, PagesOrder. -/
import Derived.Test.YtopecljhehcldaaPagesW
namespace Go.Proofs.Ytopecljhehcldaa.Gx
open Go
set_option linter.unusedSimpArgs false
set_option linter.unusedVariables false

theorem scanS_sorted {lo hi : Int} : ∀ {l : List Pr}, Srt l → scanS l lo hi = l.filter fun x => decide (lo ≤ x.1) && decide (x.1 ≤ hi)
  | [], _ => rfl
  | x :: l, h => by
    obtain ⟨h1, h2⟩ := srt_cons.1 h
    have ih := scanS_sorted (lo := lo) (hi := hi) h2
    by_cases hx : x.1 ≤ hi
    · have e : scanS (x :: l) lo hi = if decide (lo ≤ x.1) then x :: scanS l lo hi else scanS l lo hi := by
        unfold scanS
        rw [List.takeWhile_cons_of_pos (by simpa [le1] using hx), List.filter_cons]
      rw [e, ih, List.filter_cons]
      simp [hx]
    · have e : scanS (x :: l) lo hi = [] := by
        unfold scanS
        rw [List.takeWhile_cons_of_neg (by simpa [le1] using hx)]; rfl
      rw [e]
      symm
      rw [List.filter_eq_nil_iff]
      intro y hy
      have : x.1 ≤ y.1 := by
        rcases List.mem_cons.1 hy with rfl | hy
        · omega
        · have := h1 y hy; omega
      simp; omega

/-- A pair more is put into the document's store. -/
theorem k4 {A : Nat → Prop} {W : World} {s : Sl} {l : List Pr} {P : List (List Pr)} {i b g : Nat} {y : Nat → Int → World → Prop} (hrd : Rd W s 2 (prs l)) (hs : s.n = l.length) (hi : i < l.length) (hl : l.length ≤ 1000000) (h : RA A W b (putL P (l.take i))) (hI : Inv P)
    (hy : ∀ w', RA (New A W) w' b (putL P (l.take (i + 1))) → Ch (fun j => j = b) W w' → ∃ b47, b47 < g ∧ y b47 ((i + 1 : Nat) : Int) w') : F4k1 s (i : Int) W b g y := by
  have ed := extDrew W
  have hx : l[i]? = some l[i] := List.getElem?_eq_getElem hi
  have ht := take_succ_get hx
  generalize l[i] = x at hx ht
  obtain ⟨k, v⟩ := x
  obtain ⟨a, o, ha, hc⟩ := pageR (hrd.ext ed) hx
  have h0 := hc 0 _ rfl
  have h1 := hc 1 _ rfl
  have hb : (0 : Int) ≤ (i : Int) ∧ (i : Int) < (s.n : Int) := ⟨by omega, by omega⟩
  refine ⟨a, o, ha, hb, k, by rw [Int.toNat_natCast]; exact h0, a, o, ha, hb, v, by rw [Int.toNat_natCast]; exact h1, (c20 (h.ext ed) (putL_inv hI) k v).use ?_⟩
  rintro _ w' ⟨rfl, hR, hC⟩
  rw [← putL_snoc P (l.take i) (k, v), ← ht] at hR
  obtain ⟨b47, hb47, hy⟩ := hy w' hR ((ed.mono fun _ _ h => h.elim).trans hC)
  exact ⟨_, rfl, rfl, b47, hb47, by rw [wrap_of (by omega) (by omega)]; exact hy⟩

theorem pagesScan (w : World) {la lb : List Pr} {lo hi : Int} {c d e f : Value} (h : rep (fun _ => True) w (.sl (.pair (.int .i64) (.int .i64))) la [c]) (h' : rep (fun _ => True) w (.sl (.pair (.int .i64) (.int .i64))) lb [d]) (h2 : rep (fun _ => True) w (.int .i64) lo [e]) (h3 : rep (fun _ => True) w (.int .i64) hi [f]) :
    CW Try.prog 4 #[c, d, e, f] w fun r w' => r = .bool true ∧ Ext w w' := by
  obtain ⟨s, rfl, hra, hsn, _, _⟩ := open_pairs h
  obtain ⟨s', rfl, hrb, hsn', _, _⟩ := open_pairs h'
  obtain ⟨he, _⟩ := h2
  cases he
  obtain ⟨hf, _⟩ := h3
  cases hf
  refine F4_ok s s' lo hi w _ ((c18 w).use ?_)
  rintro _ w2 ⟨rfl, e2⟩
  refine ⟨true, rfl, IfB.no rfl (IfB.dec (fun _ => ⟨rfl, e2⟩) fun hla => IfB.dec (fun _ => ⟨rfl, e2⟩) fun hlb => ?_)⟩
  have hla : la.length ≤ 150 := by omega
  have hlb : lb.length ≤ 150 := by omega
  refine (c19 (hra.ext e2) (by omega)).use ?_
  rintro _ w5 ⟨b6, rfl, hA5, e5⟩
  have x5 := e2.trans e5
  refine ⟨_, rfl, (c19 (hrb.ext x5) (by omega)).use ?_⟩
  rintro _ w8 ⟨b9, rfl, hB8, e8⟩
  have x8 := x5.trans e8
  refine ⟨_, rfl, fun b10 w11 h11 b12 w13 h13 => ?_⟩
  have p11 := h11.here; have p13 := h13.here
  have z2 := e2.size; have z5 := e5.size; have z8 := e8.size; have z11 := h11.size; have z13 := h13.size
  have e11 : Ext w8 w11 := h11.ch _
  have e13 : Ext w11 w13 := h13.ch _
  have e813 := e11.trans e13
  have x13 := x8.trans e813
  have hA13 := ((hA5.mono (B := fun i => i < w5.heap.size) fun i hi h => hi).ext e8).ext e813
  have hB13 := (hB8.mono (B := fun i => i < w8.heap.size) fun i hi h => hi).ext e813
  have hIa : Inv (putL [] la) := putL_inv Inv.nil
  have hIb : Inv (putL [] lb) := putL_inv Inv.nil
  refine ⟨fun n x W => ∃ i : Nat, i ≤ la.length ∧ n + i = la.length ∧ x = (i : Int) ∧ RA (fun j => j = b10 ∨ w13.heap.size ≤ j) W b10 (putL [] (la.take i)) ∧ Ch (fun j => j = b10) w13 W, ⟨la.length, 0, Nat.zero_le _, rfl, rfl, ((newRS h11).mono fun j _ h => .inl h).ext e13, Ch.refl _ _⟩, ?_⟩
  rintro n _ w18 g ⟨i, hi', hni, rfl, hR18, h18⟩
  have z18 := h18.size
  have x18 : Ext w w18 := x13.then h18 fun j hj h => by omega
  unfold F4j1
  refine IfB.dec (fun hlt => ?_) (fun hge => ?_)
  · refine k4 (hra.ext x18) hsn (by omega) (by omega) hR18 Inv.nil fun w' hR hC => ⟨n - 1, by omega, i + 1, by omega, by omega, rfl, hR.mono fun j _ h => ?_, h18.trans hC⟩
    rcases h with h | h
    · exact h
    · right; omega
  have hi2 : i = la.length := by omega
  subst hi2
  rw [List.take_length] at hR18
  have hR18' := hR18.mono (B := fun j => j ≠ b12 ∧ j < w18.heap.size) fun j hj h => ⟨by rcases h with h | h <;> omega, hj⟩
  have hA18 := hA13.ch h18 fun j _ h h2 => by omega
  have hB18 := hB13.ch h18 fun j _ h h2 => by omega
  have hN18 : RA (fun j => j = b12) w18 b12 [] := (newRS h13).ch h18 fun j _ h h2 => by omega
  refine ⟨fun n x W => ∃ i : Nat, i ≤ lb.length ∧ n + i = lb.length ∧ x = (i : Int) ∧ RA (fun j => j = b12 ∨ w18.heap.size ≤ j) W b12 (putL [] (lb.take i)) ∧ Ch (fun j => j = b12) w18 W, ⟨lb.length, 0, Nat.zero_le _, rfl, rfl, hN18.mono fun j _ h => .inl h, Ch.refl _ _⟩, ?_⟩
  rintro m _ w35 g ⟨k, hk, hmk, rfl, hR35, h35⟩
  have z35 := h35.size
  have x35 : Ext w w35 := x18.then h35 fun j hj h => by omega
  unfold F4j2
  refine IfB.dec (fun hlt => ?_) (fun hge => ?_)
  · refine k4 (hrb.ext x35) hsn' (by omega) (by omega) hR35 Inv.nil fun w' hR hC => ⟨m - 1, by omega, k + 1, by omega, by omega, rfl, hR.mono fun j _ h => ?_, h35.trans hC⟩
    rcases h with h | h
    · exact h
    · right; omega
  have hk2 : k = lb.length := by omega
  subst hk2
  rw [List.take_length] at hR35
  have hA35 := hA18.ch h35 fun j _ h h2 => by omega
  have hB35 := hB18.ch h35 fun j _ h h2 => by omega
  have hQ35 := hR18'.ch h35 fun j _ h h2 => h.1 h2
  generalize putL [] la = P at *
  generalize putL [] lb = Q at *
  have xd := extDrew w35
  have fP := hIa.flen
  have fQ := hIb.flen
  refine (c21 (hA35.ext xd) (hQ35.ext xd) hIa).use ?_
  rintro _ w49 ⟨rfl, e49⟩
  have y49 := xd.trans e49
  obtain ⟨sa, pa, hSa, hPa, _⟩ := hA35
  obtain ⟨sb, pb, hSb, hPb, _⟩ := hB35
  obtain ⟨sq, pq, hSq, hPq, _⟩ := hQ35
  obtain ⟨sr, pr, hSr, hPr, _⟩ := hR35
  obtain ⟨srca, qa1, qa2, _, qa3⟩ := srcOf hSa hPa hIa
  obtain ⟨srcb, qb1, qb2, _, qb3⟩ := srcOf hSb hPb hIb
  refine ⟨true, rfl, IfB.yes rfl ?_⟩
  have h23 := c23 (qa3 _ (hSa.ext y49)) (by rw [qa2]; exact fP) lo hi
  rw [qa1, qa2] at h23
  refine h23.use ?_
  rintro _ w52 ⟨t53, rfl, ho53, e52, _⟩
  have y52 := y49.trans e52
  refine ⟨t53, rfl, (c24 (hSq.ext y52) hPq hIa lo hi).use ?_⟩
  rintro _ w55 ⟨t56, rfl, ho56, e55, _⟩
  have y55 := y52.trans e55
  rw [scanS_sorted hIa.sorted] at ho53
  have hfl := List.length_filter_le (fun x : Pr => decide (lo ≤ x.1) && decide (x.1 ≤ hi)) P.flatten
  refine ⟨t56, rfl, (c22 (ho53.ext e55).rd ho56.rd (by omega)).use ?_⟩
  rintro _ w58 ⟨rfl, e58⟩
  have y58 := y55.trans e58
  refine ⟨_, rfl, IfB.yes (by simp) ?_⟩
  have h25 := c25 (qa3 _ (hSa.ext y58)) (qb3 _ (hSb.ext y58)) (by rw [qa2]; exact fP) (by rw [qb2]; exact fQ)
  rw [qa1, qa2, qb1, qb2] at h25
  refine h25.use ?_
  rintro _ w61 ⟨rfl, e61⟩
  have y61 := y58.trans e61
  refine ⟨_, rfl, (c26 (hSq.ext y61) hPq hIa).use ?_⟩
  rintro _ w64 ⟨t65, rfl, ho65, e64, _⟩
  have y64 := y61.trans e64
  refine ⟨t65, rfl, (c26 (hSr.ext y64) hPr hIb).use ?_⟩
  rintro _ w67 ⟨t68, rfl, ho68, e67, _⟩
  have y67 := y64.trans e67
  refine ⟨t68, rfl, (c22 (ho65.ext e67).rd ho68.rd (by omega)).use ?_⟩
  rintro _ w70 ⟨rfl, e70⟩
  have y70 := y67.trans e70
  refine ⟨_, rfl, IfB.yes (by simp) ⟨b10, 0, rfl, sq, (hSq.ext y70).cell, ?_⟩⟩
  have h25' := c25 (src' := none) (qa3 _ (hSa.ext y70)) trivial (by rw [qa2]; exact fP) (by simp [Src.fl])
  rw [qa1, qa2] at h25'
  refine h25'.use ?_
  rintro _ w76 ⟨rfl, e76⟩
  have y76 := y70.trans e76
  refine ⟨_, rfl, (hSq.ext y76).cell, ?_, x35.trans y76⟩
  have hn : sq.n = P.length := by rw [hSq.n, ← hPq, List.length_map]
  rw [show sq.2 = sq.n from rfl, hn]
  have := flatten_ge hIa.ne
  show Value.bool ((P.flatten == []) == ((P.length : Int) == (0 : Int))) = .bool true
  cases P with
  | nil => rfl
  | cons p P =>
    have : (p :: P).flatten ≠ [] := fun e => by rw [e] at this; simp at this
    rw [show ((p :: P).flatten == []) = false from beq_eq_false_iff_ne.2 this]
    have : ((((p :: P).length : Nat) : Int) == (0 : Int)) = false := beq_eq_false_iff_ne.2 (by simp; omega)
    rw [this]; rfl
end Go.Proofs.Ytopecljhehcldaa.Gx
