/- Package gimmallaw15: its statements of histories. -/
import Derived.Test.YtmmhbjbaallkfaaDepF
import Derived.Test.YtmmhbjbaallkfaaGxNL
namespace Go.Proofs.Ytmmhbjbaallkfaa.Gx
open Go
set_option linter.unusedSimpArgs false
set_option linter.unusedVariables false

/-! ### A history as an argument -/
abbrev tySp : Ty := .pair (.int .i64) (.int .i64)
abbrev tyNd : Ty := .pair (.int .i64) (.pair (.int .i64) (.pair (.int .i64) (.pair .bool (.pair (.sl tySp) (.sl tySp)))))
theorem pickAll {α : Type} {f : α → List Value} {Q : α → Prop} : ∀ {css : List (List Value)}, (∀ c ∈ css, ∃ n, c = f n ∧ Q n) → ∃ ns : List α, css = ns.map f ∧ ∀ n ∈ ns, Q n
  | [], _ => ⟨[], rfl, by simp⟩
  | c :: css, h => by
    obtain ⟨n, hn, hq⟩ := h c (by simp)
    obtain ⟨ns, hns, hqs⟩ := pickAll (css := css) fun c hc => h c (List.mem_cons_of_mem _ hc)
    exact ⟨n :: ns, by rw [hn, hns]; rfl, fun m hm => (List.mem_cons.1 hm).elim (fun e => e ▸ hq) (hqs m)⟩
theorem rep_each {A : Nat → Prop} {w : World} {e : Ty} {l : List e.den} {css : List (List Value)} (hl : css.length = l.length) (hr : ∀ (i : Nat) c x, css[i]? = some c → l[i]? = some x → rep A w e x c) : ∀ c ∈ css, ∃ x, rep A w e x c := fun c hc => by
  obtain ⟨i, hi, rfl⟩ := List.getElem_of_mem hc
  exact ⟨_, hr i _ _ (List.getElem?_eq_getElem hi) (List.getElem?_eq_getElem (by omega))⟩
/-- A list of spans, somewhere. -/
theorem rep_spans {A : Nat → Prop} {w : World} {l : List tySp.den} {cs : List Value} (h : rep A w (.sl tySp) l cs) : ∃ (s : Sl) (xs : List Spn), cs = [slV s] ∧ Rd w s 2 (xs.flatMap sv) ∧ s.n ≤ s.c ∧ s.c ≤ maxLen := by
  obtain ⟨s, rfl, h1, h2, h3, h4, css, h5, h6, h7⟩ := h
  obtain ⟨ns, hns, _⟩ := pickAll (f := sv) (Q := fun _ => True) fun c hc => by
    obtain ⟨x, c1, c2, rfl, hx1, hx2⟩ := rep_each h5 h6 c hc
    obtain ⟨rfl, _⟩ := hx1
    obtain ⟨rfl, _⟩ := hx2
    exact ⟨x, rfl, trivial⟩
  refine ⟨s, ns, rfl, ?_, h2, h3⟩
  rw [List.flatMap_def, ← hns]; exact h7
structure NdIn (w : World) (n : Nd) : Prop where
  rs : Rd w n.v.2.2.2.2.1 2 (n.rs.flatMap sv)
  ws : Rd w n.v.2.2.2.2.2 2 (n.ws.flatMap sv)
theorem NdIn.rn {w : World} {n : Nd} (h : NdIn w n) : n.v.2.2.2.2.1.n = n.rs.length ∧ n.v.2.2.2.2.2.n = n.ws.length := ⟨rdN sv_len (by omega) h.rs, rdN sv_len (by omega) h.ws⟩
theorem NdIn.ext {w w' : World} {n : Nd} (h : NdIn w n) (e : Ext w w') : NdIn w' n := ⟨h.rs.ext e, h.ws.ext e⟩
theorem rep_nd {A : Nat → Prop} {w : World} {x : tyNd.den} {cs : List Value} (h : rep A w tyNd x cs) : ∃ n : Nd, cs = nL n ∧ NdIn w n := by
  obtain ⟨c1, d1, rfl, ⟨rfl, _⟩, c2, d2, rfl, ⟨rfl, _⟩, c3, d3, rfl, ⟨rfl, _⟩, c4, d4, rfl, h4, c5, d5, rfl, h5, h6⟩ := h
  obtain ⟨s, xs, rfl, hxs, _⟩ := rep_spans h5
  obtain ⟨t, ys, rfl, hys, _⟩ := rep_spans h6
  have h4 : c4 = [.bool x.2.2.2.1] := h4
  subst h4
  exact ⟨⟨(x.1, x.2.1, x.2.2.1, x.2.2.2.1, s, t), xs, ys⟩, rfl, hxs, hys⟩
structure HIn (w : World) (t : Sl) (hs : List Nd) : Prop where
  rd : Rd w t 6 (hs.flatMap nL)
  nd : ∀ n ∈ hs, NdIn w n
  cap : t.n ≤ t.c
  len : hs.length ≤ maxLen
theorem HIn.n {w : World} {t : Sl} {hs : List Nd} (h : HIn w t hs) : t.n = hs.length := rdN nL_len (by omega) h.rd
theorem HIn.ext {w w' : World} {t : Sl} {hs : List Nd} (h : HIn w t hs) (e : Ext w w') : HIn w' t hs := ⟨h.rd.ext e, fun n hn => (h.nd n hn).ext e, h.cap, h.len⟩
theorem HIn.hst {w : World} {t : Sl} {hs : List Nd} (h : HIn w t hs) (hg : ¬ GrtP hs) : Hst w t hs := by
  refine ⟨h.rd, fun n hn => ⟨(h.nd n hn).rs, (h.nd n hn).ws, ?_, ?_⟩, ?_, h.cap⟩
  · have : ¬ 40 < n.rs.length := fun h' => hg (.inl ⟨n, hn, .inl h'⟩)
    omega
  · have : ¬ 40 < n.ws.length := fun h' => hg (.inl ⟨n, hn, .inr h'⟩)
    omega
  · have : ¬ 40 < hs.length := fun h' => hg (.inr h')
    omega
theorem rep_hist {A : Nat → Prop} {w : World} {l : List tyNd.den} {cs : List Value} (h : rep A w (.sl tyNd) l cs) : ∃ (t : Sl) (hs : List Nd), cs = [slV t] ∧ HIn w t hs := by
  obtain ⟨s, rfl, h1, h2, h3, h4, css, h5, h6, h7⟩ := h
  obtain ⟨ns, hns, hq⟩ := pickAll (f := nL) (Q := NdIn w) fun c hc => by
    obtain ⟨x, hx⟩ := rep_each h5 h6 c hc
    exact rep_nd hx
  have hlen : ns.length = l.length := by rw [← h5, hns, List.length_map]
  refine ⟨s, ns, rfl, ?_, hq, h2, by omega⟩
  rw [List.flatMap_def, ← hns]; exact h7
theorem maxLen_le : maxLen ≤ 9223372036854775807 := by decide +kernel

/-- What each statement asks first. -/
theorem first {w : World} {t : Sl} {hs : List Nd} (hH : HIn w t hs) {R : Value → World → Prop} {K : World → Prop} (h0 : ∀ w', Ext w w' → R (.bool true) w') (hK : ∀ w', ¬ GrtP hs → Hst w' t hs → hs.length ≤ 40 → Ext w w' → K w') :
    CX Try.prog 10 #[] w fun v w2 => ∃ t3, v = .bool t3 ∧ IfB (!t3) (R (.bool false) w2) (CX Try.prog 11 #[slV t] w2 fun v w5 => ∃ t6, v = .bool t6 ∧ IfB t6 (R (.bool true) w5) (K w5)) := by
  refine (c10 w).use ?_
  rintro _ w2 ⟨rfl, e2⟩
  have h2 := hH.ext e2
  refine ⟨true, rfl, IfB.no rfl ((c11 h2.rd (fun n hn => (h2.nd n hn).rn) (Nat.le_trans hH.len maxLen_le)).use ?_)⟩
  rintro _ _ ⟨r, rfl, hr, rfl⟩
  refine ⟨r, rfl, IfB.intro (fun h => h0 w2 e2) fun h => ?_⟩
  have hg : ¬ GrtP hs := fun h' => by rw [hr.2 h'] at h; cases h
  exact hK w2 hg (h2.hst hg) (by have : ¬ 40 < hs.length := fun h' => hg (.inr h'); omega) e2

theorem depsOf (w : World) {l : List tyNd.den} {c0 : Value} (h0 : rep (fun _ => True) w (.sl tyNd) l [c0]) {i : Int} {c1 : Value} (h1 : rep (fun _ => True) w (.int .i64) i [c1]) {k : Int} {q2 : Value} (h2 : rep (fun _ => True) w (.int .i64) k [q2]) :
    CW Try.prog 3 #[c0, c1, q2] w fun v w' => v = .bool true ∧ Ext w w' := by
  obtain ⟨t, hs, e0, hH⟩ := rep_hist h0
  obtain ⟨e1, _⟩ := h1
  obtain ⟨e2, _⟩ := h2
  simp only [List.cons.injEq, and_true] at e0 e1 e2
  subst e0; subst e1; subst e2
  refine F3_ok t i k w _ (first hH (R := fun v w' => v = .bool true ∧ Ext w w') (fun w' e => ⟨rfl, e⟩) fun w5 hg hS hl e5 => ?_)
  have htn := hS.n
  refine ⟨fun r W => w5 = W ∧ (r = true ↔ (0 ≤ i ∧ i < (hs.length : Int)) ∧ 0 ≤ k ∧ k < i), IfB.dec (fun a1 => IfB.dec (fun a2 => IfB.dec (fun a3 => ⟨rfl, rfl, ?_⟩) fun a3 => ⟨rfl, rfl, ?_⟩) fun a2 => ⟨rfl, rfl, ?_⟩) fun a1 => ⟨rfl, rfl, ?_⟩, ?_⟩
  · rw [decide_eq_true_eq]; exact ⟨fun h => ⟨⟨a1, by omega⟩, a3, h⟩, fun h => h.2.2⟩
  · exact ⟨fun h => (by cases h), fun h => absurd h.2.1 a3⟩
  · exact ⟨fun h => (by cases h), fun h => by omega⟩
  · exact ⟨fun h => (by cases h), fun h => absurd h.1.1 a1⟩
  rintro r1 _ g ⟨rfl, hr1⟩
  have ed := extDrew w5
  have hD := hS.ext ed
  unfold F3j1
  refine ⟨fun r W => Ext w5 W ∧ (r = true ↔ 0 ≤ i ∧ 0 ≤ k ∧ EdP hs i.toNat k.toNat), IfB.intro (fun hr => ?_) fun hr => ⟨rfl, ed, ⟨fun h => (by cases h), fun ⟨b1, b2, hE⟩ => ?_⟩⟩, ?_⟩
  · obtain ⟨⟨b1, b2⟩, b3, b4⟩ := hr1.1 hr
    have hi : i.toNat < hs.length := by omega
    have hk : k.toNat < hs.length := by omega
    have ha : hs[i.toNat]? = some hs[i.toNat] := List.getElem?_eq_getElem hi
    have hb : hs[k.toNat]? = some hs[k.toNat] := List.getElem?_eq_getElem hk
    generalize hs[i.toNat] = a at ha
    generalize hs[k.toNat] = b at hb
    obtain ⟨x1, o1, hp1, hc1⟩ := hD.at ha
    obtain ⟨x2, o2, hp2, hc2⟩ := hD.at hb
    have hbi : 0 ≤ i ∧ i < (t.n : Int) := ⟨b1, by omega⟩
    have hbk : 0 ≤ k ∧ k < (t.n : Int) := ⟨b3, by omega⟩
    have hEd : (0 ≤ i ∧ 0 ≤ k ∧ EdP hs i.toNat k.toNat) ↔ dirP a b := by
      constructor
      · rintro ⟨_, _, _, x, y, hx, hy, hd⟩
        rw [ha] at hx; rw [hb] at hy
        cases hx; cases hy; exact hd
      · exact fun hd => ⟨b1, b3, by omega, a, b, ha, hb, hd⟩
    refine ⟨x1, o1, hp1, hbi, a.v.1, hc1 0 _ rfl, x2, o2, hp2, hbk, b.v.1, hc2 0 _ rfl, IfB.intro (fun he => ⟨rfl, ed, ?_⟩) fun hne => ⟨x1, o1, hp1, hbi, a.v, hc1, x2, o2, hp2, hbk, b.v, hc2, (c12 (hD.get ha) (hD.get hb)).use ?_⟩⟩
    · rw [hEd]; exact ⟨fun _ => .inl (by simpa using he), fun _ => rfl⟩
    · rintro _ w26 ⟨r, rfl, hr', e26⟩
      refine ⟨r, rfl, rfl, ed.trans e26, ?_⟩
      rw [hEd, hr']
      exact ⟨.inr, fun h => h.resolve_left (by simpa using hne)⟩
  · have := EdP_lt hE
    rw [hr1.2 ⟨⟨b1, by omega⟩, b2, by omega⟩] at hr; cases hr
  rintro want w29 g ⟨e29, hwant⟩
  refine (c13 (hS.ext e29) (by omega)).use ?_
  rintro _ w33 ⟨tl, rows, rfl, hrl, hrow, hO, e33⟩
  have hL := hO.rws
  have hLn := hL.n
  refine ⟨tl, rfl, fun m x W => ∃ j : Nat, j ≤ hs.length ∧ m + j = hs.length ∧ x = (j : Int) ∧ w33 = W, ⟨hs.length, 0, Nat.zero_le _, rfl, rfl, rfl⟩, ?_⟩
  rintro m _ _ g ⟨j, hj, hmj, rfl, rfl⟩
  unfold F3j3
  refine IfB.dec (fun hlt => ?_) fun hge => ?_
  · have hj' : j < hs.length := by omega
    have hx : rows[j]? = some (rows[j]'(by omega)) := List.getElem?_eq_getElem (by omega)
    generalize rows[j]'_ = row at hx
    obtain ⟨⟨bl, ol, hpl, hcl⟩, hrr, hrn⟩ := hL.at hx
    have hR := hrow j row hx
    have hRl := hR.len
    have hbj : (0 : Int) ≤ (j : Int) ∧ (j : Int) < (tl.n : Int) := ⟨by omega, by omega⟩
    refine ⟨fun q x W => ∃ p : Nat, p ≤ row.2.length ∧ q + p = row.2.length ∧ x = (p : Int) ∧ w33 = W, ⟨row.2.length, 0, Nat.zero_le _, rfl, rfl, rfl⟩, ?_⟩
    rintro q _ _ g ⟨p, hp, hqp, rfl, rfl⟩
    unfold F3j4
    refine ⟨bl, ol, hpl, hbj, row.1, by rw [Int.toNat_natCast]; exact hcl, IfB.dec (fun hlt2 => ?_) fun hge2 => ⟨rfl, m - 1, by omega, j + 1, hj', by omega, by rw [wrap_of (by omega) (by omega)]; rfl, rfl⟩⟩
    have hp' : p < row.2.length := by omega
    have hy : row.2[p]? = some row.2[p] := List.getElem?_eq_getElem hp'
    generalize row.2[p] = y at hy
    obtain ⟨bc, oc, hpc, hcc⟩ := hrr.elem1 (i := p) (v := iv y) (by rw [List.getElem?_map, hy]; rfl)
    obtain ⟨k', rfl, hd⟩ := (hR.mem y).1 (List.mem_of_getElem? hy)
    have := Dp_lt hd
    exact ⟨bl, ol, hpl, hbj, row.1, by rw [Int.toNat_natCast]; exact hcl, bc, oc, hpc, ⟨by omega, hlt2⟩, (k' : Int), by rw [Int.toNat_natCast]; exact hcc, IfB.no (by simp; omega) ⟨rfl, q - 1, by omega, p + 1, hp', by omega, by rw [wrap_of (by omega) (by omega)]; rfl, rfl⟩⟩
  · refine (c15 ((hS.ext e29).ext e33) (by omega)).use ?_
    rintro _ w61 ⟨td, mr, rfl, hsq, hgm, hM, e61⟩
    refine ⟨td, rfl, (c14 (hL.ext e61) hrl hrow hM hsq hgm (by omega)).use ?_⟩
    rintro _ _ ⟨rfl, rfl⟩
    refine ⟨true, rfl, IfB.yes rfl ((c16 (((hS.ext e29).ext e33).ext e61) i k).use ?_)⟩
    rintro _ w67 ⟨r, rfl, hr, e67⟩
    refine ⟨r, rfl, ?_, (((e5.trans e29).trans e33).trans e61).trans e67⟩
    have : r = want := by rw [Bool.eq_iff_iff, hr, hwant]
    rw [this]; simp

theorem depsTwo (w : World) {l : List tyNd.den} {c0 : Value} (h0 : rep (fun _ => True) w (.sl tyNd) l [c0]) {i : Int} {c1 : Value} (h1 : rep (fun _ => True) w (.int .i64) i [c1]) {k : Int} {q2 : Value} (h2 : rep (fun _ => True) w (.int .i64) k [q2]) :
    CW Try.prog 5 #[c0, c1, q2] w fun v w' => v = .bool true ∧ Ext w w' := by
  obtain ⟨t, hs, e0, hH⟩ := rep_hist h0
  obtain ⟨e1, _⟩ := h1
  obtain ⟨e2, _⟩ := h2
  simp only [List.cons.injEq, and_true] at e0 e1 e2
  subst e0; subst e1; subst e2
  refine F5_ok t i k w _ (first hH (R := fun v w' => v = .bool true ∧ Ext w w') (fun w' e => ⟨rfl, e⟩) fun w5 hg hS hl e5 => ?_)
  have htn := hS.n
  refine ⟨fun r W => w5 = W ∧ (r = false ↔ (0 ≤ i ∧ i < (hs.length : Int)) ∧ 0 ≤ k ∧ k < (hs.length : Int)), IfB.dec (fun a1 => ⟨rfl, rfl, ⟨fun h => (by cases h), fun h => by omega⟩⟩) fun a1 => IfB.dec (fun a2 => ⟨rfl, rfl, ⟨fun h => (by cases h), fun h => by omega⟩⟩) fun a2 => IfB.dec (fun a3 => ⟨rfl, rfl, ⟨fun h => (by cases h), fun h => by omega⟩⟩) fun a3 => ⟨rfl, rfl, ?_⟩, ?_⟩
  · rw [decide_eq_false_iff_not]; exact ⟨fun h => by omega, fun h => by omega⟩
  rintro r1 _ g ⟨rfl, hr1⟩
  unfold F5j1
  refine IfB.intro (fun hr => ?_) fun hr => ?_
  · have hno : ¬ ((0 ≤ i ∧ i < (hs.length : Int)) ∧ 0 ≤ k ∧ k < (hs.length : Int)) := fun h => by rw [hr1.2 h] at hr; cases hr
    refine (c17 hS (by omega) i k).use ?_
    rintro _ w13 ⟨r, rfl, hr2, e13⟩
    refine ⟨r, rfl, IfB.intro (fun _ => (c18 (hS.ext e13) (by omega) i k).use ?_) fun h => ?_⟩
    · rintro _ w16 ⟨r', rfl, hr3, e16⟩
      refine ⟨r', rfl, ?_, (e5.trans e13).trans e16⟩
      cases r' with
      | false => rfl
      | true => have := hr3.1 rfl; exact absurd ⟨this.1, this.2.1⟩ hno
    · have h : r = true := by simpa using h
      obtain ⟨d1, d2, k', rfl, hd⟩ := hr2.1 h
      have := Dp_lt hd
      exact absurd ⟨⟨d1, d2⟩, by omega, by omega⟩ hno
  · obtain ⟨⟨a1, a2⟩, a3, a4⟩ := hr1.1 hr
    obtain ⟨i, rfl⟩ : ∃ n : Nat, i = (n : Int) := ⟨i.toNat, by omega⟩
    obtain ⟨k, rfl⟩ : ∃ n : Nat, k = (n : Int) := ⟨k.toNat, by omega⟩
    have hi : i < hs.length := by omega
    have hk : k < hs.length := by omega
    refine (c15 hS (by omega)).use ?_
    rintro _ w19 ⟨td, mr, rfl, hsq, hgm, hM, e19⟩
    have hdn := hM.n
    have hml := hsq.1
    have ed := extDrew w19
    obtain ⟨ri, hri, hril, hrim⟩ := hsq.at hi
    obtain ⟨rk, hrk, hrkl, hrkm⟩ := hsq.at hk
    have hin := hM.rn hrim
    have hkn := hM.rn hrkm
    have hbi : (0 : Int) ≤ (i : Int) ∧ (i : Int) < (td.n : Int) := ⟨by omega, by omega⟩
    have hbk : (0 : Int) ≤ (k : Int) ∧ (k : Int) < (td.n : Int) := ⟨by omega, by omega⟩
    have hbik : (0 : Int) ≤ (k : Int) ∧ (k : Int) < (ri.1.n : Int) := ⟨by omega, by omega⟩
    have hbki : (0 : Int) ≤ (i : Int) ∧ (i : Int) < (rk.1.n : Int) := ⟨by omega, by omega⟩
    obtain ⟨bt, hpt, _⟩ := hM.slot hri
    have slot : ∀ {W : World} {j : Nat} {r : MxR}, Mx W w5.heap.size td mr → mr[j]? = some r → W.cell? ⟨bt, 0 + (j : Int).toNat, none⟩ = some (slV r.1) := fun {W j r} h hj => by
      obtain ⟨b, hp, hc⟩ := h.slot hj
      rw [hpt] at hp; cases hp
      rw [Int.toNat_natCast, Nat.zero_add]; exact hc
    obtain ⟨bi, hpi, _⟩ := hM.cell hrim (gM_get hri (k := k) (by omega))
    obtain ⟨bk, hpk, _⟩ := hM.cell hrkm (gM_get hrk (k := i) (by omega))
    have ci : ∀ {W : World}, Mx W w5.heap.size td mr → W.cell? ⟨bi, 0 + (k : Int).toNat, none⟩ = some (.bool (gM mr i k)) := fun {W} h => by
      obtain ⟨b, hp, hc⟩ := h.cell hrim (gM_get hri (k := k) (by omega))
      rw [hpi] at hp; cases hp
      rw [Int.toNat_natCast, Nat.zero_add]; exact hc
    have ck : ∀ {W : World}, Mx W w5.heap.size td mr → W.cell? ⟨bk, 0 + (i : Int).toNat, none⟩ = some (.bool (gM mr k i)) := fun {W} h => by
      obtain ⟨b, hp, hc⟩ := h.cell hrkm (gM_get hrk (k := i) (by omega))
      rw [hpk] at hp; cases hp
      rw [Int.toNat_natCast, Nat.zero_add]; exact hc
    have hMd := hM.ext ed
    refine ⟨td, rfl, bt, 0, hpt, hbi, ri.1, slot hMd hri, bi, 0, hpi, hbik, gM mr i k, ci hMd, (c17 (hS.ext (e19.trans ed)) (by omega) (i : Int) (k : Int)).use ?_⟩
    rintro _ w28 ⟨r, rfl, hr2, e28⟩
    have hM28 := hMd.ext e28
    have hrg : r = gM mr i k := by
      rw [Bool.eq_iff_iff, hr2, hgm]
      exact ⟨fun ⟨_, _, k', e, hd⟩ => by have e : k = k' := by omega
                                         subst e; exact hd, fun hd => ⟨by omega, by omega, k, rfl, hd⟩⟩
    refine ⟨r, rfl, ci hM28, slot hM28 hri, IfB.yes (by rw [hrg]; simp) ⟨bt, 0, hpt, hbi, ri.1, slot hM28 hri, bi, 0, hpi, hbik, gM mr i k, ci hM28, (c18 (hS.ext ((e19.trans ed).trans e28)) (by omega) (i : Int) (k : Int)).use ?_⟩⟩
    rintro _ w37 ⟨r', rfl, hr3, e37⟩
    have hM37 := hM28.ext e37
    have hr3 : r' = true ↔ gM mr i k = false ∧ gM mr k i = false := by
      rw [hr3, Bool.eq_false_iff, Bool.eq_false_iff, Ne, hgm, Ne, hgm]
      exact ⟨fun h => ⟨h.2.2.1, h.2.2.2⟩, fun h => ⟨⟨by omega, by omega⟩, ⟨by omega, by omega⟩, h.1, h.2⟩⟩
    have E : Ext w w37 := ((e5.trans e19).trans (ed.trans e28)).trans e37
    refine ⟨r', rfl, ci hM37, slot hM37 hri, IfB.intro (fun h => ⟨bt, 0, hpt, hbk, rk.1, slot hM37 hrk, bk, 0, hpk, hbki, gM mr k i, ck hM37, ?_, E⟩) fun h => ⟨?_, E⟩⟩
    · have h : gM mr i k = false := by simpa using h
      have : r' = !gM mr k i := by
        rw [Bool.eq_iff_iff, hr3]; simp [h]
      rw [this]; simp
    · have h : gM mr i k = true := by simpa using h
      have : r' = false := by
        rw [Bool.eq_false_iff]; intro h'; rw [(hr3.1 h').1] at h; cases h
      rw [this]; rfl

theorem depsFar (w : World) {l : List tyNd.den} {c0 : Value} (h0 : rep (fun _ => True) w (.sl tyNd) l [c0]) {cut : Int} {c1 : Value} (h1 : rep (fun _ => True) w (.int .u8) cut [c1]) :
    CW Try.prog 4 #[c0, c1] w fun v w' => v = .bool true ∧ Ext w w' := by
  obtain ⟨t, hs, e0, hH⟩ := rep_hist h0
  obtain ⟨e1, hc0, hc1⟩ := h1
  have hc0 : 0 ≤ cut := hc0
  have hc1 : cut ≤ 255 := hc1
  simp only [List.cons.injEq, and_true] at e0 e1
  subst e0; subst e1
  refine F4_ok t cut w _ (first hH (R := fun v w' => v = .bool true ∧ Ext w w') (fun w' e => ⟨rfl, e⟩) fun w5 hg hS hl e5 => ?_)
  have htn := hS.n
  refine (c13 hS (by omega)).use ?_
  rintro _ w8 ⟨tl, rows, rfl, hrl, hrow, hO, e8⟩
  obtain ⟨n, hn⟩ : ∃ n : Nat, (IntKind.i64.wrap cut).tmod (IntKind.i64.wrap ((t.2 : Int) + 1)) = (n : Int) ∧ n ≤ hs.length := by
    rw [wrap_of (n := cut) (by omega) (by omega), wrap_of (by omega) (by omega)]
    have h1 := Int.tmod_nonneg ((t.2 : Int) + 1) hc0
    have h2 := Int.tmod_lt_of_pos cut (show (0 : Int) < (t.2 : Int) + 1 by omega)
    refine ⟨(cut.tmod ((t.2 : Int) + 1)).toNat, by omega, by omega⟩
  obtain ⟨hn, hnl⟩ := hn
  have hcap := hS.cap
  refine ⟨tl, rfl, by rw [wrap_of (by omega) (by omega)]; omega, by rw [hn]; exact ⟨by omega, by omega⟩, ?_⟩
  rw [hn, Int.toNat_natCast, slAddr_zero]
  refine (c13 (t := ⟨t.p, n, t.c⟩) ((hS.ext e8).cut (k := n) hnl) (by rw [List.length_take]; omega)).use ?_
  rintro _ w11 ⟨tm, rowm, rfl, hrlm, hrowm, hOm, e11⟩
  rw [List.length_take, Nat.min_eq_left hnl] at hrlm
  have hL := (hO.ext e11).rws
  have hLm := hOm.rws
  have hLn := hL.n
  have hLmn := hLm.n
  have E11 := (e5.trans e8).trans e11
  refine ⟨tm, rfl, IfB.no (by simp; omega) (IfB.no (by simp; omega) ⟨fun m x W => ∃ i : Nat, i ≤ hs.length ∧ m + i = hs.length ∧ x = (i : Int) ∧ Ext w11 W, ⟨hs.length, 0, Nat.zero_le _, rfl, rfl, Ch.refl _ _⟩, ?_⟩)⟩
  rintro m _ w17 g ⟨i, hi, hmi, rfl, e17⟩
  unfold F4j1
  rw [hn]
  refine IfB.dec (fun hlt => ?_) fun hge => ⟨rfl, E11.trans e17⟩
  have hi' : i < hs.length := by omega
  have hx : rows[i]? = some (rows[i]'(by omega)) := List.getElem?_eq_getElem (by omega)
  generalize rows[i]'_ = row at hx
  have hR := hrow i row hx
  have hRl := hR.len
  have hbi : (0 : Int) ≤ (i : Int) ∧ (i : Int) < (tl.n : Int) := ⟨by omega, by omega⟩
  obtain ⟨⟨bl, ol, hpl, _⟩, _, hrn⟩ := hL.at hx
  have cl : ∀ {W : World}, Ext w11 W → W.cell? ⟨bl, ol + (i : Int).toNat, none⟩ = some (slV row.1) := fun {W} e => by
    obtain ⟨⟨b, o, hp, hc⟩, _⟩ := (hL.ext e).at hx
    rw [hpl] at hp; cases hp
    rw [Int.toNat_natCast]; exact hc
  have ce : ∀ {W : World} {p : Nat} {y : Int}, Ext w11 W → row.2[p]? = some y → ∃ b o, row.1.p = some ⟨b, o, none⟩ ∧ W.cell? ⟨b, o + (p : Int).toNat, none⟩ = some (iv y) := fun {W p y} e hy => by
    obtain ⟨_, hrr, _⟩ := (hL.ext e).at hx
    rw [Int.toNat_natCast]
    exact hrr.elem1 (i := p) (v := iv y) (by rw [List.getElem?_map, hy]; rfl)
  refine ⟨fun _ W => Ext w11 W, IfB.dec (fun hin => ?_) fun _ => ⟨rfl, e17⟩, ?_⟩
  · have hin' : i < n := by omega
    have hy : rowm[i]? = some (rowm[i]'(by omega)) := List.getElem?_eq_getElem (by omega)
    generalize rowm[i]'_ = rm at hy
    have hRm := (RowOf_take hin').1 (hrowm i rm hy)
    have heq : rm.2 = row.2 := hRm.uniq hR
    have hbm : (0 : Int) ≤ (i : Int) ∧ (i : Int) < (tm.n : Int) := ⟨by omega, by omega⟩
    obtain ⟨⟨bm, om, hpm, _⟩, _, hrmn⟩ := hLm.at hy
    have cm : ∀ {W : World}, Ext w11 W → W.cell? ⟨bm, om + (i : Int).toNat, none⟩ = some (slV rm.1) := fun {W} e => by
      obtain ⟨⟨b, o, hp, hc⟩, _⟩ := (hLm.ext e).at hy
      rw [hpm] at hp; cases hp
      rw [Int.toNat_natCast]; exact hc
    have cme : ∀ {W : World} {p : Nat} {y : Int}, Ext w11 W → row.2[p]? = some y → ∃ b o, rm.1.p = some ⟨b, o, none⟩ ∧ W.cell? ⟨b, o + (p : Int).toNat, none⟩ = some (iv y) := fun {W p y} e hy' => by
      obtain ⟨_, hrr, _⟩ := (hLm.ext e).at hy
      rw [Int.toNat_natCast]
      exact hrr.elem1 (i := p) (v := iv y) (by rw [heq, List.getElem?_map, hy']; rfl)
    have ed := e17.trans (extDrew w17)
    refine ⟨bm, om, hpm, hbm, rm.1, cm ed, bl, ol, hpl, hbi, row.1, cl ed, IfB.no (by simp; rw [heq] at hrmn; omega) ⟨fun q x W => ∃ p : Nat, p ≤ row.2.length ∧ q + p = row.2.length ∧ x = (p : Int) ∧ Ext w11 W, ⟨row.2.length, 0, Nat.zero_le _, rfl, rfl, ed⟩, ?_⟩⟩
    rintro q _ w31 g ⟨p, hp, hqp, rfl, e31⟩
    unfold F4j2
    refine ⟨bl, ol, hpl, hbi, row.1, cl e31, IfB.dec (fun hlt2 => ?_) fun hge2 => ⟨rfl, e31⟩⟩
    have hp' : p < row.2.length := by omega
    have hz : row.2[p]? = some row.2[p] := List.getElem?_eq_getElem hp'
    generalize row.2[p] = z at hz
    have ed31 := e31.trans (extDrew w31)
    obtain ⟨b1, o1, hq1, hd1⟩ := cme ed31 hz
    obtain ⟨b2, o2, hq2, hd2⟩ := ce ed31 hz
    exact ⟨bm, om, hpm, hbm, rm.1, cm ed31, b1, o1, hq1, ⟨by omega, by rw [heq] at hrmn; show (p : Int) < (rm.1.n : Int); omega⟩, z, hd1, bl, ol, hpl, hbi, row.1, cl ed31, b2, o2, hq2, ⟨by omega, hlt2⟩, z, hd2, IfB.no (by simp) ⟨rfl, q - 1, by omega, p + 1, hp', by omega, by rw [wrap_of (by omega) (by omega)]; rfl, ed31⟩⟩
  rintro _ w51 g e51
  refine ⟨fun q x W => ∃ p : Nat, p ≤ row.2.length ∧ q + p = row.2.length ∧ x = (p : Int) ∧ Ext w11 W, ⟨row.2.length, 0, Nat.zero_le _, rfl, rfl, e51⟩, ?_⟩
  rintro q _ w58 g ⟨p, hp, hqp, rfl, e58⟩
  unfold F4j4
  refine ⟨bl, ol, hpl, hbi, row.1, cl e58, IfB.dec (fun hlt2 => ?_) fun hge2 => ⟨rfl, m - 1, by omega, i + 1, hi', by omega, by rw [wrap_of (by omega) (by omega)]; rfl, e58⟩⟩
  have hp' : p < row.2.length := by omega
  have hz : row.2[p]? = some row.2[p] := List.getElem?_eq_getElem hp'
  generalize row.2[p] = z at hz
  obtain ⟨b1, o1, hq1, hd1⟩ := ce e58 hz
  obtain ⟨k, rfl, hd⟩ := (hR.mem z).1 (List.mem_of_getElem? hz)
  have hki := Dp_lt hd
  have hf : rows[k]? = some (rows[k]'(by omega)) := List.getElem?_eq_getElem (by omega)
  generalize rows[k]'_ = far at hf
  have hRf := hrow k far hf
  have hRfl := hRf.len
  obtain ⟨⟨bf, of, hpf, hcf⟩, _, hfn⟩ := (hL.ext e58).at hf
  refine ⟨bl, ol, hpl, hbi, row.1, cl e58, b1, o1, hq1, ⟨by omega, hlt2⟩, (k : Int), hd1, bf, of, hpf, ⟨by omega, by omega⟩, far.1, by rw [Int.toNat_natCast]; exact hcf, fun s x W => ∃ a : Nat, a ≤ far.2.length ∧ s + a = far.2.length ∧ x = (a : Int) ∧ Ext w11 W, ⟨far.2.length, 0, Nat.zero_le _, rfl, rfl, e58⟩, ?_⟩
  rintro s _ w77 g ⟨a, ha, hsa, rfl, e77⟩
  refine IfB.dec (fun hlt3 => ?_) fun hge3 => ⟨rfl, q - 1, by omega, p + 1, hp', by omega, by rw [wrap_of (by omega) (by omega)]; rfl, e77⟩
  have ha' : a < far.2.length := by omega
  have hu : far.2[a]? = some far.2[a] := List.getElem?_eq_getElem ha'
  generalize far.2[a] = u at hu
  obtain ⟨ku, rfl, hdu⟩ := (hRf.mem u).1 (List.mem_of_getElem? hu)
  have hin : (ku : Int) ∈ row.2 := (hR.mem _).2 ⟨ku, rfl, hd.trans hdu⟩
  refine ⟨fun v x W => ∃ b : Nat, b ≤ row.2.length ∧ v + b = row.2.length ∧ x = (decide ((ku : Int) ∈ row.2.take b), (b : Int)) ∧ Ext w11 W, ⟨row.2.length, 0, Nat.zero_le _, rfl, by simp, e77⟩, ?_⟩
  rintro v _ w84 g ⟨b, hb, hvb, rfl, e84⟩
  unfold F4j6
  refine ⟨bl, ol, hpl, hbi, row.1, cl e84, IfB.dec (fun hlt4 => ?_) fun hge4 => ?_⟩
  · have hb' : b < row.2.length := by dsimp only at hlt4; omega
    have hr : row.2[b]? = some row.2[b] := List.getElem?_eq_getElem hb'
    generalize row.2[b] = rb at hr
    have ed := e84.trans (extDrew w84)
    have htk := take_succ_get hr
    have w1 : IntKind.i64.wrap ((b : Int) + 1) = ((b + 1 : Nat) : Int) := by rw [wrap_of (by omega) (by omega)]; rfl
    have hnext : decide ((ku : Int) ∈ row.2.take (b + 1)) = (decide ((ku : Int) ∈ row.2.take b) || rb == (ku : Int)) := by
      rw [htk, Bool.eq_iff_iff]
      simp only [decide_eq_true_eq, List.mem_append, List.mem_singleton, Bool.or_eq_true, beq_iff_eq]
      exact or_congr Iff.rfl eq_comm
    refine ⟨fun r W => Ext w11 W ∧ r = decide ((ku : Int) ∈ row.2.take (b + 1)), IfB.intro (fun h => ⟨rfl, ed, ?_⟩) fun h => ?_, ?_⟩
    · have h : decide ((ku : Int) ∈ row.2.take b) = true := h
      rw [hnext, h]; rfl
    · have h : decide ((ku : Int) ∈ row.2.take b) = false := h
      obtain ⟨b3, o3, hq3, hd3⟩ := ce ed hr
      obtain ⟨_, hff, _⟩ := (hL.ext ed).at hf
      obtain ⟨b4, o4, hq4, hd4⟩ := hff.elem1 (i := a) (v := iv (ku : Int)) (by rw [List.getElem?_map, hu]; rfl)
      exact ⟨bl, ol, hpl, hbi, row.1, cl ed, b3, o3, hq3, ⟨by dsimp only; omega, hlt4⟩, rb, hd3, b4, o4, hq4, ⟨by omega, hlt3⟩, (ku : Int), by rw [Int.toNat_natCast]; exact hd4, rfl, ed, by rw [hnext, h]; rfl⟩
    · rintro r w101 g ⟨e101, rfl⟩
      exact ⟨rfl, v - 1, by omega, b + 1, hb', by omega, by rw [w1], e101⟩
  · have hb' : b = row.2.length := by dsimp only at hge4; omega
    subst hb'
    rw [List.take_length]
    exact IfB.no (by simp [hin]) ⟨rfl, s - 1, by omega, a + 1, ha', by omega, by rw [wrap_of (by omega) (by omega)]; rfl, e84⟩
end Go.Proofs.Ytmmhbjbaallkfaa.Gx
