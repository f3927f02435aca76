/- The statements on pages: PagesPlay, PagesNone. -/
import Derived.Test.YtopecljhehcldaaPagesU
import Derived.Test.YtopecljhehcldaaGxFD
import Derived.Test.YtopecljhehcldaaGxR
namespace Go.Proofs.Ytopecljhehcldaa.Gx
open Go
set_option linter.unusedSimpArgs false
set_option linter.unusedVariables false

theorem i64_of {n : Int} (h : IntKind.min .i64 ≤ n ∧ n ≤ IntKind.max .i64) : -9223372036854775808 ≤ n ∧ n ≤ 9223372036854775807 := by
  rw [show IntKind.min .i64 = -9223372036854775808 from by decide, show IntKind.max .i64 = 9223372036854775807 from by decide] at h; exact h
theorem u8_of {n : Int} (h : IntKind.min .u8 ≤ n ∧ n ≤ IntKind.max .u8) : 0 ≤ n ∧ n ≤ 255 := by
  rw [show IntKind.min .u8 = 0 from by decide, show IntKind.max .u8 = 255 from by decide] at h; exact h

def KL (i : Nat) : List Pr := (List.range i).map fun (j : Nat) => ((j : Int), (1 : Int))
theorem KL_succ (i : Nat) : KL (i + 1) = KL i ++ [((i : Int), (1 : Int))] := by unfold KL; rw [List.range_succ, List.map_append]; rfl

theorem newSt {w w' : World} {b : Nat} {T : TypeId} (h : IsAlloc w (.cells #[.slice none 0 0] T (0, 0)) b w') : StA (fun i => w.heap.size ≤ i) w' b [] := by
  refine ⟨⟨none, 0, 0⟩, [], ⟨⟨_, h.new⟩, .nil _ _, by simp, by simp, by simp, by simp [blk]⟩, rfl, ?_⟩
  rintro i (rfl | hi | ⟨x, hx, hi⟩)
  · exact Nat.le_of_eq h.here.symm
  · simp [blk] at hi
  · simp at hx
theorem newRS {w w' : World} {b : Nat} {T : TypeId} (h : IsAlloc w (.cells #[.slice none 0 0] T (0, 0)) b w') : RA (fun i => i = b) w' b [] := by
  have hs := h.size
  have hh := h.here
  refine ⟨⟨none, 0, 0⟩, [], ⟨⟨_, h.new⟩, ⟨rfl, rfl⟩, by simp, ⟨by simp [blk], by simp⟩, ?_, Nat.le_refl _, by simp⟩, rfl, ?_⟩
  · rintro i (rfl | hi | ⟨x, hx, hi⟩)
    · omega
    · simp [blk] at hi
    · simp at hx
  · rintro i (rfl | hi | ⟨x, hx, hi⟩)
    · rfl
    · simp [blk] at hi
    · simp at hx

theorem c18 (w : World) : CW Try.prog 18 #[] w fun v w' => v = .bool true ∧ Ext w w' := by
  refine F18_ok w _ ?_
  intro b1 w2 h2
  have e2 : Ext w w2 := h2.ch _
  refine ⟨fun n x w7 => ∃ i : Nat, i ≤ 9 ∧ n + i = 9 ∧ x = (i : Int) ∧ StA (fun j => w.heap.size ≤ j) w7 b1 (putL [] (KL i)) ∧ Ext w w7, ⟨9, 0, by decide, rfl, rfl, newSt h2, e2⟩, ?_⟩
  rintro n _ w7 g ⟨i, hi, hni, rfl, hS, e7⟩
  unfold F18j1
  refine IfB.dec (fun hlt => ?_) (fun hge => ?_)
  · refine (c28 hS (putL_inv Inv.nil) (i : Int) 1).use ?_
    rintro _ w11 ⟨rfl, hS', hc⟩
    have hr : (0 : Int) ≤ (i : Int) ∧ (i : Int) ≤ 999 := by omega
    rw [if_pos hr] at hS' ⊢
    have hsz := e7.size
    refine ⟨0, rfl, IfB.no rfl ⟨rfl, n - 1, by omega, i + 1, by omega, by omega, by rw [wrap_of (by omega) (by omega)]; rfl, ?_, e7.then hc fun j hj h => by omega⟩⟩
    rw [KL_succ, putL_snoc, if_pos hr]
    exact hS'.mono fun j _ hj => hj.elim id fun h => by omega
  · have : i = 9 := by omega
    subst this
    obtain ⟨s, ps, hS, hP, hA⟩ := hS
    refine (c30 hS hP (putL_inv Inv.nil)).use ?_
    rintro _ w15 ⟨t, rfl, ho, e15, hb⟩
    have hl : (putL [] (KL 9)).map hd0 = [0, 4] := by decide
    rw [hl] at ho
    have hn : t.n = 2 := ho.len1
    obtain ⟨a, ha, h0⟩ := ho.elem1 (i := 0) (v := .int .i64 0) rfl
    obtain ⟨a', ha', h1⟩ := ho.elem1 (i := 1) (v := .int .i64 4) rfl
    rw [ha] at ha'; cases ha'
    refine ⟨t, rfl, IfB.yes (by rw [show t.2 = t.n from rfl, hn]; rfl) ⟨a, 0, ha, (⟨by decide, by omega⟩ : (0 : Int) ≤ (0 : Int) ∧ (0 : Int) < (t.n : Int)), 0, h0, IfB.yes rfl ⟨a, 0, ha, (⟨by decide, by omega⟩ : (0 : Int) ≤ (1 : Int) ∧ (1 : Int) < (t.n : Int)), 4, h1, rfl, e7.trans e15⟩⟩⟩

theorem scanS_full {P : List (List Pr)} (hI : Inv P) : scanS P.flatten 0 999 = P.flatten := by
  rw [scanS_all fun y hy => (hI.rng y hy).2]
  exact List.filter_eq_self.2 fun x hx => decide_eq_true (hI.rng x hx).1

theorem srcOf {w : World} {b : Nat} {s : Sl} {ps : List Pg} (hS : St w b s ps) {P : List (List Pr)} (hP : ps.map (·.2) = P) (hI : Inv P) : ∃ src : Src, src.ptr = some ⟨b, 0, none⟩ ∧ src.fl = P.flatten ∧ src = some (b, s, ps) ∧ ∀ w', St w' b s ps → src.mem w' := by
  have hl : ps.length ≤ 1000000 := by have := hI.plen; rw [← hP, List.length_map] at this; omega
  exact ⟨some (b, s, ps), rfl, flatS_eq hP, rfl, fun w' h => ⟨h, hl⟩⟩

theorem c21 {A B : Nat → Prop} {w : World} {b b' : Nat} {P : List (List Pr)} (hS : StA A w b P) (hR : RA B w b' P) (hI : Inv P) :
    CW Try.prog 21 #[.pointer (some ⟨b, 0, none⟩), .pointer (some ⟨b', 0, none⟩)] w fun v w' => v = .bool true ∧ Ext w w' := by
  obtain ⟨s, ps, hS, hP, _⟩ := hS
  obtain ⟨s', ps', hR, hP', _⟩ := hR
  have hlen : ps'.length = P.length := by rw [← hP', List.length_map]
  have hsn := hR.n
  have hpl := hI.plen
  have hfl := hI.flen
  refine F21_ok _ _ _ _ ((c30 hS hP hI).use ?_)
  rintro _ w2 ⟨t, rfl, ho, e2, hb⟩
  have htn : t.n = P.length := by rw [ho.len1]; simp
  have hR2 := hR.ext e2
  refine ⟨t, rfl, b', 0, rfl, s', hR2.cell, IfB.no (by rw [show t.2 = t.n from rfl, show s'.2 = s'.n from rfl, htn, hsn, hlen]; simp) ?_⟩
  refine ⟨fun n x w11 => ∃ i : Nat, i ≤ P.length ∧ n + i = P.length ∧ x = (i : Int) ∧ Ext w2 w11, ⟨P.length, 0, Nat.zero_le _, rfl, rfl, Ch.refl _ _⟩, ?_⟩
  rintro n _ w11 g ⟨i, hi, hni, rfl, e11⟩
  unfold F21j1
  refine IfB.dec (fun hlt => ?_) (fun hge => ?_)
  · have hi' : i < P.length := by omega
    have ed := e11.trans (extDrew w11)
    have hv : ((P.map hd0).map fun n => Value.int .i64 n)[i]? = some (.int .i64 (hd0 P[i])) := by simp [hi']
    obtain ⟨a, ha, hc⟩ := (ho.ext ed).elem1 hv
    have hx : ps'[i]? = some (ps'[i]'(by omega)) := List.getElem?_eq_getElem (by omega)
    have hPi : (ps'[i]'(by omega)).2 = P[i] := by subst hP'; simp
    generalize ps'[i]'(by omega) = y at hx hPi
    obtain ⟨a2, o2, ha2, hc2, hr, hyn⟩ := (hR2.ext ed).page hx
    have hne := hI.ne _ (List.getElem_mem hi')
    rw [← hPi] at hne
    obtain ⟨z, zl, hz⟩ := List.exists_cons_of_ne_nil hne
    obtain ⟨a3, o3, ha3, hc3⟩ := pageR hr (i := 0) (x := z) (by rw [hz]; rfl)
    have hl1 : 0 < y.1.n := by rw [hyn, hz]; simp
    have hh : hd0 P[i] = z.1 := by rw [← hPi, hz]; rfl
    refine ⟨a, 0, ha, (⟨by omega, by omega⟩ : (0 : Int) ≤ (i : Int) ∧ (i : Int) < (t.n : Int)), hd0 P[i], by rw [Int.toNat_natCast, Nat.zero_add]; exact hc, b', 0, rfl, s', (hR2.ext ed).cell, a2, o2, ha2, (⟨by omega, by omega⟩ : (0 : Int) ≤ (i : Int) ∧ (i : Int) < (s'.n : Int)), y.1, by rw [Int.toNat_natCast]; exact hc2, a3, o3, ha3, (⟨by decide, by omega⟩ : (0 : Int) ≤ (0 : Int) ∧ (0 : Int) < (y.1.n : Int)), z.1, hc3.fst, ?_⟩
    exact IfB.no (by rw [hh]; simp) ⟨rfl, n - 1, by omega, i + 1, hi', by omega, by rw [wrap_of (by omega) (by omega)]; rfl, ed⟩
  · have eb := e2.trans e11
    obtain ⟨src, hsp, hsf, _, hmem⟩ := srcOf hS hP hI
    have hm := hmem w11 (hS.ext eb)
    have h23 := c23 hm (by rw [hsf]; exact hfl) 0 999
    rw [hsp, hsf, scanS_full hI] at h23
    refine h23.use ?_
    rintro _ w28 ⟨u, rfl, hou, e28, _⟩
    refine ⟨u, rfl, (c26 (hR.ext (eb.trans e28)) hP' hI).use ?_⟩
    rintro _ w31 ⟨v, rfl, hov, e31, _⟩
    refine ⟨v, rfl, (c22 (hou.ext e31).rd hov.rd (by omega)).use ?_⟩
    rintro _ w34 ⟨rfl, e34⟩
    refine ⟨_, rfl, IfB.yes (by simp) ?_⟩
    have ec := ((eb.trans e28).trans e31).trans e34
    have h31 := c31 (hmem w34 (hS.ext ec)) (by rw [hsf]; exact hfl)
    rw [hsp, hsf] at h31
    refine h31.use ?_
    rintro _ w37 ⟨rfl, e37⟩
    refine ⟨_, rfl, (c26 (hR.ext (ec.trans e37)) hP' hI).use ?_⟩
    rintro _ w40 ⟨v', rfl, hov', e40, _⟩
    have hvn : v'.n = P.flatten.length := by have := hov'.len; rw [prs_len] at this; omega
    refine ⟨v', rfl, ?_, (ec.trans e37).trans e40⟩
    rw [show v'.2 = v'.n from rfl, hvn]; simp

/-! ### No store -/
theorem c69none (w : World) : True := trivial
theorem c28none (k v : Int) (w : World) : CW Try.prog 28 #[.pointer none, .int .i64 k, .int .i64 v] w fun r w' => r = .int .i64 3 ∧ w = w' := by
  refine F28_ok _ _ _ _ _ ((c68 _ _ _).use ?_)
  rintro _ _ ⟨rfl, rfl⟩
  exact ⟨_, rfl, IfB.yes (by simp) ⟨rfl, rfl⟩⟩
theorem c27none (k : Int) (w : World) : CW Try.prog 27 #[.pointer none, .int .i64 k] w fun r w' => r = .int .i64 3 ∧ w = w' := by
  refine F27_ok _ _ _ _ ((c68 _ _ _).use ?_)
  rintro _ _ ⟨rfl, rfl⟩
  exact ⟨_, rfl, IfB.yes (by simp) ⟨rfl, rfl⟩⟩
theorem c29none (k : Int) (w : World) : CW Try.prog 29 #[.pointer none, .int .i64 k] w fun r w' => r = .tuple #[.int .i64 0, .int .i64 3] ∧ w = w' := by
  refine F29_ok _ _ _ _ ((c68 _ _ _).use ?_)
  rintro _ _ ⟨rfl, rfl⟩
  exact ⟨_, rfl, IfB.yes (by simp) ⟨rfl, rfl⟩⟩

theorem pagesNone (w : World) {k v : Int} {c0 c1 : Value} (h0 : rep (fun _ => True) w (.int .i64) k [c0]) (h1 : rep (fun _ => True) w (.int .i64) v [c1]) : CW Try.prog 8 #[c0, c1] w fun r w' => r = .bool true ∧ Ext w w' := by
  obtain ⟨h0, r0⟩ := h0
  obtain ⟨h1, r1⟩ := h1
  cases h0; cases h1
  refine F8_ok k v w _ ((c18 w).use ?_)
  rintro _ w2 ⟨rfl, e2⟩
  refine ⟨true, rfl, IfB.no rfl ((c29none k w2).use ?_)⟩
  rintro _ _ ⟨rfl, rfl⟩
  refine ⟨(0, 3), rfl, (c28none k v w2).use ?_⟩
  rintro _ _ ⟨rfl, rfl⟩
  refine ⟨3, rfl, IfB.yes rfl (IfB.yes rfl (IfB.yes rfl ((c27none k w2).use ?_)))⟩
  rintro _ _ ⟨rfl, rfl⟩
  refine ⟨3, rfl, IfB.yes rfl ((c23 (src := none) (w := w2) trivial (by show ([] : List Pr).length ≤ 1000; simp) 0 999).use ?_)⟩
  rintro _ w14 ⟨t, rfl, ho, e14, _⟩
  have hn : t.n = 0 := by have := ho.len; simp [Src.fl, scanS, prs] at this; omega
  refine ⟨t, rfl, IfB.yes (by rw [show t.2 = t.n from rfl, hn]; rfl) ((c31 (src := none) (w := w14) trivial (by show ([] : List Pr).length ≤ 1000; simp)).use ?_)⟩
  rintro _ w17 ⟨rfl, e17⟩
  refine ⟨_, rfl, IfB.yes rfl ((c30nil w17).use ?_)⟩
  rintro _ _ ⟨rfl, rfl⟩
  refine ⟨⟨none, 0, 0⟩, rfl, IfB.yes rfl ((c34nil w17).use ?_)⟩
  rintro _ _ ⟨rfl, rfl⟩
  refine ⟨none, rfl, IfB.yes rfl ((c25 (src := none) (src' := none) (w := w17) trivial trivial (by show ([] : List Pr).length ≤ 1000; simp) (by show ([] : List Pr).length ≤ 1000; simp)).use ?_)⟩
  rintro _ w26 ⟨rfl, e26⟩
  exact ⟨_, rfl, rfl, ((e2.trans e14).trans e17).trans e26⟩
end Go.Proofs.Ytopecljhehcldaa.Gx
