/- gimmallaw29.SerialOrders returns true for all arguments, and leaves what was there as it was. No condition beyond the statement. -/
/- Merged by pack.py: DepF, SerD, GxNL, DepG, GxNZ, SerM, GxOA, SerN, SerO, GxB, SerP, SlOrd. -/
import Derived.Test.YtmmhbjbaallkfaaPc1
import Derived.Test.YtmmhbjbaallkfaaPc2
import Derived.Test.YtmmhbjbaallkfaaPc3
import Derived.Test.YtmmhbjbaallkfaaPc4
import Derived.Test.YtmmhbjbaallkfaaPc5
import Derived.SizedLaws
import Derived.Test.YtmmhbjbaallkfaaRows
import Derived.WalkKit
import Derived.ProofKit
import Derived.OpenShut
import Derived.ShutString
import Derived.Below
import Derived.Carry

/- Package gimmallaw15: what its statements ask first; lists against the document's relation. -/
namespace Go.Proofs.Ytmmhbjbaallkfaa.Gx
open Go
set_option linter.unusedSimpArgs false
set_option linter.unusedVariables false
/-- More than statements look at. -/
def GrtP (hs : List Nd) : Prop := (∃ n ∈ hs, 40 < n.rs.length ∨ 40 < n.ws.length) ∨ 40 < hs.length
theorem c11 {w : World} {t : Sl} {hs : List Nd} (hr : Rd w t 6 (hs.flatMap nL)) (hn : ∀ n ∈ hs, n.v.2.2.2.2.1.n = n.rs.length ∧ n.v.2.2.2.2.2.n = n.ws.length) (hl : hs.length ≤ 9223372036854775807) :
    CW Try.prog 11 #[slV t] w fun v w' => ∃ r, v = .bool r ∧ (r = true ↔ GrtP hs) ∧ w = w' := by
  have htn := rdN nL_len (by omega) hr
  refine F11_ok t w _ ⟨fun m x W => ∃ i : Nat, i ≤ hs.length ∧ m + i = hs.length ∧ x = (i : Int) ∧ w = W ∧ ∀ n ∈ hs.take i, ¬ (40 < n.rs.length ∨ 40 < n.ws.length), ⟨hs.length, 0, Nat.zero_le _, rfl, rfl, rfl, by simp⟩, ?_⟩
  rintro m _ _ g ⟨i, hi, hmi, rfl, rfl, hno⟩
  unfold F11j1
  refine IfB.dec (fun hlt => ?_) fun hge => ?_
  · have hi' : i < hs.length := by omega
    have hx : hs[i]? = some hs[i] := List.getElem?_eq_getElem hi'
    have htk := take_succ_get hx
    generalize hs[i] = x at hx htk
    have hxm := List.mem_of_getElem? hx
    obtain ⟨hnr, hnw⟩ := hn x hxm
    obtain ⟨b, o, hp, hc⟩ := hr.elem (i := i) (by omega) (by omega) (flatGet nL_len hx)
    have hb : (0 : Int) ≤ (i : Int) ∧ (i : Int) < (t.n : Int) := ⟨by omega, by omega⟩
    refine ⟨b, o, hp, hb, x.v.2.2.2.2.1, by rw [Int.toNat_natCast]; exact hc 4 _ rfl, IfB.dec (fun h => ⟨true, rfl, ⟨fun _ => .inl ⟨x, hxm, .inl (by omega)⟩, fun _ => rfl⟩, rfl⟩) fun h1 => ⟨b, o, hp, hb, x.v.2.2.2.2.2, by rw [Int.toNat_natCast]; exact hc 5 _ rfl, IfB.dec (fun h => ⟨true, rfl, ⟨fun _ => .inl ⟨x, hxm, .inr (by omega)⟩, fun _ => rfl⟩, rfl⟩) fun h2 => ⟨rfl, m - 1, by omega, i + 1, hi', by omega, by rw [wrap_of (by omega) (by omega)]; rfl, rfl, fun n hn' => ?_⟩⟩⟩
    rw [htk] at hn'
    rcases List.mem_append.1 hn' with h | h
    · exact hno n h
    · rw [List.mem_singleton.1 h]; omega
  · have hi' : i = hs.length := by omega
    subst hi'
    rw [List.take_length] at hno
    refine ⟨_, rfl, ?_, rfl⟩
    rw [decide_eq_true_eq]
    unfold GrtP
    constructor
    · exact fun h => .inr (by omega)
    · rintro (⟨n, hn, h⟩ | h)
      · exact absurd h (hno n hn)
      · omega
/-- Lists that are the relation's are told the same. -/
theorem c14 {w : World} {tl td : Sl} {rows : List RwL} {mr : List MxR} {hs : List Nd} {m0 : Nat} (hL : Rws w tl rows) (hrl : rows.length = hs.length) (hrow : ∀ i x, rows[i]? = some x → RowOf hs i x.2) (hM : Mx w m0 td mr) (hsq : Sqr hs.length mr) (hg : ∀ i k, gM mr i k = true ↔ Dp hs i k) (hl : hs.length ≤ 1000) :
    CW Try.prog 14 #[slV tl, slV td] w fun v w' => v = .bool true ∧ w = w' := by
  have htn := hL.n
  have hdn := hM.n
  have hml := hsq.1
  refine F14_ok tl td w _ (IfB.no (by simp; omega) ⟨fun m x W => ∃ i : Nat, i ≤ hs.length ∧ m + i = hs.length ∧ x = (i : Int) ∧ w = W, ⟨hs.length, 0, Nat.zero_le _, rfl, rfl, rfl⟩, ?_⟩)
  rintro m _ _ g ⟨i, hi, hmi, rfl, rfl⟩
  refine IfB.dec (fun hlt => ?_) fun hge => ⟨rfl, rfl⟩
  have hi' : i < hs.length := by omega
  have hx : rows[i]? = some (rows[i]'(by omega)) := List.getElem?_eq_getElem (by omega)
  generalize rows[i]'_ = row at hx
  obtain ⟨⟨bl, ol, hpl, hcl⟩, hrr, hrn⟩ := hL.at hx
  have hR := hrow i row hx
  obtain ⟨r, hr, hrlen, hrm⟩ := hsq.at hi'
  obtain ⟨bd, hpd, hcd⟩ := hM.slot hr
  have hrn' := hM.rn hrm
  have hRl := hR.len
  have hbl : (0 : Int) ≤ (i : Int) ∧ (i : Int) < (tl.n : Int) := ⟨by omega, by omega⟩
  have hbd : (0 : Int) ≤ (i : Int) ∧ (i : Int) < (td.n : Int) := ⟨by omega, by omega⟩
  refine ⟨fun q x W => ∃ (k : Nat) (A B : List Int), k ≤ hs.length ∧ q + k = hs.length ∧ x = ((A.length : Int), (k : Int)) ∧ row.2 = A ++ B ∧ (∀ a ∈ A, a < (k : Int)) ∧ (∀ b ∈ B, (k : Int) ≤ b) ∧ w = W, ⟨hs.length, 0, [], row.2, Nat.zero_le _, rfl, rfl, rfl, by simp, fun b hb => ?_, rfl⟩, ?_⟩
  · obtain ⟨k', rfl, _⟩ := (hR.mem b).1 hb
    omega
  rintro q _ _ g ⟨k, A, B, hk, hqk, rfl, hAB, hA, hB, rfl⟩
  have hABl : row.2.length = A.length + B.length := by rw [hAB, List.length_append]
  unfold F14j2
  refine IfB.dec (fun hlt2 => ?_) fun hge2 => ?_
  · have hk' : k < hs.length := by dsimp only at hlt2; omega
    obtain ⟨bc, hpc, hcc⟩ := hM.cell hrm (gM_get hr (k := k) (by omega))
    have w1 : IntKind.i64.wrap ((k : Int) + 1) = ((k + 1 : Nat) : Int) := by rw [wrap_of (by omega) (by omega)]; rfl
    have hmem : gM mr i k = true ↔ (k : Int) ∈ row.2 := by
      rw [hg, hR.mem]
      exact ⟨fun h => ⟨k, rfl, h⟩, fun ⟨k', e, h⟩ => by have : k' = k := by omega
                                                        subst this; exact h⟩
    refine ⟨bd, 0, hpd, hbd, r.1, by rw [Int.toNat_natCast, Nat.zero_add]; exact hcd, bc, 0, hpc, (⟨by omega, by omega⟩ : (0 : Int) ≤ (k : Int) ∧ (k : Int) < (r.1.n : Int)), gM mr i k, by dsimp only; rw [Int.toNat_natCast, Nat.zero_add]; exact hcc, IfB.intro (fun h => ?_) fun h => ?_⟩
    · have hnk : (k : Int) ∉ row.2 := fun h' => by rw [hmem.2 h'] at h; cases h
      refine ⟨rfl, q - 1, by omega, k + 1, A, B, hk', by omega, by rw [w1], hAB, fun a ha => by have := hA a ha; omega, fun b hb => ?_, rfl⟩
      have := hB b hb
      have : b ≠ (k : Int) := fun e => hnk (by rw [hAB, ← e]; exact List.mem_append.2 (.inr hb))
      omega
    · have hkm : (k : Int) ∈ row.2 := hmem.1 (by simpa using h)
      obtain ⟨B', rfl⟩ : ∃ B', B = (k : Int) :: B' := by
        rw [hAB] at hkm
        rcases List.mem_append.1 hkm with h' | h'
        · have := hA _ h'; omega
        · match B, h', hB, hAB with
          | b :: B', h', hB, hAB =>
            have hb := hB b (by simp)
            rcases List.mem_cons.1 h' with e | e
            · exact ⟨B', by rw [e]⟩
            · have hs := hR.srt
              rw [hAB] at hs
              have := (List.pairwise_cons.1 (List.pairwise_append.1 hs).2.1).1 _ e
              omega
      have hrA : row.2[A.length]? = some (k : Int) := by rw [hAB, List.getElem?_append_right (Nat.le_refl _), Nat.sub_self]; rfl
      obtain ⟨be, oe, hpe, hce⟩ := hrr.elem1 (i := A.length) (v := iv (k : Int)) (by rw [List.getElem?_map, hrA]; rfl)
      simp at hABl
      refine ⟨bl, ol, hpl, hbl, row.1, by rw [Int.toNat_natCast]; exact hcl, IfB.no (by simp; omega) ⟨bl, ol, hpl, hbl, row.1, by rw [Int.toNat_natCast]; exact hcl, be, oe, hpe, (⟨by omega, by omega⟩ : (0 : Int) ≤ (A.length : Int) ∧ (A.length : Int) < (row.1.n : Int)), (k : Int), by dsimp only; rw [Int.toNat_natCast]; exact hce, IfB.no (by simp) ⟨rfl, q - 1, by omega, k + 1, A ++ [(k : Int)], B', hk', by omega, ?_, by rw [hAB]; simp, fun a ha => ?_, fun b hb => ?_, rfl⟩⟩⟩
      · rw [w1, wrap_of (by omega) (by omega)]; simp
      · rcases List.mem_append.1 ha with ha | ha
        · have := hA a ha; omega
        · rw [List.mem_singleton.1 ha]; omega
      · have hs := hR.srt
        rw [hAB] at hs
        have := (List.pairwise_cons.1 (List.pairwise_append.1 hs).2.1).1 _ hb
        omega
  · have hk' : k = hs.length := by dsimp only at hge2; omega
    subst hk'
    have hBn : B = [] := by
      match B, hB, hAB with
      | [], _, _ => rfl
      | b :: B', hB, hAB =>
        have hb := hB b (by simp)
        obtain ⟨k', e, hd⟩ := (hR.mem b).1 (by rw [hAB]; simp)
        have := Dp_lt hd
        omega
    subst hBn
    simp at hABl
    refine ⟨bl, ol, hpl, hbl, row.1, by rw [Int.toNat_natCast]; exact hcl, IfB.no (by simp; omega) ⟨rfl, m - 1, by omega, i + 1, hi', by omega, by rw [wrap_of (by omega) (by omega)]; rfl, rfl⟩⟩
abbrev nilS : Sl := ⟨none, 0, 0⟩
theorem c10 (w : World) : CW Try.prog 10 #[] w fun v w' => v = .bool true ∧ Ext w w' := by
  refine F10_ok w _ ⟨by decide, fun b1 w2 a2 => ⟨by decide, fun b3 w4 a4 => ⟨by decide, fun b5 w6 a6 => ?_⟩⟩⟩
  have e4 : Ext w2 w4 := a4.ch _
  have e6 : Ext w4 w6 := a6.ch _
  have E6 : Ext w w6 := ((a2.ch _).trans e4).trans e6
  obtain ⟨hs, hhs⟩ : ∃ hs : List Nd, hs = [⟨(1, 0, 0, false, nilS, ⟨some ⟨b1, 0, none⟩, 1, 1⟩), [], [(5, 5)]⟩, ⟨(2, 0, 0, false, ⟨some ⟨b1, 0, none⟩, 1, 1⟩, nilS), [(5, 5)], []⟩, ⟨(2, 0, 1, false, nilS, ⟨some ⟨b3, 0, none⟩, 1, 1⟩), [], [(6, 6)]⟩, ⟨(1, 0, 1, false, ⟨some ⟨b3, 0, none⟩, 1, 1⟩, nilS), [(6, 6)], []⟩] := ⟨_, rfl⟩
  have r5 : Rd w6 ⟨some ⟨b1, 0, none⟩, 1, 1⟩ 2 ([((5, 5) : Spn)].flatMap sv) := (((OwS.new (cs := [((5, 5) : Spn)].flatMap sv) (n := 1) (sz := 2) a2 rfl).ext e4).ext e6).rd
  have r6 : Rd w6 ⟨some ⟨b3, 0, none⟩, 1, 1⟩ 2 ([((6, 6) : Spn)].flatMap sv) := ((OwS.new (cs := [((6, 6) : Spn)].flatMap sv) (n := 1) (sz := 2) a4 rfl).ext e6).rd
  have rn : Rd w6 nilS 2 (([] : List Spn).flatMap sv) := (OwS.nil w6 2).rd
  have hH : Hst w6 ⟨some ⟨b5, 0, none⟩, 4, 4⟩ hs := by
    refine ⟨?_, fun n hn => ?_, by rw [hhs]; simp, Nat.le_refl _⟩
    · rw [hhs]; exact (OwS.new (n := 4) (sz := 6) a6 rfl).rd
    · rw [hhs] at hn
      simp only [List.mem_cons, List.not_mem_nil, or_false] at hn
      rcases hn with rfl | rfl | rfl | rfl
      · exact ⟨rn, r5, by simp, by simp⟩
      · exact ⟨r5, rn, by simp, by simp⟩
      · exact ⟨rn, r6, by simp, by simp⟩
      · exact ⟨r6, rn, by simp, by simp⟩
  have hlen : hs.length = 4 := by rw [hhs]; rfl
  have m5 : hasS [(5, 5)] 5 := ⟨_, List.mem_singleton.2 rfl, by unfold mayS; omega, by omega, by omega⟩
  have m6 : hasS [(6, 6)] 6 := ⟨_, List.mem_singleton.2 rfl, by unfold mayS; omega, by omega, by omega⟩
  have h10 : EdP hs 1 0 := ⟨by omega, _, _, by rw [hhs]; rfl, by rw [hhs]; rfl, .inr ⟨by simp, .inr (.inr ⟨5, m5, m5⟩)⟩⟩
  have h21 : EdP hs 2 1 := ⟨by omega, _, _, by rw [hhs]; rfl, by rw [hhs]; rfl, .inl (by rfl)⟩
  have h32 : EdP hs 3 2 := ⟨by omega, _, _, by rw [hhs]; rfl, by rw [hhs]; rfl, .inr ⟨by simp, .inr (.inr ⟨6, m6, m6⟩)⟩⟩
  have h20 : ¬ EdP hs 2 0 := by
    rintro ⟨_, a, b, ha, hb, hd⟩
    rw [hhs] at ha hb
    simp at ha hb
    subst ha; subst hb
    rcases hd with h | ⟨_, ⟨k, h1, h2⟩ | ⟨k, h1, h2⟩ | ⟨k, h1, h2⟩⟩
    · simp at h
    · obtain ⟨x, hx, _⟩ := h2; cases hx
    · rw [hasS_one] at h1 h2; omega
    · obtain ⟨x, hx, _⟩ := h1; cases hx
  refine (c13 hH (by omega)).use ?_
  rintro _ w8 ⟨t', rows, rfl, hrl, hrow, hO, e8⟩
  have htn := hO.n
  have hr3 : rows[3]? = some (rows[3]'(by omega)) := List.getElem?_eq_getElem (by omega)
  generalize rows[3]'_ = row at hr3
  obtain ⟨⟨b, o, hp, hc⟩, hrr, hrn⟩ := hO.rws.at hr3
  have hR := hrow 3 row hr3
  have hrow3 : row.2 = [0, 1, 2] := sorted_ext hR.srt (by decide) fun k => by
    rw [hR.mem]
    constructor
    · rintro ⟨k', rfl, hd⟩
      have := Dp_lt hd
      rcases k' with _ | _ | _ | k'
      · simp
      · simp
      · simp
      · omega
    · intro hk
      simp only [List.mem_cons, List.not_mem_nil, or_false] at hk
      rcases hk with rfl | rfl | rfl
      · exact ⟨0, rfl, ((TC.one h32).more h21).more h10⟩
      · exact ⟨1, rfl, (TC.one h32).more h21⟩
      · exact ⟨2, rfl, TC.one h32⟩
  rw [hrow3] at hrn
  refine ⟨t', rfl, IfB.yes (by simp; omega) ⟨b, o, hp, ⟨by omega, by show (3 : Int) < (t'.n : Int); omega⟩, row.1, hc, IfB.yes (by simp at hrn ⊢; omega) ?_⟩⟩
  refine (c17 (hH.ext e8) (by omega) 2 0).use ?_
  rintro _ w14 ⟨r, rfl, hr, e14⟩
  refine ⟨r, rfl, IfB.yes (hr.2 ⟨by omega, by omega, 0, rfl, (TC.one h21).more h10⟩) ((c16 ((hH.ext e8).ext e14) 2 0).use ?_)⟩
  rintro _ w17 ⟨r2, rfl, hr2, e17⟩
  refine ⟨r2, rfl, ?_, ((E6.trans e8).trans e14).trans e17⟩
  cases r2 with
  | false => rfl
  | true => exact absurd (hr2.1 rfl).2.2 h20
end Go.Proofs.Ytmmhbjbaallkfaa.Gx

/- Package gimmallaw29: the document's example. -/
namespace Go.Proofs.Ytmmhbjbaallkfaa.Gx
open Go
set_option linter.unusedSimpArgs false
set_option linter.unusedVariables false
theorem freeB_iff {ah : List (Int × Int)} {left : List Int} {s : Int} : freeB ah left s = true ↔ ¬ ∃ a ∈ left, (a, s) ∈ ah := by
  unfold freeB
  rw [Bool.not_eq_true', List.any_eq_false]
  constructor
  · rintro h ⟨a, ha, hp⟩
    have := h _ hp
    unfold waitB at this
    simp [ha] at this
  · intro h p hp hw
    unfold waitB at hw
    simp only [Bool.and_eq_true, beq_iff_eq, decide_eq_true_eq] at hw
    exact h ⟨p.1, hw.2, by rw [← hw.1]; exact hp⟩
theorem freeB_no {ah : List (Int × Int)} {left : List Int} {s : Int} : freeB ah left s = false ↔ ∃ a ∈ left, (a, s) ∈ ah := by
  rw [← Bool.not_eq_true, freeB_iff]
  exact Classical.not_not
theorem SgL.uniq {hs : List Nd} {l m : List Int} (h : SgL hs l) (k : SgL hs m) : l = m := sorted_ext h.srt k.srt fun a => (h.mem a).trans (k.mem a).symm
/-- The example's nodes. -/
def exN (sa : Int) (s : Sl) (ws : List Spn) : Nd := ⟨(sa, 0, 0, false, nilS, s), [], ws⟩
theorem ex_cnf {a b : Int} {s t : Sl} {x y : Spn} : cnfP (exN a s [x]) (exN b t [y]) ↔ a ≠ b ∧ mtP [x] [y] := by
  unfold cnfP exN
  constructor
  · rintro ⟨h, ⟨k, _, ⟨z, hz, _⟩⟩ | h' | ⟨k, ⟨z, hz, _⟩, _⟩⟩
    · cases hz
    · exact ⟨h, h'⟩
    · cases hz
  · exact fun h => ⟨h.1, .inr (.inl h.2)⟩
theorem mt55 : mtP [(5, 5)] [(5, 5)] := ⟨5, ⟨_, List.mem_singleton.2 rfl, by unfold mayS; omega, by omega, by omega⟩, ⟨_, List.mem_singleton.2 rfl, by unfold mayS; omega, by omega, by omega⟩⟩
theorem mt66 : mtP [(6, 6)] [(6, 6)] := ⟨6, ⟨_, List.mem_singleton.2 rfl, by unfold mayS; omega, by omega, by omega⟩, ⟨_, List.mem_singleton.2 rfl, by unfold mayS; omega, by omega, by omega⟩⟩
theorem mt56 : ¬ mtP [(5, 5)] [(6, 6)] := by
  rintro ⟨k, h1, h2⟩
  rw [hasS_one] at h1 h2; omega
section
variable {p q : Sl}
def exH (p q : Sl) : List Nd := [exN 1 p [(5, 5)], exN 2 p [(5, 5)], exN 2 q [(6, 6)], exN 1 q [(6, 6)]]
theorem exAh (pr : Int × Int) : AhP (exH p q) pr ↔ pr = (1, 2) ∨ pr = (2, 1) := by
  constructor
  · rintro ⟨k, j, a, b, hkj, ha, hb, rfl, hc⟩
    have hj := (List.getElem?_eq_some_iff.1 hb).1
    have hj4 : j < 4 := hj
    match k, j, hkj, hj4, ha, hb with
    | 0, 1, _, _, ha, hb => cases ha; cases hb; exact .inl rfl
    | 0, 2, _, _, ha, hb => cases ha; cases hb; exact absurd (ex_cnf.1 hc).2 mt56
    | 0, 3, _, _, ha, hb => cases ha; cases hb; exact absurd rfl (ex_cnf.1 hc).1
    | 1, 2, _, _, ha, hb => cases ha; cases hb; exact absurd rfl (ex_cnf.1 hc).1
    | 1, 3, _, _, ha, hb => cases ha; cases hb; exact absurd (ex_cnf.1 hc).2 mt56
    | 2, 3, _, _, ha, hb => cases ha; cases hb; exact .inr rfl
    | k + 3, j, h1, h2, _, _ => exact absurd h1 (by omega)
  · rintro (rfl | rfl)
    · exact ⟨0, 1, _, _, by omega, rfl, rfl, rfl, ex_cnf.2 ⟨by omega, mt55⟩⟩
    · exact ⟨2, 3, _, _, by omega, rfl, rfl, rfl, ex_cnf.2 ⟨by omega, mt66⟩⟩
theorem exAh3 (pr : Int × Int) : AhP ((exH p q).take 3) pr ↔ pr = (1, 2) := by
  constructor
  · rintro ⟨k, j, a, b, hkj, ha, hb, rfl, hc⟩
    have hj := (List.getElem?_eq_some_iff.1 hb).1
    have hj4 : j < 3 := hj
    match k, j, hkj, hj4, ha, hb with
    | 0, 1, _, _, ha, hb => cases ha; cases hb; rfl
    | 0, 2, _, _, ha, hb => cases ha; cases hb; exact absurd (ex_cnf.1 hc).2 mt56
    | 1, 2, _, _, ha, hb => cases ha; cases hb; exact absurd rfl (ex_cnf.1 hc).1
    | k + 2, j, h1, h2, _, _ => exact absurd h1 (by omega)
  · rintro rfl
    exact ⟨0, 1, _, _, by omega, rfl, rfl, rfl, ex_cnf.2 ⟨by omega, mt55⟩⟩
theorem exSg : SgL (exH p q) [1, 2] := ⟨by decide, fun k => by simp [exH, exN]; omega⟩
theorem exSg3 : SgL ((exH p q).take 3) [1, 2] := ⟨by decide, fun k => by simp [exH, exN]; omega⟩
theorem exR : SgR (exH p q) := fun n hn => by
  simp only [exH, List.mem_cons, List.not_mem_nil, or_false] at hn
  rcases hn with rfl | rfl | rfl | rfl <;> simp [exN]
end
theorem c20 (w : World) : CW Try.prog 20 #[] w fun v w' => v = .bool true ∧ Ext w w' := by
  refine F20_ok w _ ⟨by decide, fun b1 w2 a2 => ⟨by decide, fun b3 w4 a4 => ⟨by decide, fun b5 w6 a6 => ?_⟩⟩⟩
  have e4 : Ext w2 w4 := a4.ch _
  have e6 : Ext w4 w6 := a6.ch _
  have E6 : Ext w w6 := ((a2.ch _).trans e4).trans e6
  have r5 : Rd w6 ⟨some ⟨b1, 0, none⟩, 1, 1⟩ 2 ([((5, 5) : Spn)].flatMap sv) := (((OwS.new (cs := [((5, 5) : Spn)].flatMap sv) (n := 1) (sz := 2) a2 rfl).ext e4).ext e6).rd
  have r6 : Rd w6 ⟨some ⟨b3, 0, none⟩, 1, 1⟩ 2 ([((6, 6) : Spn)].flatMap sv) := ((OwS.new (cs := [((6, 6) : Spn)].flatMap sv) (n := 1) (sz := 2) a4 rfl).ext e6).rd
  have rn : Rd w6 nilS 2 (([] : List Spn).flatMap sv) := (OwS.nil w6 2).rd
  obtain ⟨hs, hhs⟩ : ∃ hs : List Nd, hs = exH ⟨some ⟨b1, 0, none⟩, 1, 1⟩ ⟨some ⟨b3, 0, none⟩, 1, 1⟩ := ⟨_, rfl⟩
  have hH : Hst w6 ⟨some ⟨b5, 0, none⟩, 4, 4⟩ hs := by
    refine ⟨?_, fun n hn => ?_, by rw [hhs]; simp [exH], Nat.le_refl _⟩
    · rw [hhs]; exact (OwS.new (n := 4) (sz := 6) a6 rfl).rd
    · rw [hhs] at hn
      simp only [exH, List.mem_cons, List.not_mem_nil, or_false] at hn
      rcases hn with rfl | rfl | rfl | rfl
      · exact ⟨rn, r5, by simp [exN], by simp [exN]⟩
      · exact ⟨rn, r5, by simp [exN], by simp [exN]⟩
      · exact ⟨rn, r6, by simp [exN], by simp [exN]⟩
      · exact ⟨rn, r6, by simp [exN], by simp [exN]⟩
  have hlen : hs.length = 4 := by rw [hhs]; rfl
  have hR : SgR hs := by rw [hhs]; exact exR
  refine (c21 hH (by omega) hR).use ?_
  rintro _ w8 ⟨s9, xs, rfl, hsrt, hmem, _, hO, e8, _⟩
  have hxs : xs.Perm [(1, 2), (2, 1)] := by
    refine (List.perm_ext_iff_of_nodup ?_ (by decide)).2 fun p => ?_
    · exact hsrt.imp fun h e => by rw [e] at h; omega
    · rw [hmem, hhs, exAh]; simp
  have hn := owsN sv_len (by omega) hO
  rw [hxs.length_eq] at hn
  have hn : s9.n = 2 := hn
  refine ⟨s9, rfl, IfB.yes (by simp [hn]) ((c32 (hH.ext e8) (by omega) hR).use ?_)⟩
  rintro _ w11 ⟨l, ah, hl, hah, rfl, e11⟩
  have hl12 : l = [1, 2] := hl.uniq (by rw [hhs]; exact exSg)
  have hno : (ordGo ah l.length l []).2 = false := by
    subst hl12
    have f1 : freeB ah [1, 2] 1 = false := freeB_no.2 ⟨2, by simp, (hah _).2 (by rw [hhs, exAh]; simp)⟩
    have f2 : freeB ah [1, 2] 2 = false := freeB_no.2 ⟨1, by simp, (hah _).2 (by rw [hhs, exAh]; simp)⟩
    show (ordGo ah 2 [1, 2] []).2 = false
    unfold ordGo
    rw [List.findIdx?_eq_none_iff.2 (by
      intro x hx
      simp only [List.mem_cons, List.not_mem_nil, or_false] at hx
      rcases hx with rfl | rfl
      · exact f1
      · exact f2)]
  rw [hno]
  refine ⟨false, rfl, IfB.yes rfl ⟨⟨by omega, by omega⟩, ?_⟩⟩
  rw [slAddr_zero]
  refine (c32 (t := ⟨some ⟨b5, 0, none⟩, 3, 4⟩) (((hH.ext e8).ext e11).cut (k := 3) (by omega)) (by rw [List.length_take]; omega) fun n hn => hR n (List.mem_of_mem_take hn)).use ?_
  rintro _ w14 ⟨l', ah', hl', hah', rfl, e14⟩
  have hl12' : l' = [1, 2] := hl'.uniq (by rw [hhs]; exact exSg3)
  have hyes : (ordGo ah' l'.length l' []).2 = true := by
    subst hl12'
    have f1 : freeB ah' [1, 2] 1 = true := freeB_iff.2 fun ⟨a, _, h⟩ => by
      have := (hah' _).1 h
      rw [hhs, exAh3] at this
      simp at this
    have f2 : freeB ah' [2] 2 = true := freeB_iff.2 fun ⟨a, ha, h⟩ => by
      have := (hah' _).1 h
      rw [hhs, exAh3] at this
      simp at ha this
      omega
    show (ordGo ah' 2 [1, 2] []).2 = true
    unfold ordGo
    rw [show [(1 : Int), 2].findIdx? (freeB ah' [1, 2]) = some 0 by rw [List.findIdx?_cons, f1]; rfl]
    show (ordGo ah' 1 [2] _).2 = true
    unfold ordGo
    rw [show [(2 : Int)].findIdx? (freeB ah' [2]) = some 0 by rw [List.findIdx?_cons, f2]; rfl]
    rfl
  rw [hyes]
  exact ⟨true, rfl, rfl, ((E6.trans e8).trans e11).trans e14⟩
end Go.Proofs.Ytmmhbjbaallkfaa.Gx

/- Written by mkf.py: what is to be shown of functions, as Gx reckons it from their code. -/
namespace Go.Proofs.Ytmmhbjbaallkfaa.Gx
open Go
set_option linter.unusedVariables false
set_option maxRecDepth 100000
end Go.Proofs.Ytmmhbjbaallkfaa.Gx

/- Package gimmallaw15: its statements of histories. -/
namespace Go.Proofs.Ytmmhbjbaallkfaa.Gx
open Go
set_option linter.unusedSimpArgs false
set_option linter.unusedVariables false
abbrev tySp : Ty := .pair (.int .i64) (.int .i64)
abbrev tyNd : Ty := .pair (.int .i64) (.pair (.int .i64) (.pair (.int .i64) (.pair .bool (.pair (.sl tySp) (.sl tySp)))))
theorem pickAll {α : Type} {f : α → List Value} {Q : α → Prop} : ∀ {css : List (List Value)}, (∀ c ∈ css, ∃ n, c = f n ∧ Q n) → ∃ ns : List α, css = ns.map f ∧ ∀ n ∈ ns, Q n
  | [], _ => ⟨[], rfl, by simp⟩
  | c :: css, h => by
    obtain ⟨n, hn, hq⟩ := h c (by simp)
    obtain ⟨ns, hns, hqs⟩ := pickAll (css := css) fun c hc => h c (List.mem_cons_of_mem _ hc)
    exact ⟨n :: ns, by rw [hn, hns]; rfl, fun m hm => (List.mem_cons.1 hm).elim (fun e => e ▸ hq) (hqs m)⟩
theorem rep_each {A : Nat → Prop} {w : World} {e : Ty} {l : List e.den} {css : List (List Value)} (hl : css.length = l.length) (hr : ∀ (i : Nat) c x, css[i]? = some c → l[i]? = some x → rep A w e x c) : ∀ c ∈ css, ∃ x, rep A w e x c := fun c hc => by
  obtain ⟨i, hi, rfl⟩ := List.getElem_of_mem hc
  exact ⟨_, hr i _ _ (List.getElem?_eq_getElem hi) (List.getElem?_eq_getElem (by omega))⟩
/-- A list of spans, somewhere. -/
theorem rep_spans {A : Nat → Prop} {w : World} {l : List tySp.den} {cs : List Value} (h : rep A w (.sl tySp) l cs) : ∃ (s : Sl) (xs : List Spn), cs = [slV s] ∧ Rd w s 2 (xs.flatMap sv) ∧ s.n ≤ s.c ∧ s.c ≤ maxLen := by
  obtain ⟨s, rfl, h1, h2, h3, h4, css, h5, h6, h7⟩ := h
  obtain ⟨ns, hns, _⟩ := pickAll (f := sv) (Q := fun _ => True) fun c hc => by
    obtain ⟨x, c1, c2, rfl, hx1, hx2⟩ := rep_each h5 h6 c hc
    obtain ⟨rfl, _⟩ := hx1
    obtain ⟨rfl, _⟩ := hx2
    exact ⟨x, rfl, trivial⟩
  refine ⟨s, ns, rfl, ?_, h2, h3⟩
  rw [List.flatMap_def, ← hns]; exact h7
structure NdIn (w : World) (n : Nd) : Prop where
  rs : Rd w n.v.2.2.2.2.1 2 (n.rs.flatMap sv)
  ws : Rd w n.v.2.2.2.2.2 2 (n.ws.flatMap sv)
theorem NdIn.rn {w : World} {n : Nd} (h : NdIn w n) : n.v.2.2.2.2.1.n = n.rs.length ∧ n.v.2.2.2.2.2.n = n.ws.length := ⟨rdN sv_len (by omega) h.rs, rdN sv_len (by omega) h.ws⟩
theorem NdIn.ext {w w' : World} {n : Nd} (h : NdIn w n) (e : Ext w w') : NdIn w' n := ⟨h.rs.ext e, h.ws.ext e⟩
structure HIn (w : World) (t : Sl) (hs : List Nd) : Prop where
  rd : Rd w t 6 (hs.flatMap nL)
  nd : ∀ n ∈ hs, NdIn w n
  cap : t.n ≤ t.c
  len : hs.length ≤ maxLen
theorem HIn.n {w : World} {t : Sl} {hs : List Nd} (h : HIn w t hs) : t.n = hs.length := rdN nL_len (by omega) h.rd
theorem HIn.ext {w w' : World} {t : Sl} {hs : List Nd} (h : HIn w t hs) (e : Ext w w') : HIn w' t hs := ⟨h.rd.ext e, fun n hn => (h.nd n hn).ext e, h.cap, h.len⟩
theorem HIn.hst {w : World} {t : Sl} {hs : List Nd} (h : HIn w t hs) (hg : ¬ GrtP hs) : Hst w t hs := by
  refine ⟨h.rd, fun n hn => ⟨(h.nd n hn).rs, (h.nd n hn).ws, ?_, ?_⟩, ?_, h.cap⟩
  · have : ¬ 40 < n.rs.length := fun h' => hg (.inl ⟨n, hn, .inl h'⟩)
    omega
  · have : ¬ 40 < n.ws.length := fun h' => hg (.inl ⟨n, hn, .inr h'⟩)
    omega
  · have : ¬ 40 < hs.length := fun h' => hg (.inr h')
    omega
theorem maxLen_le : maxLen ≤ 9223372036854775807 := by decide +kernel
/-- What each statement asks first. -/
theorem first {w : World} {t : Sl} {hs : List Nd} (hH : HIn w t hs) {R : Value → World → Prop} {K : World → Prop} (h0 : ∀ w', Ext w w' → R (.bool true) w') (hK : ∀ w', ¬ GrtP hs → Hst w' t hs → hs.length ≤ 40 → Ext w w' → K w') :
    CX Try.prog 10 #[] w fun v w2 => ∃ t3, v = .bool t3 ∧ IfB (!t3) (R (.bool false) w2) (CX Try.prog 11 #[slV t] w2 fun v w5 => ∃ t6, v = .bool t6 ∧ IfB t6 (R (.bool true) w5) (K w5)) := by
  refine (c10 w).use ?_
  rintro _ w2 ⟨rfl, e2⟩
  have h2 := hH.ext e2
  refine ⟨true, rfl, IfB.no rfl ((c11 h2.rd (fun n hn => (h2.nd n hn).rn) (Nat.le_trans hH.len maxLen_le)).use ?_)⟩
  rintro _ _ ⟨r, rfl, hr, rfl⟩
  refine ⟨r, rfl, IfB.intro (fun h => h0 w2 e2) fun h => ?_⟩
  have hg : ¬ GrtP hs := fun h' => by rw [hr.2 h'] at h; cases h
  exact hK w2 hg (h2.hst hg) (by have : ¬ 40 < hs.length := fun h' => hg (.inr h'); omega) e2
end Go.Proofs.Ytmmhbjbaallkfaa.Gx

/- Written by mkf.py: what is to be shown of functions, as Gx reckons it from their code. -/
namespace Go.Proofs.Ytmmhbjbaallkfaa.Gx
open Go
set_option linter.unusedVariables false
set_option maxRecDepth 100000
def F9j2 (t0 : Sl) (R : Value → World → Prop) (t31 : Bool) (w32 : World) : Prop :=
 IfB t31 (R (Value.bool false) w32)
 (CX Try.prog (23 : Nat) #[Value.slice t0.1 t0.2 t0.3] w32 fun (v35 : Value) (w36 : World) =>
 ∃ (s37 : Sl),
 v35 = Value.slice s37.1 s37.2 s37.3 ∧
 CX Try.prog (28 : Nat) #[Value.slice t0.1 t0.2 t0.3, Value.slice s37.1 s37.2 s37.3] w36 fun (v38 : Value) (w39 : World) =>
 ∃ (s40 : Sl),
 v38 = Value.slice s40.1 s40.2 s40.3 ∧
 CX Try.prog (33 : Nat) #[Value.slice s40.1 s40.2 s40.3] w39 fun (v41 : Value) (w42 : World) =>
 ∃ (t43 : Bool), v41 = Value.bool t43 ∧ IfB t43 (R (Value.bool ((s40.2 : Int) == (t0.2 : Int))) w42) (R (Value.bool false) w42))
def F9j1 (t0 : Sl) (R : Value → World → Prop) (t8 : Bool) (w9 : World) : Prop :=
 IfB t8 (R (Value.bool true) w9)
 (CX Try.prog (30 : Nat) #[Value.slice t0.1 t0.2 t0.3] w9 fun (v12 : Value) (w13 : World) =>
 ∃ (x14 : Sl × Bool),
 v12 = Value.tuple #[Value.slice x14.fst.1 x14.fst.2 x14.fst.3, Value.bool x14.2] ∧
 CX Try.prog (31 : Nat) #[Value.slice t0.1 t0.2 t0.3] w13 fun (v15 : Value) (w16 : World) =>
 ∃ (x17 : Sl × Bool),
 v15 = Value.tuple #[Value.slice x17.fst.1 x17.fst.2 x17.fst.3, Value.bool x17.2] ∧
 ∃ (y18 : Bool → World → Prop),
 IfB (!x14.2 == x17.2) (([] : List Nat) = [] ∧ y18 true w16)
 (CX Try.prog (25 : Nat) #[Value.slice x14.fst.1 x14.fst.2 x14.fst.3, Value.slice x17.fst.1 x17.fst.2 x17.fst.3] w16 fun (v19 : Value) (w20 : World) =>
 ∃ (t21 : Bool),
 v19 = Value.bool t21 ∧
 IfB (!t21) (([] : List Nat) = [] ∧ y18 true w20)
 (CX Try.prog (32 : Nat) #[Value.slice t0.1 t0.2 t0.3] w20 fun (v22 : Value) (w23 : World) =>
 ∃ (t24 : Bool),
 v22 = Value.bool t24 ∧
 IfB (!t24 == x17.2) (([] : List Nat) = [] ∧ y18 true w23)
 (CX Try.prog (33 : Nat) #[Value.slice t0.1 t0.2 t0.3] w23 fun (v25 : Value) (w26 : World) =>
 ∃ (t27 : Bool),
 v25 = Value.bool t27 ∧
 CX Try.prog (34 : Nat) #[Value.slice t0.1 t0.2 t0.3] w26 fun (v28 : Value) (w29 : World) => ∃ (t30 : Bool), v28 = Value.bool t30 ∧ ([] : List Nat) = [] ∧ y18 (!t27 == t30) w29))) ∧
 ∀ (t31 : Bool) (w32 : World) (y33 : Nat → Value),
 y18 t31 w32 →
 (F9j2 t0 R t31 w32))
def F9 (t0 : Sl) (w : World) (R : Value → World → Prop) : Prop :=
 CX Try.prog (20 : Nat) #[] w fun (v1 : Value) (w2 : World) =>
 ∃ (t3 : Bool),
 v1 = Value.bool t3 ∧
 IfB (!t3) (R (Value.bool false) w2)
 (∃ (y4 : Bool → World → Prop),
 (CX Try.prog (11 : Nat) #[Value.slice t0.1 t0.2 t0.3] w2 fun (v5 : Value) (w6 : World) =>
 ∃ (t7 : Bool), v5 = Value.bool t7 ∧ IfB t7 (([] : List Nat) = [] ∧ y4 true w6) (([] : List Nat) = [] ∧ y4 (decide ((20 : Int) < (t0.n : Int))) w6)) ∧
 ∀ (t8 : Bool) (w9 : World) (y10 : Nat → Value),
 y4 t8 w9 →
 (F9j1 t0 R t8 w9))
theorem F9_ok (t0 : Sl) (w : World) (R : Value → World → Prop) (h : F9 t0 w R) : CW Try.prog 9 #[Value.slice t0.1 t0.2 t0.3] w R :=
  call_of tbOk mixed en9 Try.func9 rfl (.node (.nil) (.node (.nil) (.node (.join [(16, .one (.bool))] [10, 11, 12, 13, 14, 15, 16] (.nil) (.nil)) (.node (.nil) (.node (.nil) (.node (.join [(48, .one (.bool))] [27, 28, 29, 30, 31, 32, 33, 34, 35, 36, 37, 38, 39, 40, 41, 42, 43, 44, 45, 46, 47, 48] (.nil) (.nil)) (.nil))))))) (by kernel_rfl) (Nat.le_of_ble_eq_true (by kernel_rfl)) (Eq.mp (α := F9 t0 w R) (by kernel_rfl) h)
end Go.Proofs.Ytmmhbjbaallkfaa.Gx

/- Package gimmallaw29: SerialAhead. -/
namespace Go.Proofs.Ytmmhbjbaallkfaa.Gx
open Go
set_option linter.unusedSimpArgs false
set_option linter.unusedVariables false
theorem rep_ndR {A : Nat → Prop} {w : World} {x : tyNd.den} {cs : List Value} (h : rep A w tyNd x cs) : ∃ n : Nd, cs = nL n ∧ NdIn w n ∧ (-9223372036854775808 ≤ n.v.1 ∧ n.v.1 ≤ 9223372036854775807) := by
  obtain ⟨c1, d1, rfl, ⟨rfl, k1, k2⟩, c2, d2, rfl, ⟨rfl, _⟩, c3, d3, rfl, ⟨rfl, _⟩, c4, d4, rfl, h4, c5, d5, rfl, h5, h6⟩ := h
  obtain ⟨s, xs, rfl, hxs, _⟩ := rep_spans h5
  obtain ⟨t, ys, rfl, hys, _⟩ := rep_spans h6
  have h4 : c4 = [.bool x.2.2.2.1] := h4
  subst h4
  exact ⟨⟨(x.1, x.2.1, x.2.2.1, x.2.2.2.1, s, t), xs, ys⟩, rfl, ⟨hxs, hys⟩, k1, k2⟩
theorem rep_histR {A : Nat → Prop} {w : World} {l : List tyNd.den} {cs : List Value} (h : rep A w (.sl tyNd) l cs) : ∃ (t : Sl) (hs : List Nd), cs = [slV t] ∧ HIn w t hs ∧ SgR hs := by
  obtain ⟨s, rfl, h1, h2, h3, h4, css, h5, h6, h7⟩ := h
  obtain ⟨ns, hns, hq⟩ := pickAll (f := nL) (Q := fun n => NdIn w n ∧ (-9223372036854775808 ≤ n.v.1 ∧ n.v.1 ≤ 9223372036854775807)) fun c hc => by
    obtain ⟨x, hx⟩ := rep_each h5 h6 c hc
    exact rep_ndR hx
  have hlen : ns.length = l.length := by rw [← h5, hns, List.length_map]
  refine ⟨s, ns, rfl, ⟨?_, fun n hn => (hq n hn).1, h2, by omega⟩, fun n hn => (hq n hn).2⟩
  rw [List.flatMap_def, ← hns]; exact h7
end Go.Proofs.Ytmmhbjbaallkfaa.Gx

/- Written by mkf.py: what is to be shown of functions, as Gx reckons it from their code. -/
namespace Go.Proofs.Ytmmhbjbaallkfaa.Gx
open Go
set_option linter.unusedVariables false
set_option maxRecDepth 100000
def F31j4 (s3 : Sl) (s6 : Sl) (b7 : Nat) (x19 : Int × Int) (y26 : Nat → Bool × Int → World → Prop) (b28 : Nat) (x29 : Bool × Int) (y33 : Nat → Bool × Int → World → Prop) (b35 : Nat) (x36 : Bool × Int) (w37 : World) : Prop :=
 IfB (decide (x36.snd < (s3.n : Int)))
 (IfB x36.1
 (∃ (b40 : Nat),
 ∃ (b41 : Nat),
 s6.1 = some ({ block := b40, off := b41 } : Addr) ∧
 ((0 : Int) ≤ x29.2 ∧ x29.2 < (s6.2 : Int)) ∧
 ((0 : Int) ≤ (1 : Int) ∧ (1 : Int) < ((2 : Nat) : Int)) ∧
 ∃ (n42 : Int),
 w37.drew.cell? ({ block := b40, off := b41 + x29.2.toNat * (2 : Nat) + Int.toNat (1 : Int) } : Addr) = some (Value.int IntKind.i64 n42) ∧
 ∃ (b43 : Nat),
 ∃ (b44 : Nat),
 s3.1 = some ({ block := b43, off := b44 } : Addr) ∧
 ((0 : Int) ≤ x19.2 ∧ x19.2 < (s3.2 : Int)) ∧
 ∃ (n45 : Int),
 w37.drew.cell? ({ block := b43, off := b44 + x19.2.toNat } : Addr) = some (Value.int IntKind.i64 n45) ∧
 IfB (n42 == n45)
 (∃ (b46 : Nat),
 ∃ (b47 : Nat),
 s6.1 = some ({ block := b46, off := b47 } : Addr) ∧
 ((0 : Int) ≤ x29.2 ∧ x29.2 < (s6.2 : Int)) ∧
 ((0 : Int) ≤ (0 : Int) ∧ (0 : Int) < ((2 : Nat) : Int)) ∧
 ∃ (n48 : Int),
 w37.drew.cell? ({ block := b46, off := b47 + x29.2.toNat * (2 : Nat) + Int.toNat (0 : Int) } : Addr) = some (Value.int IntKind.i64 n48) ∧
 ∃ (b49 : Nat),
 ∃ (b50 : Nat),
 s3.1 = some ({ block := b49, off := b50 } : Addr) ∧
 ((0 : Int) ≤ x36.2 ∧ x36.2 < (s3.2 : Int)) ∧
 ∃ (n51 : Int),
 w37.drew.cell? ({ block := b49, off := b50 + x36.2.toNat } : Addr) = some (Value.int IntKind.i64 n51) ∧
 IfB (n48 == n51)
 (∃ (b52 : Nat),
 ∃ (b53 : Nat),
 some ({ block := b7, off := (0 : Nat) } : Addr) = some ({ block := b52, off := b53 } : Addr) ∧
 ((0 : Int) ≤ x36.2 ∧ x36.2 < ((((s3.2 : Int)).toNat : Nat) : Int)) ∧
 ∃ (t54 : Bool), w37.drew.cell? ({ block := b52, off := b53 + x36.2.toNat } : Addr) = some (Value.bool t54) ∧ ([] : List Nat) = [] ∧ ∃ (b55 : Nat), b55 < b35 ∧ y33 b55 (!!t54, IntKind.i64.wrap (x36.2 + (1 : Int))) w37.drew)
 (([] : List Nat) = [] ∧ ∃ (b56 : Nat), b56 < b35 ∧ y33 b56 (!false, IntKind.i64.wrap (x36.2 + (1 : Int))) w37.drew))
 (([] : List Nat) = [] ∧ ∃ (b57 : Nat), b57 < b35 ∧ y33 b57 (!false, IntKind.i64.wrap (x36.2 + (1 : Int))) w37.drew))
 (([] : List Nat) = [] ∧ ∃ (b58 : Nat), b58 < b35 ∧ y33 b58 (false, IntKind.i64.wrap (x36.2 + (1 : Int))) w37.drew))
 (([] : List Nat) = [] ∧ ∃ (b59 : Nat), b59 < b28 ∧ y26 b59 (x36.1, IntKind.i64.wrap (x29.2 + (1 : Int))) w37)
def F31j3 (s3 : Sl) (s6 : Sl) (b7 : Nat) (y16 : Nat → Int × Int → World → Prop) (b18 : Nat) (x19 : Int × Int) (y26 : Nat → Bool × Int → World → Prop) (b28 : Nat) (x29 : Bool × Int) (w30 : World) : Prop :=
 IfB (decide (x29.snd < (s6.n : Int)))
 (∃ (y33 : Nat → Bool × Int → World → Prop),
 (∃ (b34 : Nat), y33 b34 (x29.1, (0 : Int)) w30) ∧
 ∀ (b35 : Nat) (x36 : Bool × Int) (w37 : World) (y38 : Nat → Value),
 y33 b35 x36 w37 →
 (F31j4 s3 s6 b7 x19 y26 b28 x29 y33 b35 x36 w37))
 (IfB x29.1 (([] : List Nat) = [] ∧ ∃ (b60 : Nat), b60 < b18 ∧ y16 b60 (x19.2, IntKind.i64.wrap (x19.2 + (1 : Int))) w30)
 (([] : List Nat) = [] ∧ ∃ (b61 : Nat), b61 < b18 ∧ y16 b61 (x19.1, IntKind.i64.wrap (x19.2 + (1 : Int))) w30))
def F31k1 (x19 : Int × Int) (R : Value → World → Prop) (w20 : World) (b7 : Nat) (s3 : Sl) (s12 : Sl) (b11 : Nat) (y9 : Nat → Sl → World → Prop) : Prop :=
 IfB (decide (x19.fst < (0 : Int))) (R (Value.tuple #[Value.slice none (0 : Nat) (0 : Nat), Value.bool false]) w20)
 (∃ (b74 : Nat),
 ∃ (b75 : Nat),
 some ({ block := b7, off := (0 : Nat) } : Addr) = some ({ block := b74, off := b75 } : Addr) ∧
 ((0 : Int) ≤ x19.1 ∧ x19.1 < ((((s3.2 : Int)).toNat : Nat) : Int)) ∧
 #[Value.bool true].size = (1 : Nat) ∧
 StoreP w20 b74 (b75 + x19.1.toNat) [Value.bool true] fun (w76 : World) =>
 ∃ (b77 : Nat),
 ∃ (b78 : Nat),
 s3.1 = some ({ block := b77, off := b78 } : Addr) ∧
 ((0 : Int) ≤ x19.1 ∧ x19.1 < (s3.2 : Int)) ∧
 ∃ (n79 : Int),
 w76.cell? ({ block := b77, off := b78 + x19.1.toNat } : Addr) = some (Value.int IntKind.i64 n79) ∧
 (1 : Nat) * (1 : Nat) ≤ (16777216 : Nat) ∧
 AllocP w76 (Obj.cells #[Value.int IntKind.i64 n79] (3 : Nat)) fun (b80 : Nat) (w81 : World) =>
 ∃ (l82 : List Value),
 ReadC w81 (some ({ block := b80, off := (0 : Nat) } : Addr)) ((1 : Nat) * (1 : Nat)) l82 ∧
 AppendP tt3 (3 : Nat) w81 s12.1 s12.2 s12.3 (1 : Nat) l82
 fun (s83 : Sl) (w84 : World) => ([] : List Nat) = [] ∧ ∃ (b85 : Nat), b85 < b11 ∧ y9 b85 { p := s83.1, n := s83.2, c := s83.3 } w84)
def F31j2 (R : Value → World → Prop) (s3 : Sl) (s6 : Sl) (b7 : Nat) (y9 : Nat → Sl → World → Prop) (b11 : Nat) (s12 : Sl) (y16 : Nat → Int × Int → World → Prop) (b18 : Nat) (x19 : Int × Int) (w20 : World) : Prop :=
 IfB (decide (x19.snd < (s3.n : Int)))
 (IfB (decide (x19.fst < (0 : Int)))
 (∃ (b23 : Nat),
 ∃ (b24 : Nat),
 some ({ block := b7, off := (0 : Nat) } : Addr) = some ({ block := b23, off := b24 } : Addr) ∧
 ((0 : Int) ≤ x19.2 ∧ x19.2 < ((((s3.2 : Int)).toNat : Nat) : Int)) ∧
 ∃ (t25 : Bool),
 w20.cell? ({ block := b23, off := b24 + x19.2.toNat } : Addr) = some (Value.bool t25) ∧
 ∃ (y26 : Nat → Bool × Int → World → Prop),
 (∃ (b27 : Nat), y26 b27 (!t25, (0 : Int)) w20) ∧
 ∀ (b28 : Nat) (x29 : Bool × Int) (w30 : World) (y31 : Nat → Value),
 y26 b28 x29 w30 →
 (F31j3 s3 s6 b7 y16 b18 x19 y26 b28 x29 w30))
 (F31k1 x19 R w20 b7 s3 s12 b11 y9))
 (F31k1 x19 R w20 b7 s3 s12 b11 y9)
def F31 (t0 : Sl) (w : World) (R : Value → World → Prop) : Prop :=
 CX Try.prog (23 : Nat) #[Value.slice t0.1 t0.2 t0.3] w fun (v1 : Value) (w2 : World) =>
 ∃ (s3 : Sl),
 v1 = Value.slice s3.1 s3.2 s3.3 ∧
 CX Try.prog (22 : Nat) #[Value.slice t0.1 t0.2 t0.3] w2 fun (v4 : Value) (w5 : World) =>
 ∃ (s6 : Sl),
 v4 = Value.slice s6.1 s6.2 s6.3 ∧
 ((0 : Int) ≤ (s3.2 : Int) ∧ (s3.2 : Int) ≤ (s3.2 : Int) ∧ (s3.2 : Int) ≤ (281474976710656 : Int) ∧ ((1 : Nat) : Int) * (s3.2 : Int) ≤ (281474976710656 : Int)) ∧
 AllocP w5 (Obj.cells { toList := zc #[Value.bool false] ((s3.2 : Int)).toNat } (4 : Nat)) fun (b7 : Nat) (w8 : World) =>
 ∃ (y9 : Nat → Sl → World → Prop),
 (∃ (b10 : Nat), y9 b10 { p := none, n := (0 : Nat), c := (0 : Nat) } w8) ∧
 ∀ (b11 : Nat) (s12 : Sl) (w13 : World) (y14 : Nat → Value),
 y9 b11 s12 w13 →
 IfB (decide ((s12.n : Int) < (s3.n : Int)))
 (∃ (y16 : Nat → Int × Int → World → Prop),
 (∃ (b17 : Nat), y16 b17 ((-1 : Int), (0 : Int)) w13) ∧
 ∀ (b18 : Nat) (x19 : Int × Int) (w20 : World) (y21 : Nat → Value),
 y16 b18 x19 w20 →
 (F31j2 R s3 s6 b7 y9 b11 s12 y16 b18 x19 w20))
 (R (Value.tuple #[Value.slice s12.1 s12.2 s12.3, Value.bool true]) w13)
theorem F31_ok (t0 : Sl) (w : World) (R : Value → World → Prop) (h : F31 t0 w R) : CW Try.prog 31 #[Value.slice t0.1 t0.2 t0.3] w R :=
  call_of tbOk mixed en31 Try.func31 rfl (.node (.nil) (.node (.nil) (.node (.nil) (.node (.nil) (.node (.loop [(7, .one (.sl))] [20, 21, 22, 23, 24, 8, 9, 25, 26, 27, 28, 29, 30, 31, 32, 35, 36, 37, 38, 39, 10, 11, 40, 41, 42, 43, 12, 46, 47, 48, 49, 52, 53, 54, 55, 56, 57, 58, 59, 60, 61, 62, 63, 64, 65, 66, 67, 68, 69, 70, 71, 72, 73, 74, 75, 76, 77, 78, 79, 80, 81, 82, 83, 84, 50, 51, 44, 45, 85, 86, 33, 34, 87, 88, 2, 3, 89, 90, 91, 92, 93, 94, 95, 96, 97, 98, 7] (.node (.nil) (.node (.nil) (.node (.node (.nil) (.loop [(8, .one (.int .i64)), (9, .one (.int .i64))] [25, 26, 27, 28, 29, 30, 31, 32, 35, 36, 37, 38, 39, 10, 11, 40, 41, 42, 43, 12, 46, 47, 48, 49, 52, 53, 54, 55, 56, 57, 58, 59, 60, 61, 62, 63, 64, 65, 66, 67, 68, 69, 70, 71, 72, 73, 74, 75, 76, 77, 78, 79, 80, 81, 82, 83, 84, 50, 51, 44, 45, 85, 86, 8, 33, 34, 9] (.node (.nil) (.node (.node (.nil) (.node (.node (.nil) (.loop [(10, .one (.bool)), (11, .one (.int .i64))] [40, 41, 42, 43, 12, 46, 47, 48, 49, 52, 53, 54, 55, 56, 57, 58, 59, 60, 61, 62, 63, 64, 65, 66, 67, 68, 69, 70, 71, 72, 73, 74, 75, 76, 77, 78, 79, 80, 81, 82, 83, 84, 10, 50, 51, 44, 45, 11] (.node (.nil) (.node (.node (.nil) (.loop [(10, .one (.bool)), (12, .one (.int .i64))] [46, 47, 48, 49, 52, 53, 54, 55, 56, 57, 58, 59, 60, 61, 62, 63, 64, 65, 66, 67, 68, 69, 70, 71, 72, 73, 74, 75, 76, 77, 78, 79, 80, 81, 82, 83, 84, 10, 50, 51, 12] (.node (.nil) (.node (.draw (.st 0 (.st 1 (.st 2 (.st 3 (.st 4 (.st 5 (.st 6 (.st 7 (.st 8 (.st 9 (.st 10 (.st 11 (.st 12 (.st 13 (.st 14 (.st 15 (.st 16 (.st 17 (.st 18 (.st 19 (.st 20 (.st 21 (.st 22 (.st 23 (.st 24 (.st 25 (.st 26 (.st 27 (.st 28 (.st 29 (.st 30 (.st 31 (.st 32 (.st 33 (.fin)))))))))))))))))))))))))))))))))))) (.nil))))) (.nil))))) (.nil))) (.nil))))) (.nil))))) (.nil)))))) (by kernel_rfl) (Nat.le_of_ble_eq_true (by kernel_rfl)) (Eq.mp (α := F31 t0 w R) (by kernel_rfl) h)
end Go.Proofs.Ytmmhbjbaallkfaa.Gx

/- Package serial: Put; the document's Put; two histories compared. -/
namespace Go.Proofs.Ytmmhbjbaallkfaa.Gx
open Go
set_option linter.unusedSimpArgs false
set_option linter.unusedVariables false
def putL (hs : List Nd) : List Int → List Int → List Nd
  | _, [] => []
  | seen, s :: r => (if s ∈ seen then [] else ownL hs s) ++ putL hs (seen ++ [s]) r
theorem putL_add (hs : List Nd) : ∀ (a seen : List Int) (s : Int), putL hs seen (a ++ [s]) = putL hs seen a ++ if s ∈ seen ++ a then [] else ownL hs s
  | [], seen, s => by simp [putL]
  | x :: a, seen, s => by
    simp only [List.cons_append, putL, putL_add hs a (seen ++ [x]) s, List.append_assoc, List.nil_append]
theorem putL_len {hs : List Nd} (hl : hs.length ≤ 1000) : ∀ (a seen : List Int), (putL hs seen a).length ≤ a.length * 1000
  | [], seen => by simp [putL]
  | x :: a, seen => by
    have h1 := putL_len hl a (seen ++ [x])
    have h2 := ownL_len hs x
    rw [putL, List.length_append, List.length_cons]
    split
    · rw [List.length_nil]; omega
    · omega
theorem NdF.move {F : Nat → Prop} {w w' : World} {m m' : Nat} {bs bs' : List Nat} {n : Nd} (h : NdF w m bs n) (hc : Ch F w w') (hF : ∀ j, m ≤ j → j < w.heap.size → j ∉ bs → ¬ F j ∧ m' ≤ j ∧ j ∉ bs') : NdF w' m' bs' n :=
  ⟨h.rs.ch hc fun j hj => (hF j (h.rn j hj).1 (h.rs.lt j hj) (h.rn j hj).2).1, h.ws.ch hc fun j hj => (hF j (h.wn j hj).1 (h.ws.lt j hj) (h.wn j hj).2).1, fun j hj => (hF j (h.rn j hj).1 (h.rs.lt j hj) (h.rn j hj).2).2, fun j hj => (hF j (h.wn j hj).1 (h.ws.lt j hj) (h.wn j hj).2).2⟩
theorem c28 {w : World} {t u : Sl} {hs : List Nd} {ord : List Int} (hH : HsK w t hs) (hl : hs.length ≤ 1000) (ho : Rd w u 1 (ord.map iv)) (hol : ord.length ≤ 1000) (hcap : u.n ≤ u.c) :
    CW Try.prog 28 #[slV t, slV u] w fun v w' => ∃ t' ns, v = slV t' ∧ ns.map dOf = (putL hs [] ord).map dOf ∧ OwN w' w.heap.size t' ns ∧ Ext w w' := by
  have hun := rdI ho
  refine F28_ok t u w _ ⟨fun m x W => ∃ (i : Nat) (so : Sl) (ds : List Nd), i ≤ ord.length ∧ m + i = ord.length ∧ x = (so, (i : Int)) ∧ ds.map dOf = (putL hs [] (ord.take i)).map dOf ∧ OwN W w.heap.size so ds ∧ Ext w W, ⟨ord.length, 0, ⟨none, 0, 0⟩, [], Nat.zero_le _, rfl, rfl, rfl, ⟨.nil _ _, by simp, by simp [blk]⟩, Ch.refl _ _⟩, ?_⟩
  rintro m _ W g ⟨i, so, ds, hi, hmi, rfl, hds, hO, hE⟩
  have hdl : ds.length ≤ i * 1000 := by
    have h1 := congrArg List.length hds
    have h2 := putL_len hl (ord.take i) []
    rw [List.length_map, List.length_map] at h1
    rw [List.length_take, Nat.min_eq_left hi] at h2
    omega
  have hon := owsN nL_len (by omega) hO.own
  unfold F28j1
  refine IfB.dec (fun hlt => ?_) fun hge => ?_
  · have hi' : i < ord.length := by dsimp only at hlt; omega
    have hx : ord[i]? = some ord[i] := List.getElem?_eq_getElem hi'
    have htk := take_succ_get hx
    generalize ord[i] = s at hx htk
    obtain ⟨a, o, hp, hc⟩ := rdI_get (ho.ext hE) hx
    refine ⟨a, o, hp, (⟨by omega, by omega⟩ : (0 : Int) ≤ (i : Int) ∧ (i : Int) < (u.n : Int)), s, by dsimp only; rw [Int.toNat_natCast]; exact hc, (⟨by omega, by omega⟩ : (0 : Int) ≤ (i : Int) ∧ (i : Int) ≤ (u.c : Int)), ?_⟩
    show CX _ _ #[slV ⟨slAddr u.p u.c 0 1, ((i : Int)).toNat, u.c⟩, iv s] _ _
    rw [slAddr_zero, Int.toNat_natCast]
    have hcut := (ho.ext hE).cut (k := i) (by omega)
    rw [Nat.mul_one, ← List.map_take] at hcut
    refine (c39 hcut (by rw [List.length_take]; omega) s).use ?_
    rintro _ _ ⟨rfl, rfl⟩
    refine ⟨_, rfl, IfB.intro (fun h => ?_) fun h => ?_⟩
    · have hns' : s ∉ ord.take i := by simpa using h
      refine (c48 (hH.ext hE) s).use ?_
      rintro _ w15 ⟨s16, ns, rfl, hns, hN, e15⟩
      have hsn := owsN nL_len (by omega) hN.own
      have hnl : ns.length ≤ 1000 := by
        have h1 := congrArg List.length hns
        rw [List.length_map, List.length_map] at h1
        have h2 := ownL_len hs s
        omega
      refine ⟨s16, rfl, ns.flatMap nL, hN.own.readAll, (hO.own.ext e15).append rfl rfl (by rw [flatLen nL_len, hsn]) (flatOne nL_one _) ⟨by omega, ?_⟩ fun s18 w19 ho18 hn18 hC18 hbk _ => ⟨rfl, m - 1, by omega, i + 1, s18, ds ++ ns, hi', by omega, by rw [wrap_of (by omega) (by omega)]; rfl, ?_, ⟨?_, fun n hn => ?_, fun j hj => ?_⟩, ?_⟩⟩
      · show 2 * (so.n + s16.n) * 80 ≤ _
        omega
      · rw [htk, putL_add, List.map_append, List.map_append, hds, hns, List.nil_append, if_neg hns']
      · rw [List.flatMap_append]; exact ho18
      · have z15 := e15.size
        have hbl := hO.own.lt
        rcases List.mem_append.1 hn with h' | h'
        · exact ((hO.ok n h').ext e15).move hC18 fun j h1 h2 h3 => ⟨h3, h1, fun h4 => (hbk j h4).elim h3 fun h5 => by omega⟩
        · refine (hN.ok n h').move hC18 fun j h1 h2 h3 => ⟨fun h4 => by have := hbl j h4; omega, ?_, fun h4 => (hbk j h4).elim (fun h5 => by have := hbl j h5; omega) fun h5 => by omega⟩
          have := hE.size; omega
      · have := hE.size; have := e15.size
        rcases hbk j hj with h | h
        · exact hO.new j h
        · omega
      · exact (hE.trans e15).chN hC18 hO.new
    · have hns' : s ∈ ord.take i := by simpa using h
      refine ⟨rfl, m - 1, by omega, i + 1, so, ds, hi', by omega, by rw [wrap_of (by omega) (by omega)]; rfl, ?_, hO, hE⟩
      rw [htk, putL_add, List.nil_append, if_pos hns', List.append_nil, hds]
  · have hi' : i = ord.length := by dsimp only at hge; omega
    subst hi'
    rw [List.take_length] at hds
    exact ⟨so, ds, rfl, hds, hO, hE⟩
end Go.Proofs.Ytmmhbjbaallkfaa.Gx

/- The document's order of sagas. -/
namespace Go.Proofs.Ytmmhbjbaallkfaa.Gx
open Go
set_option linter.unusedSimpArgs false
set_option linter.unusedVariables false
/-- What isn't told. -/
def leftOf : List Int → List Bool → List Int
  | x :: s, t :: ts => if t then leftOf s ts else x :: leftOf s ts
  | _, _ => []
theorem left_mem {y : Int} : ∀ {s : List Int} {ts : List Bool}, y ∈ leftOf s ts ↔ ∃ j : Nat, s[j]? = some y ∧ ts[j]? = some false
  | [], ts => by simp [leftOf]
  | x :: s, [] => by simp [leftOf]
  | x :: s, t :: ts => by
    have ih := left_mem (y := y) (s := s) (ts := ts)
    unfold leftOf
    constructor
    · intro h
      cases t
      · simp only [Bool.false_eq_true, if_false, List.mem_cons] at h
        rcases h with rfl | h
        · exact ⟨0, rfl, rfl⟩
        · obtain ⟨j, h1, h2⟩ := ih.1 h; exact ⟨j + 1, h1, h2⟩
      · simp only [if_true] at h
        obtain ⟨j, h1, h2⟩ := ih.1 h; exact ⟨j + 1, h1, h2⟩
    · rintro ⟨j, h1, h2⟩
      cases j with
      | zero =>
        have h2 : t = false := Option.some.inj h2
        have h1 : x = y := Option.some.inj h1
        subst h2; subst h1; simp
      | succ j =>
        have := ih.2 ⟨j, h1, h2⟩
        split
        · exact this
        · exact List.mem_cons_of_mem _ this
theorem left_all : ∀ s : List Int, leftOf s (List.replicate s.length false) = s
  | [] => rfl
  | x :: s => by rw [List.length_cons, List.replicate_succ, leftOf, left_all s]; simp
/-- The first one that is ready. -/
theorem left_first {f : Int → Bool} : ∀ {s : List Int} {ts : List Bool} {j : Nat} {x : Int}, s[j]? = some x → ts[j]? = some false → f x = true → (∀ j', j' < j → ∀ x', s[j']? = some x' → ts[j']? = some false → f x' = false) →
    ∃ i, (leftOf s ts).findIdx? f = some i ∧ (leftOf s ts).getD i 0 = x ∧ (leftOf s ts).eraseIdx i = leftOf s (ts.set j true)
  | [], ts, j, x, h, _, _, _ => by simp at h
  | y :: s, [], j, x, _, h, _, _ => by simp at h
  | y :: s, t :: ts, 0, x, h1, h2, h3, _ => by
    have h2 : t = false := Option.some.inj h2
    have h1 : y = x := Option.some.inj h1
    subst h2; subst h1
    exact ⟨0, by simp [leftOf, List.findIdx?_cons, h3], rfl, by simp [leftOf]⟩
  | y :: s, t :: ts, j + 1, x, h1, h2, h3, h4 => by
    obtain ⟨i, i1, i2, i3⟩ := left_first (s := s) (ts := ts) (j := j) h1 h2 h3 fun j' hj x' a b => h4 (j' + 1) (by omega) x' a b
    cases t with
    | true => exact ⟨i, by simpa [leftOf] using i1, by simpa [leftOf] using i2, by simpa [leftOf] using i3⟩
    | false =>
      have hy := h4 0 (by omega) y rfl rfl
      refine ⟨i + 1, ?_, ?_, ?_⟩
      · simp [leftOf, List.findIdx?_cons, hy, i1]
      · simpa [leftOf] using i2
      · simp [leftOf, i3]
theorem left_none {f : Int → Bool} {s : List Int} {ts : List Bool} (h : ∀ (j : Nat) x, s[j]? = some x → ts[j]? = some false → f x = false) : (leftOf s ts).findIdx? f = none := by
  rw [List.findIdx?_eq_none_iff]
  intro x hx
  obtain ⟨j, h1, h2⟩ := left_mem.1 hx
  exact h j x h1 h2
theorem setB {l : List Bool} {i : Nat} {b : Bool} (hi : i < l.length) : (l.map Value.bool).take i ++ [Value.bool b] ++ (l.map Value.bool).drop (i + 1) = (l.set i b).map Value.bool := by
  rw [List.map_set, List.set_eq_take_append_cons_drop, if_pos (by rw [List.length_map]; exact hi)]; simp
theorem c31 {w : World} {t : Sl} {hs : List Nd} (hH : Hst w t hs) (hl : hs.length ≤ 1000) (hq : SgR hs) :
    CW Try.prog 31 #[slV t] w fun v w' => ∃ t', ∃ l : List Int, ∃ ah : List (Int × Int), SgL hs l ∧ l.length ≤ hs.length ∧ (∀ p, p ∈ ah ↔ AhP hs p) ∧ v = .tuple #[slV t', .bool (ordGo ah l.length l []).2] ∧ OwS w' t' 1 ((ordGo ah l.length l []).1.map iv) ∧ Ext w w' ∧ ∀ j ∈ blk t', w.heap.size ≤ j := by
  refine F31_ok t w _ ((c23 hH).use ?_)
  rintro _ w2 ⟨s3, l, rfl, hSg, hll, ho3, e2, hb3⟩
  refine ⟨s3, rfl, (c22 (hH.ext e2) hl hq).use ?_⟩
  rintro _ w5 ⟨s6, ah, rfl, _, hah, hal, ho6, e5, hb6⟩
  have hln := owsI ho3
  have han := owsN sv_len (by omega) ho6
  refine ⟨s6, rfl, ⟨by omega, by omega, by omega, by omega⟩, fun b7 w8 a8 => ?_⟩
  rw [Int.toNat_natCast, zc_all (v := Value.bool false) (by intro x hx; simpa using hx), hln] at a8
  obtain ⟨st, hst⟩ : ∃ st : Sl, st = ⟨some ⟨b7, 0, none⟩, l.length, l.length⟩ := ⟨_, rfl⟩
  have z2 := e2.size; have z5 := e5.size; have p8 := a8.here; have z8 := a8.size
  have hbs : blk st = [b7] := by rw [hst]; rfl
  have x8 : Ext w w8 := (e2.trans e5).trans (a8.ch _)
  have y8 : Ext w5 w8 := a8.ch _
  have hT0 : OwS w8 st 1 ((List.replicate l.length false).map Value.bool) := by
    rw [hst]
    refine OwS.new (w := w5) (T := 4) (cs := (List.replicate l.length false).map Value.bool) ?_ (by simp)
    have : (List.replicate l.length false).map Value.bool = List.replicate (l.length * #[Value.bool false].size) (Value.bool false) := by rw [List.map_replicate]; simp
    rw [this]; exact a8
  refine ⟨fun m so W => ∃ (told : List Bool) (out : List Int), m + out.length = l.length ∧ out.length + (leftOf l told).length = l.length ∧ told.length = l.length ∧ OwS W so 1 (out.map iv) ∧ OwS W st 1 (told.map Value.bool) ∧ ordGo ah (leftOf l told).length (leftOf l told) out = ordGo ah l.length l [] ∧ Ext w W ∧ (Ext w5 W ∧ w8.heap.size ≤ W.heap.size) ∧ ∀ j ∈ blk so, w8.heap.size ≤ j,
    ⟨l.length, List.replicate l.length false, [], rfl, by rw [left_all]; simp, by simp, .nil _ _, hT0, by rw [left_all], x8, ⟨y8, Nat.le_refl _⟩, by simp [blk]⟩, ?_⟩
  rintro m so W g ⟨told, out, hm, hlen, htl, hO, hT, hgo, hE, ⟨hE5, hz⟩, hb⟩
  have hon := owsI hO
  refine IfB.dec (fun hlt => ?_) fun hge => ?_
  · have hlo : out.length < l.length := by omega
    obtain ⟨lf, hlf⟩ : ∃ lf, lf = leftOf l told := ⟨_, rfl⟩
    rw [← hlf] at hlen hgo
    obtain ⟨n', hn'⟩ : ∃ n', lf.length = n' + 1 := ⟨lf.length - 1, by omega⟩
    let NR : Nat → Prop := fun j => ∀ x, l[j]? = some x → told[j]? = some false → freeB ah lf x = false
    let RD : Nat → Prop := fun j => ∃ x, l[j]? = some x ∧ told[j]? = some false ∧ freeB ah lf x = true
    refine ⟨fun q x W' => ∃ i : Nat, i ≤ l.length ∧ q + i = l.length ∧ ((x = ((-1 : Int), (i : Int)) ∧ ∀ j, j < i → NR j) ∨ ∃ j : Nat, x = ((j : Int), (i : Int)) ∧ RD j ∧ ∀ j', j' < j → NR j') ∧ Ext W W', ⟨l.length, 0, Nat.zero_le _, rfl, .inl ⟨rfl, fun j hj => by omega⟩, Ch.refl _ _⟩, ?_⟩
    rintro q x w20 g ⟨i, hi, hqi, hst2, e20⟩
    -- the end of a round
    have fin : ∀ j : Nat, RD j → (∀ j', j' < j → NR j') → x = ((j : Int), (i : Int)) → F31k1 x (fun v w' => ∃ t', ∃ l : List Int, ∃ ah : List (Int × Int), SgL hs l ∧ l.length ≤ hs.length ∧ (∀ p, p ∈ ah ↔ AhP hs p) ∧ v = .tuple #[slV t', .bool (ordGo ah l.length l []).2] ∧ OwS w' t' 1 ((ordGo ah l.length l []).1.map iv) ∧ Ext w w' ∧ ∀ j ∈ blk t', w.heap.size ≤ j) w20 b7 s3 so m (fun m so W => ∃ (told : List Bool) (out : List Int), m + out.length = l.length ∧ out.length + (leftOf l told).length = l.length ∧ told.length = l.length ∧ OwS W so 1 (out.map iv) ∧ OwS W st 1 (told.map Value.bool) ∧ ordGo ah (leftOf l told).length (leftOf l told) out = ordGo ah l.length l [] ∧ Ext w W ∧ (Ext w5 W ∧ w8.heap.size ≤ W.heap.size) ∧ ∀ j ∈ blk so, w8.heap.size ≤ j) := by
      rintro j ⟨y, hy, hty, hfy⟩ hno rfl
      obtain ⟨ix, ix1, ix2, ix3⟩ := left_first hy hty hfy hno
      rw [← hlf] at ix1 ix2 ix3
      have hjl : j < l.length := (List.getElem?_eq_some_iff.1 hy).1
      refine IfB.no (by simp) ⟨b7, 0, rfl, ⟨by dsimp only; omega, by dsimp only; omega⟩, rfl, ?_⟩
      dsimp only
      rw [Int.toNat_natCast, Nat.zero_add]
      have hst1 : st.n = l.length := by rw [hst]
      refine (hT.ext e20).store (vs := [Value.bool true]) (by rw [hst]) (by simp; omega) (by intro v hv; rw [List.mem_singleton.1 hv]; rfl) fun w76 hT76 hC76 => ?_
      rw [show [Value.bool true].length = 1 from rfl, setB (by omega)] at hT76
      have z20 := e20.size
      have k5 : Ext w5 w76 := (hE5.trans e20).chN hC76 fun j e => by omega
      have k0 : Ext w w76 := (hE.trans e20).chN hC76 fun j e => by omega
      obtain ⟨a, ha, hc⟩ := owsI_get ((ho3.ext e5).ext k5) hy
      refine ⟨a, 0, ha, ⟨by omega, by omega⟩, y, hc, by decide, fun b80 w81 a81 => ?_⟩
      have hO76 : OwS w76 so 1 (out.map iv) := (hO.ext e20).ch hC76 fun i hi e => by have := hb i hi; omega
      refine (hO76.ext (a81.ch _)).lit (new := [iv y]) (T' := 3) a81.new rfl (oneIv _) rfl rfl (by omega) (by decide) fun s' w' ho' hn2 hC' hbk => ⟨rfl, m - 1, by omega, told.set j true, out ++ [y], by simp; omega, ?_, by simp [htl], ?_, ?_, ?_, ?_, ⟨?_, ?_⟩, fun i hi => ?_⟩
      · rw [← ix3, List.length_append, List.length_singleton, List.length_eraseIdx, if_pos (List.findIdx?_eq_some_iff_getElem.1 ix1).1]; omega
      · rw [List.map_append]; exact ho'
      · exact (hT76.ext (a81.ch _)).ch hC' fun i hi e => by rw [hbs] at hi; have := hb i e; simp at hi; omega
      · rw [← hgo, ← ix3, hn', List.length_eraseIdx, if_pos (List.findIdx?_eq_some_iff_getElem.1 ix1).1, hn']
        show ordGo ah n' _ _ = ordGo ah (n' + 1) lf out
        rw [ordGo, ix1]
        simp only [ix2]
      · exact (k0.trans (a81.ch _)).chN hC' fun i hi => by have := hb i hi; omega
      · exact (k5.trans (a81.ch _)).chN hC' fun i hi => by have := hb i hi; omega
      · have := hC'.size; have := a81.size; have := hC76.size; omega
      · rcases hbk i hi with h | h
        · exact hb i h
        · have := a81.size; have := hC76.size; omega
    unfold F31j2
    rcases hst2 with ⟨rfl, hno⟩ | ⟨j, hx, hrd, hno⟩
    · refine IfB.dec (fun hlt2 => IfB.yes (by simp) ?_) fun hge2 => ?_
      · have hi' : i < l.length := by dsimp only at hlt2; omega
        have hx : l[i]? = some l[i] := List.getElem?_eq_getElem hi'
        have htx : told[i]? = some (told[i]'(by omega)) := List.getElem?_eq_getElem (by omega)
        generalize l[i] = s at hx
        generalize told[i]'_ = ti at htx
        obtain ⟨a1, ha1, hc1⟩ := (hT.ext e20).elem1 (i := i) (v := .bool ti) (by rw [List.getElem?_map, htx]; rfl)
        have hab : a1 = b7 := by rw [hst] at ha1; cases ha1; rfl
        subst hab
        refine ⟨a1, 0, rfl, ⟨by dsimp only; omega, by dsimp only; omega⟩, ti, by dsimp only; rw [Int.toNat_natCast, Nat.zero_add]; exact hc1, ?_⟩
        refine ⟨fun q x W' => ∃ (k : Nat) (r : Bool), k ≤ ah.length ∧ q + k = ah.length ∧ x = (r, (k : Int)) ∧ (r = true ↔ ti = false ∧ ∀ p ∈ ah.take k, waitB lf s p = false) ∧ Ext W W', ⟨ah.length, 0, !ti, Nat.zero_le _, rfl, rfl, by simp, e20⟩, ?_⟩
        rintro q2 _ w30 g ⟨k, r, hk, hqk, rfl, hr, e30⟩
        unfold F31j3
        refine IfB.dec (fun hlt3 => ?_) fun hge3 => ?_
        · have hk' : k < ah.length := by dsimp only at hlt3; omega
          have hp : ah[k]? = some ah[k] := List.getElem?_eq_getElem hk'
          have htk := take_succ_get hp
          generalize ah[k] = p at hp htk
          refine ⟨fun q x W' => ∃ (m' : Nat) (r' : Bool), m' ≤ l.length ∧ q + m' = l.length ∧ x = (r', (m' : Int)) ∧ (r' = true ↔ r = true ∧ ∀ m'', m'' < m' → ¬ (p.2 = s ∧ l[m'']? = some p.1 ∧ told[m'']? = some false)) ∧ Ext W W', ⟨l.length, 0, r, Nat.zero_le _, rfl, rfl, by simp, e30⟩, ?_⟩
          rintro q3 _ w37 g ⟨m', r', hm', hqm, rfl, hr', e37⟩
          unfold F31j4
          have w1 : IntKind.i64.wrap ((m' : Int) + 1) = ((m' + 1 : Nat) : Int) := by rw [wrap_of (by omega) (by omega)]; rfl
          refine IfB.dec (fun hlt4 => ?_) fun hge4 => ?_
          · have hm4 : m' < l.length := by dsimp only at hlt4; omega
            have ed := e37.trans (extDrew w37)
            refine IfB.intro (fun hrt => ?_) fun hrf => ⟨rfl, q3 - 1, by omega, m' + 1, false, hm4, by omega, by rw [w1], ⟨fun h => (by cases h), fun h => ?_⟩, ed⟩
            · have hrt : r' = true := hrt
              subst hrt
              obtain ⟨h1, h2⟩ := hr'.1 rfl
              have hm'x : l[m']? = some l[m'] := List.getElem?_eq_getElem hm4
              have htm : told[m']? = some (told[m']'(by omega)) := List.getElem?_eq_getElem (by omega)
              generalize l[m'] = y at hm'x
              generalize told[m']'_ = ty at htm
              obtain ⟨b1, hp1, hcp⟩ := (ho6.ext (hE5.trans ed)).elem (i := k) (by omega) (flatGet sv_len hp)
              obtain ⟨b2, hp2, hc2⟩ := owsI_get ((ho3.ext e5).ext (hE5.trans ed)) hx
              obtain ⟨b3, hp3, hc3⟩ := owsI_get ((ho3.ext e5).ext (hE5.trans ed)) hm'x
              obtain ⟨b4, hp4, hc4⟩ := (hT.ext ed).elem1 (i := m') (v := .bool ty) (by rw [List.getElem?_map, htm]; rfl)
              have hab : b4 = a1 := by rw [hst] at hp4; cases hp4; rfl
              subst hab
              have step : ∀ (b : Bool), (b = true ↔ ¬ (p.2 = s ∧ y = p.1 ∧ ty = false)) → (b = true ↔ r = true ∧ ∀ m'', m'' < m' + 1 → ¬ (p.2 = s ∧ l[m'']? = some p.1 ∧ told[m'']? = some false)) := by
                intro b hb
                rw [hb]
                constructor
                · intro h
                  refine ⟨h1, fun m'' hm'' => ?_⟩
                  rcases Nat.lt_or_ge m'' m' with h3 | h3
                  · exact h2 m'' h3
                  · have : m'' = m' := by omega
                    subst this
                    rw [hm'x, htm, Option.some.injEq, Option.some.injEq]; exact h
                · rintro ⟨_, h3⟩
                  have := h3 m' (by omega)
                  rw [hm'x, htm, Option.some.injEq, Option.some.injEq] at this; exact this
              have bk : (0 : Int) ≤ (k : Int) ∧ (k : Int) < (s6.n : Int) := ⟨by omega, by omega⟩
              refine ⟨b1, 0, hp1, bk, ⟨by decide, by decide⟩, p.2, by dsimp only; rw [Int.toNat_natCast, Nat.zero_add]; exact hcp 1 _ rfl, b2, 0, hp2, ⟨by dsimp only; omega, by dsimp only; omega⟩, s, by dsimp only; rw [Int.toNat_natCast]; exact hc2, IfB.intro (fun h5 => ?_) fun h5 => ⟨rfl, q3 - 1, by omega, m' + 1, true, hm4, by omega, by rw [w1]; rfl, step true ⟨fun _ h => ?_, fun _ => rfl⟩, ed⟩⟩
              · have h5 : p.2 = s := by simpa using h5
                refine ⟨b1, 0, hp1, bk, ⟨by decide, by decide⟩, p.1, by dsimp only; rw [Int.toNat_natCast, Nat.zero_add]; exact hcp 0 _ rfl, b3, 0, hp3, ⟨by dsimp only; omega, by dsimp only; omega⟩, y, by dsimp only; rw [Int.toNat_natCast]; exact hc3, IfB.intro (fun h6 => ?_) fun h6 => ⟨rfl, q3 - 1, by omega, m' + 1, true, hm4, by omega, by rw [w1]; rfl, step true ⟨fun _ h => ?_, fun _ => rfl⟩, ed⟩⟩
                · have h6 : p.1 = y := by simpa using h6
                  refine ⟨b4, 0, rfl, ⟨by dsimp only; omega, by dsimp only; omega⟩, ty, by dsimp only; rw [Int.toNat_natCast, Nat.zero_add]; exact hc4, rfl, q3 - 1, by omega, m' + 1, ty, hm4, by omega, by rw [w1, Bool.not_not], step ty ?_, ed⟩
                  cases ty <;> simp [h5, h6]
                · have h6 : p.1 ≠ y := by simpa using h6
                  exact h6 h.2.1.symm
              · have h5 : p.2 ≠ s := by simpa using h5
                exact h5 h.1
            · have hrf : r' = false := hrf
              have : r' = true := hr'.2 ⟨h.1, fun m'' hm'' => h.2 m'' (by omega)⟩
              rw [hrf] at this; cases this
          · have hm4 : m' = l.length := by dsimp only at hge4; omega
            refine ⟨rfl, q2 - 1, by omega, k + 1, r', hk', by omega, by rw [wrap_of (by dsimp only; omega) (by dsimp only; omega)]; rfl, ?_, e37⟩
            rw [hr', hr, htk]
            have hw : waitB lf s p = false ↔ ∀ m'', m'' < m' → ¬ (p.2 = s ∧ l[m'']? = some p.1 ∧ told[m'']? = some false) := by
              rw [Bool.eq_false_iff]
              unfold waitB
              simp only [ne_eq, Bool.and_eq_true, beq_iff_eq, decide_eq_true_eq]
              rw [hlf, left_mem]
              constructor
              · intro h m'' hm'' h'
                exact h ⟨h'.1, m'', h'.2⟩
              · rintro h ⟨h1, m'', h2, h3⟩
                exact h m'' (by have := (List.getElem?_eq_some_iff.1 h2).1; omega) ⟨h1, h2, h3⟩
            rw [← hw]
            constructor
            · rintro ⟨⟨h1, h2⟩, h3⟩
              refine ⟨h1, fun p' hp' => ?_⟩
              rcases List.mem_append.1 hp' with h4 | h4
              · exact h2 p' h4
              · rw [List.mem_singleton.1 h4]; exact h3
            · rintro ⟨h1, h2⟩
              exact ⟨⟨h1, fun p' hp' => h2 p' (List.mem_append_left _ hp')⟩, h2 p (by simp)⟩
        · have hk' : k = ah.length := by dsimp only at hge3; omega
          subst hk'
          rw [List.take_length] at hr
          have hfr : freeB ah lf s = true ↔ ∀ p ∈ ah, waitB lf s p = false := by
            unfold freeB; simp
          have w1 : IntKind.i64.wrap ((i : Int) + 1) = ((i + 1 : Nat) : Int) := by rw [wrap_of (by omega) (by omega)]; rfl
          refine IfB.intro (fun h => ?_) fun h => ?_
          · have h : r = true := h
            obtain ⟨h1, h2⟩ := hr.1 h
            refine ⟨rfl, q - 1, by omega, i + 1, hi', by omega, .inr ⟨i, by dsimp only; rw [w1], ⟨s, hx, by rw [htx, h1], hfr.2 h2⟩, hno⟩, e30⟩
          · have h : r = false := h
            refine ⟨rfl, q - 1, by omega, i + 1, hi', by omega, .inl ⟨by dsimp only; rw [w1], fun j hj => ?_⟩, e30⟩
            rcases Nat.lt_or_ge j i with h3 | h3
            · exact hno j h3
            · have : j = i := by omega
              subst this
              intro x hx' ht'
              rw [hx] at hx'; cases hx'
              rw [htx] at ht'; cases ht'
              cases hf : freeB ah lf s
              · rfl
              · rw [hr.2 ⟨rfl, hfr.1 hf⟩] at h; cases h
      · have hi' : i = l.length := by dsimp only at hge2; omega
        have hgone : ordGo ah l.length l [] = ([], false) := by
          have hno' : lf.findIdx? (freeB ah lf) = none := by
            rw [hlf]
            refine left_none fun j x hx ht => ?_
            rw [← hlf]
            exact hno j (by have := (List.getElem?_eq_some_iff.1 hx).1; omega) x hx ht
          rw [← hgo, hn', ordGo, hno']
        refine IfB.yes (by simp) ⟨⟨none, 0, 0⟩, l, ah, hSg, hll, hah, by rw [hgone], ?_, hE.trans e20, by simp [blk]⟩
        rw [hgone]; exact .nil _ _
    · refine IfB.dec (fun hlt2 => IfB.no (by rw [hx]; simp) ?_) fun hge2 => ?_
      · exact fin j hrd hno hx
      · exact fin j hrd hno hx
  · have hlo : out.length = l.length := by omega
    have h0 : leftOf l told = [] := List.eq_nil_of_length_eq_zero (by omega)
    rw [h0] at hgo
    have hgo : ordGo ah l.length l [] = (out, true) := hgo.symm
    refine ⟨so, l, ah, hSg, hll, hah, by rw [hgo], ?_, hE, fun j hj => by have := hb j hj; have := x8.size; omega⟩
    rw [hgo]; exact hO
end Go.Proofs.Ytmmhbjbaallkfaa.Gx

/- Arguments whose slices, nested ones too, have no more bytes than there may be. -/
namespace Go.Proofs.Ytmmhbjbaallkfaa.Gx
open Go
set_option linter.unusedSimpArgs false
set_option linter.unusedVariables false
section
variable {H : Type} {enc : TypeId × Value → H} {P : Program} {w : World} {base : Nat} {sp : Nat → Bool} {held : Bool}
end
end Go.Proofs.Ytmmhbjbaallkfaa.Gx

/- Package gimmallaw29: SerialPuts, SerialOrders. -/
namespace Go.Proofs.Ytmmhbjbaallkfaa.Gx
open Go
set_option linter.unusedSimpArgs false
set_option linter.unusedVariables false
theorem freeB_congr {ah ah' : List (Int × Int)} (h : ∀ p, p ∈ ah ↔ p ∈ ah') (left : List Int) : freeB ah left = freeB ah' left := by
  funext s
  unfold freeB
  congr 1
  rw [Bool.eq_iff_iff, List.any_eq_true, List.any_eq_true]
  exact ⟨fun ⟨p, a, b⟩ => ⟨p, (h p).1 a, b⟩, fun ⟨p, a, b⟩ => ⟨p, (h p).2 a, b⟩⟩
theorem ordGo_congr {ah ah' : List (Int × Int)} (h : ∀ p, p ∈ ah ↔ p ∈ ah') : ∀ (n : Nat) (left out : List Int), ordGo ah n left out = ordGo ah' n left out
  | 0, _, _ => rfl
  | n + 1, left, out => by
    rw [ordGo, ordGo, freeB_congr h left]
    split
    · rfl
    · exact ordGo_congr h n _ _
theorem ordGo_len {ah : List (Int × Int)} : ∀ (n : Nat) (left out : List Int), (ordGo ah n left out).1.length ≤ out.length + n
  | 0, _, _ => Nat.le_refl _
  | n + 1, left, out => by
    rw [ordGo]
    split
    · simp
    · have := ordGo_len (ah := ah) n (left.eraseIdx ‹_›) (out ++ [left.getD ‹_› 0])
      simp only [List.length_append, List.length_singleton] at this
      omega
theorem putL_nodup (hs : List Nd) : ∀ (l seen : List Int), l.Nodup → (∀ s ∈ l, s ∉ seen) → putL hs seen l = l.flatMap (ownL hs)
  | [], _, _, _ => rfl
  | s :: l, seen, hn, hs' => by
    rw [List.nodup_cons] at hn
    rw [putL, if_neg (hs' s (by simp)), List.flatMap_cons, putL_nodup hs l (seen ++ [s]) hn.2 fun x hx h => by
      rcases List.mem_append.1 h with h | h
      · exact hs' x (List.mem_cons_of_mem _ hx) h
      · rw [List.mem_singleton.1 h] at hx; exact hn.1 hx]
theorem flat_len (hs : List Nd) : ∀ l : List Int, l.Nodup → (l.flatMap (ownL hs)).length = (hs.filter fun n => decide (n.v.1 ∈ l)).length
  | [], _ => by rw [List.filter_eq_nil_iff.2 (by simp)]; rfl
  | s :: l, hn => by
    rw [List.nodup_cons] at hn
    rw [List.flatMap_cons, List.length_append, flat_len hs l hn.2]
    clear flat_len
    induction hs with
    | nil => rfl
    | cons n hs ih =>
      unfold ownL at ih ⊢
      simp only [List.filter_cons]
      by_cases h1 : n.v.1 = s
      · have h2 : n.v.1 ∉ l := by rw [h1]; exact hn.1
        simp [h1, hn.1]; simp at ih; omega
      · by_cases h2 : n.v.1 ∈ l
        · simp [h1, h2]; simp at ih; omega
        · simp [h1, h2]; simp at ih; omega
theorem own_v {hs : List Nd} {s : Int} {n : Nd} (h : n ∈ ownL hs s) : n.v.1 = s := by have := (List.mem_filter.1 h).2; simpa using this
theorem flat_whole (hs : List Nd) : ∀ l : List Int, l.Nodup → ∀ (k m j : Nat) (a b c : Nd), k < m → m < j → (l.flatMap (ownL hs))[k]? = some a → (l.flatMap (ownL hs))[m]? = some b → (l.flatMap (ownL hs))[j]? = some c → a.v.1 = c.v.1 → b.v.1 = c.v.1
  | [], _, _, _, _, _, _, _, _, _, h, _, _, _ => by simp at h
  | s :: l, hn, k, m, j, a, b, c, hkm, hmj, ha, hb, hc, he => by
    rw [List.nodup_cons] at hn
    rw [List.flatMap_cons] at ha hb hc
    have rest : ∀ {i : Nat} {x : Nd}, (ownL hs s ++ l.flatMap (ownL hs))[i]? = some x → (ownL hs s).length ≤ i → (l.flatMap (ownL hs))[i - (ownL hs s).length]? = some x ∧ x.v.1 ∈ l := fun {i x} hx hi => by
      rw [List.getElem?_append_right hi] at hx
      refine ⟨hx, ?_⟩
      obtain ⟨s', h1, h2⟩ := List.mem_flatMap.1 (List.mem_of_getElem? hx)
      rw [own_v h2]; exact h1
    have fst : ∀ {i : Nat} {x : Nd}, (ownL hs s ++ l.flatMap (ownL hs))[i]? = some x → i < (ownL hs s).length → x.v.1 = s := fun {i x} hx hi => by
      rw [List.getElem?_append_left hi] at hx
      exact own_v (List.mem_of_getElem? hx)
    rcases Nat.lt_or_ge j (ownL hs s).length with h1 | h1
    · rw [fst hb (by omega), fst hc h1]
    · obtain ⟨hc', hcl⟩ := rest hc h1
      rcases Nat.lt_or_ge k (ownL hs s).length with h2 | h2
      · rw [fst ha h2] at he
        rw [← he] at hcl; exact absurd hcl hn.1
      · exact flat_whole hs l hn.2 (k - (ownL hs s).length) (m - (ownL hs s).length) (j - (ownL hs s).length) a b c (by omega) (by omega) (rest ha h2).1 (rest hb (by omega)).1 hc' he
theorem SgL.nodup {hs : List Nd} {l : List Int} (h : SgL hs l) : l.Nodup := h.srt.imp fun h e => by omega
theorem serialOrders (w : World) {l : List tyNd.den} {c0 : Value} (h0 : rep (fun _ => True) w (.sl tyNd) l [c0]) : CW Try.prog 9 #[c0] w fun v w' => v = .bool true ∧ Ext w w' := by
  obtain ⟨t, hs, e0, hH, hq⟩ := rep_histR h0
  simp only [List.cons.injEq, and_true] at e0
  subst e0
  refine F9_ok t w _ ((c20 w).use ?_)
  rintro _ w2 ⟨rfl, e2⟩
  have h2 := hH.ext e2
  have hn := hH.n
  refine ⟨true, rfl, IfB.no rfl ⟨fun r W => w2 = W ∧ (r = false → ¬ GrtP hs ∧ hs.length ≤ 20), (c11 h2.rd (fun n hn => (h2.nd n hn).rn) (Nat.le_trans hH.len maxLen_le)).use ?_, ?_⟩⟩
  · rintro _ _ ⟨r, rfl, hr, rfl⟩
    refine ⟨r, rfl, IfB.intro (fun h => ⟨rfl, rfl, fun h => (by cases h)⟩) fun h => ⟨rfl, rfl, fun h' => ⟨fun hg => (by rw [hr.2 hg] at h; cases h), ?_⟩⟩⟩
    have := of_decide_eq_false h'
    omega
  rintro r _ g ⟨rfl, hr⟩
  unfold F9j1
  refine IfB.intro (fun h => ⟨rfl, e2⟩) fun h => ?_
  obtain ⟨hg, hl20⟩ := hr h
  have hS := h2.hst hg
  refine (c30 hS (by omega) hq).use ?_
  rintro _ w13 ⟨s14, l1, ah, hl1, hll1, hah, rfl, hO14, e13, _⟩
  refine ⟨(s14, (ordGo ah l1.length l1 []).2), rfl, (c31 (hS.ext e13) (by omega) hq).use ?_⟩
  rintro _ w16 ⟨s17, l2, ah2, hl2, hll2, hah2, rfl, hO17, e16, _⟩
  have hle := hl2.uniq hl1
  subst hle
  have hgo := ordGo_congr (fun p => (hah2 p).trans (hah p).symm) l2.length l2 []
  rw [hgo] at hO17 ⊢
  generalize hG : ordGo ah l2.length l2 [] = G at hO14 hO17 ⊢
  have hGl : G.1.length ≤ 1000000 := by have := ordGo_len (ah := ah) l2.length l2 []; rw [hG] at this; simp at this; omega
  refine ⟨(s17, G.2), rfl, fun r W => Ext w2 W ∧ r = false, IfB.no (by simp) ?_, ?_⟩
  · refine (c25 (hO14.ext e16).rd hO17.rd hGl).use ?_
    rintro _ w20 ⟨rfl, e20⟩
    have E20 := (e13.trans e16).trans e20
    refine ⟨_, rfl, IfB.no (by simp) ((c32 (hS.ext E20) (by omega) hq).use ?_)⟩
    rintro _ w23 ⟨l3, ah3, hl3, hah3, rfl, e23⟩
    have hle := hl3.uniq hl1
    subst hle
    have hgo3 := ordGo_congr (fun p => (hah3 p).trans (hah p).symm) l3.length l3 []
    refine ⟨_, rfl, IfB.no (by rw [hgo3, hG]; simp) ((c33 (hS.ext (E20.trans e23))).use ?_)⟩
    rintro _ w26 ⟨r1, rfl, hr1, e26⟩
    refine ⟨r1, rfl, (c34 (hS.ext ((E20.trans e23).trans e26))).use ?_⟩
    rintro _ w29 ⟨r2, rfl, hr2, e29⟩
    have : r1 = r2 := Bool.eq_iff_iff.2 (hr1.trans hr2.symm)
    subst this
    exact ⟨r1, rfl, rfl, ((E20.trans e23).trans e26).trans e29, by simp⟩
  rintro _ w32 g ⟨E32, rfl⟩
  refine IfB.no rfl ((c23 (hS.ext E32)).use ?_)
  rintro _ w36 ⟨s37, l4, rfl, hl4, hll4, hO37, e36, _⟩
  have hle := hl4.uniq hl1
  subst hle
  have E36 := E32.trans e36
  refine ⟨s37, rfl, (c28 (hS.ext E36).k (by omega) hO37.rd (by omega) hO37.cap).use ?_⟩
  rintro _ w39 ⟨s40, ns, rfl, hns, hN, e39⟩
  have hnd := hl4.nodup
  rw [putL_nodup hs l4 [] hnd (by simp)] at hns
  have hnl : ns.length = hs.length := by
    have h1 := congrArg List.length hns
    rw [List.length_map, List.length_map, flat_len hs l4 hnd] at h1
    rw [h1, List.filter_eq_self.2]
    intro n hn
    exact decide_eq_true ((hl4.mem _).2 ⟨n, hn, rfl⟩)
  have hsn := owsN nL_len (by omega) hN.own
  have hget : ∀ {i : Nat} {n : Nd}, ns[i]? = some n → ∃ n', (l4.flatMap (ownL hs))[i]? = some n' ∧ dOf n = dOf n' := fun {i n} hx => by
    have h3 : (ns.map dOf)[i]? = some (dOf n) := by rw [List.getElem?_map, hx]; rfl
    rw [hns, List.getElem?_map, Option.map_eq_some_iff] at h3
    obtain ⟨n', h4, h5⟩ := h3
    exact ⟨n', h4, h5.symm⟩
  have hHs : Hst w39 s40 ns := by
    refine ⟨hN.own.rd, fun n hn => ?_, by omega, hN.own.cap⟩
    obtain ⟨i, hi, rfl⟩ := List.getElem_of_mem hn
    obtain ⟨n', h4, h5⟩ := hget (List.getElem?_eq_getElem hi)
    obtain ⟨s', h6, h7⟩ := List.mem_flatMap.1 (List.mem_of_getElem? h4)
    have h8 := hS.ok n' (List.mem_filter.1 h7).1
    simp only [dOf, Prod.mk.injEq] at h5
    obtain ⟨_, _, _, _, h9, h10⟩ := h5
    exact ⟨(hN.ok _ hn).rs.rd, (hN.ok _ hn).ws.rd, by rw [h9]; exact h8.rl, by rw [h10]; exact h8.wl⟩
  refine ⟨s40, rfl, (c33 hHs).use ?_⟩
  rintro _ w42 ⟨r3, rfl, hr3, e42⟩
  have hw : WhP ns := fun k m j a b c h1 h2 h3 ha hb hc he => by
    obtain ⟨a', ha', ea⟩ := hget ha
    obtain ⟨b', hb', eb⟩ := hget hb
    obtain ⟨c', hc', ec⟩ := hget hc
    have va : a.v.1 = a'.v.1 := show (dOf a).1 = (dOf a').1 by rw [ea]
    have vb : b.v.1 = b'.v.1 := show (dOf b).1 = (dOf b').1 by rw [eb]
    have vc : c.v.1 = c'.v.1 := show (dOf c).1 = (dOf c').1 by rw [ec]
    rw [vb, vc]
    exact flat_whole hs l4 hnd k m j a' b' c' h1 h2 ha' hb' hc' (by rw [← va, ← vc]; exact he)
  have : r3 = true := hr3.2 hw
  subst this
  refine ⟨true, rfl, IfB.yes rfl ⟨?_, ((e2.trans E36).trans e39).trans e42⟩⟩
  rw [hsn, hnl, hn]; simp
end Go.Proofs.Ytmmhbjbaallkfaa.Gx

/- gimmallaw29.SerialOrders returns true for all arguments, and leaves what was there as it was. No condition beyond the statement. -/
namespace Go.Proofs.Ytmmhbjbaallkfaa.serialOrders
open Go.ChangeShapes Go.WideShapes Go.ChangeAt Go.RowKit
open Go.ChangeMaps (open_string shut_string)
set_option linter.unusedVariables false
theorem own : ownKnob Try.prog.godebug = none := by kernel_rfl
set_option maxRecDepth 100000 in
theorem lifted (os : Os) (started : os.Started) (H : Type) (enc : TypeId × Value → H) :
    ReturnsInHanded {} Try.checked os 9 .any (Rows.serialOrdersSpec.pre6 enc Try.prog Try.f9 Rows.serialOrdersRow.domain false) (Rows.serialOrdersSpec.post enc Try.prog Try.f9 false true false false) := by
  refine returnsInHanded_of_change (C := Try.checked) own started (by kernel_rfl) Try.func9
    (ChangeSpec.witness6 (enc := enc) (C := Try.checked) false ⟨#[], #[.slice none 0 0], []⟩ 8 (by kernel_rfl) (by kernel_rfl) (by kernel_rfl) (by kernel_rfl)) ?_
  intro W base args ds gs before hval0 hW hcnd _
  have hval : ∀ (j : Nat) t v, Try.f9.params[j]? = some t → args[j]? = some v → Value.okWide Try.prog W .any base t v := hval0
  have hW' := hW
  have hlt := hW.lt
  obtain ⟨p, q, hA0, hV, rfl, hfz, hnd⟩ := hW
  have hA : DataW.TrodAll enc Try.prog W 0 (fun _ => true) true Try.f9.params.toList args.toList ds p := hA0
  have hpar : Try.f9.params = #[22] := rfl
  rw [hpar] at hA hval
  obtain ⟨v0, vs0, d0, ds0, p0, q0, hargs, rfl, rfl, h0, r0⟩ := trodAll_cons hA
  obtain ⟨rfl, rfl, rfl⟩ := trodAll_nil r0
  obtain rfl : args = #[v0] := by cases args; simp_all
  obtain ⟨rfl, rfl⟩ := trodVars_none hV
  clear hA0 hval0
  obtain ⟨x0, e0⟩ := Gx.open_arg (d := 12) (ty := (.sl (.pair (.int .i64) (.pair (.int .i64) (.pair (.int .i64) (.pair .bool (.pair (.sl (.pair (.int .i64) (.int .i64))) (.sl (.pair (.int .i64) (.int .i64)))))))))) (by kernel_rfl) h0
  obtain ⟨c0, g0⟩ : ∃ c, v0.cells.toList = [c] := List.length_eq_one_iff.1 (Gx.rep_len e0)
  have f0 : v0 = c0 := Gx.val_of_cells (hval 0 22 v0 rfl rfl) (fun fs n e => by rw [Try.underlying22]; exact ⟨by simp, by simp⟩) g0
  rw [g0] at e0
  have call : Calls Try.prog 9 #[v0] W fun e w' => e = .returned (.bool true) ∧ Below W.heap.size W w' := by
    rw [f0]
    refine (Gx.serialOrders W e0).calls.mono ?_
    rintro e w' ⟨v, rfl, rfl, hx⟩
    exact ⟨rfl, hx.below⟩
  refine call.mono fun e W' ⟨he, hg⟩ => ?_
  subst he
  have b0 : ∀ sp : Nat → Bool, (∀ x ∈ p0, sp x.block = true) → DataW.Trod enc Try.prog W' 0 sp true 22 v0 d0 p0 := fun sp hsp => Gx.trod_keep (by kernel_rfl) (by kernel_rfl) (by decide +kernel) h0 hg (fun x hx => hlt x (by simp [hx])) hsp
  exact ⟨_, rfl, Gx.post_of_below (pa := (p0 ++ [])) (pv := []) hW' hg (fun _ _ _ => (trodAll_cons_mk (shut_bool Try.underlying4 _) trodAll_mk0)) (fun sp hsp => by rw [hpar]; exact (trodAll_cons_mk (b0 sp fun x hx => hsp x (by simp [hx])) trodAll_mk0)) (fun _ _ => rfl) (by simp)
    (ok_one (by kernel_rfl) rfl (okWide_bool_mk Try.underlying4 _))⟩
theorem over : Rows.serialOrdersRow.holds Try.pinned (OpenSpec.ofChange Rows.serialOrdersSpec) :=
  OpenClaim.holds_of_wide 9 Try.f9 rfl rfl rfl rfl rfl rfl rfl ⟨rfl, rfl, rfl, rfl, rfl⟩ rfl rfl rfl rfl rfl (by kernel_rfl) Try.func9 (by kernel_rfl)
    (of_decide_eq_true (by kernel_rfl)) (by unfold Func.isWrapper; first | (rw [if_pos (by decide +kernel)]; kernel_rfl) | (rw [if_neg (by decide +kernel)]; exact ⟨rfl, rfl⟩))
    (fun os started H enc _ => lifted os started H enc)
/-- The statement. -/
theorem proved : Rows.SerialOrdersSaid :=
  over
#print axioms proved
end Go.Proofs.Ytmmhbjbaallkfaa.serialOrders
