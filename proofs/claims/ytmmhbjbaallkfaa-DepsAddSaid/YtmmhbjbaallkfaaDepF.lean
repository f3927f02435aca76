/- Package gimmallaw15: what its statements ask first; lists against the document's relation. -/
import Derived.Test.YtmmhbjbaallkfaaDepE
namespace Go.Proofs.Ytmmhbjbaallkfaa.Gx
open Go
set_option linter.unusedSimpArgs false
set_option linter.unusedVariables false

/-- More than statements look at. -/
def GrtP (hs : List Nd) : Prop := (∃ n ∈ hs, 40 < n.rs.length ∨ 40 < n.ws.length) ∨ 40 < hs.length

theorem c11 {w : World} {t : Sl} {hs : List Nd} (hr : Rd w t 6 (hs.flatMap nL)) (hn : ∀ n ∈ hs, n.v.2.2.2.2.1.n = n.rs.length ∧ n.v.2.2.2.2.2.n = n.ws.length) (hl : hs.length ≤ 9223372036854775807) :
    CW Try.prog 11 #[slV t] w fun v w' => ∃ r, v = .bool r ∧ (r = true ↔ GrtP hs) ∧ w = w' := by
  have htn := rdN nL_len (by omega) hr
  refine F11_ok t w _ ⟨fun m x W => ∃ i : Nat, i ≤ hs.length ∧ m + i = hs.length ∧ x = (i : Int) ∧ w = W ∧ ∀ n ∈ hs.take i, ¬ (40 < n.rs.length ∨ 40 < n.ws.length), ⟨hs.length, 0, Nat.zero_le _, rfl, rfl, rfl, by simp⟩, ?_⟩
  rintro m _ _ g ⟨i, hi, hmi, rfl, rfl, hno⟩
  unfold F11j1
  refine IfB.dec (fun hlt => ?_) fun hge => ?_
  · have hi' : i < hs.length := by omega
    have hx : hs[i]? = some hs[i] := List.getElem?_eq_getElem hi'
    have htk := take_succ_get hx
    generalize hs[i] = x at hx htk
    have hxm := List.mem_of_getElem? hx
    obtain ⟨hnr, hnw⟩ := hn x hxm
    obtain ⟨b, o, hp, hc⟩ := hr.elem (i := i) (by omega) (by omega) (flatGet nL_len hx)
    have hb : (0 : Int) ≤ (i : Int) ∧ (i : Int) < (t.n : Int) := ⟨by omega, by omega⟩
    refine ⟨b, o, hp, hb, x.v.2.2.2.2.1, by rw [Int.toNat_natCast]; exact hc 4 _ rfl, IfB.dec (fun h => ⟨true, rfl, ⟨fun _ => .inl ⟨x, hxm, .inl (by omega)⟩, fun _ => rfl⟩, rfl⟩) fun h1 => ⟨b, o, hp, hb, x.v.2.2.2.2.2, by rw [Int.toNat_natCast]; exact hc 5 _ rfl, IfB.dec (fun h => ⟨true, rfl, ⟨fun _ => .inl ⟨x, hxm, .inr (by omega)⟩, fun _ => rfl⟩, rfl⟩) fun h2 => ⟨rfl, m - 1, by omega, i + 1, hi', by omega, by rw [wrap_of (by omega) (by omega)]; rfl, rfl, fun n hn' => ?_⟩⟩⟩
    rw [htk] at hn'
    rcases List.mem_append.1 hn' with h | h
    · exact hno n h
    · rw [List.mem_singleton.1 h]; omega
  · have hi' : i = hs.length := by omega
    subst hi'
    rw [List.take_length] at hno
    refine ⟨_, rfl, ?_, rfl⟩
    rw [decide_eq_true_eq]
    unfold GrtP
    constructor
    · exact fun h => .inr (by omega)
    · rintro (⟨n, hn, h⟩ | h)
      · exact absurd h (hno n hn)
      · omega

/-- Lists that are the relation's are told the same. -/
theorem c14 {w : World} {tl td : Sl} {rows : List RwL} {mr : List MxR} {hs : List Nd} {m0 : Nat} (hL : Rws w tl rows) (hrl : rows.length = hs.length) (hrow : ∀ i x, rows[i]? = some x → RowOf hs i x.2) (hM : Mx w m0 td mr) (hsq : Sqr hs.length mr) (hg : ∀ i k, gM mr i k = true ↔ Dp hs i k) (hl : hs.length ≤ 1000) :
    CW Try.prog 14 #[slV tl, slV td] w fun v w' => v = .bool true ∧ w = w' := by
  have htn := hL.n
  have hdn := hM.n
  have hml := hsq.1
  refine F14_ok tl td w _ (IfB.no (by simp; omega) ⟨fun m x W => ∃ i : Nat, i ≤ hs.length ∧ m + i = hs.length ∧ x = (i : Int) ∧ w = W, ⟨hs.length, 0, Nat.zero_le _, rfl, rfl, rfl⟩, ?_⟩)
  rintro m _ _ g ⟨i, hi, hmi, rfl, rfl⟩
  refine IfB.dec (fun hlt => ?_) fun hge => ⟨rfl, rfl⟩
  have hi' : i < hs.length := by omega
  have hx : rows[i]? = some (rows[i]'(by omega)) := List.getElem?_eq_getElem (by omega)
  generalize rows[i]'_ = row at hx
  obtain ⟨⟨bl, ol, hpl, hcl⟩, hrr, hrn⟩ := hL.at hx
  have hR := hrow i row hx
  obtain ⟨r, hr, hrlen, hrm⟩ := hsq.at hi'
  obtain ⟨bd, hpd, hcd⟩ := hM.slot hr
  have hrn' := hM.rn hrm
  have hRl := hR.len
  have hbl : (0 : Int) ≤ (i : Int) ∧ (i : Int) < (tl.n : Int) := ⟨by omega, by omega⟩
  have hbd : (0 : Int) ≤ (i : Int) ∧ (i : Int) < (td.n : Int) := ⟨by omega, by omega⟩
  refine ⟨fun q x W => ∃ (k : Nat) (A B : List Int), k ≤ hs.length ∧ q + k = hs.length ∧ x = ((A.length : Int), (k : Int)) ∧ row.2 = A ++ B ∧ (∀ a ∈ A, a < (k : Int)) ∧ (∀ b ∈ B, (k : Int) ≤ b) ∧ w = W, ⟨hs.length, 0, [], row.2, Nat.zero_le _, rfl, rfl, rfl, by simp, fun b hb => ?_, rfl⟩, ?_⟩
  · obtain ⟨k', rfl, _⟩ := (hR.mem b).1 hb
    omega
  rintro q _ _ g ⟨k, A, B, hk, hqk, rfl, hAB, hA, hB, rfl⟩
  have hABl : row.2.length = A.length + B.length := by rw [hAB, List.length_append]
  unfold F14j2
  refine IfB.dec (fun hlt2 => ?_) fun hge2 => ?_
  · have hk' : k < hs.length := by dsimp only at hlt2; omega
    obtain ⟨bc, hpc, hcc⟩ := hM.cell hrm (gM_get hr (k := k) (by omega))
    have w1 : IntKind.i64.wrap ((k : Int) + 1) = ((k + 1 : Nat) : Int) := by rw [wrap_of (by omega) (by omega)]; rfl
    have hmem : gM mr i k = true ↔ (k : Int) ∈ row.2 := by
      rw [hg, hR.mem]
      exact ⟨fun h => ⟨k, rfl, h⟩, fun ⟨k', e, h⟩ => by have : k' = k := by omega
                                                        subst this; exact h⟩
    refine ⟨bd, 0, hpd, hbd, r.1, by rw [Int.toNat_natCast, Nat.zero_add]; exact hcd, bc, 0, hpc, (⟨by omega, by omega⟩ : (0 : Int) ≤ (k : Int) ∧ (k : Int) < (r.1.n : Int)), gM mr i k, by dsimp only; rw [Int.toNat_natCast, Nat.zero_add]; exact hcc, IfB.intro (fun h => ?_) fun h => ?_⟩
    · have hnk : (k : Int) ∉ row.2 := fun h' => by rw [hmem.2 h'] at h; cases h
      refine ⟨rfl, q - 1, by omega, k + 1, A, B, hk', by omega, by rw [w1], hAB, fun a ha => by have := hA a ha; omega, fun b hb => ?_, rfl⟩
      have := hB b hb
      have : b ≠ (k : Int) := fun e => hnk (by rw [hAB, ← e]; exact List.mem_append.2 (.inr hb))
      omega
    · have hkm : (k : Int) ∈ row.2 := hmem.1 (by simpa using h)
      obtain ⟨B', rfl⟩ : ∃ B', B = (k : Int) :: B' := by
        rw [hAB] at hkm
        rcases List.mem_append.1 hkm with h' | h'
        · have := hA _ h'; omega
        · match B, h', hB, hAB with
          | b :: B', h', hB, hAB =>
            have hb := hB b (by simp)
            rcases List.mem_cons.1 h' with e | e
            · exact ⟨B', by rw [e]⟩
            · have hs := hR.srt
              rw [hAB] at hs
              have := (List.pairwise_cons.1 (List.pairwise_append.1 hs).2.1).1 _ e
              omega
      have hrA : row.2[A.length]? = some (k : Int) := by rw [hAB, List.getElem?_append_right (Nat.le_refl _), Nat.sub_self]; rfl
      obtain ⟨be, oe, hpe, hce⟩ := hrr.elem1 (i := A.length) (v := iv (k : Int)) (by rw [List.getElem?_map, hrA]; rfl)
      simp at hABl
      refine ⟨bl, ol, hpl, hbl, row.1, by rw [Int.toNat_natCast]; exact hcl, IfB.no (by simp; omega) ⟨bl, ol, hpl, hbl, row.1, by rw [Int.toNat_natCast]; exact hcl, be, oe, hpe, (⟨by omega, by omega⟩ : (0 : Int) ≤ (A.length : Int) ∧ (A.length : Int) < (row.1.n : Int)), (k : Int), by dsimp only; rw [Int.toNat_natCast]; exact hce, IfB.no (by simp) ⟨rfl, q - 1, by omega, k + 1, A ++ [(k : Int)], B', hk', by omega, ?_, by rw [hAB]; simp, fun a ha => ?_, fun b hb => ?_, rfl⟩⟩⟩
      · rw [w1, wrap_of (by omega) (by omega)]; simp
      · rcases List.mem_append.1 ha with ha | ha
        · have := hA a ha; omega
        · rw [List.mem_singleton.1 ha]; omega
      · have hs := hR.srt
        rw [hAB] at hs
        have := (List.pairwise_cons.1 (List.pairwise_append.1 hs).2.1).1 _ hb
        omega
  · have hk' : k = hs.length := by dsimp only at hge2; omega
    subst hk'
    have hBn : B = [] := by
      match B, hB, hAB with
      | [], _, _ => rfl
      | b :: B', hB, hAB =>
        have hb := hB b (by simp)
        obtain ⟨k', e, hd⟩ := (hR.mem b).1 (by rw [hAB]; simp)
        have := Dp_lt hd
        omega
    subst hBn
    simp at hABl
    refine ⟨bl, ol, hpl, hbl, row.1, by rw [Int.toNat_natCast]; exact hcl, IfB.no (by simp; omega) ⟨rfl, m - 1, by omega, i + 1, hi', by omega, by rw [wrap_of (by omega) (by omega)]; rfl, rfl⟩⟩

/-! ### The document's example -/
abbrev nilS : Sl := ⟨none, 0, 0⟩
theorem c10 (w : World) : CW Try.prog 10 #[] w fun v w' => v = .bool true ∧ Ext w w' := by
  refine F10_ok w _ ⟨by decide, fun b1 w2 a2 => ⟨by decide, fun b3 w4 a4 => ⟨by decide, fun b5 w6 a6 => ?_⟩⟩⟩
  have e4 : Ext w2 w4 := a4.ch _
  have e6 : Ext w4 w6 := a6.ch _
  have E6 : Ext w w6 := ((a2.ch _).trans e4).trans e6
  obtain ⟨hs, hhs⟩ : ∃ hs : List Nd, hs = [⟨(1, 0, 0, false, nilS, ⟨some ⟨b1, 0, none⟩, 1, 1⟩), [], [(5, 5)]⟩, ⟨(2, 0, 0, false, ⟨some ⟨b1, 0, none⟩, 1, 1⟩, nilS), [(5, 5)], []⟩, ⟨(2, 0, 1, false, nilS, ⟨some ⟨b3, 0, none⟩, 1, 1⟩), [], [(6, 6)]⟩, ⟨(1, 0, 1, false, ⟨some ⟨b3, 0, none⟩, 1, 1⟩, nilS), [(6, 6)], []⟩] := ⟨_, rfl⟩
  have r5 : Rd w6 ⟨some ⟨b1, 0, none⟩, 1, 1⟩ 2 ([((5, 5) : Spn)].flatMap sv) := (((OwS.new (cs := [((5, 5) : Spn)].flatMap sv) (n := 1) (sz := 2) a2 rfl).ext e4).ext e6).rd
  have r6 : Rd w6 ⟨some ⟨b3, 0, none⟩, 1, 1⟩ 2 ([((6, 6) : Spn)].flatMap sv) := ((OwS.new (cs := [((6, 6) : Spn)].flatMap sv) (n := 1) (sz := 2) a4 rfl).ext e6).rd
  have rn : Rd w6 nilS 2 (([] : List Spn).flatMap sv) := (OwS.nil w6 2).rd
  have hH : Hst w6 ⟨some ⟨b5, 0, none⟩, 4, 4⟩ hs := by
    refine ⟨?_, fun n hn => ?_, by rw [hhs]; simp, Nat.le_refl _⟩
    · rw [hhs]; exact (OwS.new (n := 4) (sz := 6) a6 rfl).rd
    · rw [hhs] at hn
      simp only [List.mem_cons, List.not_mem_nil, or_false] at hn
      rcases hn with rfl | rfl | rfl | rfl
      · exact ⟨rn, r5, by simp, by simp⟩
      · exact ⟨r5, rn, by simp, by simp⟩
      · exact ⟨rn, r6, by simp, by simp⟩
      · exact ⟨r6, rn, by simp, by simp⟩
  have hlen : hs.length = 4 := by rw [hhs]; rfl
  have m5 : hasS [(5, 5)] 5 := ⟨_, List.mem_singleton.2 rfl, by unfold mayS; omega, by omega, by omega⟩
  have m6 : hasS [(6, 6)] 6 := ⟨_, List.mem_singleton.2 rfl, by unfold mayS; omega, by omega, by omega⟩
  have h10 : EdP hs 1 0 := ⟨by omega, _, _, by rw [hhs]; rfl, by rw [hhs]; rfl, .inr ⟨by simp, .inr (.inr ⟨5, m5, m5⟩)⟩⟩
  have h21 : EdP hs 2 1 := ⟨by omega, _, _, by rw [hhs]; rfl, by rw [hhs]; rfl, .inl (by rfl)⟩
  have h32 : EdP hs 3 2 := ⟨by omega, _, _, by rw [hhs]; rfl, by rw [hhs]; rfl, .inr ⟨by simp, .inr (.inr ⟨6, m6, m6⟩)⟩⟩
  have h20 : ¬ EdP hs 2 0 := by
    rintro ⟨_, a, b, ha, hb, hd⟩
    rw [hhs] at ha hb
    simp at ha hb
    subst ha; subst hb
    rcases hd with h | ⟨_, ⟨k, h1, h2⟩ | ⟨k, h1, h2⟩ | ⟨k, h1, h2⟩⟩
    · simp at h
    · obtain ⟨x, hx, _⟩ := h2; cases hx
    · rw [hasS_one] at h1 h2; omega
    · obtain ⟨x, hx, _⟩ := h1; cases hx
  refine (c13 hH (by omega)).use ?_
  rintro _ w8 ⟨t', rows, rfl, hrl, hrow, hO, e8⟩
  have htn := hO.n
  have hr3 : rows[3]? = some (rows[3]'(by omega)) := List.getElem?_eq_getElem (by omega)
  generalize rows[3]'_ = row at hr3
  obtain ⟨⟨b, o, hp, hc⟩, hrr, hrn⟩ := hO.rws.at hr3
  have hR := hrow 3 row hr3
  have hrow3 : row.2 = [0, 1, 2] := sorted_ext hR.srt (by decide) fun k => by
    rw [hR.mem]
    constructor
    · rintro ⟨k', rfl, hd⟩
      have := Dp_lt hd
      rcases k' with _ | _ | _ | k'
      · simp
      · simp
      · simp
      · omega
    · intro hk
      simp only [List.mem_cons, List.not_mem_nil, or_false] at hk
      rcases hk with rfl | rfl | rfl
      · exact ⟨0, rfl, ((TC.one h32).more h21).more h10⟩
      · exact ⟨1, rfl, (TC.one h32).more h21⟩
      · exact ⟨2, rfl, TC.one h32⟩
  rw [hrow3] at hrn
  refine ⟨t', rfl, IfB.yes (by simp; omega) ⟨b, o, hp, ⟨by omega, by show (3 : Int) < (t'.n : Int); omega⟩, row.1, hc, IfB.yes (by simp at hrn ⊢; omega) ?_⟩⟩
  refine (c17 (hH.ext e8) (by omega) 2 0).use ?_
  rintro _ w14 ⟨r, rfl, hr, e14⟩
  refine ⟨r, rfl, IfB.yes (hr.2 ⟨by omega, by omega, 0, rfl, (TC.one h21).more h10⟩) ((c16 ((hH.ext e8).ext e14) 2 0).use ?_)⟩
  rintro _ w17 ⟨r2, rfl, hr2, e17⟩
  refine ⟨r2, rfl, ?_, ((E6.trans e8).trans e14).trans e17⟩
  cases r2 with
  | false => rfl
  | true => exact absurd (hr2.1 rfl).2.2 h20
end Go.Proofs.Ytmmhbjbaallkfaa.Gx
