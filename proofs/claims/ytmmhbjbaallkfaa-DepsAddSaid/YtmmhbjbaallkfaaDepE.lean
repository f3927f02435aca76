/- The document's relation of a history (gimmalref15). -/
import Derived.Test.YtmmhbjbaallkfaaDepC
import Derived.Test.YtmmhbjbaallkfaaDepD
import Derived.Test.YtmmhbjbaallkfaaMxA
import Derived.Test.YtmmhbjbaallkfaaGxNT
namespace Go.Proofs.Ytmmhbjbaallkfaa.Gx
open Go
set_option linter.unusedSimpArgs false
set_option linter.unusedVariables false

theorem EdP_lt {hs : List Nd} {a b : Nat} (h : EdP hs a b) : b < a ∧ a < hs.length := by
  obtain ⟨h1, x, y, h2, _⟩ := h
  exact ⟨h1, (List.getElem?_eq_some_iff.1 h2).1⟩
theorem Dp_len {hs : List Nd} {a b : Nat} (h : Dp hs a b) : a < hs.length := by
  obtain ⟨c, hc, _⟩ := h.first
  exact (EdP_lt hc).2

/-- All rows are n long. -/
def Sqr (n : Nat) (rows : List MxR) : Prop := rows.length = n ∧ ∀ r ∈ rows, r.2.length = n
theorem Sqr.at {n i : Nat} {rows : List MxR} (h : Sqr n rows) (hi : i < n) : ∃ r, rows[i]? = some r ∧ r.2.length = n ∧ r ∈ rows := by
  have hi' : i < rows.length := by rw [h.1]; exact hi
  exact ⟨rows[i], List.getElem?_eq_getElem hi', h.2 _ (List.getElem_mem hi'), List.getElem_mem hi'⟩
theorem Sqr.set {n i k : Nat} {rows : List MxR} {r : MxR} (h : Sqr n rows) (hr : rows[i]? = some r) (v : Bool) : Sqr n (rows.set i (r.1, r.2.set k v)) := by
  refine ⟨by rw [List.length_set]; exact h.1, fun s hs => ?_⟩
  rcases mem_set hs with rfl | ⟨a, _, ha⟩
  · show (r.2.set k v).length = n
    rw [List.length_set]; exact h.2 r (List.mem_of_getElem? hr)
  · exact h.2 s (List.mem_of_getElem? ha)

/-- Stages of the three loops: what is there lies between. -/
structure FwI (hs : List Nd) (m i k : Nat) (rows : List MxR) : Prop where
  lo : ∀ a b, Fw (EdP hs) m a b → gM rows a b = true
  hi : ∀ a b, gM rows a b = true → Dp hs a b
  done : ∀ a b, b < hs.length → (a < i ∨ (a = i ∧ b < k)) → Fw (EdP hs) (m + 1) a b → gM rows a b = true
theorem Fw_lt {hs : List Nd} {m a b : Nat} (h : Fw (EdP hs) m a b) : b < a ∧ a < hs.length := ⟨Dp_lt (Fw_tc h), Dp_len (Fw_tc h)⟩
theorem FwI.next {hs : List Nd} {m i k : Nat} {rows rows' : List MxR} (h : FwI hs m i k rows) (hle : ∀ a b, gM rows a b = true → gM rows' a b = true) (hup : ∀ a b, gM rows' a b = true → Dp hs a b)
    (hik : Fw (EdP hs) (m + 1) i k → gM rows' i k = true) : FwI hs m i (k + 1) rows' :=
  ⟨fun a b hab => hle a b (h.lo a b hab), hup, fun a b hb hab hF => by
    by_cases he : a = i ∧ b = k
    · obtain ⟨rfl, rfl⟩ := he; exact hik hF
    · exact hle a b (h.done a b hb (by omega) hF)⟩
theorem FwI.row {hs : List Nd} {m i : Nat} {rows : List MxR} (h : FwI hs m i hs.length rows) : FwI hs m (i + 1) 0 rows :=
  ⟨h.lo, h.hi, fun a b hb hab hF => h.done a b hb (by omega) hF⟩
theorem FwI.stage {hs : List Nd} {m : Nat} {rows : List MxR} (h : FwI hs m hs.length 0 rows) : FwI hs (m + 1) 0 0 rows :=
  ⟨fun a b hab => h.done a b (by have := Fw_lt hab; omega) (.inl (Fw_lt hab).2) hab, h.hi, fun a b _ hab => by omega⟩

theorem c15 {w : World} {t : Sl} {hs : List Nd} (hH : Hst w t hs) (hl : hs.length ≤ 1000) :
    CW Try.prog 15 #[slV t] w fun v w' => ∃ t' rows, v = slV t' ∧ Sqr hs.length rows ∧ (∀ i k, gM rows i k = true ↔ Dp hs i k) ∧ Mx w' w.heap.size t' rows ∧ Ext w w' := by
  have hn := hH.n
  refine F15_ok t w _ ⟨⟨by omega, by omega, by omega, by omega⟩, fun b1 w2 a2 => ?_⟩
  have e2 : Ext w w2 := a2.ch _
  have p2 := a2.here; have z2 := a2.size
  rw [Int.toNat_natCast, zc_all (v := Value.slice none 0 0) (by intro x hx; simpa using hx), hn] at a2
  obtain ⟨ts, hts⟩ : ∃ ts : Sl, ts = ⟨some ⟨b1, 0, none⟩, hs.length, hs.length⟩ := ⟨_, rfl⟩
  have hM0 : Mx w2 w.heap.size ts (List.replicate hs.length (⟨none, 0, 0⟩, [])) := by
    have hmem : ∀ r ∈ List.replicate hs.length ((⟨none, 0, 0⟩, []) : MxR), r = (⟨none, 0, 0⟩, []) := fun r hr => (List.mem_replicate.1 hr).2
    refine ⟨?_, fun r hr => ?_, fun r hr => ?_, fun a b r s _ hr _ => ?_, fun j hj => ?_, fun r hr => ?_⟩
    · rw [hts]
      refine OwS.new (w := w) (T := 37) ?_ (by simp)
      rw [List.map_replicate]
      simpa using a2
    · rw [hmem r hr]; exact .nil _ _
    · rw [hmem r hr]; simp [blk]
    · rw [hmem r (List.mem_of_getElem? hr)]; simp [blk]
    · rw [hts] at hj; simp [blk] at hj; omega
    · rw [hmem r hr]; simp [blk]
  have hslot : ∀ {i : Nat}, i < hs.length → (0 : Int) ≤ (i : Int) ∧ (i : Int) < ((((t.2 : Int)).toNat : Nat) : Int) := fun {i} h => ⟨by omega, by omega⟩
  have hst : ∀ {i : Nat}, i < hs.length → (0 : Int) ≤ (i : Int) ∧ (i : Int) < (t.n : Int) := fun {i} h => ⟨by omega, by omega⟩
  have w1 : ∀ {i : Nat}, i < hs.length → IntKind.i64.wrap ((i : Int) + 1) = ((i + 1 : Nat) : Int) := fun {i} h => by rw [wrap_of (by omega) (by omega)]; rfl
  have hb1 : ts.p = some ⟨b1, 0, none⟩ := by rw [hts]
  -- a row's header and a place of it, from memory
  have slot : ∀ {W : World} {rows : List MxR} {i : Nat} {r : MxR}, Mx W w.heap.size ts rows → rows[i]? = some r → W.cell? ⟨b1, 0 + (i : Int).toNat, none⟩ = some (slV r.1) := fun {W rows i r} hM hr => by
    obtain ⟨b, hp, hc⟩ := hM.slot hr
    rw [hb1] at hp; cases hp
    rw [Int.toNat_natCast, Nat.zero_add]; exact hc
  refine ⟨fun m x W => ∃ (i : Nat) (rows : List MxR), i ≤ hs.length ∧ m + i = hs.length ∧ x = (i : Int) ∧ rows.length = hs.length ∧ (∀ a r, rows[a]? = some r → r.2.length = if a < i then hs.length else 0) ∧ (∀ a b, gM rows a b = true ↔ a < i ∧ EdP hs a b) ∧ Mx W w.heap.size ts rows ∧ Ext w W,
    ⟨hs.length, 0, List.replicate hs.length (⟨none, 0, 0⟩, []), Nat.zero_le _, rfl, rfl, by simp, fun a r hr => ?_, fun a b => ?_, hM0, e2⟩, ?_⟩
  · rw [(List.mem_replicate.1 (List.mem_of_getElem? hr)).2]; rfl
  · unfold gM
    constructor
    · intro h
      rw [List.getElem?_replicate] at h
      split at h
      · rename_i r hr
        split at hr
        · cases hr; simp at h
        · cases hr
      · cases h
    · intro h; omega
  rintro m _ W g ⟨i, rows, hi, hmi, rfl, hrl, hrw, hg, hM, hE⟩
  unfold F15j1
  refine IfB.dec (fun hlt => ?_) fun hge => ?_
  · -- a new row
    have hi' : i < hs.length := by omega
    refine ⟨⟨by omega, by omega, by omega, by omega⟩, fun b10 w11 a11 => ?_⟩
    have p11 := a11.here; have z11 := a11.size
    have e11 : Ext W w11 := a11.ch _
    have zE := hE.size
    rw [Int.toNat_natCast, zc_all (v := Value.bool false) (by intro x hx; simpa using hx), hn] at a11
    have hrow : OwS w11 ⟨some ⟨b10, 0, none⟩, hs.length, hs.length⟩ 1 (bvs (List.replicate hs.length false)) := by
      refine OwS.new (w := W) (T := 4) ?_ (by simp)
      rw [show bvs (List.replicate hs.length false) = List.replicate hs.length (Value.bool false) from List.map_replicate]
      simpa using a11
    refine ⟨b1, 0, rfl, hslot hi', rfl, ?_⟩
    rw [Int.toNat_natCast, Int.toNat_natCast, hn]
    have hM11 := hM.ext e11
    have hbk : ∀ j ∈ blk (⟨some ⟨b10, 0, none⟩, hs.length, hs.length⟩ : Sl), j = b10 := fun j hj => by simpa [blk] using hj
    refine hM11.row' (by omega) hrow (fun j hj => by have := hbk j hj; omega) (fun j hj h => by have := hbk j hj; have := hM.own.lt j h; omega) (fun r hr j hj h => by have := hbk j hj; have := (hM.row r hr).lt j h; omega) hb1 fun w14 hM14 hC14 => ?_
    have E14 : Ext w w14 := (hE.trans e11).chN hC14 fun j e => by omega
    have hgi : ∀ a b, gM (rows.set i (⟨some ⟨b10, 0, none⟩, hs.length, hs.length⟩, List.replicate hs.length false)) a b = true ↔ (a < i ∧ EdP hs a b) ∨ (a = i ∧ b < 0 ∧ EdP hs i b) := fun a b => by
      rw [gM_row (by omega)]
      by_cases ha : a = i
      · rw [if_pos ha]
        constructor
        · intro h; cases h
        · rintro (h | h) <;> omega
      · rw [if_neg ha, hg]
        constructor
        · exact .inl
        · rintro (h | h)
          · exact h
          · exact absurd h.1 ha
    refine ⟨fun n x W' => ∃ (k : Nat) (rows : List MxR), k ≤ i ∧ n + k = i ∧ x = (k : Int) ∧ rows.length = hs.length ∧ (∀ a r, rows[a]? = some r → r.2.length = if a < i + 1 then hs.length else 0) ∧ (∀ a b, gM rows a b = true ↔ (a < i ∧ EdP hs a b) ∨ (a = i ∧ b < k ∧ EdP hs i b)) ∧ Mx W' w.heap.size ts rows ∧ Ext w W',
      ⟨i, 0, _, Nat.zero_le _, rfl, rfl, by rw [List.length_set]; exact hrl, fun a r hr => ?_, hgi, hM14, E14⟩, ?_⟩
    · rw [List.getElem?_set] at hr
      by_cases hia : i = a
      · subst hia
        rw [if_pos rfl, if_pos (by omega)] at hr
        cases hr
        rw [if_pos (by omega)]; exact List.length_replicate
      · rw [if_neg hia] at hr
        rw [hrw a r hr]
        by_cases h : a < i
        · rw [if_pos h, if_pos (by omega)]
        · rw [if_neg h, if_neg (by omega)]
    rintro n _ w19 g ⟨k, rows2, hk, hnk, rfl, hrl2, hrw2, hg2, hM2, hE2⟩
    unfold F15j2
    refine IfB.dec (fun hlt2 => ?_) fun hge2 => ?_
    · have hk' : k < i := by omega
      have hk'' : k < hs.length := by omega
      have ed := extDrew w19
      have hEd := hE2.trans ed
      have hMd := hM2.ext ed
      have hHd := hH.ext hEd
      have hr : rows2[i]? = some (rows2[i]'(by omega)) := List.getElem?_eq_getElem (by omega)
      generalize rows2[i]'_ = r at hr
      have hrl3 : r.2.length = hs.length := by have := hrw2 i r hr; rwa [if_pos (by omega)] at this
      have hrm := List.mem_of_getElem? hr
      have hrn := hMd.rn hrm
      have ha : hs[i]? = some hs[i] := List.getElem?_eq_getElem hi'
      have hb : hs[k]? = some hs[k] := List.getElem?_eq_getElem hk''
      generalize hs[i] = na at ha
      generalize hs[k] = nb at hb
      obtain ⟨x1, o1, hp1, hc1⟩ := hHd.at ha
      obtain ⟨x2, o2, hp2, hc2⟩ := hHd.at hb
      obtain ⟨bb, hpb, _⟩ := hMd.cell hrm (gM_get hr (k := k) (by omega))
      have hset : ∀ v : Bool, (v = true ↔ EdP hs i k) → ∀ a b, gM (rows2.set i (r.1, r.2.set k v)) a b = true ↔ (a < i ∧ EdP hs a b) ∨ (a = i ∧ b < k + 1 ∧ EdP hs i b) := fun v hv a b => by
        rw [gM_set hr (by omega)]
        by_cases hab : a = i ∧ b = k
        · rw [if_pos hab, hv]
          obtain ⟨rfl, rfl⟩ := hab
          constructor
          · exact fun h => .inr ⟨rfl, by omega, h⟩
          · rintro (h | h)
            · exact h.2
            · exact h.2.2
        · rw [if_neg hab, hg2]
          refine or_congr Iff.rfl (and_congr_right fun hai => and_congr_left fun _ => ?_)
          have : b ≠ k := fun h => hab ⟨hai, h⟩
          omega
      have hlen : ∀ v : Bool, ∀ a r', (rows2.set i (r.1, r.2.set k v))[a]? = some r' → r'.2.length = if a < i + 1 then hs.length else 0 := fun v a r' hr' => by
        rw [List.getElem?_set] at hr'
        by_cases hia : i = a
        · subst hia
          rw [if_pos rfl, if_pos (by omega)] at hr'
          cases hr'
          rw [if_pos (by omega)]
          show (r.2.set k v).length = _
          rw [List.length_set]; exact hrl3
        · rw [if_neg hia] at hr'; exact hrw2 a r' hr'
      have fin : ∀ (v : Bool), (v = true ↔ EdP hs i k) → ∀ W2, Ext w19.drew W2 → StoreP W2 bb (0 + (k : Int).toNat) [.bool v] fun w33 => ([] : List Nat) = [] ∧ ∃ b34, b34 < n ∧ ∃ (k' : Nat) (rows : List MxR), k' ≤ i ∧ b34 + k' = i ∧ IntKind.i64.wrap ((k : Int) + 1) = (k' : Int) ∧ rows.length = hs.length ∧ (∀ a r, rows[a]? = some r → r.2.length = if a < i + 1 then hs.length else 0) ∧ (∀ a b, gM rows a b = true ↔ (a < i ∧ EdP hs a b) ∨ (a = i ∧ b < k' ∧ EdP hs i b)) ∧ Mx w33 w.heap.size ts rows ∧ Ext w w33 := fun v hv W2 eW => by
        rw [Int.toNat_natCast]
        refine (hMd.ext eW).put hr (by omega) hpb fun w' hM' hC' => ⟨rfl, n - 1, by omega, k + 1, _, hk', by omega, w1 hk'', by rw [List.length_set]; exact hrl2, hlen v, hset v hv, hM', (hEd.trans eW).chN hC' fun j e => ?_⟩
        exact hM2.rnew r hrm j (by simp [blk, hpb, e])
      unfold F15k1
      refine ⟨b1, 0, rfl, hslot hi', r.1, slot hMd hr, x1, o1, hp1, hst hi', na.v.1, by rw [Int.toNat_natCast]; exact hc1 0 _ rfl, x2, o2, hp2, hst hk'', nb.v.1, by rw [Int.toNat_natCast]; exact hc2 0 _ rfl, IfB.intro (fun he => ?_) fun hne => ?_⟩
      · have he : na.v.1 = nb.v.1 := by simpa using he
        exact ⟨slot hMd hr, bb, 0, hpb, ⟨by omega, by show (k : Int) < (r.1.n : Int); omega⟩, rfl, fin true ⟨fun _ => ⟨hk', na, nb, ha, hb, .inl he⟩, fun _ => rfl⟩ _ (Ch.refl _ _)⟩
      · have hne : na.v.1 ≠ nb.v.1 := by simpa using hne
        refine ⟨x1, o1, hp1, hst hi', na.v, by rw [Int.toNat_natCast]; exact hc1, x2, o2, hp2, hst hk'', nb.v, by rw [Int.toNat_natCast]; exact hc2, (c12 (hHd.get ha) (hHd.get hb)).use ?_⟩
        rintro _ w42 ⟨v, rfl, hv, e42⟩
        refine ⟨v, rfl, slot (hMd.ext e42) hr, bb, 0, hpb, ⟨by omega, by show (k : Int) < (r.1.n : Int); omega⟩, rfl, fin v ?_ _ e42⟩
        rw [hv]
        constructor
        · exact fun h => ⟨hk', na, nb, ha, hb, .inr h⟩
        · rintro ⟨_, x, y, hx, hy, hd⟩
          rw [ha] at hx; rw [hb] at hy
          cases hx; cases hy
          exact hd.resolve_left hne
    · have hk' : k = i := by omega
      subst hk'
      refine ⟨rfl, m - 1, by omega, k + 1, rows2, hi', by omega, w1 hi', hrl2, hrw2, fun a b => ?_, hM2, hE2⟩
      rw [hg2]
      constructor
      · rintro (h | ⟨rfl, _, h⟩)
        · exact ⟨by omega, h.2⟩
        · exact ⟨by omega, h⟩
      · rintro ⟨h1, h2⟩
        by_cases ha : a = k
        · subst ha; exact .inr ⟨rfl, h2.1, h2⟩
        · exact .inl ⟨by omega, h2⟩
  · -- ways
    have hi' : i = hs.length := by omega
    subst hi'
    have hsq : Sqr hs.length rows := ⟨hrl, fun r hr => by
      obtain ⟨a, ha, e⟩ := List.getElem_of_mem hr
      have := hrw a r (by rw [List.getElem?_eq_getElem ha, e])
      rwa [if_pos (by omega)] at this⟩
    have hF0 : FwI hs 0 0 0 rows := ⟨fun a b h => (hg a b).2 ⟨(EdP_lt h).2, h⟩, fun a b h => .one ((hg a b).1 h).2, fun a b _ hab => by omega⟩
    refine ⟨fun n x W' => ∃ (m : Nat) (rows : List MxR), m ≤ hs.length ∧ n + m = hs.length ∧ x = (m : Int) ∧ Sqr hs.length rows ∧ FwI hs m 0 0 rows ∧ Mx W' w.heap.size ts rows ∧ Ext w W', ⟨hs.length, 0, rows, Nat.zero_le _, rfl, rfl, hsq, hF0, hM, hE⟩, ?_⟩
    rintro n _ w53 g ⟨m, rows3, hm, hnm, rfl, hsq3, hF3, hM3, hE3⟩
    unfold F15j3
    refine IfB.dec (fun hlt => ?_) fun hge => ?_
    · have hm' : m < hs.length := by omega
      refine ⟨fun q x W' => ∃ (i : Nat) (rows : List MxR), i ≤ hs.length ∧ q + i = hs.length ∧ x = (i : Int) ∧ Sqr hs.length rows ∧ FwI hs m i 0 rows ∧ Mx W' w.heap.size ts rows ∧ Ext w W', ⟨hs.length, 0, rows3, Nat.zero_le _, rfl, rfl, hsq3, hF3, hM3, hE3⟩, ?_⟩
      rintro q _ w60 g ⟨i, rows4, hi, hqi, rfl, hsq4, hF4, hM4, hE4⟩
      refine IfB.dec (fun hlt2 => ?_) fun hge2 => ?_
      · have hi' : i < hs.length := by omega
        refine ⟨fun s x W' => ∃ (k : Nat) (rows : List MxR), k ≤ hs.length ∧ s + k = hs.length ∧ x = (k : Int) ∧ Sqr hs.length rows ∧ FwI hs m i k rows ∧ Mx W' w.heap.size ts rows ∧ Ext w W', ⟨hs.length, 0, rows4, Nat.zero_le _, rfl, rfl, hsq4, hF4, hM4, hE4⟩, ?_⟩
        rintro s _ w67 g ⟨k, rows5, hk, hsk, rfl, hsq5, hF5, hM5, hE5⟩
        unfold F15j5
        refine IfB.dec (fun hlt3 => ?_) fun hge3 => ?_
        · have hk' : k < hs.length := by omega
          obtain ⟨ri, hri, hril, hrim⟩ := hsq5.at hi'
          obtain ⟨rm, hrm, hrml, hrmm⟩ := hsq5.at hm'
          have hin := hM5.rn hrim
          have hmn := hM5.rn hrmm
          obtain ⟨c1, hp1, hc1⟩ := hM5.cell hrim (gM_get hri (k := m) (by omega))
          obtain ⟨c2, hp2, hc2⟩ := hM5.cell hrmm (gM_get hrm (k := k) (by omega))
          have stay : (Fw (EdP hs) (m + 1) i k → gM rows5 i k = true) → ∃ b90, b90 < s ∧ ∃ (k' : Nat) (rows : List MxR), k' ≤ hs.length ∧ b90 + k' = hs.length ∧ IntKind.i64.wrap ((k : Int) + 1) = (k' : Int) ∧ Sqr hs.length rows ∧ FwI hs m i k' rows ∧ Mx w67 w.heap.size ts rows ∧ Ext w w67 := fun h =>
            ⟨s - 1, by omega, k + 1, rows5, hk', by omega, w1 hk', hsq5, hF5.next (fun _ _ h => h) hF5.hi h, hM5, hE5⟩
          refine ⟨b1, 0, rfl, hslot hi', ri.1, slot hM5 hri, c1, 0, hp1, ⟨by omega, by show (m : Int) < (ri.1.n : Int); omega⟩, gM rows5 i m, by rw [Int.toNat_natCast, Nat.zero_add]; exact hc1, IfB.intro (fun h1 => ?_) fun h1 => ⟨rfl, stay fun hF => ?_⟩⟩
          · refine ⟨b1, 0, rfl, hslot hm', rm.1, slot hM5 hrm, c2, 0, hp2, ⟨by omega, by show (k : Int) < (rm.1.n : Int); omega⟩, gM rows5 m k, by rw [Int.toNat_natCast, Nat.zero_add]; exact hc2, IfB.intro (fun h2 => ?_) fun h2 => ⟨rfl, stay fun hF => ?_⟩⟩
            · refine ⟨b1, 0, rfl, hslot hi', ri.1, slot hM5 hri, c1, 0, hp1, ⟨by omega, by show (k : Int) < (ri.1.n : Int); omega⟩, rfl, ?_⟩
              rw [Int.toNat_natCast]
              have hup := (hF5.hi _ _ h1).trans (hF5.hi _ _ h2)
              have hset := gM_set hri (k := k) (by omega) true
              refine hM5.put hri (by omega) hp1 fun w' hM' hC' => ⟨rfl, s - 1, by omega, k + 1, _, hk', by omega, w1 hk', hsq5.set hri _, hF5.next (fun a b h => ?_) (fun a b h => ?_) (fun _ => ?_), hM', hE5.chN hC' fun j e => hM5.rnew ri hrim j (by simp [blk, hp1, e])⟩
              · rw [hset]; split
                · rfl
                · exact h
              · rw [hset] at h
                split at h
                · rename_i hab; rw [hab.1, hab.2]; exact hup
                · exact hF5.hi a b h
              · rw [hset, if_pos ⟨rfl, rfl⟩]
            · rcases hF with hF | hF
              · exact hF5.lo _ _ hF
              · rw [hF5.lo _ _ hF.2] at h2; cases h2
          · rcases hF with hF | hF
            · exact hF5.lo _ _ hF
            · rw [hF5.lo _ _ hF.1] at h1; cases h1
        · have hk' : k = hs.length := by omega
          subst hk'
          exact ⟨rfl, q - 1, by omega, i + 1, rows5, hi', by omega, w1 hi', hsq5, hF5.row, hM5, hE5⟩
      · have hi' : i = hs.length := by omega
        subst hi'
        exact ⟨rfl, n - 1, by omega, m + 1, rows4, hm', by omega, w1 hm', hsq4, hF4.stage, hM4, hE4⟩
    · have hm' : m = hs.length := by omega
      subst hm'
      refine ⟨ts, rows3, ?_, hsq3, fun a b => ⟨hF3.hi a b, fun h => hF3.lo a b ((Fw_iff fun a b h => by have := EdP_lt h; omega).2 h)⟩, hM3, hE3⟩
      rw [hts, Int.toNat_natCast, hn]
end Go.Proofs.Ytmmhbjbaallkfaa.Gx
