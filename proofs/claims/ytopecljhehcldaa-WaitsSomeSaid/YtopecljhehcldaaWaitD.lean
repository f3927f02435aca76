/- Package waits: Wait; the document's example. -/
import Derived.Test.YtopecljhehcldaaWaitC
namespace Go.Proofs.Ytopecljhehcldaa.Gx
open Go
set_option linter.unusedSimpArgs false
set_option linter.unusedVariables false

theorem notMap {w : World} {b j : Nat} {cs : Array Value} {T : TypeId} {p : Option Nat} {f : List (Int × WE)} (hb : w.heap[b]? = some (.cells cs T (0, 0))) (h : MpO encW w p f) : p ≠ some b := by
  rintro rfl
  obtain ⟨es, ck, h1, _⟩ := h
  rw [hb] at h1; cases h1

theorem mem_of_law {f f' : List (Int × WE)} {i : Int} {x : WE} (hn : (f'.map (·.1)).Nodup) (hf : ∀ k, getM f' k = if i = k then some x else getM f k) : ∀ e ∈ f', e = (i, x) ∨ e ∈ f := fun e he => by
  have h1 := getM_of hn (k := e.1) (v := e.2) he
  rw [hf] at h1
  by_cases hk : i = e.1
  · rw [if_pos hk] at h1
    left
    have := Option.some.inj h1
    rw [Prod.ext_iff]; exact ⟨hk.symm, this.symm⟩
  · rw [if_neg hk] at h1
    exact .inr (getM_mem h1)
theorem len_of_law {f f' : List (Int × WE)} {i : Int} {x : WE} (hn : (f'.map (·.1)).Nodup) (hf : ∀ k, getM f' k = if i = k then some x else getM f k) : f'.length ≤ f.length + 1 := by
  have := nodup_le (b := i :: f.map (·.1)) hn fun k hk => by
    obtain ⟨e, he, rfl⟩ := List.mem_map.1 hk
    rcases mem_of_law hn hf e he with rfl | he
    · simp
    · exact List.mem_cons_of_mem _ (List.mem_map_of_mem he)
  simpa using this

/-- What is put, or taken out. -/
def setW (f : List (Int × WE)) (i : Int) (o : Option WE) (k : Int) : Option WE := if i = k then o else getM f k

theorem c84 {w : World} {b : Nat} {p : Option Nat} {f : List (Int × WE)} (h : Wt w b p f) {b1 b3 : Nat} {i : Int} {T1 T3 : TypeId} (hb1 : w.heap[b1]? = some (.cells #[.pointer (some ⟨b, 0, none⟩)] T1 (0, 0))) (hb3 : w.heap[b3]? = some (.cells #[iv i] T3 (0, 0))) (n1 : b1 ≠ b) (n3 : b3 ≠ b)
    {t : Sl} {x : List Int} (some' : Bool) (hx : some' = true → Rd w t 1 (x.map iv) ∧ x ≠ [] ∧ x.length ≤ 1000 ∧ ∀ j ∈ blk t, j < w.heap.size ∧ j ≠ b ∧ p ≠ some j) (hf : f.length ≤ 999) :
    CW Try.prog 84 #[slV t, .bool some', .pointer (some ⟨b1, 0, none⟩), .pointer (some ⟨b3, 0, none⟩)] w fun v w' => v = .tuple #[] ∧ ∃ p' f', Wt w' b p' f' ∧ (∀ k, getM f' k = setW f i (if some' then some (t, x) else none) k) ∧ f'.length ≤ f.length + 1 ∧ (∀ e ∈ f', e = (i, (t, x)) ∧ some' = true ∨ e ∈ f) ∧ (p' = p ∨ ∃ r, p' = some r ∧ w.heap.size ≤ r) ∧ Ch (fun j => j = b ∨ p = some j) w w' := by
  refine F84_ok t some' b1 b3 w _ ?_
  have ed := extDrew w
  have H := h.ext ed
  obtain ⟨T, hT⟩ := h.box
  have pb : p ≠ some b := notMap (j := 0) hT h.map
  have pb1 : p ≠ some b1 := notMap (j := 0) hb1 h.map
  have pb3 : p ≠ some b3 := notMap (j := 0) hb3 h.map
  have q1 : ∀ {W : World}, W.heap[b1]? = some (.cells #[.pointer (some ⟨b, 0, none⟩)] T1 (0, 0)) → W.cell? ⟨b1, 0, none⟩ = some (.pointer (some ⟨b, 0, none⟩)) := fun h => by rw [cell_of h]; rfl
  have q3 : ∀ {W : World}, W.heap[b3]? = some (.cells #[iv i] T3 (0, 0)) → W.cell? ⟨b3, 0, none⟩ = some (iv i) := fun h => by rw [cell_of h]; rfl
  refine ⟨_, q1 hb1, b, 0, rfl, p, H.cell, i, q3 hb3, H.map.del fun f1 w6 hf1 hm1 hl1 hM6 hc6 => ?_⟩
  have hC6 : Ch (fun j => j = b ∨ p = some j) w w6 := (ed.mono fun _ _ h => h.elim).then hc6 fun j _ e => .inr e
  have hb1' := hc6.at (ed.at hb1) pb1
  have hb3' := hc6.at (ed.at hb3) pb3
  have hT6 := hc6.at (ed.at hT) pb
  have keep : ∀ {W : World} {F : Nat → Prop}, Ch F w W → (∀ j, F j → j = b ∨ p = some j) → ∀ e ∈ f, ∀ p' : Option Nat, (∀ j ∈ blk e.2.1, p' ≠ some j) → Rd W e.2.1 1 (e.2.2.map iv) ∧ e.2.2 ≠ [] ∧ e.2.2.length ≤ 1000 ∧ ∀ i ∈ blk e.2.1, i < W.heap.size ∧ i ≠ b ∧ p' ≠ some i := by
    intro W F hC hF e he p' hp'
    obtain ⟨r1, r2, r3, r4⟩ := h.rd e he
    refine ⟨r1.ch hC fun j hj hFj => ?_, r2, r3, fun j hj => ⟨Nat.lt_of_lt_of_le (r4 j hj).1 hC.size, (r4 j hj).2.1, hp' j hj⟩⟩
    rcases hF j hFj with e | e
    · exact (r4 j hj).2.1 e
    · exact (r4 j hj).2.2 e
  cases some' with
  | false =>
    refine IfB.no rfl ⟨rfl, p, f1, ⟨⟨T, hT6⟩, hM6, fun e he => keep hC6 (fun _ h => h) e (hm1 e he) p fun j hj => ((h.rd e (hm1 e he)).2.2.2 j hj).2.2, by omega⟩, hf1, by omega, fun e he => .inr (hm1 e he), .inl rfl, hC6⟩
  | true =>
    obtain ⟨x1, x2, x3, x4⟩ := hx rfl
    have setLaw : ∀ {f' : List (Int × WE)}, (∀ k, getM f' k = if i = k then some (t, x) else getM f1 k) → ∀ k, getM f' k = if i = k then some (t, x) else getM f k := fun h k => by
      rw [h, hf1]
      by_cases hk : i = k
      · rw [if_pos hk, if_pos hk]
      · rw [if_neg hk, if_neg hk, if_neg hk]
    refine IfB.yes rfl ⟨_, q1 hb1', b, 0, rfl, p, by rw [cell_of hT6]; rfl, ?_⟩
    cases hp : p with
    | none =>
      subst hp
      refine IfB.yes rfl ⟨_, q1 hb1', fun b12 w13 a13 => ⟨b, 0, rfl, rfl, ?_⟩⟩
      have e13 : Ext w6 w13 := a13.ch _
      have hp13 := a13.here
      have z13 := a13.size
      have z6 := hC6.size
      have hbl := heap_lt hT
      have hb1l := heap_lt hb1
      have hb3l := heap_lt hb3
      refine store_one (e13.at hT6) (by simp) rfl fun w16 u16 => ?_
      have hb1'' := u16.ch.at (e13.at hb1') n1
      have hb3'' := u16.ch.at (e13.at hb3') n3
      have hN : Mp encW w16 b12 [] := (Mp.new a13).ch u16.ch (fun e => by omega)
      have e16 := extDrew w16
      refine ⟨_, q1 hb1'', b, 0, rfl, some b12, by rw [cell_of (e16.at u16.new)]; rfl, i, q3 hb3'', Mp.set (enc := encW) (v := (t, x)) (hN.ext e16) fun f' w22 hf' hM' hc' => ?_⟩
      have hf1e : f1 = [] := hM6
      subst hf1e
      have law := setLaw hf'
      have hC : Ch (fun j => j = b ∨ (none : Option Nat) = some j) w w22 := (((hC6.then e13 fun _ _ h => h.elim).then u16.ch fun j _ e => .inl e).then e16 fun _ _ h => h.elim).then hc' fun j hj e => by omega
      have hnod : (f'.map (·.1)).Nodup := MpO.nodup (p := some b12) hM'
      have hmem := mem_of_law hnod law
      refine ⟨rfl, some b12, f', ⟨⟨T, ?_⟩, hM', fun e he => ?_, by have := len_of_law hnod law; omega⟩, law, len_of_law hnod law, fun e he => (hmem e he).imp (fun h => ⟨h, rfl⟩) id, .inr ⟨b12, rfl, by omega⟩, hC⟩
      · rw [hc'.old b (by rw [show w16.drew.heap.size = w16.heap.size from rfl, u16.size]; omega) (by omega)]
        exact u16.new
      · rcases hmem e he with rfl | he
        · refine ⟨x1.ch hC fun j hj hFj => ?_, x2, x3, fun j hj => ⟨Nat.lt_of_lt_of_le (x4 j hj).1 hC.size, (x4 j hj).2.1, fun e => ?_⟩⟩
          · rcases hFj with e | e
            · exact (x4 j hj).2.1 e
            · cases e
          · have := (x4 j hj).1; cases e; omega
        · exact keep hC (fun _ h => h) e he _ fun j hj e' => by have := ((h.rd e he).2.2.2 j hj).1; cases e'; omega
    | some r =>
      subst hp
      have e6 := extDrew w6
      refine IfB.no rfl ⟨_, q1 hb1', b, 0, rfl, some r, by rw [cell_of (e6.at hT6)]; rfl, i, q3 hb3', Mp.set (enc := encW) (v := (t, x)) (Mp.ext hM6 e6) fun f' w28 hf' hM' hc' => ?_⟩
      have law := setLaw hf'
      have hC : Ch (fun j => j = b ∨ some r = some j) w w28 := (hC6.then e6 fun _ _ h => h.elim).then hc' fun j _ e => .inr (by rw [e])
      have hnod : (f'.map (·.1)).Nodup := MpO.nodup (p := some r) hM'
      have hmem := mem_of_law hnod law
      refine ⟨rfl, some r, f', ⟨⟨T, ?_⟩, hM', fun e he => ?_, by have := len_of_law hnod law; omega⟩, law, len_of_law hnod law, fun e he => (hmem e he).imp (fun h => ⟨h, rfl⟩) id, .inl rfl, hC⟩
      · exact hc'.at (e6.at hT6) fun e => pb (by rw [e])
      · rcases hmem e he with rfl | he
        · refine ⟨x1.ch hC fun j hj hFj => ?_, x2, x3, fun j hj => ⟨Nat.lt_of_lt_of_le (x4 j hj).1 hC.size, (x4 j hj).2⟩⟩
          rcases hFj with e | e
          · exact (x4 j hj).2.1 e
          · exact (x4 j hj).2.2 e
        · exact keep hC (fun _ h => h) e he _ fun j hj => ((h.rd e he).2.2.2 j hj).2.2

/-- The arcs with others for one. -/
def EnS (f : List (Int × WE)) (i : Int) (l : List Int) (a c : Int) : Prop := c ∈ if i = a then l else wl f a

def valW (o : Option WE) : List Int := match o with
  | some x => x.2
  | none => []
theorem wl_set {f f' : List (Int × WE)} {i : Int} {o : Option WE} (h : ∀ k, getM f' k = setW f i o k) (k : Int) : wl f' k = if i = k then valW o else wl f k := by
  have e : ∀ f k, wl f k = valW (getM f k) := fun _ _ => rfl
  rw [e, e, h]
  unfold setW
  by_cases hk : i = k
  · rw [if_pos hk, if_pos hk]
  · rw [if_neg hk, if_neg hk]
theorem MpO.get' {β : Type} {enc : β → Value} {w : World} {p : Option Nat} {f : List (Int × β)} (h : MpO enc w p f) {k : Int} {z : Value} {K : Value → Bool → Prop} (hK : ∀ o : Option β, getM f k = o → K ((o.map enc).getD z) o.isSome) :
    MapGetP (.int .i64) w (.map p) (.int .i64 k) z K := h.get (by
  have := hK _ rfl
  cases hg : getM f k with
  | none => rw [hg] at this; exact this
  | some v => rw [hg] at this; exact this)

theorem c85 (t : Sl) (w : World) : CW Try.prog 85 #[slV t] w fun v w' => ∃ b T, v = .func (.func 111) #[] #[.pointer (some ⟨b, 0, none⟩)] ∧ IsAlloc w (.cells #[slV t] T (0, 0)) b w' :=
  F85_ok t w _ fun b w' a => ⟨b, _, rfl, a⟩

theorem c55 {w : World} {b : Nat} {p : Option Nat} {f : List (Int × WE)} (h : Wt w b p f) (i : Int) {t : Sl} {l : List Int} (hr : Rd w t 1 (l.map iv)) (hl : l.length ≤ 1000) (hf : f.length ≤ 998) :
    CW Try.prog 55 #[.pointer (some ⟨b, 0, none⟩), iv i, slV t] w fun v w' => ∃ p' f', ∃ pl : List Int, Wt w' b p' f' ∧ f'.length ≤ f.length + 2 ∧ Ch (fun j => j = b ∨ p = some j) w w' ∧ (∀ j, inWt b p' f' j → inWt b p f j ∨ w.heap.size ≤ j) ∧ pl.Pairwise (· < ·) ∧ (∀ k, k ∈ pl ↔ k ∈ l) ∧
      ((TC (EnS f i pl) i i ∧ v = .bool false ∧ ∀ k, wl f' k = wl f k) ∨ (¬ TC (EnS f i pl) i i ∧ v = .bool true ∧ ∀ k, wl f' k = if i = k then pl else wl f k)) := by
  refine F55_ok _ i t w _ ?_
  intro b1 w2 a2 b3 w4 a4
  have e2 : Ext w w2 := a2.ch _
  have e4 : Ext w2 w4 := a4.ch _
  have p2 := a2.here; have p4 := a4.here; have z2 := a2.size; have z4 := a4.size
  have ed := extDrew w4
  have x4 : Ext w w4.drew := (e2.trans e4).trans ed
  have hB1 : w4.heap[b1]? = some (.cells #[.pointer (some ⟨b, 0, none⟩)] 109 (0, 0)) := e4.at a2.new
  have hB3 : w4.heap[b3]? = some (.cells #[iv i] 3 (0, 0)) := a4.new
  have H4 := h.ext x4
  obtain ⟨Tb, hTb⟩ := h.box
  have hbl := heap_lt hTb
  refine ⟨some ⟨b, 0, none⟩, by rw [cell_of hB1]; rfl, IfB.no rfl ⟨some ⟨b, 0, none⟩, by rw [cell_of (ed.at hB1)]; rfl, b, 0, rfl, p, H4.cell, i, by rw [cell_of (ed.at hB3)]; rfl, H4.map.get' fun o ho => ?_⟩⟩
  obtain ⟨s13, hs13a, hs13⟩ : ∃ s13 : Sl, (o.map encW).getD (Value.slice none 0 0) = slV s13 ∧ (∀ x, o = some x → s13 = x.1) := by
    cases o with
    | none => exact ⟨⟨none, 0, 0⟩, rfl, fun x h => by cases h⟩
    | some x => exact ⟨x.1, rfl, fun y h => by cases h; rfl⟩
  refine ⟨s13, hs13a, (c85 t w4.drew).use ?_⟩
  rintro _ w15 ⟨b', T', rfl, a15⟩
  have e15 : Ext w4.drew w15 := a15.ch _
  have hrv : IntIt 111 #[.pointer (some ⟨b', 0, none⟩)] w15 fun ys => ys = l := valuesIt a15.new ((hr.ext x4).ext e15) (fun h0 j hj => by
    have := rd_lt hr (by omega) h0 j hj
    have := x4.size; have := e15.size; omega) (by omega)
  refine ⟨(111, _), rfl, (sorted_of hrv).use ?_⟩
  rintro _ w18 ⟨s19, xs, ys, rfl, rfl, hp, _, hs, ho19, e18, hb19⟩
  have hxl : xs.length ≤ 1000 := by rw [hp.length_eq]; exact hl
  refine ⟨s19, rfl, (c86 ho19 (by omega)).use ?_⟩
  rintro _ w21 ⟨s22, rfl, ho22, hp22, hc22⟩
  have hbk : ∀ j ∈ blk s22, w15.heap.size ≤ j := fun j hj => hb19 j (by unfold blk at hj ⊢; rw [hp22] at hj; exact hj)
  have x15 := x4.trans e15
  have x18 := x15.trans e18
  have z4d : w4.drew.heap.size = w4.heap.size := rfl
  have z15 := e15.size
  have z18 := e18.size
  have x21 : Ext w w21 := x18.then hc22 fun j hj h => by have := hb19 j h; omega
  have y21 : Ext w4 w21 := ((ed.trans e15).trans e18).then hc22 fun j hj h => by have := hb19 j h; omega
  have H21 := h.ext x21
  have foot1 : ∀ {p' f'}, (∀ e ∈ f', e ∈ f ∨ (∀ j ∈ blk e.2.1, w.heap.size ≤ j)) → (p' = p ∨ ∃ r, p' = some r ∧ w.heap.size ≤ r) → ∀ j, inWt b p' f' j → inWt b p f j ∨ w.heap.size ≤ j := by
    rintro p' f' hm hp' j (rfl | hj | ⟨e, he, hj⟩)
    · exact .inl (.inl rfl)
    · rcases hp' with rfl | ⟨r, rfl, hr⟩
      · exact .inl (.inr (.inl hj))
      · cases hj; exact .inr hr
    · rcases hm e he with h' | h'
      · exact .inl (.inr (.inr ⟨e, h', hj⟩))
      · exact .inr (h' j hj)
  have hpll := compactL_len xs
  have hn22 := owsI ho22
  generalize hpl : compactL xs = pl at ho22 hpll hn22
  have hpls : pl.Pairwise (· < ·) := by rw [← hpl]; exact compactL_sorted hs
  have hplm : ∀ k, k ∈ pl ↔ k ∈ ys := fun k => by rw [← hpl, compactL_mem]; exact hp.mem_iff
  have hpne : decide ((0 : Int) < (s22.n : Int)) = true → pl ≠ [] := fun h e => by
    rw [e] at hn22
    have := of_decide_eq_true h
    simp at hn22; omega
  have zx := x21.size
  refine ⟨s22, rfl, (c84 H21 (y21.at hB1) (y21.at hB3) (by omega) (by omega) (t := s22) (x := pl) _ (fun hsome => ⟨ho22.rd, hpne hsome, by omega, fun j hj => ⟨ho22.lt j hj, by have := hbk j hj; omega, fun e => by have := hbk j hj; have := h.map.lt j e; omega⟩⟩) (by omega)).use ?_⟩
  rintro _ w24 ⟨rfl, p1, f1, H24, law1, len1, mem1, hp1, hc24⟩
  have z24 := hc24.size
  have hB1n : ¬ (b1 = b ∨ p = some b1) := fun h' => h'.elim (fun e => by omega) fun e => by have := h.map.lt b1 e; omega
  have hB3n : ¬ (b3 = b ∨ p = some b3) := fun h' => h'.elim (fun e => by omega) fun e => by have := h.map.lt b3 e; omega
  have hB1' := hc24.at (y21.at hB1) hB1n
  have hB3' := hc24.at (y21.at hB3) hB3n
  have e24 := extDrew w24
  have hwl1 : ∀ k, wl f1 k = if i = k then pl else wl f k := fun k => by
    rw [wl_set law1 k]
    by_cases hk : i = k
    · rw [if_pos hk, if_pos hk]
      cases hd : decide ((0 : Int) < (s22.n : Int)) with
      | true => rfl
      | false =>
        have := of_decide_eq_false hd
        have : pl = [] := List.eq_nil_of_length_eq_zero (by omega)
        rw [this]; rfl
    · rw [if_neg hk, if_neg hk]
  have hEn : ∀ a c, En f1 a c ↔ EnS f i pl a c := fun a c => by unfold En EnS; rw [hwl1]
  have hTC : ∀ {a c}, TC (En f1) a c ↔ TC (EnS f i pl) a c := fun {a c} => ⟨fun h => h.mono fun a c => (hEn a c).1, fun h => h.mono fun a c => (hEn a c).2⟩
  refine ⟨(), rfl, _, by rw [cell_of (e24.at hB1')]; rfl, i, by rw [cell_of (e24.at hB3')]; rfl, i, by rw [cell_of (e24.at hB3')]; rfl, (c88 (H24.ext e24) i).use ?_⟩
  rintro _ w30 ⟨s31, zs, rfl, hzs, hzm, hzl, ho31, e30, hb31⟩
  have x30 : Ext w24 w30 := e24.trans e30
  refine ⟨s31, rfl, by rw [cell_of (x30.at hB3')]; rfl, (c87 ho31.rd hzl i).use ?_⟩
  rintro _ _ ⟨rfl, rfl⟩
  have C30 : Ch (fun j => j = b ∨ p = some j) w w30 := ((x21.mono fun _ _ h => h.elim).trans hc24).then x30 fun _ _ h => h.elim
  refine ⟨_, rfl, IfB.dec (fun hin => ?_) fun hin => ?_⟩
  · have hcyc := hTC.1 ((hzm i).1 hin)
    -- back
    have H30 := H24.ext x30
    have hsome : o.isSome = true → Rd w30 s13 1 (((o.map (·.2)).getD []).map iv) ∧ ((o.map (·.2)).getD []) ≠ [] ∧ ((o.map (·.2)).getD []).length ≤ 1000 ∧ ∀ j ∈ blk s13, j < w30.heap.size ∧ j ≠ b ∧ p1 ≠ some j := fun hs => by
      cases o with
      | none => cases hs
      | some x =>
        have hs13 := hs13 x rfl
        subst hs13
        obtain ⟨r1, r2, r3, r4⟩ := h.rd _ (getM_mem ho)
        refine ⟨r1.ch C30 fun j hj hFj => ?_, r2, r3, fun j hj => ⟨Nat.lt_of_lt_of_le (r4 j hj).1 C30.size, (r4 j hj).2.1, ?_⟩⟩
        · rcases hFj with e | e
          · exact (r4 j hj).2.1 e
          · exact (r4 j hj).2.2 e
        · rcases hp1 with rfl | ⟨r, rfl, hr'⟩
          · exact (r4 j hj).2.2
          · intro e; cases e; have := (r4 j hj).1; omega
    refine (c84 H30 (x30.at hB1') (x30.at hB3') (by omega) (by omega) (t := s13) (x := (o.map (·.2)).getD []) o.isSome hsome (by omega)).use ?_
    rintro _ w36 ⟨rfl, p2, f2, H36, law2, len2, mem2, hp2', hc36⟩
    refine ⟨(), rfl, p2, f2, pl, H36, by omega, C30.then hc36 fun j hj h' => ?_, ?_, hpls, hplm, .inl ⟨hcyc, rfl, fun k => ?_⟩⟩
    · rcases h' with h' | h'
      · exact .inl h'
      · rcases hp1 with rfl | ⟨r, rfl, hr'⟩
        · exact .inr h'
        · cases h'; omega
    · refine foot1 (fun e he => ?_) ?_
      · rcases mem2 e he with ⟨rfl, hs⟩ | he
        · cases o with
          | none => cases hs
          | some x =>
            have hs13 := hs13 x rfl
            subst hs13
            exact .inl (getM_mem ho)
        · rcases mem1 e he with ⟨rfl, _⟩ | he
          · exact .inr fun j hj => by have := hbk j hj; have := x15.size; omega
          · exact .inl he
      · have zz := C30.size
        rcases hp2' with rfl | ⟨r, rfl, hr'⟩
        · rcases hp1 with rfl | ⟨r, rfl, hr'⟩
          · exact .inl rfl
          · exact .inr ⟨r, rfl, by omega⟩
        · exact .inr ⟨r, rfl, by omega⟩
    · rw [wl_set law2 k]
      by_cases hk : i = k
      · subst hk
        rw [if_pos rfl]
        rw [show wl f i = valW (getM f i) from rfl, ho]
        cases o with
        | none => rfl
        | some x => rfl
      · rw [if_neg hk, hwl1, if_neg hk]
  · refine ⟨p1, f1, pl, H24.ext x30, by omega, C30, ?_, hpls, hplm, .inr ⟨fun hc => hin ((hzm i).2 (hTC.2 hc)), rfl, hwl1⟩⟩
    refine foot1 (fun e he => ?_) (hp1.imp id fun ⟨r, e, hr'⟩ => ⟨r, e, by omega⟩)
    rcases mem1 e he with ⟨rfl, _⟩ | he
    · exact .inr fun j hj => by have := hbk j hj; have := x15.size; omega
    · exact .inl he
end Go.Proofs.Ytopecljhehcldaa.Gx
