/- The document's sets of keys (gimmalref04) and conflicts (gimmalref14). -/
import Derived.Test.YtmmhbjbaallkfaaDepA
import Derived.Test.YtmmhbjbaallkfaaGxNR
namespace Go.Proofs.Ytmmhbjbaallkfaa.Gx
open Go
set_option linter.unusedSimpArgs false
set_option linter.unusedVariables false

abbrev st1000 (b : Nat) : Sl := ⟨some ⟨b, 0, none⟩, 1000, 1000⟩
def SetP (w : World) (b : Nat) (Q : Nat → Prop) : Prop := ∃ bs : List Bool, OwS w (st1000 b) 1 (bs.map encB) ∧ bs.length = 1000 ∧ ∀ k, k < 1000 → (bs[k]? = some true ↔ Q k)
theorem SetP.ext {w w' : World} {b : Nat} {Q : Nat → Prop} (h : SetP w b Q) (e : Ext w w') : SetP w' b Q := by
  obtain ⟨bs, h1, h2⟩ := h
  exact ⟨bs, h1.ext e, h2⟩
theorem SetP.ch {F : Nat → Prop} {w w' : World} {b : Nat} {Q : Nat → Prop} (h : SetP w b Q) (hc : Ch F w w') (hF : ¬ F b) : SetP w' b Q := by
  obtain ⟨bs, h1, h2⟩ := h
  exact ⟨bs, h1.ch hc fun j hj => by simp [blk] at hj; rw [hj]; exact hF, h2⟩
theorem SetP.iff {w : World} {b : Nat} {Q Q' : Nat → Prop} (h : SetP w b Q) (hq : ∀ k, k < 1000 → (Q' k ↔ Q k)) : SetP w b Q' := by
  obtain ⟨bs, h1, h2, h3⟩ := h
  exact ⟨bs, h1, h2, fun k hk => (h3 k hk).trans (hq k hk).symm⟩
theorem SetP.get {w : World} {b : Nat} {Q : Nat → Prop} (h : SetP w b Q) {k : Nat} (hk : k < 1000) : ∃ r, w.cell? ⟨b, 0 + k, none⟩ = some (.bool r) ∧ (r = true ↔ Q k) := by
  obtain ⟨bs, h1, h2, h3⟩ := h
  have hx : bs[k]? = some (bs[k]'(by omega)) := List.getElem?_eq_getElem (by omega)
  obtain ⟨b', hp, hc⟩ := h1.elem1 (i := k) (v := encB (bs[k]'(by omega))) (by rw [List.getElem?_map, hx]; rfl)
  cases hp
  refine ⟨bs[k]'(by omega), by rw [Nat.zero_add]; exact hc, ?_⟩
  rw [← h3 k hk, hx]; simp
theorem SetP.put {w : World} {b : Nat} {Q : Nat → Prop} (h : SetP w b Q) {k : Nat} (hk : k < 1000) {K : World → Prop} (hK : ∀ w', SetP w' b (fun k' => Q k' ∨ k' = k) → Ch (fun i => i = b) w w' → K w') : StoreP w b (0 + k) [.bool true] K := by
  obtain ⟨bs, h1, h2, h3⟩ := h
  rw [Nat.zero_add]
  refine h1.store (vs := [.bool true]) rfl (by simp; omega) (by intro v hv; rw [List.mem_singleton.1 hv]; rfl) fun w' ho hC => hK w' ⟨bs.set k true, ?_, by rw [List.length_set]; exact h2, fun k' hk' => ?_⟩ hC
  · have e : (bs.map encB).take k ++ [.bool true] ++ (bs.map encB).drop (k + 1) = (bs.set k true).map encB := by
      rw [List.set_eq_take_append_cons_drop, if_pos (by omega), List.map_append, List.map_cons, List.map_take, List.map_drop]
      simp [encB]
    rw [← e]; exact ho
  · rw [List.getElem?_set]
    by_cases e : k = k'
    · subst e; simp [h2, hk]
    · rw [if_neg e, h3 k' hk']; simp [Ne.symm e]

theorem c35 {w : World} {t : Sl} {xs : List Spn} (h : Rd w t 2 (xs.flatMap sv)) (hl : xs.length ≤ 1000000) :
    CW Try.prog 35 #[slV t] w fun v w' => ∃ b, v = .pointer (some ⟨b, 0, none⟩) ∧ SetP w' b (fun k => hasS xs k) ∧ w.heap.size ≤ b ∧ Ext w w' := by
  have hn := rdN sv_len (by omega) h
  refine F35_ok t w _ fun b1 w2 a2 => ?_
  have e2 : Ext w w2 := a2.ch _
  have p2 := a2.here
  have hS0 : SetP w2 b1 (fun k => hasS (xs.take 0) k) := by
    refine ⟨List.replicate 1000 false, OwS.new (w := w) (T := 72) ?_ (by rw [List.length_map, List.length_replicate]), by rw [List.length_replicate], fun k hk => ?_⟩
    · have : ((List.replicate 1000 false).map encB).toArray = Array.replicate 1000 (Value.bool false) := by rw [List.map_replicate, List.toArray_replicate]; rfl
      rw [this]; exact a2
    · rw [List.getElem?_replicate, if_pos hk]; simp [hasS]
  refine ⟨fun m x W => ∃ i : Nat, i ≤ xs.length ∧ m + i = xs.length ∧ x = (i : Int) ∧ SetP W b1 (fun k => hasS (xs.take i) k) ∧ Ch (fun j => j = b1) w2 W, ⟨xs.length, 0, Nat.zero_le _, rfl, rfl, hS0, Ch.refl _ _⟩, ?_⟩
  rintro m _ W g ⟨i, hi, hmi, rfl, hS, hC⟩
  have E : Ext w W := e2.chN hC fun j e => by omega
  refine ⟨fun _ w12 => w12 = W ∧ i < xs.length, IfB.dec (fun hlt => ⟨rfl, rfl, by omega⟩) fun hge => ?_, ?_⟩
  · have hi' : i = xs.length := by omega
    subst hi'
    rw [List.take_length] at hS
    exact ⟨b1, rfl, hS, by omega, E⟩
  rintro _ _ g ⟨rfl, hi'⟩
  have hx : xs[i]? = some xs[i] := List.getElem?_eq_getElem hi'
  have htk := take_succ_get hx
  generalize xs[i] = s at hx htk
  obtain ⟨a, o, hp, hc⟩ := (h.ext E).elem (i := i) (by omega) (by omega) (flatGet sv_len hx)
  have hb : (0 : Int) ≤ (i : Int) ∧ (i : Int) < (t.n : Int) := ⟨by omega, by omega⟩
  have hi1 : IntKind.i64.wrap ((i : Int) + 1) = ((i + 1 : Nat) : Int) := by rw [wrap_of (by omega) (by omega)]; rfl
  have skip : (s.1 < 0 ∨ 999 < s.2) → SetP _ b1 (fun k => hasS (xs.take (i + 1)) k) := fun hs => hS.iff fun k hk => by
    rw [htk, hasS_append, hasS_one]
    unfold mayS
    constructor
    · rintro (h | h)
      · exact h
      · omega
    · exact .inl
  unfold F35j2
  refine ⟨a, o, hp, hb, s.1, by rw [Int.toNat_natCast]; exact hc.fst, IfB.dec (fun h1 => ⟨rfl, m - 1, by omega, i + 1, hi', by omega, hi1, skip (.inl h1), hC⟩) fun h1 => ⟨a, o, hp, hb, s.2, by rw [Int.toNat_natCast]; exact hc.snd, IfB.dec (fun h2 => ⟨rfl, m - 1, by omega, i + 1, hi', by omega, hi1, skip (.inr h2), hC⟩) fun h2 => ?_⟩⟩
  refine ⟨a, o, hp, hb, s.1, by rw [Int.toNat_natCast]; exact hc.fst, fun n x W' => (s.1 ≤ x ∧ (x ≤ s.2 + 1 ∨ x = s.1)) ∧ n = (s.2 + 1 - x).toNat ∧ SetP W' b1 (fun k => hasS (xs.take i) k ∨ (s.1 ≤ (k : Int) ∧ (k : Int) < x)) ∧ Ch (fun j => j = b1) w2 W',
    ⟨_, ⟨by omega, .inr rfl⟩, rfl, hS.iff fun k hk => ⟨fun h => h.elim id fun h => by omega, .inl⟩, hC⟩, ?_⟩
  rintro n x W' g ⟨⟨hx1, hx2⟩, rfl, hS', hC'⟩
  have E' : Ext w W' := e2.chN hC' fun j e => by omega
  obtain ⟨a', o', hp', hc'⟩ := (h.ext E').elem (i := i) (by omega) (by omega) (flatGet sv_len hx)
  unfold F35j3
  refine ⟨a', o', hp', hb, s.2, by rw [Int.toNat_natCast]; exact hc'.snd, IfB.dec (fun h3 => ⟨⟨by omega, by omega⟩, rfl, hS'.put (k := x.toNat) (by omega) fun w3 hS3 hC3 => ⟨rfl, (s.2 + 1 - (x + 1)).toNat, by omega, ?_, ?_, ?_, hC'.trans hC3⟩⟩) fun h3 => ⟨rfl, m - 1, by omega, i + 1, hi', by omega, hi1, ?_, hC'⟩⟩
  · rw [wrap_of (by omega) (by omega)]; omega
  · rw [wrap_of (by omega) (by omega)]
  · rw [wrap_of (by omega) (by omega)]
    exact hS3.iff fun k hk => by
      rw [or_assoc]
      exact or_congr Iff.rfl (by omega)
  · refine hS'.iff fun k hk => ?_
    rw [htk, hasS_append, hasS_one]
    refine or_congr Iff.rfl ?_
    unfold mayS; omega

set_option maxRecDepth 20000 in
theorem c36 {w : World} {b1 b2 : Nat} {Q1 Q2 : Nat → Prop} (h1 : SetP w b1 Q1) (h2 : SetP w b2 Q2) :
    CW Try.prog 36 #[.pointer (some ⟨b1, 0, none⟩), .pointer (some ⟨b2, 0, none⟩)] w fun v w' => ∃ r, v = .bool r ∧ (r = true ↔ ∃ k, k < 1000 ∧ Q1 k ∧ Q2 k) ∧ w = w' := by
  refine F36_ok _ _ w _ ?_
  unfold F36
  refine ⟨fun m x W => ∃ i : Nat, i ≤ 1000 ∧ m + i = 1000 ∧ x = (i : Int) ∧ w = W ∧ ∀ k, k < i → ¬ (Q1 k ∧ Q2 k), ?_, ?_⟩
  · exact ⟨1000, 0, by omega, by omega, by omega, Eq.refl w, fun k hk => by omega⟩
  rintro m _ _ g ⟨i, hi, hmi, rfl, rfl, hno⟩
  unfold F36j1
  refine IfB.dec (fun hlt => ?_) fun hge => ⟨false, rfl, ⟨fun h => (by cases h), fun ⟨k, hk, hq⟩ => absurd hq (hno k (by omega))⟩, rfl⟩
  have hi' : i < 1000 := by omega
  obtain ⟨r1, c1, hr1⟩ := h1.get hi'
  obtain ⟨r2, c2, hr2⟩ := h2.get hi'
  have hb : (0 : Int) ≤ (i : Int) ∧ (i : Int) < ((1000 : Nat) : Int) := ⟨by omega, by omega⟩
  refine ⟨fun r W => w = W ∧ (r = true ↔ Q1 i ∧ Q2 i), ⟨b1, 0, rfl, hb, r1, by rw [Int.toNat_natCast]; exact c1, IfB.intro (fun h => ⟨b2, 0, rfl, hb, r2, by rw [Int.toNat_natCast]; exact c2, rfl, rfl, by rw [hr2]; exact ⟨fun h' => ⟨hr1.1 h, h'⟩, fun h' => h'.2⟩⟩) fun h => ⟨rfl, rfl, ⟨fun h' => (by cases h'), fun h' => by rw [hr1.2 h'.1] at h; cases h⟩⟩⟩, ?_⟩
  rintro r _ g ⟨rfl, hr⟩
  refine IfB.intro (fun h => ⟨true, rfl, ⟨fun _ => ⟨i, hi', hr.1 h⟩, fun _ => rfl⟩, rfl⟩) fun h => ⟨rfl, m - 1, by omega, i + 1, hi', by omega, by rw [wrap_of (by omega) (by omega)]; rfl, rfl, fun k hk hq => ?_⟩
  by_cases e : k = i
  · subst e; rw [hr.2 hq] at h; cases h
  · exact hno k (by omega) hq

theorem mtP_nat {xs ys : List Spn} : mtP xs ys ↔ ∃ k : Nat, k < 1000 ∧ hasS xs k ∧ hasS ys k := by
  constructor
  · rintro ⟨k, ⟨x, hx, hm, h1, h2⟩, h⟩
    have hk : 0 ≤ k ∧ k ≤ 999 := by unfold mayS at hm; omega
    obtain ⟨n, rfl⟩ : ∃ n : Nat, k = (n : Int) := ⟨k.toNat, by omega⟩
    exact ⟨n, by omega, ⟨x, hx, hm, h1, h2⟩, h⟩
  · rintro ⟨k, _, h⟩; exact ⟨k, h⟩

theorem c12 {w : World} {a b : Nd} (ha : NdOk w a) (hb : NdOk w b) :
    CW Try.prog 12 #[ndV a.v, ndV b.v] w fun v w' => ∃ r, v = .bool r ∧ (r = true ↔ cnfP a b) ∧ Ext w w' := by
  refine F12_ok a.v b.v w _ fun b1 w2 h2 b3 w4 h4 => ?_
  have e4 : Ext w w4 := (h2.ch _).trans (h4.ch _)
  have H1 := h4.at h2.new
  have H3 := h4.new
  have q1 : ∀ {W : World} (o : Nat), Ext w4 W → W.cell? ⟨b1, 0 + o, none⟩ = (nC a.v)[o]? := fun o e => by rw [cell_of (e.at H1), Nat.zero_add]; exact List.getElem?_toArray ..
  have q3 : ∀ {W : World} (o : Nat), Ext w4 W → W.cell? ⟨b3, 0 + o, none⟩ = (nC b.v)[o]? := fun o e => by rw [cell_of (e.at H3), Nat.zero_add]; exact List.getElem?_toArray ..
  refine ⟨_, q1 0 (Ch.refl _ _), _, q3 0 (Ch.refl _ _), IfB.intro (fun he => ?_) fun hne => ?_⟩
  · have he : a.v.1 = b.v.1 := by simpa using he
    exact ⟨false, rfl, ⟨fun h => (by cases h), fun h => absurd he h.1⟩, e4⟩
  · have hne : a.v.1 ≠ b.v.1 := by simpa using hne
    have ed := extDrew w4
    refine ⟨_, q1 4 ed, _, q1 5 ed, _, q3 4 ed, _, q3 5 ed, (c35 (ha.rs.ext (e4.trans ed)) ha.rl).use ?_⟩
    rintro _ w12 ⟨pa, rfl, sa, _, e12⟩
    have f12 : Ext w4 w12 := ed.trans e12
    refine ⟨_, rfl, q3 5 f12, q3 4 f12, q1 5 f12, (c35 (ha.ws.ext (e4.trans f12)) ha.wl).use ?_⟩
    rintro _ w15 ⟨pb, rfl, sb, _, e15⟩
    have f15 := f12.trans e15
    refine ⟨_, rfl, q3 5 f15, q3 4 f15, (c35 (hb.rs.ext (e4.trans f15)) hb.rl).use ?_⟩
    rintro _ w18 ⟨pc, rfl, sc, _, e18⟩
    have f18 := f15.trans e18
    refine ⟨_, rfl, q3 5 f18, (c35 (hb.ws.ext (e4.trans f18)) hb.wl).use ?_⟩
    rintro _ w21 ⟨pd, rfl, sd, _, e21⟩
    have f21 := e4.trans (f18.trans e21)
    have sa := ((sa.ext e15).ext e18).ext e21
    have sb := (sb.ext e18).ext e21
    have sc := sc.ext e21
    refine ⟨_, rfl, (c36 sb sc).use ?_⟩
    rintro _ _ ⟨r1, rfl, hr1, rfl⟩
    rw [← mtP_nat] at hr1
    refine ⟨r1, rfl, IfB.intro (fun h => ⟨true, rfl, ⟨fun _ => ⟨hne, .inl (hr1.1 h)⟩, fun _ => rfl⟩, f21⟩) fun n1 => (c36 sb sd).use ?_⟩
    rintro _ _ ⟨r2, rfl, hr2, rfl⟩
    rw [← mtP_nat] at hr2
    refine ⟨r2, rfl, IfB.intro (fun h => ⟨true, rfl, ⟨fun _ => ⟨hne, .inr (.inl (hr2.1 h))⟩, fun _ => rfl⟩, f21⟩) fun n2 => (c36 sa sd).use ?_⟩
    rintro _ _ ⟨r3, rfl, hr3, rfl⟩
    rw [← mtP_nat] at hr3
    refine ⟨r3, rfl, r3, rfl, ?_, f21⟩
    rw [hr3]
    refine ⟨fun h => ⟨hne, .inr (.inr h)⟩, fun h => ?_⟩
    rcases h.2 with h | h | h
    · rw [hr1.2 h] at n1; cases n1
    · rw [hr2.2 h] at n2; cases n2
    · exact h
end Go.Proofs.Ytmmhbjbaallkfaa.Gx
